/- A step of the evaluator is one of the machine's: all of them. -/
import Derived.Test.YtigfgicjjhepoaaGreatDoorVv
set_option linter.unusedVariables false
set_option linter.unusedSimpArgs false
namespace Go.Proofs.YtigfgicjjhepoaaGreatDoor.VA
open Go Go.RowKit
section
variable {ng base nt : Nat} {w0 : World} {Ext : Nat → Prop} {D : List Deferred} {ρ : Key → Option Nat} {st : St} {a : Act} {w w' : World} {H : Heap} {pol : Pol} {P : Program}

theorem freeze_nil (H : Heap) : H.freeze [] = H := by
  unfold Heap.freeze
  congr 1
  funext k
  cases H.blk k with
  | none => rfl
  | some x => cases x <;> simp

/-- The machine's call of a function's value. -/
theorem run_call {o : Oper} {g : Operand} {args : Array Operand} {ats : Array TypeId} {ρm : Operand → Value} (ho : o.op = .call { callee := .value g, args := args, argTypes := ats }) {f : FuncId} {x y : Array Value} (hg : ρm g = .func (.func f) x y) :
    (execOp ρm o).run P w = (callFunc f (x ++ args.map ρm ++ y)).run P w := by
  simp only [execOp, ho, resolve, hg, Deferred.ofValue, Sem.run_bind, Sem.run_pure, Result.andThen_ok, invoke]

theorem callee_rep {f : Operand → PV} {g : Operand → Value} {M : Nat → Prop} (hv : ∀ y, Rep w ρ M (f y) (g y)) {op : Op} {fid : FuncId} {as : List PV} (h : callee op f = some (fid, as)) :
    ∃ g0 args ats x y, op = .call { callee := .value g0, args := args, argTypes := ats } ∧ g g0 = .func (.func fid) x y ∧ Reps w ρ M as (x ++ args.map g ++ y).toList := by
  cases op with
  | call k =>
    obtain ⟨cal, args, ats⟩ := k
    cases cal with
    | value g0 =>
      simp only [callee] at h
      have hg := hv g0
      split at h
      · rename_i f' first cap hf
        simp only [Option.some.injEq, Prod.mk.injEq] at h
        obtain ⟨rfl, rfl⟩ := h
        rw [hf] at hg
        generalize hgv : g g0 = u at hg
        cases hg with
        | fn _ _ _ x y hx hy h1 h2 =>
          refine ⟨g0, args, ats, x, y, rfl, hgv, ?_⟩
          have r1 : Reps w ρ M first x.toList := ⟨by simpa using hx, fun i c v hc hv => h1 i c v hc (by simpa using hv)⟩
          have r2 : Reps w ρ M cap y.toList := ⟨by simpa using hy, fun i c v hc hv => h2 i c v hc (by simpa using hv)⟩
          have := (r1.append (arr_rep hv args)).append r2
          simpa using this
      · cases h
    | builtin b => simp [callee] at h
    | invoke r n => simp [callee] at h
  | _ => simp [callee] at h

theorem mut_freeze (h : HRel ng base Ext ρ H w) (ks : List Key) : ∀ b, Mut Ext ρ (H.freeze ks) b → Mut Ext ρ H b := fun b hm =>
  (h.freeze ks).2.1.muts b (mut_ng (h.freeze ks).1 hm).1 hm

/-- A call that freezes. -/
theorem stepC_ok {c : Ctx} {O : Orc} (hO : OrcOk c.P c.pol O) (hG : GOk c.pol ng w) (h : HRel ng base Ext ρ H w) {f : FuncId} {as : List PV} {vs : Array Value} {r : PV} {ks : List Key} (hs : stepC c O f as H = some (r, ks)) (hr : Reps w ρ (Mut Ext ρ H) as vs.toList) :
    Does c.P f vs w (fun v w' => Stepd ng base Ext ρ H w w' ρ (H.freeze ks) ∧ Rep w' ρ (Mut Ext ρ (H.freeze ks)) r v) := by
  unfold stepC at hs
  split at hs
  · cases hs
  rename_i as' ks0 hd
  split at hs
  · cases hs
  simp only [Option.map_eq_some_iff, Prod.mk.injEq] at hs
  obtain ⟨r0, hp, rfl, rfl⟩ := hs
  have hfz := h.freeze ks0
  have hkey : ∀ k b, k ∈ ks0 → ρ k = some b → ¬ Mut Ext ρ (H.freeze ks0) b := fun k b hk hb => hfz.2.2 k b hk hb (Option.ne_none_iff_exists'.1 ((dr_keys 12).2 _ _ _ hd k hk))
  have hrep := (dr_ok (ρ' := fun _ => none) h.rows (mut_freeze h ks0) 12).2 as as' ks0 vs.toList hd hkey hr
  have hD := hO.pure f as' r0 hp ng w (Mut Ext ρ (H.freeze ks0)) vs hG (Nat.le_trans h.ngb h.size) (fun b hm => mut_ng hfz.1 hm) hrep
  have fin : ∀ v w', (Below w.heap.size w w' ∧ Rep w' (fun _ => none) (Mut Ext ρ (H.freeze ks0)) r0 v) →
      Stepd ng base Ext ρ H w w' ρ (H.freeze (if r0.flat then [] else ks0)) ∧ Rep w' ρ (Mut Ext ρ (H.freeze (if r0.flat then [] else ks0))) r0 v := by
    rintro v w' ⟨hB, hv⟩
    by_cases hfl : r0.flat = true
    · simp only [hfl, if_true, freeze_nil]
      exact ⟨⟨hB.mono h.size, h.below hB, evo_below h hB _⟩, hv.flat hfl⟩
    · simp only [hfl, if_false, Bool.false_eq_true]
      refine ⟨⟨hB.mono h.size, hfz.1.below hB, hfz.2.1.trans (evo_below hfz.1 hB _)⟩, ?_⟩
      exact hv.evo ⟨fun _ _ h => (by cases h), fun _ _ h _ => h, fun _ _ h => h, fun _ _ h => h, Nat.le_refl _, fun _ _ h => h⟩
  rcases hD with ⟨fn, cd, h1, h2, h3, h4⟩ | ⟨v, w', h1, h2⟩
  · exact .inl ⟨fn, cd, h1, h2, h3, fun cs => let ⟨e, w', fr, ⟨v, he, hR⟩, s, x⟩ := h4 cs; ⟨e, w', fr, ⟨v, he, fin v w' hR⟩, s, x⟩⟩
  · exact .inr ⟨v, w', h1, fin v w' h2⟩

/-- What an operation may turn a state into. -/
structure Went (ng base nt : Nat) (w0 : World) (Ext : Nat → Prop) (D : List Deferred) (ρ : Key → Option Nat) (H : Heap) (w : World) (st' : St) (a' : Act) (w' : World) : Prop where
  rel : ∃ ρ', Rel ng base nt w0 Ext D ρ' st' a' w' ∧ Evo w ρ (Mut Ext ρ H) w' ρ' (Mut Ext ρ' st'.hp)

theorem went (h : Rel ng base nt w0 Ext D ρ st a w) {d : Option Nat} (hd : ∀ i, d = some i → i < nt) {ρ' : Key → Option Nat} {H' : Heap} (hs : Stepd ng base Ext ρ st.hp w w' ρ' H') {x : PV} {v : Value} (hx : Rep w' ρ' (Mut Ext ρ' H') x v) :
    Went ng base nt w0 Ext D ρ st.hp w { tm := (st.put d x).tm, hp := H' } (a.put d v) w' := by
  have h0 : Rel ng base nt w0 Ext D ρ' { tm := st.tm, hp := H' } a w' := ⟨fun i => (h.tmps i).evo hs.evo, h.size, h.defers, h.below.trans hs.below, hs.heap⟩
  have h1 := h0.put d hd hx
  refine ⟨ρ', ?_, hs.evo⟩
  have e : St.put { tm := st.tm, hp := H' } d x = { tm := (st.put d x).tm, hp := H' } := by cases d <;> rfl
  rw [e] at h1
  exact h1

theorem opMaps (h : HRel ng base Ext ρ H w) : ∀ k d es b, H.blk k = some (.map d es) → ρ k = some b → BlkRel w ρ (Mut Ext ρ H) b (.map d es) := by
  intro k d es b hk hb
  rcases h.blk k _ hk with ⟨sz', fz', h0, hn⟩ | ⟨b', hb', hr⟩
  · cases h0
  · rw [hb'] at hb; cases hb; exact hr

theorem rep_unit {M : Nat → Prop} : Rep w ρ M (.tup []) undef := .tup [] #[] rfl (fun i c v h => by simp at h)

theorem evOp_ok {c : Ctx} {O : Orc} (hP : POk c.P c.pol) (hO : OrcOk c.P c.pol O) (hG : GOk c.pol ng w0) (h : Rel ng base nt w0 Ext D ρ st a w) {draw : Bool} {o : Oper} (hd : ∀ i, o.dst = some i → i < nt) {st' : St}
    (hs : evOp c O draw o st = some st') {ro : Option Nat} {n : Nat} {next : Act → World → Prop} {Q : Exit → Act → World → Prop} (hn : ∀ a' w', Went ng base nt w0 Ext D ρ st.hp w st' a' w' → next a' w') :
    o.wpIn (Fr ro) n c.P a w next Q := by
  have hv := h.eval hG
  have hGw : GOk c.pol ng w := hG.below h.heap.ngb h.below
  refine ⟨fun f _ => trivial, ?_⟩
  have valued : ∀ {v : Value} {w' : World} {ρ' : Key → Option Nat} {H' : Heap} {x : PV}, (execOp a.eval o).run c.P w = .ok (.value v) w' → (∀ q, o.op ≠ .defer q) → Stepd ng base Ext ρ st.hp w w' ρ' H' → Rep w' ρ' (Mut Ext ρ' H') x v →
      st' = { tm := (st.put o.dst x).tm, hp := H' } → o.uponIn (Fr ro) n c.P a next Q ((o.semAt (Fr ro).round a.eval).run c.P w) := by
    intro v w' ρ' H' x hrun hdf hS hx he
    rw [Oper.semAt_eq _ _ _ hdf, hrun, Oper.uponIn_value]
    rw [he] at hn
    exact hn _ _ (went h hd hS hx)
  have skipped : ∀ {w' : World} {ρ' : Key → Option Nat} {H' : Heap}, (execOp a.eval o).run c.P w = .ok .skip w' → (∀ q, o.op ≠ .defer q) → Stepd ng base Ext ρ st.hp w w' ρ' H' →
      st' = { tm := (st.put o.dst (.tup [])).tm, hp := H' } → o.uponIn (Fr ro) n c.P a next Q ((o.semAt (Fr ro).round a.eval).run c.P w) := by
    intro w' ρ' H' hrun hdf hS he
    rw [Oper.semAt_eq _ _ _ hdf, hrun, Oper.uponIn_skip]
    rw [he] at hn
    exact hn _ _ (went h hd hS rep_unit)
  have called : ∀ {f : FuncId} {vs : Array Value} {R : Value → World → Prop} {H' : Heap} {x : PV}, (execOp a.eval o).run c.P w = (callFunc f vs).run c.P w → (∀ q, o.op ≠ .defer q) → Does c.P f vs w (fun v w' => ∃ ρ', Stepd ng base Ext ρ st.hp w w' ρ' H' ∧ Rep w' ρ' (Mut Ext ρ' H') x v) →
      st' = { tm := (st.put o.dst x).tm, hp := H' } → o.uponIn (Fr ro) n c.P a next Q ((o.semAt (Fr ro).round a.eval).run c.P w) := by
    intro f vs R H' x hrun hdf hD he
    rw [Oper.semAt_eq _ _ _ hdf, hrun]
    rw [he] at hn
    exact upon_does hD (fun v w' ⟨ρ', hS, hx⟩ => hn _ _ (went h hd hS hx))
  have valV : ∀ {x : PV}, stepV c o.op (opv c.pol.glob st.tm) st.hp = some x → (∀ q, o.op ≠ .defer q) → st' = { tm := (st.put o.dst x).tm, hp := st.hp } → o.uponIn (Fr ro) n c.P a next Q ((o.semAt (Fr ro).round a.eval).run c.P w) := by
    intro x hx hdf he
    obtain ⟨v, w', hrun, hB, hr⟩ := stepV_ok hP h.heap.rows (opMaps h.heap) (fun b hm => (mut_ng h.heap hm).1) hv hx
    exact valued hrun hdf ⟨hB.mono h.heap.size, h.heap.below hB, evo_below h.heap hB _⟩ hr he
  have callC : ∀ {f : FuncId} {as : List PV} {r : PV} {ks : List Key}, callee o.op (opv c.pol.glob st.tm) = some (f, as) → stepC c O f as st.hp = some (r, ks) → st' = { tm := (st.put o.dst r).tm, hp := st.hp.freeze ks } →
      o.uponIn (Fr ro) n c.P a next Q ((o.semAt (Fr ro).round a.eval).run c.P w) := by
    intro f as r ks hc hsc he
    obtain ⟨g0, args, ats, x, y, ho, hg, hR⟩ := callee_rep hv hc
    refine called (R := fun _ _ => True) (run_call ho hg) (fun q e => by rw [ho] at e; cases e) ?_ he
    rcases stepC_ok hO hGw h.heap hsc hR with ⟨fn, cd, h1, h2, h3, h4⟩ | ⟨v, w', h1, h2⟩
    · exact .inl ⟨fn, cd, h1, h2, h3, fun cs => let ⟨e, w', fr, ⟨v, he, hR⟩, s, x⟩ := h4 cs; ⟨e, w', fr, ⟨v, he, ρ, hR⟩, s, x⟩⟩
    · exact .inr ⟨v, w', h1, ρ, h2⟩
  have callI : ∀ {f : FuncId} {as : List PV} {r : PV} {H' : Heap} {path : List Nat}, callee o.op (opv c.pol.glob st.tm) = some (f, as) → O.inl path f as st.hp = some (r, H') → st' = { tm := (st.put o.dst r).tm, hp := H' } →
      o.uponIn (Fr ro) n c.P a next Q ((o.semAt (Fr ro).round a.eval).run c.P w) := by
    intro f as r H' path hc hsc he
    obtain ⟨g0, args, ats, x, y, ho, hg, hR⟩ := callee_rep hv hc
    exact called (R := fun _ _ => True) (run_call ho hg) (fun q e => by rw [ho] at e; cases e) (hO.inl path f as st.hp r H' hsc ng base Ext ρ w _ hGw h.heap hR) he
  unfold evOp at hs
  split at hs
  · -- a writing one
    simp only [Option.map_eq_some_iff] at hs
    obtain ⟨⟨x, H'⟩, hs, rfl⟩ := hs
    obtain ⟨dst, op, ty, pos, after, guard⟩ := o
    dsimp only at *
    cases op with
    | store t p q =>
      simp only [stepW, Option.map_eq_some_iff, Prod.mk.injEq] at hs
      obtain ⟨H1, h1, rfl, rfl⟩ := hs
      obtain ⟨w', hr, hS⟩ := storeV_ok h.heap (hv p) (hv q) h1
      exact skipped (by simp only [execOp, Sem.run_bind, hr, Result.andThen_ok, Sem.run_pure]) (fun q e => by cases e) hS rfl
    | mapUpdate t m i q =>
      simp only [stepW] at hs
      split at hs
      rotate_left
      · cases hs
      rename_i d e k hk hm
      split at hs
      rotate_left
      · cases hs
      rename_i d' es hbk
      split at hs
      rotate_left
      · cases hs
      rename_i hc
      obtain ⟨rfl, hik⟩ := hc
      simp only [Option.some.injEq, Prod.mk.injEq] at hs
      obtain ⟨rfl, rfl⟩ := hs
      obtain ⟨w', hr, hS⟩ := map_ok h.heap hk hbk hik (hm ▸ hv m) (hv i) (hv q)
      exact skipped (by simp only [execOp, Sem.run_bind, hr, Result.andThen_ok, Sem.run_pure]) (fun q e => by cases e) hS rfl
    | next it s =>
      cases s with
      | false => simp [stepW] at hs
      | true =>
        simp only [stepW] at hs
        split at hs
        rotate_left
        · cases hs
        rename_i k hit
        split at hs
        rotate_left
        · cases hs
        rename_i s pos' hbk
        obtain ⟨v, w', hr, hS⟩ := next_ok (c := c) (ty := ty) h.heap hbk (hit ▸ hv it)
        have hrun : (execOp a.eval ⟨dst, .next it true, ty, pos, after, guard⟩).run c.P w = .ok (.value v) w' := by simp only [execOp]; exact run_v hr
        split at hs
        · rename_i hp
          simp only [Option.some.injEq, Prod.mk.injEq] at hs
          obtain ⟨rfl, rfl⟩ := hs
          simp only [if_pos hp] at hS
          obtain ⟨hS, rfl⟩ := hS
          refine valued hrun (fun q e => by cases e) hS ?_ rfl
          have := Reps.cons (Rep.bool (w := w') (ρ := ρ) (M := Mut Ext ρ (st.hp.set k (.iter s (pos' + (Utf8.decode s pos').2)))) true) (Reps.cons (Rep.int .i64 (pos' : Int)) (Reps.cons (Rep.int .i32 (Utf8.decode s pos').1) Reps.nil))
          exact .tup _ _ rfl (fun i c v hc hv => this.2 i c v hc (by simpa using hv))
        · rename_i hp
          simp only [Option.some.injEq, Prod.mk.injEq] at hs
          obtain ⟨rfl, rfl⟩ := hs
          simp only [if_neg hp] at hS
          obtain ⟨rfl, rfl⟩ := hS
          refine valued hrun (fun q e => by cases e) (Stepd.refl h.heap) ?_ rfl
          have := Reps.cons (Rep.bool (w := w') (ρ := ρ) (M := Mut Ext ρ st.hp) false) Reps.nil
          exact .tup _ _ rfl (fun i c v hc hv => this.2 i c v hc (by simpa using hv))
    | call k =>
      obtain ⟨cal, args, ats⟩ := k
      cases cal with
      | builtin b =>
        cases b with
        | append =>
          simp only [stepW] at hs
          split at hs
          rotate_left
          · cases hs
          rename_i s y t tx d ha ht
          obtain ⟨args⟩ := args
          obtain ⟨ats⟩ := ats
          simp only at ha ht
          subst ha ht
          obtain ⟨v, w', ρ', hr, hS, hx⟩ := append_ok (ty := ty) hP h.heap (hv s) (hv y) hs
          refine valued (?_ : (execOp a.eval _).run c.P w = .ok (.value v) w') (fun q e => by cases e) hS hx rfl
          simp only [execOp, resolve, Sem.run_bind, Sem.run_pure, Result.andThen_ok, invoke, builtin, List.map_toArray, List.map_cons, List.map_nil]
          rw [hr]
          rfl
        | _ => simp [stepW] at hs
      | value g =>
        have key : ∀ (path : List Nat), (match opv c.pol.glob st.tm g with
            | .fn f first cap => match c.pol.mode f with
              | .inl => O.inl path f (first ++ args.toList.map (opv c.pol.glob st.tm) ++ cap) st.hp
              | _ => match stepC c O f (first ++ args.toList.map (opv c.pol.glob st.tm) ++ cap) st.hp with
                | some (r, ks) => some (r, st.hp.freeze ks)
                | none => none
            | _ => none) = some (x, H') → Oper.uponIn (Fr ro) n c.P ⟨dst, .call ⟨.value g, args, ats⟩, ty, pos, after, guard⟩ a next Q ((Oper.semAt (Fr ro).round a.eval ⟨dst, .call ⟨.value g, args, ats⟩, ty, pos, after, guard⟩).run c.P w) := by
          intro path hs
          split at hs
          rotate_left
          · cases hs
          rename_i f first cap hg
          have hc : callee (.call ⟨.value g, args, ats⟩) (opv c.pol.glob st.tm) = some (f, first ++ args.toList.map (opv c.pol.glob st.tm) ++ cap) := by simp only [callee, hg]
          split at hs
          · exact callI hc hs rfl
          · split at hs
            · rename_i r ks hsc
              simp only [Option.some.injEq, Prod.mk.injEq] at hs
              obtain ⟨rfl, rfl⟩ := hs
              exact callC hc hsc rfl
            · cases hs
        cases g with
        | func f =>
          have hc : callee (.call ⟨.value (.func f), args, ats⟩) (opv c.pol.glob st.tm) = some (f, args.toList.map (opv c.pol.glob st.tm)) := by simp [callee, opv]
          simp only [stepW] at hs
          split at hs
          · exact callI hc hs rfl
          · exact callI hc hs rfl
        | _ => exact key _ hs
      | invoke r m => simp [stepW] at hs
    | _ => simp [stepW] at hs
  · -- the others
    rename_i hcl
    simp only [Option.map_eq_some_iff] at hs
    obtain ⟨⟨x, e⟩, hs, rfl⟩ := hs
    unfold evEff at hs
    split at hs
    · rename_i hc
      simp only [Option.map_eq_some_iff, Prod.mk.injEq] at hs
      obtain ⟨y, hy, rfl, rfl⟩ := hs
      exact valV hy (fun q e => by rw [e] at hc; simp [clsOf] at hc) rfl
    · rename_i hc
      simp only [Option.map_eq_some_iff, Prod.mk.injEq] at hs
      obtain ⟨y, hy, rfl, rfl⟩ := hs
      exact valV hy (fun q e => by rw [e] at hc; simp [clsOf] at hc) rfl
    · rename_i hc
      split at hs
      · rename_i d hdst
        simp only [Option.map_eq_some_iff, Prod.mk.injEq] at hs
        obtain ⟨⟨b, mk⟩, hy, rfl, rfl⟩ := hs
        obtain ⟨v, w', hrun, hL⟩ := stepN_ok hP h.heap hv hy c.path d
        exact valued hrun (fun q e => by rw [e] at hc; simp [clsOf] at hc) ⟨hL.below.mono h.heap.size, hL.heap, hL.evo⟩ hL.rep rfl
      · cases hs
    · rename_i hc
      split at hs
      · rename_i f as hca
        simp only [Option.map_eq_some_iff, Prod.mk.injEq] at hs
        obtain ⟨⟨r, ks⟩, hy, rfl, rfl⟩ := hs
        exact callC hca hy rfl
      · cases hs
    · cases hs
end
end Go.Proofs.YtigfgicjjhepoaaGreatDoor.VA

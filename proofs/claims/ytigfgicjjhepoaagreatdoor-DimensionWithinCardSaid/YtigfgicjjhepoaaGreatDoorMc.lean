/- Parts of the proof: Wa, Wb, Wc, Wd, We, Wf -/
import Derived.Test.YtigfgicjjhepoaaGreatDoorMb
import Derived.Lib.Bytealg
import Derived.Shelf.Abstract
import Derived.Shelf.SlIterI.Nil
set_option linter.unusedVariables false
set_option linter.unusedSimpArgs false
namespace Go.Proofs.YtigfgicjjhepoaaGreatDoor.VA
open Go Go.RowKit

/-- The check of a function's code. -/
def codeOk (pol : Pol) (f : FuncId) (nt : Nat) : Code → Bool
  | .region id ops draw => ops.all (fun o => match o.dst with
      | some d => Nat.blt d nt
      | none => true) && (!draw || regionOk pol ops (pol.reps f id))
  | .seq a b => codeOk pol f nt a && codeOk pol f nt b
  | .cond _ a b => codeOk pol f nt a && codeOk pol f nt b
  | .block _ a => codeOk pol f nt a
  | .loop a => codeOk pol f nt a
  | _ => true

structure COk (P : Program) (pol : Pol) : Prop where
  code : ∀ (f : FuncId) (fn : Func) (body : Code), pol.use f = true → P.funcs[f]? = some fn → fn.body = some body → codeOk pol f fn.ntmps body = true
  name : ∀ (f : FuncId) (fn : Func) (body : Code), pol.use f = true → P.funcs[f]? = some fn → fn.body = some body → (fn.name == "runtime.NumGoroutine") = false

section
variable {ng base nt : Nat} {w0 : World} {Ext : Nat → Prop} {D : List Deferred} {ρ : Key → Option Nat} {st : St} {a : Act} {w w' : World} {H : Heap} {c : Ctx} {O : Orc}

def exOf : Ex → Exit
  | .normal => .normal
  | .exit id => .exit id
  | .ret => .ret

theorem plain_step {c : Ctx} {O : Orc} {ops : Array Oper} (hp : ops.toList.all (plainOp c.pol) = true) {i : Nat} {st st' : St} (h : evStep c O true ops i st = some st') :
    (∀ d, d ∉ ops.toList.filterMap (·.dst) → st'.tm d = st.tm d) ∧ (∀ k, k ∉ touch c ops i st → st'.hp.blk k = st.hp.blk k) ∧ st'.hp.cnt = st.hp.cnt := by
  unfold evStep at h
  split at h
  · cases h
  rename_i o ho
  have hmem : o ∈ ops.toList := by
    have := Array.mem_of_getElem? ho
    exact Array.mem_toList_iff.2 this
  have hpo := List.all_eq_true.1 hp o hmem
  have hput : ∀ (x : PV) (d : Nat), d ∉ ops.toList.filterMap (·.dst) → (st.put o.dst x).tm d = st.tm d := fun x d hd => by
    cases hdst : o.dst with
    | none => rfl
    | some e =>
      have hne : d ≠ e := fun q => hd (List.mem_filterMap.2 ⟨o, hmem, by rw [hdst, q]⟩)
      simp only [St.put, if_neg hne]
  split at h
  · cases h
  · -- evOp
    unfold evOp at h
    split at h
    · rename_i hc
      simp only [Option.map_eq_some_iff] at h
      obtain ⟨⟨x, H'⟩, h, rfl⟩ := h
      refine ⟨hput x, ?_⟩
      unfold plainOp at hpo
      split at hpo
      · rename_i e; rw [hc] at e; cases e
      · rename_i e; rw [hc] at e; cases e
      · rename_i t a v e
        rw [e] at h
        simp only [stepW, Option.map_eq_some_iff, Prod.mk.injEq] at h
        obtain ⟨H1, h1, rfl, rfl⟩ := h
        unfold storeV at h1
        split at h1
        · rename_i k sz i' j hptr
          split at h1
          · split at h1
            · split at h1
              · split at h1
                · simp only [Option.some.injEq] at h1
                  subst h1
                  refine ⟨fun k' hk' => ?_, rfl⟩
                  have hne : k' ≠ k := fun q => hk' (by simp [touch, ho, e, hptr, q])
                  simp only [Heap.set, if_neg hne]
                · cases h1
              · cases h1
            · cases h1
          · cases h1
        · cases h1
      · cases hpo
    · rename_i hc
      simp only [Option.map_eq_some_iff] at h
      obtain ⟨⟨x, e⟩, h, rfl⟩ := h
      refine ⟨hput x, ?_⟩
      have hkeep : e = .keep := by
        unfold plainOp at hpo
        unfold evEff at h
        split at hpo
        · rename_i e'
          simp only [e', Option.map_eq_some_iff, Prod.mk.injEq] at h
          obtain ⟨_, _, _, rfl⟩ := h; rfl
        · rename_i e'
          simp only [e', Option.map_eq_some_iff, Prod.mk.injEq] at h
          obtain ⟨_, _, _, rfl⟩ := h; rfl
        · rename_i e' _; exact absurd e' hc
        · cases hpo
      subst hkeep
      exact ⟨fun _ _ => rfl, rfl⟩
  · simp only [Option.some.injEq] at h
    subst h
    exact ⟨hput _, fun k _ => by cases o.dst <;> rfl, by cases o.dst <;> rfl⟩

theorem evListT_ok {c : Ctx} {O : Orc} {ops : Array Oper} (hp : ops.toList.all (plainOp c.pol) = true) : ∀ (l : List Nat) {st st' : St} {ks : List Key}, evListT c O ops l st = some (st', ks) →
    evList c O true ops l st = some st' ∧ (∀ d, d ∉ ops.toList.filterMap (·.dst) → st'.tm d = st.tm d) ∧ (∀ k, k ∉ ks → st'.hp.blk k = st.hp.blk k) ∧ st'.hp.cnt = st.hp.cnt
  | [], st, st', ks, h => by
    simp only [evListT, Option.some.injEq, Prod.mk.injEq] at h
    obtain ⟨rfl, rfl⟩ := h
    exact ⟨rfl, fun _ _ => rfl, fun _ _ => rfl, rfl⟩
  | i :: l, st, st', ks, h => by
    simp only [evListT] at h
    split at h
    · cases h
    rename_i st1 h1
    split at h
    · cases h
    rename_i st2 ks2 h2
    simp only [Option.some.injEq, Prod.mk.injEq] at h
    obtain ⟨rfl, rfl⟩ := h
    obtain ⟨a1, a2, a3, a4⟩ := evListT_ok hp l h2
    obtain ⟨b1, b2, b3⟩ := plain_step hp h1
    refine ⟨by simp only [evList, h1, Option.bind_some]; exact a1, fun d hd => (a2 d hd).trans (b1 d hd), fun k hk => ?_, a4.trans b3⟩
    simp only [List.mem_append, not_or] at hk
    exact (a3 k hk.2).trans (b2 k hk.1)

theorem sameB_ok {c : Ctx} {O : Orc} {ops : Array Oper} (hp : ops.toList.all (plainOp c.pol) = true) {l l' : List Nat} {st st0 st1 : St} {ks ks' : List Key} (h0 : evListT c O ops l st = some (st0, ks)) (h1 : evListT c O ops l' st = some (st1, ks')) (h : sameB ops st0 st1 (ks ++ ks') = true) : st0 = st1 := by
  obtain ⟨_, a2, a3, a4⟩ := evListT_ok hp l h0
  obtain ⟨_, b2, b3, b4⟩ := evListT_ok hp l' h1
  simp only [sameB, Bool.and_eq_true, List.all_eq_true] at h
  obtain ⟨h2, h3⟩ := h
  obtain ⟨t0, ⟨k0, c0⟩⟩ := st0
  obtain ⟨t1, ⟨k1, c1⟩⟩ := st1
  dsimp only at *
  have e1 : t0 = t1 := funext fun d => by
    by_cases hd : d ∈ ops.toList.filterMap (·.dst)
    · exact PV.beq_eq _ _ (h2 d hd)
    · rw [a2 d hd, b2 d hd]
  have e2 : k0 = k1 := funext fun k => by
    by_cases hk : k ∈ ks ++ ks'
    · exact Blk.beq_eq (h3 k hk)
    · simp only [List.mem_append, not_or] at hk
      rw [a3 k hk.1, b3 k hk.2]
  rw [e1, e2, a4, b4]

theorem evRegion_ok (hP : POk c.P c.pol) (hO : OrcOk c.P c.pol O) (hG : GOk c.pol ng w0) (h : Rel ng base nt w0 Ext D ρ st a w) {id : Nat} {ops : Array Oper} {draw : Bool} {st' : St} (hs : evRegion c O id ops draw st = some st')
    (hc : codeOk c.pol c.fn nt (.region id ops draw) = true) {ro : Option Nat} {n : Nat} {Q : Exit → Act → World → Prop} (hn : ∀ a' w', Went ng base nt w0 Ext D ρ st.hp w st' a' w' → Q .normal a' w') :
    (Code.region id ops draw).wpIn (Fr ro) n c.P Q a w := by
  simp only [codeOk, Bool.and_eq_true] at hc
  obtain ⟨hc1, hc2⟩ := hc
  have hD : Dsts nt ops := fun i o ho d hd => by
    have := (Array.all_eq_true_iff_forall_mem.1 hc1) o (Array.mem_of_getElem? ho)
    rw [hd] at this
    simpa [Nat.blt_eq] using this
  cases draw with
  | false =>
    refine wpIn_region (evList_ok (draw := false) hP hO hG hD (List.range ops.size) st ρ a w h ?_ hn)
    unfold evRegion at hs
    exact hs
  | true =>
    have hall : ∀ R ∈ List.range ops.size :: c.pol.reps c.fn id, evList c O true ops R st = some st' := by
      unfold evRegion at hs
      split at hs
      · rename_i r rs hr
        split at hs
        rotate_left
        · cases hs
        rename_i st0 ks h0
        split at hs
        rotate_left
        · cases hs
        rename_i hq
        simp only [Option.some.injEq] at hs
        subst hs
        simp only [Bool.and_eq_true] at hq
        obtain ⟨hp, hq⟩ := hq
        intro R hR
        rw [hr] at hR
        rcases List.mem_cons.1 hR with rfl | hR
        · exact (evListT_ok hp _ h0).1
        · have := List.all_eq_true.1 hq R hR
          split at this
          · rename_i st1 ks1 h1
            rw [sameB_ok hp h0 h1 this]
            exact (evListT_ok hp _ h1).1
          · cases this
      · rename_i d rs hne
        intro R hR
        cases hq : c.pol.reps c.fn id with
        | nil =>
          rw [hq] at hR
          simp only [List.mem_singleton] at hR
          rw [hR]; exact hs
        | cons r rs' => exact absurd rfl (hne r rs' · hq)
    simp only [Bool.not_true, Bool.false_or] at hc2
    refine wpIn_region_draw (fun t => ?_)
    have hdrew : Below w.heap.size w { w with drawn := w.drawn + 1 } := (Below.refl _ w).drew
    have hR0 := h.grow hdrew
    have hE0 := evo_below h.heap hdrew (Mut Ext ρ st.hp)
    obtain ⟨R, hR, g1, g2, g3⟩ := regionOk_ok (c := c) hc2 t
    simp only [Region.schedule, hP.mixed, Bool.true_or, if_true]
    refine evList_ok hP hO hG hD _ st ρ a _ hR0 (perm_ok hP hO hG hD _ R st ρ a _ hR0 g1 g2 g3 (hall R hR)) (fun a' w' hw => hn a' w' ?_)
    obtain ⟨ρ', r, e⟩ := hw.rel
    exact ⟨ρ', r, hE0.trans e⟩

theorem evCode_ok (hP : POk c.P c.pol) (hO : OrcOk c.P c.pol O) (hG : GOk c.pol ng w0) {ro : Option Nat} {m : Nat} : ∀ (n : Nat) (code : Code) (st : St) (ρ : Key → Option Nat) (a : Act) (w : World) (ex : Ex) (st' : St) (Q : Exit → Act → World → Prop),
    Rel ng base nt w0 Ext D ρ st a w → evCode c O n code st = some (ex, st') → codeOk c.pol c.fn nt code = true → (∀ a' w', Went ng base nt w0 Ext D ρ st.hp w st' a' w' → Q (exOf ex) a' w') → code.wpIn (Fr ro) m c.P Q a w := by
  intro n
  induction n using Nat.strongRecOn with
  | _ n ih =>
  intro code st ρ a w ex st' Q h hs hc hn
  cases n with
  | zero => simp [evCode] at hs
  | succ n =>
    cases code with
    | skip =>
      simp only [evCode, Option.some.injEq, Prod.mk.injEq] at hs
      obtain ⟨rfl, rfl⟩ := hs
      exact wpIn_skip (hn a w ⟨ρ, h, Evo.refl _ _ _⟩)
    | region id ops draw =>
      simp only [evCode, Option.map_eq_some_iff, Prod.mk.injEq] at hs
      obtain ⟨st1, h1, rfl, rfl⟩ := hs
      exact evRegion_ok hP hO hG h h1 hc hn
    | seq x y =>
      simp only [codeOk, Bool.and_eq_true] at hc
      simp only [evCode] at hs
      refine wpIn_seq ?_
      split at hs
      · rename_i st1 h1
        refine ih n (Nat.lt_succ_self n) x st ρ a w .normal st1 _ h h1 hc.1 (fun a1 w1 hw => ?_)
        obtain ⟨ρ1, r1, e1⟩ := hw.rel
        refine ih n (Nat.lt_succ_self n) y st1 ρ1 a1 w1 ex st' Q r1 hs hc.2 (fun a2 w2 hw2 => hn a2 w2 ?_)
        obtain ⟨ρ2, r2, e2⟩ := hw2.rel
        exact ⟨ρ2, r2, e1.trans e2⟩
      · rename_i hne
        refine ih n (Nat.lt_succ_self n) x st ρ a w ex st' _ h hs hc.1 (fun a1 w1 hw => ?_)
        cases ex with
        | normal => exact absurd hs (hne st')
        | exit id => exact hn a1 w1 hw
        | ret => exact hn a1 w1 hw
    | cond x p q =>
      simp only [codeOk, Bool.and_eq_true] at hc
      simp only [evCode] at hs
      split at hs
      · rename_i t ht
        have hx := h.eval hG x
        rw [ht] at hx
        refine wpIn_cond (t := t) hx.bool_inv ?_
        cases t with
        | true => exact ih n (Nat.lt_succ_self n) p st ρ a w ex st' Q h hs hc.1 hn
        | false => exact ih n (Nat.lt_succ_self n) q st ρ a w ex st' Q h hs hc.2 hn
      · cases hs
    | block id p =>
      simp only [codeOk] at hc
      simp only [evCode] at hs
      refine wpIn_block ?_
      split at hs
      · rename_i j st1 h1
        refine ih n (Nat.lt_succ_self n) p st ρ a w (.exit j) st1 _ h h1 hc (fun a1 w1 hw => ?_)
        simp only [exOf, Exit.inBlock]
        split at hs
        · rename_i e
          simp only [Option.some.injEq, Prod.mk.injEq] at hs
          obtain ⟨rfl, rfl⟩ := hs
          rw [if_pos e]
          exact hn a1 w1 hw
        · rename_i e
          simp only [Option.some.injEq, Prod.mk.injEq] at hs
          obtain ⟨rfl, rfl⟩ := hs
          rw [if_neg e]
          exact hn a1 w1 hw
      · rename_i hne
        refine ih n (Nat.lt_succ_self n) p st ρ a w ex st' _ h hs hc (fun a1 w1 hw => ?_)
        cases ex with
        | normal => exact hn a1 w1 hw
        | exit id => exact absurd hs (hne id st')
        | ret => exact hn a1 w1 hw
    | loop p =>
      simp only [codeOk] at hc
      -- the fuel that is left
      let J : Nat → Act → World → Prop := fun k a1 w1 => k ≤ n + 1 ∧ ∃ (st1 : St) (ρ1 : Key → Option Nat), Rel ng base nt w0 Ext D ρ1 st1 a1 w1 ∧ evCode c O k (.loop p) st1 = some (ex, st') ∧ Evo w ρ (Mut Ext ρ st.hp) w1 ρ1 (Mut Ext ρ1 st1.hp)
      have hfind : ∀ a1 w1, (∃ k, J k a1 w1) → ∃ k, J k a1 w1 ∧ ∀ j, J j a1 w1 → k ≤ j := fun a1 w1 ⟨k, hk⟩ => by
        induction k using Nat.strongRecOn with
        | _ k ihk =>
          by_cases hm : ∃ j, j < k ∧ J j a1 w1
          · obtain ⟨j, hj, hJ⟩ := hm
            exact ihk j hj hJ
          · exact ⟨k, hk, fun j hj => by
              rcases Nat.lt_or_ge j k with q | q
              · exact absurd ⟨j, q, hj⟩ hm
              · exact q⟩
      classical
      let μ : Act → World → Nat := fun a1 w1 => if hq : ∃ k, J k a1 w1 then Classical.choose (hfind a1 w1 hq) else 0
      have hμ : ∀ a1 w1, (hq : ∃ k, J k a1 w1) → J (μ a1 w1) a1 w1 ∧ ∀ j, J j a1 w1 → μ a1 w1 ≤ j := fun a1 w1 hq => by
        simp only [μ, dif_pos hq]
        exact Classical.choose_spec (hfind a1 w1 hq)
      refine wpIn_loop (fun a1 w1 => ∃ k, J k a1 w1) μ ⟨n + 1, Nat.le_refl _, st, ρ, h, hs, Evo.refl _ _ _⟩ (fun a1 w1 hI => ?_)
      obtain ⟨⟨hk, st1, ρ1, r1, hs1, e1⟩, hmin⟩ := hμ a1 w1 hI
      generalize μ a1 w1 = k at hk hs1 hmin ⊢
      cases k with
      | zero => simp [evCode] at hs1
      | succ k =>
        simp only [evCode] at hs1
        split at hs1
        · rename_i st2 h2
          refine ih k (by omega) p st1 ρ1 a1 w1 .normal st2 _ r1 h2 hc (fun a2 w2 hw => ?_)
          obtain ⟨ρ2, r2, e2⟩ := hw.rel
          have hJ2 : J k a2 w2 := ⟨by omega, st2, ρ2, r2, hs1, e1.trans e2⟩
          exact ⟨⟨k, hJ2⟩, Nat.lt_succ_of_le ((hμ a2 w2 ⟨k, hJ2⟩).2 k hJ2)⟩
        · rename_i hne
          refine ih k (by omega) p st1 ρ1 a1 w1 ex st' _ r1 hs1 hc (fun a2 w2 hw => ?_)
          obtain ⟨ρ2, r2, e2⟩ := hw.rel
          have hw' : Went ng base nt w0 Ext D ρ st.hp w st' a2 w2 := ⟨ρ2, r2, e1.trans e2⟩
          cases ex with
          | normal => exact absurd hs1 (hne st')
          | exit id => exact hn a2 w2 hw'
          | ret => exact hn a2 w2 hw'
    | exit id =>
      simp only [evCode, Option.some.injEq, Prod.mk.injEq] at hs
      obtain ⟨rfl, rfl⟩ := hs
      exact wpIn_exit (hn a w ⟨ρ, h, Evo.refl _ _ _⟩)
    | ret =>
      simp only [evCode, Option.some.injEq, Prod.mk.injEq] at hs
      obtain ⟨rfl, rfl⟩ := hs
      exact wpIn_ret (hn a w ⟨ρ, h, Evo.refl _ _ _⟩)
    | _ => simp [evCode] at hs
end
end Go.Proofs.YtigfgicjjhepoaaGreatDoor.VA
set_option linter.unusedVariables false
set_option linter.unusedSimpArgs false
namespace Go.Proofs.YtigfgicjjhepoaaGreatDoor.VA
open Go Go.RowKit
section
variable {ng base nt : Nat} {w0 : World} {Ext : Nat → Prop} {D : List Deferred} {ρ : Key → Option Nat} {st : St} {a : Act} {w w' : World} {H : Heap} {c : Ctx} {O : Orc} {P : Program} {pol : Pol}

theorem loadVar_of {t : TypeId} {va v : Value} (h : (Instr.loadAt t va).run P w = .ok v w) : (do loadVar t (← asAddr va) : Sem Value).run P w = .ok v w ∨ ¬ ∃ x, va = .pointer (some x) := by
  by_cases hx : ∃ x, va = .pointer (some x)
  · left
    obtain ⟨x, rfl⟩ := hx
    simpa [Instr.loadAt, Instr.sureAddr, asAddr] using h
  · exact .inr hx

theorem resV_ok (h : Rel ng base nt w0 Ext D ρ st a w) {r : ResultVar} {x : PV} (hs : resV c st r = some x) :
    ∃ v, (match r with
      | .tmp t => pure (a.tmps.getD t undef)
      | .cell p t => do loadVar t (← asAddr (a.tmps.getD p undef)) : Sem Value).run c.P w = .ok v w ∧ Rep w ρ (Mut Ext ρ st.hp) x v := by
  cases r with
  | tmp t =>
    simp only [resV, Option.some.injEq] at hs
    subst hs
    exact ⟨_, rfl, h.tmps t⟩
  | cell p t =>
    simp only [resV] at hs
    obtain ⟨v, h1, h2⟩ := loadV_ok (P := c.P) h.heap.rows hs (h.tmps p)
    refine ⟨v, ?_, h2⟩
    rcases loadVar_of h1 with h3 | h3
    · exact h3
    · exfalso
      apply h3
      have hp := h.tmps p
      unfold loadV at hs
      split at hs
      · cases hs
      · split at hs
        · rename_i hpv
          rw [hpv] at hp
          generalize a.tmps.getD p undef = u at hp ⊢
          cases hp; exact ⟨_, rfl⟩
        · rename_i hpv
          rw [hpv] at hp
          generalize a.tmps.getD p undef = u at hp ⊢
          cases hp; exact ⟨_, rfl⟩
        · cases hs

theorem resL_ok (h : Rel ng base nt w0 Ext D ρ st a w) : ∀ {rs : List ResultVar} {xs : List PV}, rs.mapM (resV c st) = some xs →
    ∃ vs : List Value, (rs.mapM fun r => (match r with
      | .tmp t => pure (a.tmps.getD t undef)
      | .cell p t => do loadVar t (← asAddr (a.tmps.getD p undef)) : Sem Value)).run c.P w = .ok vs w ∧ Reps w ρ (Mut Ext ρ st.hp) xs vs
  | [], xs, hs => by
    simp only [List.mapM_nil] at hs
    cases hs
    exact ⟨[], rfl, Reps.nil⟩
  | r :: rs, xs, hs => by
    rw [List.mapM_cons] at hs
    cases hr : resV c st r with
    | none => rw [hr] at hs; cases hs
    | some x =>
      rw [hr] at hs
      cases hl : rs.mapM (resV c st) with
      | none => rw [hl] at hs; cases hs
      | some xs' =>
        rw [hl] at hs
        cases hs
        obtain ⟨v, h1, h2⟩ := resV_ok h hr
        obtain ⟨vs, h3, h4⟩ := resL_ok h hl
        refine ⟨v :: vs, ?_, Reps.cons h2 h4⟩
        rw [List.mapM_cons]
        simp only [Sem.run_bind, h1, h3, Result.andThen_ok, Sem.run_pure]

theorem results_ok (h : Rel ng base nt w0 Ext D ρ st a w) {fn : Func} {x : PV} (hs : resultsV c st fn.results.toList = some x) :
    ∃ v, (results fn a.tmps).run c.P w = .ok v w ∧ Rep w ρ (Mut Ext ρ st.hp) x v := by
  have key : ∀ xs, fn.results.toList.mapM (resV c st) = some xs → ∃ vs : List Value, vs.length = xs.length ∧ (results fn a.tmps).run c.P w = .ok (if h : vs.length = 1 then vs[0] else .tuple vs.toArray) w ∧ Reps w ρ (Mut Ext ρ st.hp) xs vs := by
    intro xs hx
    obtain ⟨vs, h1, h2⟩ := resL_ok h hx
    refine ⟨vs, h2.1.symm, ?_, h2⟩
    unfold results
    rw [Array.mapM_eq_mapM_toList]
    simp only [Sem.run_bind, map_eq_pure_bind]
    erw [h1]
    simp only [Result.andThen_ok, Sem.run_pure, List.size_toArray]
    rfl
  unfold resultsV at hs
  split at hs
  · rename_i r hr
    obtain ⟨vs, hl, hrun, hR⟩ := key [x] (by rw [hr, List.mapM_cons, hs]; rfl)
    match vs, hl, hrun, hR with
    | [v], _, hrun, hR => exact ⟨v, by simpa using hrun, hR.head⟩
  · rename_i hne
    simp only [Option.map_eq_some_iff] at hs
    obtain ⟨xs, hx, rfl⟩ := hs
    obtain ⟨vs, hl, hrun, hR⟩ := key xs hx
    have hne1 : ¬ vs.length = 1 := fun e => by
      have hlen := mapM_len hx
      rw [← hl, e] at hlen
      obtain ⟨r, hr⟩ := List.length_eq_one_iff.1 hlen
      exact hne r hr
    rw [dif_neg hne1] at hrun
    exact ⟨_, hrun, .tup xs _ (by simp [hl]) (fun i c v hc hv => hR.2 i c v hc (by simpa using hv))⟩
where
  mapM_len {α β : Type} {f : α → Option β} : ∀ {l : List α} {r : List β}, l.mapM f = some r → l.length = r.length := fun h => by
    have := mapM_get h
    rename_i l r
    apply Nat.le_antisymm
    · rcases Nat.lt_or_ge r.length l.length with q | q
      · have e := this r.length
        rw [List.getElem?_eq_none (Nat.le_refl _), List.getElem?_eq_getElem q] at e
        exfalso
        have : ∀ (l : List α) (r : List β), l.mapM f = some r → ∀ x ∈ l, ∃ y, f x = some y := by
          intro l
          induction l with
          | nil => intro r _ x hx; cases hx
          | cons z l ih =>
            intro r hr x hx
            rw [List.mapM_cons] at hr
            cases hz : f z with
            | none => rw [hz] at hr; cases hr
            | some y =>
              rw [hz] at hr
              cases hl : l.mapM f with
              | none => rw [hl] at hr; cases hr
              | some r' =>
                rcases List.mem_cons.1 hx with rfl | hx
                · exact ⟨y, hz⟩
                · exact ih r' hl x hx
        obtain ⟨y, hy⟩ := this l r h _ (List.getElem_mem q)
        simp [hy] at e
      · exact q
    · rcases Nat.lt_or_ge l.length r.length with q | q
      · have e := this l.length
        rw [List.getElem?_eq_getElem q, List.getElem?_eq_none (Nat.le_refl _)] at e
        simp at e
      · exact q

/-- A body. -/
theorem evBody_ok (hP : POk P pol) (hC : COk P pol) (hO : OrcOk P pol O) {n : Nat} {path : List Nat} {f : FuncId} {args : List PV} {r : PV} {H' : Heap} (hs : evBody P pol O n path f args H = some (r, H')) {vs : Array Value} (hG : GOk pol ng w) (h : HRel ng base Ext ρ H w)
    (hv : Reps w ρ (Mut Ext ρ H) args vs.toList) : Does P f vs w (fun v w' => ∃ ρ', Stepd ng base Ext ρ H w w' ρ' H' ∧ Rep w' ρ' (Mut Ext ρ' H') r v) := by
  unfold evBody at hs
  split at hs
  · cases hs
  rename_i fn hf
  split at hs
  · cases hs
  rename_i body hb
  split at hs
  rotate_left
  · cases hs
  rename_i hlen
  obtain ⟨hlen, huse⟩ := hlen
  refine .inl ⟨fn, body, hf, hb, hC.name f fn body huse hf hb, ?_⟩
  have hcode := hC.code f fn body huse hf hb
  let cc : Ctx := ⟨P, pol, path, f⟩
  have hvl : args.length = vs.size := by simpa using hv.1
  let a0 : Act := { tmps := vs ++ Array.replicate (fn.ntmps - vs.size) undef, defers := [] }
  have hR0 : Rel ng base fn.ntmps w Ext [] ρ (startSt args H) a0 w := by
    refine ⟨fun i => ?_, by simp [a0]; omega, rfl, Below.refl _ _, h⟩
    simp only [startSt, a0]
    rcases Nat.lt_or_ge i args.length with hi | hi
    · have h1 : args[i]? = some args[i] := List.getElem?_eq_getElem hi
      have h2 : vs.toList[i]? = some (vs[i]'(by omega)) := by simp [show i < vs.size by omega]
      have h3 := hv.2 i _ _ h1 h2
      rw [List.getD_eq_getElem?_getD, h1, Array.getD_eq_getD_getElem?, Array.getElem?_append_left (by omega), Array.getElem?_eq_getElem (by omega)]
      exact h3
    · rw [List.getD_eq_getElem?_getD, List.getElem?_eq_none hi, Array.getD_eq_getD_getElem?, Array.getElem?_append_right (by omega), Array.getElem?_replicate]
      have : ((if i - vs.size < fn.ntmps - vs.size then some undef else none).getD undef : Value) = undef := by split <;> rfl
      rw [this]
      exact rep_unit
  have done : ∀ {ex : Ex} {st : St}, evCode cc O n body (startSt args H) = some (ex, st) → (ex = .normal ∨ ex = .ret) → (resultsV cc st fn.results.toList).map (fun r => (r, st.hp)) = some (r, H') →
      Calls P f vs w (fun e w' => ∃ v, e = .returned v ∧ ∃ ρ', Stepd ng base Ext ρ H w w' ρ' H' ∧ Rep w' ρ' (Mut Ext ρ' H') r v) := by
    intro ex st he hex hr
    simp only [Option.map_eq_some_iff, Prod.mk.injEq] at hr
    obtain ⟨x, hx, rfl, rfl⟩ := hr
    refine callsIn_wide (n := 0).1 (callsIn_of_wp hf hb trivial ?_)
    have hcc : codeOk cc.pol cc.fn fn.ntmps body = true := hcode
    refine evCode_ok (c := cc) (ro := none) hP hO hG n body (startSt args H) ρ a0 w ex st _ hR0 he hcc (fun a' w' hw => ?_)
    obtain ⟨ρ', r1, e1⟩ := hw.rel
    obtain ⟨v, h1, h2⟩ := results_ok (c := cc) r1 hx
    have fin : a'.defers = [] ∧ ∃ v, (results fn a'.tmps).run P w' = .ok v w' ∧ ∃ u, Ending.returned v = .returned u ∧ ∃ ρ', Stepd ng base Ext ρ H w w' ρ' st.hp ∧ Rep w' ρ' (Mut Ext ρ' st.hp) x u :=
      ⟨r1.defers, v, h1, v, rfl, ρ', ⟨r1.below, r1.heap, e1⟩, h2⟩
    rcases hex with rfl | rfl
    · exact fin
    · exact fin
  split at hs
  · rename_i st he
    exact done he (.inl rfl) hs
  · rename_i st he
    exact done he (.inr rfl) hs
  · cases hs

theorem hrel_empty {M : Nat → Prop} (hng : ng ≤ w.heap.size) (hM : ∀ b, M b → b < w.heap.size ∧ ng ≤ b) : HRel ng w.heap.size M (fun _ => none) Heap.empty w where
  ngb := hng
  size := Nat.le_refl _
  ext := hM
  dom k b h := by cases h
  fresh p d n _ := ⟨rfl, rfl⟩
  inj k k' b h := absurd rfl h
  blk k x h := by cases h

/-- A call at arguments without keys. -/
theorem evPure_ok (hP : POk P pol) (hC : COk P pol) (hO : OrcOk P pol O) {n : Nat} {f : FuncId} {args : List PV} {r : PV} (hs : evPure P pol O n f args = some r) {M : Nat → Prop} {vs : Array Value} (hG : GOk pol ng w) (hng : ng ≤ w.heap.size)
    (hM : ∀ b, M b → b < w.heap.size ∧ ng ≤ b) (hv : Reps w (fun _ => none) M args vs.toList) : Does P f vs w (fun v w' => Below w.heap.size w w' ∧ Rep w' (fun _ => none) M r v) := by
  unfold evPure at hs
  split at hs
  rotate_left
  · cases hs
  rename_i hpers
  split at hs
  rotate_left
  · cases hs
  rename_i x H hb
  simp only [Option.map_eq_some_iff] at hs
  obtain ⟨⟨y, ks⟩, hd, rfl⟩ := hs
  have hmut : ∀ b, Mut M (fun _ => none) Heap.empty b → M b := fun b hm => by
    rcases hm with hm | ⟨k, _, _, h1, _⟩
    · exact hm
    · cases h1
  have hD := evBody_ok hP hC hO hb hG (hrel_empty hng hM) (hv.pers hmut hpers)
  have fin : ∀ v w', (∃ ρ', Stepd ng w.heap.size M (fun _ => none) Heap.empty w w' ρ' H ∧ Rep w' ρ' (Mut M ρ' H) x v) → Below w.heap.size w w' ∧ Rep w' (fun _ => none) M y v := by
    rintro v w' ⟨ρ', hS, hx⟩
    refine ⟨hS.below, (dr_ok (ρ' := fun _ => none) hS.heap.rows (fun b hm => .inl hm) 12).1 x y ks v hd (fun k b _ hk hm => ?_) hx⟩
    have h1 := (hS.heap.dom k b hk).1
    have h2 := (hM b hm).1
    omega
  rcases hD with ⟨fn, cd, h1, h2, h3, h4⟩ | ⟨v, w', h1, h2⟩
  · exact .inl ⟨fn, cd, h1, h2, h3, fun cs => let ⟨e, w', fr, ⟨v, he, hR⟩, s, x⟩ := h4 cs; ⟨e, w', fr, ⟨v, he, fin v w' hR⟩, s, x⟩⟩
  · exact .inr ⟨v, w', h1, fin v w' h2⟩

/-- What the user says of a function by other means. -/
def PrimOk (P : Program) (pol : Pol) (prim : FuncId → List PV → Option PV) : Prop :=
  ∀ f args r, prim f args = some r → ∀ (ng : Nat) (w : World) (M : Nat → Prop) (vs : Array Value), GOk pol ng w → ng ≤ w.heap.size → (∀ b, M b → b < w.heap.size ∧ ng ≤ b) → Reps w (fun _ => none) M args vs.toList →
    Does P f vs w (fun v w' => Below w.heap.size w w' ∧ Rep w' (fun _ => none) M r v)

/-- The same of a function that is called on the caller's heap. -/
def PrimIOk (P : Program) (pol : Pol) (primI : FuncId → List PV → Heap → Option (PV × Heap)) : Prop :=
  ∀ f args H r H', primI f args H = some (r, H') → ∀ (ng base : Nat) (Ext : Nat → Prop) (ρ : Key → Option Nat) (w : World) (vs : Array Value), GOk pol ng w → HRel ng base Ext ρ H w → Reps w ρ (Mut Ext ρ H) args vs.toList →
    Does P f vs w (fun v w' => ∃ ρ', Stepd ng base Ext ρ H w w' ρ' H' ∧ Rep w' ρ' (Mut Ext ρ' H') r v)

theorem orc_ok (hP : POk P pol) (hC : COk P pol) {prim : FuncId → List PV → Option PV} (hp : PrimOk P pol prim) {primI : FuncId → List PV → Heap → Option (PV × Heap)} (hi : PrimIOk P pol primI) : ∀ n, OrcOk P pol (orc P pol prim primI n)
  | 0 => ⟨hp, fun path f args H r H' h => hi f args H r H' h⟩
  | n + 1 => by
    have ih := orc_ok hP hC hp hi n
    refine ⟨fun f args r h ng w M vs hG hng hM hv => ?_, fun path f args H r H' h ng base Ext ρ w vs hG hR hv => ?_⟩
    · simp only [orc] at h
      split at h
      · rename_i r' hr
        simp only [Option.some.injEq] at h
        subst h
        exact hp f args r' hr ng w M vs hG hng hM hv
      · exact evPure_ok hP hC ih h hG hng hM hv
    · simp only [orc] at h
      split at h
      · rename_i r' hr
        simp only [Option.some.injEq] at h
        subst h
        exact hi f args H r H' hr ng base Ext ρ w vs hG hR hv
      · exact evBody_ok hP hC ih h hG hR hv
end
end Go.Proofs.YtigfgicjjhepoaaGreatDoor.VA
set_option linter.unusedVariables false
set_option linter.unusedSimpArgs false
namespace Go.Proofs.YtigfgicjjhepoaaGreatDoor.VA
open Go Go.RowKit

/-- The look at a type. -/
def tyChk (P : Program) (t : Nat) : Bool :=
  match P.info? t with
  | none => true
  | some i => match i.zero with
    | none => false
    | some z => Nat.beq z.cells.size i.size &&
      (match aggT P t with
        | some true => (match z with
          | .agg _ => true
          | _ => false)
        | some false => z.oneCell'
        | none => true) &&
      (match P.underlying t with
        | some (.struct fs) => (fs.toList.mapM (fun f => (P.info? f.type).map fun i => (f.offset, i.size))).isSome
        | _ => true)

theorem pok_of {P : Program} {pol : Pol} {n : Nat} (hn : P.types.size = n) (h : (List.range n).all (tyChk P) = true) (hm : P.follows .mixedOrders = true) (he : ∀ t, pol.eqt t = false) : POk P pol := by
  have key : ∀ t, okT P t = true → tyChk P t = true := fun t ht => List.all_eq_true.1 h t (List.mem_range.2 (by rw [← hn]; simpa [okT, Nat.blt_eq] using ht))
  have zero : ∀ t i, okT P t = true → P.info? t = some i → ∃ z, i.zero = some z := fun t i ht hi => by
    have := key t ht
    simp only [tyChk, hi] at this
    split at this
    · cases this
    · rename_i z hz; exact ⟨z, hz⟩
  have all : ∀ t i z, okT P t = true → P.info? t = some i → i.zero = some z → z.cells.size = i.size ∧ (aggT P t = some true → ∃ cs, z = .agg cs) ∧ (aggT P t = some false → z.oneCell' = true) ∧
      (∀ fs, P.underlying t = some (.struct fs) → (fs.toList.mapM (fun f => (P.info? f.type).map fun i => (f.offset, i.size))).isSome = true) := fun t i z ht hi hz => by
    have := key t ht
    simp only [tyChk, hi, hz, Bool.and_eq_true] at this
    obtain ⟨⟨h1, h2⟩, h3⟩ := this
    refine ⟨Nat.eq_of_beq_eq_true h1, fun ha => ?_, fun ha => ?_, fun fs hf => ?_⟩
    · rw [ha] at h2
      cases z <;> simp_all
    · rw [ha] at h2; exact h2
    · rw [hf] at h3; exact h3
  refine ⟨fun t fs ht hf => ?_, fun t i z ht hi hz => (all t i z ht hi hz).1, fun t i z ht hi hz => (all t i z ht hi hz).2.1, fun t i z ht hi hz => (all t i z ht hi hz).2.2.1, zero, hm, fun t ht => ?_, fun t ht => ?_⟩
  · cases hi : P.info? t with
    | none => simp [Program.underlying, hi] at hf
    | some i =>
      obtain ⟨z, hz⟩ := zero t i ht hi
      exact (all t i z ht hi hz).2.2.2 fs hf
  · rw [he] at ht; cases ht
  · rw [he] at ht; cases ht

/-- The look at a function. -/
def fnChk (P : Program) (pol : Pol) (f : Nat) : Bool :=
  !pol.use f || match P.funcs[f]? with
    | some fn => match fn.body with
      | some b => codeOk pol f fn.ntmps b && !(fn.name == "runtime.NumGoroutine")
      | none => true
    | none => true

theorem cok_of {P : Program} {pol : Pol} {n : Nat} (hn : P.funcs.size = n) (h : (List.range n).all (fnChk P pol) = true) : COk P pol := by
  have key : ∀ (f : FuncId) (fn : Func) (body : Code), pol.use f = true → P.funcs[f]? = some fn → fn.body = some body → codeOk pol f fn.ntmps body = true ∧ (fn.name == "runtime.NumGoroutine") = false := fun f fn body hu hf hb => by
    have hlt : f < n := by rw [← hn]; exact (Array.getElem?_eq_some_iff.1 hf).1
    have := List.all_eq_true.1 h f (List.mem_range.2 hlt)
    simpa [fnChk, hu, hf, hb] using this
  exact ⟨fun f fn body hu hf hb => (key f fn body hu hf hb).1, fun f fn body hu hf hb => (key f fn body hu hf hb).2⟩

theorem gok_junk {pol : Pol} (h : ∀ x, pol.glob x = .junk) (ng : Nat) (w : World) : GOk pol ng w := fun x => by
  rw [h x]; exact ⟨rfl, .junk _⟩

/-- One more function by other means: by a run of the evaluator over what was known. -/
def addP (f : FuncId) (spec : List PV → Option PV) (p : FuncId → List PV → Option PV) : FuncId → List PV → Option PV := fun g args =>
  if Nat.beq g f then (match spec args with
    | some r => some r
    | none => p g args) else p g args

theorem primOk_none (P : Program) (pol : Pol) : PrimOk P pol (fun _ _ => none) := fun f args r h => by cases h
theorem primIOk_none (P : Program) (pol : Pol) : PrimIOk P pol (fun _ _ _ => none) := fun f args H r H' h => by cases h

theorem primOk_does {P : Program} {pol : Pol} {p : FuncId → List PV → Option PV} (hp : PrimOk P pol p) {f : FuncId} {spec : List PV → Option PV}
    (h : ∀ args r, spec args = some r → ∀ (ng : Nat) (w : World) (M : Nat → Prop) (vs : Array Value), GOk pol ng w → ng ≤ w.heap.size → (∀ b, M b → b < w.heap.size ∧ ng ≤ b) → Reps w (fun _ => none) M args vs.toList →
      Does P f vs w (fun v w' => Below w.heap.size w w' ∧ Rep w' (fun _ => none) M r v)) : PrimOk P pol (addP f spec p) := by
  intro g args r hg
  unfold addP at hg
  split at hg
  · rename_i e
    have e := Nat.eq_of_beq_eq_true e
    subst e
    split at hg
    · rename_i r' hs
      cases hg
      exact h args r hs
    · exact hp g args r hg
  · exact hp g args r hg

theorem primOk_add {P : Program} {pol : Pol} (hP : POk P pol) (hC : COk P pol) {p : FuncId → List PV → Option PV} (hp : PrimOk P pol p) {pI : FuncId → List PV → Heap → Option (PV × Heap)} (hi : PrimIOk P pol pI) {f : FuncId} {spec : List PV → Option PV}
    (h : ∀ args r, spec args = some r → ∃ n, (orc P pol p pI n).pure f args = some r) : PrimOk P pol (addP f spec p) :=
  primOk_does hp fun args r hs => by
    obtain ⟨n, hn⟩ := h args r hs
    exact (orc_ok hP hC hp hi n).pure f args r hn

/-- A function of the model's own. -/
theorem does_extern {P : Program} {f : FuncId} {fn : Func} {e : Array Value → Sem Value} {vs : Array Value} {w w' : World} {v : Value} {R : Value → World → Prop} (hf : P.funcs[f]? = some fn) (hb : fn.body = none) (hn : (fn.name == "runtime.NumGoroutine") = false)
    (h1 : (Extern.findNext fn).isNone = true) (h2 : Extern.find fn = some e) (hr : (e vs).run P w = .ok v w') (hR : R v w') : Does P f vs w R :=
  .inr ⟨v, w', (run_callFunc_extern hf hn (by simp [hb]) (by simpa using h1) h2 vs w).trans (by rw [hr]; rfl), hR⟩

theorem prim_ibs {P : Program} {pol : Pol} {p : FuncId → List PV → Option PV} (hp : PrimOk P pol p) {f : FuncId} {fn : Func} (hf : P.funcs[f]? = some fn) (hb : fn.body = none) (hn : (fn.name == "runtime.NumGoroutine") = false)
    (h1 : (Extern.findNext fn).isNone = true) (h2 : Extern.find fn = some Extern.BytealgIndexByte.indexByte) :
    PrimOk P pol (addP f (fun l => match l with
      | [.str s, .int .u8 b] => some (.int .i64 (Lib.indexByte s.data.toList b.toNat.toUInt8))
      | _ => none) p) :=
  primOk_does hp fun args r hs ng w M vs hG hng hM hv => by
    split at hs
    · rename_i s b
      cases hs
      obtain ⟨vs⟩ := vs
      have h0 := hv.1
      match vs, h0, hv with
      | [v1, v2], _, hv =>
        have q1 := hv.2 0 _ v1 rfl rfl
        have q2 := hv.2 1 _ v2 rfl rfl
        cases q1; cases q2
        exact does_extern hf hb hn h1 h2 (Lib.run_indexByteString s b w) ⟨Below.refl _ _, .int _ _⟩
    · cases hs
end Go.Proofs.YtigfgicjjhepoaaGreatDoor.VA
set_option linter.unusedVariables false
set_option linter.unusedSimpArgs false
namespace Go.Proofs.YtigfgicjjhepoaaGreatDoor.VA
open Go Go.RowKit Go.Maps Go.WideElems
def insI (x : Int) : List Int → List Int
  | [] => [x]
  | y :: l => if x ≤ y then x :: y :: l else y :: insI x l
def srtI : List Int → List Int
  | [] => []
  | x :: l => insI x (srtI l)
def keyI : List (PV × PV) → Option (List Int)
  | [] => some []
  | (.int .i64 n, _) :: l => (keyI l).map (n :: ·)
  | _ => none
def apartI : List Int → Bool
  | [] => true
  | x :: l => l.all (fun y => !decide (x = y)) && apartI l

theorem insI_perm (x : Int) : ∀ l, (insI x l).Perm (x :: l)
  | [] => List.Perm.refl _
  | y :: l => by
    unfold insI
    split
    · exact List.Perm.refl _
    · exact ((insI_perm x l).cons y).trans (List.Perm.swap x y l)
theorem srtI_perm : ∀ l, (srtI l).Perm l
  | [] => List.Perm.refl _
  | x :: l => (insI_perm x _).trans ((srtI_perm l).cons x)
theorem insI_sorted (x : Int) : ∀ l, l.Pairwise (fun a b => a ≤ b) → (insI x l).Pairwise (fun a b => a ≤ b)
  | [], _ => by simp [insI]
  | y :: l, h => by
    unfold insI
    split
    · rename_i hxy
      refine List.pairwise_cons.2 ⟨fun z hz => ?_, h⟩
      rcases List.mem_cons.1 hz with rfl | hz
      · exact hxy
      · exact Int.le_trans hxy ((List.pairwise_cons.1 h).1 z hz)
    · rename_i hxy
      refine List.pairwise_cons.2 ⟨fun z hz => ?_, insI_sorted x l (List.pairwise_cons.1 h).2⟩
      rcases List.mem_cons.1 ((insI_perm x l).mem_iff.1 hz) with rfl | hz
      · omega
      · exact (List.pairwise_cons.1 h).1 z hz
theorem srtI_sorted : ∀ l, (srtI l).Pairwise (fun a b => a ≤ b)
  | [] => List.Pairwise.nil
  | x :: l => insI_sorted x _ (srtI_sorted l)
theorem merge_srtI {ss ks : List Int} (h : ss.Perm ks) : ss.mergeSort (fun x y => decide (x ≤ y)) = srtI ks := by
  refine List.Perm.eq_of_pairwise (le := fun a b => a ≤ b) (fun a b _ _ h1 h2 => Int.le_antisymm h1 h2) ?_ (srtI_sorted ks) (((List.mergeSort_perm ss _).trans h).trans (srtI_perm ks).symm)
  have := List.pairwise_mergeSort (le := fun x y : Int => decide (x ≤ y)) (fun a b c h1 h2 => by simp only [decide_eq_true_eq] at *; omega) (fun a b => by simp only [Bool.or_eq_true, decide_eq_true_eq]; omega) ss
  exact this.imp (fun h => by simpa using h)

theorem keyI_get : ∀ {es : List (PV × PV)} {ks : List Int}, keyI es = some ks → ks.length = es.length ∧ ∀ (i : Nat) (k v : PV), es[i]? = some (k, v) → ∃ n, k = .int .i64 n ∧ ks[i]? = some n
  | [], ks, h => by cases h; exact ⟨rfl, fun i k v h => by simp at h⟩
  | e :: es, ks, h => by
    unfold keyI at h
    split at h
    · cases h; rename_i e'; cases e'
    · rename_i n v l heq
      cases heq
      simp only [Option.map_eq_some_iff] at h
      obtain ⟨ks', h1, rfl⟩ := h
      obtain ⟨g1, g2⟩ := keyI_get h1
      refine ⟨by simp [g1], fun i k v' hi => ?_⟩
      cases i with
      | zero => simp only [List.getElem?_cons_zero, Option.some.injEq, Prod.mk.injEq] at hi; exact ⟨n, hi.1.symm, rfl⟩
      | succ i => exact g2 i k v' (by simpa using hi)
    · cases h

theorem apartI_ok : ∀ {l : List Int}, apartI l = true → l.Nodup
  | [], _ => List.nodup_nil
  | x :: l, h => by
    simp only [apartI, Bool.and_eq_true, List.all_eq_true, Bool.not_eq_true', decide_eq_false_iff_not] at h
    exact List.nodup_cons.2 ⟨fun hx => h.1 x hx rfl, apartI_ok h.2⟩

/-- What maps.Keys' iterator goes over. -/
theorem owns_of {P : Program} {kt : TypeId} (hkt : P.underlying kt = some (.int .i64)) {w : World} {ρ : Key → Option Nat} {M : Nat → Prop} {b : Nat} {es : List (PV × PV)} {ks : List Int} (hb : BlkRel w ρ M b (.map (some .i64) es)) (hk : keyI es = some ks)
    (hw : ks.all (fun n => (Lit.int .i64 n).wf) = true) (ha : apartI ks = true) (hl : ks.length ≤ 1000000) :
    ∃ D : DataW Unit, w.ownsMap P kt (fun _ => some (.nil, [])) b ks.length D ∧ Maps.size D ≤ 1000000 ∧ (intKeys D).Perm ks := by
  obtain ⟨en, h1, h2, h3⟩ := hb
  obtain ⟨g1, g2⟩ := keyI_get hk
  have hen : ∀ (i : Nat) (e : MapEntry), en[i]? = some e → ∃ n, e.key = .int .i64 n ∧ ks[i]? = some n ∧ e.born = i := fun i e he => by
    have hi : i < es.length := by rw [← h2]; exact (Array.getElem?_eq_some_iff.1 he).1
    obtain ⟨n, hn1, hn2⟩ := g2 i (es[i]).1 (es[i]).2 (by simp [hi])
    obtain ⟨r1, _, r3, _⟩ := h3 i (es[i]).1 (es[i]).2 e (by simp [hi]) he
    rw [hn1] at r1
    generalize hq : e.key = q at r1
    cases r1
    exact ⟨n, rfl, hn2, r3⟩
  have hkeys : en.toList.map (·.key) = ks.map (Value.int .i64) := by
    apply List.ext_getElem?
    intro i
    rw [List.getElem?_map, List.getElem?_map, Array.getElem?_toList]
    cases he : en[i]? with
    | none =>
      have : ks.length ≤ i := by
        have := Array.getElem?_eq_none_iff.1 he
        omega
      rw [List.getElem?_eq_none this]; rfl
    | some e =>
      obtain ⟨n, q1, q2, _⟩ := hen i e he
      simp [q1, q2]
  have hborn : en.toList.map (·.born) = List.range en.size := by
    apply List.ext_getElem?
    intro i
    rw [List.getElem?_map, Array.getElem?_toList]
    cases he : en[i]? with
    | none =>
      have := Array.getElem?_eq_none_iff.1 he
      rw [List.getElem?_eq_none (by simpa using this)]; rfl
    | some e =>
      obtain ⟨n, _, _, q3⟩ := hen i e he
      have hi := (Array.getElem?_eq_some_iff.1 he).1
      simp [q3, hi]
  have hnd : (ks.map (Value.int .i64)).Nodup := by
    refine List.pairwise_map.2 ((apartI_ok ha).imp (fun h e => h ?_))
    cases e; rfl
  have hrd : ∀ x ∈ en.toList, ∃ n, x.key = .int .i64 n ∧ rd (H := Unit) P kt (fun _ => some (.nil, [])) x = some (.int .i64 n, .nil) := fun x hx => by
    obtain ⟨i, hi, rfl⟩ := List.getElem_of_mem hx
    obtain ⟨n, q1, q2, _⟩ := hen i en[i] (by simp at hi; simp [hi])
    refine ⟨n, by simpa using q1, ?_⟩
    have hwf := List.all_eq_true.1 hw n (List.mem_of_getElem? q2)
    unfold rd
    have : (en.toList[i]).key = .int .i64 n := by simpa using q1
    rw [this]
    simp [keyOf, hkt, mapKey, hwf]
  have hsz : en.size ≤ 1000000 := by rw [h2, ← g1]; exact hl
  have F : WideElems.Fit (H := Unit) P kt (fun _ => some (.nil, [])) en en.size := by
    refine ⟨by unfold maxLen; omega, ⟨fun x hx => ?_, ?_, ?_⟩, fun x hx => ?_⟩
    · obtain ⟨i, hi, rfl⟩ := List.getElem_of_mem hx
      obtain ⟨n, _, _, q3⟩ := hen i en[i] (by simp at hi; simp [hi])
      have hi' : i < en.size := by simpa using hi
      have : (en.toList[i]).born = i := by simpa using q3
      omega
    · rw [hborn]; exact List.nodup_range
    · rw [hkeys]; exact hnd
    · obtain ⟨n, _, h⟩ := hrd x hx; exact ⟨_, h⟩
  have hperm := WideShapes.sorted_perm (H := Unit) (en.toList.map (rg P kt (fun _ => some (.nil, []))))
  refine ⟨_, ⟨en, en.size, h1, F, by omega, rfl⟩, ?_, ?_⟩
  · have := hperm.length_eq
    simp only [Maps.size, List.length_map, Array.length_toList] at this ⊢
    omega
  · have e1 : (en.toList.map (rg (H := Unit) P kt (fun _ => some (.nil, [])))).map (fun p => intOf p.1) = ks := by
      have : (en.toList.map (rg (H := Unit) P kt (fun _ => some (.nil, [])))).map (fun p => Value.int .i64 (intOf p.1)) = ks.map (Value.int .i64) := by
        rw [← hkeys, List.map_map]
        refine List.map_congr_left (fun x hx => ?_)
        obtain ⟨n, q1, q2⟩ := hrd x hx
        simp [rg, q2, intOf, q1]
      have := congrArg (List.map (fun v => match v with
        | .int _ n => n
        | _ => (0 : Int))) this
      simpa [List.map_map, Function.comp_def] using this
    rw [← e1]
    exact hperm.map _
end Go.Proofs.YtigfgicjjhepoaaGreatDoor.VA
set_option linter.unusedVariables false
set_option linter.unusedSimpArgs false
namespace Go.Proofs.YtigfgicjjhepoaaGreatDoor.VA
open Go

/-- What is told ahead: a bool that an operation hands back; the value that it hands back; whether a string's iterator goes on. -/
inductive Told where
  | bit (b : Bool)
  | val (v : PV)
  | res (xs : List PV) (ks : List Key) (v : PV)

inductive Way where
  | no | bit | val | next | call | res | pers | elem | get | put | mk | cut | rows | div

structure Tr where
  tr : List Told
  ob : Prop

def tell (fl : Way) (d : Option Nat) (st : St) (t : Tr) : St × Tr :=
  match fl, d, t.tr with
  | .bit, some d, .bit b :: l => match st.tm d with
    | .bool x => (st.put (some d) (.bool b), ⟨l, x = b ∧ t.ob⟩)
    | _ => (st, t)
  | _, _, _ => (st, t)

def dstAt (ops : Array Oper) (i : Nat) : Option Nat :=
  match ops[i]? with
  | some o => o.dst
  | none => none

def isPR (pol : Pol) (draw : Bool) (op : Op) : Bool :=
  match clsOf pol draw op with
  | .p | .r => true
  | _ => false

/-- The value is given. -/
def giveV (c : Ctx) (draw : Bool) (ops : Array Oper) (i : Nat) (st : St) (v : PV) (l : List Told) (ob : Prop) : Option (St × Tr) :=
  match ops[i]? with
  | none => none
  | some o => if isPR c.pol draw o.op = true then some (st.put o.dst v, ⟨l, stepV c o.op (opv c.pol.glob st.tm) st.hp = some v ∧ ob⟩) else none

/-- Whether a string's iterator goes on. -/
def giveN (c : Ctx) (ops : Array Oper) (i : Nat) (st : St) (b : Bool) (l : List Told) (ob : Prop) : Option (St × Tr) :=
  match ops[i]? with
  | none => none
  | some o => match o.op with
    | .next it true => match opv c.pol.glob st.tm it with
      | .ptr k 1 0 0 => match st.hp.blk k with
        | some (.iter s pos) => if b then
            some ({ tm := (st.put o.dst (.tup [.bool true, .int .i64 pos, .int .i32 (Utf8.decode s pos).1])).tm, hp := st.hp.set k (.iter s (pos + (Utf8.decode s pos).2)) }, ⟨l, pos < s.size ∧ ob⟩)
          else some (st.put o.dst (.tup [.bool false]), ⟨l, ¬ pos < s.size ∧ ob⟩)
        | _ => none
      | _ => none
    | _ => none

/-- What a call hands back is given. -/
def giveC (c : Ctx) (O : Orc) (draw : Bool) (ops : Array Oper) (i : Nat) (st : St) (v : PV) (l : List Told) (ob : Prop) : Option (St × Tr) :=
  match ops[i]? with
  | none => none
  | some o => match callee o.op (opv c.pol.glob st.tm) with
    | none => none
    | some (f, args) => match c.pol.mode f, drL st.hp 12 args with
      | .pure, some (xs, ks) => some ({ tm := (st.put o.dst v).tm, hp := st.hp.freeze (if v.flat then [] else ks) }, ⟨l, O.pure f xs = some v ∧ ob⟩)
      | _, _ => none

/-- What a call hands back is given, and what its arguments read as. -/
def giveR (c : Ctx) (O : Orc) (ops : Array Oper) (i : Nat) (st : St) (xs : List PV) (ks : List Key) (v : PV) (l : List Told) (ob : Prop) : Option (St × Tr) :=
  match ops[i]? with
  | none => none
  | some o => match callee o.op (opv c.pol.glob st.tm) with
    | none => none
    | some (f, args) => match c.pol.mode f with
      | .pure => some ({ tm := (st.put o.dst v).tm, hp := st.hp.freeze (if v.flat then [] else ks) }, ⟨l, drL st.hp 12 args = some (xs, ks) ∧ O.pure f xs = some v ∧ ob⟩)
      | _ => none

/-- What a call hands back is given; its arguments are without keys. -/
def giveP (c : Ctx) (O : Orc) (ops : Array Oper) (i : Nat) (st : St) (v : PV) (l : List Told) (ob : Prop) : Option (St × Tr) :=
  match ops[i]? with
  | none => none
  | some o => match callee o.op (opv c.pol.glob st.tm) with
    | none => none
    | some (f, args) => match c.pol.mode f with
      | .pure => some ({ tm := (st.put o.dst v).tm, hp := st.hp.freeze [] }, ⟨l, PV.persL args = true ∧ O.pure f args = some v ∧ ob⟩)
      | _ => none

/-- An element's address: of a list's element that is told, or of a row's. -/
def giveE (c : Ctx) (ops : Array Oper) (i : Nat) (st : St) (e : PV) (l : List Told) (ob : Prop) : Option (St × Tr) :=
  match ops[i]? with
  | none => none
  | some o => match o.op with
    | .indexAddr t x j => match c.P.underlying t, opv c.pol.glob st.tm x, opv c.pol.glob st.tm j with
      | some (.slice el), .sl _ xs, .int _ n => match szT c.P el with
        | some m => if e.cells.length = m ∧ 0 < m then some (st.put o.dst (.pp e.cells 0), ⟨l, (0 ≤ n ∧ xs[n.toNat]? = some e) ∧ ob⟩) else none
        | none => none
      | some (.slice el), .ms k sz off len, .int _ n => match szT c.P el with
        | some m => if m = sz ∧ 0 < m then some (st.put o.dst (.ptr k m (off + n.toNat) 0), ⟨l, (0 ≤ n ∧ n < len) ∧ ob⟩) else none
        | none => none
      | _, _, _ => none
    | _ => none

/-- What a row's element, that is told, holds. -/
def giveG (c : Ctx) (ops : Array Oper) (i : Nat) (st : St) (e : PV) (l : List Told) (ob : Prop) : Option (St × Tr) :=
  match ops[i]? with
  | none => none
  | some o => match o.op with
    | .load t a => match szT c.P t, opv c.pol.glob st.tm a with
      | some n, .ptr k sz q j => match st.hp.blk k with
        | some (.row z els _) => if z = sz then match (cut e.cells j n).bind (asType c.P t) with
            | some v => some (st.put o.dst v, ⟨l, els[q]? = some e ∧ ob⟩)
            | none => none
          else none
        | _ => none
      | _, _ => none
    | _ => none

/-- A store into a row's element, that is told. -/
def giveS (c : Ctx) (ops : Array Oper) (i : Nat) (st : St) (e : PV) (l : List Told) (ob : Prop) : Option (St × Tr) :=
  match ops[i]? with
  | none => none
  | some o => match o.op with
    | .store t a x => match opv c.pol.glob st.tm a, szT c.P t with
      | .ptr k sz q j, some n => match st.hp.blk k with
        | some (.row z els false) => let v := opv c.pol.glob st.tm x
          if (z = sz ∧ v.cells.length = n ∧ 0 < n ∧ v.cells.all oneV = true) ∧ j + n ≤ e.cells.length ∧ elemOk (putCells e.cells j v.cells) = true then
            some ({ tm := (st.put o.dst (.tup [])).tm, hp := st.hp.set k (.row sz (els.set q (elemOf (putCells e.cells j v.cells))) false) }, ⟨l, els[q]? = some e ∧ ob⟩)
          else none
        | _ => none
      | _, _ => none
    | _ => none

/-- A new row. -/
def giveM (c : Ctx) (ops : Array Oper) (i : Nat) (st : St) (l : List Told) (ob : Prop) : Option (St × Tr) :=
  match ops[i]? with
  | none => none
  | some o => match o.op, o.dst with
    | .makeSlice t x y, some d => match elemT c.P t with
      | some e => match szT c.P e, byT c.P e, zeroT c.P e, opv c.pol.glob st.tm x, opv c.pol.glob st.tm y with
        | some n, some by_, some z, .int .i64 a, .int .i64 b => if elemOk z = true ∧ z.length = n then
            some ({ tm := (st.put (some d) (.ms (st.hp.next c.path d) n 0 a.toNat)).tm, hp := st.hp.alloc c.path d (.row n (List.replicate a.toNat (elemOf z)) false) },
              ⟨l, (a = b ∧ 0 ≤ a ∧ (by_ : Int) * a ≤ 281474976710656 ∧ a ≤ 281474976710656) ∧ ob⟩) else none
        | _, _, _, _, _ => none
      | none => none
    | _, _ => none

def intOf : PV → Option Int
  | .int _ n => some n
  | _ => none

/-- A part of a list or a row. -/
def giveK (c : Ctx) (ops : Array Oper) (i : Nat) (st : St) (w : PV) (l : List Told) (ob : Prop) : Option (St × Tr) :=
  match ops[i]? with
  | none => none
  | some o => match o.op with
    | .slice t x lo hi none => match c.P.underlying t, opv c.pol.glob st.tm x with
      | some (.slice e), .sl f xs => match szT c.P e, intOf ((lo.map (opv c.pol.glob st.tm)).getD (.int .i64 0)), intOf ((hi.map (opv c.pol.glob st.tm)).getD (.int .i64 xs.length)) with
        | some n, some a, some b => if 0 < n then some (st.put o.dst w, ⟨l, (allSz n xs = true ∧ (0 ≤ a ∧ a ≤ b ∧ b ≤ xs.length) ∧ PV.sl (f && decide (b = xs.length)) ((xs.drop a.toNat).take (b.toNat - a.toNat)) = w) ∧ ob⟩) else none
        | _, _, _ => none
      | some (.slice e), .ms k sz off len => match szT c.P e, intOf ((lo.map (opv c.pol.glob st.tm)).getD (.int .i64 0)), intOf ((hi.map (opv c.pol.glob st.tm)).getD (.int .i64 len)) with
        | some n, some a, some b => if n = sz then some (st.put o.dst w, ⟨l, ((0 ≤ a ∧ a ≤ b ∧ b ≤ len) ∧ PV.ms k sz (off + a.toNat) (b.toNat - a.toNat) = w) ∧ ob⟩) else none
        | _, _, _ => none
      | _, _ => none
    | _ => none

/-- A quotient or a rest. -/
def giveD (c : Ctx) (ops : Array Oper) (i : Nat) (st : St) (w : PV) (l : List Told) (ob : Prop) : Option (St × Tr) :=
  match ops[i]? with
  | none => none
  | some o => match o.op with
    | .binOp .quo t x y _ => match opv c.pol.glob st.tm x, opv c.pol.glob st.tm y with
      | .int k a, .int k' b => if k = k' then some (st.put o.dst w, ⟨l, (b ≠ 0 ∧ PV.int k (k.wrap (a.tdiv b)) = w) ∧ ob⟩) else none
      | _, _ => none
    | .binOp .rem t x y _ => match opv c.pol.glob st.tm x, opv c.pol.glob st.tm y with
      | .int k a, .int k' b => if k = k' then some (st.put o.dst w, ⟨l, (b ≠ 0 ∧ PV.int k (a.tmod b) = w) ∧ ob⟩) else none
      | _, _ => none
    | _ => none

/-- An argument that is read: a row, or what has no key. -/
def argP (H : Heap) : PV → Option (PV × List Key × Prop)
  | .ms k sz off len => match H.blk k with
    | some (.row z els _) => if z = sz then if off = 0 then some (.sl false els, (if len = 0 then [] else [k]), (len = els.length ∧ PV.persL els = true ∧ allSz sz els = true)) else
        match cut els off len with
        | some part => some (.sl false part, (if len = 0 then [] else [k]), (PV.persL part = true ∧ allSz sz part = true))
        | none => none
      else none
    | _ => none
  | v => some (v, [], v.pers = true)
def argsP (H : Heap) : List PV → Option (List PV × List Key × Prop)
  | [] => some ([], [], True)
  | v :: l => match argP H v, argsP H l with
    | some (x, ks, p), some (xs, js, q) => some (x :: xs, ks ++ js, p ∧ q)
    | _, _ => none

/-- A call that reads rows: what it hands back is given, and the rows that are frozen then. -/
def giveW (c : Ctx) (O : Orc) (ops : Array Oper) (i : Nat) (st : St) (ks : List Key) (v : PV) (l : List Told) (ob : Prop) : Option (St × Tr) :=
  match ops[i]? with
  | none => none
  | some o => match callee o.op (opv c.pol.glob st.tm) with
    | none => none
    | some (f, args) => match c.pol.mode f, argsP st.hp args, Nat.ble args.length 9 with
      | .pure, some (xs, js, p), true => some ({ tm := (st.put o.dst v).tm, hp := st.hp.freeze ks }, ⟨l, (p ∧ (if v.flat = true then [] else js) = ks ∧ O.pure f xs = some v) ∧ ob⟩)
      | _, _, _ => none

def wantAt (ops : Array Oper) (i : Nat) (st : St) : Option Bool :=
  match ops[i]? with
  | none => none
  | some o => wantedV ops o st

def evXStep (c : Ctx) (O : Orc) (fl : Way) (draw : Bool) (ops : Array Oper) (i : Nat) (st : St) (t : Tr) : Option (St × Tr) :=
  match fl, t.tr, wantAt ops i st with
  | .val, .val v :: l, some true => giveV c draw ops i st v l t.ob
  | .next, .bit b :: l, some true => giveN c ops i st b l t.ob
  | .call, .val v :: l, some true => giveC c O draw ops i st v l t.ob
  | .res, .res xs ks v :: l, some true => giveR c O ops i st xs ks v l t.ob
  | .pers, .val v :: l, some true => giveP c O ops i st v l t.ob
  | .elem, .val e :: l, some true => giveE c ops i st e l t.ob
  | .get, .val e :: l, some true => giveG c ops i st e l t.ob
  | .put, .val e :: l, some true => giveS c ops i st e l t.ob
  | .mk, _, some true => giveM c ops i st t.tr t.ob
  | .cut, .val w :: l, some true => giveK c ops i st w l t.ob
  | .div, .val w :: l, some true => giveD c ops i st w l t.ob
  | .rows, .res _ ks v :: l, some true => giveW c O ops i st ks v l t.ob
  | _, _, _ => match evStep c O draw ops i st with
    | none => none
    | some st1 => some (tell fl (dstAt ops i) st1 t)

def evXList (c : Ctx) (O : Orc) (fl : Nat → Way) (draw : Bool) (ops : Array Oper) : List Nat → St → Tr → Option (St × Tr)
  | [], st, t => some (st, t)
  | i :: l, st, t => match evXStep c O (fl i) draw ops i st t with
    | none => none
    | some r => evXList c O fl draw ops l r.1 r.2

def rowB : Option Blk → Bool
  | none => true
  | some (.row ..) => true
  | _ => false
/-- Sameness as a word, not as a test. -/
def sameK (st st' : St) : List Key → Prop
  | [] => True
  | k :: ks => (rowB (st.hp.blk k) = true ∧ st.hp.blk k = st'.hp.blk k) ∧ sameK st st' ks
def dedupK : List Key → List Key
  | [] => []
  | k :: l => if l.any (fun j => decide (j = k)) = true then dedupK l else k :: dedupK l
def sameP (st st' : St) (ks : List Key) : List (Option Nat) → Prop
  | [] => sameK st st' (dedupK ks)
  | none :: ds => sameP st st' ks ds
  | some d :: ds => st.tm d = st'.tm d ∧ sameP st st' ks ds
def sameR (c : Ctx) (O : Orc) (ops : Array Oper) (st st0 : St) (ks : List Key) : List (List Nat) → Option Prop
  | [] => some True
  | l :: rs => match evListT c O ops l st with
    | none => none
    | some (st1, ks1) => match sameR c O ops st st0 ks rs with
      | none => none
      | some p => some (sameP st0 st1 (ks ++ ks1) (ops.toList.map (·.dst)) ∧ p)

mutual
theorem PV.beq_refl : ∀ a : PV, PV.beq a a = true
  | .bool _ | .int _ _ | .str _ | .nilp | .nilfn | .nilm | .nilif | .junk | .mapr _ | .yld _ => by simp [PV.beq]
  | .ms _ _ _ _ | .ptr _ _ _ _ => by simp [PV.beq]
  | .agg l | .tup l => by simp only [PV.beq]; exact PV.beqL_refl l
  | .sl f l => by simp only [PV.beq, PV.beqL_refl l, beq_self_eq_true, Bool.and_self]
  | .pp l o => by simp only [PV.beq, PV.beqL_refl l, Nat.beq_refl, Bool.and_self]
  | .fn f a b => by simp only [PV.beq, PV.beqL_refl a, PV.beqL_refl b, Nat.beq_refl, Bool.and_self]
theorem PV.beqL_refl : ∀ a : List PV, PV.beqL a a = true
  | [] => rfl
  | x :: l => by simp only [PV.beqL, PV.beq_refl x, PV.beqL_refl l, Bool.and_self]
end
theorem rowB_refl {b : Option Blk} (h : rowB b = true) : Blk.beq b b = true := by
  unfold rowB at h
  split at h
  · rfl
  · simp only [Blk.beq, PV.beqL_refl, Nat.beq_refl, beq_self_eq_true, Bool.and_self]
  · cases h
theorem sameK_mem {st st' : St} : ∀ {ks : List Key}, sameK st st' ks → ∀ k ∈ ks, rowB (st.hp.blk k) = true ∧ st.hp.blk k = st'.hp.blk k
  | k :: ks, h, j, hj => by
    rcases List.mem_cons.1 hj with rfl | hj
    · exact h.1
    · exact sameK_mem h.2 j hj
theorem mem_dedupK : ∀ {ks : List Key} {k : Key}, k ∈ ks → k ∈ dedupK ks
  | j :: ks, k, h => by
    unfold dedupK
    split
    · rename_i hc
      rcases List.mem_cons.1 h with rfl | h
      · obtain ⟨i, hi, e⟩ := List.any_eq_true.1 hc
        have : i = k := by simpa using e
        subst this
        exact mem_dedupK hi
      · exact mem_dedupK h
    · rcases List.mem_cons.1 h with rfl | h
      · exact List.mem_cons_self ..
      · exact List.mem_cons_of_mem _ (mem_dedupK h)
theorem sameK_all {st st' : St} {ks : List Key} (h : sameK st st' (dedupK ks)) : (ks.all fun k => Blk.beq (st.hp.blk k) (st'.hp.blk k)) = true := by
  rw [List.all_eq_true]
  intro k hk
  obtain ⟨h1, h2⟩ := sameK_mem h k (mem_dedupK hk)
  rw [← h2, rowB_refl h1]
theorem sameP_all {st st' : St} {ks : List Key} : ∀ {ds : List (Option Nat)}, sameP st st' ks ds → (ds.filterMap id).all (fun d => PV.beq (st.tm d) (st'.tm d)) = true ∧ sameK st st' (dedupK ks)
  | [], h => ⟨rfl, h⟩
  | none :: ds, h => sameP_all (ds := ds) h
  | some d :: ds, h => by
    obtain ⟨h1, h2⟩ := h
    obtain ⟨g1, g2⟩ := sameP_all (ds := ds) h2
    refine ⟨?_, g2⟩
    simp only [List.filterMap_cons, id_eq, List.all_cons, g1, Bool.and_true, ← h1, PV.beq_refl]
theorem sameP_B {ops : Array Oper} {st st' : St} {ks : List Key} (h : sameP st st' ks (ops.toList.map (·.dst))) : sameB ops st st' ks = true := by
  obtain ⟨h1, h2⟩ := sameP_all h
  have e : ops.toList.filterMap (·.dst) = (ops.toList.map (·.dst)).filterMap id := by
    rw [List.filterMap_map]; rfl
  unfold sameB
  rw [e, h1, sameK_all h2]; rfl
theorem sameR_all {c : Ctx} {O : Orc} {ops : Array Oper} {st st0 : St} {ks : List Key} : ∀ {rs : List (List Nat)} {p : Prop}, sameR c O ops st st0 ks rs = some p → p → (rs.all fun l => match evListT c O ops l st with
        | some (st1, ks1) => sameB ops st0 st1 (ks ++ ks1)
        | none => false) = true
  | [], p, h, hp => rfl
  | l :: rs, p, h, hp => by
    simp only [sameR] at h
    split at h
    · cases h
    rename_i st1 ks1 h1
    split at h
    · cases h
    rename_i q hq
    simp only [Option.some.injEq] at h
    subst h
    simp only [List.all_cons, h1, sameP_B hp.1, sameR_all hq hp.2, Bool.and_self]

def evXRegion (c : Ctx) (O : Orc) (fl : Nat → Nat → Way) (id : Nat) (ops : Array Oper) (draw : Bool) (st : St) (t : Tr) : Option (St × Tr) :=
  match draw, c.pol.reps c.fn id with
  | true, r :: rs => match evListT c O ops (List.range ops.size) st with
    | none => none
    | some (st0, ks) => if ops.toList.all (plainOp c.pol) = true then match sameR c O ops st st0 ks (r :: rs) with
        | some p => some (st0, ⟨t.tr, p ∧ t.ob⟩)
        | none => none
      else none
  | d, _ => evXList c O (fl id) d ops (List.range ops.size) st t

def evXCode (c : Ctx) (O : Orc) (fl : Nat → Nat → Way) : Nat → Code → St → Tr → Option (Ex × St × Tr)
  | 0, _, _, _ => none
  | _ + 1, .skip, st, t => some (.normal, st, t)
  | _ + 1, .region id ops draw, st, t => (evXRegion c O fl id ops draw st t).map fun r => (.normal, r.1, r.2)
  | n + 1, .seq a b, st, t => match evXCode c O fl n a st t with
    | some (.normal, st', t') => evXCode c O fl n b st' t'
    | r => r
  | n + 1, .cond x a b, st, t => match opv c.pol.glob st.tm x with
    | .bool z => evXCode c O fl n (if z then a else b) st t
    | _ => none
  | n + 1, .block id a, st, t => match evXCode c O fl n a st t with
    | some (.exit j, st', t') => if j = id then some (.normal, st', t') else some (.exit j, st', t')
    | r => r
  | n + 1, .loop a, st, t => match evXCode c O fl n a st t with
    | some (.normal, st', t') => evXCode c O fl n (.loop a) st' t'
    | r => r
  | _ + 1, .exit id, st, t => some (.exit id, st, t)
  | _ + 1, .ret, st, t => some (.ret, st, t)
  | _, _, _, _ => none

def evXBody (P : Program) (pol : Pol) (O : Orc) (fl : Nat → Nat → Way) (n : Nat) (path : List Nat) (f : FuncId) (args : List PV) (H : Heap) (t : Tr) : Option (PV × Heap × Tr) :=
  match P.funcs[f]? with
  | none => none
  | some fn => match fn.body with
    | none => none
    | some body => if args.length ≤ fn.ntmps ∧ pol.use f = true then match evXCode ⟨P, pol, path, f⟩ O fl n body (startSt args H) t with
      | some (.normal, st, t') | some (.ret, st, t') => (resultsV ⟨P, pol, path, f⟩ st fn.results.toList).map fun r => (r, st.hp, t')
      | _ => none
      else none

def evXPure (P : Program) (pol : Pol) (O : Orc) (fl : Nat → Nat → Way) (n : Nat) (f : FuncId) (args : List PV) (tr : List Told) : Option (PV × Prop) :=
  if PV.persL args = true then
    match evXBody P pol O fl n [] f args Heap.empty ⟨tr, True⟩ with
    | some (r, H, t) => (dr H 12 r).map fun x => (x.1, t.ob)
    | none => none
  else none

variable {c : Ctx} {O : Orc} {P : Program} {pol : Pol}

theorem tell_ok {fl : Way} {d : Option Nat} {st st' : St} {t t' : Tr} (h : tell fl d st t = (st', t')) (ho : t'.ob) : st' = st ∧ t.ob := by
  unfold tell at h
  split at h
  · rename_i d b l htr
    split at h
    · rename_i x hx
      simp only [Prod.mk.injEq] at h
      obtain ⟨rfl, rfl⟩ := h
      obtain ⟨rfl, ho⟩ := ho
      refine ⟨?_, ho⟩
      obtain ⟨tm, hp⟩ := st
      simp only [St.put]
      congr 1
      funext i
      split
      · rename_i e; subst e; exact hx.symm
      · rfl
    · simp only [Prod.mk.injEq] at h
      obtain ⟨rfl, rfl⟩ := h
      exact ⟨rfl, ho⟩
  · simp only [Prod.mk.injEq] at h
    obtain ⟨rfl, rfl⟩ := h
    exact ⟨rfl, ho⟩

theorem call_step {draw : Bool} {ops : Array Oper} {i : Nat} {st : St} {o : Oper} {f : FuncId} {args : List PV} {v : PV} {ks : List Key} (hi : ops[i]? = some o) (hw : wantedV ops o st = some true) (hca : callee o.op (opv c.pol.glob st.tm) = some (f, args))
    (hm : c.pol.mode f = .pure) (hsc : stepC c O f args st.hp = some (v, if v.flat then [] else ks)) :
    evStep c O draw ops i st = some { tm := (st.put o.dst v).tm, hp := st.hp.freeze (if v.flat then [] else ks) } := by
  unfold evStep
  simp only [hi, hw]
  unfold evOp
  obtain ⟨dst, op, ty, pos, after, guard⟩ := o
  dsimp only at *
  cases op with
  | call k =>
    obtain ⟨cal, as', ats⟩ := k
    cases cal with
    | builtin b => simp [callee] at hca
    | invoke r n => simp [callee] at hca
    | value g =>
      have hc0 := hca
      simp only [callee] at hca
      split at hca
      rotate_left
      · cases hca
      rename_i f' first cap hg
      simp only [Option.some.injEq, Prod.mk.injEq] at hca
      obtain ⟨rfl, rfl⟩ := hca
      have hC : ∀ d, evEff c O d ⟨dst, .call ⟨.value g, as', ats⟩, ty, pos, after, guard⟩ (opv c.pol.glob st.tm) st.hp = (if clsOf c.pol d (.call ⟨.value g, as', ats⟩) = .c then some (v, .frz (if v.flat then [] else ks)) else evEff c O d ⟨dst, .call ⟨.value g, as', ats⟩, ty, pos, after, guard⟩ (opv c.pol.glob st.tm) st.hp) := fun d => by
        split
        · rename_i e
          unfold evEff
          simp only [e, hc0, hsc, Option.map_some]
        · rfl
      cases g with
      | func f0 =>
        simp only [opv, PV.fn.injEq] at hg
        obtain ⟨rfl, _, _⟩ := hg
        have hcl : clsOf c.pol draw (.call ⟨.value (.func f0), as', ats⟩) = .c := by simp only [clsOf, hm]
        simp only [hcl]
        rw [hC draw, if_pos hcl]
        rfl
      | _ =>
        cases draw with
        | true =>
          rw [hC true]
          rfl
        | false =>
          show (stepW c O dst _ (opv c.pol.glob st.tm) st.hp).map _ = _
          simp only [stepW, hg, hm, hsc, Option.map_some]
  | _ => simp [callee] at hca

theorem giveE_ok {draw : Bool} {ops : Array Oper} {i : Nat} {st st' : St} {e : PV} {l : List Told} {t' : Tr} {ob : Prop} (hw : wantAt ops i st = some true) (h : giveE c ops i st e l ob = some (st', t')) (ho : t'.ob) : evStep c O draw ops i st = some st' ∧ ob := by
  unfold wantAt at hw
  unfold giveE at h
  split at h
  · cases h
  rename_i o hi
  simp only [hi] at hw
  split at h
  rotate_left
  · cases h
  rename_i t x j hop
  have hcl : clsOf c.pol draw o.op = .p := by rw [hop]; rfl
  have key : ∀ v, stepV c o.op (opv c.pol.glob st.tm) st.hp = some v → evStep c O draw ops i st = some (st.put o.dst v) := by
    intro v hv
    unfold evStep
    simp only [hi, hw]
    unfold evOp
    simp only [hcl, evEff, hv, Option.map_some, Eff.app]
    cases o.dst <;> rfl
  split at h
  · rename_i el f xs kk n hu hx hj
    split at h
    rotate_left
    · cases h
    rename_i m hm
    split at h
    rotate_left
    · cases h
    rename_i hc
    simp only [Option.some.injEq, Prod.mk.injEq] at h
    obtain ⟨rfl, rfl⟩ := h
    obtain ⟨⟨h1, h2⟩, h3⟩ := ho
    refine ⟨key _ ?_, h3⟩
    rw [hop]
    simp only [stepV, hu, hx, hj, if_pos h1, h2, hm, if_pos hc]
  · rename_i el k sz off len kk n hu hx hj
    split at h
    rotate_left
    · cases h
    rename_i m hm
    split at h
    rotate_left
    · cases h
    rename_i hc
    simp only [Option.some.injEq, Prod.mk.injEq] at h
    obtain ⟨rfl, rfl⟩ := h
    obtain ⟨⟨h1, h2⟩, h3⟩ := ho
    refine ⟨key _ ?_, h3⟩
    rw [hop]
    simp only [stepV, hu, hx, hj, hm]
    rw [if_pos ⟨hc.1, h1, h2, hc.2⟩]
  · cases h

theorem giveG_ok {draw : Bool} {ops : Array Oper} {i : Nat} {st st' : St} {e : PV} {l : List Told} {t' : Tr} {ob : Prop} (hw : wantAt ops i st = some true) (h : giveG c ops i st e l ob = some (st', t')) (ho : t'.ob) : evStep c O draw ops i st = some st' ∧ ob := by
  unfold wantAt at hw
  unfold giveG at h
  split at h
  · cases h
  rename_i o hi
  simp only [hi] at hw
  split at h
  rotate_left
  · cases h
  rename_i t a hop
  have hcl : clsOf c.pol draw o.op = .r := by rw [hop]; rfl
  have key : ∀ v, stepV c o.op (opv c.pol.glob st.tm) st.hp = some v → evStep c O draw ops i st = some (st.put o.dst v) := by
    intro v hv
    unfold evStep
    simp only [hi, hw]
    unfold evOp
    simp only [hcl, evEff, hv, Option.map_some, Eff.app]
    cases o.dst <;> rfl
  split at h
  rotate_left
  · cases h
  rename_i n k sz q j hn ha
  split at h
  rotate_left
  · cases h
  rename_i z els fz hb
  split at h
  rotate_left
  · cases h
  rename_i hz
  split at h
  rotate_left
  · cases h
  rename_i v hv
  simp only [Option.some.injEq, Prod.mk.injEq] at h
  obtain ⟨rfl, rfl⟩ := h
  obtain ⟨h1, h3⟩ := ho
  refine ⟨key _ ?_, h3⟩
  rw [hop]
  simp only [stepV, loadV, hn, ha, hb, if_pos hz, h1, hv]

theorem giveS_ok {draw : Bool} {ops : Array Oper} {i : Nat} {st st' : St} {e : PV} {l : List Told} {t' : Tr} {ob : Prop} (hw : wantAt ops i st = some true) (h : giveS c ops i st e l ob = some (st', t')) (ho : t'.ob) : evStep c O draw ops i st = some st' ∧ ob := by
  unfold wantAt at hw
  unfold giveS at h
  split at h
  · cases h
  rename_i o hi
  simp only [hi] at hw
  split at h
  rotate_left
  · cases h
  rename_i t a x hop
  have hcl : clsOf c.pol draw o.op = .w := by rw [hop]; rfl
  split at h
  rotate_left
  · cases h
  rename_i k sz q j n ha hn
  split at h
  rotate_left
  · cases h
  rename_i z els hb
  simp only at h
  split at h
  rotate_left
  · cases h
  rename_i hc
  simp only [Option.some.injEq, Prod.mk.injEq] at h
  obtain ⟨rfl, rfl⟩ := h
  obtain ⟨h1, h3⟩ := ho
  refine ⟨?_, h3⟩
  unfold evStep
  simp only [hi, hw]
  unfold evOp
  have hcl2 : clsOf c.pol draw (.store t a x) = .w := rfl
  simp only [hop, hcl2, stepW, storeV, ha, hn, hb, if_pos hc.1, h1, if_pos hc.2, Option.map_some]

theorem giveM_ok {draw : Bool} {ops : Array Oper} {i : Nat} {st st' : St} {l : List Told} {t' : Tr} {ob : Prop} (hw : wantAt ops i st = some true) (h : giveM c ops i st l ob = some (st', t')) (ho : t'.ob) : evStep c O draw ops i st = some st' ∧ ob := by
  unfold wantAt at hw
  unfold giveM at h
  split at h
  · cases h
  rename_i o hi
  simp only [hi] at hw
  split at h
  rotate_left
  · cases h
  rename_i t x y d hop hd
  have hcl : clsOf c.pol draw o.op = .n := by rw [hop]; rfl
  split at h
  rotate_left
  · cases h
  rename_i e he
  split at h
  rotate_left
  · cases h
  rename_i n by_ z a b hn hby hz ha hb
  split at h
  rotate_left
  · cases h
  rename_i hc
  simp only [Option.some.injEq, Prod.mk.injEq] at h
  obtain ⟨rfl, rfl⟩ := h
  obtain ⟨⟨h1, h2, h4, h5⟩, h3⟩ := ho
  refine ⟨?_, h3⟩
  unfold evStep
  simp only [hi, hw]
  unfold evOp
  simp only [hcl, evEff, hd, hop, stepN, he, hn, hby, hz, ha, hb]
  rw [if_pos ⟨h1, h2, h4, h5, hc.1, hc.2⟩]
  rfl

theorem intOf_eq {v : PV} {n : Int} (h : intOf v = some n) : ∃ k, v = .int k n := by
  cases v <;> simp [intOf] at h
  exact ⟨_, by rw [h]⟩

theorem giveK_ok {draw : Bool} {ops : Array Oper} {i : Nat} {st st' : St} {w : PV} {l : List Told} {t' : Tr} {ob : Prop} (hw : wantAt ops i st = some true) (h : giveK c ops i st w l ob = some (st', t')) (ho : t'.ob) : evStep c O draw ops i st = some st' ∧ ob := by
  unfold wantAt at hw
  unfold giveK at h
  split at h
  · cases h
  rename_i o hi
  simp only [hi] at hw
  split at h
  rotate_left
  · cases h
  rename_i t x lo hi' hop
  have hcl : clsOf c.pol draw o.op = .p := by rw [hop]; rfl
  have key : ∀ v, stepV c o.op (opv c.pol.glob st.tm) st.hp = some v → evStep c O draw ops i st = some (st.put o.dst v) := by
    intro v hv
    unfold evStep
    simp only [hi, hw]
    unfold evOp
    simp only [hcl, evEff, hv, Option.map_some, Eff.app]
    cases o.dst <;> rfl
  split at h
  · rename_i e f xs hu hx
    split at h
    rotate_left
    · cases h
    rename_i n a b hn ha hb
    split at h
    rotate_left
    · cases h
    rename_i hc
    simp only [Option.some.injEq, Prod.mk.injEq] at h
    obtain ⟨rfl, rfl⟩ := h
    obtain ⟨⟨h1, h2, h4⟩, h3⟩ := ho
    obtain ⟨ka, ha⟩ := intOf_eq ha
    obtain ⟨kb, hb⟩ := intOf_eq hb
    refine ⟨key _ ?_, h3⟩
    rw [hop]
    have he : elemT c.P t = some e := by unfold elemT; simp only [hu]
    simp only [stepV, hu, sliceV, hx, he, Option.bind_some, hn, Option.map_none, ha, hb]
    rw [if_pos ⟨hc, h1⟩, if_pos h2, h4]
  · rename_i e k sz off len hu hx
    split at h
    rotate_left
    · cases h
    rename_i n a b hn ha hb
    split at h
    rotate_left
    · cases h
    rename_i hc
    simp only [Option.some.injEq, Prod.mk.injEq] at h
    obtain ⟨rfl, rfl⟩ := h
    obtain ⟨⟨h2, h4⟩, h3⟩ := ho
    obtain ⟨ka, ha⟩ := intOf_eq ha
    obtain ⟨kb, hb⟩ := intOf_eq hb
    refine ⟨key _ ?_, h3⟩
    rw [hop]
    have he : elemT c.P t = some e := by unfold elemT; simp only [hu]
    simp only [stepV, hu, sliceV, hx, he, Option.bind_some, hn, Option.map_none, ha, hb]
    rw [if_pos ⟨hc, h2⟩, h4]
  · cases h

theorem giveD_ok {draw : Bool} {ops : Array Oper} {i : Nat} {st st' : St} {w : PV} {l : List Told} {t' : Tr} {ob : Prop} (hw : wantAt ops i st = some true) (h : giveD c ops i st w l ob = some (st', t')) (ho : t'.ob) : evStep c O draw ops i st = some st' ∧ ob := by
  unfold wantAt at hw
  unfold giveD at h
  split at h
  · cases h
  rename_i o hi
  simp only [hi] at hw
  have key : ∀ {bo : BinOp} {t : TypeId} {x y : Operand} {z : TypeId}, o.op = .binOp bo t x y z → ∀ v, stepV c o.op (opv c.pol.glob st.tm) st.hp = some v → evStep c O draw ops i st = some (st.put o.dst v) := by
    intro bo t x y z hop v hv
    have hcl : clsOf c.pol draw o.op = .p := by rw [hop]; rfl
    unfold evStep
    simp only [hi, hw]
    unfold evOp
    simp only [hcl, evEff, hv, Option.map_some, Eff.app]
    cases o.dst <;> rfl
  split at h
  · rename_i t x y z hop
    split at h
    rotate_left
    · cases h
    rename_i k a k' b hx hy
    split at h
    rotate_left
    · cases h
    rename_i hk
    subst hk
    simp only [Option.some.injEq, Prod.mk.injEq] at h
    obtain ⟨rfl, rfl⟩ := h
    obtain ⟨⟨h1, rfl⟩, h2⟩ := ho
    refine ⟨key hop _ ?_, h2⟩
    rw [hop]
    simp only [stepV, hx, hy, binV, ne_eq, not_true_eq_false, if_false, if_neg h1]
  · rename_i t x y z hop
    split at h
    rotate_left
    · cases h
    rename_i k a k' b hx hy
    split at h
    rotate_left
    · cases h
    rename_i hk
    subst hk
    simp only [Option.some.injEq, Prod.mk.injEq] at h
    obtain ⟨rfl, rfl⟩ := h
    obtain ⟨⟨h1, rfl⟩, h2⟩ := ho
    refine ⟨key hop _ ?_, h2⟩
    rw [hop]
    simp only [stepV, hx, hy, binV, ne_eq, not_true_eq_false, if_false, if_neg h1]
  · cases h

theorem dr_self {H : Heap} {n : Nat} {v : PV} (h : v.pers = true) : dr H n v = some (v, []) := by
  cases n <;> (unfold dr; rw [if_pos h])
theorem drL_self {H : Heap} {n : Nat} {l : List PV} (h : PV.persL l = true) : drL H n l = some (l, []) := by
  cases n <;> (unfold drL; rw [if_pos h])
theorem argP_ok {H : Heap} {v x : PV} {ks : List Key} {p : Prop} (h : argP H v = some (x, ks, p)) (hp : p) {n : Nat} (hn : 1 ≤ n) : dr H n v = some (x, ks) ∧ (v.pers = true → x = v ∧ ks = []) := by
  unfold argP at h
  split at h
  · rename_i k sz off len
    split at h
    rotate_left
    · cases h
    rename_i z els fz hb
    split at h
    rotate_left
    · cases h
    rename_i hz
    subst hz
    have key : ∀ {part : List PV}, cut els off len = some part → PV.persL part = true → allSz z part = true → dr H n (.ms k z off len) = some (.sl false part, if len = 0 then [] else [k]) := by
      intro part hcut h2 h3
      obtain ⟨m, rfl⟩ : ∃ m, n = m + 1 := ⟨n - 1, by omega⟩
      unfold dr
      rw [if_neg (by simp [PV.pers])]
      by_cases h0 : len = 0
      · subst h0
        have : part = [] := by
          unfold cut at hcut
          split at hcut
          · simp at hcut; exact hcut
          · cases hcut
        subst this
        simp
      · simp only [if_neg h0, hb, if_true, hcut, drL_self h2, h3]
    split at h
    · rename_i hoff
      simp only [Option.some.injEq, Prod.mk.injEq] at h
      obtain ⟨rfl, rfl, rfl⟩ := h
      obtain ⟨rfl, h2, h3⟩ := hp
      subst hoff
      exact ⟨key (by unfold cut; rw [if_pos (by omega)]; simp) h2 h3, fun e => by simp [PV.pers] at e⟩
    · split at h
      · rename_i part hcut
        simp only [Option.some.injEq, Prod.mk.injEq] at h
        obtain ⟨rfl, rfl, rfl⟩ := h
        exact ⟨key hcut hp.1 hp.2, fun e => by simp [PV.pers] at e⟩
      · cases h
  · simp only [Option.some.injEq, Prod.mk.injEq] at h
    obtain ⟨rfl, rfl, rfl⟩ := h
    exact ⟨dr_self hp, fun _ => ⟨rfl, rfl⟩⟩
theorem argsP_ok {H : Heap} : ∀ {l xs : List PV} {ks : List Key} {p : Prop}, argsP H l = some (xs, ks, p) → p → ∀ {n : Nat}, l.length + 2 ≤ n → drL H n l = some (xs, ks) ∧ (PV.persL l = true → xs = l ∧ ks = [])
  | [], xs, ks, p, h, hp, n, hn => by
    simp only [argsP, Option.some.injEq, Prod.mk.injEq] at h
    obtain ⟨rfl, rfl, rfl⟩ := h
    exact ⟨drL_self rfl, fun _ => ⟨rfl, rfl⟩⟩
  | v :: l, xs, ks, p, h, hp, n, hn => by
    simp only [argsP] at h
    split at h
    rotate_left
    · cases h
    rename_i x k1 p1 xs1 js q h1 h2
    simp only [Option.some.injEq, Prod.mk.injEq] at h
    obtain ⟨rfl, rfl, rfl⟩ := h
    obtain ⟨m, rfl⟩ : ∃ m, n = m + 1 := ⟨n - 1, by omega⟩
    simp only [List.length_cons] at hn
    obtain ⟨a1, a2⟩ := argP_ok h1 hp.1 (n := m) (by omega)
    obtain ⟨b1, b2⟩ := argsP_ok h2 hp.2 (n := m) (by omega)
    have hpp : PV.persL (v :: l) = true → x :: xs1 = v :: l ∧ k1 ++ js = [] := by
      intro e
      simp only [PV.persL, Bool.and_eq_true] at e
      obtain ⟨rfl, rfl⟩ := a2 e.1
      obtain ⟨rfl, rfl⟩ := b2 e.2
      exact ⟨rfl, rfl⟩
    refine ⟨?_, hpp⟩
    unfold drL
    split
    · rename_i e
      obtain ⟨e1, e2⟩ := hpp e
      rw [e1, e2]
    · simp only [a1, b1]

theorem giveW_ok {draw : Bool} {ops : Array Oper} {i : Nat} {st st' : St} {ks : List Key} {v : PV} {l : List Told} {t' : Tr} {ob : Prop} (hw : wantAt ops i st = some true) (h : giveW c O ops i st ks v l ob = some (st', t')) (ho : t'.ob) : evStep c O draw ops i st = some st' ∧ ob := by
  unfold wantAt at hw
  unfold giveW at h
  split at h
  · cases h
  rename_i o hi
  simp only [hi] at hw
  split at h
  · cases h
  rename_i f args hca
  split at h
  rotate_left
  · cases h
  rename_i xs js p hm hA hlen
  simp only [Option.some.injEq, Prod.mk.injEq] at h
  obtain ⟨rfl, rfl⟩ := h
  obtain ⟨⟨hp, rfl, h1⟩, h2⟩ := ho
  have hd : drL st.hp 12 args = some (xs, js) := (argsP_ok hA hp (by have := Nat.le_of_ble_eq_true hlen; omega)).1
  refine ⟨?_, h2⟩
  have hsc : stepC c O f args st.hp = some (v, if v.flat then [] else js) := by
    unfold stepC
    simp only [hd, hm, h1, Option.map_some]
  exact call_step hi hw hca hm hsc

theorem evXStep_ok {fl : Way} {draw : Bool} {ops : Array Oper} {i : Nat} {st st' : St} {t t' : Tr} (h : evXStep c O fl draw ops i st t = some (st', t')) (ho : t'.ob) : evStep c O draw ops i st = some st' ∧ t.ob := by
  unfold evXStep at h
  split at h
  · rename_i v l htr hw
    unfold wantAt at hw
    unfold giveV at h
    split at h
    · cases h
    rename_i o hi
    simp only [hi] at hw
    split at h
    rotate_left
    · cases h
    rename_i hpr
    simp only [Option.some.injEq, Prod.mk.injEq] at h
    obtain ⟨rfl, rfl⟩ := h
    obtain ⟨h1, h2⟩ := ho
    refine ⟨?_, h2⟩
    unfold evStep
    simp only [hi, hw]
    unfold isPR at hpr
    unfold evOp
    split at hpr
    · rename_i e
      simp only [e, evEff, h1, Option.map_some, Eff.app]
      cases o.dst <;> rfl
    · rename_i e
      simp only [e, evEff, h1, Option.map_some, Eff.app]
      cases o.dst <;> rfl
    · cases hpr
  · rename_i b l htr hw
    unfold wantAt at hw
    unfold giveN at h
    split at h
    · cases h
    rename_i o hi
    simp only [hi] at hw
    split at h
    rotate_left
    · cases h
    rename_i it hop
    split at h
    rotate_left
    · cases h
    rename_i k hk
    split at h
    rotate_left
    · cases h
    rename_i s pos hb
    have hcl : clsOf c.pol draw o.op = .w := by rw [hop]; rfl
    unfold evStep
    simp only [hi, hw]
    unfold evOp
    simp only [hcl, hop, stepW, hk, hb]
    split at h
    · simp only [Option.some.injEq, Prod.mk.injEq] at h
      obtain ⟨rfl, rfl⟩ := h
      obtain ⟨h1, h2⟩ := ho
      refine ⟨?_, h2⟩
      rw [if_pos h1]
      rfl
    · simp only [Option.some.injEq, Prod.mk.injEq] at h
      obtain ⟨rfl, rfl⟩ := h
      obtain ⟨h1, h2⟩ := ho
      refine ⟨?_, h2⟩
      rw [if_neg h1]
      simp only [Option.map_some]
      cases o.dst <;> rfl
  · rename_i v l htr hw
    unfold wantAt at hw
    unfold giveC at h
    split at h
    · cases h
    rename_i o hi
    simp only [hi] at hw
    split at h
    · cases h
    rename_i f args hca
    split at h
    rotate_left
    · cases h
    rename_i xs ks hm hd
    simp only [Option.some.injEq, Prod.mk.injEq] at h
    obtain ⟨rfl, rfl⟩ := h
    obtain ⟨h1, h2⟩ := ho
    refine ⟨?_, h2⟩
    have hsc : stepC c O f args st.hp = some (v, if v.flat then [] else ks) := by
      unfold stepC
      simp only [hd, hm, h1, Option.map_some]
    exact call_step hi hw hca hm hsc
  · rename_i xs ks v l htr hw
    unfold wantAt at hw
    unfold giveR at h
    split at h
    · cases h
    rename_i o hi
    simp only [hi] at hw
    split at h
    · cases h
    rename_i f args hca
    split at h
    rotate_left
    · cases h
    rename_i hm
    simp only [Option.some.injEq, Prod.mk.injEq] at h
    obtain ⟨rfl, rfl⟩ := h
    obtain ⟨hd, h1, h2⟩ := ho
    refine ⟨?_, h2⟩
    have hsc : stepC c O f args st.hp = some (v, if v.flat then [] else ks) := by
      unfold stepC
      simp only [hd, hm, h1, Option.map_some]
    exact call_step hi hw hca hm hsc
  · rename_i v l htr hw
    unfold wantAt at hw
    unfold giveP at h
    split at h
    · cases h
    rename_i o hi
    simp only [hi] at hw
    split at h
    · cases h
    rename_i f args hca
    split at h
    rotate_left
    · cases h
    rename_i hm
    simp only [Option.some.injEq, Prod.mk.injEq] at h
    obtain ⟨rfl, rfl⟩ := h
    obtain ⟨hp, h1, h2⟩ := ho
    refine ⟨?_, h2⟩
    have hd : drL st.hp 12 args = some (args, []) := by unfold drL; rw [if_pos hp]
    have hsc : stepC c O f args st.hp = some (v, if v.flat then [] else []) := by
      unfold stepC
      simp only [hd, hm, h1, Option.map_some]
    have := call_step (draw := draw) hi hw hca hm hsc
    simpa using this
  · rename_i hw
    exact giveE_ok hw h ho
  · rename_i hw
    exact giveG_ok hw h ho
  · rename_i hw
    exact giveS_ok hw h ho
  · rename_i hw
    exact giveM_ok hw h ho
  · rename_i hw
    exact giveK_ok hw h ho
  · rename_i hw
    exact giveD_ok hw h ho
  · rename_i hw
    exact giveW_ok hw h ho
  · split at h
    · cases h
    rename_i st1 h1
    simp only [Option.some.injEq] at h
    obtain ⟨e, h2⟩ := tell_ok h ho
    exact ⟨by rw [h1, e], h2⟩

theorem evXList_ok {fl : Nat → Way} {draw : Bool} {ops : Array Oper} : ∀ (l : List Nat) {st st' : St} {t t' : Tr}, evXList c O fl draw ops l st t = some (st', t') → t'.ob → evList c O draw ops l st = some st' ∧ t.ob
  | [], st, st', t, t', h, ho => by
    simp only [evXList, Option.some.injEq, Prod.mk.injEq] at h
    obtain ⟨rfl, rfl⟩ := h
    exact ⟨rfl, ho⟩
  | i :: l, st, st', t, t', h, ho => by
    simp only [evXList] at h
    split at h
    · cases h
    rename_i r h1
    obtain ⟨g1, g2⟩ := evXList_ok l h ho
    obtain ⟨g3, g4⟩ := evXStep_ok (st' := r.1) (t' := r.2) h1 g2
    exact ⟨by simp only [evList, g3, Option.bind_some]; exact g1, g4⟩

theorem evXRegion_ok {fl : Nat → Nat → Way} {id : Nat} {ops : Array Oper} {draw : Bool} {st st' : St} {t t' : Tr} (h : evXRegion c O fl id ops draw st t = some (st', t')) (ho : t'.ob) : evRegion c O id ops draw st = some st' ∧ t.ob := by
  unfold evXRegion at h
  split at h
  · rename_i r rs hr
    split at h
    · cases h
    rename_i st0 ks h0
    split at h
    rotate_left
    · cases h
    rename_i hpl
    split at h
    rotate_left
    · cases h
    rename_i p hp
    simp only [Option.some.injEq, Prod.mk.injEq] at h
    obtain ⟨rfl, rfl⟩ := h
    refine ⟨?_, ho.2⟩
    unfold evRegion
    simp only [hr, h0, hpl, Bool.true_and]
    split
    · rfl
    · rename_i hn
      exact absurd (sameR_all hp ho.1) hn
  · rename_i d r hne
    obtain ⟨g1, g2⟩ := evXList_ok _ h ho
    refine ⟨?_, g2⟩
    unfold evRegion
    split
    · rename_i x xs hr
      exact absurd hr (hne _ _ rfl)
    · exact g1

theorem evXCode_ok {fl : Nat → Nat → Way} : ∀ (n : Nat) (code : Code) {st st' : St} {t t' : Tr} {ex : Ex}, evXCode c O fl n code st t = some (ex, st', t') → t'.ob → evCode c O n code st = some (ex, st') ∧ t.ob := by
  intro n
  induction n with
  | zero => intro code st st' t t' ex h; simp [evXCode] at h
  | succ n ih =>
    intro code st st' t t' ex h ho
    cases code with
    | skip =>
      simp only [evXCode, Option.some.injEq, Prod.mk.injEq] at h
      obtain ⟨rfl, rfl, rfl⟩ := h
      exact ⟨rfl, ho⟩
    | region id ops draw =>
      simp only [evXCode, Option.map_eq_some_iff, Prod.mk.injEq] at h
      obtain ⟨⟨s1, t1⟩, h1, rfl, rfl, rfl⟩ := h
      obtain ⟨g1, g2⟩ := evXRegion_ok h1 ho
      exact ⟨by simp only [evCode, g1, Option.map_some], g2⟩
    | seq a b =>
      simp only [evXCode] at h
      split at h
      · rename_i s1 t1 h1
        obtain ⟨g1, g2⟩ := ih b h ho
        obtain ⟨g3, g4⟩ := ih a h1 g2
        exact ⟨by simp only [evCode, g3]; exact g1, g4⟩
      · rename_i hne
        obtain ⟨g1, g2⟩ := ih a h ho
        refine ⟨?_, g2⟩
        simp only [evCode, g1]
        cases ex with
        | normal => exact absurd h (hne st' t')
        | exit id => rfl
        | ret => rfl
    | cond x a b =>
      simp only [evXCode] at h
      split at h
      · rename_i z hz
        obtain ⟨g1, g2⟩ := ih _ h ho
        exact ⟨by simp only [evCode, hz]; exact g1, g2⟩
      · cases h
    | block id a =>
      simp only [evXCode] at h
      split at h
      · rename_i j s1 t1 h1
        split at h
        · rename_i e
          simp only [Option.some.injEq, Prod.mk.injEq] at h
          obtain ⟨rfl, rfl, rfl⟩ := h
          obtain ⟨g1, g2⟩ := ih a h1 ho
          exact ⟨by simp only [evCode, g1, if_pos e], g2⟩
        · rename_i e
          simp only [Option.some.injEq, Prod.mk.injEq] at h
          obtain ⟨rfl, rfl, rfl⟩ := h
          obtain ⟨g1, g2⟩ := ih a h1 ho
          exact ⟨by simp only [evCode, g1, if_neg e], g2⟩
      · rename_i hne
        obtain ⟨g1, g2⟩ := ih a h ho
        refine ⟨?_, g2⟩
        simp only [evCode, g1]
        cases ex with
        | normal => rfl
        | exit id => exact absurd h (hne id st' t')
        | ret => rfl
    | loop a =>
      simp only [evXCode] at h
      split at h
      · rename_i s1 t1 h1
        obtain ⟨g1, g2⟩ := ih _ h ho
        obtain ⟨g3, g4⟩ := ih a h1 g2
        exact ⟨by simp only [evCode, g3]; exact g1, g4⟩
      · rename_i hne
        obtain ⟨g1, g2⟩ := ih a h ho
        refine ⟨?_, g2⟩
        simp only [evCode, g1]
        cases ex with
        | normal => exact absurd h (hne st' t')
        | exit id => rfl
        | ret => rfl
    | exit id =>
      simp only [evXCode, Option.some.injEq, Prod.mk.injEq] at h
      obtain ⟨rfl, rfl, rfl⟩ := h
      exact ⟨rfl, ho⟩
    | ret =>
      simp only [evXCode, Option.some.injEq, Prod.mk.injEq] at h
      obtain ⟨rfl, rfl, rfl⟩ := h
      exact ⟨rfl, ho⟩
    | _ => simp [evXCode] at h

theorem evXBody_ok {fl : Nat → Nat → Way} {n : Nat} {path : List Nat} {f : FuncId} {args : List PV} {H H' : Heap} {t t' : Tr} {r : PV} (h : evXBody P pol O fl n path f args H t = some (r, H', t')) (ho : t'.ob) : evBody P pol O n path f args H = some (r, H') := by
  unfold evXBody at h
  split at h
  · cases h
  rename_i fn hf
  split at h
  · cases h
  rename_i body hb
  split at h
  rotate_left
  · cases h
  rename_i hc
  unfold evBody
  simp only [hf, hb, if_pos hc]
  split at h
  · rename_i st t1 he
    simp only [Option.map_eq_some_iff, Prod.mk.injEq] at h
    obtain ⟨x, hx, rfl, rfl, rfl⟩ := h
    simp only [(evXCode_ok n body he ho).1, hx, Option.map_some]
  · rename_i st t1 he
    simp only [Option.map_eq_some_iff, Prod.mk.injEq] at h
    obtain ⟨x, hx, rfl, rfl, rfl⟩ := h
    simp only [(evXCode_ok n body he ho).1, hx, Option.map_some]
  · cases h

theorem evXPure_ok {fl : Nat → Nat → Way} {n : Nat} {f : FuncId} {args : List PV} {tr : List Told} {r : PV} {ob : Prop} (h : evXPure P pol O fl n f args tr = some (r, ob)) (ho : ob) : evPure P pol O n f args = some r := by
  unfold evXPure at h
  split at h
  rotate_left
  · cases h
  rename_i hp
  split at h
  rotate_left
  · cases h
  rename_i x H t hb
  simp only [Option.map_eq_some_iff, Prod.mk.injEq] at h
  obtain ⟨y, hy, rfl, rfl⟩ := h
  unfold evPure
  simp only [if_pos hp, evXBody_ok hb ho, hy, Option.map_some]

/-- A function of which nothing was known. -/
theorem orc_pure {prim : FuncId → List PV → Option PV} {primI : FuncId → List PV → Heap → Option (PV × Heap)} {n : Nat} {f : FuncId} {args : List PV} {r : PV} (hn : prim f args = none) (h : evPure P pol (orc P pol prim primI n) n f args = some r) :
    (orc P pol prim primI (n + 1)).pure f args = some r := by
  simp only [orc, hn, h]
end Go.Proofs.YtigfgicjjhepoaaGreatDoor.VA
set_option linter.unusedVariables false
set_option linter.unusedSimpArgs false
namespace Go.Proofs.YtigfgicjjhepoaaGreatDoor.VA
open Go
variable {c : Ctx} {O : Orc} {P : Program} {pol : Pol}

theorem evCode_mono : ∀ (n : Nat) {code : Code} {st : St} {r : Ex × St}, evCode c O n code st = some r → ∀ m, n ≤ m → evCode c O m code st = some r := by
  intro n
  induction n with
  | zero => intro code st r h; simp [evCode] at h
  | succ n ih =>
    intro code st r h m hm
    obtain ⟨m, rfl⟩ : ∃ k, m = k + 1 := ⟨m - 1, by omega⟩
    have hm' : n ≤ m := by omega
    cases code with
    | skip => exact h
    | region id ops draw => exact h
    | seq a b =>
      simp only [evCode] at h ⊢
      split at h
      · rename_i s1 h1
        rw [ih h1 m hm']
        exact ih h m hm'
      · rename_i hne
        obtain ⟨ex, s1⟩ := r
        rw [ih h m hm']
        cases ex with
        | normal => exact absurd h (hne s1)
        | exit id => rfl
        | ret => rfl
    | cond x a b =>
      simp only [evCode] at h ⊢
      split at h
      · exact ih h m hm'
      · cases h
    | block id a =>
      simp only [evCode] at h ⊢
      split at h
      · rename_i j s1 h1
        rw [ih h1 m hm']
        exact h
      · rename_i hne
        obtain ⟨ex, s1⟩ := r
        rw [ih h m hm']
        cases ex with
        | normal => rfl
        | exit id => exact absurd h (hne id s1)
        | ret => rfl
    | loop a =>
      simp only [evCode] at h ⊢
      split at h
      · rename_i s1 h1
        rw [ih h1 m hm']
        exact ih h m hm'
      · rename_i hne
        obtain ⟨ex, s1⟩ := r
        rw [ih h m hm']
        cases ex with
        | normal => exact absurd h (hne s1)
        | exit id => rfl
        | ret => rfl
    | exit id => exact h
    | ret => exact h
    | _ => simp [evCode] at h

theorem evBody_mono {n m : Nat} {path : List Nat} {f : FuncId} {args : List PV} {H : Heap} {r : PV × Heap} (h : evBody P pol O n path f args H = some r) (hm : n ≤ m) : evBody P pol O m path f args H = some r := by
  unfold evBody at h ⊢
  split at h
  · cases h
  rename_i fn hf
  split at h
  · cases h
  rename_i body hb
  split at h
  rotate_left
  · cases h
  rename_i hc
  rw [if_pos hc]
  split at h
  · rename_i st he
    rw [evCode_mono n he m hm]; exact h
  · rename_i st he
    rw [evCode_mono n he m hm]; exact h
  · cases h

theorem evPure_mono {n m : Nat} {f : FuncId} {args : List PV} {r : PV} (h : evPure P pol O n f args = some r) (hm : n ≤ m) : evPure P pol O m f args = some r := by
  unfold evPure at h ⊢
  split at h
  rotate_left
  · cases h
  rename_i hp
  rw [if_pos hp]
  split at h
  · rename_i x H hb
    rw [evBody_mono hb hm]; exact h
  · cases h

/-- What code does, given fuel enough. -/
def Ev (c : Ctx) (O : Orc) (code : Code) (st : St) (ex : Ex) (st' : St) : Prop := ∃ n, evCode c O n code st = some (ex, st')

theorem Ev.of_X {fl : Nat → Nat → Way} {n : Nat} {code : Code} {st : St} {tr : List Told} {β : Type} (proj : Ex → St → Prop → β) {y : β} (h : (evXCode c O fl n code st ⟨tr, True⟩).map (fun r => proj r.1 r.2.1 r.2.2.ob) = some y) :
    ∃ ex st' ob, proj ex st' ob = y ∧ (ob → Ev c O code st ex st') := by
  cases hx : evXCode c O fl n code st ⟨tr, True⟩ with
  | none => rw [hx] at h; cases h
  | some r =>
    rw [hx] at h
    simp only [Option.map_some, Option.some.injEq] at h
    obtain ⟨ex, st', t⟩ := r
    exact ⟨ex, st', t.ob, h, fun ho => ⟨n, (evXCode_ok n code hx ho).1⟩⟩

theorem Ev.seq {a b : Code} {st st1 st2 : St} {ex : Ex} (h : Ev c O a st .normal st1) (g : Ev c O b st1 ex st2) : Ev c O (.seq a b) st ex st2 := by
  obtain ⟨n, hn⟩ := h
  obtain ⟨m, hm⟩ := g
  refine ⟨max n m + 1, ?_⟩
  simp only [evCode, evCode_mono n hn (max n m) (by omega), evCode_mono m hm (max n m) (by omega)]

theorem Ev.seq_stop {a b : Code} {st st1 : St} {ex : Ex} (h : Ev c O a st ex st1) (hne : ex ≠ .normal) : Ev c O (.seq a b) st ex st1 := by
  obtain ⟨n, hn⟩ := h
  refine ⟨n + 1, ?_⟩
  simp only [evCode, hn]
  cases ex with
  | normal => exact absurd rfl hne
  | exit id => rfl
  | ret => rfl

theorem Ev.block {a : Code} {id : Nat} {st st1 : St} (h : Ev c O a st (.exit id) st1) : Ev c O (.block id a) st .normal st1 := by
  obtain ⟨n, hn⟩ := h
  refine ⟨n + 1, ?_⟩
  simp only [evCode, hn, if_true]

theorem Ev.block_ret {a : Code} {id : Nat} {st st1 : St} (h : Ev c O a st .ret st1) : Ev c O (.block id a) st .ret st1 := by
  obtain ⟨n, hn⟩ := h
  exact ⟨n + 1, by simp only [evCode, hn]⟩

theorem Ev.loop {a : Code} {st st1 st2 : St} {ex : Ex} (h : Ev c O a st .normal st1) (g : Ev c O (.loop a) st1 ex st2) : Ev c O (.loop a) st ex st2 := by
  obtain ⟨n, hn⟩ := h
  obtain ⟨m, hm⟩ := g
  refine ⟨max n m + 1, ?_⟩
  simp only [evCode, evCode_mono n hn (max n m) (by omega), evCode_mono m hm (max n m) (by omega)]

theorem Ev.loop_stop {a : Code} {st st1 : St} {ex : Ex} (h : Ev c O a st ex st1) (hne : ex ≠ .normal) : Ev c O (.loop a) st ex st1 := by
  obtain ⟨n, hn⟩ := h
  refine ⟨n + 1, ?_⟩
  simp only [evCode, hn]
  cases ex with
  | normal => exact absurd rfl hne
  | exit id => rfl
  | ret => rfl

/-- What a function hands back, given fuel enough. -/
def Runs (P : Program) (pol : Pol) (O : Orc) (f : FuncId) (args : List PV) (r : PV) : Prop := ∃ n, evPure P pol O n f args = some r

theorem Runs.of_X {fl : Nat → Nat → Way} {n : Nat} {f : FuncId} {args : List PV} {tr : List Told} {r : PV} {ob : Prop} (h : evXPure P pol O fl n f args tr = some (r, ob)) (ho : ob) : Runs P pol O f args r := ⟨n, evXPure_ok h ho⟩

theorem Runs.of_XB {fl : Nat → Nat → Way} {n : Nat} {f : FuncId} {args : List PV} {tr : List Told} {r : PV} {ob : Prop} (hp : PV.persL args = true)
    (h : (evXBody P pol O fl n [] f args Heap.empty ⟨tr, True⟩).map (fun x => ((dr x.2.1 12 x.1).map (·.1), x.2.2.ob)) = some (some r, ob)) (ho : ob) : Runs P pol O f args r := by
  simp only [Option.map_eq_some_iff, Prod.mk.injEq] at h
  obtain ⟨⟨x, H, t⟩, hb, hr, rfl⟩ := h
  refine ⟨n, ?_⟩
  unfold evPure
  simp only [hp, if_true, evXBody_ok hb ho]
  exact Option.map_eq_some_iff.2 hr

/-- Arguments that read as they stand. -/
theorem drL_pers {H : Heap} {l : List PV} (h : PV.persL l = true) : drL H 12 l = some (l, []) := by
  unfold drL
  rw [if_pos h]

theorem Runs.of_Ev {f : FuncId} {fn : Func} {body : Code} {args : List PV} {st : St} {ex : Ex} {r r' : PV} (hf : P.funcs[f]? = some fn) (hb : fn.body = some body) (hp : PV.persL args = true) (hl : args.length ≤ fn.ntmps) (hu : pol.use f = true)
    (h : Ev ⟨P, pol, [], f⟩ O body (startSt args Heap.empty) ex st) (hex : ex = .normal ∨ ex = .ret) (hr : resultsV ⟨P, pol, [], f⟩ st fn.results.toList = some r') (hd : (dr st.hp 12 r').map (·.1) = some r) : Runs P pol O f args r := by
  obtain ⟨n, hn⟩ := h
  refine ⟨n, ?_⟩
  unfold evPure evBody
  simp only [hp, if_true, hf, hb, hl, hu, and_self, hn]
  rcases hex with rfl | rfl
  · simp only [hr, Option.map_some]; exact hd
  · simp only [hr, Option.map_some]; exact hd

/-- An oracle that knows more. -/
structure OLe (O O' : Orc) : Prop where
  pure : ∀ f a r, O.pure f a = some r → O'.pure f a = some r
  inl : ∀ p f a H r, O.inl p f a H = some r → O'.inl p f a H = some r

theorem stepC_le {O O' : Orc} (h : OLe O O') {f : FuncId} {args : List PV} {H : Heap} {r : PV × List Key} (hs : stepC c O f args H = some r) : stepC c O' f args H = some r := by
  unfold stepC at hs ⊢
  split at hs
  · cases hs
  rename_i as1 ks hd
  try simp only [hd]
  split at hs
  · cases hs
  · rename_i hm
    try simp only [hm]
    simp only [Option.map_eq_some_iff] at hs ⊢
    obtain ⟨x, hx, e⟩ := hs
    exact ⟨x, h.pure _ _ _ hx, e⟩

theorem stepW_le {O O' : Orc} (h : OLe O O') {d : Option Nat} {op : Op} {ρ : Operand → PV} {H : Heap} {r : PV × Heap} (hs : stepW c O d op ρ H = some r) : stepW c O' d op ρ H = some r := by
  cases op with
  | call k =>
    obtain ⟨cal, args, ats⟩ := k
    cases cal with
    | builtin b => cases b <;> exact hs
    | invoke r m => simp [stepW] at hs
    | value g =>
      have key : ∀ (path : List Nat), (match ρ g with
          | .fn f first cap => match c.pol.mode f with
            | .inl => O.inl path f (first ++ args.toList.map ρ ++ cap) H
            | _ => match stepC c O f (first ++ args.toList.map ρ ++ cap) H with
              | some (r, ks) => some (r, H.freeze ks)
              | none => none
          | _ => none) = some r → (match ρ g with
          | .fn f first cap => match c.pol.mode f with
            | .inl => O'.inl path f (first ++ args.toList.map ρ ++ cap) H
            | _ => match stepC c O' f (first ++ args.toList.map ρ ++ cap) H with
              | some (r, ks) => some (r, H.freeze ks)
              | none => none
          | _ => none) = some r := by
        intro path hs
        split at hs
        rotate_left
        · cases hs
        rename_i f first cap hg
        try simp only
        split at hs
        · rename_i hm
          try simp only [hm]
          exact h.inl _ _ _ _ _ hs
        · rename_i hm
          split at hs
          · rename_i r' ks hc
            cases hmm : c.pol.mode f with
            | inl => exact absurd hmm hm
            | pure =>
              simp only [stepC_le h hc]
              exact hs
          · cases hs
      cases g with
      | func f =>
        simp only [stepW] at hs ⊢
        split at hs
        · exact h.inl _ _ _ _ _ hs
        · exact h.inl _ _ _ _ _ hs
      | _ => exact key _ hs
  | next it s => cases s <;> exact hs
  | _ => exact hs

theorem evEff_le {O O' : Orc} (h : OLe O O') {draw : Bool} {o : Oper} {ρ : Operand → PV} {H : Heap} {r : PV × Eff} (hs : evEff c O draw o ρ H = some r) : evEff c O' draw o ρ H = some r := by
  unfold evEff at hs ⊢
  split at hs
  · exact hs
  · exact hs
  · exact hs
  · rename_i e
    try simp only [e]
    split at hs
    · rename_i f args hc
      try simp only [hc]
      simp only [Option.map_eq_some_iff] at hs ⊢
      obtain ⟨x, hx, e'⟩ := hs
      exact ⟨x, stepC_le h hx, e'⟩
    · cases hs
  · cases hs

theorem evOp_le {O O' : Orc} (h : OLe O O') {draw : Bool} {o : Oper} {st st' : St} (hs : evOp c O draw o st = some st') : evOp c O' draw o st = some st' := by
  unfold evOp at hs ⊢
  split at hs
  · rename_i e
    try simp only [e]
    simp only [Option.map_eq_some_iff] at hs ⊢
    obtain ⟨x, hx, e'⟩ := hs
    exact ⟨x, stepW_le h hx, e'⟩
  · rename_i hne
    simp only [Option.map_eq_some_iff] at hs ⊢
    obtain ⟨x, hx, e'⟩ := hs
    exact ⟨x, evEff_le h hx, e'⟩

theorem evStep_le {O O' : Orc} (h : OLe O O') {draw : Bool} {ops : Array Oper} {i : Nat} {st st' : St} (hs : evStep c O draw ops i st = some st') : evStep c O' draw ops i st = some st' := by
  unfold evStep at hs ⊢
  split at hs
  · cases hs
  rename_i o ho
  try simp only
  split at hs
  · cases hs
  · rename_i hw; exact evOp_le h hs
  · rename_i hw; exact hs

theorem evList_le {O O' : Orc} (h : OLe O O') {draw : Bool} {ops : Array Oper} : ∀ (l : List Nat) {st st' : St}, evList c O draw ops l st = some st' → evList c O' draw ops l st = some st'
  | [], st, st', hs => hs
  | i :: l, st, st', hs => by
    simp only [evList, Option.bind_eq_some_iff] at hs ⊢
    obtain ⟨s1, h1, h2⟩ := hs
    exact ⟨s1, evStep_le h h1, evList_le h l h2⟩

theorem evListT_le {O O' : Orc} (h : OLe O O') {ops : Array Oper} : ∀ (l : List Nat) {st : St} {r : St × List Key}, evListT c O ops l st = some r → evListT c O' ops l st = some r
  | [], st, r, hs => hs
  | i :: l, st, r, hs => by
    simp only [evListT] at hs ⊢
    split at hs
    · cases hs
    rename_i s1 h1
    simp only [evStep_le h h1]
    split at hs
    · cases hs
    rename_i s2 ks h2
    simp only [evListT_le h l h2]
    exact hs

theorem evRegion_le {O O' : Orc} (h : OLe O O') {id : Nat} {ops : Array Oper} {draw : Bool} {st st' : St} (hs : evRegion c O id ops draw st = some st') : evRegion c O' id ops draw st = some st' := by
  unfold evRegion at hs ⊢
  split at hs
  · rename_i r rs hr
    try simp only
    split at hs
    rotate_left
    · cases hs
    rename_i st0 ks h0
    simp only [evListT_le h _ h0]
    split at hs
    rotate_left
    · cases hs
    rename_i hq
    rw [if_pos ?_]
    · exact hs
    simp only [Bool.and_eq_true] at hq ⊢
    refine ⟨hq.1, ?_⟩
    rw [List.all_eq_true] at hq ⊢
    intro l hl
    have := hq.2 
    rw [List.all_eq_true] at this
    have := this l hl
    split at this
    · rename_i s1 k1 h1
      rw [evListT_le h _ h1]; exact this
    · cases this
  · rename_i d rs hne
    exact evList_le h _ hs

theorem evCode_le {O O' : Orc} (h : OLe O O') : ∀ (n : Nat) {code : Code} {st : St} {r : Ex × St}, evCode c O n code st = some r → evCode c O' n code st = some r := by
  intro n
  induction n with
  | zero => intro code st r hs; simp [evCode] at hs
  | succ n ih =>
    intro code st r hs
    cases code with
    | skip => exact hs
    | region id ops draw =>
      simp only [evCode, Option.map_eq_some_iff] at hs ⊢
      obtain ⟨s1, h1, e⟩ := hs
      exact ⟨s1, evRegion_le h h1, e⟩
    | seq a b =>
      simp only [evCode] at hs ⊢
      split at hs
      · rename_i s1 h1
        rw [ih h1]
        exact ih hs
      · rename_i hne
        obtain ⟨ex, s1⟩ := r
        rw [ih hs]
        cases ex with
        | normal => exact absurd hs (hne s1)
        | exit id => rfl
        | ret => rfl
    | cond x a b =>
      simp only [evCode] at hs ⊢
      split at hs
      · exact ih hs
      · cases hs
    | block id a =>
      simp only [evCode] at hs ⊢
      split at hs
      · rename_i j s1 h1
        rw [ih h1]
        exact hs
      · rename_i hne
        obtain ⟨ex, s1⟩ := r
        rw [ih hs]
        cases ex with
        | normal => rfl
        | exit id => exact absurd hs (hne id s1)
        | ret => rfl
    | loop a =>
      simp only [evCode] at hs ⊢
      split at hs
      · rename_i s1 h1
        rw [ih h1]
        exact ih hs
      · rename_i hne
        obtain ⟨ex, s1⟩ := r
        rw [ih hs]
        cases ex with
        | normal => exact absurd hs (hne s1)
        | exit id => rfl
        | ret => rfl
    | exit id => exact hs
    | ret => exact hs
    | _ => simp [evCode] at hs

theorem evBody_le {O O' : Orc} (h : OLe O O') {n : Nat} {path : List Nat} {f : FuncId} {args : List PV} {H : Heap} {r : PV × Heap} (hs : evBody P pol O n path f args H = some r) : evBody P pol O' n path f args H = some r := by
  unfold evBody at hs ⊢
  split at hs
  · cases hs
  split at hs
  · cases hs
  split at hs
  rotate_left
  · cases hs
  rename_i hc
  rw [if_pos hc]
  split at hs
  · rename_i st he
    rw [evCode_le h n he]; exact hs
  · rename_i st he
    rw [evCode_le h n he]; exact hs
  · cases hs

theorem evPure_le {O O' : Orc} (h : OLe O O') {n : Nat} {f : FuncId} {args : List PV} {r : PV} (hs : evPure P pol O n f args = some r) : evPure P pol O' n f args = some r := by
  unfold evPure at hs ⊢
  split at hs
  rotate_left
  · cases hs
  rename_i hp
  rw [if_pos hp]
  split at hs
  · rename_i x H hb
    rw [evBody_le h hb]; exact hs
  · cases hs

theorem orc_le {p : FuncId → List PV → Option PV} {pI : FuncId → List PV → Heap → Option (PV × Heap)} : ∀ n, OLe (orc P pol p pI n) (orc P pol p pI (n + 1))
  | 0 => ⟨fun f a r h => by simp only [orc] at h ⊢; rw [h], fun q f a H r h => by simp only [orc] at h ⊢; rw [h]⟩
  | n + 1 => by
    have ih := orc_le (p := p) (pI := pI) n
    refine ⟨fun f a r h => ?_, fun q f a H r h => ?_⟩
    · simp only [orc] at h ⊢
      split at h
      · exact h
      · exact evPure_mono (evPure_le ih h) (Nat.le_succ n)
    · simp only [orc] at h ⊢
      split at h
      · exact h
      · exact evBody_mono (evBody_le ih h) (Nat.le_succ n)

theorem orc_le' {p : FuncId → List PV → Option PV} {pI : FuncId → List PV → Heap → Option (PV × Heap)} {n m : Nat} (h : n ≤ m) : OLe (orc P pol p pI n) (orc P pol p pI m) := by
  induction h with
  | refl => exact ⟨fun _ _ _ h => h, fun _ _ _ _ _ h => h⟩
  | step _ ih => exact ⟨fun f a r h => (orc_le _).pure f a r (ih.pure f a r h), fun q f a H r h => (orc_le _).inl q f a H r (ih.inl q f a H r h)⟩

/-- One more primitive, by runs over what was known. -/
theorem primOk_runs (hP : POk P pol) (hC : COk P pol) {p : FuncId → List PV → Option PV} (hp : PrimOk P pol p) {pI : FuncId → List PV → Heap → Option (PV × Heap)} (hi : PrimIOk P pol pI) {f : FuncId} {spec : List PV → Option PV}
    (hf : ∀ args, p f args = none) (k : Nat) (h : ∀ args r, spec args = some r → Runs P pol (orc P pol p pI k) f args r) : PrimOk P pol (addP f spec p) := by
  refine primOk_add hP hC hp hi (fun args r hs => ?_)
  obtain ⟨n, hn⟩ := h args r hs
  exact ⟨max n k + 1, orc_pure (hf args) (evPure_mono (evPure_le (orc_le' (Nat.le_max_right n k)) hn) (Nat.le_max_left n k))⟩
end Go.Proofs.YtigfgicjjhepoaaGreatDoor.VA

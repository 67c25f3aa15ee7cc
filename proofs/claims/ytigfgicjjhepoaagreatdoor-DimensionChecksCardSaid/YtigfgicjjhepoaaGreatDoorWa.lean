/- Code, bodies, calls: the evaluator is sound. -/
import Derived.Test.YtigfgicjjhepoaaGreatDoorVz
set_option linter.unusedVariables false
set_option linter.unusedSimpArgs false
namespace Go.Proofs.YtigfgicjjhepoaaGreatDoor.VA
open Go Go.RowKit

/-- The check of a function's code. -/
def codeOk (pol : Pol) (f : FuncId) (nt : Nat) : Code → Bool
  | .region id ops draw => ops.all (fun o => match o.dst with
      | some d => Nat.blt d nt
      | none => true) && (!draw || regionOk pol ops (pol.reps f id))
  | .seq a b => codeOk pol f nt a && codeOk pol f nt b
  | .cond _ a b => codeOk pol f nt a && codeOk pol f nt b
  | .block _ a => codeOk pol f nt a
  | .loop a => codeOk pol f nt a
  | _ => true

structure COk (P : Program) (pol : Pol) : Prop where
  code : ∀ (f : FuncId) (fn : Func) (body : Code), pol.use f = true → P.funcs[f]? = some fn → fn.body = some body → codeOk pol f fn.ntmps body = true
  name : ∀ (f : FuncId) (fn : Func) (body : Code), pol.use f = true → P.funcs[f]? = some fn → fn.body = some body → (fn.name == "runtime.NumGoroutine") = false

section
variable {ng base nt : Nat} {w0 : World} {Ext : Nat → Prop} {D : List Deferred} {ρ : Key → Option Nat} {st : St} {a : Act} {w w' : World} {H : Heap} {c : Ctx} {O : Orc}

def exOf : Ex → Exit
  | .normal => .normal
  | .exit id => .exit id
  | .ret => .ret

theorem plain_step {c : Ctx} {O : Orc} {ops : Array Oper} (hp : ops.toList.all (plainOp c.pol) = true) {i : Nat} {st st' : St} (h : evStep c O true ops i st = some st') :
    (∀ d, d ∉ ops.toList.filterMap (·.dst) → st'.tm d = st.tm d) ∧ (∀ k, k ∉ touch c ops i st → st'.hp.blk k = st.hp.blk k) ∧ st'.hp.cnt = st.hp.cnt := by
  unfold evStep at h
  split at h
  · cases h
  rename_i o ho
  have hmem : o ∈ ops.toList := by
    have := Array.mem_of_getElem? ho
    exact Array.mem_toList_iff.2 this
  have hpo := List.all_eq_true.1 hp o hmem
  have hput : ∀ (x : PV) (d : Nat), d ∉ ops.toList.filterMap (·.dst) → (st.put o.dst x).tm d = st.tm d := fun x d hd => by
    cases hdst : o.dst with
    | none => rfl
    | some e =>
      have hne : d ≠ e := fun q => hd (List.mem_filterMap.2 ⟨o, hmem, by rw [hdst, q]⟩)
      simp only [St.put, if_neg hne]
  split at h
  · cases h
  · -- evOp
    unfold evOp at h
    split at h
    · rename_i hc
      simp only [Option.map_eq_some_iff] at h
      obtain ⟨⟨x, H'⟩, h, rfl⟩ := h
      refine ⟨hput x, ?_⟩
      unfold plainOp at hpo
      split at hpo
      · rename_i e; rw [hc] at e; cases e
      · rename_i e; rw [hc] at e; cases e
      · rename_i t a v e
        rw [e] at h
        simp only [stepW, Option.map_eq_some_iff, Prod.mk.injEq] at h
        obtain ⟨H1, h1, rfl, rfl⟩ := h
        unfold storeV at h1
        split at h1
        · rename_i k sz i' j hptr
          split at h1
          · split at h1
            · split at h1
              · split at h1
                · simp only [Option.some.injEq] at h1
                  subst h1
                  refine ⟨fun k' hk' => ?_, rfl⟩
                  have hne : k' ≠ k := fun q => hk' (by simp [touch, ho, e, hptr, q])
                  simp only [Heap.set, if_neg hne]
                · cases h1
              · cases h1
            · cases h1
          · cases h1
        · cases h1
      · cases hpo
    · rename_i hc
      simp only [Option.map_eq_some_iff] at h
      obtain ⟨⟨x, e⟩, h, rfl⟩ := h
      refine ⟨hput x, ?_⟩
      have hkeep : e = .keep := by
        unfold plainOp at hpo
        unfold evEff at h
        split at hpo
        · rename_i e'
          simp only [e', Option.map_eq_some_iff, Prod.mk.injEq] at h
          obtain ⟨_, _, _, rfl⟩ := h; rfl
        · rename_i e'
          simp only [e', Option.map_eq_some_iff, Prod.mk.injEq] at h
          obtain ⟨_, _, _, rfl⟩ := h; rfl
        · rename_i e' _; exact absurd e' hc
        · cases hpo
      subst hkeep
      exact ⟨fun _ _ => rfl, rfl⟩
  · simp only [Option.some.injEq] at h
    subst h
    exact ⟨hput _, fun k _ => by cases o.dst <;> rfl, by cases o.dst <;> rfl⟩

theorem evListT_ok {c : Ctx} {O : Orc} {ops : Array Oper} (hp : ops.toList.all (plainOp c.pol) = true) : ∀ (l : List Nat) {st st' : St} {ks : List Key}, evListT c O ops l st = some (st', ks) →
    evList c O true ops l st = some st' ∧ (∀ d, d ∉ ops.toList.filterMap (·.dst) → st'.tm d = st.tm d) ∧ (∀ k, k ∉ ks → st'.hp.blk k = st.hp.blk k) ∧ st'.hp.cnt = st.hp.cnt
  | [], st, st', ks, h => by
    simp only [evListT, Option.some.injEq, Prod.mk.injEq] at h
    obtain ⟨rfl, rfl⟩ := h
    exact ⟨rfl, fun _ _ => rfl, fun _ _ => rfl, rfl⟩
  | i :: l, st, st', ks, h => by
    simp only [evListT] at h
    split at h
    · cases h
    rename_i st1 h1
    split at h
    · cases h
    rename_i st2 ks2 h2
    simp only [Option.some.injEq, Prod.mk.injEq] at h
    obtain ⟨rfl, rfl⟩ := h
    obtain ⟨a1, a2, a3, a4⟩ := evListT_ok hp l h2
    obtain ⟨b1, b2, b3⟩ := plain_step hp h1
    refine ⟨by simp only [evList, h1, Option.bind_some]; exact a1, fun d hd => (a2 d hd).trans (b1 d hd), fun k hk => ?_, a4.trans b3⟩
    simp only [List.mem_append, not_or] at hk
    exact (a3 k hk.2).trans (b2 k hk.1)

theorem sameB_ok {c : Ctx} {O : Orc} {ops : Array Oper} (hp : ops.toList.all (plainOp c.pol) = true) {l l' : List Nat} {st st0 st1 : St} {ks ks' : List Key} (h0 : evListT c O ops l st = some (st0, ks)) (h1 : evListT c O ops l' st = some (st1, ks')) (h : sameB ops st0 st1 (ks ++ ks') = true) : st0 = st1 := by
  obtain ⟨_, a2, a3, a4⟩ := evListT_ok hp l h0
  obtain ⟨_, b2, b3, b4⟩ := evListT_ok hp l' h1
  simp only [sameB, Bool.and_eq_true, List.all_eq_true] at h
  obtain ⟨h2, h3⟩ := h
  obtain ⟨t0, ⟨k0, c0⟩⟩ := st0
  obtain ⟨t1, ⟨k1, c1⟩⟩ := st1
  dsimp only at *
  have e1 : t0 = t1 := funext fun d => by
    by_cases hd : d ∈ ops.toList.filterMap (·.dst)
    · exact PV.beq_eq _ _ (h2 d hd)
    · rw [a2 d hd, b2 d hd]
  have e2 : k0 = k1 := funext fun k => by
    by_cases hk : k ∈ ks ++ ks'
    · exact Blk.beq_eq (h3 k hk)
    · simp only [List.mem_append, not_or] at hk
      rw [a3 k hk.1, b3 k hk.2]
  rw [e1, e2, a4, b4]

theorem evRegion_ok (hP : POk c.P c.pol) (hO : OrcOk c.P c.pol O) (hG : GOk c.pol ng w0) (h : Rel ng base nt w0 Ext D ρ st a w) {id : Nat} {ops : Array Oper} {draw : Bool} {st' : St} (hs : evRegion c O id ops draw st = some st')
    (hc : codeOk c.pol c.fn nt (.region id ops draw) = true) {ro : Option Nat} {n : Nat} {Q : Exit → Act → World → Prop} (hn : ∀ a' w', Went ng base nt w0 Ext D ρ st.hp w st' a' w' → Q .normal a' w') :
    (Code.region id ops draw).wpIn (Fr ro) n c.P Q a w := by
  simp only [codeOk, Bool.and_eq_true] at hc
  obtain ⟨hc1, hc2⟩ := hc
  have hD : Dsts nt ops := fun i o ho d hd => by
    have := (Array.all_eq_true_iff_forall_mem.1 hc1) o (Array.mem_of_getElem? ho)
    rw [hd] at this
    simpa [Nat.blt_eq] using this
  cases draw with
  | false =>
    refine wpIn_region (evList_ok (draw := false) hP hO hG hD (List.range ops.size) st ρ a w h ?_ hn)
    unfold evRegion at hs
    exact hs
  | true =>
    have hall : ∀ R ∈ List.range ops.size :: c.pol.reps c.fn id, evList c O true ops R st = some st' := by
      unfold evRegion at hs
      split at hs
      · rename_i r rs hr
        split at hs
        rotate_left
        · cases hs
        rename_i st0 ks h0
        split at hs
        rotate_left
        · cases hs
        rename_i hq
        simp only [Option.some.injEq] at hs
        subst hs
        simp only [Bool.and_eq_true] at hq
        obtain ⟨hp, hq⟩ := hq
        intro R hR
        rw [hr] at hR
        rcases List.mem_cons.1 hR with rfl | hR
        · exact (evListT_ok hp _ h0).1
        · have := List.all_eq_true.1 hq R hR
          split at this
          · rename_i st1 ks1 h1
            rw [sameB_ok hp h0 h1 this]
            exact (evListT_ok hp _ h1).1
          · cases this
      · rename_i d rs hne
        intro R hR
        cases hq : c.pol.reps c.fn id with
        | nil =>
          rw [hq] at hR
          simp only [List.mem_singleton] at hR
          rw [hR]; exact hs
        | cons r rs' => exact absurd rfl (hne r rs' · hq)
    simp only [Bool.not_true, Bool.false_or] at hc2
    refine wpIn_region_draw (fun t => ?_)
    have hdrew : Below w.heap.size w { w with drawn := w.drawn + 1 } := (Below.refl _ w).drew
    have hR0 := h.grow hdrew
    have hE0 := evo_below h.heap hdrew (Mut Ext ρ st.hp)
    obtain ⟨R, hR, g1, g2, g3⟩ := regionOk_ok (c := c) hc2 t
    simp only [Region.schedule, hP.mixed, Bool.true_or, if_true]
    refine evList_ok hP hO hG hD _ st ρ a _ hR0 (perm_ok hP hO hG hD _ R st ρ a _ hR0 g1 g2 g3 (hall R hR)) (fun a' w' hw => hn a' w' ?_)
    obtain ⟨ρ', r, e⟩ := hw.rel
    exact ⟨ρ', r, hE0.trans e⟩

theorem evCode_ok (hP : POk c.P c.pol) (hO : OrcOk c.P c.pol O) (hG : GOk c.pol ng w0) {ro : Option Nat} {m : Nat} : ∀ (n : Nat) (code : Code) (st : St) (ρ : Key → Option Nat) (a : Act) (w : World) (ex : Ex) (st' : St) (Q : Exit → Act → World → Prop),
    Rel ng base nt w0 Ext D ρ st a w → evCode c O n code st = some (ex, st') → codeOk c.pol c.fn nt code = true → (∀ a' w', Went ng base nt w0 Ext D ρ st.hp w st' a' w' → Q (exOf ex) a' w') → code.wpIn (Fr ro) m c.P Q a w := by
  intro n
  induction n using Nat.strongRecOn with
  | _ n ih =>
  intro code st ρ a w ex st' Q h hs hc hn
  cases n with
  | zero => simp [evCode] at hs
  | succ n =>
    cases code with
    | skip =>
      simp only [evCode, Option.some.injEq, Prod.mk.injEq] at hs
      obtain ⟨rfl, rfl⟩ := hs
      exact wpIn_skip (hn a w ⟨ρ, h, Evo.refl _ _ _⟩)
    | region id ops draw =>
      simp only [evCode, Option.map_eq_some_iff, Prod.mk.injEq] at hs
      obtain ⟨st1, h1, rfl, rfl⟩ := hs
      exact evRegion_ok hP hO hG h h1 hc hn
    | seq x y =>
      simp only [codeOk, Bool.and_eq_true] at hc
      simp only [evCode] at hs
      refine wpIn_seq ?_
      split at hs
      · rename_i st1 h1
        refine ih n (Nat.lt_succ_self n) x st ρ a w .normal st1 _ h h1 hc.1 (fun a1 w1 hw => ?_)
        obtain ⟨ρ1, r1, e1⟩ := hw.rel
        refine ih n (Nat.lt_succ_self n) y st1 ρ1 a1 w1 ex st' Q r1 hs hc.2 (fun a2 w2 hw2 => hn a2 w2 ?_)
        obtain ⟨ρ2, r2, e2⟩ := hw2.rel
        exact ⟨ρ2, r2, e1.trans e2⟩
      · rename_i hne
        refine ih n (Nat.lt_succ_self n) x st ρ a w ex st' _ h hs hc.1 (fun a1 w1 hw => ?_)
        cases ex with
        | normal => exact absurd hs (hne st')
        | exit id => exact hn a1 w1 hw
        | ret => exact hn a1 w1 hw
    | cond x p q =>
      simp only [codeOk, Bool.and_eq_true] at hc
      simp only [evCode] at hs
      split at hs
      · rename_i t ht
        have hx := h.eval hG x
        rw [ht] at hx
        refine wpIn_cond (t := t) hx.bool_inv ?_
        cases t with
        | true => exact ih n (Nat.lt_succ_self n) p st ρ a w ex st' Q h hs hc.1 hn
        | false => exact ih n (Nat.lt_succ_self n) q st ρ a w ex st' Q h hs hc.2 hn
      · cases hs
    | block id p =>
      simp only [codeOk] at hc
      simp only [evCode] at hs
      refine wpIn_block ?_
      split at hs
      · rename_i j st1 h1
        refine ih n (Nat.lt_succ_self n) p st ρ a w (.exit j) st1 _ h h1 hc (fun a1 w1 hw => ?_)
        simp only [exOf, Exit.inBlock]
        split at hs
        · rename_i e
          simp only [Option.some.injEq, Prod.mk.injEq] at hs
          obtain ⟨rfl, rfl⟩ := hs
          rw [if_pos e]
          exact hn a1 w1 hw
        · rename_i e
          simp only [Option.some.injEq, Prod.mk.injEq] at hs
          obtain ⟨rfl, rfl⟩ := hs
          rw [if_neg e]
          exact hn a1 w1 hw
      · rename_i hne
        refine ih n (Nat.lt_succ_self n) p st ρ a w ex st' _ h hs hc (fun a1 w1 hw => ?_)
        cases ex with
        | normal => exact hn a1 w1 hw
        | exit id => exact absurd hs (hne id st')
        | ret => exact hn a1 w1 hw
    | loop p =>
      simp only [codeOk] at hc
      -- the fuel that is left
      let J : Nat → Act → World → Prop := fun k a1 w1 => k ≤ n + 1 ∧ ∃ (st1 : St) (ρ1 : Key → Option Nat), Rel ng base nt w0 Ext D ρ1 st1 a1 w1 ∧ evCode c O k (.loop p) st1 = some (ex, st') ∧ Evo w ρ (Mut Ext ρ st.hp) w1 ρ1 (Mut Ext ρ1 st1.hp)
      have hfind : ∀ a1 w1, (∃ k, J k a1 w1) → ∃ k, J k a1 w1 ∧ ∀ j, J j a1 w1 → k ≤ j := fun a1 w1 ⟨k, hk⟩ => by
        induction k using Nat.strongRecOn with
        | _ k ihk =>
          by_cases hm : ∃ j, j < k ∧ J j a1 w1
          · obtain ⟨j, hj, hJ⟩ := hm
            exact ihk j hj hJ
          · exact ⟨k, hk, fun j hj => by
              rcases Nat.lt_or_ge j k with q | q
              · exact absurd ⟨j, q, hj⟩ hm
              · exact q⟩
      classical
      let μ : Act → World → Nat := fun a1 w1 => if hq : ∃ k, J k a1 w1 then Classical.choose (hfind a1 w1 hq) else 0
      have hμ : ∀ a1 w1, (hq : ∃ k, J k a1 w1) → J (μ a1 w1) a1 w1 ∧ ∀ j, J j a1 w1 → μ a1 w1 ≤ j := fun a1 w1 hq => by
        simp only [μ, dif_pos hq]
        exact Classical.choose_spec (hfind a1 w1 hq)
      refine wpIn_loop (fun a1 w1 => ∃ k, J k a1 w1) μ ⟨n + 1, Nat.le_refl _, st, ρ, h, hs, Evo.refl _ _ _⟩ (fun a1 w1 hI => ?_)
      obtain ⟨⟨hk, st1, ρ1, r1, hs1, e1⟩, hmin⟩ := hμ a1 w1 hI
      generalize μ a1 w1 = k at hk hs1 hmin ⊢
      cases k with
      | zero => simp [evCode] at hs1
      | succ k =>
        simp only [evCode] at hs1
        split at hs1
        · rename_i st2 h2
          refine ih k (by omega) p st1 ρ1 a1 w1 .normal st2 _ r1 h2 hc (fun a2 w2 hw => ?_)
          obtain ⟨ρ2, r2, e2⟩ := hw.rel
          have hJ2 : J k a2 w2 := ⟨by omega, st2, ρ2, r2, hs1, e1.trans e2⟩
          exact ⟨⟨k, hJ2⟩, Nat.lt_succ_of_le ((hμ a2 w2 ⟨k, hJ2⟩).2 k hJ2)⟩
        · rename_i hne
          refine ih k (by omega) p st1 ρ1 a1 w1 ex st' _ r1 hs1 hc (fun a2 w2 hw => ?_)
          obtain ⟨ρ2, r2, e2⟩ := hw.rel
          have hw' : Went ng base nt w0 Ext D ρ st.hp w st' a2 w2 := ⟨ρ2, r2, e1.trans e2⟩
          cases ex with
          | normal => exact absurd hs1 (hne st')
          | exit id => exact hn a2 w2 hw'
          | ret => exact hn a2 w2 hw'
    | exit id =>
      simp only [evCode, Option.some.injEq, Prod.mk.injEq] at hs
      obtain ⟨rfl, rfl⟩ := hs
      exact wpIn_exit (hn a w ⟨ρ, h, Evo.refl _ _ _⟩)
    | ret =>
      simp only [evCode, Option.some.injEq, Prod.mk.injEq] at hs
      obtain ⟨rfl, rfl⟩ := hs
      exact wpIn_ret (hn a w ⟨ρ, h, Evo.refl _ _ _⟩)
    | _ => simp [evCode] at hs
end
end Go.Proofs.YtigfgicjjhepoaaGreatDoor.VA

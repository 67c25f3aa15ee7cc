/- Bodies, calls: the evaluator is sound. -/
import Derived.Test.YtigfgicjjhepoaaGreatDoorWa
set_option linter.unusedVariables false
set_option linter.unusedSimpArgs false
namespace Go.Proofs.YtigfgicjjhepoaaGreatDoor.VA
open Go Go.RowKit
section
variable {ng base nt : Nat} {w0 : World} {Ext : Nat → Prop} {D : List Deferred} {ρ : Key → Option Nat} {st : St} {a : Act} {w w' : World} {H : Heap} {c : Ctx} {O : Orc} {P : Program} {pol : Pol}

theorem loadVar_of {t : TypeId} {va v : Value} (h : (Instr.loadAt t va).run P w = .ok v w) : (do loadVar t (← asAddr va) : Sem Value).run P w = .ok v w ∨ ¬ ∃ x, va = .pointer (some x) := by
  by_cases hx : ∃ x, va = .pointer (some x)
  · left
    obtain ⟨x, rfl⟩ := hx
    simpa [Instr.loadAt, Instr.sureAddr, asAddr] using h
  · exact .inr hx

theorem resV_ok (h : Rel ng base nt w0 Ext D ρ st a w) {r : ResultVar} {x : PV} (hs : resV c st r = some x) :
    ∃ v, (match r with
      | .tmp t => pure (a.tmps.getD t undef)
      | .cell p t => do loadVar t (← asAddr (a.tmps.getD p undef)) : Sem Value).run c.P w = .ok v w ∧ Rep w ρ (Mut Ext ρ st.hp) x v := by
  cases r with
  | tmp t =>
    simp only [resV, Option.some.injEq] at hs
    subst hs
    exact ⟨_, rfl, h.tmps t⟩
  | cell p t =>
    simp only [resV] at hs
    obtain ⟨v, h1, h2⟩ := loadV_ok (P := c.P) h.heap.rows hs (h.tmps p)
    refine ⟨v, ?_, h2⟩
    rcases loadVar_of h1 with h3 | h3
    · exact h3
    · exfalso
      apply h3
      have hp := h.tmps p
      unfold loadV at hs
      split at hs
      · cases hs
      · split at hs
        · rename_i hpv
          rw [hpv] at hp
          generalize a.tmps.getD p undef = u at hp ⊢
          cases hp; exact ⟨_, rfl⟩
        · rename_i hpv
          rw [hpv] at hp
          generalize a.tmps.getD p undef = u at hp ⊢
          cases hp; exact ⟨_, rfl⟩
        · cases hs

theorem resL_ok (h : Rel ng base nt w0 Ext D ρ st a w) : ∀ {rs : List ResultVar} {xs : List PV}, rs.mapM (resV c st) = some xs →
    ∃ vs : List Value, (rs.mapM fun r => (match r with
      | .tmp t => pure (a.tmps.getD t undef)
      | .cell p t => do loadVar t (← asAddr (a.tmps.getD p undef)) : Sem Value)).run c.P w = .ok vs w ∧ Reps w ρ (Mut Ext ρ st.hp) xs vs
  | [], xs, hs => by
    simp only [List.mapM_nil] at hs
    cases hs
    exact ⟨[], rfl, Reps.nil⟩
  | r :: rs, xs, hs => by
    rw [List.mapM_cons] at hs
    cases hr : resV c st r with
    | none => rw [hr] at hs; cases hs
    | some x =>
      rw [hr] at hs
      cases hl : rs.mapM (resV c st) with
      | none => rw [hl] at hs; cases hs
      | some xs' =>
        rw [hl] at hs
        cases hs
        obtain ⟨v, h1, h2⟩ := resV_ok h hr
        obtain ⟨vs, h3, h4⟩ := resL_ok h hl
        refine ⟨v :: vs, ?_, Reps.cons h2 h4⟩
        rw [List.mapM_cons]
        simp only [Sem.run_bind, h1, h3, Result.andThen_ok, Sem.run_pure]

theorem results_ok (h : Rel ng base nt w0 Ext D ρ st a w) {fn : Func} {x : PV} (hs : resultsV c st fn.results.toList = some x) :
    ∃ v, (results fn a.tmps).run c.P w = .ok v w ∧ Rep w ρ (Mut Ext ρ st.hp) x v := by
  have key : ∀ xs, fn.results.toList.mapM (resV c st) = some xs → ∃ vs : List Value, vs.length = xs.length ∧ (results fn a.tmps).run c.P w = .ok (if h : vs.length = 1 then vs[0] else .tuple vs.toArray) w ∧ Reps w ρ (Mut Ext ρ st.hp) xs vs := by
    intro xs hx
    obtain ⟨vs, h1, h2⟩ := resL_ok h hx
    refine ⟨vs, h2.1.symm, ?_, h2⟩
    unfold results
    rw [Array.mapM_eq_mapM_toList]
    simp only [Sem.run_bind, map_eq_pure_bind]
    erw [h1]
    simp only [Result.andThen_ok, Sem.run_pure, List.size_toArray]
    rfl
  unfold resultsV at hs
  split at hs
  · rename_i r hr
    obtain ⟨vs, hl, hrun, hR⟩ := key [x] (by rw [hr, List.mapM_cons, hs]; rfl)
    match vs, hl, hrun, hR with
    | [v], _, hrun, hR => exact ⟨v, by simpa using hrun, hR.head⟩
  · rename_i hne
    simp only [Option.map_eq_some_iff] at hs
    obtain ⟨xs, hx, rfl⟩ := hs
    obtain ⟨vs, hl, hrun, hR⟩ := key xs hx
    have hne1 : ¬ vs.length = 1 := fun e => by
      have hlen := mapM_len hx
      rw [← hl, e] at hlen
      obtain ⟨r, hr⟩ := List.length_eq_one_iff.1 hlen
      exact hne r hr
    rw [dif_neg hne1] at hrun
    exact ⟨_, hrun, .tup xs _ (by simp [hl]) (fun i c v hc hv => hR.2 i c v hc (by simpa using hv))⟩
where
  mapM_len {α β : Type} {f : α → Option β} : ∀ {l : List α} {r : List β}, l.mapM f = some r → l.length = r.length := fun h => by
    have := mapM_get h
    rename_i l r
    apply Nat.le_antisymm
    · rcases Nat.lt_or_ge r.length l.length with q | q
      · have e := this r.length
        rw [List.getElem?_eq_none (Nat.le_refl _), List.getElem?_eq_getElem q] at e
        exfalso
        have : ∀ (l : List α) (r : List β), l.mapM f = some r → ∀ x ∈ l, ∃ y, f x = some y := by
          intro l
          induction l with
          | nil => intro r _ x hx; cases hx
          | cons z l ih =>
            intro r hr x hx
            rw [List.mapM_cons] at hr
            cases hz : f z with
            | none => rw [hz] at hr; cases hr
            | some y =>
              rw [hz] at hr
              cases hl : l.mapM f with
              | none => rw [hl] at hr; cases hr
              | some r' =>
                rcases List.mem_cons.1 hx with rfl | hx
                · exact ⟨y, hz⟩
                · exact ih r' hl x hx
        obtain ⟨y, hy⟩ := this l r h _ (List.getElem_mem q)
        simp [hy] at e
      · exact q
    · rcases Nat.lt_or_ge l.length r.length with q | q
      · have e := this l.length
        rw [List.getElem?_eq_getElem q, List.getElem?_eq_none (Nat.le_refl _)] at e
        simp at e
      · exact q

/-- A body. -/
theorem evBody_ok (hP : POk P pol) (hC : COk P pol) (hO : OrcOk P pol O) {n : Nat} {path : List Nat} {f : FuncId} {args : List PV} {r : PV} {H' : Heap} (hs : evBody P pol O n path f args H = some (r, H')) {vs : Array Value} (hG : GOk pol ng w) (h : HRel ng base Ext ρ H w)
    (hv : Reps w ρ (Mut Ext ρ H) args vs.toList) : Does P f vs w (fun v w' => ∃ ρ', Stepd ng base Ext ρ H w w' ρ' H' ∧ Rep w' ρ' (Mut Ext ρ' H') r v) := by
  unfold evBody at hs
  split at hs
  · cases hs
  rename_i fn hf
  split at hs
  · cases hs
  rename_i body hb
  split at hs
  rotate_left
  · cases hs
  rename_i hlen
  obtain ⟨hlen, huse⟩ := hlen
  refine .inl ⟨fn, body, hf, hb, hC.name f fn body huse hf hb, ?_⟩
  have hcode := hC.code f fn body huse hf hb
  let cc : Ctx := ⟨P, pol, path, f⟩
  have hvl : args.length = vs.size := by simpa using hv.1
  let a0 : Act := { tmps := vs ++ Array.replicate (fn.ntmps - vs.size) undef, defers := [] }
  have hR0 : Rel ng base fn.ntmps w Ext [] ρ (startSt args H) a0 w := by
    refine ⟨fun i => ?_, by simp [a0]; omega, rfl, Below.refl _ _, h⟩
    simp only [startSt, a0]
    rcases Nat.lt_or_ge i args.length with hi | hi
    · have h1 : args[i]? = some args[i] := List.getElem?_eq_getElem hi
      have h2 : vs.toList[i]? = some (vs[i]'(by omega)) := by simp [show i < vs.size by omega]
      have h3 := hv.2 i _ _ h1 h2
      rw [List.getD_eq_getElem?_getD, h1, Array.getD_eq_getD_getElem?, Array.getElem?_append_left (by omega), Array.getElem?_eq_getElem (by omega)]
      exact h3
    · rw [List.getD_eq_getElem?_getD, List.getElem?_eq_none hi, Array.getD_eq_getD_getElem?, Array.getElem?_append_right (by omega), Array.getElem?_replicate]
      have : ((if i - vs.size < fn.ntmps - vs.size then some undef else none).getD undef : Value) = undef := by split <;> rfl
      rw [this]
      exact rep_unit
  have done : ∀ {ex : Ex} {st : St}, evCode cc O n body (startSt args H) = some (ex, st) → (ex = .normal ∨ ex = .ret) → (resultsV cc st fn.results.toList).map (fun r => (r, st.hp)) = some (r, H') →
      Calls P f vs w (fun e w' => ∃ v, e = .returned v ∧ ∃ ρ', Stepd ng base Ext ρ H w w' ρ' H' ∧ Rep w' ρ' (Mut Ext ρ' H') r v) := by
    intro ex st he hex hr
    simp only [Option.map_eq_some_iff, Prod.mk.injEq] at hr
    obtain ⟨x, hx, rfl, rfl⟩ := hr
    refine callsIn_wide (n := 0).1 (callsIn_of_wp hf hb trivial ?_)
    have hcc : codeOk cc.pol cc.fn fn.ntmps body = true := hcode
    refine evCode_ok (c := cc) (ro := none) hP hO hG n body (startSt args H) ρ a0 w ex st _ hR0 he hcc (fun a' w' hw => ?_)
    obtain ⟨ρ', r1, e1⟩ := hw.rel
    obtain ⟨v, h1, h2⟩ := results_ok (c := cc) r1 hx
    have fin : a'.defers = [] ∧ ∃ v, (results fn a'.tmps).run P w' = .ok v w' ∧ ∃ u, Ending.returned v = .returned u ∧ ∃ ρ', Stepd ng base Ext ρ H w w' ρ' st.hp ∧ Rep w' ρ' (Mut Ext ρ' st.hp) x u :=
      ⟨r1.defers, v, h1, v, rfl, ρ', ⟨r1.below, r1.heap, e1⟩, h2⟩
    rcases hex with rfl | rfl
    · exact fin
    · exact fin
  split at hs
  · rename_i st he
    exact done he (.inl rfl) hs
  · rename_i st he
    exact done he (.inr rfl) hs
  · cases hs

theorem hrel_empty {M : Nat → Prop} (hng : ng ≤ w.heap.size) (hM : ∀ b, M b → b < w.heap.size ∧ ng ≤ b) : HRel ng w.heap.size M (fun _ => none) Heap.empty w where
  ngb := hng
  size := Nat.le_refl _
  ext := hM
  dom k b h := by cases h
  fresh p d n _ := ⟨rfl, rfl⟩
  inj k k' b h := absurd rfl h
  blk k x h := by cases h

/-- A call at arguments without keys. -/
theorem evPure_ok (hP : POk P pol) (hC : COk P pol) (hO : OrcOk P pol O) {n : Nat} {f : FuncId} {args : List PV} {r : PV} (hs : evPure P pol O n f args = some r) {M : Nat → Prop} {vs : Array Value} (hG : GOk pol ng w) (hng : ng ≤ w.heap.size)
    (hM : ∀ b, M b → b < w.heap.size ∧ ng ≤ b) (hv : Reps w (fun _ => none) M args vs.toList) : Does P f vs w (fun v w' => Below w.heap.size w w' ∧ Rep w' (fun _ => none) M r v) := by
  unfold evPure at hs
  split at hs
  rotate_left
  · cases hs
  rename_i hpers
  split at hs
  rotate_left
  · cases hs
  rename_i x H hb
  simp only [Option.map_eq_some_iff] at hs
  obtain ⟨⟨y, ks⟩, hd, rfl⟩ := hs
  have hmut : ∀ b, Mut M (fun _ => none) Heap.empty b → M b := fun b hm => by
    rcases hm with hm | ⟨k, _, _, h1, _⟩
    · exact hm
    · cases h1
  have hD := evBody_ok hP hC hO hb hG (hrel_empty hng hM) (hv.pers hmut hpers)
  have fin : ∀ v w', (∃ ρ', Stepd ng w.heap.size M (fun _ => none) Heap.empty w w' ρ' H ∧ Rep w' ρ' (Mut M ρ' H) x v) → Below w.heap.size w w' ∧ Rep w' (fun _ => none) M y v := by
    rintro v w' ⟨ρ', hS, hx⟩
    refine ⟨hS.below, (dr_ok (ρ' := fun _ => none) hS.heap.rows (fun b hm => .inl hm) 12).1 x y ks v hd (fun k b _ hk hm => ?_) hx⟩
    have h1 := (hS.heap.dom k b hk).1
    have h2 := (hM b hm).1
    omega
  rcases hD with ⟨fn, cd, h1, h2, h3, h4⟩ | ⟨v, w', h1, h2⟩
  · exact .inl ⟨fn, cd, h1, h2, h3, fun cs => let ⟨e, w', fr, ⟨v, he, hR⟩, s, x⟩ := h4 cs; ⟨e, w', fr, ⟨v, he, fin v w' hR⟩, s, x⟩⟩
  · exact .inr ⟨v, w', h1, fin v w' h2⟩

/-- What the user says of a function by other means. -/
def PrimOk (P : Program) (pol : Pol) (prim : FuncId → List PV → Option PV) : Prop :=
  ∀ f args r, prim f args = some r → ∀ (ng : Nat) (w : World) (M : Nat → Prop) (vs : Array Value), GOk pol ng w → ng ≤ w.heap.size → (∀ b, M b → b < w.heap.size ∧ ng ≤ b) → Reps w (fun _ => none) M args vs.toList →
    Does P f vs w (fun v w' => Below w.heap.size w w' ∧ Rep w' (fun _ => none) M r v)

/-- The same of a function that is called on the caller's heap. -/
def PrimIOk (P : Program) (pol : Pol) (primI : FuncId → List PV → Heap → Option (PV × Heap)) : Prop :=
  ∀ f args H r H', primI f args H = some (r, H') → ∀ (ng base : Nat) (Ext : Nat → Prop) (ρ : Key → Option Nat) (w : World) (vs : Array Value), GOk pol ng w → HRel ng base Ext ρ H w → Reps w ρ (Mut Ext ρ H) args vs.toList →
    Does P f vs w (fun v w' => ∃ ρ', Stepd ng base Ext ρ H w w' ρ' H' ∧ Rep w' ρ' (Mut Ext ρ' H') r v)

theorem orc_ok (hP : POk P pol) (hC : COk P pol) {prim : FuncId → List PV → Option PV} (hp : PrimOk P pol prim) {primI : FuncId → List PV → Heap → Option (PV × Heap)} (hi : PrimIOk P pol primI) : ∀ n, OrcOk P pol (orc P pol prim primI n)
  | 0 => ⟨hp, fun path f args H r H' h => hi f args H r H' h⟩
  | n + 1 => by
    have ih := orc_ok hP hC hp hi n
    refine ⟨fun f args r h ng w M vs hG hng hM hv => ?_, fun path f args H r H' h ng base Ext ρ w vs hG hR hv => ?_⟩
    · simp only [orc] at h
      split at h
      · rename_i r' hr
        simp only [Option.some.injEq] at h
        subst h
        exact hp f args r' hr ng w M vs hG hng hM hv
      · exact evPure_ok hP hC ih h hG hng hM hv
    · simp only [orc] at h
      split at h
      · rename_i r' hr
        simp only [Option.some.injEq] at h
        subst h
        exact hi f args H r H' hr ng base Ext ρ w vs hG hR hv
      · exact evBody_ok hP hC ih h hG hR hv
end
end Go.Proofs.YtigfgicjjhepoaaGreatDoor.VA

/- What is asked of a program, by computation; functions of the model's own; more primitives. -/
import Derived.Test.YtigfgicjjhepoaaGreatDoorWb
import Derived.Lib.Bytealg
import Derived.Shelf.Abstract
set_option linter.unusedVariables false
set_option linter.unusedSimpArgs false
namespace Go.Proofs.YtigfgicjjhepoaaGreatDoor.VA
open Go Go.RowKit

/-- The look at a type. -/
def tyChk (P : Program) (t : Nat) : Bool :=
  match P.info? t with
  | none => true
  | some i => match i.zero with
    | none => false
    | some z => Nat.beq z.cells.size i.size &&
      (match aggT P t with
        | some true => (match z with
          | .agg _ => true
          | _ => false)
        | some false => z.oneCell'
        | none => true) &&
      (match P.underlying t with
        | some (.struct fs) => (fs.toList.mapM (fun f => (P.info? f.type).map fun i => (f.offset, i.size))).isSome
        | _ => true)

theorem pok_of {P : Program} {pol : Pol} {n : Nat} (hn : P.types.size = n) (h : (List.range n).all (tyChk P) = true) (hm : P.follows .mixedOrders = true) (he : ∀ t, pol.eqt t = false) : POk P pol := by
  have key : ∀ t, okT P t = true → tyChk P t = true := fun t ht => List.all_eq_true.1 h t (List.mem_range.2 (by rw [← hn]; simpa [okT, Nat.blt_eq] using ht))
  have zero : ∀ t i, okT P t = true → P.info? t = some i → ∃ z, i.zero = some z := fun t i ht hi => by
    have := key t ht
    simp only [tyChk, hi] at this
    split at this
    · cases this
    · rename_i z hz; exact ⟨z, hz⟩
  have all : ∀ t i z, okT P t = true → P.info? t = some i → i.zero = some z → z.cells.size = i.size ∧ (aggT P t = some true → ∃ cs, z = .agg cs) ∧ (aggT P t = some false → z.oneCell' = true) ∧
      (∀ fs, P.underlying t = some (.struct fs) → (fs.toList.mapM (fun f => (P.info? f.type).map fun i => (f.offset, i.size))).isSome = true) := fun t i z ht hi hz => by
    have := key t ht
    simp only [tyChk, hi, hz, Bool.and_eq_true] at this
    obtain ⟨⟨h1, h2⟩, h3⟩ := this
    refine ⟨Nat.eq_of_beq_eq_true h1, fun ha => ?_, fun ha => ?_, fun fs hf => ?_⟩
    · rw [ha] at h2
      cases z <;> simp_all
    · rw [ha] at h2; exact h2
    · rw [hf] at h3; exact h3
  refine ⟨fun t fs ht hf => ?_, fun t i z ht hi hz => (all t i z ht hi hz).1, fun t i z ht hi hz => (all t i z ht hi hz).2.1, fun t i z ht hi hz => (all t i z ht hi hz).2.2.1, zero, hm, fun t ht => ?_, fun t ht => ?_⟩
  · cases hi : P.info? t with
    | none => simp [Program.underlying, hi] at hf
    | some i =>
      obtain ⟨z, hz⟩ := zero t i ht hi
      exact (all t i z ht hi hz).2.2.2 fs hf
  · rw [he] at ht; cases ht
  · rw [he] at ht; cases ht

/-- The look at a function. -/
def fnChk (P : Program) (pol : Pol) (f : Nat) : Bool :=
  !pol.use f || match P.funcs[f]? with
    | some fn => match fn.body with
      | some b => codeOk pol f fn.ntmps b && !(fn.name == "runtime.NumGoroutine")
      | none => true
    | none => true

theorem cok_of {P : Program} {pol : Pol} {n : Nat} (hn : P.funcs.size = n) (h : (List.range n).all (fnChk P pol) = true) : COk P pol := by
  have key : ∀ (f : FuncId) (fn : Func) (body : Code), pol.use f = true → P.funcs[f]? = some fn → fn.body = some body → codeOk pol f fn.ntmps body = true ∧ (fn.name == "runtime.NumGoroutine") = false := fun f fn body hu hf hb => by
    have hlt : f < n := by rw [← hn]; exact (Array.getElem?_eq_some_iff.1 hf).1
    have := List.all_eq_true.1 h f (List.mem_range.2 hlt)
    simpa [fnChk, hu, hf, hb] using this
  exact ⟨fun f fn body hu hf hb => (key f fn body hu hf hb).1, fun f fn body hu hf hb => (key f fn body hu hf hb).2⟩

theorem gok_junk {pol : Pol} (h : ∀ x, pol.glob x = .junk) (ng : Nat) (w : World) : GOk pol ng w := fun x => by
  rw [h x]; exact ⟨rfl, .junk _⟩

/-- One more function by other means: by a run of the evaluator over what was known. -/
def addP (f : FuncId) (spec : List PV → Option PV) (p : FuncId → List PV → Option PV) : FuncId → List PV → Option PV := fun g args =>
  if Nat.beq g f then (match spec args with
    | some r => some r
    | none => p g args) else p g args

theorem primOk_none (P : Program) (pol : Pol) : PrimOk P pol (fun _ _ => none) := fun f args r h => by cases h
theorem primIOk_none (P : Program) (pol : Pol) : PrimIOk P pol (fun _ _ _ => none) := fun f args H r H' h => by cases h

theorem primOk_does {P : Program} {pol : Pol} {p : FuncId → List PV → Option PV} (hp : PrimOk P pol p) {f : FuncId} {spec : List PV → Option PV}
    (h : ∀ args r, spec args = some r → ∀ (ng : Nat) (w : World) (M : Nat → Prop) (vs : Array Value), GOk pol ng w → ng ≤ w.heap.size → (∀ b, M b → b < w.heap.size ∧ ng ≤ b) → Reps w (fun _ => none) M args vs.toList →
      Does P f vs w (fun v w' => Below w.heap.size w w' ∧ Rep w' (fun _ => none) M r v)) : PrimOk P pol (addP f spec p) := by
  intro g args r hg
  unfold addP at hg
  split at hg
  · rename_i e
    have e := Nat.eq_of_beq_eq_true e
    subst e
    split at hg
    · rename_i r' hs
      cases hg
      exact h args r hs
    · exact hp g args r hg
  · exact hp g args r hg

theorem primOk_add {P : Program} {pol : Pol} (hP : POk P pol) (hC : COk P pol) {p : FuncId → List PV → Option PV} (hp : PrimOk P pol p) {pI : FuncId → List PV → Heap → Option (PV × Heap)} (hi : PrimIOk P pol pI) {f : FuncId} {spec : List PV → Option PV}
    (h : ∀ args r, spec args = some r → ∃ n, (orc P pol p pI n).pure f args = some r) : PrimOk P pol (addP f spec p) :=
  primOk_does hp fun args r hs => by
    obtain ⟨n, hn⟩ := h args r hs
    exact (orc_ok hP hC hp hi n).pure f args r hn

/-- A function of the model's own. -/
theorem does_extern {P : Program} {f : FuncId} {fn : Func} {e : Array Value → Sem Value} {vs : Array Value} {w w' : World} {v : Value} {R : Value → World → Prop} (hf : P.funcs[f]? = some fn) (hb : fn.body = none) (hn : (fn.name == "runtime.NumGoroutine") = false)
    (h1 : (Extern.findNext fn).isNone = true) (h2 : Extern.find fn = some e) (hr : (e vs).run P w = .ok v w') (hR : R v w') : Does P f vs w R :=
  .inr ⟨v, w', (run_callFunc_extern hf hn (by simp [hb]) (by simpa using h1) h2 vs w).trans (by rw [hr]; rfl), hR⟩

theorem prim_ibs {P : Program} {pol : Pol} {p : FuncId → List PV → Option PV} (hp : PrimOk P pol p) {f : FuncId} {fn : Func} (hf : P.funcs[f]? = some fn) (hb : fn.body = none) (hn : (fn.name == "runtime.NumGoroutine") = false)
    (h1 : (Extern.findNext fn).isNone = true) (h2 : Extern.find fn = some Extern.BytealgIndexByte.indexByte) :
    PrimOk P pol (addP f (fun l => match l with
      | [.str s, .int .u8 b] => some (.int .i64 (Lib.indexByte s.data.toList b.toNat.toUInt8))
      | _ => none) p) :=
  primOk_does hp fun args r hs ng w M vs hG hng hM hv => by
    split at hs
    · rename_i s b
      cases hs
      obtain ⟨vs⟩ := vs
      have h0 := hv.1
      match vs, h0, hv with
      | [v1, v2], _, hv =>
        have q1 := hv.2 0 _ v1 rfl rfl
        have q2 := hv.2 1 _ v2 rfl rfl
        cases q1; cases q2
        exact does_extern hf hb hn h1 h2 (Lib.run_indexByteString s b w) ⟨Below.refl _ _, .int _ _⟩
    · cases hs
end Go.Proofs.YtigfgicjjhepoaaGreatDoor.VA

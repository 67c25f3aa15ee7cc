/- Each operation that makes a value: what the machine makes is what the evaluator says. -/
import Derived.Test.YtigfgicjjhepoaaGreatDoorVd
import Derived.Laws.Tables
import Derived.Laws.Slices
import Derived.Laws.BytesString
import Derived.Lib.ConvBytes
set_option linter.unusedVariables false
set_option linter.unusedSimpArgs false
namespace Go.Proofs.YtigfgicjjhepoaaGreatDoor.VA
open Go Go.RowKit

/-- Closed facts about a program. -/
structure POk (P : Program) (pol : Pol) : Prop where
  fields : ∀ t fs, okT P t = true → P.underlying t = some (.struct fs) → (fs.toList.mapM (fun f => (P.info? f.type).map fun i => (f.offset, i.size))).isSome = true
  zero : ∀ t i z, okT P t = true → P.info? t = some i → i.zero = some z → z.cells.size = i.size
  zagg : ∀ t i z, okT P t = true → P.info? t = some i → i.zero = some z → aggT P t = some true → ∃ cs, z = .agg cs
  zone : ∀ t i z, okT P t = true → P.info? t = some i → i.zero = some z → aggT P t = some false → z.oneCell' = true
  hasZero : ∀ t i, okT P t = true → P.info? t = some i → ∃ z, i.zero = some z
  mixed : P.follows .mixedOrders = true
  eqt : ∀ t, pol.eqt t = true → ∀ (xs ys : Array Value) (w : World), (∀ v ∈ xs.toList ++ ys.toList, (∃ k n, v = .int k n) ∨ (∃ s, v = .string s) ∨ ∃ b, v = .bool b) → xs.size = ys.size →
    ∃ b, (Op.equal t (.agg xs) (.agg ys)).run P w = .ok b w ∧ (b = true ↔ xs = ys)
  eqg : ∀ t, pol.eqt t = true → P.eqGuardType P.depth t = false

theorem sizeT {P : Program} {t : TypeId} {n : Nat} (h : szT P t = some n) : ∃ i, P.info? t = some i ∧ i.size = n := by
  unfold szT at h
  split at h
  · simpa using h
  · cases h
theorem size_ok {P : Program} {t : TypeId} {n : Nat} (h : szT P t = some n) : okT P t = true := by
  unfold szT at h
  split at h
  · assumption
  · cases h
theorem zero_okT {P : Program} {t : TypeId} {z : List PV} (h : zeroT P t = some z) : okT P t = true := by
  unfold zeroT at h
  split at h
  · assumption
  · cases h
theorem run_sizeOf {P : Program} {t : TypeId} {n : Nat} (h : szT P t = some n) (w : World) : (sizeOf t).run P w = .ok n w := by
  obtain ⟨i, hi, rfl⟩ := sizeT h
  simp [sizeOf, typeInfo, hi]

section
variable {w : World} {ρ : Key → Option Nat} {M : Nat → Prop}

theorem rep_list {l : List PV} {vs : List Value} (hl : l.length = vs.length) (h : ∀ (i : Nat) (c : PV) (v : Value), l[i]? = some c → vs[i]? = some v → Rep w ρ M c v) (P0 : List PV → List Value → Prop) (hP : P0 l vs) : P0 l vs := hP

theorem rep_ofVal : ∀ (n : Nat) (v : Value), Rep w ρ M (ofVal n v) v := by
  intro n
  induction n with
  | zero => intro v; cases v <;> exact .junk _
  | succ n ih =>
    intro v
    cases v with
    | bool b => exact .bool b
    | int k i => exact .int k i
    | string s => exact .str s
    | pointer a => cases a with
      | none => exact .nilp
      | some a => exact .junk _
    | slice a l c =>
      by_cases h : a = none ∧ l = 0 ∧ c = 0
      · obtain ⟨rfl, rfl, rfl⟩ := h; exact .sl0 true none 0 (fun _ => rfl)
      · have : ofVal (n + 1) (.slice a l c) = .junk := by
          unfold ofVal
          split <;> simp_all
        rw [this]; exact .junk _
    | map r => cases r with
      | none => exact .nilm
      | some a => exact .junk _
    | nilFunc => exact .nilfn
    | nilIface => exact .nilif
    | agg cs =>
      refine .agg _ cs (by simp) (fun i c v hc hv => ?_)
      simp only [List.getElem?_map, Array.getElem?_toList, hv, Option.map_some, Option.some.injEq] at hc
      subst hc; exact ih v
    | tuple vs =>
      refine .tup _ vs (by simp) (fun i c v hc hv => ?_)
      simp only [List.getElem?_map, Array.getElem?_toList, hv, Option.map_some, Option.some.injEq] at hc
      subst hc; exact ih v
    | float k b => exact .junk _
    | complex k a b => exact .junk _
    | chan r => exact .junk _
    | func f a b => exact .junk _
    | iface t v => exact .junk _

/-- The cells of what is represented. -/
theorem Rep.cells {x : PV} {v : Value} (h : Rep w ρ M x v) (hj : x ≠ .junk) : x.cells.length = v.cells.size ∧ ∀ (i : Nat) (c : PV) (u : Value), x.cells[i]? = some c → v.cells[i]? = some u → Rep w ρ M c u := by
  cases h with
  | agg l cs hl h => exact ⟨by simpa [PV.cells, Value.cells] using hl, fun i c u hc hu => h i c u (by simpa [PV.cells] using hc) (by simpa [Value.cells] using hu)⟩
  | junk v => exact absurd rfl hj
  | _ =>
    refine ⟨rfl, fun i c u hc hu => ?_⟩
    rcases i with _ | i
    · simp only [PV.cells, Value.cells, List.getElem?_cons_zero, Option.some.injEq] at hc hu
      simp only [List.getElem?_toArray, List.getElem?_cons_zero, Option.some.injEq] at hu
      subst hc hu
      first
        | exact .bool _
        | exact .int _ _
        | exact .str _
        | exact .nilp
        | exact .nilfn
        | exact .nilm
        | exact .nilif
        | (constructor <;> assumption)
    · simp [PV.cells] at hc

theorem rep_asType {P : Program} {t : TypeId} {cs : List PV} {vs : List Value} {x : PV} (h : asType P t cs = some x) (hl : cs.length = vs.length)
    (hr : ∀ (i : Nat) (c : PV) (v : Value), cs[i]? = some c → vs[i]? = some v → Rep w ρ M c v) :
    (aggT P t = some true ∧ Rep w ρ M x (.agg vs.toArray)) ∨ (aggT P t = some false ∧ ∃ v, vs = [v] ∧ Rep w ρ M x v) := by
  unfold asType at h
  cases ha : aggT P t with
  | none => simp [ha] at h
  | some b =>
    cases b with
    | true =>
      simp only [ha, Option.some.injEq] at h
      subst h
      exact .inl ⟨rfl, .agg _ _ (by simpa using hl) (fun i c v hc hv => hr i c v hc (by simpa using hv))⟩
    | false =>
      simp only [ha] at h
      match cs, h with
      | [c], h =>
        simp only [Option.some.injEq] at h
        subst h
        match vs, hl with
        | [v], _ => exact .inr ⟨rfl, v, rfl, hr 0 c v rfl rfl⟩

theorem run_isAgg {P : Program} {t : TypeId} {b : Bool} (h : aggT P t = some b) (w : World) : (isAgg t).run P w = .ok b w := by
  unfold aggT at h
  unfold isAgg
  cases hu : P.underlying t with
  | none => simp [hu] at h
  | some d => cases d <;> simp [hu] at h <;> subst h <;> simp [run_underlying hu]

theorem cut_some {cs l : List PV} {off n : Nat} (h : cut cs off n = some l) : off + n ≤ cs.length ∧ l = (cs.drop off).take n ∧ l.length = n ∧ ∀ i, i < n → l[i]? = cs[off + i]? := by
  unfold cut at h
  split at h
  · rename_i hle
    simp only [Option.some.injEq] at h
    subst h
    refine ⟨hle, rfl, by simp; omega, fun i hi => ?_⟩
    rw [List.getElem?_take_of_lt hi, List.getElem?_drop]
  · cases h

/-- Cells that are in place are loaded as the type says. -/
theorem run_load_cells {P : Program} {t : TypeId} {n : Nat} (hn : szT P t = some n) {b off : Nat} {cs : List PV} {x : PV} (hx : asType P t cs = some x) (hl : cs.length = n) (val : Nat → Value)
    (hc : ∀ j, j < n → w.cell? ⟨b, off + j, none⟩ = some (val j)) (hr : ∀ j c, cs[j]? = some c → Rep w ρ M c (val j)) :
    ∃ v, (loadVar t ⟨b, off, none⟩).run P w = .ok v w ∧ Rep w ρ M x v := by
  have key := rep_asType (vs := (List.range n).map val) hx (by simpa using hl) (fun i c v hi hv => by
    have hlt : i < n := by have := (List.getElem?_eq_some_iff.1 hi).1; omega
    simp only [List.getElem?_map, List.getElem?_range hlt, Option.map_some, Option.some.injEq] at hv
    subst hv; exact hr i c hi)
  rcases key with ⟨ha, hrep⟩ | ⟨ha, v, hv, hrep⟩
  · refine ⟨_, ?_, hrep⟩
    have hload : (loadCells ⟨b, off, none⟩ n).run P w = .ok ((List.range n).map val).toArray w := run_loadCells w _ n val (fun j hj => by rw [Addr.add_lit]; exact hc j hj)
    simp [loadVar, run_isAgg ha, run_sizeOf hn, hload]
  · have hn1 : n = 1 := by have := congrArg List.length hv; simpa using this
    subst hn1
    refine ⟨v, ?_, hrep⟩
    have h0 := hc 0 (by omega)
    simp only [Nat.add_zero] at h0
    have : v = val 0 := by simpa using hv.symm
    subst this
    simp [loadVar, run_isAgg ha, run_load, h0]
end
end Go.Proofs.YtigfgicjjhepoaaGreatDoor.VA

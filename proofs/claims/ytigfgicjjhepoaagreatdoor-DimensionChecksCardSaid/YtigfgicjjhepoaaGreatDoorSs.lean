/- Dimensions' lists and strings, as they are handed in. -/
import Derived.Test.YtigfgicjjhepoaaGreatDoorSi
import Derived.Test.YtigfgicjjhepoaaGreatDoorSr
set_option linter.unusedVariables false
set_option linter.unusedSimpArgs false
namespace Go.Proofs.YtigfgicjjhepoaaGreatDoor.VA
open Go Go.Proofs Go.Proofs.YtigfgicjjhepoaaGreatDoor Go.ChangeShapes Go.WideShapes Go.ChangeAt Go.RowKit

theorem exists_list {α : Type} {p : Nat → α → Prop} : ∀ n, (∀ i, i < n → ∃ x, p i x) → ∃ l : List α, l.length = n ∧ ∀ i x, l[i]? = some x → p i x
  | 0, _ => ⟨[], rfl, fun i x h => by simp at h⟩
  | n + 1, h => by
    obtain ⟨l, hl, hp⟩ := exists_list n (fun i hi => h i (by omega))
    obtain ⟨x, hx⟩ := h n (by omega)
    refine ⟨l ++ [x], by simp [hl], fun i y hy => ?_⟩
    rcases Nat.lt_trichotomy i n with q | q | q
    · rw [List.getElem?_append_left (by omega)] at hy; exact hp i y hy
    · subst q
      rw [List.getElem?_append_right (by omega), hl, Nat.sub_self] at hy
      cases hy; exact hx
    · rw [List.getElem?_eq_none (by simp; omega)] at hy; cases hy

def Dm.cells (d : Dm) : List Value := [.string d.s, .int .i64 d.a, .int .i64 d.b, .int .i64 d.c]

set_option maxRecDepth 100000 in
theorem dim_cells {H : Type} {enc : TypeId × Value → H} {W : World} {n : Nat} {cs : List Value} {y : DataW H × List MemPlace} (hl : cs.length = 4) (h : DataW.trod enc Pr W 0 (fun _ => true) true n 23 cs = some y) : ∃ d : Dm, cs = d.cells := by
  have c9 : Pr.cellsOf 9 = 1 := by kernel_rfl
  have c3 : Pr.cellsOf 3 = 1 := by kernel_rfl
  obtain ⟨y0, y1, y2, y3, n, _, _, h0, h1, h2, h3⟩ := Joins.trod_struct4 Tryz.underlying23 h
  match cs, hl with
  | [x0, x1, x2, x3], _ =>
    simp only [c9, c3, List.drop_zero, List.drop_succ_cons, List.take_succ_cons, List.take_zero] at h0 h1 h2 h3
    obtain ⟨s, e0, _⟩ := DataW.trod_string Tryz.underlying9 h0
    obtain ⟨a, e1, _⟩ := DataW.trod_int Tryz.underlying3 h1
    obtain ⟨b, e2, _⟩ := DataW.trod_int Tryz.underlying3 h2
    obtain ⟨c, e3, _⟩ := DataW.trod_int Tryz.underlying3 h3
    simp only [List.cons.injEq, and_true] at e0 e1 e2 e3
    subst e0 e1 e2 e3
    exact ⟨⟨s, a, b, c⟩, rfl⟩

theorem mapM_range {α : Type} {f : Nat → Option α} : ∀ {n : Nat} {l : List α}, (List.range n).mapM f = some l → l.length = n ∧ ∀ i, i < n → f i = l[i]? := fun {n l} h => by
  have h1 := mapM_get h
  have hl : l.length = n := by
    have := results_ok.mapM_len h
    simpa using this.symm
  refine ⟨hl, fun i hi => ?_⟩
  have := h1 i
  rw [List.getElem?_range hi] at this
  simpa using this.symm

set_option maxRecDepth 100000 in
theorem dims_open {H : Type} {enc : TypeId × Value → H} {W : World} {base : Nat} {v : Value} {d : DataW H} {p : List MemPlace} (hv : Value.okWide Pr W .any base 29 v) (h : DataW.Trod enc Pr W 0 (fun _ => true) true 29 v d p) :
    ∃ l : List Dm, Rep W (fun _ => none) (fun _ => False) (LS l) v := by
  have hs : ∃ a len cap, v = .slice a len cap := by
    unfold Value.okWide at hv
    rw [Tryz.underlying29] at hv
    simp only [Cell.okWide, Tryz.underlying29] at hv
    cases v <;> simp [Cell.ok, Tryz.underlying29] at hv
    exact ⟨_, _, _, rfl⟩
  obtain ⟨a, len, cap, rfl⟩ := hs
  obtain ⟨fuel, h⟩ := h
  have c23 : Pr.cellsOf 23 = 4 := by kernel_rfl
  rcases DataW.trod_slice Tryz.underlying29 h with ⟨e, _⟩ | ⟨a', len', cap', elems, rest, n, _, e, _, _, hlc, _, hel, hev, _⟩
  · simp only [Value.cells, List.cons.injEq, Value.slice.injEq, and_true] at e
    obtain ⟨rfl, rfl, rfl⟩ := e
    exact ⟨[], .sl0 false none 0 (fun e => by cases e)⟩
  · simp only [Value.cells, List.cons.injEq, Value.slice.injEq, and_true] at e
    obtain ⟨rfl, rfl, rfl⟩ := e
    rw [c23] at hev
    have hex : ∀ i, i < len → ∃ dm : Dm, ∀ j x, dm.cells[j]? = some x → W.cell? ((a'.add (i * 4)).add j) = some x := fun i hi => by
      have h1 := hev i hi
      rw [List.getElem?_eq_getElem (by omega), Option.bind_eq_some_iff] at h1
      obtain ⟨cs, h2, h3⟩ := h1
      unfold World.cells? at h2
      rw [if_pos (Nat.zero_le _)] at h2
      obtain ⟨g1, g2⟩ := mapM_range h2
      obtain ⟨dm, rfl⟩ := dim_cells g1 h3
      refine ⟨dm, fun j x hx => ?_⟩
      have hj : j < 4 := by
        have := (List.getElem?_eq_some_iff.1 hx).1
        simpa [Dm.cells] using this
      rw [g2 j hj, hx]
    obtain ⟨l, hl, hp⟩ := exists_list (p := fun i (dm : Dm) => ∀ j x, dm.cells[j]? = some x → W.cell? ((a'.add (i * 4)).add j) = some x) len hex
    refine ⟨l, ?_⟩
    obtain ⟨ab, ao, asp⟩ := a'
    cases l with
    | nil =>
      have : len = 0 := by simpa using hl.symm
      subst this
      exact .sl0 false _ cap (fun e => by cases e)
    | cons d0 l' =>
      -- the address has no spot
      have hsp : asp = none := by
        have := hp 0 d0 rfl 0 _ rfl
        simp only [Nat.zero_mul, Addr.add, if_true] at this
        unfold World.cell? at this
        split at this
        · split at this
          · cases this
          · rename_i hns; simpa using hns
        · cases this
      subst hsp
      have hcell : ∀ i (dm : Dm), (d0 :: l')[i]? = some dm → ∀ j x, dm.cells[j]? = some x → W.cell? ⟨ab, ao + i * 4 + j, none⟩ = some x := fun i dm hd j x hx => by
        have := hp i dm hd j x hx
        have e : (Addr.add (Addr.add ⟨ab, ao, none⟩ (i * 4)) j) = ⟨ab, ao + i * 4 + j, none⟩ := by
          unfold Addr.add
          split <;> split <;> simp_all <;> omega
        rwa [e] at this
      rw [← hl]
      have hlen : (d0 :: l').length = ((d0 :: l').map Dm.pv).length := by simp
      rw [hlen]
      have hget : ∀ (i : Nat) (v : PV), ((d0 :: l').map Dm.pv)[i]? = some v → ∃ dm, (d0 :: l')[i]? = some dm ∧ v = dm.pv := fun i v h => by
        rw [List.getElem?_map, Option.map_eq_some_iff] at h
        obtain ⟨dm, h1, h2⟩ := h
        exact ⟨dm, h1, h2.symm⟩
      refine .sl false _ ab ao cap 4 (fun i j => (((d0 :: l')[i]?).bind fun dm => dm.cells[j]?).getD undef) (by rw [List.length_map, hl]; exact hlc) (fun e => by cases e) (fun v hv => ?_) (by omega) (fun e => e) (fun i v j x hi hj => ?_) (fun i v j x hi hj => ?_)
      · obtain ⟨dm, _, rfl⟩ := List.mem_map.1 hv; rfl
      · obtain ⟨dm, hd, rfl⟩ := hget i v hi
        have hj4 : j < 4 := by
          have := (List.getElem?_eq_some_iff.1 hj).1
          simpa [Dm.pv, D, PV.cells] using this
        have hx : dm.cells[j]? = some (dm.cells[j]'(by simpa [Dm.cells] using hj4)) := List.getElem?_eq_getElem _
        rw [hd, Option.bind_some, hx]
        exact hcell i dm hd j _ hx
      · obtain ⟨dm, hd, rfl⟩ := hget i v hi
        rw [hd, Option.bind_some]
        have hj4 : j < 4 := by
          have := (List.getElem?_eq_some_iff.1 hj).1
          simpa [Dm.pv, D, PV.cells] using this
        match j, hj4 with
        | 0, _ => cases hj; exact .str _
        | 1, _ => cases hj; exact .int _ _
        | 2, _ => cases hj; exact .int _ _
        | 3, _ => cases hj; exact .int _ _

set_option maxRecDepth 100000 in
theorem str_open {H : Type} {enc : TypeId × Value → H} {W : World} {base : Nat} {v : Value} {d : DataW H} {p : List MemPlace} (hv : Value.okWide Pr W .any base 9 v) (h : DataW.Trod enc Pr W 0 (fun _ => true) true 9 v d p) : ∃ s, v = .string s := by
  unfold Value.okWide at hv
  rw [Tryz.underlying9] at hv
  simp only [Cell.okWide, Tryz.underlying9] at hv
  cases v <;> simp [Cell.ok, Tryz.underlying9] at hv
  exact ⟨_, rfl⟩
end Go.Proofs.YtigfgicjjhepoaaGreatDoor.VA

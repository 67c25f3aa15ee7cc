/- A map's keys in order: plain lists. -/
import Derived.Test.YtigfgicjjhepoaaGreatDoorWc
import Derived.Shelf.SlIterI.Nil
set_option linter.unusedVariables false
set_option linter.unusedSimpArgs false
namespace Go.Proofs.YtigfgicjjhepoaaGreatDoor.VA
open Go Go.RowKit Go.Maps Go.WideElems
def insI (x : Int) : List Int → List Int
  | [] => [x]
  | y :: l => if x ≤ y then x :: y :: l else y :: insI x l
def srtI : List Int → List Int
  | [] => []
  | x :: l => insI x (srtI l)
def keyI : List (PV × PV) → Option (List Int)
  | [] => some []
  | (.int .i64 n, _) :: l => (keyI l).map (n :: ·)
  | _ => none
def apartI : List Int → Bool
  | [] => true
  | x :: l => l.all (fun y => !decide (x = y)) && apartI l

theorem insI_perm (x : Int) : ∀ l, (insI x l).Perm (x :: l)
  | [] => List.Perm.refl _
  | y :: l => by
    unfold insI
    split
    · exact List.Perm.refl _
    · exact ((insI_perm x l).cons y).trans (List.Perm.swap x y l)
theorem srtI_perm : ∀ l, (srtI l).Perm l
  | [] => List.Perm.refl _
  | x :: l => (insI_perm x _).trans ((srtI_perm l).cons x)
theorem insI_sorted (x : Int) : ∀ l, l.Pairwise (fun a b => a ≤ b) → (insI x l).Pairwise (fun a b => a ≤ b)
  | [], _ => by simp [insI]
  | y :: l, h => by
    unfold insI
    split
    · rename_i hxy
      refine List.pairwise_cons.2 ⟨fun z hz => ?_, h⟩
      rcases List.mem_cons.1 hz with rfl | hz
      · exact hxy
      · exact Int.le_trans hxy ((List.pairwise_cons.1 h).1 z hz)
    · rename_i hxy
      refine List.pairwise_cons.2 ⟨fun z hz => ?_, insI_sorted x l (List.pairwise_cons.1 h).2⟩
      rcases List.mem_cons.1 ((insI_perm x l).mem_iff.1 hz) with rfl | hz
      · omega
      · exact (List.pairwise_cons.1 h).1 z hz
theorem srtI_sorted : ∀ l, (srtI l).Pairwise (fun a b => a ≤ b)
  | [] => List.Pairwise.nil
  | x :: l => insI_sorted x _ (srtI_sorted l)
theorem merge_srtI {ss ks : List Int} (h : ss.Perm ks) : ss.mergeSort (fun x y => decide (x ≤ y)) = srtI ks := by
  refine List.Perm.eq_of_pairwise (le := fun a b => a ≤ b) (fun a b _ _ h1 h2 => Int.le_antisymm h1 h2) ?_ (srtI_sorted ks) (((List.mergeSort_perm ss _).trans h).trans (srtI_perm ks).symm)
  have := List.pairwise_mergeSort (le := fun x y : Int => decide (x ≤ y)) (fun a b c h1 h2 => by simp only [decide_eq_true_eq] at *; omega) (fun a b => by simp only [Bool.or_eq_true, decide_eq_true_eq]; omega) ss
  exact this.imp (fun h => by simpa using h)

theorem keyI_get : ∀ {es : List (PV × PV)} {ks : List Int}, keyI es = some ks → ks.length = es.length ∧ ∀ (i : Nat) (k v : PV), es[i]? = some (k, v) → ∃ n, k = .int .i64 n ∧ ks[i]? = some n
  | [], ks, h => by cases h; exact ⟨rfl, fun i k v h => by simp at h⟩
  | e :: es, ks, h => by
    unfold keyI at h
    split at h
    · cases h; rename_i e'; cases e'
    · rename_i n v l heq
      cases heq
      simp only [Option.map_eq_some_iff] at h
      obtain ⟨ks', h1, rfl⟩ := h
      obtain ⟨g1, g2⟩ := keyI_get h1
      refine ⟨by simp [g1], fun i k v' hi => ?_⟩
      cases i with
      | zero => simp only [List.getElem?_cons_zero, Option.some.injEq, Prod.mk.injEq] at hi; exact ⟨n, hi.1.symm, rfl⟩
      | succ i => exact g2 i k v' (by simpa using hi)
    · cases h

theorem apartI_ok : ∀ {l : List Int}, apartI l = true → l.Nodup
  | [], _ => List.nodup_nil
  | x :: l, h => by
    simp only [apartI, Bool.and_eq_true, List.all_eq_true, Bool.not_eq_true', decide_eq_false_iff_not] at h
    exact List.nodup_cons.2 ⟨fun hx => h.1 x hx rfl, apartI_ok h.2⟩

/-- What maps.Keys' iterator goes over. -/
theorem owns_of {P : Program} {kt : TypeId} (hkt : P.underlying kt = some (.int .i64)) {w : World} {ρ : Key → Option Nat} {M : Nat → Prop} {b : Nat} {es : List (PV × PV)} {ks : List Int} (hb : BlkRel w ρ M b (.map (some .i64) es)) (hk : keyI es = some ks)
    (hw : ks.all (fun n => (Lit.int .i64 n).wf) = true) (ha : apartI ks = true) (hl : ks.length ≤ 1000000) :
    ∃ D : DataW Unit, w.ownsMap P kt (fun _ => some (.nil, [])) b ks.length D ∧ Maps.size D ≤ 1000000 ∧ (intKeys D).Perm ks := by
  obtain ⟨en, h1, h2, h3⟩ := hb
  obtain ⟨g1, g2⟩ := keyI_get hk
  have hen : ∀ (i : Nat) (e : MapEntry), en[i]? = some e → ∃ n, e.key = .int .i64 n ∧ ks[i]? = some n ∧ e.born = i := fun i e he => by
    have hi : i < es.length := by rw [← h2]; exact (Array.getElem?_eq_some_iff.1 he).1
    obtain ⟨n, hn1, hn2⟩ := g2 i (es[i]).1 (es[i]).2 (by simp [hi])
    obtain ⟨r1, _, r3, _⟩ := h3 i (es[i]).1 (es[i]).2 e (by simp [hi]) he
    rw [hn1] at r1
    generalize hq : e.key = q at r1
    cases r1
    exact ⟨n, rfl, hn2, r3⟩
  have hkeys : en.toList.map (·.key) = ks.map (Value.int .i64) := by
    apply List.ext_getElem?
    intro i
    rw [List.getElem?_map, List.getElem?_map, Array.getElem?_toList]
    cases he : en[i]? with
    | none =>
      have : ks.length ≤ i := by
        have := Array.getElem?_eq_none_iff.1 he
        omega
      rw [List.getElem?_eq_none this]; rfl
    | some e =>
      obtain ⟨n, q1, q2, _⟩ := hen i e he
      simp [q1, q2]
  have hborn : en.toList.map (·.born) = List.range en.size := by
    apply List.ext_getElem?
    intro i
    rw [List.getElem?_map, Array.getElem?_toList]
    cases he : en[i]? with
    | none =>
      have := Array.getElem?_eq_none_iff.1 he
      rw [List.getElem?_eq_none (by simpa using this)]; rfl
    | some e =>
      obtain ⟨n, _, _, q3⟩ := hen i e he
      have hi := (Array.getElem?_eq_some_iff.1 he).1
      simp [q3, hi]
  have hnd : (ks.map (Value.int .i64)).Nodup := by
    refine List.pairwise_map.2 ((apartI_ok ha).imp (fun h e => h ?_))
    cases e; rfl
  have hrd : ∀ x ∈ en.toList, ∃ n, x.key = .int .i64 n ∧ rd (H := Unit) P kt (fun _ => some (.nil, [])) x = some (.int .i64 n, .nil) := fun x hx => by
    obtain ⟨i, hi, rfl⟩ := List.getElem_of_mem hx
    obtain ⟨n, q1, q2, _⟩ := hen i en[i] (by simp at hi; simp [hi])
    refine ⟨n, by simpa using q1, ?_⟩
    have hwf := List.all_eq_true.1 hw n (List.mem_of_getElem? q2)
    unfold rd
    have : (en.toList[i]).key = .int .i64 n := by simpa using q1
    rw [this]
    simp [keyOf, hkt, mapKey, hwf]
  have hsz : en.size ≤ 1000000 := by rw [h2, ← g1]; exact hl
  have F : WideElems.Fit (H := Unit) P kt (fun _ => some (.nil, [])) en en.size := by
    refine ⟨by unfold maxLen; omega, ⟨fun x hx => ?_, ?_, ?_⟩, fun x hx => ?_⟩
    · obtain ⟨i, hi, rfl⟩ := List.getElem_of_mem hx
      obtain ⟨n, _, _, q3⟩ := hen i en[i] (by simp at hi; simp [hi])
      have hi' : i < en.size := by simpa using hi
      have : (en.toList[i]).born = i := by simpa using q3
      omega
    · rw [hborn]; exact List.nodup_range
    · rw [hkeys]; exact hnd
    · obtain ⟨n, _, h⟩ := hrd x hx; exact ⟨_, h⟩
  have hperm := WideShapes.sorted_perm (H := Unit) (en.toList.map (rg P kt (fun _ => some (.nil, []))))
  refine ⟨_, ⟨en, en.size, h1, F, by omega, rfl⟩, ?_, ?_⟩
  · have := hperm.length_eq
    simp only [Maps.size, List.length_map, Array.length_toList] at this ⊢
    omega
  · have e1 : (en.toList.map (rg (H := Unit) P kt (fun _ => some (.nil, [])))).map (fun p => intOf p.1) = ks := by
      have : (en.toList.map (rg (H := Unit) P kt (fun _ => some (.nil, [])))).map (fun p => Value.int .i64 (intOf p.1)) = ks.map (Value.int .i64) := by
        rw [← hkeys, List.map_map]
        refine List.map_congr_left (fun x hx => ?_)
        obtain ⟨n, q1, q2⟩ := hrd x hx
        simp [rg, q2, intOf, q1]
      have := congrArg (List.map (fun v => match v with
        | .int _ n => n
        | _ => (0 : Int))) this
      simpa [List.map_map, Function.comp_def] using this
    rw [← e1]
    exact hperm.map _
end Go.Proofs.YtigfgicjjhepoaaGreatDoor.VA

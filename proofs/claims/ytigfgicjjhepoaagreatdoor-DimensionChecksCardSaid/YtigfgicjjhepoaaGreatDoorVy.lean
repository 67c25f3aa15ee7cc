/- Which orders a region may take: lists only. -/
import Derived.Test.YtigfgicjjhepoaaGreatDoorVx
import Derived.Orders
set_option linter.unusedVariables false
set_option linter.unusedSimpArgs false
namespace Go.Proofs.YtigfgicjjhepoaaGreatDoor.VA
open Go Go.RowKit

theorem before_asymm {x y : Nat} : ∀ {l : List Nat}, l.Nodup → [x, y].Sublist l → ¬ [y, x].Sublist l
  | [], _, h, _ => by cases h
  | z :: l, hn, h, g => by
    have hz := (List.nodup_cons.1 hn).1
    have hn' := (List.nodup_cons.1 hn).2
    cases h with
    | cons _ h =>
      cases g with
      | cons _ g => exact before_asymm hn' h g
      | cons_cons _ g => exact hz (h.subset (by simp))
    | cons_cons _ h =>
      have hy : y ∈ l := h.subset (by simp)
      cases g with
      | cons _ g => exact hz (g.subset (by simp))
      | cons_cons _ g => exact hz (by simpa using hy)

theorem before_trans {x y z : Nat} : ∀ {l : List Nat}, l.Nodup → [x, y].Sublist l → [y, z].Sublist l → [x, z].Sublist l
  | [], _, h, _ => by cases h
  | u :: l, hn, h, g => by
    have hz := (List.nodup_cons.1 hn).1
    have hn' := (List.nodup_cons.1 hn).2
    cases h with
    | cons _ h =>
      cases g with
      | cons _ g => exact (before_trans hn' h g).cons u
      | cons_cons _ g => exact absurd (h.subset (by simp)) hz
    | cons_cons _ h =>
      have hy : y ∈ l := h.subset (by simp)
      cases g with
      | cons _ g => exact ((List.singleton_sublist.2 (g.subset (by simp)))).cons_cons _
      | cons_cons _ g => exact absurd hy hz

theorem before_total {x y : Nat} (hne : x ≠ y) : ∀ {l : List Nat}, x ∈ l → y ∈ l → [x, y].Sublist l ∨ [y, x].Sublist l
  | u :: l, hx, hy => by
    by_cases e1 : x = u
    · subst e1
      rcases List.mem_cons.1 hy with e | hy'
      · exact absurd e.symm hne
      · exact .inl ((List.singleton_sublist.2 hy').cons_cons _)
    · have hx' : x ∈ l := (List.mem_cons.1 hx).resolve_left e1
      by_cases e2 : y = u
      · subst e2
        exact .inr ((List.singleton_sublist.2 hx').cons_cons _)
      · have hy' : y ∈ l := (List.mem_cons.1 hy).resolve_left e2
        rcases before_total hne hx' hy' with h | h
        · exact .inl (h.cons u)
        · exact .inr (h.cons u)

/-- The places that must stand before a place. -/
def preds (ops : Array Oper) (i : Nat) : List Nat :=
  match ops[i]? with
  | some o => (o.after.toList.filter (Region.binds .any)).map (·.on)
  | none => []

theorem exists_min : ∀ {L : List Nat}, L ≠ [] → ∃ i ∈ L, ∀ j ∈ L, i ≤ j
  | [x], _ => ⟨x, by simp, by simp⟩
  | x :: y :: L, _ => by
    obtain ⟨i, hi, hm⟩ := exists_min (L := y :: L) (by simp)
    by_cases h : x ≤ i
    · exact ⟨x, by simp, fun j hj => by
        rcases List.mem_cons.1 hj with rfl | hj
        · exact Nat.le_refl _
        · exact Nat.le_trans h (hm j hj)⟩
    · exact ⟨i, List.mem_cons_of_mem _ hi, fun j hj => by
        rcases List.mem_cons.1 hj with rfl | hj
        · omega
        · exact hm j hj⟩

theorem go_perm {ops : Array Oper} (hp : ∀ i p, p ∈ preds ops i → p < i) : ∀ (m t : Nat) (listed : Array Bool) (L : List Nat), listed.size = ops.size → L.Nodup → L.length = m → (∀ i, i ∈ L ↔ i < ops.size ∧ listed.getD i true = false) →
    (Region.linearise.go .any ops m t listed []).Perm L ∧ ∀ i ∈ L, ∀ p ∈ preds ops i, p ∈ L → [p, i].Sublist (Region.linearise.go .any ops m t listed [])
  | 0, t, listed, L, hs, hn, hl, hL => by
    have : L = [] := List.eq_nil_of_length_eq_zero hl
    subst this
    simp [Region.linearise.go]
  | m + 1, t, listed, L, hs, hn, hl, hL => by
    have hready : ∀ i, i ∈ Region.ready .any ops listed ↔ i ∈ L ∧ ∀ p ∈ preds ops i, listed.getD p false = true := fun i => by
      unfold Region.ready preds
      rw [List.mem_filter, List.mem_range, hL]
      cases ho : ops[i]? with
      | none =>
        have : ¬ i < ops.size := fun h => by rw [Array.getElem?_eq_getElem h] at ho; cases ho
        simp [this]
      | some o =>
        have hi : i < ops.size := (Array.getElem?_eq_some_iff.1 ho).1
        simp only [hi, true_and, Option.map_some, Option.getD_some, Bool.and_eq_true, Bool.not_eq_true']
        refine and_congr Iff.rfl ?_
        rw [Array.all_eq_true_iff_forall_mem]
        constructor
        · intro h p hp
          simp only [List.mem_map, List.mem_filter, Array.mem_toList_iff] at hp
          obtain ⟨e, ⟨he, hb⟩, rfl⟩ := hp
          have := h e he
          simpa [hb] using this
        · intro h e he
          by_cases hb : Region.binds .any e = true
          · have := h e.on (List.mem_map.2 ⟨e, List.mem_filter.2 ⟨by simpa using he, hb⟩, rfl⟩)
            simp [this]
          · simp [hb]
    have hin : ∀ p, p < ops.size → p ∉ L → listed.getD p false = true := fun p hp0 hpl => by
      have h1 : ¬ listed.getD p true = false := fun e => hpl ((hL p).2 ⟨hp0, e⟩)
      have hlt : p < listed.size := by omega
      simp only [Array.getD_eq_getD_getElem?, Array.getElem?_eq_getElem hlt, Option.getD_some] at h1 ⊢
      simpa using h1
    have hne : Region.ready .any ops listed ≠ [] := by
      obtain ⟨i, hi, hm⟩ := exists_min (L := L) (by intro e; rw [e] at hl; simp at hl)
      refine List.ne_nil_of_mem ((hready i).2 ⟨hi, fun p hpp => hin p ?_ (fun hpl => ?_)⟩)
      · have := hp i p hpp; have := ((hL i).1 hi).1; omega
      · have := hp i p hpp; have := hm p hpl; omega
    have hlen : 0 < (Region.ready .any ops listed).length := List.length_pos_iff.2 hne
    have hlt := Nat.mod_lt t hlen
    obtain ⟨i, hi⟩ : ∃ i, (Region.ready .any ops listed)[t % (Region.ready .any ops listed).length]? = some i := ⟨_, List.getElem?_eq_getElem hlt⟩
    have hir := (hready i).1 (List.mem_of_getElem? hi)
    have hgo : Region.linearise.go .any ops (m + 1) t listed [] = i :: Region.linearise.go .any ops m (t / (Region.ready .any ops listed).length) (listed.setIfInBounds i true) [] := by
      simp only [Region.linearise.go]
      change (match (Region.ready .any ops listed)[t % (Region.ready .any ops listed).length]? with
        | some i => Region.linearise.go .any ops m (t / (Region.ready .any ops listed).length) (listed.setIfInBounds i true) [i]
        | none => [].reverse) = _
      rw [hi]
      simp only []
      rw [linearise_go_acc]
      rfl
    have hie : (L.erase i).length = m := by rw [List.length_erase_of_mem hir.1, hl]; rfl
    have hL' : ∀ j, j ∈ L.erase i ↔ j < ops.size ∧ (listed.setIfInBounds i true).getD j true = false := fun j => by
      rw [hn.mem_erase_iff, hL]
      simp only [Array.getD_eq_getD_getElem?, Array.getElem?_setIfInBounds]
      by_cases e : i = j
      · subst e
        simp only [ne_eq, not_true, false_and, if_true, false_iff, not_and]
        intro _
        split <;> simp
      · simp only [if_neg e, ne_eq, show ¬ j = i from fun q => e q.symm, not_false_eq_true, true_and]
    obtain ⟨g1, g2⟩ := go_perm hp m (t / (Region.ready .any ops listed).length) (listed.setIfInBounds i true) (L.erase i) (by simp [hs]) (hn.erase i) hie hL'
    rw [hgo]
    refine ⟨((List.perm_cons i).2 g1).trans (List.perm_cons_erase hir.1).symm, fun j hj p hpj hpL => ?_⟩
    by_cases e : j = i
    · subst e
      have h1 := hir.2 p hpj
      have h2 := ((hL p).1 hpL).2
      have hlt : p < listed.size := by rw [hs]; exact ((hL p).1 hpL).1
      simp only [Array.getD_eq_getD_getElem?, Array.getElem?_eq_getElem hlt, Option.getD_some] at h1 h2
      rw [h1] at h2; cases h2
    · have hj' : j ∈ L.erase i := hn.mem_erase_iff.2 ⟨e, hj⟩
      by_cases e2 : p = i
      · subst e2
        exact (List.singleton_sublist.2 (g1.symm.subset hj')).cons_cons _
      · exact (g2 j hj' p hpj (hn.mem_erase_iff.2 ⟨e2, hpL⟩)).cons i

/-- What the machine's order is: all places, those before which another must stand behind it. -/
theorem linearise_perm {ops : Array Oper} (hp : ∀ i p, p ∈ preds ops i → p < i) (t : Nat) : (Region.linearise .any ops t).Perm (List.range ops.size) ∧ ∀ i p, p ∈ preds ops i → [p, i].Sublist (Region.linearise .any ops t) := by
  obtain ⟨h1, h2⟩ := go_perm hp ops.size t (Array.replicate ops.size false) (List.range ops.size) (by simp) List.nodup_range (by simp) (fun i => by
    simp only [List.mem_range, Array.getD_eq_getD_getElem?, Array.getElem?_replicate]
    constructor
    · intro h; exact ⟨h, by simp [h]⟩
    · intro h; exact h.1)
  refine ⟨h1, fun i p hpi => h2 i ?_ p hpi ?_⟩
  · rw [List.mem_range]
    unfold preds at hpi
    cases ho : ops[i]? with
    | none => simp [ho] at hpi
    | some o => exact (Array.getElem?_eq_some_iff.1 ho).1
  · rw [List.mem_range]
    have := hp i p hpi
    unfold preds at hpi
    cases ho : ops[i]? with
    | none => simp [ho] at hpi
    | some o => have := (Array.getElem?_eq_some_iff.1 ho).1; omega
end Go.Proofs.YtigfgicjjhepoaaGreatDoor.VA

/- Each operation that makes a value, fifth part: literals, conversions, look-ups. -/
import Derived.Test.YtigfgicjjhepoaaGreatDoorVh
import Derived.Great.BuildSlice
import Derived.MapKept
set_option linter.unusedVariables false
set_option linter.unusedSimpArgs false
namespace Go.Proofs.YtigfgicjjhepoaaGreatDoor.VA
open Go Go.RowKit
section
variable {w : World} {ρ : Key → Option Nat} {M : Nat → Prop} {P : Program} {pol : Pol}

/-- Values side by side. -/
def Reps (w : World) (ρ : Key → Option Nat) (M : Nat → Prop) (l : List PV) (vs : List Value) : Prop :=
  l.length = vs.length ∧ ∀ (i : Nat) (c : PV) (v : Value), l[i]? = some c → vs[i]? = some v → Rep w ρ M c v

theorem Reps.nil : Reps w ρ M [] [] := ⟨rfl, fun i c v h _ => by simp at h⟩
theorem Reps.cons {c : PV} {v : Value} {l : List PV} {vs : List Value} (h : Rep w ρ M c v) (g : Reps w ρ M l vs) : Reps w ρ M (c :: l) (v :: vs) := by
  refine ⟨by simp [g.1], fun i x u hx hu => ?_⟩
  rcases i with _ | i
  · simp only [List.getElem?_cons_zero, Option.some.injEq] at hx hu; subst hx hu; exact h
  · exact g.2 i x u (by simpa using hx) (by simpa using hu)
theorem Reps.head {c : PV} {v : Value} {l : List PV} {vs : List Value} (h : Reps w ρ M (c :: l) (v :: vs)) : Rep w ρ M c v := h.2 0 c v rfl rfl
theorem Reps.tail {c : PV} {v : Value} {l : List PV} {vs : List Value} (h : Reps w ρ M (c :: l) (v :: vs)) : Reps w ρ M l vs :=
  ⟨by simpa using h.1, fun i x u hx hu => h.2 (i + 1) x u (by simpa using hx) (by simpa using hu)⟩
theorem Reps.append {l m : List PV} {vs us : List Value} (h : Reps w ρ M l vs) (g : Reps w ρ M m us) : Reps w ρ M (l ++ m) (vs ++ us) := by
  refine ⟨by simp [h.1, g.1], fun i x u hx hu => ?_⟩
  by_cases hi : i < l.length
  · rw [List.getElem?_append_left hi] at hx
    rw [List.getElem?_append_left (by rw [← h.1]; exact hi)] at hu
    exact h.2 i x u hx hu
  · rw [List.getElem?_append_right (by omega)] at hx
    rw [List.getElem?_append_right (by rw [← h.1]; omega), ← h.1] at hu
    exact g.2 _ x u hx hu
theorem Reps.drop {l : List PV} {vs : List Value} (n : Nat) (h : Reps w ρ M l vs) : Reps w ρ M (l.drop n) (vs.drop n) :=
  ⟨by simp [h.1], fun i x u hx hu => h.2 (n + i) x u (by simpa using hx) (by simpa using hu)⟩
theorem Reps.take {l : List PV} {vs : List Value} (n : Nat) (h : Reps w ρ M l vs) : Reps w ρ M (l.take n) (vs.take n) := by
  refine ⟨by simp [h.1], fun i x u hx hu => ?_⟩
  have hlt : i < n := by have := (List.getElem?_eq_some_iff.1 hx).1; simp at this; omega
  rw [List.getElem?_take_of_lt hlt] at hx hu
  exact h.2 i x u hx hu
theorem Reps.map {α : Type} {f : α → PV} {g : α → Value} (h : ∀ x, Rep w ρ M (f x) (g x)) (l : List α) : Reps w ρ M (l.map f) (l.map g) := by
  refine ⟨by simp, fun i x u hx hu => ?_⟩
  simp only [List.getElem?_map, Option.map_eq_some_iff] at hx hu
  obtain ⟨a, ha, rfl⟩ := hx
  obtain ⟨b, hb, rfl⟩ := hu
  rw [ha] at hb; cases hb; exact h a
theorem Reps.evo {w' : World} {ρ' : Key → Option Nat} {M' : Nat → Prop} (E : Evo w ρ M w' ρ' M') {l : List PV} {vs : List Value} (h : Reps w ρ M l vs) : Reps w' ρ' M' l vs :=
  ⟨h.1, fun i c v hc hv => (h.2 i c v hc hv).evo E⟩
theorem junk_of {x : PV} {n : Nat} (h : x.cells.length = n) (hn : 0 < n) : x ≠ .junk := fun e => by subst e; simp [PV.cells] at h; omega
theorem reps_cells {x : PV} {v : Value} (h : Rep w ρ M x v) (hj : x ≠ .junk) : Reps w ρ M x.cells v.cells.toList := by
  obtain ⟨h1, h2⟩ := h.cells hj
  exact ⟨by simpa using h1, fun i c u hc hu => h2 i c u hc (by simpa using hu)⟩

theorem mapM_get {α β : Type} {f : α → Option β} : ∀ {l : List α} {r : List β}, l.mapM f = some r → ∀ i : Nat, r[i]? = (l[i]?).bind f
  | [], r, h, i => by simp at h; subst h; simp
  | a :: l, r, h, i => by
    simp only [List.mapM_cons, Option.bind_eq_bind, Option.pure_def] at h
    cases ha : f a with
    | none => simp [ha] at h
    | some b =>
      cases hl : l.mapM f with
      | none => simp [ha, hl] at h
      | some r' =>
        simp [ha, hl] at h
        subst h
        rcases i with _ | i
        · simp [ha]
        · simpa using mapM_get hl i

/-- The machine's cells of a struct with parts put in. -/
theorem fill_ok {t : TypeId} {fs : Array Field} {places : List (Nat × Nat)} (hu : P.underlying t = some (.struct fs)) (hpl : fs.toList.mapM (fun f => (P.info? f.type).map fun i => (f.offset, i.size)) = some places) :
    ∀ (parts : List (Nat × PV)) (vparts : List (Nat × Value)) (cs : List PV) (vs : Array Value) (out : List PV), parts.length = vparts.length →
      (∀ (i : Nat) (p : Nat × PV) (q : Nat × Value), parts[i]? = some p → vparts[i]? = some q → p.1 = q.1 ∧ Rep w ρ M p.2 q.2) →
      Reps w ρ M cs vs.toList → fillV P t cs parts = some out → ∃ r, Instr.fill (places.toArray[·]?) vs vparts = some r ∧ Reps w ρ M out r.toList
  | [], [], cs, vs, out, _, _, hr, h => by
    simp only [fillV, Option.some.injEq] at h; subst h
    exact ⟨vs, rfl, hr⟩
  | (i, x) :: parts, (j, v) :: vparts, cs, vs, out, hl, hp, hr, h => by
    obtain ⟨e, hx⟩ := hp 0 (i, x) (j, v) rfl rfl
    simp only at e hx
    subst e
    simp only [fillV] at h
    cases hf : fieldT P t i with
    | none => simp [hf] at h
    | some q =>
      obtain ⟨off, n, u⟩ := q
      simp only [hf] at h
      split at h
      · rename_i hc
        obtain ⟨fs', g, g1, g2, g3, g4, g5⟩ := fieldT_some hf
        rw [hu] at g1; cases g1
        have hpi : places[i]? = some (off, n) := by
          obtain ⟨it, hit, hsz⟩ := sizeT g3
          have : places[i]? = (fs.toList[i]?).bind fun f => (P.info? f.type).map fun i => (f.offset, i.size) := mapM_get hpl i
          rw [this]
          simp [g2, hit, hsz, g4]
        have hxj : x ≠ .junk := junk_of hc.1 hc.2.1
        have hxc := reps_cells hx hxj
        have hsz : v.cells.size = n := by rw [← hc.1, hxc.1]; simp
        have hvs : vs.size = cs.length := by rw [hr.1]; simp
        obtain ⟨f1, f2⟩ := Great.foldl_set off v.cells.toList 0 vs
        obtain ⟨r, hr1, hr2⟩ := fill_ok hu hpl parts vparts (cs.take off ++ x.cells ++ cs.drop (off + n)) ((v.cells.toList.zipIdx 0).foldl (fun cs (x : Value × Nat) => cs.setIfInBounds (off + x.2) x.1) vs) out (by simpa using hl)
          (fun k p q hp' hq' => hp (k + 1) p q (by simpa using hp') (by simpa using hq')) (by
            have he : ((v.cells.toList.zipIdx 0).foldl (fun cs (x : Value × Nat) => cs.setIfInBounds (off + x.2) x.1) vs).toList = vs.toList.take off ++ v.cells.toList ++ vs.toList.drop (off + n) := by
              apply List.ext_getElem?
              intro k
              rw [Array.getElem?_toList, f2 k]
              simp only [Nat.add_zero, Array.length_toList, hsz]
              by_cases h1 : k < off
              · rw [if_neg (by omega), List.append_assoc, List.getElem?_append_left (by simp; omega), List.getElem?_take_of_lt h1]; simp
              · by_cases h2 : k < off + n
                · rw [if_pos ⟨by omega, h2, by omega⟩, List.append_assoc, List.getElem?_append_right (by simp; omega), List.getElem?_append_left (by simp; omega)]
                  congr 1; simp; omega
                · rw [if_neg (by omega), List.getElem?_append_right (by simp; omega), List.getElem?_drop]
                  simp only [List.length_append, List.length_take, Array.length_toList]
                  rw [← Array.getElem?_toList]
                  congr 1; omega
            rw [he]
            exact ((hr.take off).append hxc).append (hr.drop (off + n))) h
        refine ⟨r, ?_, hr2⟩
        rw [← hr1]
        conv => lhs; unfold Instr.fill
        simp only [List.getElem?_toArray, hpi]
        rw [if_neg (by simp; omega)]
        congr 1
        rw [← Array.foldl_toList, Array.toList_zipIdx]
      · cases h
  | [], _ :: _, _, _, _, hl, _, _, _ => by simp at hl
  | _ :: _, [], _, _, _, hl, _, _, _ => by simp at hl
theorem rep_zero {t : TypeId} {z : List PV} (h : zeroT P t = some z) : ∃ i zv, P.info? t = some i ∧ i.zero = some zv ∧ Reps w ρ M z zv.cells.toList := by
  unfold zeroT at h
  split at h
  rotate_left
  · cases h
  cases hi : P.info? t with
  | none => simp [hi] at h
  | some i =>
    cases hz : i.zero with
    | none => simp [hi, hz] at h
    | some zv =>
      simp only [hi, hz, Option.bind_some, Option.map_some, Option.some.injEq] at h
      subst h
      refine ⟨i, zv, rfl, hz, by simp, fun k c v hc hv => ?_⟩
      simp only [List.getElem?_map, Option.map_eq_some_iff] at hc
      obtain ⟨u, hu, rfl⟩ := hc
      rw [hu] at hv; cases hv
      exact rep_ofVal 8 v

theorem build_ok (hP : POk P pol) {t : TypeId} {z out : List PV} {parts : List (Nat × PV)} {vparts : Array (Nat × Value)} (hs : isStructT P t = true) (hz : zeroT P t = some z) (h : fillV P t z parts = some out)
    (hl : parts.length = vparts.size) (hp : ∀ (i : Nat) (p : Nat × PV) (q : Nat × Value), parts[i]? = some p → vparts[i]? = some q → p.1 = q.1 ∧ Rep w ρ M p.2 q.2) :
    ∃ v, (Instr.build t vparts).run P w = .ok v w ∧ Rep w ρ M (.agg out) v := by
  unfold isStructT at hs
  split at hs
  · rename_i fs hu
    obtain ⟨places, hpl⟩ := Option.isSome_iff_exists.1 (hP.fields t fs (zero_okT hz) hu)
    obtain ⟨i, zv, hi, hzv, hrz⟩ := rep_zero (w := w) (ρ := ρ) (M := M) hz
    obtain ⟨r, hr1, hr2⟩ := fill_ok hu hpl parts vparts.toList z zv.cells out (by simpa using hl) (fun i p q h1 h2 => hp i p q h1 (by simpa using h2)) hrz h
    refine ⟨.agg r, run_build w t vparts r ?_, .agg _ _ (by simpa using hr2.1) (fun i c v hc hv => hr2.2 i c v hc (by simpa using hv))⟩
    unfold Program.built
    simp only [hi, hu, hzv, hpl, hr1]
  · cases hs
end
end Go.Proofs.YtigfgicjjhepoaaGreatDoor.VA

/- Regions: the check that the orders asked are all that matter; regions are sound. -/
import Derived.Test.YtigfgicjjhepoaaGreatDoorVy
set_option linter.unusedVariables false
set_option linter.unusedSimpArgs false
namespace Go.Proofs.YtigfgicjjhepoaaGreatDoor.VA
open Go Go.RowKit

/-- The places before a place, as bits; t: those of the places before it. -/
def maskOf (ops : Array Oper) (t : List Nat) (i : Nat) : Nat := (preds ops i).foldl (fun m p => m ||| (1 <<< p) ||| t.getD p 0) 0
def masks (ops : Array Oper) : Nat → List Nat
  | 0 => []
  | k + 1 => masks ops k ++ [maskOf ops (masks ops k) k]

theorem masks_length (ops : Array Oper) : ∀ k, (masks ops k).length = k
  | 0 => rfl
  | k + 1 => by simp [masks, masks_length ops k]

theorem fold_bits {t : List Nat} {a : Nat} : ∀ (l : List Nat) (m : Nat), (l.foldl (fun m p => m ||| (1 <<< p) ||| t.getD p 0) m).testBit a = true → m.testBit a = true ∨ ∃ p ∈ l, a = p ∨ (t.getD p 0).testBit a = true
  | [], m, h => .inl h
  | p :: l, m, h => by
    rw [List.foldl_cons] at h
    rcases fold_bits l _ h with h | ⟨q, hq, h⟩
    · simp only [Nat.testBit_or, Bool.or_eq_true] at h
      rcases h with (h | h) | h
      · exact .inl h
      · rw [Nat.one_shiftLeft, Nat.testBit_two_pow] at h
        exact .inr ⟨p, by simp, .inl (by simpa using (of_decide_eq_true h).symm)⟩
      · exact .inr ⟨p, by simp, .inr h⟩
    · exact .inr ⟨q, List.mem_cons_of_mem _ hq, h⟩

theorem mask_before {ops : Array Oper} (hp : ∀ i p, p ∈ preds ops i → p < i) {l : List Nat} (hn : l.Nodup) (hl : ∀ i p, p ∈ preds ops i → [p, i].Sublist l) : ∀ (k i a : Nat), i < k → ((masks ops k).getD i 0).testBit a = true → [a, i].Sublist l
  | 0, i, a, hi, h => by omega
  | k + 1, i, a, hi, h => by
    simp only [masks] at h
    by_cases e : i < k
    · rw [List.getD_eq_getElem?_getD, List.getElem?_append_left (by rw [masks_length]; exact e), ← List.getD_eq_getElem?_getD] at h
      exact mask_before hp hn hl k i a e h
    · have : i = k := by omega
      subst this
      rw [List.getD_eq_getElem?_getD, List.getElem?_append_right (by rw [masks_length]; exact Nat.le_refl _), masks_length, Nat.sub_self] at h
      simp only [List.getElem?_cons_zero, Option.getD_some] at h
      rcases fold_bits _ _ h with h | ⟨p, hpi, rfl | h⟩
      · simp at h
      · exact hl i a hpi
      · exact before_trans hn (mask_before hp hn hl i p a (hp i p hpi) h) (hl i p hpi)

def clsP (pol : Pol) (ops : Array Oper) (i : Nat) : Cls :=
  match ops[i]? with
  | some o => clsOf pol true o.op
  | none => .p

def isP : Cls → Bool
  | .p => true
  | _ => false
def isW : Cls → Bool
  | .w => true
  | _ => false

/-- What is known of a place: where it writes, what it reads, its kind, the places before it. -/
structure Place where
  dst : Option Nat
  rd : List Nat
  p : Bool
  w : Bool

def placeOf (pol : Pol) (ops : Array Oper) (i : Nat) : Place := ⟨dstOf ops i, rdOf ops i, isP (clsP pol ops i), isW (clsP pol ops i)⟩

def apartP (x y : Place) : Bool :=
  (match x.dst with
   | some d => (match y.dst with
     | some e => !Nat.beq d e
     | none => true) && !y.rd.any (Nat.beq d)
   | none => true) &&
  (match y.dst with
   | some d => !x.rd.any (Nat.beq d)
   | none => true) && (x.p || y.p || (!x.w && !y.w))

theorem apart_of {c : Ctx} {ops : Array Oper} {i j : Nat} (h : apartP (placeOf c.pol ops i) (placeOf c.pol ops j) = true) : Apart c ops i j := by
  have anyb : ∀ {l : List Nat} {d : Nat}, l.any (Nat.beq d) = false → d ∉ l := fun h hm => by
    have := List.any_eq_false.1 h _ hm
    simp [Nat.beq_refl] at this
  simp only [apartP, placeOf, Bool.and_eq_true, Bool.or_eq_true, Bool.not_eq_true'] at h
  obtain ⟨⟨h1, h2⟩, h3⟩ := h
  refine ⟨fun d hd he => ?_, fun d hd hm => ?_, fun d hd hm => ?_, ?_⟩
  · simp only [hd, he, Bool.and_eq_true, Bool.not_eq_true'] at h1
    simp [Nat.beq_refl] at h1
  · simp only [hd, Bool.not_eq_true'] at h2
    exact anyb h2 hm
  · simp only [hd, Bool.and_eq_true, Bool.not_eq_true'] at h1
    exact anyb h1.2 hm
  · have e : ∀ k, clsAt c ops k = clsP c.pol ops k := fun k => rfl
    rw [e, e]
    cases hi : clsP c.pol ops i <;> cases hj : clsP c.pol ops j <;> simp_all [isP, isW]

def before (x y : Nat) : List Nat → Bool
  | [] => false
  | z :: l => if Nat.beq z x then l.any (Nat.beq y) else before x y l

theorem before_sub {x y : Nat} : ∀ {l : List Nat}, before x y l = true → [x, y].Sublist l
  | z :: l, h => by
    simp only [before] at h
    split at h
    · rename_i e
      have e := Nat.eq_of_beq_eq_true e
      subst e
      obtain ⟨u, hu, hy⟩ := List.any_eq_true.1 h
      have := Nat.eq_of_beq_eq_true hy
      subst this
      exact (List.singleton_sublist.2 hu).cons_cons _
    · exact (before_sub h).cons z

/-- Of orders for conflicting pairs: each is met by one of the lists, or runs in a circle. -/
def circle (t : List Nat) : List (Nat × Nat) → List (Nat × Nat) → Bool
  | all, or => or.any fun (x, y) => all.any fun (u, v) => (Nat.beq y u || (t.getD u 0).testBit y) && (Nat.beq v x || (t.getD x 0).testBit v)

def cover (t : List Nat) : List (Nat × Nat) → List (Nat × Nat) → List (List Nat) → Bool
  | [], or, Rs => !Rs.isEmpty || circle t or or
  | (a, i) :: C, or, Rs => cover t C ((a, i) :: or) (Rs.filter (before a i)) && cover t C ((i, a) :: or) (Rs.filter (before i a))

theorem cover_ok {t : List Nat} {l : List Nat} (hn : l.Nodup) {n : Nat} (hmem : ∀ i, i < n → i ∈ l) (ht : ∀ i a, i < n → (t.getD i 0).testBit a = true → [a, i].Sublist l) : ∀ (C or : List (Nat × Nat)) (Rs : List (List Nat)),
    (∀ x ∈ C, x.1 < n ∧ x.2 < n ∧ x.1 ≠ x.2) → (∀ x ∈ or, x.1 < n ∧ x.2 < n ∧ [x.1, x.2].Sublist l) → cover t C or Rs = true → ∃ R ∈ Rs, ∀ x ∈ C, ([x.1, x.2].Sublist l → [x.1, x.2].Sublist R) ∧ ([x.2, x.1].Sublist l → [x.2, x.1].Sublist R)
  | [], or, Rs, hC, ho, h => by
    simp only [cover, Bool.or_eq_true, Bool.not_eq_true'] at h
    rcases h with h | h
    · obtain ⟨R, hR⟩ := List.exists_mem_of_ne_nil Rs (by intro e; subst e; simp at h)
      exact ⟨R, hR, by simp⟩
    · exfalso
      simp only [circle, List.any_eq_true, Bool.and_eq_true, Bool.or_eq_true] at h
      obtain ⟨⟨x, y⟩, h1, ⟨u, v⟩, h2, h3, h4⟩ := h
      obtain ⟨a1, a2, a3⟩ := ho _ h1
      obtain ⟨b1, b2, b3⟩ := ho _ h2
      dsimp only at *
      have q1 : [x, v].Sublist l := by
        rcases h3 with h3 | h3
        · have := Nat.eq_of_beq_eq_true h3; subst this; exact before_trans hn a3 b3
        · exact before_trans hn (before_trans hn a3 (ht u y b1 h3)) b3
      rcases h4 with h4 | h4
      · have := Nat.eq_of_beq_eq_true h4; subst this; exact before_asymm hn q1 q1
      · exact before_asymm hn q1 (ht x v a1 h4)
  | (a, i) :: C, or, Rs, hC, ho, h => by
    simp only [cover, Bool.and_eq_true] at h
    obtain ⟨c1, c2, c3⟩ := hC (a, i) (by simp)
    rcases before_total c3 (hmem a c1) (hmem i c2) with hb | hb
    · obtain ⟨R, hR, hh⟩ := cover_ok hn hmem ht C ((a, i) :: or) _ (fun x hx => hC x (List.mem_cons_of_mem _ hx)) (fun x hx => by
        rcases List.mem_cons.1 hx with rfl | hx
        · exact ⟨c1, c2, hb⟩
        · exact ho x hx) h.1
      obtain ⟨hR1, hR2⟩ := List.mem_filter.1 hR
      refine ⟨R, hR1, fun x hx => ?_⟩
      rcases List.mem_cons.1 hx with rfl | hx
      · exact ⟨fun _ => before_sub hR2, fun q => absurd q (before_asymm hn hb)⟩
      · exact hh x hx
    · obtain ⟨R, hR, hh⟩ := cover_ok hn hmem ht C ((i, a) :: or) _ (fun x hx => hC x (List.mem_cons_of_mem _ hx)) (fun x hx => by
        rcases List.mem_cons.1 hx with rfl | hx
        · exact ⟨c2, c1, hb⟩
        · exact ho x hx) h.2
      obtain ⟨hR1, hR2⟩ := List.mem_filter.1 hR
      refine ⟨R, hR1, fun x hx => ?_⟩
      rcases List.mem_cons.1 hx with rfl | hx
      · exact ⟨fun q => absurd q (before_asymm hn hb), fun _ => before_sub hR2⟩
      · exact hh x hx

/-- The check of a region that is drawn. -/
def regionOk (pol : Pol) (ops : Array Oper) (reps : List (List Nat)) : Bool :=
  let n := ops.size
  let ix := List.range n
  let t := masks ops n
  let pl := ix.map (placeOf pol ops)
  let dp : Place := ⟨none, [], true, false⟩
  let C := ix.flatMap fun i => (List.range i).filterMap fun a => if (t.getD i 0).testBit a || apartP (pl.getD a dp) (pl.getD i dp) && apartP (pl.getD i dp) (pl.getD a dp) then none else some (a, i)
  ix.all (fun i => (preds ops i).all fun p => Nat.blt p i) &&
  (ix :: reps).all (fun R => R.isPerm ix && ix.all fun i => (preds ops i).all fun p => before p i R) &&
  cover t C [] (ix :: reps)

theorem preds_lt {ops : Array Oper} {i p : Nat} (h : p ∈ preds ops i) : i < ops.size := by
  unfold preds at h
  cases ho : ops[i]? with
  | none => simp [ho] at h
  | some o => exact (Array.getElem?_eq_some_iff.1 ho).1

/-- For every order that the machine may take there is one of ours that differs in nothing that matters. -/
theorem regionOk_ok {c : Ctx} {ops : Array Oper} {reps : List (List Nat)} (h : regionOk c.pol ops reps = true) (t : Nat) :
    ∃ R ∈ List.range ops.size :: reps, (Region.linearise .any ops t).Perm R ∧ R.Nodup ∧ ∀ x y, [x, y].Sublist R → [y, x].Sublist (Region.linearise .any ops t) → Apart c ops x y := by
  simp only [regionOk, Bool.and_eq_true] at h
  obtain ⟨⟨h1, h2⟩, h3⟩ := h
  have hp : ∀ i p, p ∈ preds ops i → p < i := fun i p hpi => by
    have := List.all_eq_true.1 (List.all_eq_true.1 h1 i (List.mem_range.2 (preds_lt hpi))) p hpi
    simpa [Nat.blt_eq] using this
  obtain ⟨g1, g2⟩ := linearise_perm hp t
  generalize Region.linearise .any ops t = l at g1 g2 ⊢
  have hn : l.Nodup := g1.nodup_iff.2 List.nodup_range
  have hmem : ∀ i, i < ops.size → i ∈ l := fun i hi => g1.symm.subset (List.mem_range.2 hi)
  have hmask := mask_before hp hn g2 ops.size
  obtain ⟨R, hR, hag⟩ := cover_ok hn hmem (n := ops.size) (t := masks ops ops.size) (fun i a hi hb => hmask i a hi hb) _ [] _ (fun x hx => by
    obtain ⟨i, hi, hx⟩ := List.mem_flatMap.1 hx
    obtain ⟨a, ha, hx⟩ := List.mem_filterMap.1 hx
    have hi := List.mem_range.1 hi
    have ha := List.mem_range.1 ha
    split at hx
    · cases hx
    · simp only [Option.some.injEq] at hx
      subst hx
      exact ⟨by show a < ops.size; omega, hi, by show a ≠ i; omega⟩) (by simp) h3
  have hRp := List.all_eq_true.1 h2 R hR
  simp only [Bool.and_eq_true] at hRp
  have hperm := List.isPerm_iff.1 hRp.1
  have hRn : R.Nodup := hperm.nodup_iff.2 List.nodup_range
  have hRb : ∀ i p, p ∈ preds ops i → [p, i].Sublist R := fun i p hpi => before_sub (List.all_eq_true.1 (List.all_eq_true.1 hRp.2 i (List.mem_range.2 (preds_lt hpi))) p hpi)
  have hRmask := mask_before hp hRn hRb ops.size
  have hpl : ∀ i, i < ops.size → ((List.range ops.size).map (placeOf c.pol ops)).getD i ⟨none, [], true, false⟩ = placeOf c.pol ops i := fun i hi => by
    rw [List.getD_eq_getElem?_getD, List.getElem?_map, List.getElem?_range hi]; rfl
  refine ⟨R, hR, g1.trans hperm.symm, hRn, fun x y hx hy => ?_⟩
  have hxm : x < ops.size := List.mem_range.1 (hperm.subset (hx.subset (by simp)))
  have hym : y < ops.size := List.mem_range.1 (hperm.subset (hx.subset (by simp)))
  have hne : x ≠ y := fun e => by subst e; exact before_asymm hRn hx hx
  -- a pair, the smaller first
  have pair : ∀ a i, a < i → i < ops.size → ([a, i].Sublist R ∧ [i, a].Sublist l) ∨ ([i, a].Sublist R ∧ [a, i].Sublist l) → Apart c ops a i ∧ Apart c ops i a := by
    intro a i hai hi hor
    have ha : a < ops.size := by omega
    by_cases hc : ((masks ops ops.size).getD i 0).testBit a = true
    · rcases hor with ⟨_, q⟩ | ⟨q, _⟩
      · exact absurd (hmask i a hi hc) (before_asymm hn q)
      · exact absurd (hRmask i a hi hc) (before_asymm hRn q)
    · by_cases hap : (apartP (placeOf c.pol ops a) (placeOf c.pol ops i) && apartP (placeOf c.pol ops i) (placeOf c.pol ops a)) = true
      · simp only [Bool.and_eq_true] at hap
        exact ⟨apart_of hap.1, apart_of hap.2⟩
      · have hin := hag (a, i) (List.mem_flatMap.2 ⟨i, List.mem_range.2 hi, List.mem_filterMap.2 ⟨a, List.mem_range.2 hai, by rw [hpl a ha, hpl i hi]; simp only [Bool.not_eq_true] at hc hap; simp only [hc, hap, Bool.or_self, Bool.false_eq_true, if_false]⟩⟩)
        rcases hor with ⟨q1, q2⟩ | ⟨q1, q2⟩
        · exact absurd (hin.2 q2) (before_asymm hRn q1)
        · exact absurd (hin.1 q2) (before_asymm hRn q1)
  rcases Nat.lt_or_gt_of_ne hne with h | h
  · exact (pair x y h hym (.inl ⟨hx, hy⟩)).1
  · exact (pair y x h hxm (.inr ⟨hx, hy⟩)).2
end Go.Proofs.YtigfgicjjhepoaaGreatDoor.VA

/- Check over lists. -/
import Derived.Test.YtigfgicjjhepoaaGreatDoorSk
set_option linter.unusedVariables false
set_option linter.unusedSimpArgs false
namespace Go.Proofs.YtigfgicjjhepoaaGreatDoor.VA
open Go Go.Proofs

theorem Deep.all {Q : Nat → Orc → Prop} : ∀ n, (∀ i, i < n → Deep (Q i)) → Deep (fun O => ∀ i, i < n → Q i O)
  | 0, _ => ⟨0, fun _ _ i h => by omega⟩
  | n + 1, h => by
    obtain ⟨m, hm⟩ := (Deep.all n (fun i hi => h i (by omega))).and (h n (by omega))
    refine ⟨m, fun m' h' i hi => ?_⟩
    by_cases e : i = n
    · subst e; exact (hm m' h').2
    · exact (hm m' h').1 i (by omega)

/-- What Check asks of the functions that it calls. -/
def QK (l : List Dm) (O : Orc) : Prop := ∀ i, i < l.length → ∀ d, l[i]? = some d → (O.pure 11 [.str d.s] = some (.bool (nameB d.s)) ∧ O.pure 10 [LS (l.take i), .str d.s] = some (findV (l.take i) d.s)) ∧
  (O.pure 27 [.int .i64 d.a] = some (.bool (farB d.a)) ∧ O.pure 27 [.int .i64 d.b] = some (.bool (farB d.b))) ∧ O.pure 27 [.int .i64 d.c] = some (.bool (farB d.c))
theorem deepQK (l : List Dm) (hl : l.length < 2 ^ 62) : Deep (QK l) := by
  refine Deep.all (Q := fun i O => ∀ d, l[i]? = some d → _) _ (fun i hi => ?_)
  have hd : l[i]? = some l[i] := List.getElem?_eq_getElem hi
  obtain ⟨m, hm⟩ := ((known_isName l[i].s).deep.and (known_find (l.take i) l[i].s (by rw [List.length_take]; omega)).deep).and (((known_far l[i].a).deep.and (known_far l[i].b).deep).and (known_far l[i].c).deep)
  refine ⟨m, fun m' h' d e => ?_⟩
  rw [hd] at e
  cases e
  exact hm m' h'

/-- The error of a dimension at its place. -/
def errAt (l : List Dm) (i : Nat) (d : Dm) : Int := if d.e = 0 then (if 0 ≤ idxN d.s (l.take i) 0 then 9 else 0) else d.e

/-- The address of an element, as an equation of the evaluator. -/
def AD (l : List Dm) (k : Int) (d : Dm) : Prop := (if 0 ≤ k then match (l.map Dm.pv)[k.toNat]?, some 4 with
    | some v, some n => if v.cells.length = n ∧ 0 < n then some (PV.pp v.cells 0) else none
    | _, _ => none
    else none) = some (.pp d.pv.cells 0)

/-- What is ahead of a place, as an equation of the evaluator. -/
def SLC (l : List Dm) (k : Nat) : Prop := sliceV Pr 29 (LS l) none (some (.int .i64 k)) none = some (LS (l.take k))
theorem slc {l : List Dm} {k : Nat} (h : k < l.length) : SLC l k := by
  have hall : allSz 4 (l.map Dm.pv) = true := by
    have : ∀ m : List Dm, allSz 4 (m.map Dm.pv) = true := fun m => by
      induction m with
      | nil => rfl
      | cons d m ih => simp only [List.map_cons, allSz, ih, Bool.and_true]; rfl
    exact this l
  have he : (elemT Pr 29).bind (szT Pr) = some 4 := by kernel_rfl
  unfold SLC sliceV
  simp only [LS, he, hall, Option.getD_none, Option.getD_some, List.length_map, and_true, Nat.zero_lt_succ, if_true]
  rw [if_pos ⟨by omega, by omega, by omega⟩]
  simp [List.map_take]
theorem persF (l : List Dm) (s : ByteArray) : PV.persL [LS l, .str s] = true := by
  have := persLS l
  simp only [PV.persL, Bool.and_true] at this ⊢
  rw [this]; rfl

section
variable {O : Orc} {l : List Dm} {d : Dm} (R : Nat → PV) (B : Key → Option Blk) (C : List Nat → Nat → Nat)

theorem k_name {k : Nat} (hk : k < 6) (h : l[k]? = some d) (g1 : O.pure 11 [.str d.s] = some (.bool false)) : ∃ st', Ev kC O kL (mkK l k R B C) .ret st' ∧ st'.tm 2 = .int .i64 11 := by
  have hlt : k < l.length := (List.getElem?_eq_some_iff.1 h).1
  have ha : AD l (k : Int) d := iAddr h
  have hX : (evXCode kC O (flg [(4, 0, .bit), (5, 1, .val), (6, 2, .call)]) 50 kL (mkK l k R B C) ⟨[.bit true, .val (.pp d.pv.cells 0), .val (.bool false)], True⟩).map (fun r => (r.1, r.2.1.tm 2, r.2.2.ob)) = some (Ex.ret, PV.int .i64 11, O.pure 11 [.str d.s] = some (.bool false) ∧ AD l (k : Int) d ∧ decide ((k : Int) < (l.length : Int)) = true ∧ True) := by
    obtain rfl | rfl | rfl | rfl | rfl | rfl : k = 0 ∨ k = 1 ∨ k = 2 ∨ k = 3 ∨ k = 4 ∨ k = 5 := by omega
    all_goals kernel_rfl
  obtain ⟨ex, st', ob, hp, hev⟩ := Ev.of_X (fun ex st ob => (ex, st.tm 2, ob)) hX
  simp only [Prod.mk.injEq] at hp
  obtain ⟨rfl, h2, rfl⟩ := hp
  exact ⟨st', hev ⟨g1, ha, by simp [hlt], trivial⟩, h2⟩

theorem k_far1 {k : Nat} (hk : k < 6) (h : l[k]? = some d) (g1 : O.pure 11 [.str d.s] = some (.bool true)) (g2 : O.pure 27 [.int .i64 d.a] = some (.bool true)) : ∃ st', Ev kC O kL (mkK l k R B C) .ret st' ∧ st'.tm 2 = .int .i64 2 := by
  have hlt : k < l.length := (List.getElem?_eq_some_iff.1 h).1
  have ha : AD l (k : Int) d := iAddr h
  have hX : (evXCode kC O (flg [(4, 0, .bit), (5, 1, .val), (6, 2, .call), (8, 2, .call)]) 50 kL (mkK l k R B C) ⟨[.bit true, .val (.pp d.pv.cells 0), .val (.bool true), .val (.bool true)], True⟩).map (fun r => (r.1, r.2.1.tm 2, r.2.2.ob)) = some (Ex.ret, PV.int .i64 2, O.pure 27 [.int .i64 d.a] = some (.bool true) ∧ O.pure 11 [.str d.s] = some (.bool true) ∧ AD l (k : Int) d ∧ decide ((k : Int) < (l.length : Int)) = true ∧ True) := by
    obtain rfl | rfl | rfl | rfl | rfl | rfl : k = 0 ∨ k = 1 ∨ k = 2 ∨ k = 3 ∨ k = 4 ∨ k = 5 := by omega
    all_goals kernel_rfl
  obtain ⟨ex, st', ob, hp, hev⟩ := Ev.of_X (fun ex st ob => (ex, st.tm 2, ob)) hX
  simp only [Prod.mk.injEq] at hp
  obtain ⟨rfl, h2, rfl⟩ := hp
  exact ⟨st', hev ⟨g2, g1, ha, by simp [hlt], trivial⟩, h2⟩

theorem k_far2 {k : Nat} (hk : k < 6) (h : l[k]? = some d) (g1 : O.pure 11 [.str d.s] = some (.bool true)) (g2 : O.pure 27 [.int .i64 d.a] = some (.bool false)) (g3 : O.pure 27 [.int .i64 d.b] = some (.bool true)) : ∃ st', Ev kC O kL (mkK l k R B C) .ret st' ∧ st'.tm 2 = .int .i64 2 := by
  have hlt : k < l.length := (List.getElem?_eq_some_iff.1 h).1
  have ha : AD l (k : Int) d := iAddr h
  have hX : (evXCode kC O (flg [(4, 0, .bit), (5, 1, .val), (6, 2, .call), (8, 2, .call), (8, 6, .call)]) 50 kL (mkK l k R B C) ⟨[.bit true, .val (.pp d.pv.cells 0), .val (.bool true), .val (.bool false), .val (.bool true)], True⟩).map (fun r => (r.1, r.2.1.tm 2, r.2.2.ob)) = some (Ex.ret, PV.int .i64 2, O.pure 27 [.int .i64 d.b] = some (.bool true) ∧ O.pure 27 [.int .i64 d.a] = some (.bool false) ∧ O.pure 11 [.str d.s] = some (.bool true) ∧ AD l (k : Int) d ∧ decide ((k : Int) < (l.length : Int)) = true ∧ True) := by
    obtain rfl | rfl | rfl | rfl | rfl | rfl : k = 0 ∨ k = 1 ∨ k = 2 ∨ k = 3 ∨ k = 4 ∨ k = 5 := by omega
    all_goals kernel_rfl
  obtain ⟨ex, st', ob, hp, hev⟩ := Ev.of_X (fun ex st ob => (ex, st.tm 2, ob)) hX
  simp only [Prod.mk.injEq] at hp
  obtain ⟨rfl, h2, rfl⟩ := hp
  exact ⟨st', hev ⟨g3, g2, g1, ha, by simp [hlt], trivial⟩, h2⟩

theorem k_far3 {k : Nat} (hk : k < 6) (h : l[k]? = some d) (g1 : O.pure 11 [.str d.s] = some (.bool true)) (g2 : O.pure 27 [.int .i64 d.a] = some (.bool false)) (g3 : O.pure 27 [.int .i64 d.b] = some (.bool false)) (g4 : O.pure 27 [.int .i64 d.c] = some (.bool true)) : ∃ st', Ev kC O kL (mkK l k R B C) .ret st' ∧ st'.tm 2 = .int .i64 2 := by
  have hlt : k < l.length := (List.getElem?_eq_some_iff.1 h).1
  have ha : AD l (k : Int) d := iAddr h
  have hX : (evXCode kC O (flg [(4, 0, .bit), (5, 1, .val), (6, 2, .call), (8, 2, .call), (8, 6, .call), (8, 11, .call)]) 50 kL (mkK l k R B C) ⟨[.bit true, .val (.pp d.pv.cells 0), .val (.bool true), .val (.bool false), .val (.bool false), .val (.bool true)], True⟩).map (fun r => (r.1, r.2.1.tm 2, r.2.2.ob)) = some (Ex.ret, PV.int .i64 2, O.pure 27 [.int .i64 d.c] = some (.bool true) ∧ O.pure 27 [.int .i64 d.b] = some (.bool false) ∧ O.pure 27 [.int .i64 d.a] = some (.bool false) ∧ O.pure 11 [.str d.s] = some (.bool true) ∧ AD l (k : Int) d ∧ decide ((k : Int) < (l.length : Int)) = true ∧ True) := by
    obtain rfl | rfl | rfl | rfl | rfl | rfl : k = 0 ∨ k = 1 ∨ k = 2 ∨ k = 3 ∨ k = 4 ∨ k = 5 := by omega
    all_goals kernel_rfl
  obtain ⟨ex, st', ob, hp, hev⟩ := Ev.of_X (fun ex st ob => (ex, st.tm 2, ob)) hX
  simp only [Prod.mk.injEq] at hp
  obtain ⟨rfl, h2, rfl⟩ := hp
  exact ⟨st', hev ⟨g4, g3, g2, g1, ha, by simp [hlt], trivial⟩, h2⟩

theorem k_order {k : Nat} (hk : k < 6) (h : l[k]? = some d) (g1 : O.pure 11 [.str d.s] = some (.bool true)) (g2 : O.pure 27 [.int .i64 d.a] = some (.bool false)) (g3 : O.pure 27 [.int .i64 d.b] = some (.bool false)) (g4 : O.pure 27 [.int .i64 d.c] = some (.bool false)) (g5 : decide (d.c < d.b) = true) : ∃ st', Ev kC O kL (mkK l k R B C) .ret st' ∧ st'.tm 2 = .int .i64 8 := by
  have hlt : k < l.length := (List.getElem?_eq_some_iff.1 h).1
  have ha : AD l (k : Int) d := iAddr h
  have hX : (evXCode kC O (flg [(4, 0, .bit), (5, 1, .val), (6, 2, .call), (8, 2, .call), (8, 6, .call), (8, 11, .call), (10, 4, .bit)]) 50 kL (mkK l k R B C) ⟨[.bit true, .val (.pp d.pv.cells 0), .val (.bool true), .val (.bool false), .val (.bool false), .val (.bool false), .bit true], True⟩).map (fun r => (r.1, r.2.1.tm 2, r.2.2.ob)) = some (Ex.ret, PV.int .i64 8, decide (d.c < d.b) = true ∧ O.pure 27 [.int .i64 d.c] = some (.bool false) ∧ O.pure 27 [.int .i64 d.b] = some (.bool false) ∧ O.pure 27 [.int .i64 d.a] = some (.bool false) ∧ O.pure 11 [.str d.s] = some (.bool true) ∧ AD l (k : Int) d ∧ decide ((k : Int) < (l.length : Int)) = true ∧ True) := by
    obtain rfl | rfl | rfl | rfl | rfl | rfl : k = 0 ∨ k = 1 ∨ k = 2 ∨ k = 3 ∨ k = 4 ∨ k = 5 := by omega
    all_goals kernel_rfl
  obtain ⟨ex, st', ob, hp, hev⟩ := Ev.of_X (fun ex st ob => (ex, st.tm 2, ob)) hX
  simp only [Prod.mk.injEq] at hp
  obtain ⟨rfl, h2, rfl⟩ := hp
  exact ⟨st', hev ⟨g5, g4, g3, g2, g1, ha, by simp [hlt], trivial⟩, h2⟩

theorem k_dup {k : Nat} (hk : k < 6) (h : l[k]? = some d) (g1 : O.pure 11 [.str d.s] = some (.bool true)) (g2 : O.pure 27 [.int .i64 d.a] = some (.bool false)) (g3 : O.pure 27 [.int .i64 d.b] = some (.bool false)) (g4 : O.pure 27 [.int .i64 d.c] = some (.bool false)) (g5 : decide (d.c < d.b) = false) {v : Int} (g6 : O.pure 10 [LS (l.take k), .str d.s] = some (.tup [.int .i64 v, .bool true])) : ∃ st', Ev kC O kL (mkK l k R B C) .ret st' ∧ st'.tm 2 = .int .i64 9 := by
  have hlt : k < l.length := (List.getElem?_eq_some_iff.1 h).1
  have ha : AD l (k : Int) d := iAddr h
  have hX : (evXCode kC O (flg [(4, 0, .bit), (5, 1, .val), (6, 2, .call), (8, 2, .call), (8, 6, .call), (8, 11, .call), (10, 4, .bit), (12, 2, .val), (12, 5, .pers)]) 50 kL (mkK l k R B C) ⟨[.bit true, .val (.pp d.pv.cells 0), .val (.bool true), .val (.bool false), .val (.bool false), .val (.bool false), .bit false, .val (LS (l.take k)), .val (.tup [.int .i64 v, .bool true])], True⟩).map (fun r => (r.1, r.2.1.tm 2, r.2.2.ob)) = some (Ex.ret, PV.int .i64 9, PV.persL [LS (l.take k), .str d.s] = true ∧ O.pure 10 [LS (l.take k), .str d.s] = some (.tup [.int .i64 v, .bool true]) ∧ SLC l k ∧ decide (d.c < d.b) = false ∧ O.pure 27 [.int .i64 d.c] = some (.bool false) ∧ O.pure 27 [.int .i64 d.b] = some (.bool false) ∧ O.pure 27 [.int .i64 d.a] = some (.bool false) ∧ O.pure 11 [.str d.s] = some (.bool true) ∧ AD l (k : Int) d ∧ decide ((k : Int) < (l.length : Int)) = true ∧ True) := by
    obtain rfl | rfl | rfl | rfl | rfl | rfl : k = 0 ∨ k = 1 ∨ k = 2 ∨ k = 3 ∨ k = 4 ∨ k = 5 := by omega
    all_goals kernel_rfl
  obtain ⟨ex, st', ob, hp, hev⟩ := Ev.of_X (fun ex st ob => (ex, st.tm 2, ob)) hX
  simp only [Prod.mk.injEq] at hp
  obtain ⟨rfl, h2, rfl⟩ := hp
  exact ⟨st', hev ⟨persF _ _, g6, slc hlt, g5, g4, g3, g2, g1, ha, by simp [hlt], trivial⟩, h2⟩

theorem k_go {k : Nat} (hk : k < 6) (h : l[k]? = some d) (g1 : O.pure 11 [.str d.s] = some (.bool true)) (g2 : O.pure 27 [.int .i64 d.a] = some (.bool false)) (g3 : O.pure 27 [.int .i64 d.b] = some (.bool false)) (g4 : O.pure 27 [.int .i64 d.c] = some (.bool false)) (g5 : decide (d.c < d.b) = false) {v : Int} (g6 : O.pure 10 [LS (l.take k), .str d.s] = some (.tup [.int .i64 v, .bool false])) : ∃ st', Ev kC O kL (mkK l k R B C) .normal st' ∧ KSt l (k + 1) st' := by
  have hlt : k < l.length := (List.getElem?_eq_some_iff.1 h).1
  have ha : AD l (k : Int) d := iAddr h
  have hX : (evXCode kC O (flg [(4, 0, .bit), (5, 1, .val), (6, 2, .call), (8, 2, .call), (8, 6, .call), (8, 11, .call), (10, 4, .bit), (12, 2, .val), (12, 5, .pers)]) 50 kL (mkK l k R B C) ⟨[.bit true, .val (.pp d.pv.cells 0), .val (.bool true), .val (.bool false), .val (.bool false), .val (.bool false), .bit false, .val (LS (l.take k)), .val (.tup [.int .i64 v, .bool false])], True⟩).map (fun r => (r.1, r.2.1.tm 0, r.2.1.tm 10, r.2.1.tm 11, r.2.1.tm 12, r.2.1.hp.cnt [] 4, r.2.2.ob)) = some (Ex.normal, LS l, LS l, PV.int .i64 l.length, PV.int .i64 ((k + 1 : Nat) : Int), k + 1, PV.persL [LS (l.take k), .str d.s] = true ∧ O.pure 10 [LS (l.take k), .str d.s] = some (.tup [.int .i64 v, .bool false]) ∧ SLC l k ∧ decide (d.c < d.b) = false ∧ O.pure 27 [.int .i64 d.c] = some (.bool false) ∧ O.pure 27 [.int .i64 d.b] = some (.bool false) ∧ O.pure 27 [.int .i64 d.a] = some (.bool false) ∧ O.pure 11 [.str d.s] = some (.bool true) ∧ AD l (k : Int) d ∧ decide ((k : Int) < (l.length : Int)) = true ∧ True) := by
    obtain rfl | rfl | rfl | rfl | rfl | rfl : k = 0 ∨ k = 1 ∨ k = 2 ∨ k = 3 ∨ k = 4 ∨ k = 5 := by omega
    all_goals kernel_rfl
  obtain ⟨ex, st', ob, hp, hev⟩ := Ev.of_X (fun ex st ob => (ex, st.tm 0, st.tm 10, st.tm 11, st.tm 12, st.hp.cnt [] 4, ob)) hX
  simp only [Prod.mk.injEq] at hp
  obtain ⟨rfl, h0, h1, h2, h3, h4, rfl⟩ := hp
  exact ⟨st', hev ⟨persF _ _, g6, slc hlt, g5, g4, g3, g2, g1, ha, by simp [hlt], trivial⟩, h0, h1, h2, h3, h4⟩

end
end Go.Proofs.YtigfgicjjhepoaaGreatDoor.VA

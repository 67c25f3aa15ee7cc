/- The law of fits, over the evaluator. -/
import Derived.Test.YtigfgicjjhepoaaGreatDoorSg
set_option linter.unusedVariables false
set_option linter.unusedSimpArgs false
namespace Go.Proofs.YtigfgicjjhepoaaGreatDoor.VA
open Go Go.Proofs

theorem known_fit_bad1 {s1 s2 : ByteArray} {a1 b1 c1 a2 b2 c2 : Int} (he : dimE s1 a1 b1 c1 ≠ 0) : Known 7 [D s1 a1 b1 c1, D s2 a2 b2 c2] (.tup [.int .i64 0, .int .i64 0, .int .i64 0, .int .i64 (dimE s1 a1 b1 c1)]) :=
  Known.of (known_check1 s1 a1 b1 c1).deep rfl (fun O hO => fit_bad1 hO he)
theorem known_fit_bad2 {s1 s2 : ByteArray} {a1 b1 c1 a2 b2 c2 : Int} (h1 : dimE s1 a1 b1 c1 = 0) (he : dimE s2 a2 b2 c2 ≠ 0) : Known 7 [D s1 a1 b1 c1, D s2 a2 b2 c2] (.tup [.int .i64 0, .int .i64 0, .int .i64 0, .int .i64 (dimE s2 a2 b2 c2)]) := by
  have k1 := known_check1 s1 a1 b1 c1
  rw [h1] at k1
  exact Known.of (k1.deep.and (known_check1 s2 a2 b2 c2).deep) rfl (fun O hO => fit_bad2 hO.1 hO.2 he)
theorem known_fit {s1 s2 : ByteArray} {a1 b1 c1 a2 b2 c2 : Int} (h1 : dimE s1 a1 b1 c1 = 0) (h2 : dimE s2 a2 b2 c2 = 0) : Known 7 [D s1 a1 b1 c1, D s2 a2 b2 c2] (.tup [.int .i64 (fitK ((a1 + b1) - (a2 + c2)) ((a1 + c1) - (a2 + b2))), .int .i64 ((a1 + b1) - (a2 + c2)), .int .i64 ((a1 + c1) - (a2 + b2)), .int .i64 0]) := by
  have k1 := known_check1 s1 a1 b1 c1
  have k2 := known_check1 s2 a2 b2 c2
  rw [h1] at k1
  rw [h2] at k2
  have d1 := dimE_ok h1
  have d2 := dimE_ok h2
  exact Known.of ((k1.deep.and k2.deep).and ((known_range h1).deep.and (known_range h2).deep)) rfl (fun O hO => fit_ok hO (wrap_id (by omega)) (wrap_id (by omega)))

theorem fits_long1 {O : Orc} {s1 s2 : ByteArray} {a1 b1 c1 a2 b2 c2 : Int} (hk : O.pure 6 [] = some (.bool true)) (h : 50 < (s1.size : Int)) :
    Runs Pr pol O 3 [D s1 a1 b1 c1, D s2 a2 b2 c2] (.bool true) :=
  Runs.of_X (n := 50) (fl := flg [(1, 0, .call), (1, 6, .bit), (2, 0, .call)]) (tr := [.val (.bool true), .bit true, .val (.bool true)])
    (ob := O.pure 6 [] = some (.bool true) ∧ decide (50 < (s1.size : Int)) = true ∧ O.pure 6 [] = some (.bool true) ∧ True) (by kernel_rfl) ⟨hk, by simp [h], hk, trivial⟩
theorem fits_long2 {O : Orc} {s1 s2 : ByteArray} {a1 b1 c1 a2 b2 c2 : Int} (hk : O.pure 6 [] = some (.bool true)) (h1 : ¬ 50 < (s1.size : Int)) (h : 50 < (s2.size : Int)) :
    Runs Pr pol O 3 [D s1 a1 b1 c1, D s2 a2 b2 c2] (.bool true) :=
  Runs.of_X (n := 50) (fl := flg [(1, 0, .call), (1, 6, .bit), (1, 12, .bit), (2, 0, .call)]) (tr := [.val (.bool true), .bit false, .bit true, .val (.bool true)])
    (ob := O.pure 6 [] = some (.bool true) ∧ decide (50 < (s2.size : Int)) = true ∧ decide (50 < (s1.size : Int)) = false ∧ O.pure 6 [] = some (.bool true) ∧ True) (by kernel_rfl) ⟨hk, by simp [h], by simp [h1], hk, trivial⟩

theorem fits_bad1 {O : Orc} {s1 s2 : ByteArray} {a1 b1 c1 a2 b2 c2 e : Int} (hk : O.pure 6 [] = some (.bool true)) (h1 : ¬ 50 < (s1.size : Int)) (h2 : ¬ 50 < (s2.size : Int)) (he : e ≠ 0)
    (hf : O.pure 7 [D s1 a1 b1 c1, D s2 a2 b2 c2] = some (.tup [.int .i64 0, .int .i64 0, .int .i64 0, .int .i64 e])) (hc : O.pure 8 [.sl true [D s1 a1 b1 c1]] = some (.int .i64 e)) :
    Runs Pr pol O 3 [D s1 a1 b1 c1, D s2 a2 b2 c2] (.bool true) :=
  Runs.of_X (n := 50) (fl := flg [(1, 0, .call), (1, 6, .bit), (1, 12, .bit), (3, 2, .call), (4, 2, .call), (5, 1, .bit), (7, 1, .bit), (8, 13, .bit)])
    (tr := [.val (.bool true), .bit false, .bit false, .val (.tup [.int .i64 0, .int .i64 0, .int .i64 0, .int .i64 e]), .val (.int .i64 e), .bit false, .bit true, .bit true])
    (ob := decide (e = e) = true ∧ (!decide (e = 0)) = true ∧ decide (e = 0) = false ∧ O.pure 8 [.sl true [D s1 a1 b1 c1]] = some (.int .i64 e) ∧ O.pure 7 [D s1 a1 b1 c1, D s2 a2 b2 c2] = some (.tup [.int .i64 0, .int .i64 0, .int .i64 0, .int .i64 e]) ∧
      decide (50 < (s2.size : Int)) = false ∧ decide (50 < (s1.size : Int)) = false ∧ O.pure 6 [] = some (.bool true) ∧ True) (by kernel_rfl) ⟨by simp, by simp [he], by simp [he], hc, hf, by simp [h2], by simp [h1], hk, trivial⟩
theorem fits_bad2 {O : Orc} {s1 s2 : ByteArray} {a1 b1 c1 a2 b2 c2 e : Int} (hk : O.pure 6 [] = some (.bool true)) (h1 : ¬ 50 < (s1.size : Int)) (h2 : ¬ 50 < (s2.size : Int)) (he : e ≠ 0)
    (hf : O.pure 7 [D s1 a1 b1 c1, D s2 a2 b2 c2] = some (.tup [.int .i64 0, .int .i64 0, .int .i64 0, .int .i64 e])) (hc1 : O.pure 8 [.sl true [D s1 a1 b1 c1]] = some (.int .i64 0)) (hc : O.pure 8 [.sl true [D s2 a2 b2 c2]] = some (.int .i64 e)) :
    Runs Pr pol O 3 [D s1 a1 b1 c1, D s2 a2 b2 c2] (.bool true) :=
  Runs.of_X (n := 50) (fl := flg [(1, 0, .call), (1, 6, .bit), (1, 12, .bit), (3, 2, .call), (4, 2, .call), (6, 2, .call), (7, 1, .bit), (8, 13, .bit)])
    (tr := [.val (.bool true), .bit false, .bit false, .val (.tup [.int .i64 0, .int .i64 0, .int .i64 0, .int .i64 e]), .val (.int .i64 0), .val (.int .i64 e), .bit true, .bit true])
    (ob := decide (e = e) = true ∧ (!decide (e = 0)) = true ∧ O.pure 8 [.sl true [D s2 a2 b2 c2]] = some (.int .i64 e) ∧ O.pure 8 [.sl true [D s1 a1 b1 c1]] = some (.int .i64 0) ∧ O.pure 7 [D s1 a1 b1 c1, D s2 a2 b2 c2] = some (.tup [.int .i64 0, .int .i64 0, .int .i64 0, .int .i64 e]) ∧
      decide (50 < (s2.size : Int)) = false ∧ decide (50 < (s1.size : Int)) = false ∧ O.pure 6 [] = some (.bool true) ∧ True) (by kernel_rfl) ⟨by simp, by simp [he], hc, hc1, hf, by simp [h2], by simp [h1], hk, trivial⟩

/-- The law's own clearances. -/
def lawA (a1 b1 a2 c2 : Int) : Int := IntKind.i64.wrap (IntKind.i64.wrap (IntKind.i64.wrap (a1 + b1) - a2) - c2)

theorem fits_good {O : Orc} {s1 s2 : ByteArray} {a1 b1 c1 a2 b2 c2 k' x y : Int}
    (hk : O.pure 6 [] = some (.bool true)) (h1 : ¬ 50 < (s1.size : Int)) (h2 : ¬ 50 < (s2.size : Int))
    (l m : Int) (hl : lawA a1 b1 a2 c2 = l) (hm : lawA a1 c1 a2 b2 = m) (hfx : x = IntKind.i64.wrap (0 - m)) (hfy : y = IntKind.i64.wrap (0 - l))
    (hf : O.pure 7 [D s1 a1 b1 c1, D s2 a2 b2 c2] = some (.tup [.int .i64 (fitK l m), .int .i64 l, .int .i64 m, .int .i64 0]))
    (hf2 : O.pure 7 [D s2 a2 b2 c2, D s1 a1 b1 c1] = some (.tup [.int .i64 k', .int .i64 x, .int .i64 y, .int .i64 0]))
    (hc1 : O.pure 8 [.sl true [D s1 a1 b1 c1]] = some (.int .i64 0)) (hc2 : O.pure 8 [.sl true [D s2 a2 b2 c2]] = some (.int .i64 0)) :
    Runs Pr pol O 3 [D s1 a1 b1 c1, D s2 a2 b2 c2] (.bool true) := by
  have e1 : decide (50 < (s1.size : Int)) = false := by simp [h1]
  have e2 : decide (50 < (s2.size : Int)) = false := by simp [h2]
  by_cases g1 : 0 ≤ l
  · have hf' : O.pure 7 [D s1 a1 b1 c1, D s2 a2 b2 c2] = some (.tup [.int .i64 1, .int .i64 l, .int .i64 m, .int .i64 0]) := by rw [hf, fitK, if_pos g1]
    refine Runs.of_X (n := 50) (fl := flg [(1, 0, .call), (1, 6, .bit), (1, 12, .bit), (3, 2, .call), (4, 2, .call), (6, 2, .call), (12, 1, .bit), (16, 2, .call), (17, 6, .bit), (17, 11, .bit), (17, 21, .bit), (17, 27, .bit)])
      (tr := [.val (.bool true), .bit false, .bit false, .val (.tup [.int .i64 1, .int .i64 l, .int .i64 m, .int .i64 0]), .val (.int .i64 0), .val (.int .i64 0), .bit true, .val (.tup [.int .i64 k', .int .i64 x, .int .i64 y, .int .i64 0]), .bit true, .bit true, .bit true, .bit true])
      (ob := decide (y = IntKind.i64.wrap (0 - lawA a1 b1 a2 c2)) = true ∧ decide (x = IntKind.i64.wrap (0 - lawA a1 c1 a2 b2)) = true ∧ decide (m = lawA a1 c1 a2 b2) = true ∧ decide (l = lawA a1 b1 a2 c2) = true ∧
        O.pure 7 [D s2 a2 b2 c2, D s1 a1 b1 c1] = some (.tup [.int .i64 k', .int .i64 x, .int .i64 y, .int .i64 0]) ∧ decide (0 ≤ lawA a1 b1 a2 c2) = true ∧
        O.pure 8 [.sl true [D s2 a2 b2 c2]] = some (.int .i64 0) ∧ O.pure 8 [.sl true [D s1 a1 b1 c1]] = some (.int .i64 0) ∧ O.pure 7 [D s1 a1 b1 c1, D s2 a2 b2 c2] = some (.tup [.int .i64 1, .int .i64 l, .int .i64 m, .int .i64 0]) ∧
        decide (50 < (s2.size : Int)) = false ∧ decide (50 < (s1.size : Int)) = false ∧ O.pure 6 [] = some (.bool true) ∧ True) (by kernel_rfl) ?_
    rw [hl, hm]
    exact ⟨by simp [hfy], by simp [hfx], by simp, by simp, hf2, by simp [g1], hc2, hc1, hf', e2, e1, hk, trivial⟩
  · by_cases g2 : m ≤ 0
    · have hf' : O.pure 7 [D s1 a1 b1 c1, D s2 a2 b2 c2] = some (.tup [.int .i64 3, .int .i64 l, .int .i64 m, .int .i64 0]) := by rw [hf, fitK, if_neg g1, if_pos g2]
      refine Runs.of_X (n := 50) (fl := flg [(1, 0, .call), (1, 6, .bit), (1, 12, .bit), (3, 2, .call), (4, 2, .call), (6, 2, .call), (12, 1, .bit), (14, 1, .bit), (16, 2, .call), (17, 6, .bit), (17, 11, .bit), (17, 21, .bit), (17, 27, .bit)])
        (tr := [.val (.bool true), .bit false, .bit false, .val (.tup [.int .i64 3, .int .i64 l, .int .i64 m, .int .i64 0]), .val (.int .i64 0), .val (.int .i64 0), .bit false, .bit true, .val (.tup [.int .i64 k', .int .i64 x, .int .i64 y, .int .i64 0]), .bit true, .bit true, .bit true, .bit true])
        (ob := decide (y = IntKind.i64.wrap (0 - lawA a1 b1 a2 c2)) = true ∧ decide (x = IntKind.i64.wrap (0 - lawA a1 c1 a2 b2)) = true ∧ decide (m = lawA a1 c1 a2 b2) = true ∧ decide (l = lawA a1 b1 a2 c2) = true ∧
          O.pure 7 [D s2 a2 b2 c2, D s1 a1 b1 c1] = some (.tup [.int .i64 k', .int .i64 x, .int .i64 y, .int .i64 0]) ∧ decide (lawA a1 c1 a2 b2 ≤ 0) = true ∧ decide (0 ≤ lawA a1 b1 a2 c2) = false ∧
          O.pure 8 [.sl true [D s2 a2 b2 c2]] = some (.int .i64 0) ∧ O.pure 8 [.sl true [D s1 a1 b1 c1]] = some (.int .i64 0) ∧ O.pure 7 [D s1 a1 b1 c1, D s2 a2 b2 c2] = some (.tup [.int .i64 3, .int .i64 l, .int .i64 m, .int .i64 0]) ∧
          decide (50 < (s2.size : Int)) = false ∧ decide (50 < (s1.size : Int)) = false ∧ O.pure 6 [] = some (.bool true) ∧ True) (by kernel_rfl) ?_
      rw [hl, hm]
      exact ⟨by simp [hfy], by simp [hfx], by simp, by simp, hf2, by simp [g2], by simp [g1], hc2, hc1, hf', e2, e1, hk, trivial⟩
    · have hf' : O.pure 7 [D s1 a1 b1 c1, D s2 a2 b2 c2] = some (.tup [.int .i64 2, .int .i64 l, .int .i64 m, .int .i64 0]) := by rw [hf, fitK, if_neg g1, if_neg g2]
      refine Runs.of_X (n := 50) (fl := flg [(1, 0, .call), (1, 6, .bit), (1, 12, .bit), (3, 2, .call), (4, 2, .call), (6, 2, .call), (12, 1, .bit), (14, 1, .bit), (16, 2, .call), (17, 6, .bit), (17, 11, .bit), (17, 21, .bit), (17, 27, .bit)])
        (tr := [.val (.bool true), .bit false, .bit false, .val (.tup [.int .i64 2, .int .i64 l, .int .i64 m, .int .i64 0]), .val (.int .i64 0), .val (.int .i64 0), .bit false, .bit false, .val (.tup [.int .i64 k', .int .i64 x, .int .i64 y, .int .i64 0]), .bit true, .bit true, .bit true, .bit true])
        (ob := decide (y = IntKind.i64.wrap (0 - lawA a1 b1 a2 c2)) = true ∧ decide (x = IntKind.i64.wrap (0 - lawA a1 c1 a2 b2)) = true ∧ decide (m = lawA a1 c1 a2 b2) = true ∧ decide (l = lawA a1 b1 a2 c2) = true ∧
          O.pure 7 [D s2 a2 b2 c2, D s1 a1 b1 c1] = some (.tup [.int .i64 k', .int .i64 x, .int .i64 y, .int .i64 0]) ∧ decide (lawA a1 c1 a2 b2 ≤ 0) = false ∧ decide (0 ≤ lawA a1 b1 a2 c2) = false ∧
          O.pure 8 [.sl true [D s2 a2 b2 c2]] = some (.int .i64 0) ∧ O.pure 8 [.sl true [D s1 a1 b1 c1]] = some (.int .i64 0) ∧ O.pure 7 [D s1 a1 b1 c1, D s2 a2 b2 c2] = some (.tup [.int .i64 2, .int .i64 l, .int .i64 m, .int .i64 0]) ∧
          decide (50 < (s2.size : Int)) = false ∧ decide (50 < (s1.size : Int)) = false ∧ O.pure 6 [] = some (.bool true) ∧ True) (by kernel_rfl) ?_
      rw [hl, hm]
      exact ⟨by simp [hfy], by simp [hfx], by simp, by simp, hf2, by simp [g2], by simp [g1], hc2, hc1, hf', e2, e1, hk, trivial⟩

theorem known_fits (s1 s2 : ByteArray) (a1 b1 c1 a2 b2 c2 : Int) : Known 3 [D s1 a1 b1 c1, D s2 a2 b2 c2] (.bool true) := by
  by_cases h1 : 50 < (s1.size : Int)
  · exact Known.of known_known.deep rfl (fun O hO => fits_long1 hO h1)
  by_cases h2 : 50 < (s2.size : Int)
  · exact Known.of known_known.deep rfl (fun O hO => fits_long2 hO h1 h2)
  by_cases g1 : dimE s1 a1 b1 c1 = 0
  · by_cases g2 : dimE s2 a2 b2 c2 = 0
    · have d1 := dimE_ok g1
      have d2 := dimE_ok g2
      have k1 := known_lcheck1 s1 (by omega) a1 b1 c1
      have k2 := known_lcheck1 s2 (by omega) a2 b2 c2
      rw [g1] at k1
      rw [g2] at k2
      have hA : lawA a1 b1 a2 c2 = (a1 + b1) - (a2 + c2) := by
        unfold lawA; rw [wrap_id (n := a1 + b1) (by omega), wrap_id (n := a1 + b1 - a2) (by omega), wrap_id (by omega)]; omega
      have hB : lawA a1 c1 a2 b2 = (a1 + c1) - (a2 + b2) := by
        unfold lawA; rw [wrap_id (n := a1 + c1) (by omega), wrap_id (n := a1 + c1 - a2) (by omega), wrap_id (by omega)]; omega
      exact Known.of ((known_known.deep.and ((known_fit g1 g2).deep.and (known_fit g2 g1).deep)).and (k1.deep.and k2.deep)) rfl (fun O hO =>
        fits_good hO.1.1 h1 h2 _ _ hA hB (by rw [wrap_id (by omega)]; omega) (by rw [wrap_id (by omega)]; omega) hO.1.2.1 hO.1.2.2 hO.2.1 hO.2.2)
    · have k1 := known_lcheck1 s1 (by omega) a1 b1 c1
      rw [g1] at k1
      exact Known.of ((known_known.deep.and (known_fit_bad2 g1 g2).deep).and (k1.deep.and (known_lcheck1 s2 (by omega) a2 b2 c2).deep)) rfl (fun O hO => fits_bad2 hO.1.1 h1 h2 g2 hO.1.2 hO.2.1 hO.2.2)
  · exact Known.of ((known_known.deep.and (known_fit_bad1 g1).deep).and (known_lcheck1 s1 (by omega) a1 b1 c1).deep) rfl (fun O hO => fits_bad1 hO.1.1 h1 h2 g1 hO.1.2 hO.2)
end Go.Proofs.YtigfgicjjhepoaaGreatDoor.VA

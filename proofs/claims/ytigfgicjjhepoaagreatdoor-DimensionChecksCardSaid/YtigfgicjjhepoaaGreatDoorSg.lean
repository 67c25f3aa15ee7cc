/- Dimensions: checks, fits. -/
import Derived.Test.YtigfgicjjhepoaaGreatDoorSf
set_option linter.unusedVariables false
set_option linter.unusedSimpArgs false
namespace Go.Proofs.YtigfgicjjhepoaaGreatDoor.VA
open Go Go.Proofs

def D (s : ByteArray) (a b c : Int) : PV := .agg [.str s, .int .i64 a, .int .i64 b, .int .i64 c]
def i64V (n : Int) : PV := .int .i64 n

/-- The error of one dimension. -/
def dimE (s : ByteArray) (a b c : Int) : Int := if nameB s = true then (if (farB a || (farB b || farB c)) = true then 2 else if decide (c < b) = true then 8 else 0) else 11

theorem within_far (n : Int) : withinB n = !farB n := by
  have h1 : decide (-1073741824 ≤ n) = !decide (n < -1073741824) := by rw [← decide_not, decide_eq_decide]; omega
  have h2 : decide (n ≤ 1073741824) = !decide (1073741824 < n) := by rw [← decide_not, decide_eq_decide]; omega
  rw [withinB, farB, h1, h2]
  cases decide (n < -1073741824) <;> cases decide (1073741824 < n) <;> rfl

theorem find0_run (O : Orc) (s : ByteArray) (h : O.pure 28 [.sl false [], .fn 29 [] [.pp [.str s] 0]] = some (.int .i64 (-1))) : Runs Pr pol O 10 [.sl false [], .str s] (.tup [.int .i64 0, .bool false]) :=
  Runs.of_X (n := 50) (fl := flg [(1, 2, .call)]) (tr := [.val (.int .i64 (-1))]) (ob := O.pure 28 [.sl false [], .fn 29 [] [.pp [.str s] 0]] = some (.int .i64 (-1)) ∧ True) (by kernel_rfl) ⟨h, trivial⟩
theorem index0_run (O : Orc) (f : PV) (hf : f.pers = true) (s : ByteArray) : Runs Pr pol O 28 [.sl false [], .fn 29 [] [.pp [.str s] 0]] (.int .i64 (-1)) :=
  Runs.of_X (n := 50) (fl := flg []) (tr := []) (ob := True) (by kernel_rfl) trivial
theorem known_find0 (s : ByteArray) : Known 10 [.sl false [], .str s] (.tup [.int .i64 0, .bool false]) :=
  Known.of (Known.of (Q := fun _ => True) Deep.triv rfl (fun O _ => index0_run O .nilp rfl s)).deep rfl (fun O hO => find0_run O s hO)

theorem known_far (n : Int) : Known 27 [.int .i64 n] (.bool (farB n)) := Known.of Deep.triv rfl (fun O _ => far_run O n)
theorem known_within (n : Int) : Known 26 [.int .i64 n] (.bool (withinB n)) := Known.of Deep.triv rfl (fun O _ => within_run O n)
theorem known_name (s : ByteArray) (hs : s.size < 2 ^ 62) : Known 12 [.str s] (.bool (nameB s)) := Known.of Deep.triv rfl (fun O _ => name_run O s hs)

theorem check1_run {O : Orc} {s : ByteArray} {a b c : Int} (h : (O.pure 11 [.str s] = some (.bool (nameB s)) ∧ O.pure 10 [.sl false [], .str s] = some (.tup [.int .i64 0, .bool false])) ∧
    (O.pure 27 [.int .i64 a] = some (.bool (farB a)) ∧ O.pure 27 [.int .i64 b] = some (.bool (farB b))) ∧ O.pure 27 [.int .i64 c] = some (.bool (farB c))) :
    Runs Pr pol O 9 [.sl true [D s a b c]] (.int .i64 (dimE s a b c)) := by
  obtain ⟨⟨hn, hf⟩, ⟨ha, hb⟩, hc⟩ := h
  unfold dimE
  cases h1 : nameB s with
  | false =>
    rw [h1] at hn
    exact Runs.of_X (n := 50) (fl := flg [(6, 2, .call)]) (tr := [.val (.bool false)]) (ob := O.pure 11 [.str s] = some (.bool false) ∧ True) (by kernel_rfl) ⟨hn, trivial⟩
  | true =>
    rw [h1] at hn
    cases h2 : farB a with
    | true =>
      rw [h2] at ha
      exact Runs.of_X (n := 50) (fl := flg [(6, 2, .call), (8, 2, .call)]) (tr := [.val (.bool true), .val (.bool true)])
        (ob := O.pure 27 [.int .i64 a] = some (.bool true) ∧ O.pure 11 [.str s] = some (.bool true) ∧ True) (by kernel_rfl) ⟨ha, hn, trivial⟩
    | false =>
      rw [h2] at ha
      cases h3 : farB b with
      | true =>
        rw [h3] at hb
        exact Runs.of_X (n := 50) (fl := flg [(6, 2, .call), (8, 2, .call), (8, 6, .call)]) (tr := [.val (.bool true), .val (.bool false), .val (.bool true)])
          (ob := O.pure 27 [.int .i64 b] = some (.bool true) ∧ O.pure 27 [.int .i64 a] = some (.bool false) ∧ O.pure 11 [.str s] = some (.bool true) ∧ True) (by kernel_rfl) ⟨hb, ha, hn, trivial⟩
      | false =>
        rw [h3] at hb
        cases h4 : farB c with
        | true =>
          rw [h4] at hc
          exact Runs.of_X (n := 50) (fl := flg [(6, 2, .call), (8, 2, .call), (8, 6, .call), (8, 11, .call)]) (tr := [.val (.bool true), .val (.bool false), .val (.bool false), .val (.bool true)])
            (ob := O.pure 27 [.int .i64 c] = some (.bool true) ∧ O.pure 27 [.int .i64 b] = some (.bool false) ∧ O.pure 27 [.int .i64 a] = some (.bool false) ∧ O.pure 11 [.str s] = some (.bool true) ∧ True) (by kernel_rfl) ⟨hc, hb, ha, hn, trivial⟩
        | false =>
          rw [h4] at hc
          cases h5 : decide (c < b) with
          | true =>
            exact Runs.of_X (n := 50) (fl := flg [(6, 2, .call), (8, 2, .call), (8, 6, .call), (8, 11, .call), (10, 4, .bit)]) (tr := [.val (.bool true), .val (.bool false), .val (.bool false), .val (.bool false), .bit true])
              (ob := decide (c < b) = true ∧ O.pure 27 [.int .i64 c] = some (.bool false) ∧ O.pure 27 [.int .i64 b] = some (.bool false) ∧ O.pure 27 [.int .i64 a] = some (.bool false) ∧ O.pure 11 [.str s] = some (.bool true) ∧ True) (by kernel_rfl) ⟨h5, hc, hb, ha, hn, trivial⟩
          | false =>
            exact Runs.of_X (n := 50) (fl := flg [(6, 2, .call), (8, 2, .call), (8, 6, .call), (8, 11, .call), (10, 4, .bit), (12, 5, .call)]) (tr := [.val (.bool true), .val (.bool false), .val (.bool false), .val (.bool false), .bit false, .val (.tup [.int .i64 0, .bool false])])
              (ob := O.pure 10 [.sl false [], .str s] = some (.tup [.int .i64 0, .bool false]) ∧ decide (c < b) = false ∧ O.pure 27 [.int .i64 c] = some (.bool false) ∧ O.pure 27 [.int .i64 b] = some (.bool false) ∧ O.pure 27 [.int .i64 a] = some (.bool false) ∧ O.pure 11 [.str s] = some (.bool true) ∧ True) (by kernel_rfl) ⟨hf, h5, hc, hb, ha, hn, trivial⟩

theorem known_check1 (s : ByteArray) (a b c : Int) : Known 9 [.sl true [D s a b c]] (.int .i64 (dimE s a b c)) :=
  Known.of (((known_isName s).deep.and (known_find0 s).deep).and (((known_far a).deep.and (known_far b).deep).and (known_far c).deep)) rfl (fun O hO => check1_run hO)

theorem lcheck1_run {O : Orc} {s : ByteArray} {a b c : Int} (h : O.pure 12 [.str s] = some (.bool (nameB s)) ∧
    (O.pure 26 [.int .i64 a] = some (.bool (withinB a)) ∧ O.pure 26 [.int .i64 b] = some (.bool (withinB b))) ∧ O.pure 26 [.int .i64 c] = some (.bool (withinB c))) :
    Runs Pr pol O 8 [.sl true [D s a b c]] (.int .i64 (dimE s a b c)) := by
  obtain ⟨hn, ⟨ha, hb⟩, hc⟩ := h
  unfold dimE
  rw [within_far] at ha hb hc
  cases h1 : nameB s with
  | false =>
    rw [h1] at hn
    exact Runs.of_X (n := 50) (fl := flg [(7, 2, .call)]) (tr := [.val (.bool false)]) (ob := O.pure 12 [.str s] = some (.bool false) ∧ True) (by kernel_rfl) ⟨hn, trivial⟩
  | true =>
    rw [h1] at hn
    cases h2 : farB a with
    | true =>
      rw [h2] at ha
      exact Runs.of_X (n := 50) (fl := flg [(7, 2, .call), (9, 2, .call)]) (tr := [.val (.bool true), .val (.bool false)])
        (ob := O.pure 26 [.int .i64 a] = some (.bool false) ∧ O.pure 12 [.str s] = some (.bool true) ∧ True) (by kernel_rfl) ⟨ha, hn, trivial⟩
    | false =>
      rw [h2] at ha
      cases h3 : farB b with
      | true =>
        rw [h3] at hb
        exact Runs.of_X (n := 50) (fl := flg [(7, 2, .call), (9, 2, .call), (9, 7, .call)]) (tr := [.val (.bool true), .val (.bool true), .val (.bool false)])
          (ob := O.pure 26 [.int .i64 b] = some (.bool false) ∧ O.pure 26 [.int .i64 a] = some (.bool true) ∧ O.pure 12 [.str s] = some (.bool true) ∧ True) (by kernel_rfl) ⟨hb, ha, hn, trivial⟩
      | false =>
        rw [h3] at hb
        cases h4 : farB c with
        | true =>
          rw [h4] at hc
          exact Runs.of_X (n := 50) (fl := flg [(7, 2, .call), (9, 2, .call), (9, 7, .call), (9, 13, .call)]) (tr := [.val (.bool true), .val (.bool true), .val (.bool true), .val (.bool false)])
            (ob := O.pure 26 [.int .i64 c] = some (.bool false) ∧ O.pure 26 [.int .i64 b] = some (.bool true) ∧ O.pure 26 [.int .i64 a] = some (.bool true) ∧ O.pure 12 [.str s] = some (.bool true) ∧ True) (by kernel_rfl) ⟨hc, hb, ha, hn, trivial⟩
        | false =>
          rw [h4] at hc
          cases h5 : decide (c < b) with
          | true =>
            exact Runs.of_X (n := 50) (fl := flg [(7, 2, .call), (9, 2, .call), (9, 7, .call), (9, 13, .call), (11, 4, .bit)]) (tr := [.val (.bool true), .val (.bool true), .val (.bool true), .val (.bool true), .bit true])
              (ob := decide (c < b) = true ∧ O.pure 26 [.int .i64 c] = some (.bool true) ∧ O.pure 26 [.int .i64 b] = some (.bool true) ∧ O.pure 26 [.int .i64 a] = some (.bool true) ∧ O.pure 12 [.str s] = some (.bool true) ∧ True) (by kernel_rfl) ⟨h5, hc, hb, ha, hn, trivial⟩
          | false =>
            exact Runs.of_X (n := 50) (fl := flg [(7, 2, .call), (9, 2, .call), (9, 7, .call), (9, 13, .call), (11, 4, .bit)]) (tr := [.val (.bool true), .val (.bool true), .val (.bool true), .val (.bool true), .bit false])
              (ob := decide (c < b) = false ∧ O.pure 26 [.int .i64 c] = some (.bool true) ∧ O.pure 26 [.int .i64 b] = some (.bool true) ∧ O.pure 26 [.int .i64 a] = some (.bool true) ∧ O.pure 12 [.str s] = some (.bool true) ∧ True) (by kernel_rfl) ⟨h5, hc, hb, ha, hn, trivial⟩

theorem known_lcheck1 (s : ByteArray) (hs : s.size < 2 ^ 62) (a b c : Int) : Known 8 [.sl true [D s a b c]] (.int .i64 (dimE s a b c)) :=
  Known.of ((known_name s hs).deep.and (((known_within a).deep.and (known_within b).deep).and (known_within c).deep)) rfl (fun O hO => lcheck1_run hO)

theorem dimE_ok {s : ByteArray} {a b c : Int} (h : dimE s a b c = 0) : (-1073741824 ≤ a ∧ a ≤ 1073741824) ∧ (-1073741824 ≤ b ∧ b ≤ 1073741824) ∧ (-1073741824 ≤ c ∧ c ≤ 1073741824) ∧ b ≤ c := by
  have hf : ∀ n, farB n = false → -1073741824 ≤ n ∧ n ≤ 1073741824 := fun n h => by
    simp only [farB, Bool.or_eq_false_iff, decide_eq_false_iff_not] at h
    omega
  unfold dimE at h
  split at h
  · split at h
    · cases h
    · rename_i h1
      split at h
      · cases h
      · rename_i h2
        simp only [Bool.or_eq_true, not_or, Bool.not_eq_true] at h1
        simp only [decide_eq_true_eq] at h2
        exact ⟨hf a h1.1, hf b h1.2.1, hf c h1.2.2, by omega⟩
  · cases h

theorem range_run (O : Orc) (s : ByteArray) (a b c : Int) : Runs Pr pol O 14 [D s a b c] (.tup [.int .i64 (IntKind.i64.wrap (a + b)), .int .i64 (IntKind.i64.wrap (a + c))]) :=
  Runs.of_X (n := 50) (fl := flg []) (tr := []) (ob := True) (by kernel_rfl) trivial
theorem wrap_id {n : Int} (h : -9223372036854775808 ≤ n ∧ n ≤ 9223372036854775807) : IntKind.i64.wrap n = n := by
  rw [IntKind.wrap_i64]; omega
theorem known_range {s : ByteArray} {a b c : Int} (h : dimE s a b c = 0) : Known 14 [D s a b c] (.tup [.int .i64 (a + b), .int .i64 (a + c)]) := by
  have h' := dimE_ok h
  have := Known.of (Q := fun _ => True) Deep.triv rfl (fun O _ => range_run O s a b c)
  rwa [wrap_id (by omega), wrap_id (by omega)] at this

/-- What Fit hands back for dimensions that are right. -/
def fitK (l m : Int) : Int := if 0 ≤ l then 1 else if m ≤ 0 then 3 else 2

theorem fit_bad1 {O : Orc} {s1 s2 : ByteArray} {a1 b1 c1 a2 b2 c2 : Int} (h : O.pure 9 [.sl true [D s1 a1 b1 c1]] = some (.int .i64 (dimE s1 a1 b1 c1))) (he : dimE s1 a1 b1 c1 ≠ 0) :
    Runs Pr pol O 7 [D s1 a1 b1 c1, D s2 a2 b2 c2] (.tup [.int .i64 0, .int .i64 0, .int .i64 0, .int .i64 (dimE s1 a1 b1 c1)]) :=
  Runs.of_X (n := 50) (fl := flg [(4, 2, .call), (5, 1, .bit)]) (tr := [.val (.int .i64 (dimE s1 a1 b1 c1)), .bit true])
    (ob := (!decide (dimE s1 a1 b1 c1 = 0)) = true ∧ O.pure 9 [.sl true [D s1 a1 b1 c1]] = some (.int .i64 (dimE s1 a1 b1 c1)) ∧ True) (by kernel_rfl) ⟨by simp [he], h, trivial⟩

theorem fit_bad2 {O : Orc} {s1 s2 : ByteArray} {a1 b1 c1 a2 b2 c2 : Int} (h1 : O.pure 9 [.sl true [D s1 a1 b1 c1]] = some (.int .i64 0)) (h : O.pure 9 [.sl true [D s2 a2 b2 c2]] = some (.int .i64 (dimE s2 a2 b2 c2))) (he : dimE s2 a2 b2 c2 ≠ 0) :
    Runs Pr pol O 7 [D s1 a1 b1 c1, D s2 a2 b2 c2] (.tup [.int .i64 0, .int .i64 0, .int .i64 0, .int .i64 (dimE s2 a2 b2 c2)]) :=
  Runs.of_X (n := 50) (fl := flg [(4, 2, .call), (5, 1, .bit)]) (tr := [.val (.int .i64 0), .bit false, .val (.int .i64 (dimE s2 a2 b2 c2)), .bit true])
    (ob := (!decide (dimE s2 a2 b2 c2 = 0)) = true ∧ O.pure 9 [.sl true [D s2 a2 b2 c2]] = some (.int .i64 (dimE s2 a2 b2 c2)) ∧ (!decide ((0 : Int) = 0)) = false ∧ O.pure 9 [.sl true [D s1 a1 b1 c1]] = some (.int .i64 0) ∧ True) (by kernel_rfl)
    ⟨by simp [he], h, rfl, h1, trivial⟩

theorem fit_ok {O : Orc} {s1 s2 : ByteArray} {a1 b1 c1 a2 b2 c2 l m : Int} (h : (O.pure 9 [.sl true [D s1 a1 b1 c1]] = some (.int .i64 0) ∧ O.pure 9 [.sl true [D s2 a2 b2 c2]] = some (.int .i64 0)) ∧
    (O.pure 14 [D s1 a1 b1 c1] = some (.tup [.int .i64 (a1 + b1), .int .i64 (a1 + c1)]) ∧ O.pure 14 [D s2 a2 b2 c2] = some (.tup [.int .i64 (a2 + b2), .int .i64 (a2 + c2)])))
    (hl : IntKind.i64.wrap ((a1 + b1) - (a2 + c2)) = l) (hm : IntKind.i64.wrap ((a1 + c1) - (a2 + b2)) = m) :
    Runs Pr pol O 7 [D s1 a1 b1 c1, D s2 a2 b2 c2] (.tup [.int .i64 (fitK l m), .int .i64 l, .int .i64 m, .int .i64 0]) := by
  obtain ⟨⟨h1, h2⟩, h3, h4⟩ := h
  subst hl hm
  generalize hL : IntKind.i64.wrap ((a1 + b1) - (a2 + c2)) = l
  generalize hM : IntKind.i64.wrap ((a1 + c1) - (a2 + b2)) = m
  unfold fitK
  by_cases g1 : 0 ≤ l
  · rw [if_pos g1]
    subst hL hM
    exact Runs.of_X (n := 50) (fl := flg [(4, 2, .call), (8, 1, .call), (9, 1, .call), (12, 1, .bit)]) (tr := [.val (.int .i64 0), .val (.int .i64 0), .val (.tup [.int .i64 (a1 + b1), .int .i64 (a1 + c1)]), .val (.tup [.int .i64 (a2 + b2), .int .i64 (a2 + c2)]), .bit true])
      (ob := decide (0 ≤ IntKind.i64.wrap ((a1 + b1) - (a2 + c2))) = true ∧ O.pure 14 [D s2 a2 b2 c2] = some (.tup [.int .i64 (a2 + b2), .int .i64 (a2 + c2)]) ∧ O.pure 14 [D s1 a1 b1 c1] = some (.tup [.int .i64 (a1 + b1), .int .i64 (a1 + c1)]) ∧
        O.pure 9 [.sl true [D s2 a2 b2 c2]] = some (.int .i64 0) ∧ O.pure 9 [.sl true [D s1 a1 b1 c1]] = some (.int .i64 0) ∧ True) (by kernel_rfl) ⟨by simp [g1], h4, h3, h2, h1, trivial⟩
  · rw [if_neg g1]
    by_cases g2 : m ≤ 0
    · rw [if_pos g2]
      subst hL hM
      exact Runs.of_X (n := 50) (fl := flg [(4, 2, .call), (8, 1, .call), (9, 1, .call), (12, 1, .bit), (14, 1, .bit)]) (tr := [.val (.int .i64 0), .val (.int .i64 0), .val (.tup [.int .i64 (a1 + b1), .int .i64 (a1 + c1)]), .val (.tup [.int .i64 (a2 + b2), .int .i64 (a2 + c2)]), .bit false, .bit true])
        (ob := decide (IntKind.i64.wrap ((a1 + c1) - (a2 + b2)) ≤ 0) = true ∧ decide (0 ≤ IntKind.i64.wrap ((a1 + b1) - (a2 + c2))) = false ∧ O.pure 14 [D s2 a2 b2 c2] = some (.tup [.int .i64 (a2 + b2), .int .i64 (a2 + c2)]) ∧ O.pure 14 [D s1 a1 b1 c1] = some (.tup [.int .i64 (a1 + b1), .int .i64 (a1 + c1)]) ∧
          O.pure 9 [.sl true [D s2 a2 b2 c2]] = some (.int .i64 0) ∧ O.pure 9 [.sl true [D s1 a1 b1 c1]] = some (.int .i64 0) ∧ True) (by kernel_rfl) ⟨by simp [g2], by simp [g1], h4, h3, h2, h1, trivial⟩
    · rw [if_neg g2]
      subst hL hM
      exact Runs.of_X (n := 50) (fl := flg [(4, 2, .call), (8, 1, .call), (9, 1, .call), (12, 1, .bit), (14, 1, .bit)]) (tr := [.val (.int .i64 0), .val (.int .i64 0), .val (.tup [.int .i64 (a1 + b1), .int .i64 (a1 + c1)]), .val (.tup [.int .i64 (a2 + b2), .int .i64 (a2 + c2)]), .bit false, .bit false])
        (ob := decide (IntKind.i64.wrap ((a1 + c1) - (a2 + b2)) ≤ 0) = false ∧ decide (0 ≤ IntKind.i64.wrap ((a1 + b1) - (a2 + c2))) = false ∧ O.pure 14 [D s2 a2 b2 c2] = some (.tup [.int .i64 (a2 + b2), .int .i64 (a2 + c2)]) ∧ O.pure 14 [D s1 a1 b1 c1] = some (.tup [.int .i64 (a1 + b1), .int .i64 (a1 + c1)]) ∧
          O.pure 9 [.sl true [D s2 a2 b2 c2]] = some (.int .i64 0) ∧ O.pure 9 [.sl true [D s1 a1 b1 c1]] = some (.int .i64 0) ∧ True) (by kernel_rfl) ⟨by simp [g2], by simp [g1], h4, h3, h2, h1, trivial⟩
end Go.Proofs.YtigfgicjjhepoaaGreatDoor.VA

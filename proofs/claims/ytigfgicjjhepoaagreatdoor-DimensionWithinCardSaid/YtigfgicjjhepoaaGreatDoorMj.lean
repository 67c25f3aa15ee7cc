/- The law of values within. -/
import Derived.Test.YtigfgicjjhepoaaGreatDoorMi
set_option linter.unusedVariables false
set_option linter.unusedSimpArgs false
namespace Go.Proofs.YtigfgicjjhepoaaGreatDoor.VA.Z
open Go Go.Proofs
set_option maxRecDepth 100000
theorem persTake {l : List PV} (n : Nat) (h : PV.persL l = true) : PV.persL (l.take n) = true := persL_of fun v hv => persL_mem h v (List.mem_of_mem_take hv)
where
  persL_mem : ∀ {l : List PV}, PV.persL l = true → ∀ v ∈ l, v.pers = true
    | x :: l, h, v, hv => by
      simp only [PV.persL, Bool.and_eq_true] at h
      rcases List.mem_cons.1 hv with rfl | hv
      · exact h.1
      · exact persL_mem h.2 v hv
theorem persDrop {l : List PV} (n : Nat) (h : PV.persL l = true) : PV.persL (l.drop n) = true := persL_of fun v hv => persTake.persL_mem h v (List.mem_of_mem_drop hv)
theorem persApp {a b : List PV} (h : PV.persL a = true) (g : PV.persL b = true) : PV.persL (a ++ b) = true := persL_of fun v hv => by
  rcases List.mem_append.1 hv with hv | hv
  · exact persTake.persL_mem h v hv
  · exact persTake.persL_mem g v hv
theorem szL_of {n : Nat} : ∀ {l : List PV}, (∀ v ∈ l, v.cells.length = n) → allSz n l = true
  | [], _ => rfl
  | x :: l, h => by simp only [allSz, h x (by simp), szL_of (l := l) (fun v hv => h v (by simp [hv])), Bool.and_true, beq_self_eq_true]
/-- A fraction with a denominator and a bound of the numerator. -/
def Fr (D N : Nat) (q : Rat) : Prop := 0 < D ∧ ∃ n : Int, q = (n : Rat) / (D : Rat) ∧ n.natAbs ≤ N
theorem frac_eq (n : Int) (d : Nat) : (n : Rat) / (d : Rat) = Rat.divInt n d := by rw [Rat.divInt_eq_div]; rfl
theorem Fr.den {D N : Nat} {q : Rat} (h : Fr D N q) : q.den ≤ D := by
  obtain ⟨hD, n, rfl, _⟩ := h
  rw [frac_eq, Rat.den_divInt, if_neg (by omega), Int.natAbs_natCast]
  exact Nat.div_le_self _ _
theorem Fr.num {D N : Nat} {q : Rat} (h : Fr D N q) : q.num.natAbs ≤ N := by
  obtain ⟨hD, n, rfl, hn⟩ := h
  rw [frac_eq, Rat.num_divInt, Int.sign_eq_one_of_pos (by omega), Int.one_mul]
  exact Nat.le_trans (Int.natAbs_ediv_le_natAbs ..) hn
theorem Fr.rb {D N : Nat} {q : Rat} (h : Fr D N q) (hD : D < BB ^ 40) (hN : N < BB ^ 40) : RB 40 q := ⟨Nat.lt_of_le_of_lt h.num hN, Nat.lt_of_le_of_lt h.den hD⟩
theorem Fr.int {n : Int} {N : Nat} (h : n.natAbs ≤ N) : Fr 1 N (n : Rat) := ⟨by decide, n, by grind, h⟩
theorem Fr.up {D N k : Nat} {q : Rat} (h : Fr D N q) (hk : 0 < k) : Fr (D * k) (N * k) q := by
  obtain ⟨hD, n, rfl, hn⟩ := h
  refine ⟨Nat.mul_pos hD hk, n * (k : Int), ?_, ?_⟩
  · have hd : (D : Rat) ≠ 0 := by rw [ne_eq, Rat.natCast_eq_zero_iff]; omega
    have hk : (k : Rat) ≠ 0 := by rw [ne_eq, Rat.natCast_eq_zero_iff]; omega
    rw [Rat.intCast_mul, Rat.natCast_mul, Rat.intCast_natCast]
    grind
  · rw [Int.natAbs_mul, Int.natAbs_natCast]; exact Nat.mul_le_mul_right _ hn
theorem Fr.mono {D N M : Nat} {q : Rat} (h : Fr D N q) (hm : N ≤ M) : Fr D M q := by
  obtain ⟨hD, n, e, hn⟩ := h
  exact ⟨hD, n, e, Nat.le_trans hn hm⟩
theorem Fr.add {D N M : Nat} {a b : Rat} (h : Fr D N a) (g : Fr D M b) : Fr D (N + M) (a + b) := by
  obtain ⟨hD, n, rfl, hn⟩ := h
  obtain ⟨_, m, rfl, hm⟩ := g
  refine ⟨hD, n + m, ?_, by omega⟩
  have hd : (D : Rat) ≠ 0 := by rw [ne_eq, Rat.natCast_eq_zero_iff]; omega
  rw [Rat.intCast_add]
  grind
theorem Fr.mul {D E N M : Nat} {a b : Rat} (h : Fr D N a) (g : Fr E M b) : Fr (D * E) (N * M) (a * b) := by
  obtain ⟨hD, n, rfl, hn⟩ := h
  obtain ⟨hE, m, rfl, hm⟩ := g
  refine ⟨Nat.mul_pos hD hE, n * m, ?_, by rw [Int.natAbs_mul]; exact Nat.mul_le_mul hn hm⟩
  have hd : (D : Rat) ≠ 0 := by rw [ne_eq, Rat.natCast_eq_zero_iff]; omega
  have he : (E : Rat) ≠ 0 := by rw [ne_eq, Rat.natCast_eq_zero_iff]; omega
  rw [Rat.intCast_mul, Rat.natCast_mul]
  grind

def i16V (n : Int) : PV := .int .i16 n
noncomputable abbrev lwB : Code := bodyOf Tryz.f5
noncomputable abbrev lwC : Ctx := ⟨Pr, pol, [], 5⟩
theorem lw_in_t {f g b : Bool} {c : List C3} {ns : List Int}  {O : Orc}  (h1 : O.pure 6 [] = some (PV.bool true)) (h2 : (6 : Int) < (↑(List.map arrV c).length : Int)) : ∃ st', Ev (lwC) O (pc 0 7 lwB) (startSt [.agg [.sl f (c.map arrV)], .sl g (ns.map i16V), .bool b] Heap.empty) (Ex.ret) st' ∧ HasY (lwC).path ⟨[(6, PV.bool true), (1, PV.sl g (List.map i16V ns)), (2, PV.bool b)], [], [(3, 1), (12, 0), (62, 0), (95, 0)]⟩ st' :=
  HasY.walk (c := lwC) (O := O) (fl := hts [(0, 0, Hint.new []), (1, 0, Hint.flat [] (PV.bool true)), (1, 4, Hint.ld 0 true), (1, 8, Hint.bit true), (2, 0, Hint.flat [] (PV.bool true))]) (n := 60) (y := startY [.agg [.sl f (c.map arrV)], .sl g (ns.map i16V), .bool b] [3, 12, 62, 95]) (ns := [1, 2, 7, 8, 9, 10, 6]) (ks := []) (ds := [3, 12, 62, 95]) (start_has (p := [])) (by kernel_rfl) (fun R => by kernel_rfl) (AllP.cons h1 (AllP.cons (decide_eq_true h2) (AllP.cons h1 AllP.nil)))
theorem lw_in_ft {f g b : Bool} {c : List C3} {ns : List Int}  {O : Orc}  (h1 : O.pure 6 [] = some (PV.bool true)) (h2 : ¬ ((6 : Int) < (↑(List.map arrV c).length : Int))) (h3 : (8 : Int) < (↑(List.map i16V ns).length : Int)) : ∃ st', Ev (lwC) O (pc 0 7 lwB) (startSt [.agg [.sl f (c.map arrV)], .sl g (ns.map i16V), .bool b] Heap.empty) (Ex.ret) st' ∧ HasY (lwC).path ⟨[(6, PV.bool true), (1, PV.sl g (List.map i16V ns)), (2, PV.bool b)], [], [(3, 1), (12, 0), (62, 0), (95, 0)]⟩ st' :=
  HasY.walk (c := lwC) (O := O) (fl := hts [(0, 0, Hint.new []), (1, 0, Hint.flat [] (PV.bool true)), (1, 4, Hint.ld 0 true), (1, 8, Hint.bit false), (1, 12, Hint.bit true), (2, 0, Hint.flat [] (PV.bool true))]) (n := 60) (y := startY [.agg [.sl f (c.map arrV)], .sl g (ns.map i16V), .bool b] [3, 12, 62, 95]) (ns := [1, 2, 7, 8, 9, 10, 6]) (ks := []) (ds := [3, 12, 62, 95]) (start_has (p := [])) (by kernel_rfl) (fun R => by kernel_rfl) (AllP.cons h1 (AllP.cons (decide_eq_false h2) (AllP.cons (decide_eq_true h3) (AllP.cons h1 AllP.nil))))
theorem lw_in_ff {f g b : Bool} {c : List C3} {ns : List Int} {b0 : Bool} {l1 : List Dm} {O : Orc}  (h1 : O.pure 6 [] = some (PV.bool true)) (h2 : ¬ ((6 : Int) < (↑(List.map arrV c).length : Int))) (h3 : ¬ ((8 : Int) < (↑(List.map i16V ns).length : Int))) (h5 : O.pure 17 [PV.agg [PV.sl f (List.map arrV c)]] = some (PV.sl b0 (List.map dmV l1))) : ∃ st', Ev (lwC) O (pc 0 7 lwB) (startSt [.agg [.sl f (c.map arrV)], .sl g (ns.map i16V), .bool b] Heap.empty) (Ex.normal) st' ∧ HasY (lwC).path ⟨[(10, PV.int IntKind.i64 (0 : Int)), (9, PV.bool true), (8, PV.sl true []), (7, PV.sl b0 (List.map dmV l1)), (6, PV.bool false), (1, PV.sl g (List.map i16V ns)), (2, PV.bool b)], [], [(3, 1), (12, 0), (62, 0), (95, 0)]⟩ st' :=
  HasY.walk (c := lwC) (O := O) (fl := hts [(0, 0, Hint.new []), (1, 0, Hint.flat [] (PV.bool true)), (1, 4, Hint.ld 0 true), (1, 8, Hint.bit false), (1, 12, Hint.bit false), (3, 0, Hint.ld 0 true), (3, 1, Hint.call [Rd.p] [Keep.apart] (PV.sl b0 (List.map dmV l1)))]) (n := 60) (y := startY [.agg [.sl f (c.map arrV)], .sl g (ns.map i16V), .bool b] [3, 12, 62, 95]) (ns := [1, 2, 7, 8, 9, 10, 6]) (ks := []) (ds := [3, 12, 62, 95]) (start_has (p := [])) (by kernel_rfl) (fun R => by kernel_rfl) (AllP.cons h1 (AllP.cons (decide_eq_false h2) (AllP.cons (decide_eq_false h3) (AllP.cons (show (PV.agg [PV.sl f (List.map arrV c)]).pers = true from by simp only [PV.pers, PV.persL, Bool.and_self, Bool.and_true, Bool.true_and, persD, persIV, persRV, persDV, persDm, persM persDm, persM persRV, persM persC3, persTake, persDrop, persApp]) (AllP.cons h5 AllP.nil)))))
theorem lw_r0_tttt {f g w b : Bool} {ds : List Dm} {ns : List Int} {n0 : Int} {x1 : Dm} {x2 : RV} {x3 : RV} {x4 : RV} {n5 : Int} {O : Orc} {st : St} (hs : HasY (lwC).path (⟨[(10, .int .i64 0), (7, .sl f (ds.map dmV)), (1, .sl g (ns.map i16V)), (8, .sl true []), (9, .bool w), (2, .bool b)], [], [(12, 0), (62, 0), (95, 0)]⟩ : YS) st) (h1 : (0 : Int) < (↑(List.map dmV ds).length : Int)) (h2 : (0 : Int) < (↑(List.map i16V ns).length : Int)) (h4 : (List.map i16V ns)[0]? = some (PV.int IntKind.i16 n0)) (h5 : IntKind.i64.wrap n0 = n0) (h7 : (List.map dmV ds)[0]? = some (dmV x1)) (h8 : IntKind.i64.wrap ((2 : Int) * x1.2) = (2 : Int) * x1.2) (h9 : IntKind.i64.wrap ((2 : Int) * x1.2 + n0) = (2 : Int) * x1.2 + n0) (h11 : O.pure 16 [PV.int IntKind.i64 ((2 : Int) * x1.2 + n0)] = some (rpv x2)) (h13 : O.pure 16 [PV.int IntKind.i64 (2 : Int)] = some (rpv x3)) (h16 : O.pure 18 [rpv x2, rpv x3] = some (PV.tup [rpv x4, PV.int IntKind.i64 n5])) (h20 : w = true) (h23 : IntKind.i64.wrap ((2 : Int) * x1.3) = (2 : Int) * x1.3) (h24 : (2 : Int) * x1.3 ≤ n0) (h27 : IntKind.i64.wrap ((2 : Int) * x1.4) = (2 : Int) * x1.4) : ∃ st', Ev (lwC) O (inner (inner (it 7 lwB))) st (Ex.normal) st' ∧ HasY (lwC).path ⟨[(10, PV.int IntKind.i64 (1 : Int)), (9, PV.bool (decide (n0 ≤ (2 : Int) * x1.4))), (8, PV.ms ([], 62, 0) 4 0 1), (7, PV.sl f (List.map dmV ds)), (1, PV.sl g (List.map i16V ns)), (2, PV.bool b)], [(([], 62, 0), Blk.row 4 [rpv x4] false)], [(62, 1), (12, 1), (95, 0)]⟩ st' :=
  HasY.walk (c := lwC) (O := O) (fl := hts [(7, 3, Hint.bit true), (10, 3, Hint.bit true), (11, 2, Hint.elem (PV.int IntKind.i16 n0)), (11, 4, Hint.fit), (12, 2, Hint.elem (dmV x1)), (12, 5, Hint.fit), (12, 7, Hint.fit), (12, 8, Hint.call [Rd.p] [] (rpv x2)), (12, 9, Hint.call [Rd.p] [] (rpv x3)), (12, 10, Hint.call [Rd.p, Rd.p] [] (PV.tup [rpv x4, PV.int IntKind.i64 n5])), (12, 14, Hint.new []), (12, 15, Hint.st 0 true [Keep.drop]), (13, 1, Hint.ld 0 true), (13, 3, Hint.app Src.sl Onto.nil [Keep.apart]), (14, 1, Hint.bit true), (14, 4, Hint.elem (dmV x1)), (14, 7, Hint.fit), (14, 11, Hint.bit true), (14, 15, Hint.elem (dmV x1)), (14, 18, Hint.fit)]) (n := 60) (y := (⟨[(10, .int .i64 0), (7, .sl f (ds.map dmV)), (1, .sl g (ns.map i16V)), (8, .sl true []), (9, .bool w), (2, .bool b)], [], [(12, 0), (62, 0), (95, 0)]⟩ : YS)) (ns := [10, 7, 1, 8, 9, 2]) (ks := [0]) (ds := [62, 12, 95]) hs (by kernel_rfl) (fun R => by kernel_rfl) (AllP.cons (decide_eq_true h1) (AllP.cons (decide_eq_true h2) (AllP.cons (show (0 : Int) ≤ (0 : Int) from by decide) (AllP.cons h4 (AllP.cons h5 (AllP.cons (show (0 : Int) ≤ (0 : Int) from by decide) (AllP.cons h7 (AllP.cons h8 (AllP.cons h9 (AllP.cons (show true = true from by kernel_rfl) (AllP.cons h11 (AllP.cons (show true = true from by kernel_rfl) (AllP.cons h13 (AllP.cons (persRV x2) (AllP.cons (persRV x3) (AllP.cons h16 (AllP.cons (show true = true from by kernel_rfl) (AllP.cons (show true = true from by kernel_rfl) (AllP.cons (show 64 ≤ 140737488355328 from by decide) (AllP.cons h20 (AllP.cons (show (0 : Int) ≤ (0 : Int) from by decide) (AllP.cons h7 (AllP.cons h23 (AllP.cons (decide_eq_true h24) (AllP.cons (show (0 : Int) ≤ (0 : Int) from by decide) (AllP.cons h7 (AllP.cons h27 AllP.nil)))))))))))))))))))))))))))
theorem lw_r0_tttf {f g w b : Bool} {ds : List Dm} {ns : List Int} {n0 : Int} {x1 : Dm} {x2 : RV} {x3 : RV} {x4 : RV} {n5 : Int} {O : Orc} {st : St} (hs : HasY (lwC).path (⟨[(10, .int .i64 0), (7, .sl f (ds.map dmV)), (1, .sl g (ns.map i16V)), (8, .sl true []), (9, .bool w), (2, .bool b)], [], [(12, 0), (62, 0), (95, 0)]⟩ : YS) st) (h1 : (0 : Int) < (↑(List.map dmV ds).length : Int)) (h2 : (0 : Int) < (↑(List.map i16V ns).length : Int)) (h4 : (List.map i16V ns)[0]? = some (PV.int IntKind.i16 n0)) (h5 : IntKind.i64.wrap n0 = n0) (h7 : (List.map dmV ds)[0]? = some (dmV x1)) (h8 : IntKind.i64.wrap ((2 : Int) * x1.2) = (2 : Int) * x1.2) (h9 : IntKind.i64.wrap ((2 : Int) * x1.2 + n0) = (2 : Int) * x1.2 + n0) (h11 : O.pure 16 [PV.int IntKind.i64 ((2 : Int) * x1.2 + n0)] = some (rpv x2)) (h13 : O.pure 16 [PV.int IntKind.i64 (2 : Int)] = some (rpv x3)) (h16 : O.pure 18 [rpv x2, rpv x3] = some (PV.tup [rpv x4, PV.int IntKind.i64 n5])) (h20 : w = true) (h23 : IntKind.i64.wrap ((2 : Int) * x1.3) = (2 : Int) * x1.3) (h24 : ¬ ((2 : Int) * x1.3 ≤ n0)) : ∃ st', Ev (lwC) O (inner (inner (it 7 lwB))) st (Ex.normal) st' ∧ HasY (lwC).path ⟨[(10, PV.int IntKind.i64 (1 : Int)), (9, PV.bool false), (8, PV.ms ([], 62, 0) 4 0 1), (7, PV.sl f (List.map dmV ds)), (1, PV.sl g (List.map i16V ns)), (2, PV.bool b)], [(([], 62, 0), Blk.row 4 [rpv x4] false)], [(62, 1), (12, 1), (95, 0)]⟩ st' :=
  HasY.walk (c := lwC) (O := O) (fl := hts [(7, 3, Hint.bit true), (10, 3, Hint.bit true), (11, 2, Hint.elem (PV.int IntKind.i16 n0)), (11, 4, Hint.fit), (12, 2, Hint.elem (dmV x1)), (12, 5, Hint.fit), (12, 7, Hint.fit), (12, 8, Hint.call [Rd.p] [] (rpv x2)), (12, 9, Hint.call [Rd.p] [] (rpv x3)), (12, 10, Hint.call [Rd.p, Rd.p] [] (PV.tup [rpv x4, PV.int IntKind.i64 n5])), (12, 14, Hint.new []), (12, 15, Hint.st 0 true [Keep.drop]), (13, 1, Hint.ld 0 true), (13, 3, Hint.app Src.sl Onto.nil [Keep.apart]), (14, 1, Hint.bit true), (14, 4, Hint.elem (dmV x1)), (14, 7, Hint.fit), (14, 11, Hint.bit false)]) (n := 60) (y := (⟨[(10, .int .i64 0), (7, .sl f (ds.map dmV)), (1, .sl g (ns.map i16V)), (8, .sl true []), (9, .bool w), (2, .bool b)], [], [(12, 0), (62, 0), (95, 0)]⟩ : YS)) (ns := [10, 7, 1, 8, 9, 2]) (ks := [0]) (ds := [62, 12, 95]) hs (by kernel_rfl) (fun R => by kernel_rfl) (AllP.cons (decide_eq_true h1) (AllP.cons (decide_eq_true h2) (AllP.cons (show (0 : Int) ≤ (0 : Int) from by decide) (AllP.cons h4 (AllP.cons h5 (AllP.cons (show (0 : Int) ≤ (0 : Int) from by decide) (AllP.cons h7 (AllP.cons h8 (AllP.cons h9 (AllP.cons (show true = true from by kernel_rfl) (AllP.cons h11 (AllP.cons (show true = true from by kernel_rfl) (AllP.cons h13 (AllP.cons (persRV x2) (AllP.cons (persRV x3) (AllP.cons h16 (AllP.cons (show true = true from by kernel_rfl) (AllP.cons (show true = true from by kernel_rfl) (AllP.cons (show 64 ≤ 140737488355328 from by decide) (AllP.cons h20 (AllP.cons (show (0 : Int) ≤ (0 : Int) from by decide) (AllP.cons h7 (AllP.cons h23 (AllP.cons (decide_eq_false h24) AllP.nil))))))))))))))))))))))))
theorem lw_r0_ttf {f g w b : Bool} {ds : List Dm} {ns : List Int} {n0 : Int} {x1 : Dm} {x2 : RV} {x3 : RV} {x4 : RV} {n5 : Int} {O : Orc} {st : St} (hs : HasY (lwC).path (⟨[(10, .int .i64 0), (7, .sl f (ds.map dmV)), (1, .sl g (ns.map i16V)), (8, .sl true []), (9, .bool w), (2, .bool b)], [], [(12, 0), (62, 0), (95, 0)]⟩ : YS) st) (h1 : (0 : Int) < (↑(List.map dmV ds).length : Int)) (h2 : (0 : Int) < (↑(List.map i16V ns).length : Int)) (h4 : (List.map i16V ns)[0]? = some (PV.int IntKind.i16 n0)) (h5 : IntKind.i64.wrap n0 = n0) (h7 : (List.map dmV ds)[0]? = some (dmV x1)) (h8 : IntKind.i64.wrap ((2 : Int) * x1.2) = (2 : Int) * x1.2) (h9 : IntKind.i64.wrap ((2 : Int) * x1.2 + n0) = (2 : Int) * x1.2 + n0) (h11 : O.pure 16 [PV.int IntKind.i64 ((2 : Int) * x1.2 + n0)] = some (rpv x2)) (h13 : O.pure 16 [PV.int IntKind.i64 (2 : Int)] = some (rpv x3)) (h16 : O.pure 18 [rpv x2, rpv x3] = some (PV.tup [rpv x4, PV.int IntKind.i64 n5])) (h20 : w = false) : ∃ st', Ev (lwC) O (inner (inner (it 7 lwB))) st (Ex.normal) st' ∧ HasY (lwC).path ⟨[(10, PV.int IntKind.i64 (1 : Int)), (9, PV.bool false), (8, PV.ms ([], 62, 0) 4 0 1), (7, PV.sl f (List.map dmV ds)), (1, PV.sl g (List.map i16V ns)), (2, PV.bool b)], [(([], 62, 0), Blk.row 4 [rpv x4] false)], [(62, 1), (12, 1), (95, 0)]⟩ st' :=
  HasY.walk (c := lwC) (O := O) (fl := hts [(7, 3, Hint.bit true), (10, 3, Hint.bit true), (11, 2, Hint.elem (PV.int IntKind.i16 n0)), (11, 4, Hint.fit), (12, 2, Hint.elem (dmV x1)), (12, 5, Hint.fit), (12, 7, Hint.fit), (12, 8, Hint.call [Rd.p] [] (rpv x2)), (12, 9, Hint.call [Rd.p] [] (rpv x3)), (12, 10, Hint.call [Rd.p, Rd.p] [] (PV.tup [rpv x4, PV.int IntKind.i64 n5])), (12, 14, Hint.new []), (12, 15, Hint.st 0 true [Keep.drop]), (13, 1, Hint.ld 0 true), (13, 3, Hint.app Src.sl Onto.nil [Keep.apart]), (14, 1, Hint.bit false)]) (n := 60) (y := (⟨[(10, .int .i64 0), (7, .sl f (ds.map dmV)), (1, .sl g (ns.map i16V)), (8, .sl true []), (9, .bool w), (2, .bool b)], [], [(12, 0), (62, 0), (95, 0)]⟩ : YS)) (ns := [10, 7, 1, 8, 9, 2]) (ks := [0]) (ds := [62, 12, 95]) hs (by kernel_rfl) (fun R => by kernel_rfl) (AllP.cons (decide_eq_true h1) (AllP.cons (decide_eq_true h2) (AllP.cons (show (0 : Int) ≤ (0 : Int) from by decide) (AllP.cons h4 (AllP.cons h5 (AllP.cons (show (0 : Int) ≤ (0 : Int) from by decide) (AllP.cons h7 (AllP.cons h8 (AllP.cons h9 (AllP.cons (show true = true from by kernel_rfl) (AllP.cons h11 (AllP.cons (show true = true from by kernel_rfl) (AllP.cons h13 (AllP.cons (persRV x2) (AllP.cons (persRV x3) (AllP.cons h16 (AllP.cons (show true = true from by kernel_rfl) (AllP.cons (show true = true from by kernel_rfl) (AllP.cons (show 64 ≤ 140737488355328 from by decide) (AllP.cons h20 AllP.nil))))))))))))))))))))
theorem lw_r0_tftt {f g w b : Bool} {ds : List Dm} {ns : List Int} {x0 : Dm} {x1 : RV} {x2 : RV} {x3 : RV} {n4 : Int} {O : Orc} {st : St} (hs : HasY (lwC).path (⟨[(10, .int .i64 0), (7, .sl f (ds.map dmV)), (1, .sl g (ns.map i16V)), (8, .sl true []), (9, .bool w), (2, .bool b)], [], [(12, 0), (62, 0), (95, 0)]⟩ : YS) st) (h1 : (0 : Int) < (↑(List.map dmV ds).length : Int)) (h2 : ¬ ((0 : Int) < (↑(List.map i16V ns).length : Int))) (h4 : (List.map dmV ds)[0]? = some (dmV x0)) (h5 : IntKind.i64.wrap ((2 : Int) * x0.2) = (2 : Int) * x0.2) (h6 : IntKind.i64.wrap ((2 : Int) * x0.2 + (0 : Int)) = (2 : Int) * x0.2 + (0 : Int)) (h8 : O.pure 16 [PV.int IntKind.i64 ((2 : Int) * x0.2 + (0 : Int))] = some (rpv x1)) (h10 : O.pure 16 [PV.int IntKind.i64 (2 : Int)] = some (rpv x2)) (h13 : O.pure 18 [rpv x1, rpv x2] = some (PV.tup [rpv x3, PV.int IntKind.i64 n4])) (h17 : w = true) (h20 : IntKind.i64.wrap ((2 : Int) * x0.3) = (2 : Int) * x0.3) (h21 : (2 : Int) * x0.3 ≤ (0 : Int)) (h24 : IntKind.i64.wrap ((2 : Int) * x0.4) = (2 : Int) * x0.4) : ∃ st', Ev (lwC) O (inner (inner (it 7 lwB))) st (Ex.normal) st' ∧ HasY (lwC).path ⟨[(10, PV.int IntKind.i64 (1 : Int)), (9, PV.bool (decide ((0 : Int) ≤ (2 : Int) * x0.4))), (8, PV.ms ([], 62, 0) 4 0 1), (7, PV.sl f (List.map dmV ds)), (1, PV.sl g (List.map i16V ns)), (2, PV.bool b)], [(([], 62, 0), Blk.row 4 [rpv x3] false)], [(62, 1), (12, 1), (95, 0)]⟩ st' :=
  HasY.walk (c := lwC) (O := O) (fl := hts [(7, 3, Hint.bit true), (10, 3, Hint.bit false), (12, 2, Hint.elem (dmV x0)), (12, 5, Hint.fit), (12, 7, Hint.fit), (12, 8, Hint.call [Rd.p] [] (rpv x1)), (12, 9, Hint.call [Rd.p] [] (rpv x2)), (12, 10, Hint.call [Rd.p, Rd.p] [] (PV.tup [rpv x3, PV.int IntKind.i64 n4])), (12, 14, Hint.new []), (12, 15, Hint.st 0 true [Keep.drop]), (13, 1, Hint.ld 0 true), (13, 3, Hint.app Src.sl Onto.nil [Keep.apart]), (14, 1, Hint.bit true), (14, 4, Hint.elem (dmV x0)), (14, 7, Hint.fit), (14, 11, Hint.bit true), (14, 15, Hint.elem (dmV x0)), (14, 18, Hint.fit)]) (n := 60) (y := (⟨[(10, .int .i64 0), (7, .sl f (ds.map dmV)), (1, .sl g (ns.map i16V)), (8, .sl true []), (9, .bool w), (2, .bool b)], [], [(12, 0), (62, 0), (95, 0)]⟩ : YS)) (ns := [10, 7, 1, 8, 9, 2]) (ks := [0]) (ds := [62, 12, 95]) hs (by kernel_rfl) (fun R => by kernel_rfl) (AllP.cons (decide_eq_true h1) (AllP.cons (decide_eq_false h2) (AllP.cons (show (0 : Int) ≤ (0 : Int) from by decide) (AllP.cons h4 (AllP.cons h5 (AllP.cons h6 (AllP.cons (show true = true from by kernel_rfl) (AllP.cons h8 (AllP.cons (show true = true from by kernel_rfl) (AllP.cons h10 (AllP.cons (persRV x1) (AllP.cons (persRV x2) (AllP.cons h13 (AllP.cons (show true = true from by kernel_rfl) (AllP.cons (show true = true from by kernel_rfl) (AllP.cons (show 64 ≤ 140737488355328 from by decide) (AllP.cons h17 (AllP.cons (show (0 : Int) ≤ (0 : Int) from by decide) (AllP.cons h4 (AllP.cons h20 (AllP.cons (decide_eq_true h21) (AllP.cons (show (0 : Int) ≤ (0 : Int) from by decide) (AllP.cons h4 (AllP.cons h24 AllP.nil))))))))))))))))))))))))
theorem lw_r0_tftf {f g w b : Bool} {ds : List Dm} {ns : List Int} {x0 : Dm} {x1 : RV} {x2 : RV} {x3 : RV} {n4 : Int} {O : Orc} {st : St} (hs : HasY (lwC).path (⟨[(10, .int .i64 0), (7, .sl f (ds.map dmV)), (1, .sl g (ns.map i16V)), (8, .sl true []), (9, .bool w), (2, .bool b)], [], [(12, 0), (62, 0), (95, 0)]⟩ : YS) st) (h1 : (0 : Int) < (↑(List.map dmV ds).length : Int)) (h2 : ¬ ((0 : Int) < (↑(List.map i16V ns).length : Int))) (h4 : (List.map dmV ds)[0]? = some (dmV x0)) (h5 : IntKind.i64.wrap ((2 : Int) * x0.2) = (2 : Int) * x0.2) (h6 : IntKind.i64.wrap ((2 : Int) * x0.2 + (0 : Int)) = (2 : Int) * x0.2 + (0 : Int)) (h8 : O.pure 16 [PV.int IntKind.i64 ((2 : Int) * x0.2 + (0 : Int))] = some (rpv x1)) (h10 : O.pure 16 [PV.int IntKind.i64 (2 : Int)] = some (rpv x2)) (h13 : O.pure 18 [rpv x1, rpv x2] = some (PV.tup [rpv x3, PV.int IntKind.i64 n4])) (h17 : w = true) (h20 : IntKind.i64.wrap ((2 : Int) * x0.3) = (2 : Int) * x0.3) (h21 : ¬ ((2 : Int) * x0.3 ≤ (0 : Int))) : ∃ st', Ev (lwC) O (inner (inner (it 7 lwB))) st (Ex.normal) st' ∧ HasY (lwC).path ⟨[(10, PV.int IntKind.i64 (1 : Int)), (9, PV.bool false), (8, PV.ms ([], 62, 0) 4 0 1), (7, PV.sl f (List.map dmV ds)), (1, PV.sl g (List.map i16V ns)), (2, PV.bool b)], [(([], 62, 0), Blk.row 4 [rpv x3] false)], [(62, 1), (12, 1), (95, 0)]⟩ st' :=
  HasY.walk (c := lwC) (O := O) (fl := hts [(7, 3, Hint.bit true), (10, 3, Hint.bit false), (12, 2, Hint.elem (dmV x0)), (12, 5, Hint.fit), (12, 7, Hint.fit), (12, 8, Hint.call [Rd.p] [] (rpv x1)), (12, 9, Hint.call [Rd.p] [] (rpv x2)), (12, 10, Hint.call [Rd.p, Rd.p] [] (PV.tup [rpv x3, PV.int IntKind.i64 n4])), (12, 14, Hint.new []), (12, 15, Hint.st 0 true [Keep.drop]), (13, 1, Hint.ld 0 true), (13, 3, Hint.app Src.sl Onto.nil [Keep.apart]), (14, 1, Hint.bit true), (14, 4, Hint.elem (dmV x0)), (14, 7, Hint.fit), (14, 11, Hint.bit false)]) (n := 60) (y := (⟨[(10, .int .i64 0), (7, .sl f (ds.map dmV)), (1, .sl g (ns.map i16V)), (8, .sl true []), (9, .bool w), (2, .bool b)], [], [(12, 0), (62, 0), (95, 0)]⟩ : YS)) (ns := [10, 7, 1, 8, 9, 2]) (ks := [0]) (ds := [62, 12, 95]) hs (by kernel_rfl) (fun R => by kernel_rfl) (AllP.cons (decide_eq_true h1) (AllP.cons (decide_eq_false h2) (AllP.cons (show (0 : Int) ≤ (0 : Int) from by decide) (AllP.cons h4 (AllP.cons h5 (AllP.cons h6 (AllP.cons (show true = true from by kernel_rfl) (AllP.cons h8 (AllP.cons (show true = true from by kernel_rfl) (AllP.cons h10 (AllP.cons (persRV x1) (AllP.cons (persRV x2) (AllP.cons h13 (AllP.cons (show true = true from by kernel_rfl) (AllP.cons (show true = true from by kernel_rfl) (AllP.cons (show 64 ≤ 140737488355328 from by decide) (AllP.cons h17 (AllP.cons (show (0 : Int) ≤ (0 : Int) from by decide) (AllP.cons h4 (AllP.cons h20 (AllP.cons (decide_eq_false h21) AllP.nil)))))))))))))))))))))
theorem lw_r0_tff {f g w b : Bool} {ds : List Dm} {ns : List Int} {x0 : Dm} {x1 : RV} {x2 : RV} {x3 : RV} {n4 : Int} {O : Orc} {st : St} (hs : HasY (lwC).path (⟨[(10, .int .i64 0), (7, .sl f (ds.map dmV)), (1, .sl g (ns.map i16V)), (8, .sl true []), (9, .bool w), (2, .bool b)], [], [(12, 0), (62, 0), (95, 0)]⟩ : YS) st) (h1 : (0 : Int) < (↑(List.map dmV ds).length : Int)) (h2 : ¬ ((0 : Int) < (↑(List.map i16V ns).length : Int))) (h4 : (List.map dmV ds)[0]? = some (dmV x0)) (h5 : IntKind.i64.wrap ((2 : Int) * x0.2) = (2 : Int) * x0.2) (h6 : IntKind.i64.wrap ((2 : Int) * x0.2 + (0 : Int)) = (2 : Int) * x0.2 + (0 : Int)) (h8 : O.pure 16 [PV.int IntKind.i64 ((2 : Int) * x0.2 + (0 : Int))] = some (rpv x1)) (h10 : O.pure 16 [PV.int IntKind.i64 (2 : Int)] = some (rpv x2)) (h13 : O.pure 18 [rpv x1, rpv x2] = some (PV.tup [rpv x3, PV.int IntKind.i64 n4])) (h17 : w = false) : ∃ st', Ev (lwC) O (inner (inner (it 7 lwB))) st (Ex.normal) st' ∧ HasY (lwC).path ⟨[(10, PV.int IntKind.i64 (1 : Int)), (9, PV.bool false), (8, PV.ms ([], 62, 0) 4 0 1), (7, PV.sl f (List.map dmV ds)), (1, PV.sl g (List.map i16V ns)), (2, PV.bool b)], [(([], 62, 0), Blk.row 4 [rpv x3] false)], [(62, 1), (12, 1), (95, 0)]⟩ st' :=
  HasY.walk (c := lwC) (O := O) (fl := hts [(7, 3, Hint.bit true), (10, 3, Hint.bit false), (12, 2, Hint.elem (dmV x0)), (12, 5, Hint.fit), (12, 7, Hint.fit), (12, 8, Hint.call [Rd.p] [] (rpv x1)), (12, 9, Hint.call [Rd.p] [] (rpv x2)), (12, 10, Hint.call [Rd.p, Rd.p] [] (PV.tup [rpv x3, PV.int IntKind.i64 n4])), (12, 14, Hint.new []), (12, 15, Hint.st 0 true [Keep.drop]), (13, 1, Hint.ld 0 true), (13, 3, Hint.app Src.sl Onto.nil [Keep.apart]), (14, 1, Hint.bit false)]) (n := 60) (y := (⟨[(10, .int .i64 0), (7, .sl f (ds.map dmV)), (1, .sl g (ns.map i16V)), (8, .sl true []), (9, .bool w), (2, .bool b)], [], [(12, 0), (62, 0), (95, 0)]⟩ : YS)) (ns := [10, 7, 1, 8, 9, 2]) (ks := [0]) (ds := [62, 12, 95]) hs (by kernel_rfl) (fun R => by kernel_rfl) (AllP.cons (decide_eq_true h1) (AllP.cons (decide_eq_false h2) (AllP.cons (show (0 : Int) ≤ (0 : Int) from by decide) (AllP.cons h4 (AllP.cons h5 (AllP.cons h6 (AllP.cons (show true = true from by kernel_rfl) (AllP.cons h8 (AllP.cons (show true = true from by kernel_rfl) (AllP.cons h10 (AllP.cons (persRV x1) (AllP.cons (persRV x2) (AllP.cons h13 (AllP.cons (show true = true from by kernel_rfl) (AllP.cons (show true = true from by kernel_rfl) (AllP.cons (show 64 ≤ 140737488355328 from by decide) (AllP.cons h17 AllP.nil)))))))))))))))))
theorem lw_r0_f {f g w b : Bool} {ds : List Dm} {ns : List Int}  {O : Orc} {st : St} (hs : HasY (lwC).path (⟨[(10, .int .i64 0), (7, .sl f (ds.map dmV)), (1, .sl g (ns.map i16V)), (8, .sl true []), (9, .bool w), (2, .bool b)], [], [(12, 0), (62, 0), (95, 0)]⟩ : YS) st) (h1 : ¬ ((0 : Int) < (↑(List.map dmV ds).length : Int))) : ∃ st', Ev (lwC) O (inner (inner (it 7 lwB))) st (Ex.exit 0) st' ∧ HasY (lwC).path ⟨[(10, PV.int IntKind.i64 (0 : Int)), (7, PV.sl f (List.map dmV ds)), (1, PV.sl g (List.map i16V ns)), (8, PV.sl true []), (9, PV.bool w), (2, PV.bool b)], [], [(12, 0), (62, 0), (95, 0)]⟩ st' :=
  HasY.walk (c := lwC) (O := O) (fl := hts [(7, 3, Hint.bit false)]) (n := 60) (y := (⟨[(10, .int .i64 0), (7, .sl f (ds.map dmV)), (1, .sl g (ns.map i16V)), (8, .sl true []), (9, .bool w), (2, .bool b)], [], [(12, 0), (62, 0), (95, 0)]⟩ : YS)) (ns := [10, 7, 1, 8, 9, 2]) (ks := []) (ds := [12, 62, 95]) hs (by kernel_rfl) (fun R => by kernel_rfl) (AllP.cons (decide_eq_false h1) AllP.nil)
theorem lw_r_tttt {f g w b : Bool} {ds : List Dm} {ns : List Int} {k : Nat} {xs : List RV} {n0 : Int} {x1 : Dm} {x2 : RV} {x3 : RV} {x4 : RV} {n5 : Int} {O : Orc} {st : St} (hs : HasY (lwC).path (⟨[(10, .int .i64 ((k + 1 : Nat) : Int)), (7, .sl f (ds.map dmV)), (1, .sl g (ns.map i16V)), (8, .ms ([], 62, k) 4 0 (k + 1)), (9, .bool w), (2, .bool b)], [(([], 62, k), .row 4 (xs.map rpv) false)], [(12, k + 1), (62, k + 1), (95, 0)]⟩ : YS) st) (h1 : (↑(k + 1) : Int) < (↑(List.map dmV ds).length : Int)) (h2 : (↑(k + 1) : Int) < (↑(List.map i16V ns).length : Int)) (h3 : (0 : Int) ≤ (↑(k + 1) : Int)) (h4 : (List.map i16V ns)[k + 1]? = some (PV.int IntKind.i16 n0)) (h5 : IntKind.i64.wrap n0 = n0) (h7 : (List.map dmV ds)[k + 1]? = some (dmV x1)) (h8 : IntKind.i64.wrap ((2 : Int) * x1.2) = (2 : Int) * x1.2) (h9 : IntKind.i64.wrap ((2 : Int) * x1.2 + n0) = (2 : Int) * x1.2 + n0) (h11 : O.pure 16 [PV.int IntKind.i64 ((2 : Int) * x1.2 + n0)] = some (rpv x2)) (h13 : O.pure 16 [PV.int IntKind.i64 (2 : Int)] = some (rpv x3)) (h16 : O.pure 18 [rpv x2, rpv x3] = some (PV.tup [rpv x4, PV.int IntKind.i64 n5])) (h22 : k + 1 = (List.map rpv xs).length) (h23 : (k + 1 + 1) * 64 ≤ 140737488355328) (h24 : w = true) (h27 : IntKind.i64.wrap ((2 : Int) * x1.3) = (2 : Int) * x1.3) (h28 : (2 : Int) * x1.3 ≤ n0) (h31 : IntKind.i64.wrap ((2 : Int) * x1.4) = (2 : Int) * x1.4) (h32 : IntKind.i64.wrap ((↑(k + 1) : Int) + (1 : Int)) = (↑(k + 1) : Int) + (1 : Int)) : ∃ st', Ev (lwC) O (inner (inner (it 7 lwB))) st (Ex.normal) st' ∧ HasY (lwC).path ⟨[(10, PV.int IntKind.i64 ((↑(k + 1) : Int) + (1 : Int))), (9, PV.bool (decide (n0 ≤ (2 : Int) * x1.4))), (8, PV.ms ([], 62, k + 1) 4 0 (k + 1 + 1)), (7, PV.sl f (List.map dmV ds)), (1, PV.sl g (List.map i16V ns)), (2, PV.bool b)], [(([], 62, k + 1), Blk.row 4 (List.map rpv xs ++ [rpv x4]) false)], [(62, k + 1 + 1), (12, k + 1 + 1), (95, 0)]⟩ st' :=
  HasY.walk (c := lwC) (O := O) (fl := hts [(7, 3, Hint.bit true), (10, 3, Hint.bit true), (11, 2, Hint.elem (PV.int IntKind.i16 n0)), (11, 4, Hint.fit), (12, 2, Hint.elem (dmV x1)), (12, 5, Hint.fit), (12, 7, Hint.fit), (12, 8, Hint.call [Rd.p] [Keep.apart] (rpv x2)), (12, 9, Hint.call [Rd.p] [Keep.apart] (rpv x3)), (12, 10, Hint.call [Rd.p, Rd.p] [Keep.apart] (PV.tup [rpv x4, PV.int IntKind.i64 n5])), (12, 14, Hint.new [Keep.apart]), (12, 15, Hint.st 0 false [Keep.drop, Keep.apart]), (13, 1, Hint.ld 0 false), (13, 3, Hint.app Src.sl (Onto.own 1 false) [Keep.apart, Keep.drop]), (14, 1, Hint.bit true), (14, 4, Hint.elem (dmV x1)), (14, 7, Hint.fit), (14, 11, Hint.bit true), (14, 15, Hint.elem (dmV x1)), (14, 18, Hint.fit), (8, 1, Hint.fit)]) (n := 60) (y := (⟨[(10, .int .i64 ((k + 1 : Nat) : Int)), (7, .sl f (ds.map dmV)), (1, .sl g (ns.map i16V)), (8, .ms ([], 62, k) 4 0 (k + 1)), (9, .bool w), (2, .bool b)], [(([], 62, k), .row 4 (xs.map rpv) false)], [(12, k + 1), (62, k + 1), (95, 0)]⟩ : YS)) (ns := [10, 7, 1, 8, 9, 2]) (ks := [0]) (ds := [62, 12, 95]) hs (by kernel_rfl) (fun R => by kernel_rfl) (AllP.cons (decide_eq_true h1) (AllP.cons (decide_eq_true h2) (AllP.cons h3 (AllP.cons h4 (AllP.cons h5 (AllP.cons h3 (AllP.cons h7 (AllP.cons h8 (AllP.cons h9 (AllP.cons (show true = true from by kernel_rfl) (AllP.cons h11 (AllP.cons (show true = true from by kernel_rfl) (AllP.cons h13 (AllP.cons (persRV x2) (AllP.cons (persRV x3) (AllP.cons h16 (AllP.cons (show ((([], 12, k + 1) : Key)) = ([], 12, k + 1) from by kernel_rfl) (AllP.cons (show ((([], 12, k + 1) : Key)) = ([], 12, k + 1) from by kernel_rfl) (AllP.cons (show true = true from by kernel_rfl) (AllP.cons (show ((([], 62, k) : Key)) = ([], 62, k) from by kernel_rfl) (AllP.cons (show true = true from by kernel_rfl) (AllP.cons h22 (AllP.cons h23 (AllP.cons h24 (AllP.cons h3 (AllP.cons h7 (AllP.cons h27 (AllP.cons (decide_eq_true h28) (AllP.cons h3 (AllP.cons h7 (AllP.cons h31 (AllP.cons h32 AllP.nil))))))))))))))))))))))))))))))))
theorem lw_r_tttf {f g w b : Bool} {ds : List Dm} {ns : List Int} {k : Nat} {xs : List RV} {n0 : Int} {x1 : Dm} {x2 : RV} {x3 : RV} {x4 : RV} {n5 : Int} {O : Orc} {st : St} (hs : HasY (lwC).path (⟨[(10, .int .i64 ((k + 1 : Nat) : Int)), (7, .sl f (ds.map dmV)), (1, .sl g (ns.map i16V)), (8, .ms ([], 62, k) 4 0 (k + 1)), (9, .bool w), (2, .bool b)], [(([], 62, k), .row 4 (xs.map rpv) false)], [(12, k + 1), (62, k + 1), (95, 0)]⟩ : YS) st) (h1 : (↑(k + 1) : Int) < (↑(List.map dmV ds).length : Int)) (h2 : (↑(k + 1) : Int) < (↑(List.map i16V ns).length : Int)) (h3 : (0 : Int) ≤ (↑(k + 1) : Int)) (h4 : (List.map i16V ns)[k + 1]? = some (PV.int IntKind.i16 n0)) (h5 : IntKind.i64.wrap n0 = n0) (h7 : (List.map dmV ds)[k + 1]? = some (dmV x1)) (h8 : IntKind.i64.wrap ((2 : Int) * x1.2) = (2 : Int) * x1.2) (h9 : IntKind.i64.wrap ((2 : Int) * x1.2 + n0) = (2 : Int) * x1.2 + n0) (h11 : O.pure 16 [PV.int IntKind.i64 ((2 : Int) * x1.2 + n0)] = some (rpv x2)) (h13 : O.pure 16 [PV.int IntKind.i64 (2 : Int)] = some (rpv x3)) (h16 : O.pure 18 [rpv x2, rpv x3] = some (PV.tup [rpv x4, PV.int IntKind.i64 n5])) (h22 : k + 1 = (List.map rpv xs).length) (h23 : (k + 1 + 1) * 64 ≤ 140737488355328) (h24 : w = true) (h27 : IntKind.i64.wrap ((2 : Int) * x1.3) = (2 : Int) * x1.3) (h28 : ¬ ((2 : Int) * x1.3 ≤ n0)) (h29 : IntKind.i64.wrap ((↑(k + 1) : Int) + (1 : Int)) = (↑(k + 1) : Int) + (1 : Int)) : ∃ st', Ev (lwC) O (inner (inner (it 7 lwB))) st (Ex.normal) st' ∧ HasY (lwC).path ⟨[(10, PV.int IntKind.i64 ((↑(k + 1) : Int) + (1 : Int))), (9, PV.bool false), (8, PV.ms ([], 62, k + 1) 4 0 (k + 1 + 1)), (7, PV.sl f (List.map dmV ds)), (1, PV.sl g (List.map i16V ns)), (2, PV.bool b)], [(([], 62, k + 1), Blk.row 4 (List.map rpv xs ++ [rpv x4]) false)], [(62, k + 1 + 1), (12, k + 1 + 1), (95, 0)]⟩ st' :=
  HasY.walk (c := lwC) (O := O) (fl := hts [(7, 3, Hint.bit true), (10, 3, Hint.bit true), (11, 2, Hint.elem (PV.int IntKind.i16 n0)), (11, 4, Hint.fit), (12, 2, Hint.elem (dmV x1)), (12, 5, Hint.fit), (12, 7, Hint.fit), (12, 8, Hint.call [Rd.p] [Keep.apart] (rpv x2)), (12, 9, Hint.call [Rd.p] [Keep.apart] (rpv x3)), (12, 10, Hint.call [Rd.p, Rd.p] [Keep.apart] (PV.tup [rpv x4, PV.int IntKind.i64 n5])), (12, 14, Hint.new [Keep.apart]), (12, 15, Hint.st 0 false [Keep.drop, Keep.apart]), (13, 1, Hint.ld 0 false), (13, 3, Hint.app Src.sl (Onto.own 1 false) [Keep.apart, Keep.drop]), (14, 1, Hint.bit true), (14, 4, Hint.elem (dmV x1)), (14, 7, Hint.fit), (14, 11, Hint.bit false), (8, 1, Hint.fit)]) (n := 60) (y := (⟨[(10, .int .i64 ((k + 1 : Nat) : Int)), (7, .sl f (ds.map dmV)), (1, .sl g (ns.map i16V)), (8, .ms ([], 62, k) 4 0 (k + 1)), (9, .bool w), (2, .bool b)], [(([], 62, k), .row 4 (xs.map rpv) false)], [(12, k + 1), (62, k + 1), (95, 0)]⟩ : YS)) (ns := [10, 7, 1, 8, 9, 2]) (ks := [0]) (ds := [62, 12, 95]) hs (by kernel_rfl) (fun R => by kernel_rfl) (AllP.cons (decide_eq_true h1) (AllP.cons (decide_eq_true h2) (AllP.cons h3 (AllP.cons h4 (AllP.cons h5 (AllP.cons h3 (AllP.cons h7 (AllP.cons h8 (AllP.cons h9 (AllP.cons (show true = true from by kernel_rfl) (AllP.cons h11 (AllP.cons (show true = true from by kernel_rfl) (AllP.cons h13 (AllP.cons (persRV x2) (AllP.cons (persRV x3) (AllP.cons h16 (AllP.cons (show ((([], 12, k + 1) : Key)) = ([], 12, k + 1) from by kernel_rfl) (AllP.cons (show ((([], 12, k + 1) : Key)) = ([], 12, k + 1) from by kernel_rfl) (AllP.cons (show true = true from by kernel_rfl) (AllP.cons (show ((([], 62, k) : Key)) = ([], 62, k) from by kernel_rfl) (AllP.cons (show true = true from by kernel_rfl) (AllP.cons h22 (AllP.cons h23 (AllP.cons h24 (AllP.cons h3 (AllP.cons h7 (AllP.cons h27 (AllP.cons (decide_eq_false h28) (AllP.cons h29 AllP.nil)))))))))))))))))))))))))))))
theorem lw_r_ttf {f g w b : Bool} {ds : List Dm} {ns : List Int} {k : Nat} {xs : List RV} {n0 : Int} {x1 : Dm} {x2 : RV} {x3 : RV} {x4 : RV} {n5 : Int} {O : Orc} {st : St} (hs : HasY (lwC).path (⟨[(10, .int .i64 ((k + 1 : Nat) : Int)), (7, .sl f (ds.map dmV)), (1, .sl g (ns.map i16V)), (8, .ms ([], 62, k) 4 0 (k + 1)), (9, .bool w), (2, .bool b)], [(([], 62, k), .row 4 (xs.map rpv) false)], [(12, k + 1), (62, k + 1), (95, 0)]⟩ : YS) st) (h1 : (↑(k + 1) : Int) < (↑(List.map dmV ds).length : Int)) (h2 : (↑(k + 1) : Int) < (↑(List.map i16V ns).length : Int)) (h3 : (0 : Int) ≤ (↑(k + 1) : Int)) (h4 : (List.map i16V ns)[k + 1]? = some (PV.int IntKind.i16 n0)) (h5 : IntKind.i64.wrap n0 = n0) (h7 : (List.map dmV ds)[k + 1]? = some (dmV x1)) (h8 : IntKind.i64.wrap ((2 : Int) * x1.2) = (2 : Int) * x1.2) (h9 : IntKind.i64.wrap ((2 : Int) * x1.2 + n0) = (2 : Int) * x1.2 + n0) (h11 : O.pure 16 [PV.int IntKind.i64 ((2 : Int) * x1.2 + n0)] = some (rpv x2)) (h13 : O.pure 16 [PV.int IntKind.i64 (2 : Int)] = some (rpv x3)) (h16 : O.pure 18 [rpv x2, rpv x3] = some (PV.tup [rpv x4, PV.int IntKind.i64 n5])) (h22 : k + 1 = (List.map rpv xs).length) (h23 : (k + 1 + 1) * 64 ≤ 140737488355328) (h24 : w = false) (h25 : IntKind.i64.wrap ((↑(k + 1) : Int) + (1 : Int)) = (↑(k + 1) : Int) + (1 : Int)) : ∃ st', Ev (lwC) O (inner (inner (it 7 lwB))) st (Ex.normal) st' ∧ HasY (lwC).path ⟨[(10, PV.int IntKind.i64 ((↑(k + 1) : Int) + (1 : Int))), (9, PV.bool false), (8, PV.ms ([], 62, k + 1) 4 0 (k + 1 + 1)), (7, PV.sl f (List.map dmV ds)), (1, PV.sl g (List.map i16V ns)), (2, PV.bool b)], [(([], 62, k + 1), Blk.row 4 (List.map rpv xs ++ [rpv x4]) false)], [(62, k + 1 + 1), (12, k + 1 + 1), (95, 0)]⟩ st' :=
  HasY.walk (c := lwC) (O := O) (fl := hts [(7, 3, Hint.bit true), (10, 3, Hint.bit true), (11, 2, Hint.elem (PV.int IntKind.i16 n0)), (11, 4, Hint.fit), (12, 2, Hint.elem (dmV x1)), (12, 5, Hint.fit), (12, 7, Hint.fit), (12, 8, Hint.call [Rd.p] [Keep.apart] (rpv x2)), (12, 9, Hint.call [Rd.p] [Keep.apart] (rpv x3)), (12, 10, Hint.call [Rd.p, Rd.p] [Keep.apart] (PV.tup [rpv x4, PV.int IntKind.i64 n5])), (12, 14, Hint.new [Keep.apart]), (12, 15, Hint.st 0 false [Keep.drop, Keep.apart]), (13, 1, Hint.ld 0 false), (13, 3, Hint.app Src.sl (Onto.own 1 false) [Keep.apart, Keep.drop]), (14, 1, Hint.bit false), (8, 1, Hint.fit)]) (n := 60) (y := (⟨[(10, .int .i64 ((k + 1 : Nat) : Int)), (7, .sl f (ds.map dmV)), (1, .sl g (ns.map i16V)), (8, .ms ([], 62, k) 4 0 (k + 1)), (9, .bool w), (2, .bool b)], [(([], 62, k), .row 4 (xs.map rpv) false)], [(12, k + 1), (62, k + 1), (95, 0)]⟩ : YS)) (ns := [10, 7, 1, 8, 9, 2]) (ks := [0]) (ds := [62, 12, 95]) hs (by kernel_rfl) (fun R => by kernel_rfl) (AllP.cons (decide_eq_true h1) (AllP.cons (decide_eq_true h2) (AllP.cons h3 (AllP.cons h4 (AllP.cons h5 (AllP.cons h3 (AllP.cons h7 (AllP.cons h8 (AllP.cons h9 (AllP.cons (show true = true from by kernel_rfl) (AllP.cons h11 (AllP.cons (show true = true from by kernel_rfl) (AllP.cons h13 (AllP.cons (persRV x2) (AllP.cons (persRV x3) (AllP.cons h16 (AllP.cons (show ((([], 12, k + 1) : Key)) = ([], 12, k + 1) from by kernel_rfl) (AllP.cons (show ((([], 12, k + 1) : Key)) = ([], 12, k + 1) from by kernel_rfl) (AllP.cons (show true = true from by kernel_rfl) (AllP.cons (show ((([], 62, k) : Key)) = ([], 62, k) from by kernel_rfl) (AllP.cons (show true = true from by kernel_rfl) (AllP.cons h22 (AllP.cons h23 (AllP.cons h24 (AllP.cons h25 AllP.nil)))))))))))))))))))))))))
theorem lw_r_tftt {f g w b : Bool} {ds : List Dm} {ns : List Int} {k : Nat} {xs : List RV} {x0 : Dm} {x1 : RV} {x2 : RV} {x3 : RV} {n4 : Int} {O : Orc} {st : St} (hs : HasY (lwC).path (⟨[(10, .int .i64 ((k + 1 : Nat) : Int)), (7, .sl f (ds.map dmV)), (1, .sl g (ns.map i16V)), (8, .ms ([], 62, k) 4 0 (k + 1)), (9, .bool w), (2, .bool b)], [(([], 62, k), .row 4 (xs.map rpv) false)], [(12, k + 1), (62, k + 1), (95, 0)]⟩ : YS) st) (h1 : (↑(k + 1) : Int) < (↑(List.map dmV ds).length : Int)) (h2 : ¬ ((↑(k + 1) : Int) < (↑(List.map i16V ns).length : Int))) (h3 : (0 : Int) ≤ (↑(k + 1) : Int)) (h4 : (List.map dmV ds)[k + 1]? = some (dmV x0)) (h5 : IntKind.i64.wrap ((2 : Int) * x0.2) = (2 : Int) * x0.2) (h6 : IntKind.i64.wrap ((2 : Int) * x0.2 + (0 : Int)) = (2 : Int) * x0.2 + (0 : Int)) (h8 : O.pure 16 [PV.int IntKind.i64 ((2 : Int) * x0.2 + (0 : Int))] = some (rpv x1)) (h10 : O.pure 16 [PV.int IntKind.i64 (2 : Int)] = some (rpv x2)) (h13 : O.pure 18 [rpv x1, rpv x2] = some (PV.tup [rpv x3, PV.int IntKind.i64 n4])) (h19 : k + 1 = (List.map rpv xs).length) (h20 : (k + 1 + 1) * 64 ≤ 140737488355328) (h21 : w = true) (h24 : IntKind.i64.wrap ((2 : Int) * x0.3) = (2 : Int) * x0.3) (h25 : (2 : Int) * x0.3 ≤ (0 : Int)) (h28 : IntKind.i64.wrap ((2 : Int) * x0.4) = (2 : Int) * x0.4) (h29 : IntKind.i64.wrap ((↑(k + 1) : Int) + (1 : Int)) = (↑(k + 1) : Int) + (1 : Int)) : ∃ st', Ev (lwC) O (inner (inner (it 7 lwB))) st (Ex.normal) st' ∧ HasY (lwC).path ⟨[(10, PV.int IntKind.i64 ((↑(k + 1) : Int) + (1 : Int))), (9, PV.bool (decide ((0 : Int) ≤ (2 : Int) * x0.4))), (8, PV.ms ([], 62, k + 1) 4 0 (k + 1 + 1)), (7, PV.sl f (List.map dmV ds)), (1, PV.sl g (List.map i16V ns)), (2, PV.bool b)], [(([], 62, k + 1), Blk.row 4 (List.map rpv xs ++ [rpv x3]) false)], [(62, k + 1 + 1), (12, k + 1 + 1), (95, 0)]⟩ st' :=
  HasY.walk (c := lwC) (O := O) (fl := hts [(7, 3, Hint.bit true), (10, 3, Hint.bit false), (12, 2, Hint.elem (dmV x0)), (12, 5, Hint.fit), (12, 7, Hint.fit), (12, 8, Hint.call [Rd.p] [Keep.apart] (rpv x1)), (12, 9, Hint.call [Rd.p] [Keep.apart] (rpv x2)), (12, 10, Hint.call [Rd.p, Rd.p] [Keep.apart] (PV.tup [rpv x3, PV.int IntKind.i64 n4])), (12, 14, Hint.new [Keep.apart]), (12, 15, Hint.st 0 false [Keep.drop, Keep.apart]), (13, 1, Hint.ld 0 false), (13, 3, Hint.app Src.sl (Onto.own 1 false) [Keep.apart, Keep.drop]), (14, 1, Hint.bit true), (14, 4, Hint.elem (dmV x0)), (14, 7, Hint.fit), (14, 11, Hint.bit true), (14, 15, Hint.elem (dmV x0)), (14, 18, Hint.fit), (8, 1, Hint.fit)]) (n := 60) (y := (⟨[(10, .int .i64 ((k + 1 : Nat) : Int)), (7, .sl f (ds.map dmV)), (1, .sl g (ns.map i16V)), (8, .ms ([], 62, k) 4 0 (k + 1)), (9, .bool w), (2, .bool b)], [(([], 62, k), .row 4 (xs.map rpv) false)], [(12, k + 1), (62, k + 1), (95, 0)]⟩ : YS)) (ns := [10, 7, 1, 8, 9, 2]) (ks := [0]) (ds := [62, 12, 95]) hs (by kernel_rfl) (fun R => by kernel_rfl) (AllP.cons (decide_eq_true h1) (AllP.cons (decide_eq_false h2) (AllP.cons h3 (AllP.cons h4 (AllP.cons h5 (AllP.cons h6 (AllP.cons (show true = true from by kernel_rfl) (AllP.cons h8 (AllP.cons (show true = true from by kernel_rfl) (AllP.cons h10 (AllP.cons (persRV x1) (AllP.cons (persRV x2) (AllP.cons h13 (AllP.cons (show ((([], 12, k + 1) : Key)) = ([], 12, k + 1) from by kernel_rfl) (AllP.cons (show ((([], 12, k + 1) : Key)) = ([], 12, k + 1) from by kernel_rfl) (AllP.cons (show true = true from by kernel_rfl) (AllP.cons (show ((([], 62, k) : Key)) = ([], 62, k) from by kernel_rfl) (AllP.cons (show true = true from by kernel_rfl) (AllP.cons h19 (AllP.cons h20 (AllP.cons h21 (AllP.cons h3 (AllP.cons h4 (AllP.cons h24 (AllP.cons (decide_eq_true h25) (AllP.cons h3 (AllP.cons h4 (AllP.cons h28 (AllP.cons h29 AllP.nil)))))))))))))))))))))))))))))
theorem lw_r_tftf {f g w b : Bool} {ds : List Dm} {ns : List Int} {k : Nat} {xs : List RV} {x0 : Dm} {x1 : RV} {x2 : RV} {x3 : RV} {n4 : Int} {O : Orc} {st : St} (hs : HasY (lwC).path (⟨[(10, .int .i64 ((k + 1 : Nat) : Int)), (7, .sl f (ds.map dmV)), (1, .sl g (ns.map i16V)), (8, .ms ([], 62, k) 4 0 (k + 1)), (9, .bool w), (2, .bool b)], [(([], 62, k), .row 4 (xs.map rpv) false)], [(12, k + 1), (62, k + 1), (95, 0)]⟩ : YS) st) (h1 : (↑(k + 1) : Int) < (↑(List.map dmV ds).length : Int)) (h2 : ¬ ((↑(k + 1) : Int) < (↑(List.map i16V ns).length : Int))) (h3 : (0 : Int) ≤ (↑(k + 1) : Int)) (h4 : (List.map dmV ds)[k + 1]? = some (dmV x0)) (h5 : IntKind.i64.wrap ((2 : Int) * x0.2) = (2 : Int) * x0.2) (h6 : IntKind.i64.wrap ((2 : Int) * x0.2 + (0 : Int)) = (2 : Int) * x0.2 + (0 : Int)) (h8 : O.pure 16 [PV.int IntKind.i64 ((2 : Int) * x0.2 + (0 : Int))] = some (rpv x1)) (h10 : O.pure 16 [PV.int IntKind.i64 (2 : Int)] = some (rpv x2)) (h13 : O.pure 18 [rpv x1, rpv x2] = some (PV.tup [rpv x3, PV.int IntKind.i64 n4])) (h19 : k + 1 = (List.map rpv xs).length) (h20 : (k + 1 + 1) * 64 ≤ 140737488355328) (h21 : w = true) (h24 : IntKind.i64.wrap ((2 : Int) * x0.3) = (2 : Int) * x0.3) (h25 : ¬ ((2 : Int) * x0.3 ≤ (0 : Int))) (h26 : IntKind.i64.wrap ((↑(k + 1) : Int) + (1 : Int)) = (↑(k + 1) : Int) + (1 : Int)) : ∃ st', Ev (lwC) O (inner (inner (it 7 lwB))) st (Ex.normal) st' ∧ HasY (lwC).path ⟨[(10, PV.int IntKind.i64 ((↑(k + 1) : Int) + (1 : Int))), (9, PV.bool false), (8, PV.ms ([], 62, k + 1) 4 0 (k + 1 + 1)), (7, PV.sl f (List.map dmV ds)), (1, PV.sl g (List.map i16V ns)), (2, PV.bool b)], [(([], 62, k + 1), Blk.row 4 (List.map rpv xs ++ [rpv x3]) false)], [(62, k + 1 + 1), (12, k + 1 + 1), (95, 0)]⟩ st' :=
  HasY.walk (c := lwC) (O := O) (fl := hts [(7, 3, Hint.bit true), (10, 3, Hint.bit false), (12, 2, Hint.elem (dmV x0)), (12, 5, Hint.fit), (12, 7, Hint.fit), (12, 8, Hint.call [Rd.p] [Keep.apart] (rpv x1)), (12, 9, Hint.call [Rd.p] [Keep.apart] (rpv x2)), (12, 10, Hint.call [Rd.p, Rd.p] [Keep.apart] (PV.tup [rpv x3, PV.int IntKind.i64 n4])), (12, 14, Hint.new [Keep.apart]), (12, 15, Hint.st 0 false [Keep.drop, Keep.apart]), (13, 1, Hint.ld 0 false), (13, 3, Hint.app Src.sl (Onto.own 1 false) [Keep.apart, Keep.drop]), (14, 1, Hint.bit true), (14, 4, Hint.elem (dmV x0)), (14, 7, Hint.fit), (14, 11, Hint.bit false), (8, 1, Hint.fit)]) (n := 60) (y := (⟨[(10, .int .i64 ((k + 1 : Nat) : Int)), (7, .sl f (ds.map dmV)), (1, .sl g (ns.map i16V)), (8, .ms ([], 62, k) 4 0 (k + 1)), (9, .bool w), (2, .bool b)], [(([], 62, k), .row 4 (xs.map rpv) false)], [(12, k + 1), (62, k + 1), (95, 0)]⟩ : YS)) (ns := [10, 7, 1, 8, 9, 2]) (ks := [0]) (ds := [62, 12, 95]) hs (by kernel_rfl) (fun R => by kernel_rfl) (AllP.cons (decide_eq_true h1) (AllP.cons (decide_eq_false h2) (AllP.cons h3 (AllP.cons h4 (AllP.cons h5 (AllP.cons h6 (AllP.cons (show true = true from by kernel_rfl) (AllP.cons h8 (AllP.cons (show true = true from by kernel_rfl) (AllP.cons h10 (AllP.cons (persRV x1) (AllP.cons (persRV x2) (AllP.cons h13 (AllP.cons (show ((([], 12, k + 1) : Key)) = ([], 12, k + 1) from by kernel_rfl) (AllP.cons (show ((([], 12, k + 1) : Key)) = ([], 12, k + 1) from by kernel_rfl) (AllP.cons (show true = true from by kernel_rfl) (AllP.cons (show ((([], 62, k) : Key)) = ([], 62, k) from by kernel_rfl) (AllP.cons (show true = true from by kernel_rfl) (AllP.cons h19 (AllP.cons h20 (AllP.cons h21 (AllP.cons h3 (AllP.cons h4 (AllP.cons h24 (AllP.cons (decide_eq_false h25) (AllP.cons h26 AllP.nil))))))))))))))))))))))))))
theorem lw_r_tff {f g w b : Bool} {ds : List Dm} {ns : List Int} {k : Nat} {xs : List RV} {x0 : Dm} {x1 : RV} {x2 : RV} {x3 : RV} {n4 : Int} {O : Orc} {st : St} (hs : HasY (lwC).path (⟨[(10, .int .i64 ((k + 1 : Nat) : Int)), (7, .sl f (ds.map dmV)), (1, .sl g (ns.map i16V)), (8, .ms ([], 62, k) 4 0 (k + 1)), (9, .bool w), (2, .bool b)], [(([], 62, k), .row 4 (xs.map rpv) false)], [(12, k + 1), (62, k + 1), (95, 0)]⟩ : YS) st) (h1 : (↑(k + 1) : Int) < (↑(List.map dmV ds).length : Int)) (h2 : ¬ ((↑(k + 1) : Int) < (↑(List.map i16V ns).length : Int))) (h3 : (0 : Int) ≤ (↑(k + 1) : Int)) (h4 : (List.map dmV ds)[k + 1]? = some (dmV x0)) (h5 : IntKind.i64.wrap ((2 : Int) * x0.2) = (2 : Int) * x0.2) (h6 : IntKind.i64.wrap ((2 : Int) * x0.2 + (0 : Int)) = (2 : Int) * x0.2 + (0 : Int)) (h8 : O.pure 16 [PV.int IntKind.i64 ((2 : Int) * x0.2 + (0 : Int))] = some (rpv x1)) (h10 : O.pure 16 [PV.int IntKind.i64 (2 : Int)] = some (rpv x2)) (h13 : O.pure 18 [rpv x1, rpv x2] = some (PV.tup [rpv x3, PV.int IntKind.i64 n4])) (h19 : k + 1 = (List.map rpv xs).length) (h20 : (k + 1 + 1) * 64 ≤ 140737488355328) (h21 : w = false) (h22 : IntKind.i64.wrap ((↑(k + 1) : Int) + (1 : Int)) = (↑(k + 1) : Int) + (1 : Int)) : ∃ st', Ev (lwC) O (inner (inner (it 7 lwB))) st (Ex.normal) st' ∧ HasY (lwC).path ⟨[(10, PV.int IntKind.i64 ((↑(k + 1) : Int) + (1 : Int))), (9, PV.bool false), (8, PV.ms ([], 62, k + 1) 4 0 (k + 1 + 1)), (7, PV.sl f (List.map dmV ds)), (1, PV.sl g (List.map i16V ns)), (2, PV.bool b)], [(([], 62, k + 1), Blk.row 4 (List.map rpv xs ++ [rpv x3]) false)], [(62, k + 1 + 1), (12, k + 1 + 1), (95, 0)]⟩ st' :=
  HasY.walk (c := lwC) (O := O) (fl := hts [(7, 3, Hint.bit true), (10, 3, Hint.bit false), (12, 2, Hint.elem (dmV x0)), (12, 5, Hint.fit), (12, 7, Hint.fit), (12, 8, Hint.call [Rd.p] [Keep.apart] (rpv x1)), (12, 9, Hint.call [Rd.p] [Keep.apart] (rpv x2)), (12, 10, Hint.call [Rd.p, Rd.p] [Keep.apart] (PV.tup [rpv x3, PV.int IntKind.i64 n4])), (12, 14, Hint.new [Keep.apart]), (12, 15, Hint.st 0 false [Keep.drop, Keep.apart]), (13, 1, Hint.ld 0 false), (13, 3, Hint.app Src.sl (Onto.own 1 false) [Keep.apart, Keep.drop]), (14, 1, Hint.bit false), (8, 1, Hint.fit)]) (n := 60) (y := (⟨[(10, .int .i64 ((k + 1 : Nat) : Int)), (7, .sl f (ds.map dmV)), (1, .sl g (ns.map i16V)), (8, .ms ([], 62, k) 4 0 (k + 1)), (9, .bool w), (2, .bool b)], [(([], 62, k), .row 4 (xs.map rpv) false)], [(12, k + 1), (62, k + 1), (95, 0)]⟩ : YS)) (ns := [10, 7, 1, 8, 9, 2]) (ks := [0]) (ds := [62, 12, 95]) hs (by kernel_rfl) (fun R => by kernel_rfl) (AllP.cons (decide_eq_true h1) (AllP.cons (decide_eq_false h2) (AllP.cons h3 (AllP.cons h4 (AllP.cons h5 (AllP.cons h6 (AllP.cons (show true = true from by kernel_rfl) (AllP.cons h8 (AllP.cons (show true = true from by kernel_rfl) (AllP.cons h10 (AllP.cons (persRV x1) (AllP.cons (persRV x2) (AllP.cons h13 (AllP.cons (show ((([], 12, k + 1) : Key)) = ([], 12, k + 1) from by kernel_rfl) (AllP.cons (show ((([], 12, k + 1) : Key)) = ([], 12, k + 1) from by kernel_rfl) (AllP.cons (show true = true from by kernel_rfl) (AllP.cons (show ((([], 62, k) : Key)) = ([], 62, k) from by kernel_rfl) (AllP.cons (show true = true from by kernel_rfl) (AllP.cons h19 (AllP.cons h20 (AllP.cons h21 (AllP.cons h22 AllP.nil))))))))))))))))))))))
theorem lw_r_f {f g w b : Bool} {ds : List Dm} {ns : List Int} {k : Nat} {xs : List RV}  {O : Orc} {st : St} (hs : HasY (lwC).path (⟨[(10, .int .i64 ((k + 1 : Nat) : Int)), (7, .sl f (ds.map dmV)), (1, .sl g (ns.map i16V)), (8, .ms ([], 62, k) 4 0 (k + 1)), (9, .bool w), (2, .bool b)], [(([], 62, k), .row 4 (xs.map rpv) false)], [(12, k + 1), (62, k + 1), (95, 0)]⟩ : YS) st) (h1 : ¬ ((↑(k + 1) : Int) < (↑(List.map dmV ds).length : Int))) : ∃ st', Ev (lwC) O (inner (inner (it 7 lwB))) st (Ex.exit 0) st' ∧ HasY (lwC).path ⟨[(10, PV.int IntKind.i64 (↑(k + 1) : Int)), (7, PV.sl f (List.map dmV ds)), (1, PV.sl g (List.map i16V ns)), (8, PV.ms ([], 62, k) 4 0 (k + 1)), (9, PV.bool w), (2, PV.bool b)], [(([], 62, k), Blk.row 4 (List.map rpv xs) false)], [(12, k + 1), (62, k + 1), (95, 0)]⟩ st' :=
  HasY.walk (c := lwC) (O := O) (fl := hts [(7, 3, Hint.bit false)]) (n := 60) (y := (⟨[(10, .int .i64 ((k + 1 : Nat) : Int)), (7, .sl f (ds.map dmV)), (1, .sl g (ns.map i16V)), (8, .ms ([], 62, k) 4 0 (k + 1)), (9, .bool w), (2, .bool b)], [(([], 62, k), .row 4 (xs.map rpv) false)], [(12, k + 1), (62, k + 1), (95, 0)]⟩ : YS)) (ns := [10, 7, 1, 8, 9, 2]) (ks := [0]) (ds := [12, 62, 95]) hs (by kernel_rfl) (fun R => by kernel_rfl) (AllP.cons (decide_eq_false h1) AllP.nil)
theorem lw_out_tt {f w b : Bool} {ds : List Dm} {k : Key} {m : Nat} {xs : List RV} {n : Nat}  {b1 : Bool} {O : Orc} {st : St} (hs : HasY (lwC).path (⟨[(7, .sl f (ds.map dmV)), (8, .ms k 4 0 m), (9, .bool w), (2, .bool b)], [(k, .row 4 (xs.map rpv) false)], [(95, 0)]⟩ : YS) st) (h1 : b = true) (h3 : (1 : Int) ≤ (↑m : Int)) (h4 : (↑m : Int) ≤ (↑m : Int)) (h8 : 1 + (m - 1) ≤ (List.map rpv xs).length) (h10 : allSz 4 (List.take (m - 1) (List.drop 1 (List.map rpv xs))) = true) (h11 : O.pure 19 [PV.sl f (List.map dmV ds), PV.sl false (List.take (m - 1) (List.drop 1 (List.map rpv xs)))] = some (PV.bool false)) (h16 : m = (List.map rpv xs).length) (h17 : (m + 1) * 64 ≤ 140737488355328) (h19 : m + 1 = (List.map rpv xs ++ [PV.agg [PV.bool false, PV.sl true [], PV.bool false, PV.sl true []]]).length) (h21 : allSz 4 (List.map rpv xs ++ [PV.agg [PV.bool false, PV.sl true [], PV.bool false, PV.sl true []]]) = true) (h22 : O.pure 19 [PV.sl f (List.map dmV ds), PV.sl false (List.map rpv xs ++ [PV.agg [PV.bool false, PV.sl true [], PV.bool false, PV.sl true []]])] = some (PV.bool b1)) : ∃ st', Ev (lwC) O (pcs 8 lwB) st (Ex.ret) st' ∧ HasY (lwC).path ⟨[(6, PV.bool !b1)], [], [(95, 1)]⟩ st' :=
  HasY.walk (c := lwC) (O := O) (fl := hts [(15, 0, Hint.bit true), (16, 2, Hint.cut (PV.ms k 4 1 (m - 1))), (16, 3, Hint.flat [Rd.p, Rd.part 0 false] (PV.bool false)), (16, 5, Hint.bit true), (16, 10, Hint.app Src.sl (Onto.own 0 false) [Keep.drop]), (16, 11, Hint.flat [Rd.p, Rd.row 0 true] (PV.bool b1))]) (n := 60) (y := (⟨[(7, .sl f (ds.map dmV)), (8, .ms k 4 0 m), (9, .bool w), (2, .bool b)], [(k, .row 4 (xs.map rpv) false)], [(95, 0)]⟩ : YS)) (ns := [6]) (ks := []) (ds := [95]) hs (by kernel_rfl) (fun R => by kernel_rfl) (AllP.cons h1 (AllP.cons (show (0 : Int) ≤ (1 : Int) from by decide) (AllP.cons h3 (AllP.cons h4 (AllP.cons (show PV.ms k 4 1 (m - 1) = PV.ms k 4 1 (m - 1) from by kernel_rfl) (AllP.cons (show (PV.sl f (List.map dmV ds)).pers = true from by simp only [PV.pers, PV.persL, Bool.and_self, Bool.and_true, Bool.true_and, persD, persIV, persRV, persDV, persDm, persM persDm, persM persRV, persM persC3, persTake, persDrop, persApp]) (AllP.cons (show ((k : Key)) = k from by kernel_rfl) (AllP.cons h8 (AllP.cons (show PV.persL (List.take (m - 1) (List.drop 1 (List.map rpv xs))) = true from by simp only [PV.pers, PV.persL, Bool.and_self, Bool.and_true, Bool.true_and, persD, persIV, persRV, persDV, persDm, persM persDm, persM persRV, persM persC3, persTake, persDrop, persApp]) (AllP.cons h10 (AllP.cons h11 (AllP.cons (show (!false) = true from by rfl) (AllP.cons (show true = true from by kernel_rfl) (AllP.cons (show ((k : Key)) = k from by kernel_rfl) (AllP.cons (show true = true from by kernel_rfl) (AllP.cons h16 (AllP.cons h17 (AllP.cons (show (PV.sl f (List.map dmV ds)).pers = true from by simp only [PV.pers, PV.persL, Bool.and_self, Bool.and_true, Bool.true_and, persD, persIV, persRV, persDV, persDm, persM persDm, persM persRV, persM persC3, persTake, persDrop, persApp]) (AllP.cons h19 (AllP.cons (show PV.persL (List.map rpv xs ++ [PV.agg [PV.bool false, PV.sl true [], PV.bool false, PV.sl true []]]) = true from by simp only [PV.pers, PV.persL, Bool.and_self, Bool.and_true, Bool.true_and, persD, persIV, persRV, persDV, persDm, persM persDm, persM persRV, persM persC3, persTake, persDrop, persApp]) (AllP.cons h21 (AllP.cons h22 AllP.nil))))))))))))))))))))))
theorem lw_out_tf {f w b : Bool} {ds : List Dm} {k : Key} {m : Nat} {xs : List RV} {n : Nat}  {O : Orc} {st : St} (hs : HasY (lwC).path (⟨[(7, .sl f (ds.map dmV)), (8, .ms k 4 0 m), (9, .bool w), (2, .bool b)], [(k, .row 4 (xs.map rpv) false)], [(95, 0)]⟩ : YS) st) (h1 : b = true) (h3 : (1 : Int) ≤ (↑m : Int)) (h4 : (↑m : Int) ≤ (↑m : Int)) (h8 : 1 + (m - 1) ≤ (List.map rpv xs).length) (h10 : allSz 4 (List.take (m - 1) (List.drop 1 (List.map rpv xs))) = true) (h11 : O.pure 19 [PV.sl f (List.map dmV ds), PV.sl false (List.take (m - 1) (List.drop 1 (List.map rpv xs)))] = some (PV.bool true))  : ∃ st', Ev (lwC) O (pcs 8 lwB) st (Ex.ret) st' ∧ HasY (lwC).path ⟨[(6, PV.bool false)], [], [(95, 0)]⟩ st' :=
  HasY.walk (c := lwC) (O := O) (fl := hts [(15, 0, Hint.bit true), (16, 2, Hint.cut (PV.ms k 4 1 (m - 1))), (16, 3, Hint.flat [Rd.p, Rd.part 0 false] (PV.bool true)), (16, 5, Hint.bit false)]) (n := 60) (y := (⟨[(7, .sl f (ds.map dmV)), (8, .ms k 4 0 m), (9, .bool w), (2, .bool b)], [(k, .row 4 (xs.map rpv) false)], [(95, 0)]⟩ : YS)) (ns := [6]) (ks := []) (ds := [95]) hs (by kernel_rfl) (fun R => by kernel_rfl) (AllP.cons h1 (AllP.cons (show (0 : Int) ≤ (1 : Int) from by decide) (AllP.cons h3 (AllP.cons h4 (AllP.cons (show PV.ms k 4 1 (m - 1) = PV.ms k 4 1 (m - 1) from by kernel_rfl) (AllP.cons (show (PV.sl f (List.map dmV ds)).pers = true from by simp only [PV.pers, PV.persL, Bool.and_self, Bool.and_true, Bool.true_and, persD, persIV, persRV, persDV, persDm, persM persDm, persM persRV, persM persC3, persTake, persDrop, persApp]) (AllP.cons (show ((k : Key)) = k from by kernel_rfl) (AllP.cons h8 (AllP.cons (show PV.persL (List.take (m - 1) (List.drop 1 (List.map rpv xs))) = true from by simp only [PV.pers, PV.persL, Bool.and_self, Bool.and_true, Bool.true_and, persD, persIV, persRV, persDV, persDm, persM persDm, persM persRV, persM persC3, persTake, persDrop, persApp]) (AllP.cons h10 (AllP.cons h11 (AllP.cons (show (!true) = false from by rfl) AllP.nil))))))))))))
theorem lw_out_f {f w b : Bool} {ds : List Dm} {k : Key} {m : Nat} {xs : List RV} {n : Nat} {b0 : Bool} {O : Orc} {st : St} (hs : HasY (lwC).path (⟨[(7, .sl f (ds.map dmV)), (8, .ms k 4 0 m), (9, .bool w), (2, .bool b)], [(k, .row 4 (xs.map rpv) false)], [(95, 0)]⟩ : YS) st) (h1 : b = false) (h4 : m = (List.map rpv xs).length) (h6 : allSz 4 (List.map rpv xs) = true) (h7 : O.pure 19 [PV.sl f (List.map dmV ds), PV.sl false (List.map rpv xs)] = some (PV.bool b0)) : ∃ st', Ev (lwC) O (pcs 8 lwB) st (Ex.ret) st' ∧ HasY (lwC).path ⟨[(6, PV.bool (b0 == w))], [], [(95, 0)]⟩ st' :=
  HasY.walk (c := lwC) (O := O) (fl := hts [(15, 0, Hint.bit false), (17, 2, Hint.flat [Rd.p, Rd.row 0 false] (PV.bool b0))]) (n := 60) (y := (⟨[(7, .sl f (ds.map dmV)), (8, .ms k 4 0 m), (9, .bool w), (2, .bool b)], [(k, .row 4 (xs.map rpv) false)], [(95, 0)]⟩ : YS)) (ns := [6]) (ks := []) (ds := [95]) hs (by kernel_rfl) (fun R => by kernel_rfl) (AllP.cons h1 (AllP.cons (show (PV.sl f (List.map dmV ds)).pers = true from by simp only [PV.pers, PV.persL, Bool.and_self, Bool.and_true, Bool.true_and, persD, persIV, persRV, persDV, persDm, persM persDm, persM persRV, persM persC3, persTake, persDrop, persApp]) (AllP.cons (show ((k : Key)) = k from by kernel_rfl) (AllP.cons h4 (AllP.cons (show PV.persL (List.map rpv xs) = true from by simp only [PV.pers, PV.persL, Bool.and_self, Bool.and_true, Bool.true_and, persD, persIV, persRV, persDV, persDm, persM persDm, persM persRV, persM persC3, persTake, persDrop, persApp]) (AllP.cons h6 (AllP.cons h7 AllP.nil)))))))
/-! ### the law -/
def nAt (ns : List Int) (k : Nat) : Int := (ns[k]?).getD 0
def qAt (ds : List Dm) (ns : List Int) (k : Nat) : Rat := match ds[k]? with
  | some d => ((2 * d.a + nAt ns k : Int) : Rat) / 2
  | none => 0
def qsN (ds : List Dm) (ns : List Int) (n : Nat) : List Rat := (List.range n).map (qAt ds ns)
def okAtW (ds : List Dm) (ns : List Int) (k : Nat) : Bool := match ds[k]? with
  | some d => decide (2 * d.b ≤ nAt ns k) && decide (nAt ns k ≤ 2 * d.c)
  | none => true
def wantN (ds : List Dm) (ns : List Int) (n : Nat) : Bool := (List.range n).all (okAtW ds ns)
theorem wantN_succ (ds : List Dm) (ns : List Int) (n : Nat) : wantN ds ns (n + 1) = (wantN ds ns n && okAtW ds ns n) := by
  simp [wantN, List.range_succ]
theorem qsN_succ (ds : List Dm) (ns : List Int) (n : Nat) : qsN ds ns (n + 1) = qsN ds ns n ++ [qAt ds ns n] := by
  simp [qsN, List.range_succ]
/-- Rationals and their values. -/
structure QVs (qs : List Rat) (xs : List RV) : Prop where
  len : xs.length = qs.length
  get : ∀ (k : Nat) (q : Rat) (x : RV), qs[k]? = some q → xs[k]? = some x → QV q x
theorem QVs.nil : QVs [] [] := ⟨rfl, fun k q x h => by simp at h⟩
theorem QVs.snoc {qs : List Rat} {xs : List RV} {q : Rat} {x : RV} (h : QVs qs xs) (g : QV q x) : QVs (qs ++ [q]) (xs ++ [x]) := by
  refine ⟨by simp [h.len], fun k q' x' h1 h2 => ?_⟩
  rcases Nat.lt_trichotomy k qs.length with e | e | e
  · rw [List.getElem?_append_left (by omega)] at h1
    rw [List.getElem?_append_left (by have := h.len; omega)] at h2
    exact h.get k _ _ h1 h2
  · subst e
    rw [List.getElem?_append_right (Nat.le_refl _), Nat.sub_self] at h1
    rw [List.getElem?_append_right (by have := h.len; omega), h.len, Nat.sub_self] at h2
    cases h1; cases h2; exact g
  · rw [List.getElem?_eq_none (by simp; omega)] at h1; cases h1
theorem QVs.are {qs : List Rat} {xs : List RV} (h : QVs qs xs) : AreR qs (xs.map rpv) := by
  refine ⟨by simp [h.len], fun k q v h1 h2 => ?_⟩
  rw [List.getElem?_map, Option.map_eq_some_iff] at h2
  obtain ⟨x, h2, rfl⟩ := h2
  exact (h.get k q x h1 h2).isR
structure Dm.Sm (d : Dm) : Prop where
  a : 0 ≤ d.a ∧ d.a < 256
  b : -64 < d.b ∧ d.b ≤ 0
  c : 0 ≤ d.c ∧ d.c < 64
theorem Dm.Sm.ok {d : Dm} (h : d.Sm) : d.Ok := by
  obtain ⟨h1, h2, h3⟩ := h
  exact ⟨by omega, by omega, by omega⟩
theorem dims_sm {c : List C3} (hc : ∀ t ∈ c, t.Ok) : ∀ d ∈ dims c, d.Sm := by
  intro d hd
  obtain ⟨i, _, rfl⟩ := List.mem_map.1 hd
  unfold dimAt
  split
  · rename_i t ht
    have h := hc t (List.mem_of_getElem? ht)
    have h1 := tmod64 h.y
    have h2 := tmod64 h.z
    refine ⟨h.x, ?_, h2⟩
    show -64 < 0 - t.y.tmod 64 ∧ 0 - t.y.tmod 64 ≤ 0
    omega
  · exact ⟨by simp only [dimZ]; omega, by simp only [dimZ]; omega, by simp only [dimZ]; omega⟩
theorem half_rb {n : Int} (h : n.natAbs < 2 ^ 40) : RB 40 ((n : Rat) / 2) :=
  Fr.rb (D := 2) (N := 2 ^ 40) ⟨by decide, n, rfl, by omega⟩ (by decide) (by decide)
theorem half_value {n : Int} (h : n.natAbs < 2 ^ 40) : ∃ x y z, QV ((n : Rat) / 2) z ∧ Kn 16 [.int .i64 n] (rpv x) ∧ Kn 16 [.int .i64 2] (rpv y) ∧ Kn 18 [rpv x, rpv y] (.tup [rpv z, .int .i64 0]) := by
  obtain ⟨x, hx, kx⟩ := kn_rfrom (n := n) (by omega)
  obtain ⟨y, hy, ky⟩ := kn_rfrom (n := 2) (by decide)
  obtain ⟨z, hz, kz⟩ := kn_rdiv hx hy (rb_int (by omega)) (rb_int (by decide)) (by decide) (by show 1 * 2 < BB; decide)
  exact ⟨x, y, z, hz, kx, ky, kz⟩
def lwY (f g b : Bool) (ds : List Dm) (ns : List Int) (w : Bool) (xs : List RV) (k : Nat) : YS :=
  match k with
  | 0 => ⟨[(10, .int .i64 ((0 : Nat) : Int)), (7, .sl f (ds.map dmV)), (1, .sl g (ns.map i16V)), (8, .sl true []), (9, .bool w), (2, .bool b)], [], [(12, 0), (62, 0), (95, 0)]⟩
  | k + 1 => ⟨[(10, .int .i64 ((k + 1 : Nat) : Int)), (7, .sl f (ds.map dmV)), (1, .sl g (ns.map i16V)), (8, .ms ([], 62, k) 4 0 (k + 1)), (9, .bool w), (2, .bool b)], [(([], 62, k), .row 4 (xs.map rpv) false)], [(12, k + 1), (62, k + 1), (95, 0)]⟩
theorem lw_fin {f g b w w' : Bool} {ds : List Dm} {ns : List Int} {xs : List RV} {x : RV} {k : Nat} {st : St} (hw : w = w')
    (h : HasY [] ⟨[(10, .int .i64 ((k : Int) + 1)), (9, .bool w), (8, .ms ([], 62, k) 4 0 (k + 1)), (7, .sl f (ds.map dmV)), (1, .sl g (ns.map i16V)), (2, .bool b)], [(([], 62, k), .row 4 ((xs ++ [x]).map rpv) false)], [(62, k + 1), (12, k + 1), (95, 0)]⟩ st) : HasY [] (lwY f g b ds ns w' (xs ++ [x]) (k + 1)) st := by
  subst hw
  refine h.to (fun R => ⟨rfl, rfl, rfl, rfl, rfl, rfl, trivial⟩) (fun x hx => hx) (fun x hx => ?_)
  simp only [lwY, List.mem_cons, List.not_mem_nil, or_false] at hx ⊢
  rcases hx with h | h | h <;> simp [h]
theorem and_cases {w p q : Bool} {v : Bool} (h1 : w = false → v = false) (h2 : w = true → p = false → v = false) (h3 : w = true → p = true → v = q) : v = (w && (p && q)) := by
  cases w
  · simpa using h1 rfl
  · cases p
    · simpa using h2 rfl rfl
    · simpa using h3 rfl rfl
theorem lw_step {f g b : Bool} {ds : List Dm} {ns : List Int} (hd : ∀ d ∈ ds, d.Sm) (hn : ∀ n ∈ ns, -32768 ≤ n ∧ n < 32768) (hl : ds.length ≤ 4) {k : Nat} (hk : k < ds.length) {xs : List RV} (hx : QVs (qsN ds ns k) xs) {st : St}
    (hs : HasY [] (lwY f g b ds ns (wantN ds ns k) xs k) st) : ∃ st', Ev lwC OO (inner (inner (it 7 lwB))) st .normal st' ∧ ∃ x, QVs (qsN ds ns (k + 1)) (xs ++ [x]) ∧ HasY [] (lwY f g b ds ns (wantN ds ns (k + 1)) (xs ++ [x]) (k + 1)) st' := by
  have hxl : k = (xs.map rpv).length := by rw [lenM, hx.len]; simp [qsN]
  have gd : ds[k]? = some ds[k] := List.getElem?_eq_getElem hk
  have sd := hd _ (List.getElem_mem hk)
  have gd' := getM (g := dmV) gd
  have eok : okAtW ds ns k = (decide (2 * ds[k].b ≤ nAt ns k) && decide (nAt ns k ≤ 2 * ds[k].c)) := by unfold okAtW; rw [gd]
  have eq : qAt ds ns k = ((2 * ds[k].a + nAt ns k : Int) : Rat) / 2 := by unfold qAt; rw [gd]
  generalize ds[k] = d at gd sd gd' eok eq
  obtain ⟨⟨a1, a2⟩, ⟨b1, b2⟩, ⟨c1, c2⟩⟩ := sd
  have hN : -32768 ≤ nAt ns k ∧ nAt ns k < 32768 := by
    unfold nAt
    cases h : ns[k]? with
    | none => exact ⟨by decide, by decide⟩
    | some n => exact hn n (List.mem_of_getElem? h)
  obtain ⟨x, y, z, hz, kx, ky, kz⟩ := half_value (n := 2 * d.a + nAt ns k) (by omega)
  rw [← eq] at hz
  have hq : QVs (qsN ds ns (k + 1)) (xs ++ [z]) := by rw [qsN_succ]; exact hx.snoc hz
  have hm : (xs.map rpv) ++ [rpv z] = (xs ++ [z]).map rpv := by simp
  have w1 : IntKind.i64.wrap (2 * d.a) = 2 * d.a := wrapI (by omega) (by omega)
  have w2 : IntKind.i64.wrap (2 * d.a + nAt ns k) = 2 * d.a + nAt ns k := wrapI (by omega) (by omega)
  have w3 : IntKind.i64.wrap (2 * d.b) = 2 * d.b := wrapI (by omega) (by omega)
  have w4 : IntKind.i64.wrap (2 * d.c) = 2 * d.c := wrapI (by omega) (by omega)
  have w5 : IntKind.i64.wrap (nAt ns k) = nAt ns k := wrapI (by omega) (by omega)
  have l1 : (k : Int) < ((ds.map dmV).length : Int) := by rw [lenM]; omega
  by_cases hkn : k < ns.length
  · have gn : (ns.map i16V)[k]? = some (.int .i16 (nAt ns k)) := by
      rw [List.getElem?_map]
      unfold nAt
      rw [List.getElem?_eq_getElem hkn]; rfl
    have l2 : (k : Int) < ((ns.map i16V).length : Int) := by rw [lenM]; omega
    generalize nAt ns k = n at *
    match k, hs with
    | 0, hs =>
      have : xs = [] := by
        have := hx.len
        exact List.eq_nil_of_length_eq_zero (by simpa [qsN] using this)
      subst this
      by_cases hw : wantN ds ns 0 = true
      · by_cases h1 : 2 * d.b ≤ n
        · obtain ⟨s, e, h⟩ : ∃ s, _ ∧ _ := by apply lw_r0_tttt (O := OO) (n0 := n) (x1 := d) (x2 := x) (x3 := y) (x4 := z) (n5 := 0) hs <;> first | first | assumption | omega | exact wrapI (by omega) (by omega) | (simp only [lenM, List.length_append, List.length_cons, List.length_nil]; omega)
          exact ⟨s, e, z, hq, lw_fin (by rw [wantN_succ, eok, hw, decide_eq_true h1]; rfl) h⟩
        · obtain ⟨s, e, h⟩ : ∃ s, _ ∧ _ := by apply lw_r0_tttf (O := OO) (n0 := n) (x1 := d) (x2 := x) (x3 := y) (x4 := z) (n5 := 0) hs <;> first | first | assumption | omega | exact wrapI (by omega) (by omega) | (simp only [lenM, List.length_append, List.length_cons, List.length_nil]; omega)
          exact ⟨s, e, z, hq, lw_fin (by rw [wantN_succ, eok, hw, decide_eq_false h1]; rfl) h⟩
      · have hw := Bool.eq_false_iff.2 hw
        obtain ⟨s, e, h⟩ : ∃ s, _ ∧ _ := by apply lw_r0_ttf (O := OO) (n0 := n) (x1 := d) (x2 := x) (x3 := y) (x4 := z) (n5 := 0) hs <;> first | first | assumption | omega | exact wrapI (by omega) (by omega) | (simp only [lenM, List.length_append, List.length_cons, List.length_nil]; omega)
        exact ⟨s, e, z, hq, lw_fin (by rw [wantN_succ, hw]; rfl) h⟩
    | k + 1, hs =>
      have hb : (k + 1 + 1) * 64 ≤ 140737488355328 := by omega
      by_cases hw : wantN ds ns (k + 1) = true
      · by_cases h1 : 2 * d.b ≤ n
        · obtain ⟨s, e, h⟩ : ∃ s, _ ∧ _ := by apply lw_r_tttt (O := OO) (n0 := n) (x1 := d) (x2 := x) (x3 := y) (x4 := z) (n5 := 0) hs <;> first | first | assumption | omega | exact wrapI (by omega) (by omega) | (simp only [lenM, List.length_append, List.length_cons, List.length_nil]; omega)
          rw [hm] at h
          exact ⟨s, e, z, hq, lw_fin (by rw [wantN_succ, eok, hw, decide_eq_true h1]; rfl) h⟩
        · obtain ⟨s, e, h⟩ : ∃ s, _ ∧ _ := by apply lw_r_tttf (O := OO) (n0 := n) (x1 := d) (x2 := x) (x3 := y) (x4 := z) (n5 := 0) hs <;> first | first | assumption | omega | exact wrapI (by omega) (by omega) | (simp only [lenM, List.length_append, List.length_cons, List.length_nil]; omega)
          rw [hm] at h
          exact ⟨s, e, z, hq, lw_fin (by rw [wantN_succ, eok, hw, decide_eq_false h1]; rfl) h⟩
      · have hw := Bool.eq_false_iff.2 hw
        obtain ⟨s, e, h⟩ : ∃ s, _ ∧ _ := by apply lw_r_ttf (O := OO) (n0 := n) (x1 := d) (x2 := x) (x3 := y) (x4 := z) (n5 := 0) hs <;> first | first | assumption | omega | exact wrapI (by omega) (by omega) | (simp only [lenM, List.length_append, List.length_cons, List.length_nil]; omega)
        rw [hm] at h
        exact ⟨s, e, z, hq, lw_fin (by rw [wantN_succ, hw]; rfl) h⟩
  · have en : nAt ns k = 0 := by unfold nAt; rw [List.getElem?_eq_none (by omega)]; rfl
    have l2 : ¬ (k : Int) < ((ns.map i16V).length : Int) := by rw [lenM]; omega
    rw [en] at kx w2 eok
    match k, hs with
    | 0, hs =>
      have : xs = [] := by
        have := hx.len
        exact List.eq_nil_of_length_eq_zero (by simpa [qsN] using this)
      subst this
      by_cases hw : wantN ds ns 0 = true
      · by_cases h1 : 2 * d.b ≤ 0
        · obtain ⟨s, e, h⟩ : ∃ s, _ ∧ _ := by apply lw_r0_tftt (O := OO) (x0 := d) (x1 := x) (x2 := y) (x3 := z) (n4 := 0) hs <;> first | first | assumption | omega | exact wrapI (by omega) (by omega) | (simp only [lenM, List.length_append, List.length_cons, List.length_nil]; omega)
          exact ⟨s, e, z, hq, lw_fin (by rw [wantN_succ, eok, hw, decide_eq_true h1]; rfl) h⟩
        · omega
      · have hw := Bool.eq_false_iff.2 hw
        obtain ⟨s, e, h⟩ : ∃ s, _ ∧ _ := by apply lw_r0_tff (O := OO) (x0 := d) (x1 := x) (x2 := y) (x3 := z) (n4 := 0) hs <;> first | first | assumption | omega | exact wrapI (by omega) (by omega) | (simp only [lenM, List.length_append, List.length_cons, List.length_nil]; omega)
        exact ⟨s, e, z, hq, lw_fin (by rw [wantN_succ, hw]; rfl) h⟩
    | k + 1, hs =>
      have hb : (k + 1 + 1) * 64 ≤ 140737488355328 := by omega
      by_cases hw : wantN ds ns (k + 1) = true
      · by_cases h1 : 2 * d.b ≤ 0
        · obtain ⟨s, e, h⟩ : ∃ s, _ ∧ _ := by apply lw_r_tftt (O := OO) (x0 := d) (x1 := x) (x2 := y) (x3 := z) (n4 := 0) hs <;> first | first | assumption | omega | exact wrapI (by omega) (by omega) | (simp only [lenM, List.length_append, List.length_cons, List.length_nil]; omega)
          rw [hm] at h
          exact ⟨s, e, z, hq, lw_fin (by rw [wantN_succ, eok, hw, decide_eq_true h1]; rfl) h⟩
        · omega
      · have hw := Bool.eq_false_iff.2 hw
        obtain ⟨s, e, h⟩ : ∃ s, _ ∧ _ := by apply lw_r_tff (O := OO) (x0 := d) (x1 := x) (x2 := y) (x3 := z) (n4 := 0) hs <;> first | first | assumption | omega | exact wrapI (by omega) (by omega) | (simp only [lenM, List.length_append, List.length_cons, List.length_nil]; omega)
        rw [hm] at h
        exact ⟨s, e, z, hq, lw_fin (by rw [wantN_succ, hw]; rfl) h⟩
theorem inW_iff : ∀ {l : List Dm} {qs : List Rat}, qs.length = l.length → (inW l qs = true ↔ ∀ (k : Nat) (d : Dm) (q : Rat), l[k]? = some d → qs[k]? = some q → ¬ q < loQ d ∧ ¬ hiQ d < q)
  | [], qs, h => by simp [inW]
  | d :: l, [], h => by simp at h
  | d :: l, q :: qs, h => by
    have ih := inW_iff (l := l) (qs := qs) (by simpa using h)
    unfold inW
    rw [Bool.and_eq_true, Bool.and_eq_true, ih]
    simp only [Bool.not_eq_true', decide_eq_false_iff_not]
    constructor
    · rintro ⟨h1, h2⟩ k d' q' e1 e2
      cases k with
      | zero => simp only [List.getElem?_cons_zero, Option.some.injEq] at e1 e2; subst e1 e2; exact h1
      | succ k => exact h2 k d' q' (by simpa using e1) (by simpa using e2)
    · intro h
      exact ⟨h 0 d q rfl rfl, fun k d' q' e1 e2 => h (k + 1) d' q' (by simpa using e1) (by simpa using e2)⟩
theorem half_lt {n m : Int} : (n : Rat) / 2 < (m : Rat) ↔ n < 2 * m := by
  rw [Rat.div_lt_iff (by decide), ← Rat.intCast_lt_intCast]
  grind
theorem lt_half {n m : Int} : (m : Rat) < (n : Rat) / 2 ↔ 2 * m < n := by
  rw [Rat.lt_div_iff (by decide), ← Rat.intCast_lt_intCast]
  grind
theorem qsN_len (ds : List Dm) (ns : List Int) (n : Nat) : (qsN ds ns n).length = n := by simp [qsN]
theorem inW_want {ds : List Dm} {ns : List Int} : inW ds (qsN ds ns ds.length) = wantN ds ns ds.length := by
  rw [Bool.eq_iff_iff, inW_iff (qsN_len ..)]
  unfold wantN
  rw [List.all_eq_true]
  constructor
  · intro h k hk
    have hk := List.mem_range.1 hk
    have gd : ds[k]? = some ds[k] := List.getElem?_eq_getElem hk
    have gq : (qsN ds ns ds.length)[k]? = some (qAt ds ns k) := by simp [qsN, hk]
    have h1 := h k _ _ gd gq
    unfold okAtW
    unfold qAt at h1
    simp only [gd] at h1 ⊢
    unfold loQ hiQ at h1
    rw [half_lt, lt_half] at h1
    simp only [Bool.and_eq_true, decide_eq_true_eq]
    omega
  · intro h k d q gd gq
    obtain ⟨hk, _⟩ := List.getElem?_eq_some_iff.1 gd
    have h1 := h k (List.mem_range.2 hk)
    have : q = qAt ds ns k := by
      have : (qsN ds ns ds.length)[k]? = some (qAt ds ns k) := by simp [qsN, hk]
      rw [this] at gq; cases gq; rfl
    subst this
    unfold okAtW at h1
    unfold qAt
    simp only [gd] at h1 ⊢
    unfold loQ hiQ
    rw [half_lt, lt_half]
    simp only [Bool.and_eq_true, decide_eq_true_eq] at h1
    omega
theorem qAt_rb {ds : List Dm} {ns : List Int} (hd : ∀ d ∈ ds, d.Sm) (hn : ∀ n ∈ ns, -32768 ≤ n ∧ n < 32768) (k : Nat) : RB 40 (qAt ds ns k) := by
  unfold qAt
  split
  · rename_i d h
    obtain ⟨⟨a1, a2⟩, _, _⟩ := hd d (List.mem_of_getElem? h)
    have hN : -32768 ≤ nAt ns k ∧ nAt ns k < 32768 := by
      unfold nAt
      cases h : ns[k]? with
      | none => exact ⟨by decide, by decide⟩
      | some n => exact hn n (List.mem_of_getElem? h)
    exact half_rb (by omega)
  · exact ⟨by decide, by decide⟩
theorem end_bool {f : FuncId} {fn : Func} {args : List PV} {st : St} {ex : Ex} {t : Nat} {v : Bool} {bs : List (Key × Blk)} {cs : List (Nat × Nat)} (h : Ev ⟨Pr, pol, [], f⟩ OO (pcs 0 (bodyOf fn)) (startSt args Heap.empty) ex st) (hs : HasY [] ⟨[(t, .bool v)], bs, cs⟩ st) (hex : ex = .normal ∨ ex = .ret) (hf : Pr.funcs[f]? = some fn) (hb : fn.body = some (bodyOf fn)) (hp : PV.persL args = true) (hl : args.length ≤ fn.ntmps) (hu : pol.use f = true)
    (hr : fn.results.toList = [.tmp t]) (hn : prim1 f args = none) : Kn f args (.bool v) := by
  refine Kn.of hn (Runs.endY (ns := []) (rd := .p) (ps := [(PV.bool v).pers = true]) h hs hf hb hp hl hu (fun R => ?_) (AllP.cons rfl AllP.nil))
  rw [hr]
  rcases hex with rfl | rfl <;> simp [VA.endY, resY, oneR, rdV, getT]
theorem kn_within_law {f g b : Bool} {c : List C3} {ns : List Int} (hc : ∀ t ∈ c, t.Ok) (hn : ∀ n ∈ ns, -32768 ≤ n ∧ n < 32768) : Kn 5 [.agg [.sl f (c.map arrV)], .sl g (ns.map i16V), .bool b] (.bool true) := by
  have kk := known_known.kn
  have fin : ∀ {ex : Ex} {st : St} {ts : List (Nat × PV)} {bs : List (Key × Blk)} {cs : List (Nat × Nat)}, Ev lwC OO (pcs 0 lwB) (startSt [.agg [.sl f (c.map arrV)], .sl g (ns.map i16V), .bool b] Heap.empty) ex st → (ex = .normal ∨ ex = .ret) → HasY [] ⟨(6, .bool true) :: ts, bs, cs⟩ st → Kn 5 [.agg [.sl f (c.map arrV)], .sl g (ns.map i16V), .bool b] (.bool true) := by
    intro ex st ts bs cs e hex h
    exact end_bool e (h.to (y' := ⟨[(6, .bool true)], bs, cs⟩) (fun R => ⟨rfl, trivial⟩) (fun x hx => hx) (fun x hx => hx)) hex Tryz.func5 (by kernel_rfl) (by simp only [PV.pers, PV.persL, Bool.and_self, Bool.and_true, Bool.true_and, persD, persIV, persRV, persDV, persDm, persM persDm, persM persRV, persM persC3, persTake, persDrop, persApp, persM (g := i16V) (fun _ => rfl)]) (by rw [Tryz.ntmps5]; exact Nat.le_of_ble_eq_true rfl) rfl rfl rfl
  by_cases h1 : (6 : Int) < ((c.map arrV).length : Int)
  · obtain ⟨st, e, h⟩ := lw_in_t (O := OO) (f := f) (g := g) (b := b) (c := c) (ns := ns) kk h1
    exact fin (e.pcs_stop (by intro q; cases q)) (.inr rfl) h
  by_cases h2 : (8 : Int) < ((ns.map i16V).length : Int)
  · obtain ⟨st, e, h⟩ := lw_in_ft (O := OO) (f := f) (g := g) (b := b) (c := c) (ns := ns) kk h1 h2
    exact fin (e.pcs_stop (by intro q; cases q)) (.inr rfl) h
  obtain ⟨s1, e1, i1⟩ := lw_in_ff (O := OO) (f := f) (g := g) (b := b) (c := c) (ns := ns) kk h1 h2 (kn_dims hc)
  have hds := dims_sm hc
  have hdl := dims_len c
  have hN := dimN_pos c
  generalize dims c = ds at i1 hds hdl
  obtain ⟨m, hm⟩ : ∃ m, ds.length = m + 1 := ⟨ds.length - 1, by omega⟩
  obtain ⟨s2, e2, xs, hx, i2⟩ := Ev.roundsN (c := lwC) (O := OO) (body := inner (inner (it 7 lwB))) (id := 0) (n := ds.length)
    (I := fun k st => ∃ xs, QVs (qsN ds ns k) xs ∧ HasY [] (lwY false g b ds ns (wantN ds ns k) xs k) st)
    (Q := fun st => ∃ xs, QVs (qsN ds ns ds.length) xs ∧ HasY [] ⟨[(7, .sl false (ds.map dmV)), (8, .ms ([], 62, m) 4 0 (m + 1)), (9, .bool (wantN ds ns ds.length)), (2, .bool b)], [(([], 62, m), .row 4 (xs.map rpv) false)], [(95, 0)]⟩ st)
    (fun st h => by
      obtain ⟨xs, hx, hs⟩ := h
      rw [hm] at hs hx ⊢
      obtain ⟨st', e, h⟩ := lw_r_f (O := OO) hs (by rw [lenM]; omega)
      exact ⟨st', e, xs, hx, h.to (fun R => ⟨rfl, rfl, rfl, rfl, trivial⟩) (fun x hx => hx) (fun x hx => by simp at hx ⊢; simp [hx])⟩)
    (fun k hk st h => by
      obtain ⟨xs, hx, hs⟩ := h
      obtain ⟨st', e, x, hx', h⟩ := lw_step hds hn (by omega) hk hx hs
      exact ⟨st', e, _, hx', h⟩)
    ⟨[], QVs.nil, i1.to (fun R => ⟨rfl, rfl, rfl, rfl, rfl, rfl, trivial⟩) (fun x hx => hx) (fun x hx => List.mem_cons_of_mem _ hx)⟩
  have hxl : xs.length = m + 1 := by rw [hx.len, qsN_len, hm]
  have hp : PV.persL (xs.map rpv) = true := persM persRV xs
  have hz : ∀ v ∈ xs.map rpv, v.cells.length = 4 := fun v hv => by obtain ⟨x, _, rfl⟩ := List.mem_map.1 hv; rfl
  have e12 : ∀ {ex st}, Ev lwC OO (pcs 8 lwB) s2 ex st → Ev lwC OO (pcs 0 lwB) (startSt [.agg [.sl f (c.map arrV)], .sl g (ns.map i16V), .bool b] Heap.empty) ex st := fun e3 =>
    e1.pcs (m := 7) ((Ev.as (show it 7 lwB = .block 0 (.loop (inner (inner (it 7 lwB)))) by kernel_rfl) e2).pc1.pcs e3)
  cases b with
  | true =>
    have k1 := (known_within_ne (f := false) (g := false) (l := ds) (vs := List.take (m + 1 - 1) (List.drop 1 (xs.map rpv))) (persTake _ (persDrop _ hp)) (by simp [hxl, hm])).kn
    have k2 := (known_within_ne (f := false) (g := false) (l := ds) (vs := xs.map rpv ++ [PV.agg [PV.bool false, PV.sl true [], PV.bool false, PV.sl true []]]) (persApp hp rfl) (by simp [hxl, hm])).kn
    obtain ⟨s3, e3, i3⟩ := lw_out_tt (O := OO) (n := 0) (b1 := false) i2 rfl (by omega) (by omega) (by rw [lenM]; omega) (szL_of fun v hv => hz v (List.mem_of_mem_drop (List.mem_of_mem_take hv))) k1 (by rw [lenM]; omega) (by omega) (by simp [hxl]) (szL_of fun v hv => by
      rcases List.mem_append.1 hv with hv | hv
      · exact hz v hv
      · rw [List.mem_singleton.1 hv]; rfl) k2
    exact fin (e12 e3) (.inr rfl) i3
  | false =>
    have k1 := (known_within (f := false) (g := false) (l := ds) (vs := xs.map rpv) (qs := qsN ds ns ds.length) (by omega) (qsN_len ..) hx.are (fun q hq => by
      obtain ⟨k, _, rfl⟩ := List.mem_map.1 hq
      exact qAt_rb hds hn k) (fun d hd => (hds d hd).ok)).kn
    rw [inW_want] at k1
    obtain ⟨s3, e3, i3⟩ := lw_out_f (O := OO) (n := 0) i2 rfl (by rw [lenM]; omega) (szL_of hz) k1
    rw [beq_self_eq_true] at i3
    exact fin (e12 e3) (.inr rfl) i3
end Go.Proofs.YtigfgicjjhepoaaGreatDoor.VA.Z

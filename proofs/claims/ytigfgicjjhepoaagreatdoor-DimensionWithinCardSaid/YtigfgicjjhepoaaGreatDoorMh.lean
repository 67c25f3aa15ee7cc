/- Parts of the proof: Ua, Ub, Uc -/
import Derived.Test.YtigfgicjjhepoaaGreatDoorMg
set_option linter.unusedVariables false
set_option linter.unusedSimpArgs false
namespace Go.Proofs.YtigfgicjjhepoaaGreatDoor.VA.Z
open Go Go.Proofs

/-- Digits as a slice. -/
structure DV where
  f : Bool
  a : List Nat
def dpv (x : DV) : PV := .sl x.f (dv x.a)
/-- A whole number. -/
structure IV where
  s : Bool
  f : Bool
  a : List Nat
def ipv (x : IV) : PV := .agg [.bool x.s, .sl x.f (dv x.a)]
/-- A rational. -/
structure RV where
  n : IV
  d : IV
def rpv (x : RV) : PV := .agg [.bool x.n.s, .sl x.n.f (dv x.n.a), .bool x.d.s, .sl x.d.f (dv x.d.a)]
theorem persDV (x : DV) : (dpv x).pers = true := persS ..
theorem persIV (x : IV) : (ipv x).pers = true := by
  show PV.persL [PV.bool x.s, .sl x.f (dv x.a)] = true
  simp only [PV.persL, PV.pers, persD, Bool.and_self]
theorem persRV (x : RV) : (rpv x).pers = true := persRp ..
def rps (l : List RV) : List PV := l.map rpv
theorem persRL : ∀ l : List RV, PV.persL (l.map rpv) = true
  | [] => rfl
  | x :: l => by simp only [List.map_cons, PV.persL, persRV, persRL l, Bool.and_self]
theorem szRL : ∀ l : List RV, allSz 4 (l.map rpv) = true
  | [] => rfl
  | x :: l => by simp only [List.map_cons, allSz, szRL l, Bool.and_true]; rfl
end Go.Proofs.YtigfgicjjhepoaaGreatDoor.VA.Z
set_option linter.unusedVariables false
set_option linter.unusedSimpArgs false
namespace Go.Proofs.YtigfgicjjhepoaaGreatDoor.VA.Z
open Go Go.Proofs

/-! ### plus -/
noncomputable abbrev pB : Code := bodyOf Tryz.f105
noncomputable abbrev pC : Ctx := ⟨Pr, pol, [], 105⟩
abbrev pK : Key := ([], 19, 0)
theorem p_in_t {x y : DV}  {O : Orc}  (h1 : (↑(dv x.2).length : Int) < (↑(dv y.2).length : Int)) (h2 : IntKind.i64.wrap ((↑(dv y.2).length : Int) + (1 : Int)) = (↑(dv y.2).length : Int) + (1 : Int)) (h4 : (0 : Int) ≤ (↑(dv y.2).length : Int) + (1 : Int)) (h5 : (4 : Int) * ((↑(dv y.2).length : Int) + (1 : Int)) ≤ (281474976710656 : Int)) (h6 : (↑(dv y.2).length : Int) + (1 : Int) ≤ (281474976710656 : Int)) : ∃ st', Ev (pC) O (pc 0 6 pB) (startSt [dpv x, dpv y] Heap.empty) (Ex.normal) st' ∧ HasY (pC).path ⟨[(22, PV.int IntKind.i64 (0 : Int)), (21, PV.int IntKind.i64 (↑(dv y.2).length : Int)), (20, dpv y), (6, PV.int IntKind.u64 (0 : Int)), (5, PV.ms ([], 19, 0) 1 0 ((↑(dv y.2).length : Int) + (1 : Int)).toNat), (1, dpv x), (0, dpv y)], [(([], 19, 0), Blk.row 1 (List.replicate ((↑(dv y.2).length : Int) + (1 : Int)).toNat (PV.int IntKind.u32 (0 : Int))) false)], [(19, 1)]⟩ st' :=
  HasY.walk (c := pC) (O := O) (fl := hts [(1, 4, Hint.bit true), (3, 2, Hint.fit), (3, 3, Hint.mk [])]) (n := 60) (y := startY [dpv x, dpv y] [19]) (ns := [0, 20, 21, 22, 6, 1, 5]) (ks := [0]) (ds := [19]) (start_has (p := [])) (by kernel_rfl) (fun R => by kernel_rfl) (AllP.cons (decide_eq_true h1) (AllP.cons h2 (AllP.cons (show (↑(dv y.2).length : Int) + (1 : Int) = (↑(dv y.2).length : Int) + (1 : Int) from by kernel_rfl) (AllP.cons h4 (AllP.cons h5 (AllP.cons h6 AllP.nil))))))
theorem p_in_f {x y : DV}  {O : Orc}  (h1 : ¬ ((↑(dv x.2).length : Int) < (↑(dv y.2).length : Int))) (h2 : IntKind.i64.wrap ((↑(dv x.2).length : Int) + (1 : Int)) = (↑(dv x.2).length : Int) + (1 : Int)) (h4 : (0 : Int) ≤ (↑(dv x.2).length : Int) + (1 : Int)) (h5 : (4 : Int) * ((↑(dv x.2).length : Int) + (1 : Int)) ≤ (281474976710656 : Int)) (h6 : (↑(dv x.2).length : Int) + (1 : Int) ≤ (281474976710656 : Int)) : ∃ st', Ev (pC) O (pc 0 6 pB) (startSt [dpv x, dpv y] Heap.empty) (Ex.normal) st' ∧ HasY (pC).path ⟨[(22, PV.int IntKind.i64 (0 : Int)), (21, PV.int IntKind.i64 (↑(dv x.2).length : Int)), (20, dpv x), (6, PV.int IntKind.u64 (0 : Int)), (5, PV.ms ([], 19, 0) 1 0 ((↑(dv x.2).length : Int) + (1 : Int)).toNat), (0, dpv x), (1, dpv y)], [(([], 19, 0), Blk.row 1 (List.replicate ((↑(dv x.2).length : Int) + (1 : Int)).toNat (PV.int IntKind.u32 (0 : Int))) false)], [(19, 1)]⟩ st' :=
  HasY.walk (c := pC) (O := O) (fl := hts [(1, 4, Hint.bit false), (3, 2, Hint.fit), (3, 3, Hint.mk [])]) (n := 60) (y := startY [dpv x, dpv y] [19]) (ns := [0, 20, 21, 22, 6, 1, 5]) (ks := [0]) (ds := [19]) (start_has (p := [])) (by kernel_rfl) (fun R => by kernel_rfl) (AllP.cons (decide_eq_false h1) (AllP.cons h2 (AllP.cons (show (↑(dv x.2).length : Int) + (1 : Int) = (↑(dv x.2).length : Int) + (1 : Int) from by kernel_rfl) (AllP.cons h4 (AllP.cons h5 (AllP.cons h6 AllP.nil))))))
theorem p_go_tt {x y : DV} {o : List Nat} {l n k c : Nat} {n0 : Int} {n1 : Int} {n2 : Int} {O : Orc} {st : St} (hs : HasY (pC).path (⟨[(0, dpv x), (20, dpv x), (21, .int .i64 (l : Int)), (22, .int .i64 (k : Int)), (6, .int .u64 (c : Int)), (1, dpv y), (5, .ms pK 1 0 n)], [(pK, .row 1 (dv o) false)], []⟩ : YS) st) (h1 : (↑k : Int) < (↑l : Int)) (h2 : (0 : Int) ≤ (↑k : Int)) (h3 : (dv x.2)[k]? = some (PV.int IntKind.u32 n0)) (h4 : IntKind.u64.wrap n0 = n0) (h5 : IntKind.u64.wrap ((↑c : Int) + n0) = (↑c : Int) + n0) (h6 : (↑k : Int) < (↑(dv y.2).length : Int)) (h7 : (0 : Int) ≤ (↑k : Int)) (h8 : (dv y.2)[k]? = some (PV.int IntKind.u32 n1)) (h9 : IntKind.u64.wrap n1 = n1) (h10 : IntKind.u64.wrap ((↑c : Int) + n0 + n1) = (↑c : Int) + n0 + n1) (h11 : (0 : Int) ≤ (↑k : Int)) (h12 : (↑k : Int) < (↑n : Int)) (h13 : (dv o)[k]? = some (PV.int IntKind.u32 n2)) (h14 : IntKind.i64.wrap ((↑k : Int) + (1 : Int)) = (↑k : Int) + (1 : Int)) : ∃ st', Ev (pC) O (inner (inner (it 6 pB))) st (Ex.normal) st' ∧ HasY (pC).path ⟨[(22, PV.int IntKind.i64 ((↑k : Int) + (1 : Int))), (6, PV.int IntKind.u64 (((↑c : Int) + n0 + n1).fdiv (4294967296 : Int))), (0, dpv x), (20, dpv x), (21, PV.int IntKind.i64 (↑l : Int)), (1, dpv y), (5, PV.ms ([], 19, 0) 1 0 n)], [(([], 19, 0), Blk.row 1 ((dv o).set k (PV.int IntKind.u32 (IntKind.u32.wrap ((↑c : Int) + n0 + n1)))) false)], []⟩ st' :=
  HasY.walk (c := pC) (O := O) (fl := hts [(6, 0, Hint.bit true), (7, 1, Hint.elem (PV.int IntKind.u32 n0)), (8, 2, Hint.fit), (8, 3, Hint.fit), (9, 3, Hint.bit true), (10, 3, Hint.elem (PV.int IntKind.u32 n1)), (10, 5, Hint.fit), (10, 6, Hint.fit), (11, 4, Hint.idx), (11, 5, Hint.put 0 true [Keep.drop] (PV.int IntKind.u32 n2)), (13, 0, Hint.fit)]) (n := 60) (y := (⟨[(0, dpv x), (20, dpv x), (21, .int .i64 (l : Int)), (22, .int .i64 (k : Int)), (6, .int .u64 (c : Int)), (1, dpv y), (5, .ms pK 1 0 n)], [(pK, .row 1 (dv o) false)], []⟩ : YS)) (ns := [0, 20, 21, 22, 6, 1, 5]) (ks := [0]) (ds := []) hs (by kernel_rfl) (fun R => by kernel_rfl) (AllP.cons (decide_eq_true h1) (AllP.cons h2 (AllP.cons h3 (AllP.cons h4 (AllP.cons h5 (AllP.cons (decide_eq_true h6) (AllP.cons h7 (AllP.cons h8 (AllP.cons h9 (AllP.cons h10 (AllP.cons h11 (AllP.cons h12 (AllP.cons h13 (AllP.cons h14 AllP.nil))))))))))))))
theorem p_go_tf {x y : DV} {o : List Nat} {l n k c : Nat} {n0 : Int} {n1 : Int} {O : Orc} {st : St} (hs : HasY (pC).path (⟨[(0, dpv x), (20, dpv x), (21, .int .i64 (l : Int)), (22, .int .i64 (k : Int)), (6, .int .u64 (c : Int)), (1, dpv y), (5, .ms pK 1 0 n)], [(pK, .row 1 (dv o) false)], []⟩ : YS) st) (h1 : (↑k : Int) < (↑l : Int)) (h2 : (0 : Int) ≤ (↑k : Int)) (h3 : (dv x.2)[k]? = some (PV.int IntKind.u32 n0)) (h4 : IntKind.u64.wrap n0 = n0) (h5 : IntKind.u64.wrap ((↑c : Int) + n0) = (↑c : Int) + n0) (h6 : ¬ ((↑k : Int) < (↑(dv y.2).length : Int))) (h7 : (0 : Int) ≤ (↑k : Int)) (h8 : (↑k : Int) < (↑n : Int)) (h9 : (dv o)[k]? = some (PV.int IntKind.u32 n1)) (h10 : IntKind.i64.wrap ((↑k : Int) + (1 : Int)) = (↑k : Int) + (1 : Int)) : ∃ st', Ev (pC) O (inner (inner (it 6 pB))) st (Ex.normal) st' ∧ HasY (pC).path ⟨[(22, PV.int IntKind.i64 ((↑k : Int) + (1 : Int))), (6, PV.int IntKind.u64 (((↑c : Int) + n0).fdiv (4294967296 : Int))), (0, dpv x), (20, dpv x), (21, PV.int IntKind.i64 (↑l : Int)), (1, dpv y), (5, PV.ms ([], 19, 0) 1 0 n)], [(([], 19, 0), Blk.row 1 ((dv o).set k (PV.int IntKind.u32 (IntKind.u32.wrap ((↑c : Int) + n0)))) false)], []⟩ st' :=
  HasY.walk (c := pC) (O := O) (fl := hts [(6, 0, Hint.bit true), (7, 1, Hint.elem (PV.int IntKind.u32 n0)), (8, 2, Hint.fit), (8, 3, Hint.fit), (9, 3, Hint.bit false), (11, 4, Hint.idx), (11, 5, Hint.put 0 true [Keep.drop] (PV.int IntKind.u32 n1)), (13, 0, Hint.fit)]) (n := 60) (y := (⟨[(0, dpv x), (20, dpv x), (21, .int .i64 (l : Int)), (22, .int .i64 (k : Int)), (6, .int .u64 (c : Int)), (1, dpv y), (5, .ms pK 1 0 n)], [(pK, .row 1 (dv o) false)], []⟩ : YS)) (ns := [0, 20, 21, 22, 6, 1, 5]) (ks := [0]) (ds := []) hs (by kernel_rfl) (fun R => by kernel_rfl) (AllP.cons (decide_eq_true h1) (AllP.cons h2 (AllP.cons h3 (AllP.cons h4 (AllP.cons h5 (AllP.cons (decide_eq_false h6) (AllP.cons h7 (AllP.cons h8 (AllP.cons h9 (AllP.cons h10 AllP.nil))))))))))
theorem p_go_f {x y : DV} {o : List Nat} {l n k c : Nat}  {O : Orc} {st : St} (hs : HasY (pC).path (⟨[(0, dpv x), (20, dpv x), (21, .int .i64 (l : Int)), (22, .int .i64 (k : Int)), (6, .int .u64 (c : Int)), (1, dpv y), (5, .ms pK 1 0 n)], [(pK, .row 1 (dv o) false)], []⟩ : YS) st) (h1 : ¬ ((↑k : Int) < (↑l : Int))) : ∃ st', Ev (pC) O (inner (inner (it 6 pB))) st (Ex.exit 0) st' ∧ HasY (pC).path ⟨[(0, dpv x), (20, dpv x), (21, PV.int IntKind.i64 (↑l : Int)), (22, PV.int IntKind.i64 (↑k : Int)), (6, PV.int IntKind.u64 (↑c : Int)), (1, dpv y), (5, PV.ms ([], 19, 0) 1 0 n)], [(([], 19, 0), Blk.row 1 (dv o) false)], []⟩ st' :=
  HasY.walk (c := pC) (O := O) (fl := hts [(6, 0, Hint.bit false)]) (n := 60) (y := (⟨[(0, dpv x), (20, dpv x), (21, .int .i64 (l : Int)), (22, .int .i64 (k : Int)), (6, .int .u64 (c : Int)), (1, dpv y), (5, .ms pK 1 0 n)], [(pK, .row 1 (dv o) false)], []⟩ : YS)) (ns := [0, 20, 21, 22, 6, 1, 5]) (ks := [0]) (ds := []) hs (by kernel_rfl) (fun R => by kernel_rfl) (AllP.cons (decide_eq_false h1) AllP.nil)
theorem p_out {x y : DV} {o : List Nat} {n c : Nat} {n0 : Int} {O : Orc} {st : St} (hs : HasY (pC).path (⟨[(0, dpv x), (6, .int .u64 (c : Int)), (5, .ms pK 1 0 n)], [(pK, .row 1 (dv o) false)], []⟩ : YS) st) (h1 : (0 : Int) ≤ (↑(dv x.2).length : Int)) (h2 : (↑(dv x.2).length : Int) < (↑n : Int)) (h3 : (dv o)[(dv x.2).length]? = some (PV.int IntKind.u32 n0)) : ∃ st', Ev (pC) O (pcs 7 pB) st (Ex.ret) st' ∧ HasY (pC).path ⟨[(4, PV.ms ([], 19, 0) 1 0 n)], [(([], 19, 0), Blk.row 1 ((dv o).set (dv x.2).length (PV.int IntKind.u32 (IntKind.u32.wrap (↑c : Int)))) false)], []⟩ st' :=
  HasY.walk (c := pC) (O := O) (fl := hts [(14, 5, Hint.idx), (14, 6, Hint.put 0 true [Keep.drop] (PV.int IntKind.u32 n0))]) (n := 60) (y := (⟨[(0, dpv x), (6, .int .u64 (c : Int)), (5, .ms pK 1 0 n)], [(pK, .row 1 (dv o) false)], []⟩ : YS)) (ns := [4]) (ks := [0]) (ds := []) hs (by kernel_rfl) (fun R => by kernel_rfl) (AllP.cons h1 (AllP.cons h2 (AllP.cons h3 AllP.nil)))
theorem val_take_succ {l : List Nat} {k d : Nat} (h : l[k]? = some d) : val (l.take (k + 1)) = val (l.take k) + d * BB ^ k := by
  obtain ⟨hk, e⟩ := List.getElem?_eq_some_iff.1 h
  rw [List.take_add_one, h, val_append, List.length_take, Nat.min_eq_left (by omega)]
  simp only [Option.toList_some, val, Nat.mul_zero, Nat.add_zero]
  rw [Nat.mul_comm]
theorem val_take_all {l : List Nat} {k : Nat} (h : l.length ≤ k) : val (l.take k) = val l := by rw [List.take_of_length_le h]
theorem val_zeros (n : Nat) : val (List.replicate n 0) = 0 := by
  induction n with
  | zero => rfl
  | succ n ih => simp only [List.replicate_succ, val, ih]; rfl
theorem dig_zeros (n : Nat) : Dig (List.replicate n 0) := fun z hz => by rw [(List.mem_replicate.1 hz).2]; decide
theorem dv_zeros (n : Nat) : List.replicate n (PV.int .u32 0) = dv (List.replicate n 0) := dv_rep n
theorem getDi {l : List Nat} {k d : Nat} (h : l[k]? = some d) : (dv l)[k]? = some (PV.int .u32 ((d : Nat) : Int)) := by rw [getD', h]; rfl
theorem setDi (l : List Nat) (k : Nat) (z : Int) (hz : 0 ≤ z) : (dv l).set k (PV.int .u32 z) = dv (l.set k z.toNat) := by
  rw [← setD]
  congr 2
  omega
theorem wrapWn (n : Nat) : IntKind.u32.wrap (n : Int) = ((n % BB : Nat) : Int) := by rw [wrapW]; rfl
theorem wrapUn {n : Nat} (h : n < 18446744073709551616) : IntKind.u64.wrap (n : Int) = (n : Int) := wrapU (by omega) (by omega)
theorem fdivn (n : Nat) : ((n : Int)).fdiv 4294967296 = ((n / BB : Nat) : Int) := by rw [Int.fdiv_eq_ediv_of_nonneg _ (by omega)]; rfl

theorem plus_loop {x y : DV} (hx : Dig x.a) (hy : Dig y.a) (hl : x.a.length < 2 ^ 40) (hyl : y.a.length ≤ x.a.length) {O : Orc} {st : St}
    (h : HasY [] ⟨[(0, dpv x), (20, dpv x), (21, .int .i64 (x.a.length : Int)), (22, .int .i64 ((0 : Nat) : Int)), (6, .int .u64 ((0 : Nat) : Int)), (1, dpv y), (5, .ms pK 1 0 (x.a.length + 1))], [(pK, .row 1 (dv (List.replicate (x.a.length + 1) 0)) false)], []⟩ st) :
    ∃ st', Ev pC O (it 6 pB) st .normal st' ∧ ∃ o c, o.length = x.a.length + 1 ∧ Dig o ∧ c ≤ 1 ∧ o[x.a.length]? = some 0 ∧ val o + c * BB ^ x.a.length = val x.a + val y.a ∧
      HasY [] ⟨[(0, dpv x), (6, .int .u64 ((c : Nat) : Int)), (5, .ms pK 1 0 (x.a.length + 1))], [(pK, .row 1 (dv o) false)], []⟩ st' := by
  have key := Ev.roundsN (c := pC) (O := O) (body := inner (inner (it 6 pB))) (id := 0) (n := x.a.length)
    (I := fun k st => ∃ o c, o.length = x.a.length + 1 ∧ Dig o ∧ c ≤ 1 ∧ (∀ i, k ≤ i → i < x.a.length + 1 → o[i]? = some 0) ∧ val o + c * BB ^ k = val (x.a.take k) + val (y.a.take k) ∧
      HasY [] ⟨[(0, dpv x), (20, dpv x), (21, .int .i64 (x.a.length : Int)), (22, .int .i64 ((k : Nat) : Int)), (6, .int .u64 ((c : Nat) : Int)), (1, dpv y), (5, .ms pK 1 0 (x.a.length + 1))], [(pK, .row 1 (dv o) false)], []⟩ st)
    (Q := fun st' => ∃ o c, o.length = x.a.length + 1 ∧ Dig o ∧ c ≤ 1 ∧ o[x.a.length]? = some 0 ∧ val o + c * BB ^ x.a.length = val x.a + val y.a ∧
      HasY [] ⟨[(0, dpv x), (6, .int .u64 ((c : Nat) : Int)), (5, .ms pK 1 0 (x.a.length + 1))], [(pK, .row 1 (dv o) false)], []⟩ st') ?_ ?_ (st := st) ?_
  · obtain ⟨st', e, h'⟩ := key
    exact ⟨st', Ev.as (by kernel_rfl) e, h'⟩
  · rintro st ⟨o, c, h1, h2, h3, h4, h5, h6⟩
    obtain ⟨st', e, h'⟩ := p_go_f (O := O) h6 (by omega)
    rw [val_take_all (Nat.le_refl _), val_take_all hyl] at h5
    exact ⟨st', e, o, c, h1, h2, h3, h4 _ (Nat.le_refl _) (by omega), h5, h'.to (fun R => ⟨rfl, rfl, rfl, trivial⟩) (fun x hx => hx) nilM⟩
  · rintro k hk st ⟨o, c, h1, h2, h3, h4, h5, h6⟩
    have gx : x.a[k]? = some x.a[k] := List.getElem?_eq_getElem hk
    have dx : x.a[k] < BB := hx _ (List.getElem_mem hk)
    have go := h4 k (Nat.le_refl _) (by omega)
    have vx := val_take_succ gx
    generalize x.a[k] = d at gx dx vx
    have dx' : d < 4294967296 := dx
    by_cases hky : k < y.a.length
    · have gy : y.a[k]? = some y.a[k] := List.getElem?_eq_getElem hky
      have dy : y.a[k] < BB := hy _ (List.getElem_mem hky)
      have vy := val_take_succ gy
      generalize y.a[k] = e at gy dy vy
      have dy' : e < 4294967296 := dy
      obtain ⟨st', ev, h'⟩ := p_go_tt (O := O) h6 (by omega) (by omega) (getDi gx) (wrapUn (by omega)) (by rw [← Int.natCast_add]; exact wrapUn (by omega)) (by rw [lenD]; omega) (by omega) (getDi gy) (wrapUn (by omega)) (by rw [← Int.natCast_add, ← Int.natCast_add]; exact wrapUn (by omega)) (by omega) (by omega) (getDi go) (wrapI (by omega) (by omega))
      rw [← Int.natCast_add, ← Int.natCast_add, fdivn, wrapWn, setDi _ _ _ (by omega), Int.toNat_natCast] at h'
      have hw : (c + d + e) % BB < BB := Nat.mod_lt _ (by decide)
      refine ⟨st', ev, o.set k ((c + d + e) % BB), (c + d + e) / BB, by simp [h1], dig_set h2 hw, ?_, fun i hi hin => ?_, ?_, h'.to (fun R => ⟨rfl, rfl, rfl, rfl, rfl, rfl, rfl, trivial⟩) (fun x hx => hx) nilM⟩
      · have : (c + d + e) / 4294967296 ≤ 1 := by omega
        exact this
      · rw [get_set_ne (by omega)]; exact h4 i (by omega) hin
      · have hv := val_set ((c + d + e) % BB) go
        rw [vx, vy, Nat.pow_succ]
        have hm : (c + d + e) % BB + BB * ((c + d + e) / BB) = c + d + e := Nat.mod_add_div _ _
        generalize (c + d + e) % BB = w at hv hm ⊢
        generalize (c + d + e) / BB = q at hm ⊢
        generalize val (o.set k w) = v1 at hv ⊢
        generalize BB ^ k = Pk at *
        generalize BB = M at *
        grind
    · obtain ⟨st', ev, h'⟩ := p_go_tf (O := O) h6 (by omega) (by omega) (getDi gx) (wrapUn (by omega)) (by rw [← Int.natCast_add]; exact wrapUn (by omega)) (by rw [lenD]; omega) (by omega) (by omega) (getDi go) (wrapI (by omega) (by omega))
      rw [← Int.natCast_add, fdivn, wrapWn, setDi _ _ _ (by omega), Int.toNat_natCast] at h'
      have hw : (c + d) % BB < BB := Nat.mod_lt _ (by decide)
      refine ⟨st', ev, o.set k ((c + d) % BB), (c + d) / BB, by simp [h1], dig_set h2 hw, ?_, fun i hi hin => ?_, ?_, h'.to (fun R => ⟨rfl, rfl, rfl, rfl, rfl, rfl, rfl, trivial⟩) (fun x hx => hx) nilM⟩
      · have : (c + d) / 4294967296 ≤ 1 := by omega
        exact this
      · rw [get_set_ne (by omega)]; exact h4 i (by omega) hin
      · have hv := val_set ((c + d) % BB) go
        rw [vx, Nat.pow_succ, val_take_all (show y.a.length ≤ k + 1 by omega)]
        rw [val_take_all (show y.a.length ≤ k by omega)] at h5
        have hm : (c + d) % BB + BB * ((c + d) / BB) = c + d := Nat.mod_add_div _ _
        generalize (c + d) % BB = w at hv hm ⊢
        generalize (c + d) / BB = q at hm ⊢
        generalize val (o.set k w) = v1 at hv ⊢
        generalize BB ^ k = Pk at *
        generalize BB = M at *
        grind
  · exact ⟨_, 0, by simp, dig_zeros _, by omega, fun i _ hi => by simp [List.getElem?_replicate, hi], by simp [val_zeros, val], h⟩
theorem plus_run {x y : DV} (hx : Dig x.a) (hy : Dig y.a) (hl : x.a.length < 2 ^ 40) (hyl : y.a.length ≤ x.a.length) {O : Orc} {st : St} {u v : DV}
    (hp : ∃ st, Ev pC O (pc 0 6 pB) (startSt [dpv u, dpv v] Heap.empty) .normal st ∧ HasY [] ⟨[(0, dpv x), (20, dpv x), (21, .int .i64 (x.a.length : Int)), (22, .int .i64 ((0 : Nat) : Int)), (6, .int .u64 ((0 : Nat) : Int)), (1, dpv y), (5, .ms pK 1 0 (x.a.length + 1))], [(pK, .row 1 (dv (List.replicate (x.a.length + 1) 0)) false)], []⟩ st) :
    ∃ o : DV, Dig o.a ∧ o.a.length = x.a.length + 1 ∧ val o.a = val x.a + val y.a ∧ Runs Pr pol O 105 [dpv u, dpv v] (dpv o) := by
  obtain ⟨s1, e1, h1⟩ := hp
  obtain ⟨s2, e2, o, c, i1, i2, i3, i4, i5, h2⟩ := plus_loop (O := O) hx hy hl hyl h1
  obtain ⟨s3, e3, h3⟩ := p_out (O := O) (y := y) h2 (by omega) (by rw [lenD]; omega) (by rw [lenD]; exact getDi i4)
  rw [wrapWn, lenD, Nat.mod_eq_of_lt (Nat.lt_of_le_of_lt i3 (by decide)), setDi _ _ _ (by omega), Int.toNat_natCast] at h3
  have hv := val_set c i4
  refine ⟨⟨false, o.set x.a.length c⟩, dig_set i2 (Nat.lt_of_le_of_lt i3 (by decide)), by simp [i1], by simp only; omega, ?_⟩
  refine Runs.endY (O := O) (y := ⟨[(4, PV.ms pK 1 0 (x.a.length + 1))], [(pK, Blk.row 1 (dv (o.set x.a.length c)) false)], []⟩) (ex := .ret) (st := s3) (ns := []) (rd := .row 0 true) ((e1.pcs (m := 6) (e2.pc1.pcs e3))) h3 Tryz.func105 (by kernel_rfl) (by simp only [PV.pers, PV.persL, Bool.and_self, Bool.and_true, Bool.true_and, persD, persIV, persRV, persDV]) (by rw [Tryz.ntmps105]; exact Nat.le_of_ble_eq_true rfl) rfl (fun R => by kernel_rfl) (AllP.cons (show x.a.length + 1 = (dv (o.set x.a.length c)).length by rw [lenD]; simp [i1]) (AllP.cons (persD (o.set x.a.length c)) (AllP.cons (szD (o.set x.a.length c)) AllP.nil)))
theorem kn_plus {x y : DV} (hx : Dig x.a) (hy : Dig y.a) (hl : x.a.length < 2 ^ 40) (hl' : y.a.length < 2 ^ 40) : ∃ o : DV, Dig o.a ∧ o.a.length ≤ x.a.length + y.a.length + 1 ∧ val o.a = val x.a + val y.a ∧ Kn 105 [dpv x, dpv y] (dpv o) := by
  by_cases h : x.a.length < y.a.length
  · have hp := p_in_t (O := OO) (x := x) (y := y) (by rw [lenD, lenD]; omega) (by rw [lenD]; exact wrapI (by omega) (by omega)) (by omega) (by rw [lenD]; omega) (by rw [lenD]; omega)
    rw [lenD, ← Int.natCast_add_one, Int.toNat_natCast, dv_zeros] at hp
    obtain ⟨st, e, h1⟩ := hp
    obtain ⟨o, a1, a2, a3, a4⟩ := plus_run (O := OO) (st := st) hy hx hl' (by omega) ⟨st, e, h1.to (fun R => ⟨rfl, rfl, rfl, rfl, rfl, rfl, rfl, trivial⟩) (fun x hx => hx) nilM⟩
    exact ⟨o, a1, by omega, by omega, Kn.of rfl a4⟩
  · have hp := p_in_f (O := OO) (x := x) (y := y) (by rw [lenD, lenD]; omega) (by rw [lenD]; exact wrapI (by omega) (by omega)) (by omega) (by rw [lenD]; omega) (by rw [lenD]; omega)
    rw [lenD, ← Int.natCast_add_one, Int.toNat_natCast, dv_zeros] at hp
    obtain ⟨st, e, h1⟩ := hp
    obtain ⟨o, a1, a2, a3, a4⟩ := plus_run (O := OO) (st := st) hx hy hl (by omega) ⟨st, e, h1.to (fun R => ⟨rfl, rfl, rfl, rfl, rfl, rfl, rfl, trivial⟩) (fun x hx => hx) nilM⟩
    exact ⟨o, a1, by omega, by omega, Kn.of rfl a4⟩

/-! ### minus -/
noncomputable abbrev nB : Code := bodyOf Tryz.f106
noncomputable abbrev nC : Ctx := ⟨Pr, pol, [], 106⟩
abbrev nK : Key := ([], 12, 0)
theorem n_in {x y : DV}  {O : Orc}  (h2 : (0 : Int) ≤ (↑(dv x.2).length : Int)) (h3 : (4 : Int) * (↑(dv x.2).length : Int) ≤ (281474976710656 : Int)) (h4 : (↑(dv x.2).length : Int) ≤ (281474976710656 : Int)) : ∃ st', Ev (nC) O (pc 0 4 nB) (startSt [dpv x, dpv y] Heap.empty) (Ex.normal) st' ∧ HasY (nC).path ⟨[(15, PV.int IntKind.i64 (0 : Int)), (14, PV.int IntKind.i64 (↑(dv x.2).length : Int)), (13, dpv x), (6, PV.int IntKind.i64 (0 : Int)), (5, PV.ms ([], 12, 0) 1 0 (dv x.2).length), (1, dpv y)], [(([], 12, 0), Blk.row 1 (List.replicate (dv x.2).length (PV.int IntKind.u32 (0 : Int))) false)], [(12, 1)]⟩ st' :=
  HasY.walk (c := nC) (O := O) (fl := hts [(1, 2, Hint.mk [])]) (n := 60) (y := startY [dpv x, dpv y] [12]) (ns := [15, 14, 13, 6, 1, 5]) (ks := [0]) (ds := [12]) (start_has (p := [])) (by kernel_rfl) (fun R => by kernel_rfl) (AllP.cons (show (↑(dv x.2).length : Int) = (↑(dv x.2).length : Int) from by kernel_rfl) (AllP.cons h2 (AllP.cons h3 (AllP.cons h4 AllP.nil))))
theorem n_go_ttt {x y : DV} {o : List Nat} {l n k c : Nat} {n0 : Int} {n1 : Int} {n2 : Int} {O : Orc} {st : St} (hs : HasY (nC).path (⟨[(15, .int .i64 (k : Int)), (14, .int .i64 (l : Int)), (13, dpv x), (6, .int .i64 (c : Int)), (1, dpv y), (5, .ms nK 1 0 n)], [(nK, .row 1 (dv o) false)], []⟩ : YS) st) (h1 : (↑k : Int) < (↑l : Int)) (h2 : (0 : Int) ≤ (↑k : Int)) (h3 : (dv x.2)[k]? = some (PV.int IntKind.u32 n0)) (h4 : IntKind.i64.wrap n0 = n0) (h5 : IntKind.i64.wrap (n0 - (↑c : Int)) = n0 - (↑c : Int)) (h6 : (↑k : Int) < (↑(dv y.2).length : Int)) (h7 : (0 : Int) ≤ (↑k : Int)) (h8 : (dv y.2)[k]? = some (PV.int IntKind.u32 n1)) (h9 : IntKind.i64.wrap n1 = n1) (h10 : IntKind.i64.wrap (n0 - (↑c : Int) - n1) = n0 - (↑c : Int) - n1) (h11 : n0 - (↑c : Int) - n1 < (0 : Int)) (h12 : (0 : Int) ≤ (↑k : Int)) (h13 : (↑k : Int) < (↑n : Int)) (h14 : (dv o)[k]? = some (PV.int IntKind.u32 n2)) (h15 : IntKind.i64.wrap ((↑k : Int) + (1 : Int)) = (↑k : Int) + (1 : Int)) : ∃ st', Ev (nC) O (inner (inner (it 4 nB))) st (Ex.normal) st' ∧ HasY (nC).path ⟨[(15, PV.int IntKind.i64 ((↑k : Int) + (1 : Int))), (6, PV.int IntKind.i64 (1 : Int)), (14, PV.int IntKind.i64 (↑l : Int)), (13, dpv x), (1, dpv y), (5, PV.ms ([], 12, 0) 1 0 n)], [(([], 12, 0), Blk.row 1 ((dv o).set k (PV.int IntKind.u32 (IntKind.u32.wrap (n0 - (↑c : Int) - n1)))) false)], []⟩ st' :=
  HasY.walk (c := nC) (O := O) (fl := hts [(4, 0, Hint.bit true), (5, 1, Hint.elem (PV.int IntKind.u32 n0)), (6, 1, Hint.fit), (6, 3, Hint.fit), (7, 3, Hint.bit true), (8, 3, Hint.elem (PV.int IntKind.u32 n1)), (8, 5, Hint.fit), (8, 6, Hint.fit), (10, 1, Hint.bit true), (12, 4, Hint.idx), (12, 5, Hint.put 0 true [Keep.drop] (PV.int IntKind.u32 n2)), (13, 0, Hint.fit)]) (n := 60) (y := (⟨[(15, .int .i64 (k : Int)), (14, .int .i64 (l : Int)), (13, dpv x), (6, .int .i64 (c : Int)), (1, dpv y), (5, .ms nK 1 0 n)], [(nK, .row 1 (dv o) false)], []⟩ : YS)) (ns := [15, 14, 13, 6, 1, 5]) (ks := [0]) (ds := []) hs (by kernel_rfl) (fun R => by kernel_rfl) (AllP.cons (decide_eq_true h1) (AllP.cons h2 (AllP.cons h3 (AllP.cons h4 (AllP.cons h5 (AllP.cons (decide_eq_true h6) (AllP.cons h7 (AllP.cons h8 (AllP.cons h9 (AllP.cons h10 (AllP.cons (decide_eq_true h11) (AllP.cons h12 (AllP.cons h13 (AllP.cons h14 (AllP.cons h15 AllP.nil)))))))))))))))
theorem n_go_ttf {x y : DV} {o : List Nat} {l n k c : Nat} {n0 : Int} {n1 : Int} {n2 : Int} {O : Orc} {st : St} (hs : HasY (nC).path (⟨[(15, .int .i64 (k : Int)), (14, .int .i64 (l : Int)), (13, dpv x), (6, .int .i64 (c : Int)), (1, dpv y), (5, .ms nK 1 0 n)], [(nK, .row 1 (dv o) false)], []⟩ : YS) st) (h1 : (↑k : Int) < (↑l : Int)) (h2 : (0 : Int) ≤ (↑k : Int)) (h3 : (dv x.2)[k]? = some (PV.int IntKind.u32 n0)) (h4 : IntKind.i64.wrap n0 = n0) (h5 : IntKind.i64.wrap (n0 - (↑c : Int)) = n0 - (↑c : Int)) (h6 : (↑k : Int) < (↑(dv y.2).length : Int)) (h7 : (0 : Int) ≤ (↑k : Int)) (h8 : (dv y.2)[k]? = some (PV.int IntKind.u32 n1)) (h9 : IntKind.i64.wrap n1 = n1) (h10 : IntKind.i64.wrap (n0 - (↑c : Int) - n1) = n0 - (↑c : Int) - n1) (h11 : ¬ (n0 - (↑c : Int) - n1 < (0 : Int))) (h12 : (0 : Int) ≤ (↑k : Int)) (h13 : (↑k : Int) < (↑n : Int)) (h14 : (dv o)[k]? = some (PV.int IntKind.u32 n2)) (h15 : IntKind.i64.wrap ((↑k : Int) + (1 : Int)) = (↑k : Int) + (1 : Int)) : ∃ st', Ev (nC) O (inner (inner (it 4 nB))) st (Ex.normal) st' ∧ HasY (nC).path ⟨[(15, PV.int IntKind.i64 ((↑k : Int) + (1 : Int))), (6, PV.int IntKind.i64 (0 : Int)), (14, PV.int IntKind.i64 (↑l : Int)), (13, dpv x), (1, dpv y), (5, PV.ms ([], 12, 0) 1 0 n)], [(([], 12, 0), Blk.row 1 ((dv o).set k (PV.int IntKind.u32 (IntKind.u32.wrap (n0 - (↑c : Int) - n1)))) false)], []⟩ st' :=
  HasY.walk (c := nC) (O := O) (fl := hts [(4, 0, Hint.bit true), (5, 1, Hint.elem (PV.int IntKind.u32 n0)), (6, 1, Hint.fit), (6, 3, Hint.fit), (7, 3, Hint.bit true), (8, 3, Hint.elem (PV.int IntKind.u32 n1)), (8, 5, Hint.fit), (8, 6, Hint.fit), (10, 1, Hint.bit false), (12, 4, Hint.idx), (12, 5, Hint.put 0 true [Keep.drop] (PV.int IntKind.u32 n2)), (13, 0, Hint.fit)]) (n := 60) (y := (⟨[(15, .int .i64 (k : Int)), (14, .int .i64 (l : Int)), (13, dpv x), (6, .int .i64 (c : Int)), (1, dpv y), (5, .ms nK 1 0 n)], [(nK, .row 1 (dv o) false)], []⟩ : YS)) (ns := [15, 14, 13, 6, 1, 5]) (ks := [0]) (ds := []) hs (by kernel_rfl) (fun R => by kernel_rfl) (AllP.cons (decide_eq_true h1) (AllP.cons h2 (AllP.cons h3 (AllP.cons h4 (AllP.cons h5 (AllP.cons (decide_eq_true h6) (AllP.cons h7 (AllP.cons h8 (AllP.cons h9 (AllP.cons h10 (AllP.cons (decide_eq_false h11) (AllP.cons h12 (AllP.cons h13 (AllP.cons h14 (AllP.cons h15 AllP.nil)))))))))))))))
theorem n_go_tft {x y : DV} {o : List Nat} {l n k c : Nat} {n0 : Int} {n1 : Int} {O : Orc} {st : St} (hs : HasY (nC).path (⟨[(15, .int .i64 (k : Int)), (14, .int .i64 (l : Int)), (13, dpv x), (6, .int .i64 (c : Int)), (1, dpv y), (5, .ms nK 1 0 n)], [(nK, .row 1 (dv o) false)], []⟩ : YS) st) (h1 : (↑k : Int) < (↑l : Int)) (h2 : (0 : Int) ≤ (↑k : Int)) (h3 : (dv x.2)[k]? = some (PV.int IntKind.u32 n0)) (h4 : IntKind.i64.wrap n0 = n0) (h5 : IntKind.i64.wrap (n0 - (↑c : Int)) = n0 - (↑c : Int)) (h6 : ¬ ((↑k : Int) < (↑(dv y.2).length : Int))) (h7 : n0 - (↑c : Int) < (0 : Int)) (h8 : (0 : Int) ≤ (↑k : Int)) (h9 : (↑k : Int) < (↑n : Int)) (h10 : (dv o)[k]? = some (PV.int IntKind.u32 n1)) (h11 : IntKind.i64.wrap ((↑k : Int) + (1 : Int)) = (↑k : Int) + (1 : Int)) : ∃ st', Ev (nC) O (inner (inner (it 4 nB))) st (Ex.normal) st' ∧ HasY (nC).path ⟨[(15, PV.int IntKind.i64 ((↑k : Int) + (1 : Int))), (6, PV.int IntKind.i64 (1 : Int)), (14, PV.int IntKind.i64 (↑l : Int)), (13, dpv x), (1, dpv y), (5, PV.ms ([], 12, 0) 1 0 n)], [(([], 12, 0), Blk.row 1 ((dv o).set k (PV.int IntKind.u32 (IntKind.u32.wrap (n0 - (↑c : Int))))) false)], []⟩ st' :=
  HasY.walk (c := nC) (O := O) (fl := hts [(4, 0, Hint.bit true), (5, 1, Hint.elem (PV.int IntKind.u32 n0)), (6, 1, Hint.fit), (6, 3, Hint.fit), (7, 3, Hint.bit false), (10, 1, Hint.bit true), (12, 4, Hint.idx), (12, 5, Hint.put 0 true [Keep.drop] (PV.int IntKind.u32 n1)), (13, 0, Hint.fit)]) (n := 60) (y := (⟨[(15, .int .i64 (k : Int)), (14, .int .i64 (l : Int)), (13, dpv x), (6, .int .i64 (c : Int)), (1, dpv y), (5, .ms nK 1 0 n)], [(nK, .row 1 (dv o) false)], []⟩ : YS)) (ns := [15, 14, 13, 6, 1, 5]) (ks := [0]) (ds := []) hs (by kernel_rfl) (fun R => by kernel_rfl) (AllP.cons (decide_eq_true h1) (AllP.cons h2 (AllP.cons h3 (AllP.cons h4 (AllP.cons h5 (AllP.cons (decide_eq_false h6) (AllP.cons (decide_eq_true h7) (AllP.cons h8 (AllP.cons h9 (AllP.cons h10 (AllP.cons h11 AllP.nil)))))))))))
theorem n_go_tff {x y : DV} {o : List Nat} {l n k c : Nat} {n0 : Int} {n1 : Int} {O : Orc} {st : St} (hs : HasY (nC).path (⟨[(15, .int .i64 (k : Int)), (14, .int .i64 (l : Int)), (13, dpv x), (6, .int .i64 (c : Int)), (1, dpv y), (5, .ms nK 1 0 n)], [(nK, .row 1 (dv o) false)], []⟩ : YS) st) (h1 : (↑k : Int) < (↑l : Int)) (h2 : (0 : Int) ≤ (↑k : Int)) (h3 : (dv x.2)[k]? = some (PV.int IntKind.u32 n0)) (h4 : IntKind.i64.wrap n0 = n0) (h5 : IntKind.i64.wrap (n0 - (↑c : Int)) = n0 - (↑c : Int)) (h6 : ¬ ((↑k : Int) < (↑(dv y.2).length : Int))) (h7 : ¬ (n0 - (↑c : Int) < (0 : Int))) (h8 : (0 : Int) ≤ (↑k : Int)) (h9 : (↑k : Int) < (↑n : Int)) (h10 : (dv o)[k]? = some (PV.int IntKind.u32 n1)) (h11 : IntKind.i64.wrap ((↑k : Int) + (1 : Int)) = (↑k : Int) + (1 : Int)) : ∃ st', Ev (nC) O (inner (inner (it 4 nB))) st (Ex.normal) st' ∧ HasY (nC).path ⟨[(15, PV.int IntKind.i64 ((↑k : Int) + (1 : Int))), (6, PV.int IntKind.i64 (0 : Int)), (14, PV.int IntKind.i64 (↑l : Int)), (13, dpv x), (1, dpv y), (5, PV.ms ([], 12, 0) 1 0 n)], [(([], 12, 0), Blk.row 1 ((dv o).set k (PV.int IntKind.u32 (IntKind.u32.wrap (n0 - (↑c : Int))))) false)], []⟩ st' :=
  HasY.walk (c := nC) (O := O) (fl := hts [(4, 0, Hint.bit true), (5, 1, Hint.elem (PV.int IntKind.u32 n0)), (6, 1, Hint.fit), (6, 3, Hint.fit), (7, 3, Hint.bit false), (10, 1, Hint.bit false), (12, 4, Hint.idx), (12, 5, Hint.put 0 true [Keep.drop] (PV.int IntKind.u32 n1)), (13, 0, Hint.fit)]) (n := 60) (y := (⟨[(15, .int .i64 (k : Int)), (14, .int .i64 (l : Int)), (13, dpv x), (6, .int .i64 (c : Int)), (1, dpv y), (5, .ms nK 1 0 n)], [(nK, .row 1 (dv o) false)], []⟩ : YS)) (ns := [15, 14, 13, 6, 1, 5]) (ks := [0]) (ds := []) hs (by kernel_rfl) (fun R => by kernel_rfl) (AllP.cons (decide_eq_true h1) (AllP.cons h2 (AllP.cons h3 (AllP.cons h4 (AllP.cons h5 (AllP.cons (decide_eq_false h6) (AllP.cons (decide_eq_false h7) (AllP.cons h8 (AllP.cons h9 (AllP.cons h10 (AllP.cons h11 AllP.nil)))))))))))
theorem n_go_f {x y : DV} {o : List Nat} {l n k c : Nat}  {O : Orc} {st : St} (hs : HasY (nC).path (⟨[(15, .int .i64 (k : Int)), (14, .int .i64 (l : Int)), (13, dpv x), (6, .int .i64 (c : Int)), (1, dpv y), (5, .ms nK 1 0 n)], [(nK, .row 1 (dv o) false)], []⟩ : YS) st) (h1 : ¬ ((↑k : Int) < (↑l : Int))) : ∃ st', Ev (nC) O (inner (inner (it 4 nB))) st (Ex.exit 0) st' ∧ HasY (nC).path ⟨[(15, PV.int IntKind.i64 (↑k : Int)), (14, PV.int IntKind.i64 (↑l : Int)), (13, dpv x), (6, PV.int IntKind.i64 (↑c : Int)), (1, dpv y), (5, PV.ms ([], 12, 0) 1 0 n)], [(([], 12, 0), Blk.row 1 (dv o) false)], []⟩ st' :=
  HasY.walk (c := nC) (O := O) (fl := hts [(4, 0, Hint.bit false)]) (n := 60) (y := (⟨[(15, .int .i64 (k : Int)), (14, .int .i64 (l : Int)), (13, dpv x), (6, .int .i64 (c : Int)), (1, dpv y), (5, .ms nK 1 0 n)], [(nK, .row 1 (dv o) false)], []⟩ : YS)) (ns := [15, 14, 13, 6, 1, 5]) (ks := [0]) (ds := []) hs (by kernel_rfl) (fun R => by kernel_rfl) (AllP.cons (decide_eq_false h1) AllP.nil)
theorem n_out {o : List Nat} {n : Nat}  {O : Orc} {st : St} (hs : HasY (nC).path (⟨[(5, .ms nK 1 0 n)], [(nK, .row 1 (dv o) false)], []⟩ : YS) st)  : ∃ st', Ev (nC) O (pcs 5 nB) st (Ex.ret) st' ∧ HasY (nC).path ⟨[(4, PV.ms ([], 12, 0) 1 0 n)], [(([], 12, 0), Blk.row 1 (dv o) false)], []⟩ st' :=
  HasY.walk (c := nC) (O := O) (fl := hts []) (n := 60) (y := (⟨[(5, .ms nK 1 0 n)], [(nK, .row 1 (dv o) false)], []⟩ : YS)) (ns := [4]) (ks := [0]) (ds := []) hs (by kernel_rfl) (fun R => by kernel_rfl) AllP.nil
theorem minus_step {M W d c e v0 v1 vx vy w P c' : Nat} (h5 : v0 + vy = vx + c * P) (hv : v1 + 0 * P = v0 + w * P) (hm : w + c + e = d + c' * M) : v1 + (vy + e * P) = vx + d * P + c' * (P * M) := by
  have : (w + c + e) * P = (d + c' * M) * P := by rw [hm]
  grind
theorem minus_loop {x y : DV} (hx : Dig x.a) (hy : Dig y.a) (hl : x.a.length < 2 ^ 40) (hyl : y.a.length ≤ x.a.length) {O : Orc} {st : St}
    (h : HasY [] ⟨[(15, .int .i64 ((0 : Nat) : Int)), (14, .int .i64 (x.a.length : Int)), (13, dpv x), (6, .int .i64 ((0 : Nat) : Int)), (1, dpv y), (5, .ms nK 1 0 x.a.length)], [(nK, .row 1 (dv (List.replicate x.a.length 0)) false)], []⟩ st) :
    ∃ st', Ev nC O (it 4 nB) st .normal st' ∧ ∃ o c, o.length = x.a.length ∧ Dig o ∧ c ≤ 1 ∧ val o + val y.a = val x.a + c * BB ^ x.a.length ∧
      HasY [] ⟨[(5, .ms nK 1 0 x.a.length)], [(nK, .row 1 (dv o) false)], []⟩ st' := by
  have key := Ev.roundsN (c := nC) (O := O) (body := inner (inner (it 4 nB))) (id := 0) (n := x.a.length)
    (I := fun k st => ∃ o c, o.length = x.a.length ∧ Dig o ∧ c ≤ 1 ∧ (∀ i, k ≤ i → i < x.a.length → o[i]? = some 0) ∧ val o + val (y.a.take k) = val (x.a.take k) + c * BB ^ k ∧
      HasY [] ⟨[(15, .int .i64 ((k : Nat) : Int)), (14, .int .i64 (x.a.length : Int)), (13, dpv x), (6, .int .i64 ((c : Nat) : Int)), (1, dpv y), (5, .ms nK 1 0 x.a.length)], [(nK, .row 1 (dv o) false)], []⟩ st)
    (Q := fun st' => ∃ o c, o.length = x.a.length ∧ Dig o ∧ c ≤ 1 ∧ val o + val y.a = val x.a + c * BB ^ x.a.length ∧
      HasY [] ⟨[(5, .ms nK 1 0 x.a.length)], [(nK, .row 1 (dv o) false)], []⟩ st') ?_ ?_ (st := st) ?_
  · obtain ⟨st', e, h'⟩ := key
    exact ⟨st', Ev.as (by kernel_rfl) e, h'⟩
  · rintro st ⟨o, c, h1, h2, h3, h4, h5, h6⟩
    obtain ⟨st', e, h'⟩ := n_go_f (O := O) h6 (by omega)
    rw [val_take_all (Nat.le_refl _), val_take_all hyl] at h5
    exact ⟨st', e, o, c, h1, h2, h3, h5, h'.to (fun R => ⟨rfl, trivial⟩) (fun x hx => hx) nilM⟩
  · rintro k hk st ⟨o, c, h1, h2, h3, h4, h5, h6⟩
    have gx : x.a[k]? = some x.a[k] := List.getElem?_eq_getElem hk
    have dx : x.a[k] < BB := hx _ (List.getElem_mem hk)
    have go := h4 k (Nat.le_refl _) (by omega)
    have vx := val_take_succ gx
    generalize x.a[k] = d at gx dx vx
    have dx' : d < 4294967296 := dx
    have fin : ∀ (w e c' : Nat), w < BB → c' ≤ 1 → val (y.a.take (k + 1)) = val (y.a.take k) + e * BB ^ k → w + c + e = d + c' * BB → ∀ {st' : St}, Ev nC O (inner (inner (it 4 nB))) st .normal st' →
        HasY [] ⟨[(15, .int .i64 (((k + 1 : Nat)) : Int)), (14, .int .i64 (x.a.length : Int)), (13, dpv x), (6, .int .i64 ((c' : Nat) : Int)), (1, dpv y), (5, .ms nK 1 0 x.a.length)], [(nK, .row 1 (dv (o.set k w)) false)], []⟩ st' →
        ∃ st', Ev nC O (inner (inner (it 4 nB))) st .normal st' ∧ ∃ o c, o.length = x.a.length ∧ Dig o ∧ c ≤ 1 ∧ (∀ i, k + 1 ≤ i → i < x.a.length → o[i]? = some 0) ∧ val o + val (y.a.take (k + 1)) = val (x.a.take (k + 1)) + c * BB ^ (k + 1) ∧
          HasY [] ⟨[(15, .int .i64 (((k + 1 : Nat)) : Int)), (14, .int .i64 (x.a.length : Int)), (13, dpv x), (6, .int .i64 ((c : Nat) : Int)), (1, dpv y), (5, .ms nK 1 0 x.a.length)], [(nK, .row 1 (dv o) false)], []⟩ st' := by
      intro w e c' hw hc' hy' hm st' ev h'
      refine ⟨st', ev, o.set k w, c', by simp [h1], dig_set h2 hw, hc', fun i hi hin => ?_, ?_, h'⟩
      · rw [get_set_ne (by omega)]; exact h4 i (by omega) hin
      · rw [vx, hy', Nat.pow_succ]
        exact minus_step (W := w) h5 (val_set w go) hm
    by_cases hky : k < y.a.length
    · have gy : y.a[k]? = some y.a[k] := List.getElem?_eq_getElem hky
      have dy : y.a[k] < BB := hy _ (List.getElem_mem hky)
      have vy := val_take_succ gy
      generalize y.a[k] = e at gy dy vy
      have dy' : e < 4294967296 := dy
      by_cases hn : (d : Int) - (c : Int) - (e : Int) < 0
      · obtain ⟨st', ev, h'⟩ := n_go_ttt (O := O) h6 (by omega) (by omega) (getDi gx) (wrapI (by omega) (by omega)) (wrapI (by omega) (by omega)) (by rw [lenD]; omega) (by omega) (getDi gy) (wrapI (by omega) (by omega)) (wrapI (by omega) (by omega)) hn (by omega) (by omega) (getDi go) (wrapI (by omega) (by omega))
        rw [wrapW, setDi _ _ _ (by omega)] at h'
        have hm : (((d : Int) - (c : Int) - (e : Int)) % 4294967296).toNat + c + e = d + 1 * BB := by simp only [BB]; omega
        exact fin _ e 1 (by simp only [BB]; omega) (by omega) vy hm ev (h'.to (fun R => ⟨rfl, rfl, rfl, rfl, rfl, rfl, trivial⟩) (fun x hx => hx) nilM)
      · obtain ⟨st', ev, h'⟩ := n_go_ttf (O := O) h6 (by omega) (by omega) (getDi gx) (wrapI (by omega) (by omega)) (wrapI (by omega) (by omega)) (by rw [lenD]; omega) (by omega) (getDi gy) (wrapI (by omega) (by omega)) (wrapI (by omega) (by omega)) hn (by omega) (by omega) (getDi go) (wrapI (by omega) (by omega))
        rw [wrapW, setDi _ _ _ (by omega)] at h'
        have hm : (((d : Int) - (c : Int) - (e : Int)) % 4294967296).toNat + c + e = d + 0 * BB := by simp only [BB]; omega
        exact fin _ e 0 (by simp only [BB]; omega) (by omega) vy hm ev (h'.to (fun R => ⟨rfl, rfl, rfl, rfl, rfl, rfl, trivial⟩) (fun x hx => hx) nilM)
    · have vy : val (y.a.take (k + 1)) = val (y.a.take k) + 0 * BB ^ k := by rw [val_take_all (show y.a.length ≤ k + 1 by omega), val_take_all (show y.a.length ≤ k by omega)]; omega
      by_cases hn : (d : Int) - (c : Int) < 0
      · obtain ⟨st', ev, h'⟩ := n_go_tft (O := O) h6 (by omega) (by omega) (getDi gx) (wrapI (by omega) (by omega)) (wrapI (by omega) (by omega)) (by rw [lenD]; omega) hn (by omega) (by omega) (getDi go) (wrapI (by omega) (by omega))
        rw [wrapW, setDi _ _ _ (by omega)] at h'
        have hm : (((d : Int) - (c : Int)) % 4294967296).toNat + c + 0 = d + 1 * BB := by simp only [BB]; omega
        exact fin _ 0 1 (by simp only [BB]; omega) (by omega) vy hm ev (h'.to (fun R => ⟨rfl, rfl, rfl, rfl, rfl, rfl, trivial⟩) (fun x hx => hx) nilM)
      · obtain ⟨st', ev, h'⟩ := n_go_tff (O := O) h6 (by omega) (by omega) (getDi gx) (wrapI (by omega) (by omega)) (wrapI (by omega) (by omega)) (by rw [lenD]; omega) hn (by omega) (by omega) (getDi go) (wrapI (by omega) (by omega))
        rw [wrapW, setDi _ _ _ (by omega)] at h'
        have hm : (((d : Int) - (c : Int)) % 4294967296).toNat + c + 0 = d + 0 * BB := by simp only [BB]; omega
        exact fin _ 0 0 (by simp only [BB]; omega) (by omega) vy hm ev (h'.to (fun R => ⟨rfl, rfl, rfl, rfl, rfl, rfl, trivial⟩) (fun x hx => hx) nilM)
  · exact ⟨_, 0, by simp, dig_zeros _, by omega, fun i _ hi => by simp [List.getElem?_replicate, hi], by simp [val_zeros, val], h⟩
theorem kn_minus {x y : DV} (hx : Dig x.a) (hy : Dig y.a) (hl : x.a.length < 2 ^ 40) (hyl : y.a.length ≤ x.a.length) (hle : val y.a ≤ val x.a) : ∃ o : DV, Dig o.a ∧ o.a.length = x.a.length ∧ val o.a = val x.a - val y.a ∧ Kn 106 [dpv x, dpv y] (dpv o) := by
  have hp := n_in (O := OO) (x := x) (y := y) (by omega) (by rw [lenD]; omega) (by rw [lenD]; omega)
  rw [lenD, dv_zeros] at hp
  obtain ⟨s1, e1, h1⟩ := hp
  obtain ⟨s2, e2, o, c, i1, i2, i3, i5, h2⟩ := minus_loop (O := OO) hx hy hl hyl (h1.to (fun R => ⟨rfl, rfl, rfl, rfl, rfl, rfl, trivial⟩) (fun x hx => hx) nilM)
  have hlt := val_lt i2
  rw [i1] at hlt
  have hc : c = 0 := by
    rcases Nat.lt_or_ge 0 c with h | h
    · have : 1 * BB ^ x.a.length ≤ c * BB ^ x.a.length := Nat.mul_le_mul_right _ h
      omega
    · omega
  subst hc
  obtain ⟨s3, e3, h3⟩ := n_out (O := OO) h2
  refine ⟨⟨false, o⟩, i2, i1, by simp only; omega, Kn.of rfl ?_⟩
  rw [← i1] at h3
  refine Runs.endY (O := OO) (y := ⟨[(4, PV.ms nK 1 0 o.length)], [(nK, Blk.row 1 (dv o) false)], []⟩) (ex := .ret) (st := s3) (ns := []) (rd := .row 0 true) ((e1.pcs (m := 4) (e2.pc1.pcs e3))) h3 Tryz.func106 (by kernel_rfl) (by simp only [PV.pers, PV.persL, Bool.and_self, Bool.and_true, Bool.true_and, persD, persIV, persRV, persDV]) (by rw [Tryz.ntmps106]; exact Nat.le_of_ble_eq_true rfl) rfl (fun R => by kernel_rfl) (AllP.cons (lenD o).symm (AllP.cons (persD o) (AllP.cons (szD o) AllP.nil)))

/-! ### Add -/
theorem iadd_t {x y : IV} {x0 : DV} {x1 : IV} {O : Orc} (h1 : (x.1 == y.1) = true) (h4 : O.pure 105 [PV.sl x.2 (dv x.3), PV.sl y.2 (dv y.3)] = some (dpv x0)) (h7 : O.pure 57 [PV.bool x.1, dpv x0] = some (ipv x1)) : Runs Pr pol O 86 [ipv x, ipv y] (ipv x1) :=
  Runs.goY (fl := hts [(0, 0, Hint.new []), (0, 1, Hint.new [Keep.apart]), (0, 2, Hint.new [Keep.apart, Keep.apart]), (1, 1, Hint.ld 2 true), (1, 3, Hint.ld 1 true), (1, 5, Hint.bit true), (2, 1, Hint.ld 2 true), (2, 3, Hint.ld 2 true), (2, 5, Hint.ld 1 true), (2, 6, Hint.call [Rd.p, Rd.p] [Keep.apart, Keep.apart, Keep.apart] (dpv x0)), (2, 7, Hint.call [Rd.p, Rd.p] [Keep.apart, Keep.apart, Keep.apart] (ipv x1)), (2, 8, Hint.st 0 true [Keep.drop, Keep.apart, Keep.apart])]) (n := 60) (ns := [0]) (ds := [2, 3, 4]) (rd := Rd.p) Tryz.func86 (body := bodyOf Tryz.f86) (by kernel_rfl) (by simp only [PV.pers, PV.persL, Bool.and_self, Bool.and_true, Bool.true_and, persD, persIV, persRV, persDV]) (by rw [Tryz.ntmps86]; exact Nat.le_of_ble_eq_true rfl) rfl (by kernel_rfl) (fun R => by kernel_rfl) (AllP.cons h1 (AllP.cons (show (PV.sl x.2 (dv x.3)).pers = true from by simp only [PV.pers, PV.persL, Bool.and_self, Bool.and_true, Bool.true_and, persD, persIV, persRV, persDV]) (AllP.cons (show (PV.sl y.2 (dv y.3)).pers = true from by simp only [PV.pers, PV.persL, Bool.and_self, Bool.and_true, Bool.true_and, persD, persIV, persRV, persDV]) (AllP.cons h4 (AllP.cons (show (PV.bool x.1).pers = true from by kernel_rfl) (AllP.cons (persDV x0) (AllP.cons h7 (AllP.cons (persIV x1) AllP.nil))))))))
theorem iadd_ft {x y : IV} {n0 : Int} {x1 : DV} {x2 : IV} {O : Orc} (h1 : (x.1 == y.1) = false) (h4 : O.pure 82 [PV.sl x.2 (dv x.3), PV.sl y.2 (dv y.3)] = some (PV.int IntKind.i64 n0)) (h5 : (0 : Int) ≤ n0) (h8 : O.pure 106 [PV.sl x.2 (dv x.3), PV.sl y.2 (dv y.3)] = some (dpv x1)) (h11 : O.pure 57 [PV.bool x.1, dpv x1] = some (ipv x2)) : Runs Pr pol O 86 [ipv x, ipv y] (ipv x2) :=
  Runs.goY (fl := hts [(0, 0, Hint.new []), (0, 1, Hint.new [Keep.apart]), (0, 2, Hint.new [Keep.apart, Keep.apart]), (1, 1, Hint.ld 2 true), (1, 3, Hint.ld 1 true), (1, 5, Hint.bit false), (3, 1, Hint.ld 2 true), (3, 3, Hint.ld 1 true), (3, 4, Hint.flat [Rd.p, Rd.p] (PV.int IntKind.i64 n0)), (3, 6, Hint.bit true), (4, 1, Hint.ld 2 true), (4, 3, Hint.ld 2 true), (4, 5, Hint.ld 1 true), (4, 6, Hint.call [Rd.p, Rd.p] [Keep.apart, Keep.apart, Keep.apart] (dpv x1)), (4, 7, Hint.call [Rd.p, Rd.p] [Keep.apart, Keep.apart, Keep.apart] (ipv x2)), (4, 8, Hint.st 0 true [Keep.drop, Keep.apart, Keep.apart])]) (n := 60) (ns := [0]) (ds := [2, 3, 4]) (rd := Rd.p) Tryz.func86 (body := bodyOf Tryz.f86) (by kernel_rfl) (by simp only [PV.pers, PV.persL, Bool.and_self, Bool.and_true, Bool.true_and, persD, persIV, persRV, persDV]) (by rw [Tryz.ntmps86]; exact Nat.le_of_ble_eq_true rfl) rfl (by kernel_rfl) (fun R => by kernel_rfl) (AllP.cons h1 (AllP.cons (show (PV.sl x.2 (dv x.3)).pers = true from by simp only [PV.pers, PV.persL, Bool.and_self, Bool.and_true, Bool.true_and, persD, persIV, persRV, persDV]) (AllP.cons (show (PV.sl y.2 (dv y.3)).pers = true from by simp only [PV.pers, PV.persL, Bool.and_self, Bool.and_true, Bool.true_and, persD, persIV, persRV, persDV]) (AllP.cons h4 (AllP.cons (decide_eq_true h5) (AllP.cons (show (PV.sl x.2 (dv x.3)).pers = true from by simp only [PV.pers, PV.persL, Bool.and_self, Bool.and_true, Bool.true_and, persD, persIV, persRV, persDV]) (AllP.cons (show (PV.sl y.2 (dv y.3)).pers = true from by simp only [PV.pers, PV.persL, Bool.and_self, Bool.and_true, Bool.true_and, persD, persIV, persRV, persDV]) (AllP.cons h8 (AllP.cons (show (PV.bool x.1).pers = true from by kernel_rfl) (AllP.cons (persDV x1) (AllP.cons h11 (AllP.cons (persIV x2) AllP.nil))))))))))))
theorem iadd_ff {x y : IV} {n0 : Int} {x1 : DV} {x2 : IV} {O : Orc} (h1 : (x.1 == y.1) = false) (h4 : O.pure 82 [PV.sl x.2 (dv x.3), PV.sl y.2 (dv y.3)] = some (PV.int IntKind.i64 n0)) (h5 : ¬ ((0 : Int) ≤ n0)) (h8 : O.pure 106 [PV.sl y.2 (dv y.3), PV.sl x.2 (dv x.3)] = some (dpv x1)) (h11 : O.pure 57 [PV.bool y.1, dpv x1] = some (ipv x2)) : Runs Pr pol O 86 [ipv x, ipv y] (ipv x2) :=
  Runs.goY (fl := hts [(0, 0, Hint.new []), (0, 1, Hint.new [Keep.apart]), (0, 2, Hint.new [Keep.apart, Keep.apart]), (1, 1, Hint.ld 2 true), (1, 3, Hint.ld 1 true), (1, 5, Hint.bit false), (3, 1, Hint.ld 2 true), (3, 3, Hint.ld 1 true), (3, 4, Hint.flat [Rd.p, Rd.p] (PV.int IntKind.i64 n0)), (3, 6, Hint.bit false), (5, 1, Hint.ld 1 true), (5, 3, Hint.ld 1 true), (5, 5, Hint.ld 2 true), (5, 6, Hint.call [Rd.p, Rd.p] [Keep.apart, Keep.apart, Keep.apart] (dpv x1)), (5, 7, Hint.call [Rd.p, Rd.p] [Keep.apart, Keep.apart, Keep.apart] (ipv x2)), (5, 8, Hint.st 0 true [Keep.drop, Keep.apart, Keep.apart])]) (n := 60) (ns := [0]) (ds := [2, 3, 4]) (rd := Rd.p) Tryz.func86 (body := bodyOf Tryz.f86) (by kernel_rfl) (by simp only [PV.pers, PV.persL, Bool.and_self, Bool.and_true, Bool.true_and, persD, persIV, persRV, persDV]) (by rw [Tryz.ntmps86]; exact Nat.le_of_ble_eq_true rfl) rfl (by kernel_rfl) (fun R => by kernel_rfl) (AllP.cons h1 (AllP.cons (show (PV.sl x.2 (dv x.3)).pers = true from by simp only [PV.pers, PV.persL, Bool.and_self, Bool.and_true, Bool.true_and, persD, persIV, persRV, persDV]) (AllP.cons (show (PV.sl y.2 (dv y.3)).pers = true from by simp only [PV.pers, PV.persL, Bool.and_self, Bool.and_true, Bool.true_and, persD, persIV, persRV, persDV]) (AllP.cons h4 (AllP.cons (decide_eq_false h5) (AllP.cons (show (PV.sl y.2 (dv y.3)).pers = true from by simp only [PV.pers, PV.persL, Bool.and_self, Bool.and_true, Bool.true_and, persD, persIV, persRV, persDV]) (AllP.cons (show (PV.sl x.2 (dv x.3)).pers = true from by simp only [PV.pers, PV.persL, Bool.and_self, Bool.and_true, Bool.true_and, persD, persIV, persRV, persDV]) (AllP.cons h8 (AllP.cons (show (PV.bool y.1).pers = true from by kernel_rfl) (AllP.cons (persDV x1) (AllP.cons h11 (AllP.cons (persIV x2) AllP.nil))))))))))))
/-- The whole number that a value is. -/
structure IsI (z : Int) (x : IV) : Prop where
  s : x.s = decide (z < 0)
  a : x.a = digs z.natAbs
def mkI (f : Bool) (z : Int) : IV := ⟨decide (z < 0), f, digs z.natAbs⟩
theorem isI_mk (f : Bool) (z : Int) : IsI z (mkI f z) := ⟨rfl, rfl⟩
theorem IsI.eq {z : Int} {x : IV} (h : IsI z x) : ipv x = iv x.f z := by
  obtain ⟨s, f, a⟩ := x
  obtain ⟨h1, h2⟩ := h
  simp only at h1 h2
  subst h1 h2
  rfl
theorem IsI.dig {z : Int} {x : IV} (h : IsI z x) : Dig x.a := h.a ▸ dig_digs _
theorem IsI.len {z : Int} {x : IV} (h : IsI z x) (ho : Ok z) : x.a.length ≤ 100 := by rw [h.a]; exact digs_len_le ho
theorem IsI.val {z : Int} {x : IV} (h : IsI z x) : Z.val x.a = z.natAbs := by rw [h.a, val_digs]
theorem kn_signed {b : Bool} {o : DV} (hd : Dig o.a) (hl : o.a.length < 2 ^ 62) : ∃ x, IsI (if b = true then -(Z.val o.a : Int) else Z.val o.a) x ∧ Kn 57 [.bool b, dpv o] (ipv x) :=
  ⟨mkI (trimF o.f o.a) _, isI_mk .., (known_signed (b := b) (f := o.f) hd hl).kn⟩
theorem kn_iadd {a b : Int} {x y : IV} (hx : IsI a x) (hy : IsI b y) (ha : Ok a) (hb : Ok b) : ∃ z, IsI (a + b) z ∧ Kn 86 [ipv x, ipv y] (ipv z) := by
  have lx := hx.len ha
  have ly := hy.len hb
  by_cases hs : decide (a < 0) = decide (b < 0)
  · obtain ⟨o, d1, d2, d3, k1⟩ := kn_plus (x := ⟨x.f, x.a⟩) (y := ⟨y.f, y.a⟩) hx.dig hy.dig (by simp only; omega) (by simp only; omega)
    simp only [hx.val, hy.val] at d2 d3
    obtain ⟨z, hz, k2⟩ := kn_signed (b := x.s) (o := o) d1 (by omega)
    refine ⟨z, ?_, Kn.of rfl (iadd_t (O := OO) (by rw [hx.s, hy.s, hs]; simp) k1 k2)⟩
    have : (if x.s = true then -(Z.val o.a : Int) else Z.val o.a) = a + b := by
      rw [hx.s, d3]
      by_cases h : a < 0
      · have : b < 0 := by
          by_cases h' : b < 0
          · exact h'
          · rw [decide_eq_true h, decide_eq_false h'] at hs; cases hs
        rw [if_pos (decide_eq_true h)]; omega
      · have : ¬ b < 0 := by
          by_cases h' : b < 0
          · rw [decide_eq_false h, decide_eq_true h'] at hs; cases hs
          · exact h'
        rw [if_neg (by simp [h])]; omega
    rwa [this] at hz
  · have hne : (x.s == y.s) = false := by rw [hx.s, hy.s]; simpa using hs
    have ko := (known_order (f := x.f) (g := y.f) (a := a.natAbs) (b := b.natAbs) (by rw [← hx.a]; omega)).kn
    rw [← hx.a, ← hy.a] at ko
    by_cases hc : 0 ≤ cmpN a.natAbs b.natAbs
    · have hle : b.natAbs ≤ a.natAbs := by
        unfold cmpN at hc
        split at hc
        · omega
        · omega
      have hlen : y.a.length ≤ x.a.length := by
        rw [hx.a, hy.a]
        rcases Nat.lt_or_ge (digs a.natAbs).length (digs b.natAbs).length with h | h
        · have := digs_len_lt h; omega
        · exact h
      obtain ⟨o, d1, d2, d3, k1⟩ := kn_minus (x := ⟨x.f, x.a⟩) (y := ⟨y.f, y.a⟩) hx.dig hy.dig (by simp only; omega) hlen (by simp only [hx.val, hy.val]; exact hle)
      simp only [hx.val, hy.val] at d2 d3
      obtain ⟨z, hz, k2⟩ := kn_signed (b := x.s) (o := o) d1 (by omega)
      refine ⟨z, ?_, Kn.of rfl (iadd_ft (O := OO) hne ko hc k1 k2)⟩
      have : (if x.s = true then -(Z.val o.a : Int) else Z.val o.a) = a + b := by
        rw [hx.s, d3]
        by_cases h : a < 0
        · have : ¬ b < 0 := fun h' => hs (by rw [decide_eq_true h, decide_eq_true h'])
          rw [if_pos (decide_eq_true h)]; omega
        · have : b < 0 := by
            by_cases h' : b < 0
            · exact h'
            · exact absurd (by rw [decide_eq_false h, decide_eq_false h']) hs
          rw [if_neg (by simp [h])]; omega
      rwa [this] at hz
    · have hlt : a.natAbs < b.natAbs := by
        unfold cmpN at hc
        split at hc
        · assumption
        · split at hc <;> omega
      have hlen : x.a.length ≤ y.a.length := by
        rw [hx.a, hy.a]
        rcases Nat.lt_or_ge (digs b.natAbs).length (digs a.natAbs).length with h | h
        · have := digs_len_lt h; omega
        · exact h
      obtain ⟨o, d1, d2, d3, k1⟩ := kn_minus (x := ⟨y.f, y.a⟩) (y := ⟨x.f, x.a⟩) hy.dig hx.dig (by simp only; omega) hlen (by simp only [hx.val, hy.val]; omega)
      simp only [hx.val, hy.val] at d2 d3
      obtain ⟨z, hz, k2⟩ := kn_signed (b := y.s) (o := o) d1 (by omega)
      refine ⟨z, ?_, Kn.of rfl (iadd_ff (O := OO) hne ko hc k1 k2)⟩
      have : (if y.s = true then -(Z.val o.a : Int) else Z.val o.a) = a + b := by
        rw [hy.s, d3]
        by_cases h : b < 0
        · have : ¬ a < 0 := fun h' => hs (by rw [decide_eq_true h, decide_eq_true h'])
          rw [if_pos (decide_eq_true h)]; omega
        · have : a < 0 := by
            by_cases h' : a < 0
            · exact h'
            · exact absurd (by rw [decide_eq_false h, decide_eq_false h']) hs
          rw [if_neg (by simp [h])]; omega
      rwa [this] at hz
end Go.Proofs.YtigfgicjjhepoaaGreatDoor.VA.Z
set_option linter.unusedVariables false
set_option linter.unusedSimpArgs false
namespace Go.Proofs.YtigfgicjjhepoaaGreatDoor.VA.Z
open Go Go.Proofs
theorem radd_tt {x y : RV}   {x2 : IV} {O : Orc} (h2 : O.pure 45 [rpv x] = some (PV.bool true)) (h5 : O.pure 45 [rpv y] = some (PV.bool true)) (h9 : O.pure 86 [ipv x.n, ipv y.n] = some (ipv x2)) : Runs Pr pol O 63 [rpv x, rpv y] (PV.agg [PV.bool x2.1, PV.sl x2.2 (dv x2.3), PV.bool false, PV.sl true []]) :=
  Runs.goY (fl := hts [(0, 0, Hint.new []), (0, 1, Hint.new [Keep.apart]), (0, 2, Hint.new [Keep.apart, Keep.apart]), (1, 0, Hint.ld 2 true), (1, 1, Hint.flat [Rd.p] (PV.bool true)), (1, 2, Hint.bit true), (1, 3, Hint.ld 1 true), (1, 4, Hint.flat [Rd.p] (PV.bool true)), (1, 5, Hint.bit true), (2, 1, Hint.ld 2 true), (2, 3, Hint.ld 1 true), (2, 4, Hint.call [Rd.p, Rd.p] [Keep.apart, Keep.apart, Keep.apart] (ipv x2)), (2, 6, Hint.st 0 true [Keep.drop, Keep.apart, Keep.apart])]) (n := 60) (ns := [0]) (ds := [2, 3, 4]) (rd := Rd.p) Tryz.func63 (body := bodyOf Tryz.f63) (by kernel_rfl) (by simp only [PV.pers, PV.persL, Bool.and_self, Bool.and_true, Bool.true_and, persD, persIV, persRV, persDV]) (by rw [Tryz.ntmps63]; exact Nat.le_of_ble_eq_true rfl) rfl (by kernel_rfl) (fun R => by kernel_rfl) (AllP.cons (persRV x) (AllP.cons h2 (AllP.cons (show (true : Bool) = true from rfl) (AllP.cons (persRV y) (AllP.cons h5 (AllP.cons (show (true : Bool) = true from rfl) (AllP.cons (persIV (x.n)) (AllP.cons (persIV (y.n)) (AllP.cons h9 (AllP.cons (show (PV.agg [PV.bool x2.1, PV.sl x2.2 (dv x2.3), PV.bool false, PV.sl true []]).pers = true from by simp only [PV.pers, PV.persL, Bool.and_self, Bool.and_true, Bool.true_and, persD, persIV, persRV, persDV]) AllP.nil))))))))))
theorem radd_tf {x y : RV}   {x2 : IV} {x3 : IV} {x4 : IV} {x5 : IV} {x6 : IV} {x7 : IV} {x8 : IV} {x9 : IV} {x10 : RV} {O : Orc} (h2 : O.pure 45 [rpv x] = some (PV.bool true)) (h5 : O.pure 45 [rpv y] = some (PV.bool false)) (h8 : O.pure 37 [rpv y] = some (ipv x2)) (h11 : O.pure 36 [ipv x.n, ipv x2] = some (ipv x3)) (h13 : O.pure 37 [rpv x] = some (ipv x4)) (h16 : O.pure 36 [ipv y.n, ipv x4] = some (ipv x5)) (h19 : O.pure 86 [ipv x3, ipv x5] = some (ipv x6)) (h21 : O.pure 37 [rpv x] = some (ipv x7)) (h23 : O.pure 37 [rpv y] = some (ipv x8)) (h26 : O.pure 36 [ipv x7, ipv x8] = some (ipv x9)) (h29 : O.pure 35 [ipv x6, ipv x9] = some (rpv x10)) : Runs Pr pol O 63 [rpv x, rpv y] (rpv x10) :=
  Runs.goY (fl := hts [(0, 0, Hint.new []), (0, 1, Hint.new [Keep.apart]), (0, 2, Hint.new [Keep.apart, Keep.apart]), (1, 0, Hint.ld 2 true), (1, 1, Hint.flat [Rd.p] (PV.bool true)), (1, 2, Hint.bit true), (1, 3, Hint.ld 1 true), (1, 4, Hint.flat [Rd.p] (PV.bool false)), (1, 5, Hint.bit false), (3, 1, Hint.ld 2 true), (3, 2, Hint.ld 1 true), (3, 3, Hint.call [Rd.p] [Keep.apart, Keep.apart, Keep.apart] (ipv x2)), (3, 4, Hint.call [Rd.p, Rd.p] [Keep.apart, Keep.apart, Keep.apart] (ipv x3)), (3, 6, Hint.ld 1 true), (3, 7, Hint.ld 2 true), (3, 8, Hint.call [Rd.p] [Keep.apart, Keep.apart, Keep.apart] (ipv x4)), (3, 9, Hint.call [Rd.p, Rd.p] [Keep.apart, Keep.apart, Keep.apart] (ipv x5)), (3, 10, Hint.call [Rd.p, Rd.p] [Keep.apart, Keep.apart, Keep.apart] (ipv x6)), (3, 11, Hint.ld 2 true), (3, 12, Hint.call [Rd.p] [Keep.apart, Keep.apart, Keep.apart] (ipv x7)), (3, 13, Hint.ld 1 true), (3, 14, Hint.call [Rd.p] [Keep.apart, Keep.apart, Keep.apart] (ipv x8)), (3, 15, Hint.call [Rd.p, Rd.p] [Keep.apart, Keep.apart, Keep.apart] (ipv x9)), (3, 16, Hint.call [Rd.p, Rd.p] [Keep.apart, Keep.apart, Keep.apart] (rpv x10)), (3, 17, Hint.st 0 true [Keep.drop, Keep.apart, Keep.apart])]) (n := 60) (ns := [0]) (ds := [2, 3, 4]) (rd := Rd.p) Tryz.func63 (body := bodyOf Tryz.f63) (by kernel_rfl) (by simp only [PV.pers, PV.persL, Bool.and_self, Bool.and_true, Bool.true_and, persD, persIV, persRV, persDV]) (by rw [Tryz.ntmps63]; exact Nat.le_of_ble_eq_true rfl) rfl (by kernel_rfl) (fun R => by kernel_rfl) (AllP.cons (persRV x) (AllP.cons h2 (AllP.cons (show (true : Bool) = true from rfl) (AllP.cons (persRV y) (AllP.cons h5 (AllP.cons (show (false : Bool) = false from rfl) (AllP.cons (persRV y) (AllP.cons h8 (AllP.cons (persIV (x.n)) (AllP.cons (persIV x2) (AllP.cons h11 (AllP.cons (persRV x) (AllP.cons h13 (AllP.cons (persIV (y.n)) (AllP.cons (persIV x4) (AllP.cons h16 (AllP.cons (persIV x3) (AllP.cons (persIV x5) (AllP.cons h19 (AllP.cons (persRV x) (AllP.cons h21 (AllP.cons (persRV y) (AllP.cons h23 (AllP.cons (persIV x7) (AllP.cons (persIV x8) (AllP.cons h26 (AllP.cons (persIV x6) (AllP.cons (persIV x9) (AllP.cons h29 (AllP.cons (persRV x10) AllP.nil))))))))))))))))))))))))))))))
theorem radd_f {x y : RV}  {x1 : IV} {x2 : IV} {x3 : IV} {x4 : IV} {x5 : IV} {x6 : IV} {x7 : IV} {x8 : IV} {x9 : RV} {O : Orc} (h2 : O.pure 45 [rpv x] = some (PV.bool false)) (h5 : O.pure 37 [rpv y] = some (ipv x1)) (h8 : O.pure 36 [ipv x.n, ipv x1] = some (ipv x2)) (h10 : O.pure 37 [rpv x] = some (ipv x3)) (h13 : O.pure 36 [ipv y.n, ipv x3] = some (ipv x4)) (h16 : O.pure 86 [ipv x2, ipv x4] = some (ipv x5)) (h18 : O.pure 37 [rpv x] = some (ipv x6)) (h20 : O.pure 37 [rpv y] = some (ipv x7)) (h23 : O.pure 36 [ipv x6, ipv x7] = some (ipv x8)) (h26 : O.pure 35 [ipv x5, ipv x8] = some (rpv x9)) : Runs Pr pol O 63 [rpv x, rpv y] (rpv x9) :=
  Runs.goY (fl := hts [(0, 0, Hint.new []), (0, 1, Hint.new [Keep.apart]), (0, 2, Hint.new [Keep.apart, Keep.apart]), (1, 0, Hint.ld 2 true), (1, 1, Hint.flat [Rd.p] (PV.bool false)), (1, 2, Hint.bit false), (3, 1, Hint.ld 2 true), (3, 2, Hint.ld 1 true), (3, 3, Hint.call [Rd.p] [Keep.apart, Keep.apart, Keep.apart] (ipv x1)), (3, 4, Hint.call [Rd.p, Rd.p] [Keep.apart, Keep.apart, Keep.apart] (ipv x2)), (3, 6, Hint.ld 1 true), (3, 7, Hint.ld 2 true), (3, 8, Hint.call [Rd.p] [Keep.apart, Keep.apart, Keep.apart] (ipv x3)), (3, 9, Hint.call [Rd.p, Rd.p] [Keep.apart, Keep.apart, Keep.apart] (ipv x4)), (3, 10, Hint.call [Rd.p, Rd.p] [Keep.apart, Keep.apart, Keep.apart] (ipv x5)), (3, 11, Hint.ld 2 true), (3, 12, Hint.call [Rd.p] [Keep.apart, Keep.apart, Keep.apart] (ipv x6)), (3, 13, Hint.ld 1 true), (3, 14, Hint.call [Rd.p] [Keep.apart, Keep.apart, Keep.apart] (ipv x7)), (3, 15, Hint.call [Rd.p, Rd.p] [Keep.apart, Keep.apart, Keep.apart] (ipv x8)), (3, 16, Hint.call [Rd.p, Rd.p] [Keep.apart, Keep.apart, Keep.apart] (rpv x9)), (3, 17, Hint.st 0 true [Keep.drop, Keep.apart, Keep.apart])]) (n := 60) (ns := [0]) (ds := [2, 3, 4]) (rd := Rd.p) Tryz.func63 (body := bodyOf Tryz.f63) (by kernel_rfl) (by simp only [PV.pers, PV.persL, Bool.and_self, Bool.and_true, Bool.true_and, persD, persIV, persRV, persDV]) (by rw [Tryz.ntmps63]; exact Nat.le_of_ble_eq_true rfl) rfl (by kernel_rfl) (fun R => by kernel_rfl) (AllP.cons (persRV x) (AllP.cons h2 (AllP.cons (show (false : Bool) = false from rfl) (AllP.cons (persRV y) (AllP.cons h5 (AllP.cons (persIV (x.n)) (AllP.cons (persIV x1) (AllP.cons h8 (AllP.cons (persRV x) (AllP.cons h10 (AllP.cons (persIV (y.n)) (AllP.cons (persIV x3) (AllP.cons h13 (AllP.cons (persIV x2) (AllP.cons (persIV x4) (AllP.cons h16 (AllP.cons (persRV x) (AllP.cons h18 (AllP.cons (persRV y) (AllP.cons h20 (AllP.cons (persIV x6) (AllP.cons (persIV x7) (AllP.cons h23 (AllP.cons (persIV x5) (AllP.cons (persIV x8) (AllP.cons h26 (AllP.cons (persRV x9) AllP.nil)))))))))))))))))))))))))))
theorem rmul_tt {x y : RV}   {x2 : IV} {O : Orc} (h2 : O.pure 45 [rpv x] = some (PV.bool true)) (h5 : O.pure 45 [rpv y] = some (PV.bool true)) (h9 : O.pure 36 [ipv x.n, ipv y.n] = some (ipv x2)) : Runs Pr pol O 41 [rpv x, rpv y] (PV.agg [PV.bool x2.1, PV.sl x2.2 (dv x2.3), PV.bool false, PV.sl true []]) :=
  Runs.goY (fl := hts [(0, 0, Hint.new []), (0, 1, Hint.new [Keep.apart]), (0, 2, Hint.new [Keep.apart, Keep.apart]), (1, 0, Hint.ld 2 true), (1, 1, Hint.flat [Rd.p] (PV.bool true)), (1, 2, Hint.bit true), (1, 3, Hint.ld 1 true), (1, 4, Hint.flat [Rd.p] (PV.bool true)), (1, 5, Hint.bit true), (2, 1, Hint.ld 2 true), (2, 3, Hint.ld 1 true), (2, 4, Hint.call [Rd.p, Rd.p] [Keep.apart, Keep.apart, Keep.apart] (ipv x2)), (2, 6, Hint.st 0 true [Keep.drop, Keep.apart, Keep.apart])]) (n := 60) (ns := [0]) (ds := [2, 3, 4]) (rd := Rd.p) Tryz.func41 (body := bodyOf Tryz.f41) (by kernel_rfl) (by simp only [PV.pers, PV.persL, Bool.and_self, Bool.and_true, Bool.true_and, persD, persIV, persRV, persDV]) (by rw [Tryz.ntmps41]; exact Nat.le_of_ble_eq_true rfl) rfl (by kernel_rfl) (fun R => by kernel_rfl) (AllP.cons (persRV x) (AllP.cons h2 (AllP.cons (show (true : Bool) = true from rfl) (AllP.cons (persRV y) (AllP.cons h5 (AllP.cons (show (true : Bool) = true from rfl) (AllP.cons (persIV (x.n)) (AllP.cons (persIV (y.n)) (AllP.cons h9 (AllP.cons (show (PV.agg [PV.bool x2.1, PV.sl x2.2 (dv x2.3), PV.bool false, PV.sl true []]).pers = true from by simp only [PV.pers, PV.persL, Bool.and_self, Bool.and_true, Bool.true_and, persD, persIV, persRV, persDV]) AllP.nil))))))))))
theorem rmul_tf {x y : RV}   {x2 : IV} {x3 : IV} {x4 : IV} {x5 : IV} {x6 : RV} {O : Orc} (h2 : O.pure 45 [rpv x] = some (PV.bool true)) (h5 : O.pure 45 [rpv y] = some (PV.bool false)) (h9 : O.pure 36 [ipv x.n, ipv y.n] = some (ipv x2)) (h11 : O.pure 37 [rpv x] = some (ipv x3)) (h13 : O.pure 37 [rpv y] = some (ipv x4)) (h16 : O.pure 36 [ipv x3, ipv x4] = some (ipv x5)) (h19 : O.pure 35 [ipv x2, ipv x5] = some (rpv x6)) : Runs Pr pol O 41 [rpv x, rpv y] (rpv x6) :=
  Runs.goY (fl := hts [(0, 0, Hint.new []), (0, 1, Hint.new [Keep.apart]), (0, 2, Hint.new [Keep.apart, Keep.apart]), (1, 0, Hint.ld 2 true), (1, 1, Hint.flat [Rd.p] (PV.bool true)), (1, 2, Hint.bit true), (1, 3, Hint.ld 1 true), (1, 4, Hint.flat [Rd.p] (PV.bool false)), (1, 5, Hint.bit false), (3, 1, Hint.ld 2 true), (3, 3, Hint.ld 1 true), (3, 4, Hint.call [Rd.p, Rd.p] [Keep.apart, Keep.apart, Keep.apart] (ipv x2)), (3, 5, Hint.ld 2 true), (3, 6, Hint.call [Rd.p] [Keep.apart, Keep.apart, Keep.apart] (ipv x3)), (3, 7, Hint.ld 1 true), (3, 8, Hint.call [Rd.p] [Keep.apart, Keep.apart, Keep.apart] (ipv x4)), (3, 9, Hint.call [Rd.p, Rd.p] [Keep.apart, Keep.apart, Keep.apart] (ipv x5)), (3, 10, Hint.call [Rd.p, Rd.p] [Keep.apart, Keep.apart, Keep.apart] (rpv x6)), (3, 11, Hint.st 0 true [Keep.drop, Keep.apart, Keep.apart])]) (n := 60) (ns := [0]) (ds := [2, 3, 4]) (rd := Rd.p) Tryz.func41 (body := bodyOf Tryz.f41) (by kernel_rfl) (by simp only [PV.pers, PV.persL, Bool.and_self, Bool.and_true, Bool.true_and, persD, persIV, persRV, persDV]) (by rw [Tryz.ntmps41]; exact Nat.le_of_ble_eq_true rfl) rfl (by kernel_rfl) (fun R => by kernel_rfl) (AllP.cons (persRV x) (AllP.cons h2 (AllP.cons (show (true : Bool) = true from rfl) (AllP.cons (persRV y) (AllP.cons h5 (AllP.cons (show (false : Bool) = false from rfl) (AllP.cons (persIV (x.n)) (AllP.cons (persIV (y.n)) (AllP.cons h9 (AllP.cons (persRV x) (AllP.cons h11 (AllP.cons (persRV y) (AllP.cons h13 (AllP.cons (persIV x3) (AllP.cons (persIV x4) (AllP.cons h16 (AllP.cons (persIV x2) (AllP.cons (persIV x5) (AllP.cons h19 (AllP.cons (persRV x6) AllP.nil))))))))))))))))))))
theorem rmul_f {x y : RV}  {x1 : IV} {x2 : IV} {x3 : IV} {x4 : IV} {x5 : RV} {O : Orc} (h2 : O.pure 45 [rpv x] = some (PV.bool false)) (h6 : O.pure 36 [ipv x.n, ipv y.n] = some (ipv x1)) (h8 : O.pure 37 [rpv x] = some (ipv x2)) (h10 : O.pure 37 [rpv y] = some (ipv x3)) (h13 : O.pure 36 [ipv x2, ipv x3] = some (ipv x4)) (h16 : O.pure 35 [ipv x1, ipv x4] = some (rpv x5)) : Runs Pr pol O 41 [rpv x, rpv y] (rpv x5) :=
  Runs.goY (fl := hts [(0, 0, Hint.new []), (0, 1, Hint.new [Keep.apart]), (0, 2, Hint.new [Keep.apart, Keep.apart]), (1, 0, Hint.ld 2 true), (1, 1, Hint.flat [Rd.p] (PV.bool false)), (1, 2, Hint.bit false), (3, 1, Hint.ld 2 true), (3, 3, Hint.ld 1 true), (3, 4, Hint.call [Rd.p, Rd.p] [Keep.apart, Keep.apart, Keep.apart] (ipv x1)), (3, 5, Hint.ld 2 true), (3, 6, Hint.call [Rd.p] [Keep.apart, Keep.apart, Keep.apart] (ipv x2)), (3, 7, Hint.ld 1 true), (3, 8, Hint.call [Rd.p] [Keep.apart, Keep.apart, Keep.apart] (ipv x3)), (3, 9, Hint.call [Rd.p, Rd.p] [Keep.apart, Keep.apart, Keep.apart] (ipv x4)), (3, 10, Hint.call [Rd.p, Rd.p] [Keep.apart, Keep.apart, Keep.apart] (rpv x5)), (3, 11, Hint.st 0 true [Keep.drop, Keep.apart, Keep.apart])]) (n := 60) (ns := [0]) (ds := [2, 3, 4]) (rd := Rd.p) Tryz.func41 (body := bodyOf Tryz.f41) (by kernel_rfl) (by simp only [PV.pers, PV.persL, Bool.and_self, Bool.and_true, Bool.true_and, persD, persIV, persRV, persDV]) (by rw [Tryz.ntmps41]; exact Nat.le_of_ble_eq_true rfl) rfl (by kernel_rfl) (fun R => by kernel_rfl) (AllP.cons (persRV x) (AllP.cons h2 (AllP.cons (show (false : Bool) = false from rfl) (AllP.cons (persIV (x.n)) (AllP.cons (persIV (y.n)) (AllP.cons h6 (AllP.cons (persRV x) (AllP.cons h8 (AllP.cons (persRV y) (AllP.cons h10 (AllP.cons (persIV x2) (AllP.cons (persIV x3) (AllP.cons h13 (AllP.cons (persIV x1) (AllP.cons (persIV x4) (AllP.cons h16 (AllP.cons (persRV x5) AllP.nil)))))))))))))))))
theorem rabs {x : RV} {x0 : IV} {O : Orc} (h2 : O.pure 65 [ipv x.n] = some (ipv x0)) : Runs Pr pol O 44 [rpv x] (PV.agg [PV.bool x0.1, PV.sl x0.2 (dv x0.3), PV.bool x.d.1, PV.sl x.d.2 (dv x.d.3)]) :=
  Runs.goY (fl := hts [(0, 0, Hint.new []), (0, 1, Hint.new [Keep.apart]), (1, 1, Hint.ld 1 true), (1, 2, Hint.call [Rd.p] [Keep.apart, Keep.apart] (ipv x0)), (1, 4, Hint.ld 1 true), (1, 6, Hint.st 0 true [Keep.drop, Keep.apart])]) (n := 60) (ns := [0]) (ds := [1, 2]) (rd := Rd.p) Tryz.func44 (body := bodyOf Tryz.f44) (by kernel_rfl) (by simp only [PV.pers, PV.persL, Bool.and_self, Bool.and_true, Bool.true_and, persD, persIV, persRV, persDV]) (by rw [Tryz.ntmps44]; exact Nat.le_of_ble_eq_true rfl) rfl (by kernel_rfl) (fun R => by kernel_rfl) (AllP.cons (persIV (x.n)) (AllP.cons h2 (AllP.cons (show (PV.agg [PV.bool x0.1, PV.sl x0.2 (dv x0.3), PV.bool x.d.1, PV.sl x.d.2 (dv x.d.3)]).pers = true from by simp only [PV.pers, PV.persL, Bool.and_self, Bool.and_true, Bool.true_and, persD, persIV, persRV, persDV]) AllP.nil)))
theorem rmin_t {x y : RV} {n0 : Int} {O : Orc} (h3 : O.pure 32 [rpv y, rpv x] = some (PV.int IntKind.i64 n0)) (h4 : n0 < (0 : Int)) : Runs Pr pol O 42 [rpv x, rpv y] (rpv y) :=
  Runs.goY (fl := hts [(0, 0, Hint.new []), (0, 1, Hint.new [Keep.apart]), (0, 2, Hint.new [Keep.apart, Keep.apart]), (1, 0, Hint.ld 1 true), (1, 1, Hint.ld 2 true), (1, 2, Hint.flat [Rd.p, Rd.p] (PV.int IntKind.i64 n0)), (1, 3, Hint.bit true), (2, 0, Hint.ld 1 true), (2, 1, Hint.st 0 true [Keep.drop, Keep.apart, Keep.apart])]) (n := 60) (ns := [0]) (ds := [2, 3, 4]) (rd := Rd.p) Tryz.func42 (body := bodyOf Tryz.f42) (by kernel_rfl) (by simp only [PV.pers, PV.persL, Bool.and_self, Bool.and_true, Bool.true_and, persD, persIV, persRV, persDV]) (by rw [Tryz.ntmps42]; exact Nat.le_of_ble_eq_true rfl) rfl (by kernel_rfl) (fun R => by kernel_rfl) (AllP.cons (persRV y) (AllP.cons (persRV x) (AllP.cons h3 (AllP.cons (decide_eq_true h4) (AllP.cons (persRV y) AllP.nil)))))
theorem rmin_f {x y : RV} {n0 : Int} {O : Orc} (h3 : O.pure 32 [rpv y, rpv x] = some (PV.int IntKind.i64 n0)) (h4 : ¬ (n0 < (0 : Int))) : Runs Pr pol O 42 [rpv x, rpv y] (rpv x) :=
  Runs.goY (fl := hts [(0, 0, Hint.new []), (0, 1, Hint.new [Keep.apart]), (0, 2, Hint.new [Keep.apart, Keep.apart]), (1, 0, Hint.ld 1 true), (1, 1, Hint.ld 2 true), (1, 2, Hint.flat [Rd.p, Rd.p] (PV.int IntKind.i64 n0)), (1, 3, Hint.bit false), (3, 0, Hint.ld 2 true), (3, 1, Hint.st 0 true [Keep.drop, Keep.apart, Keep.apart])]) (n := 60) (ns := [0]) (ds := [2, 3, 4]) (rd := Rd.p) Tryz.func42 (body := bodyOf Tryz.f42) (by kernel_rfl) (by simp only [PV.pers, PV.persL, Bool.and_self, Bool.and_true, Bool.true_and, persD, persIV, persRV, persDV]) (by rw [Tryz.ntmps42]; exact Nat.le_of_ble_eq_true rfl) rfl (by kernel_rfl) (fun R => by kernel_rfl) (AllP.cons (persRV y) (AllP.cons (persRV x) (AllP.cons h3 (AllP.cons (decide_eq_false h4) (AllP.cons (persRV x) AllP.nil)))))
theorem rmax_t {x y : RV} {n0 : Int} {O : Orc} (h3 : O.pure 32 [rpv y, rpv x] = some (PV.int IntKind.i64 n0)) (h4 : (0 : Int) < n0) : Runs Pr pol O 43 [rpv x, rpv y] (rpv y) :=
  Runs.goY (fl := hts [(0, 0, Hint.new []), (0, 1, Hint.new [Keep.apart]), (0, 2, Hint.new [Keep.apart, Keep.apart]), (1, 0, Hint.ld 1 true), (1, 1, Hint.ld 2 true), (1, 2, Hint.flat [Rd.p, Rd.p] (PV.int IntKind.i64 n0)), (1, 3, Hint.bit true), (2, 0, Hint.ld 1 true), (2, 1, Hint.st 0 true [Keep.drop, Keep.apart, Keep.apart])]) (n := 60) (ns := [0]) (ds := [2, 3, 4]) (rd := Rd.p) Tryz.func43 (body := bodyOf Tryz.f43) (by kernel_rfl) (by simp only [PV.pers, PV.persL, Bool.and_self, Bool.and_true, Bool.true_and, persD, persIV, persRV, persDV]) (by rw [Tryz.ntmps43]; exact Nat.le_of_ble_eq_true rfl) rfl (by kernel_rfl) (fun R => by kernel_rfl) (AllP.cons (persRV y) (AllP.cons (persRV x) (AllP.cons h3 (AllP.cons (decide_eq_true h4) (AllP.cons (persRV y) AllP.nil)))))
theorem rmax_f {x y : RV} {n0 : Int} {O : Orc} (h3 : O.pure 32 [rpv y, rpv x] = some (PV.int IntKind.i64 n0)) (h4 : ¬ ((0 : Int) < n0)) : Runs Pr pol O 43 [rpv x, rpv y] (rpv x) :=
  Runs.goY (fl := hts [(0, 0, Hint.new []), (0, 1, Hint.new [Keep.apart]), (0, 2, Hint.new [Keep.apart, Keep.apart]), (1, 0, Hint.ld 1 true), (1, 1, Hint.ld 2 true), (1, 2, Hint.flat [Rd.p, Rd.p] (PV.int IntKind.i64 n0)), (1, 3, Hint.bit false), (3, 0, Hint.ld 2 true), (3, 1, Hint.st 0 true [Keep.drop, Keep.apart, Keep.apart])]) (n := 60) (ns := [0]) (ds := [2, 3, 4]) (rd := Rd.p) Tryz.func43 (body := bodyOf Tryz.f43) (by kernel_rfl) (by simp only [PV.pers, PV.persL, Bool.and_self, Bool.and_true, Bool.true_and, persD, persIV, persRV, persDV]) (by rw [Tryz.ntmps43]; exact Nat.le_of_ble_eq_true rfl) rfl (by kernel_rfl) (fun R => by kernel_rfl) (AllP.cons (persRV y) (AllP.cons (persRV x) (AllP.cons h3 (AllP.cons (decide_eq_false h4) (AllP.cons (persRV x) AllP.nil)))))
theorem iabs {x : IV}  {O : Orc}  : Runs Pr pol O 65 [ipv x] (PV.agg [PV.bool false, PV.sl x.2 (dv x.3)]) :=
  Runs.goY (fl := hts [(0, 0, Hint.new []), (0, 1, Hint.new [Keep.apart]), (1, 1, Hint.ld 1 true), (1, 3, Hint.st 0 true [Keep.drop, Keep.apart])]) (n := 60) (ns := [0]) (ds := [1, 2]) (rd := Rd.p) Tryz.func65 (body := bodyOf Tryz.f65) (by kernel_rfl) (by simp only [PV.pers, PV.persL, Bool.and_self, Bool.and_true, Bool.true_and, persD, persIV, persRV, persDV]) (by rw [Tryz.ntmps65]; exact Nat.le_of_ble_eq_true rfl) rfl (by kernel_rfl) (fun R => by kernel_rfl) (AllP.cons (show (PV.agg [PV.bool false, PV.sl x.2 (dv x.3)]).pers = true from by simp only [PV.pers, PV.persL, Bool.and_self, Bool.and_true, Bool.true_and, persD, persIV, persRV, persDV]) AllP.nil)
/-- The rational that a value is. -/
structure QV (q : Rat) (x : RV) : Prop where
  n : IsI q.num x.n
  d : IsI q.den x.d ∨ (q.den = 1 ∧ IsI 0 x.d)
theorem QV.isR {q : Rat} {x : RV} (h : QV q x) : IsR q (rpv x) := by
  obtain ⟨n, d⟩ := x
  obtain ⟨h1, h2⟩ := h
  obtain ⟨s1, f1, a1⟩ := n
  obtain ⟨s2, f2, a2⟩ := d
  obtain ⟨e1, e2⟩ := h1
  simp only at e1 e2
  subst e1 e2
  rcases h2 with ⟨e3, e4⟩ | ⟨e0, e3, e4⟩
  · simp only at e3 e4
    subst e3 e4
    exact ⟨f1, f2, .inl rfl⟩
  · simp only at e3 e4
    subst e3 e4
    exact ⟨f1, f2, .inr ⟨e0, rfl⟩⟩
theorem IsR.qv {q : Rat} {v : PV} (h : IsR q v) : ∃ x, v = rpv x ∧ QV q x := by
  obtain ⟨f, g, rfl | ⟨e, rfl⟩⟩ := h
  · exact ⟨⟨mkI f q.num, mkI g q.den⟩, rfl, isI_mk .., .inl (isI_mk ..)⟩
  · exact ⟨⟨mkI f q.num, mkI g 0⟩, rfl, isI_mk .., .inr ⟨e, isI_mk ..⟩⟩
theorem isI_zero : IsI 0 ⟨false, true, []⟩ := ⟨rfl, rfl⟩
theorem qv_zero : QV 0 ⟨⟨false, true, []⟩, ⟨false, true, []⟩⟩ := ⟨isI_zero, .inr ⟨rfl, isI_zero⟩⟩
theorem kn_rfrom {n : Int} (h : n.natAbs < 2 ^ 62) : ∃ x, QV (n : Rat) x ∧ Kn 16 [.int .i64 n] (rpv x) := by
  obtain ⟨v, hv, k⟩ := known_rfrom h
  obtain ⟨x, rfl, hx⟩ := hv.qv
  exact ⟨x, hx, k.kn⟩
theorem kn_rsign {q : Rat} {x : RV} (h : QV q x) : Kn 34 [rpv x] (.int .i64 (sgn q.num)) := (known_rsign h.isR).kn
theorem kn_rcmp {a b : Rat} {x y : RV} (hx : QV a x) (hy : QV b y) (ha : RB 40 a) (hb : RB 40 b) : Kn 32 [rpv x, rpv y] (.int .i64 (cmpQ a b)) := (known_rcmp hx.isR hy.isR ha hb).kn
theorem kn_rdiv {a b : Rat} {x y : RV} (hx : QV a x) (hy : QV b y) (ha : RB 40 a) (hb : RB 40 b) (h0 : b ≠ 0) (h1 : a.den * b.num.natAbs < BB) : ∃ z, QV (a / b) z ∧ Kn 18 [rpv x, rpv y] (.tup [rpv z, .int .i64 0]) := by
  obtain ⟨v, hv, k⟩ := known_rdiv hx.isR hy.isR ha hb h0 h1
  obtain ⟨z, rfl, hz⟩ := hv.qv
  exact ⟨z, hz, k.kn⟩
theorem kn_whole {q : Rat} {x : RV} (h : QV q x) (hb : RB 40 q) : Kn 45 [rpv x] (.bool (decide (q.den = 1))) :=
  (known_whole h.isR (Nat.lt_trans hb.den (Nat.pow_lt_pow_right (by decide) (by decide)))).kn
theorem kn_rden {q : Rat} {x : RV} (h : QV q x) : ∃ z, IsI q.den z ∧ Kn 37 [rpv x] (ipv z) := by
  obtain ⟨u, k⟩ := known_rden h.isR
  exact ⟨mkI u q.den, isI_mk .., k.kn⟩
theorem kn_imul {a b : Int} {x y : IV} (hx : IsI a x) (hy : IsI b y) (ha : Ok a) (hb : Ok b) : ∃ z, IsI (a * b) z ∧ Kn 36 [ipv x, ipv y] (ipv z) := by
  rw [hx.eq, hy.eq]
  obtain ⟨p, k⟩ := known_imul (f := x.f) (g := y.f) ha hb
  exact ⟨mkI p (a * b), isI_mk .., k.kn⟩
theorem kn_reduced {n d : Int} {x y : IV} (hx : IsI n x) (hy : IsI d y) (hn : Ok n) (h0 : d ≠ 0) (h1 : d.natAbs < BB) : ∃ z, QV (Rat.divInt n d) z ∧ Kn 35 [ipv x, ipv y] (rpv z) := by
  rw [hx.eq, hy.eq]
  obtain ⟨v, hv, k⟩ := known_reduced (f := x.f) (g := y.f) hn h0 h1
  obtain ⟨z, rfl, hz⟩ := hv.qv
  exact ⟨z, hz, k.kn⟩
theorem kn_ineg {a : Int} {x : IV} (hx : IsI a x) : ∃ z, IsI (-a) z ∧ Kn 59 [ipv x] (ipv z) := by
  rw [hx.eq]
  exact ⟨mkI x.f (-a), isI_mk .., (known_ineg (f := x.f) (z := a)).kn⟩
theorem kn_iabs {a : Int} {x : IV} (hx : IsI a x) : ∃ z, IsI (a.natAbs : Int) z ∧ Kn 65 [ipv x] (ipv z) :=
  ⟨⟨false, x.f, x.a⟩, ⟨by simp only; exact (decide_eq_false (by omega)).symm, by simp only; rw [hx.a, Int.natAbs_natCast]⟩, Kn.of rfl (iabs (O := OO))⟩
theorem RB.ok {k : Nat} {q : Rat} (h : RB k q) (hk : k ≤ 100) : Ok q.num := ok_of h.num hk
theorem RB.okd {k : Nat} {q : Rat} (h : RB k q) (hk : k ≤ 100) : Ok (q.den : Int) := ok_of (k := k) (by rw [Int.natAbs_natCast]; exact h.den) hk
theorem ok_add {k : Nat} {a b : Int} (ha : a.natAbs < BB ^ k) (hb : b.natAbs < BB ^ k) (hk : k < 100) : Ok (a + b) := by
  have h1 : BB ^ (k + 1) = BB ^ k * 4294967296 := Nat.pow_succ ..
  exact ok_of (k := k + 1) (by omega) (by omega)
theorem lt_mul {k : Nat} {a b : Int} (ha : a.natAbs < BB ^ k) (hb : b.natAbs < BB ^ k) : (a * b).natAbs < BB ^ (k + k) := by
  rw [Int.natAbs_mul, Nat.pow_add]
  exact Nat.mul_lt_mul'' ha hb
theorem add_divInt (a b : Rat) : Rat.divInt (a.num * (b.den : Int) + b.num * (a.den : Int)) ((a.den : Int) * (b.den : Int)) = a + b := by
  have h := Rat.divInt_add_divInt a.num b.num (d₁ := a.den) (d₂ := b.den) (by have := a.den_nz; omega) (by have := b.den_nz; omega)
  rw [Rat.num_divInt_den, Rat.num_divInt_den] at h
  exact h.symm
theorem mul_divInt (a b : Rat) : Rat.divInt (a.num * b.num) ((a.den : Int) * (b.den : Int)) = a * b := by
  rw [← Rat.divInt_mul_divInt, Rat.num_divInt_den, Rat.num_divInt_den]
theorem whole_int {a : Rat} (h : a.den = 1) : a = (a.num : Rat) := Rat.ext rfl h
theorem num_lt {q : Rat} : q.num < 0 ↔ q < 0 := by
  rw [Rat.lt_iff]
  show _ ↔ q.num * ((1 : Nat) : Int) < 0 * (q.den : Int)
  omega
theorem int_num (n : Int) : ((n : Rat)).num = n := rfl
theorem int_den (n : Int) : ((n : Rat)).den = 1 := rfl
theorem whole_add {a b : Rat} (ha : a.den = 1) (hb : b.den = 1) : (a + b).num = a.num + b.num ∧ (a + b).den = 1 := by
  rw [whole_int ha, whole_int hb, ← Rat.intCast_add]
  exact ⟨rfl, rfl⟩
theorem whole_mul {a b : Rat} (ha : a.den = 1) (hb : b.den = 1) : (a * b).num = a.num * b.num ∧ (a * b).den = 1 := by
  rw [whole_int ha, whole_int hb, ← Rat.intCast_mul]
  exact ⟨rfl, rfl⟩
theorem den_ne {a b : Rat} : (a.den : Int) * (b.den : Int) ≠ 0 := Int.mul_ne_zero (by have := a.den_nz; omega) (by have := b.den_nz; omega)
theorem kn_radd {a b : Rat} {x y : RV} (hx : QV a x) (hy : QV b y) (ha : RB 40 a) (hb : RB 40 b) (h : a.den * b.den < BB) : ∃ z, QV (a + b) z ∧ Kn 63 [rpv x, rpv y] (rpv z) := by
  have kx := kn_whole hx ha
  have ky := kn_whole hy hb
  have red : ∃ d1 d2 m1 m2 s d z, Kn 37 [rpv y] (ipv d2) ∧ Kn 36 [ipv x.n, ipv d2] (ipv m1) ∧ Kn 37 [rpv x] (ipv d1) ∧ Kn 36 [ipv y.n, ipv d1] (ipv m2) ∧
      Kn 86 [ipv m1, ipv m2] (ipv s) ∧ Kn 36 [ipv d1, ipv d2] (ipv d) ∧ Kn 35 [ipv s, ipv d] (rpv z) ∧ QV (a + b) z := by
    obtain ⟨d1, i1, k1⟩ := kn_rden hx
    obtain ⟨d2, i2, k2⟩ := kn_rden hy
    have la : ((a.den : Int)).natAbs < BB ^ 40 := by rw [Int.natAbs_natCast]; exact ha.den
    have lb : ((b.den : Int)).natAbs < BB ^ 40 := by rw [Int.natAbs_natCast]; exact hb.den
    obtain ⟨m1, i3, k3⟩ := kn_imul hx.n i2 (ha.ok (by omega)) (hb.okd (by omega))
    obtain ⟨m2, i4, k4⟩ := kn_imul hy.n i1 (hb.ok (by omega)) (ha.okd (by omega))
    obtain ⟨s, i5, k5⟩ := kn_iadd i3 i4 (ok_of (lt_mul ha.num lb) (by omega)) (ok_of (lt_mul hb.num la) (by omega))
    obtain ⟨d, i6, k6⟩ := kn_imul i1 i2 (ha.okd (by omega)) (hb.okd (by omega))
    obtain ⟨z, i7, k7⟩ := kn_reduced i5 i6 (ok_add (lt_mul ha.num lb) (lt_mul hb.num la) (by omega)) den_ne (by rw [Int.natAbs_mul, Int.natAbs_natCast, Int.natAbs_natCast]; exact h)
    rw [add_divInt] at i7
    exact ⟨d1, d2, m1, m2, s, d, z, k2, k3, k1, k4, k5, k6, k7, i7⟩
  by_cases h1 : a.den = 1
  · rw [decide_eq_true h1] at kx
    by_cases h2 : b.den = 1
    · rw [decide_eq_true h2] at ky
      obtain ⟨z, hz, kz⟩ := kn_iadd hx.n hy.n (ha.ok (by omega)) (hb.ok (by omega))
      obtain ⟨e1, e2⟩ := whole_add h1 h2
      exact ⟨⟨z, ⟨false, true, []⟩⟩, ⟨by rw [e1]; exact hz, .inr ⟨e2, isI_zero⟩⟩, Kn.of rfl (radd_tt (O := OO) kx ky kz)⟩
    · rw [decide_eq_false h2] at ky
      obtain ⟨d1, d2, m1, m2, s, d, z, k1, k2, k3, k4, k5, k6, k7, hz⟩ := red
      exact ⟨z, hz, Kn.of rfl (radd_tf (O := OO) kx ky k1 k2 k3 k4 k5 k3 k1 k6 k7)⟩
  · rw [decide_eq_false h1] at kx
    obtain ⟨d1, d2, m1, m2, s, d, z, k1, k2, k3, k4, k5, k6, k7, hz⟩ := red
    exact ⟨z, hz, Kn.of rfl (radd_f (O := OO) kx k1 k2 k3 k4 k5 k3 k1 k6 k7)⟩
theorem kn_rmul {a b : Rat} {x y : RV} (hx : QV a x) (hy : QV b y) (ha : RB 40 a) (hb : RB 40 b) (h : a.den * b.den < BB) : ∃ z, QV (a * b) z ∧ Kn 41 [rpv x, rpv y] (rpv z) := by
  have kx := kn_whole hx ha
  have ky := kn_whole hy hb
  obtain ⟨m, im, km⟩ := kn_imul hx.n hy.n (ha.ok (by omega)) (hb.ok (by omega))
  obtain ⟨d1, i1, k1⟩ := kn_rden hx
  obtain ⟨d2, i2, k2⟩ := kn_rden hy
  obtain ⟨d, i3, k3⟩ := kn_imul i1 i2 (ha.okd (by omega)) (hb.okd (by omega))
  obtain ⟨z, hz, k4⟩ := kn_reduced im i3 (ok_of (lt_mul ha.num hb.num) (by omega)) den_ne (by rw [Int.natAbs_mul, Int.natAbs_natCast, Int.natAbs_natCast]; exact h)
  rw [mul_divInt] at hz
  by_cases h1 : a.den = 1
  · rw [decide_eq_true h1] at kx
    by_cases h2 : b.den = 1
    · rw [decide_eq_true h2] at ky
      obtain ⟨e1, e2⟩ := whole_mul h1 h2
      exact ⟨⟨m, ⟨false, true, []⟩⟩, ⟨by rw [e1]; exact im, .inr ⟨e2, isI_zero⟩⟩, Kn.of rfl (rmul_tt (O := OO) kx ky km)⟩
    · rw [decide_eq_false h2] at ky
      exact ⟨z, hz, Kn.of rfl (rmul_tf (O := OO) kx ky km k1 k2 k3 k4)⟩
  · rw [decide_eq_false h1] at kx
    exact ⟨z, hz, Kn.of rfl (rmul_f (O := OO) kx km k1 k2 k3 k4)⟩
theorem RB.neg {k : Nat} {q : Rat} (h : RB k q) : RB k (-q) := ⟨by show (-q.num).natAbs < _; rw [Int.natAbs_neg]; exact h.num, h.den⟩
def absQ (q : Rat) : Rat := if q < 0 then -q else q
theorem absQ_num (q : Rat) : (absQ q).num = (q.num.natAbs : Int) := by
  unfold absQ
  split
  · rename_i h
    have := num_lt.2 h
    show -q.num = _
    omega
  · rename_i h
    have : ¬ q.num < 0 := fun e => h (num_lt.1 e)
    omega
theorem absQ_den (q : Rat) : (absQ q).den = q.den := by unfold absQ; split <;> rfl
theorem kn_rabs {a : Rat} {x : RV} (hx : QV a x) : ∃ z, QV (absQ a) z ∧ Kn 44 [rpv x] (rpv z) := by
  obtain ⟨m, im, km⟩ := kn_iabs hx.n
  exact ⟨⟨m, x.d⟩, ⟨by rw [absQ_num]; exact im, by rw [absQ_den]; exact hx.d⟩, Kn.of rfl (rabs (O := OO) km)⟩
def minQ (a b : Rat) : Rat := if b < a then b else a
def maxQ (a b : Rat) : Rat := if a < b then b else a
theorem kn_rmin {a b : Rat} {x y : RV} (hx : QV a x) (hy : QV b y) (ha : RB 40 a) (hb : RB 40 b) : ∃ z, QV (minQ a b) z ∧ Kn 42 [rpv x, rpv y] (rpv z) := by
  have kc := kn_rcmp hy hx hb ha
  by_cases h : b < a
  · exact ⟨y, by rw [minQ, if_pos h]; exact hy, Kn.of rfl (rmin_t (O := OO) kc (cmpQ_lt.2 h))⟩
  · exact ⟨x, by rw [minQ, if_neg h]; exact hx, Kn.of rfl (rmin_f (O := OO) kc (fun e => h (cmpQ_lt.1 e)))⟩
theorem kn_rmax {a b : Rat} {x y : RV} (hx : QV a x) (hy : QV b y) (ha : RB 40 a) (hb : RB 40 b) : ∃ z, QV (maxQ a b) z ∧ Kn 43 [rpv x, rpv y] (rpv z) := by
  have kc := kn_rcmp hy hx hb ha
  by_cases h : a < b
  · exact ⟨y, by rw [maxQ, if_pos h]; exact hy, Kn.of rfl (rmax_t (O := OO) kc (cmpQ_gt.2 h))⟩
  · exact ⟨x, by rw [maxQ, if_neg h]; exact hx, Kn.of rfl (rmax_f (O := OO) kc (fun e => h (cmpQ_gt.1 e)))⟩
end Go.Proofs.YtigfgicjjhepoaaGreatDoor.VA.Z

/- Whole numbers that are small, as rationals. -/
import Derived.Test.YtigfgicjjhepoaaGreatDoorSn
set_option linter.unusedVariables false
set_option linter.unusedSimpArgs false
namespace Go.Proofs.YtigfgicjjhepoaaGreatDoor.VA
open Go Go.Proofs

def u32 (n : Int) : PV := .int .u32 n
/-- The digits of a number of one digit. -/
def rmag (n : Int) : List PV := if n = 0 then [] else [u32 n.natAbs]
def intV (n : Int) : PV := .agg [.bool (decide (n < 0)), .sl false (rmag n)]
def ratV (n : Int) : PV := .agg [.bool (decide (n < 0)), .sl false (rmag n), .bool false, .sl true []]

theorem trim_zero (O : Orc) : Runs Pr pol O 83 [.sl true [u32 0, u32 0]] (.sl false []) :=
  Runs.of_X (n := 50) (fl := flg []) (tr := []) (ob := True) (by kernel_rfl) trivial
theorem trim_one (O : Orc) (m : Int) (h : m ≠ 0) : Runs Pr pol O 83 [.sl true [u32 m, u32 0]] (.sl false [u32 m]) :=
  Runs.of_X (n := 50) (fl := flg [(1, 10, .bit)]) (tr := [.bit true, .bit false]) (ob := decide (m = 0) = false ∧ decide ((0 : Int) = 0) = true ∧ True) (by kernel_rfl) ⟨decide_eq_false h, rfl, trivial⟩

theorem signed_zero {O : Orc} (b : Bool) (h : O.pure 83 [.sl true [u32 0, u32 0]] = some (.sl false [])) : Runs Pr pol O 57 [.bool b, .sl true [u32 0, u32 0]] (.agg [.bool false, .sl false []]) := by
  cases b
  · exact Runs.of_X (n := 50) (fl := flg [(1, 1, .call)]) (tr := [.val (.sl false [])]) (ob := O.pure 83 [.sl true [u32 0, u32 0]] = some (.sl false []) ∧ True) (by kernel_rfl) ⟨h, trivial⟩
  · exact Runs.of_X (n := 50) (fl := flg [(1, 1, .call)]) (tr := [.val (.sl false [])]) (ob := O.pure 83 [.sl true [u32 0, u32 0]] = some (.sl false []) ∧ True) (by kernel_rfl) ⟨h, trivial⟩
theorem signed_one {O : Orc} (b : Bool) (m : Int) (h : O.pure 83 [.sl true [u32 m, u32 0]] = some (.sl false [u32 m])) : Runs Pr pol O 57 [.bool b, .sl true [u32 m, u32 0]] (.agg [.bool b, .sl false [u32 m]]) := by
  cases b
  · exact Runs.of_X (n := 50) (fl := flg [(1, 1, .call)]) (tr := [.val (.sl false [u32 m])]) (ob := O.pure 83 [.sl true [u32 m, u32 0]] = some (.sl false [u32 m]) ∧ True) (by kernel_rfl) ⟨h, trivial⟩
  · exact Runs.of_X (n := 50) (fl := flg [(1, 1, .call)]) (tr := [.val (.sl false [u32 m])]) (ob := O.pure 83 [.sl true [u32 m, u32 0]] = some (.sl false [u32 m]) ∧ True) (by kernel_rfl) ⟨h, trivial⟩

theorem known_signed (b : Bool) (m : Int) (hb : b = true → m ≠ 0) : Known 57 [.bool b, .sl true [u32 m, u32 0]] (.agg [.bool b, .sl false (if m = 0 then [] else [u32 m])]) := by
  by_cases h : m = 0
  · subst h
    have : b = false := by cases b with
      | false => rfl
      | true => exact absurd rfl (hb rfl)
    subst this
    rw [if_pos rfl]
    exact Known.of (Known.of (Q := fun _ => True) Deep.triv rfl (fun O _ => trim_zero O)).deep rfl (fun O hO => signed_zero false hO)
  · rw [if_neg h]
    exact Known.of (Known.of (Q := fun _ => True) Deep.triv rfl (fun O _ => trim_one O m h)).deep rfl (fun O hO => signed_one b m hO)

theorem ifrom_pos {O : Orc} {n : Int} (h0 : 0 ≤ n) (h1 : n ≤ 1073741824) (h : O.pure 57 [.bool false, .sl true [u32 n, u32 0]] = some (.agg [.bool false, .sl false (if n = 0 then [] else [u32 n])])) :
    Runs Pr pol O 33 [.int .i64 n] (.agg [.bool false, .sl false (if n = 0 then [] else [u32 n])]) := by
  have hv : ∀ x : PV, x.cells = [x] → True := fun _ _ => trivial
  generalize hq : (if n = 0 then [] else [u32 n] : List PV) = q at h ⊢
  have hp : PV.pers (.agg [.bool false, .sl false q]) = true := by
    subst hq; split <;> rfl
  have c1 : some (PV.int .u64 (IntKind.u64.wrap n)) = some (.int .u64 n) := by rw [show IntKind.u64.wrap n = n by simp [IntKind.wrap, IntKind.bits, IntKind.signed]; omega]
  have c2 : some (PV.int .u32 (IntKind.u32.wrap n)) = some (u32 n) := by rw [show IntKind.u32.wrap n = n by simp [IntKind.wrap, IntKind.bits, IntKind.signed]; omega]; rfl
  have c3 : some (PV.int .u64 (n.fdiv (2 ^ (min (32 : Int).toNat IntKind.u64.bits)))) = some (.int .u64 0) := by
    have : n.fdiv (2 ^ (min (32 : Int).toNat IntKind.u64.bits)) = 0 := by
      show n.fdiv 4294967296 = 0
      rw [Int.fdiv_eq_ediv_of_nonneg _ (by omega)]; omega
    rw [this]
  obtain ⟨ex, st, ob, hpj, hev⟩ := Ev.of_X (c := ⟨Pr, pol, [], 33⟩) (O := O) (fl := flg [(1, 1, .val), (2, 1, .bit), (4, 1, .bit), (4, 3, .val), (4, 5, .val), (4, 8, .pers)]) (n := 50) (code := bodyOf Tryz.f33) (st := startSt [.int .i64 n] Heap.empty)
    (tr := [.val (.int .u64 n), .bit false, .bit false, .val (u32 n), .val (.int .u64 0), .val (.agg [.bool false, .sl false q])])
    (fun ex st ob => (ex, resultsV ⟨Pr, pol, [], 33⟩ st Tryz.f33.results.toList, ob)) (y := (Ex.ret, some (PV.agg [.bool false, .sl false q]),
      PV.persL [.bool false, .sl true [u32 n, u32 0]] = true ∧ O.pure 57 [.bool false, .sl true [u32 n, u32 0]] = some (.agg [.bool false, .sl false q]) ∧ some (PV.int .u64 (n.fdiv (2 ^ (min (32 : Int).toNat IntKind.u64.bits)))) = some (.int .u64 0) ∧ some (PV.int .u32 (IntKind.u32.wrap n)) = some (u32 n) ∧ decide (n < 0) = false ∧ decide (n < 0) = false ∧ some (PV.int .u64 (IntKind.u64.wrap n)) = some (.int .u64 n) ∧ True)) (by kernel_rfl)
  simp only [Prod.mk.injEq] at hpj
  obtain ⟨rfl, hr, rfl⟩ := hpj
  have hn : decide (n < 0) = false := decide_eq_false (by omega)
  refine Runs.of_Ev (st := st) Tryz.func33 (body := bodyOf Tryz.f33) (by kernel_rfl) rfl (by rw [Tryz.ntmps33]; exact Nat.le_of_ble_eq_true rfl) rfl (hev ⟨rfl, h, c3, c2, hn, hn, c1, trivial⟩) (.inr rfl) hr ?_
  unfold dr
  rw [if_pos hp]; rfl

theorem ifrom_neg {O : Orc} {n : Int} (h0 : n < 0) (h1 : -1073741824 ≤ n) (h : O.pure 57 [.bool true, .sl true [u32 (-n), u32 0]] = some (.agg [.bool true, .sl false [u32 (-n)]])) :
    Runs Pr pol O 33 [.int .i64 n] (.agg [.bool true, .sl false [u32 (-n)]]) := by
  have c1 : some (PV.int .u64 (IntKind.u64.wrap n)) = some (.int .u64 (n + 18446744073709551616)) := by rw [show IntKind.u64.wrap n = n + 18446744073709551616 by simp [IntKind.wrap, IntKind.bits, IntKind.signed]; omega]
  have c4 : some (PV.int .u64 (IntKind.u64.wrap (0 - (n + 18446744073709551616)))) = some (.int .u64 (-n)) := by rw [show IntKind.u64.wrap (0 - (n + 18446744073709551616)) = -n by simp [IntKind.wrap, IntKind.bits, IntKind.signed]; omega]
  have c2 : some (PV.int .u32 (IntKind.u32.wrap (-n))) = some (u32 (-n)) := by rw [show IntKind.u32.wrap (-n) = -n by simp [IntKind.wrap, IntKind.bits, IntKind.signed]; omega]; rfl
  have c3 : some (PV.int .u64 ((-n).fdiv (2 ^ (min (32 : Int).toNat IntKind.u64.bits)))) = some (.int .u64 0) := by
    have : (-n).fdiv (2 ^ (min (32 : Int).toNat IntKind.u64.bits)) = 0 := by
      show (-n).fdiv 4294967296 = 0
      rw [Int.fdiv_eq_ediv_of_nonneg _ (by omega)]; omega
    rw [this]
  have hn : decide (n < 0) = true := decide_eq_true h0
  exact Runs.of_X (n := 50) (fl := flg [(1, 1, .val), (2, 1, .bit), (3, 1, .val), (4, 1, .bit), (4, 3, .val), (4, 5, .val), (4, 8, .pers)])
    (tr := [.val (.int .u64 (n + 18446744073709551616)), .bit true, .val (.int .u64 (-n)), .bit true, .val (u32 (-n)), .val (.int .u64 0), .val (.agg [.bool true, .sl false [u32 (-n)]])])
    (ob := PV.persL [.bool true, .sl true [u32 (-n), u32 0]] = true ∧ O.pure 57 [.bool true, .sl true [u32 (-n), u32 0]] = some (.agg [.bool true, .sl false [u32 (-n)]]) ∧ some (PV.int .u64 ((-n).fdiv (2 ^ (min (32 : Int).toNat IntKind.u64.bits)))) = some (.int .u64 0) ∧ some (PV.int .u32 (IntKind.u32.wrap (-n))) = some (u32 (-n)) ∧ decide (n < 0) = true ∧
      some (PV.int .u64 (IntKind.u64.wrap (0 - (n + 18446744073709551616)))) = some (.int .u64 (-n)) ∧ decide (n < 0) = true ∧ some (PV.int .u64 (IntKind.u64.wrap n)) = some (.int .u64 (n + 18446744073709551616)) ∧ True) (by kernel_rfl)
    ⟨rfl, h, c3, c2, hn, c4, hn, c1, trivial⟩

theorem known_ifrom {n : Int} (h : -1073741824 ≤ n ∧ n ≤ 1073741824) : Known 33 [.int .i64 n] (intV n) := by
  by_cases h0 : n < 0
  · have e : intV n = .agg [.bool true, .sl false [u32 (-n)]] := by
      have hab : ((n.natAbs : Nat) : Int) = -n := by omega
      simp only [intV, rmag, h0, decide_true, if_neg (show n ≠ 0 by omega), hab]
    have ks := known_signed true (-n) (fun _ => by omega)
    rw [if_neg (show -n ≠ 0 by omega)] at ks
    rw [e]
    exact Known.of ks.deep rfl (fun O hO => ifrom_neg h0 h.1 hO)
  · have e : intV n = .agg [.bool false, .sl false (if n = 0 then [] else [u32 n])] := by
      have hab : ((n.natAbs : Nat) : Int) = n := by omega
      simp only [intV, rmag, h0, decide_false, hab]
    rw [e]
    exact Known.of (known_signed false n (fun q => by cases q)).deep rfl (fun O hO => ifrom_pos (by omega) h.2 hO)

theorem persM (n : Int) : PV.persL (rmag n) = true := by unfold rmag; split <;> rfl
theorem persR (n : Int) : (ratV n).pers = true := by
  show PV.persL [PV.bool (decide (n < 0)), .sl false (rmag n), .bool false, .sl true []] = true
  simp only [PV.persL, PV.pers, persM, Bool.and_self]

theorem from_run {O : Orc} {n : Int} (h : O.pure 33 [.int .i64 n] = some (intV n)) : Runs Pr pol O 16 [.int .i64 n] (ratV n) := by
  obtain ⟨ex, st, ob, hpj, hev⟩ := Ev.of_X (c := ⟨Pr, pol, [], 16⟩) (O := O) (fl := flg [(1, 1, .pers)]) (n := 50) (code := bodyOf Tryz.f16) (st := startSt [.int .i64 n] Heap.empty) (tr := [.val (intV n)])
    (fun ex st ob => (ex, resultsV ⟨Pr, pol, [], 16⟩ st Tryz.f16.results.toList, ob)) (y := (Ex.ret, some (ratV n), PV.persL [.int .i64 n] = true ∧ O.pure 33 [.int .i64 n] = some (intV n) ∧ True)) (by kernel_rfl)
  simp only [Prod.mk.injEq] at hpj
  obtain ⟨rfl, hr, rfl⟩ := hpj
  refine Runs.of_Ev (st := st) Tryz.func16 (body := bodyOf Tryz.f16) (by kernel_rfl) rfl (by rw [Tryz.ntmps16]; exact Nat.le_of_ble_eq_true rfl) rfl (hev ⟨rfl, h, trivial⟩) (.inr rfl) hr ?_
  unfold dr
  rw [if_pos (persR n)]; rfl
theorem known_from {n : Int} (h : -1073741824 ≤ n ∧ n ≤ 1073741824) : Known 16 [.int .i64 n] (ratV n) := Known.of (known_ifrom h).deep rfl (fun O hO => from_run hO)

/-! ### a number equals itself -/
theorem sign0_run (O : Orc) : Runs Pr pol O 58 [.agg [.bool false, .sl true []]] (.int .i64 0) :=
  Runs.of_X (n := 50) (fl := flg []) (tr := []) (ob := True) (by kernel_rfl) trivial
theorem whole_run {O : Orc} {n : Int} (h : O.pure 58 [.agg [.bool false, .sl true []]] = some (.int .i64 0)) : Runs Pr pol O 45 [ratV n] (.bool true) :=
  Runs.of_XB (n := 50) (fl := flg [(1, 2, .call)]) (tr := [.val (.int .i64 0)]) (by simp only [PV.persL, persR, Bool.and_self]) (ob := O.pure 58 [.agg [.bool false, .sl true []]] = some (.int .i64 0) ∧ True) (by kernel_rfl) ⟨h, trivial⟩
theorem order_run (O : Orc) (n : Int) : Runs Pr pol O 82 [.sl false (rmag n), .sl false (rmag n)] (.int .i64 0) := by
  unfold rmag
  split
  · exact Runs.of_X (n := 50) (fl := flg []) (tr := []) (ob := True) (by kernel_rfl) trivial
  · exact Runs.of_X (n := 50) (fl := flg [(8, 8, .bit)]) (tr := [.bit false]) (ob := (!decide ((n.natAbs : Int) = (n.natAbs : Int))) = false ∧ True) (by kernel_rfl) ⟨by simp, trivial⟩
theorem icompare_run {O : Orc} {n : Int} (h : O.pure 82 [.sl false (rmag n), .sl false (rmag n)] = some (.int .i64 0)) : Runs Pr pol O 56 [intV n, intV n] (.int .i64 0) := by
  have hp : PV.persL [intV n, intV n] = true := by
    show PV.persL [PV.agg [PV.bool (decide (n < 0)), .sl false (rmag n)], .agg [PV.bool (decide (n < 0)), .sl false (rmag n)]] = true
    simp only [PV.persL, PV.pers, persM, Bool.and_self]
  have hm : PV.persL [PV.sl false (rmag n), .sl false (rmag n)] = true := by simp only [PV.persL, PV.pers, persM, Bool.and_self]
  unfold intV at hp ⊢
  cases hb : decide (n < 0) with
  | false =>
    rw [hb] at hp
    exact Runs.of_XB (n := 50) (fl := flg [(7, 4, .pers)]) (tr := [.val (.int .i64 0)]) hp (ob := PV.persL [PV.sl false (rmag n), .sl false (rmag n)] = true ∧ O.pure 82 [.sl false (rmag n), .sl false (rmag n)] = some (.int .i64 0) ∧ True) (by kernel_rfl) ⟨hm, h, trivial⟩
  | true =>
    rw [hb] at hp
    exact Runs.of_XB (n := 50) (fl := flg [(6, 4, .pers)]) (tr := [.val (.int .i64 0)]) hp (ob := PV.persL [PV.sl false (rmag n), .sl false (rmag n)] = true ∧ O.pure 82 [.sl false (rmag n), .sl false (rmag n)] = some (.int .i64 0) ∧ True) (by kernel_rfl) ⟨hm, h, trivial⟩
theorem rcompare_run {O : Orc} {n : Int} (h : O.pure 45 [ratV n] = some (.bool true) ∧ O.pure 56 [intV n, intV n] = some (.int .i64 0)) : Runs Pr pol O 32 [ratV n, ratV n] (.int .i64 0) := by
  have hp : PV.persL [ratV n, ratV n] = true := by simp only [PV.persL, persR, Bool.and_self]
  have hp1 : PV.persL [ratV n] = true := by simp only [PV.persL, persR, Bool.and_self]
  have hi : PV.persL [intV n, intV n] = true := by
    show PV.persL [PV.agg [PV.bool (decide (n < 0)), .sl false (rmag n)], .agg [PV.bool (decide (n < 0)), .sl false (rmag n)]] = true
    simp only [PV.persL, PV.pers, persM, Bool.and_self]
  exact Runs.of_XB (n := 50) (fl := flg [(1, 1, .pers), (1, 4, .pers), (2, 4, .pers)]) (tr := [.val (.bool true), .val (.bool true), .val (.int .i64 0)]) hp
    (ob := PV.persL [intV n, intV n] = true ∧ O.pure 56 [intV n, intV n] = some (.int .i64 0) ∧ PV.persL [ratV n] = true ∧ O.pure 45 [ratV n] = some (.bool true) ∧ PV.persL [ratV n] = true ∧ O.pure 45 [ratV n] = some (.bool true) ∧ True) (by kernel_rfl) ⟨hi, h.2, hp1, h.1, hp1, h.1, trivial⟩
theorem equal_run {O : Orc} {n : Int} (h : O.pure 32 [ratV n, ratV n] = some (.int .i64 0)) : Runs Pr pol O 15 [ratV n, ratV n] (.bool true) := by
  have hp : PV.persL [ratV n, ratV n] = true := by simp only [PV.persL, persR, Bool.and_self]
  exact Runs.of_XB (n := 50) (fl := flg [(1, 2, .pers)]) (tr := [.val (.int .i64 0)]) hp (ob := PV.persL [ratV n, ratV n] = true ∧ O.pure 32 [ratV n, ratV n] = some (.int .i64 0) ∧ True) (by kernel_rfl) ⟨hp, h, trivial⟩
theorem known_equal (n : Int) : Known 15 [ratV n, ratV n] (.bool true) := by
  have k1 : Known 45 [ratV n] (.bool true) := Known.of (Known.of (Q := fun _ => True) Deep.triv rfl (fun O _ => sign0_run O)).deep rfl (fun O hO => whole_run hO)
  have k2 : Known 56 [intV n, intV n] (.int .i64 0) := Known.of (Known.of (Q := fun _ => True) Deep.triv rfl (fun O _ => order_run O n)).deep rfl (fun O hO => icompare_run hO)
  exact Known.of (Known.of (k1.deep.and k2.deep) rfl (fun O hO => rcompare_run hO)).deep rfl (fun O hO => equal_run hO)

/-! ### Nominal -/
theorem dr_ms {H : Heap} {K : Key} {rs : List PV} {fz : Bool} (hb : H.blk K = some (.row 4 rs fz)) (hp : PV.persL rs = true) (hz : allSz 4 rs = true) (hn : rs.length ≠ 0) : dr H 12 (.ms K 4 0 rs.length) = some (.sl false rs, [K]) := by
  have hc : cut rs 0 rs.length = some rs := by unfold cut; rw [if_pos (by omega)]; simp
  have hd : drL H 11 rs = some (rs, []) := by unfold drL; rw [if_pos hp]
  unfold dr
  rw [if_neg (by simp [PV.pers])]
  simp only [if_neg hn, hb, if_true, hc, hd, hz]
def nomV (l : List Dm) : PV := if l = [] then .sl true [] else .sl false (l.map fun d => ratV d.a)
theorem persNs : ∀ l : List Dm, PV.persL (l.map fun d => ratV d.a) = true
  | [] => rfl
  | d :: l => by simp only [List.map_cons, PV.persL, persR, persNs l, Bool.and_self]
theorem szNs : ∀ l : List Dm, allSz 4 (l.map fun d => ratV d.a) = true
  | [] => rfl
  | d :: l => by simp only [List.map_cons, allSz, szNs l, Bool.and_true]; rfl

end Go.Proofs.YtigfgicjjhepoaaGreatDoor.VA

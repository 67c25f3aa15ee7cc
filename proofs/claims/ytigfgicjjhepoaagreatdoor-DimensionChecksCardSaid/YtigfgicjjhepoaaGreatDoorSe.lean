/- Small functions; names. -/
import Derived.Test.YtigfgicjjhepoaaGreatDoorWf
import Derived.Test.YtigfgicjjhepoaaGreatDoorSd
set_option linter.unusedVariables false
set_option linter.unusedSimpArgs false
namespace Go.Proofs.YtigfgicjjhepoaaGreatDoor.VA
open Go Go.Proofs

/-- The operations at which something is told. -/
def flg (l : List (Nat × Nat × Way)) (a b : Nat) : Way :=
  match l with
  | [] => .no
  | (x, y, w) :: l => if Nat.beq x a && Nat.beq y b then w else flg l a b

def seqL : Code → Code
  | .seq a _ => a
  | x => x
def seqR : Code → Code
  | .seq _ a => a
  | x => x
def inner : Code → Code
  | .block _ a => a
  | .loop a => a
  | x => x
def bodyOf (f : Func) : Code := f.body.getD .skip

theorem wrap_nat {k : Nat} (h : k < 2 ^ 62) : IntKind.i64.wrap ((k : Int) + 1) = ((k + 1 : Nat) : Int) := by
  rw [wrap_i64 (by omega) (by omega)]; omega

def farB (n : Int) : Bool := decide (1073741824 < n) || decide (n < -1073741824)
theorem far_run (O : Orc) (n : Int) : Runs Pr pol O 27 [.int .i64 n] (.bool (farB n)) := by
  cases h1 : decide (1073741824 < n) with
  | true =>
    rw [farB, h1]
    exact Runs.of_X (n := 50) (fl := flg [(1, 1, .bit)]) (tr := [.bit true]) (ob := decide (1073741824 < n) = true ∧ True) (by kernel_rfl) ⟨h1, trivial⟩
  | false =>
    rw [farB, h1]
    exact Runs.of_X (n := 50) (fl := flg [(1, 1, .bit), (1, 4, .bit)]) (tr := [.bit false, .bit (decide (n < -1073741824))]) (ob := decide (n < -1073741824) = decide (n < -1073741824) ∧ decide (1073741824 < n) = false ∧ True) (by kernel_rfl) ⟨rfl, h1, trivial⟩

def withinB (n : Int) : Bool := decide (-1073741824 ≤ n) && decide (n ≤ 1073741824)
theorem within_run (O : Orc) (n : Int) : Runs Pr pol O 26 [.int .i64 n] (.bool (withinB n)) := by
  cases h1 : decide (-1073741824 ≤ n) with
  | false =>
    rw [withinB, h1]
    exact Runs.of_X (n := 50) (fl := flg [(1, 1, .bit)]) (tr := [.bit false]) (ob := decide (-1073741824 ≤ n) = false ∧ True) (by kernel_rfl) ⟨h1, trivial⟩
  | true =>
    rw [withinB, h1]
    exact Runs.of_X (n := 50) (fl := flg [(1, 1, .bit), (1, 4, .bit)]) (tr := [.bit true, .bit (decide (n ≤ 1073741824))]) (ob := decide (n ≤ 1073741824) = decide (n ≤ 1073741824) ∧ decide (-1073741824 ≤ n) = true ∧ True) (by kernel_rfl) ⟨rfl, h1, trivial⟩

def runeB (n : Int) : Bool := decide (n < 33) || decide (126 < n)
theorem rune_at50 (O : Orc) (n : Int) : evPure Pr pol O 50 31 [.int .i32 n] = some (.bool (runeB n)) := by
  cases h1 : decide (n < 33) with
  | true =>
    rw [runeB, h1]
    exact evXPure_ok (fl := flg [(1, 1, .bit)]) (tr := [.bit true]) (ob := decide (n < 33) = true ∧ True) (by kernel_rfl) ⟨h1, trivial⟩
  | false =>
    rw [runeB, h1]
    exact evXPure_ok (fl := flg [(1, 1, .bit), (1, 4, .bit)]) (tr := [.bit false, .bit (decide (126 < n))]) (ob := decide (126 < n) = decide (126 < n) ∧ decide (n < 33) = false ∧ True) (by kernel_rfl) ⟨rfl, h1, trivial⟩

/-! ### name -/
noncomputable def nB : Code := bodyOf Tryz.f12
noncomputable def nL : Code := inner (inner (seqR (seqL (seqR nB))))
noncomputable def nC : Ctx := ⟨Pr, pol, [], 12⟩
theorem nB_eq : Tryz.f12.body = some (.seq (seqL nB) (.seq (.seq (seqL (seqL (seqR nB))) (.block 0 (.loop nL))) (seqR (seqR nB)))) := by kernel_rfl

def byteAt (s : ByteArray) (k : Nat) : Int := ((s.data.toList.getD k 0).toNat : Int)
def okAt (s : ByteArray) (k : Nat) : Bool := !(decide (byteAt s k < 33)) && !(decide (126 < byteAt s k))

structure NSt (s : ByteArray) (p : Int) (st : St) : Prop where
  t0 : st.tm 0 = .str s
  t3 : st.tm 3 = .int .i64 p
  hp : st.hp = Heap.empty
def mkN (s : ByteArray) (p : Int) (R : Nat → PV) : St := ⟨fun i => if i = 0 then .str s else if i = 3 then .int .i64 p else R i, Heap.empty⟩
theorem NSt.eq {s : ByteArray} {p : Int} {st : St} (h : NSt s p st) : st = mkN s p st.tm := by
  obtain ⟨tm, hp⟩ := st
  obtain ⟨h0, h3, hh⟩ := h
  simp only at h0 h3 hh
  subst hh
  unfold mkN
  congr 1
  funext i
  split
  · rename_i e; rw [e, h0]
  · split
    · rename_i e; rw [e, h3]
    · rfl

theorem byte_get {s : ByteArray} {k : Nat} (h : k < s.size) : byteAt s k = ((s[k]'h).toNat : Int) := by
  unfold byteAt
  have h' : k < s.data.toList.length := h
  rw [List.getD_eq_getElem?_getD, List.getElem?_eq_getElem h', Option.getD_some]
  rfl
theorem idx_ok {s : ByteArray} {k : Nat} (h : k < s.size) : (if h : 0 ≤ (k : Int) ∧ (k : Int).toNat < s.size then some (PV.int .u8 (s[(k : Int).toNat]'h.2).toNat) else none) = some (.int .u8 (byteAt s k)) := by
  rw [dif_pos ⟨Int.natCast_nonneg k, by rw [Int.toNat_natCast]; exact h⟩, byte_get h]
  rfl
theorem get_byte {s : ByteArray} {k : Nat} (h : k < s.size) : ((s.get! k).toNat : Int) = byteAt s k := by
  rw [byte_get h]
  have : s.get! k = s[k]'h := getElem!_pos s.data k h
  rw [this]
theorem decode_lo {s : ByteArray} {k : Nat} (h : k < s.size) (hb : byteAt s k < 128) : ((Utf8.decode s k).1 : Int) = byteAt s k ∧ (Utf8.decode s k).2 = 1 := by
  rw [← get_byte h] at hb ⊢
  unfold Utf8.decode
  simp only [Nat.add_zero]
  rw [if_pos (by omega)]
  exact ⟨rfl, rfl⟩
theorem decode_hi {s : ByteArray} {k : Nat} (h : k < s.size) (hb : ¬ byteAt s k < 128) : 126 < ((Utf8.decode s k).1 : Int) := by
  rw [← get_byte h] at hb
  unfold Utf8.decode
  simp only [Nat.add_zero]
  rw [if_neg (by omega)]
  split
  · split <;> simp only [Utf8.runeError] <;> omega
  · split
    · split
      · rename_i hc; simp only [Bool.and_eq_true, decide_eq_true_eq] at hc; omega
      · simp only [Utf8.runeError]; omega
    · split
      · split
        · rename_i hc; simp only [Bool.and_eq_true, decide_eq_true_eq] at hc; omega
        · simp only [Utf8.runeError]; omega
      · simp only [Utf8.runeError]; omega

theorem n_end {O : Orc} {s : ByteArray} {p : Int} (R : Nat → PV) (h : ¬ p < s.size) : ∃ st', Ev nC O nL (mkN s p R) (.exit 0) st' ∧ NSt s p st' := by
  obtain ⟨ex, st', ob, hp, hev⟩ := Ev.of_X (c := nC) (O := O) (fl := flg [(2, 3, .bit)]) (n := 50) (code := nL) (st := mkN s p R) (tr := [.bit false])
    (fun ex st ob => (ex, st.tm 0, st.tm 3, st.hp, ob)) (y := (Ex.exit 0, PV.str s, PV.int .i64 p, Heap.empty, decide (p < s.size) = false ∧ True)) (by kernel_rfl)
  simp only [Prod.mk.injEq] at hp
  obtain ⟨rfl, h0, h3, hh, rfl⟩ := hp
  exact ⟨st', hev ⟨by simpa using h, trivial⟩, h0, h3, hh⟩

theorem n_ok {O : Orc} {s : ByteArray} {k : Nat} (R : Nat → PV) (h : k < s.size) (hb : k < 2 ^ 62) (hk : okAt s k = true) : ∃ st', Ev nC O nL (mkN s k R) .normal st' ∧ NSt s ((k + 1 : Nat) : Int) st' := by
  obtain ⟨ex, st', ob, hp, hev⟩ := Ev.of_X (c := nC) (O := O) (fl := flg [(2, 3, .bit), (4, 2, .val), (4, 3, .bit), (4, 7, .val), (4, 8, .bit)]) (n := 50) (code := nL) (st := mkN s k R)
    (tr := [.bit true, .val (.int .u8 (byteAt s k)), .bit false, .val (.int .u8 (byteAt s k)), .bit false])
    (fun ex st ob => (ex, st.tm 0, st.tm 3, st.hp, ob)) (y := (Ex.normal, PV.str s, PV.int .i64 (IntKind.i64.wrap ((k : Int) + 1)), Heap.empty,
      decide (126 < byteAt s k) = false ∧ (if h : 0 ≤ (k : Int) ∧ (k : Int).toNat < s.size then some (PV.int .u8 (s[(k : Int).toNat]'h.2).toNat) else none) = some (.int .u8 (byteAt s k)) ∧
      decide (byteAt s k < 33) = false ∧ (if h : 0 ≤ (k : Int) ∧ (k : Int).toNat < s.size then some (PV.int .u8 (s[(k : Int).toNat]'h.2).toNat) else none) = some (.int .u8 (byteAt s k)) ∧ decide ((k : Int) < s.size) = true ∧ True)) (by kernel_rfl)
  simp only [Prod.mk.injEq] at hp
  obtain ⟨rfl, h0, h3, hh, rfl⟩ := hp
  simp only [okAt, Bool.and_eq_true, Bool.not_eq_true'] at hk
  exact ⟨st', hev ⟨hk.2, idx_ok h, hk.1, idx_ok h, by simpa using h, trivial⟩, h0, by rw [h3, wrap_nat hb], hh⟩

theorem n_bad {O : Orc} {s : ByteArray} {k : Nat} (R : Nat → PV) (h : k < s.size) (hk : okAt s k = false) : ∃ st', Ev nC O nL (mkN s k R) .ret st' ∧ st'.tm 2 = .bool false ∧ st'.hp = Heap.empty := by
  cases h1 : decide (byteAt s k < 33) with
  | true =>
    obtain ⟨ex, st', ob, hp, hev⟩ := Ev.of_X (c := nC) (O := O) (fl := flg [(2, 3, .bit), (4, 2, .val), (4, 3, .bit)]) (n := 50) (code := nL) (st := mkN s k R)
      (tr := [.bit true, .val (.int .u8 (byteAt s k)), .bit true])
      (fun ex st ob => (ex, st.tm 2, st.hp, ob)) (y := (Ex.ret, PV.bool false, Heap.empty,
        decide (byteAt s k < 33) = true ∧ (if h : 0 ≤ (k : Int) ∧ (k : Int).toNat < s.size then some (PV.int .u8 (s[(k : Int).toNat]'h.2).toNat) else none) = some (.int .u8 (byteAt s k)) ∧ decide ((k : Int) < s.size) = true ∧ True)) (by kernel_rfl)
    simp only [Prod.mk.injEq] at hp
    obtain ⟨rfl, h0, hh, rfl⟩ := hp
    exact ⟨st', hev ⟨h1, idx_ok h, by simpa using h, trivial⟩, h0, hh⟩
  | false =>
    have h2 : decide (126 < byteAt s k) = true := by simpa [okAt, h1] using hk
    obtain ⟨ex, st', ob, hp, hev⟩ := Ev.of_X (c := nC) (O := O) (fl := flg [(2, 3, .bit), (4, 2, .val), (4, 3, .bit), (4, 7, .val), (4, 8, .bit)]) (n := 50) (code := nL) (st := mkN s k R)
      (tr := [.bit true, .val (.int .u8 (byteAt s k)), .bit false, .val (.int .u8 (byteAt s k)), .bit true])
      (fun ex st ob => (ex, st.tm 2, st.hp, ob)) (y := (Ex.ret, PV.bool false, Heap.empty,
        decide (126 < byteAt s k) = true ∧ (if h : 0 ≤ (k : Int) ∧ (k : Int).toNat < s.size then some (PV.int .u8 (s[(k : Int).toNat]'h.2).toNat) else none) = some (.int .u8 (byteAt s k)) ∧
        decide (byteAt s k < 33) = false ∧ (if h : 0 ≤ (k : Int) ∧ (k : Int).toNat < s.size then some (PV.int .u8 (s[(k : Int).toNat]'h.2).toNat) else none) = some (.int .u8 (byteAt s k)) ∧ decide ((k : Int) < s.size) = true ∧ True)) (by kernel_rfl)
    simp only [Prod.mk.injEq] at hp
    obtain ⟨rfl, h0, hh, rfl⟩ := hp
    exact ⟨st', hev ⟨h2, idx_ok h, h1, idx_ok h, by simpa using h, trivial⟩, h0, hh⟩

def allOk (s : ByteArray) : Nat → Bool
  | 0 => true
  | k + 1 => allOk s k && okAt s k

theorem n_loop {O : Orc} {s : ByteArray} (hs : s.size < 2 ^ 62) : ∀ (j k : Nat), k + j = s.size → allOk s k = true → ∀ {st : St}, NSt s k st →
    (allOk s s.size = true ∧ ∃ st', Ev nC O (.loop nL) st (.exit 0) st' ∧ NSt s s.size st') ∨ (allOk s s.size = false ∧ ∃ st', Ev nC O (.loop nL) st .ret st' ∧ st'.tm 2 = .bool false ∧ st'.hp = Heap.empty)
  | 0, k, hk, ha, st, h => by
    have hk : k = s.size := by omega
    subst hk
    rw [h.eq]
    obtain ⟨st', e, h'⟩ := n_end (O := O) (s := s) (p := (s.size : Int)) st.tm (by omega)
    exact .inl ⟨ha, st', e.loop_stop (by intro q; cases q), h'⟩
  | j + 1, k, hk, ha, st, h => by
    have hlt : k < s.size := by omega
    cases ho : okAt s k with
    | true =>
      obtain ⟨st1, e, h1⟩ := n_ok (O := O) st.tm hlt (by omega) ho
      rw [← h.eq] at e
      rcases n_loop hs j (k + 1) (by omega) (by simp only [allOk, ha, ho, Bool.and_self]) h1 with ⟨g, st', e', h'⟩ | ⟨g, st', e', h'⟩
      · exact .inl ⟨g, st', e.loop e', h'⟩
      · exact .inr ⟨g, st', e.loop e', h'⟩
    | false =>
      obtain ⟨st', e, h'⟩ := n_bad (O := O) st.tm hlt ho
      rw [← h.eq] at e
      have hf : ∀ m, k < m → allOk s m = false := by
        intro m hm
        induction m with
        | zero => omega
        | succ m ih =>
          simp only [allOk]
          by_cases q : k = m
          · subst q; rw [ho, Bool.and_false]
          · rw [ih (by omega), Bool.false_and]
      exact .inr ⟨hf _ hlt, st', e.loop_stop (by intro q; cases q), h'⟩

def nameB (s : ByteArray) : Bool := allOk s s.size && (decide (1 ≤ (s.size : Int)) && decide ((s.size : Int) ≤ 40))

theorem name_run (O : Orc) (s : ByteArray) (hs : s.size < 2 ^ 62) : Runs Pr pol O 12 [.str s] (.bool (nameB s)) := by
  -- ahead of the loop
  obtain ⟨ex1, st1, ob1, hp1, hev1⟩ := Ev.of_X (c := nC) (O := O) (fl := flg []) (n := 50) (code := seqL nB) (st := startSt [.str s] Heap.empty) (tr := [])
    (fun ex st ob => (ex, st.tm 0, st.hp, ob)) (y := (Ex.normal, PV.str s, Heap.empty, True)) (by kernel_rfl)
  simp only [Prod.mk.injEq] at hp1
  obtain ⟨rfl, a0, ah, rfl⟩ := hp1
  have hst1 : st1 = ⟨fun i => if i = 0 then .str s else st1.tm i, Heap.empty⟩ := by
    obtain ⟨tm, hp⟩ := st1
    simp only at a0 ah
    subst ah
    congr 1
    funext i
    split
    · rename_i e; rw [e, a0]
    · rfl
  obtain ⟨ex2, st2, ob2, hp2, hev2⟩ := Ev.of_X (c := nC) (O := O) (fl := flg []) (n := 50) (code := seqL (seqL (seqR nB))) (st := ⟨fun i => if i = 0 then .str s else st1.tm i, Heap.empty⟩) (tr := [])
    (fun ex st ob => (ex, st.tm 0, st.tm 3, st.hp, ob)) (y := (Ex.normal, PV.str s, PV.int .i64 0, Heap.empty, True)) (by kernel_rfl)
  rw [← hst1] at hev2
  simp only [Prod.mk.injEq] at hp2
  obtain ⟨rfl, b0, b3, bh, rfl⟩ := hp2
  have hN : NSt s ((0 : Nat) : Int) st2 := ⟨b0, b3, bh⟩
  rcases n_loop (O := O) hs s.size 0 (by omega) rfl hN with ⟨g, st3, e3, h3⟩ | ⟨g, st3, e3, h2, hh⟩
  · have e4 : Ev nC O (.seq (seqL (seqL (seqR nB))) (.block 0 (.loop nL))) st1 .normal st3 := (hev2 trivial).seq e3.block
    cases h1 : decide (1 ≤ (s.size : Int)) with
    | false =>
      obtain ⟨ex5, st5, ob5, hp5, hev5⟩ := Ev.of_X (c := nC) (O := O) (fl := flg [(6, 2, .bit)]) (n := 50) (code := seqR (seqR nB)) (st := mkN s s.size st3.tm) (tr := [.bit false])
        (fun ex st ob => (ex, st.tm 2, st.hp, ob)) (y := (Ex.ret, PV.bool false, Heap.empty, decide (1 ≤ (s.size : Int)) = false ∧ True)) (by kernel_rfl)
      rw [← h3.eq] at hev5
      simp only [Prod.mk.injEq] at hp5
      obtain ⟨rfl, c2, ch, rfl⟩ := hp5
      have hr : nameB s = false := by simp only [nameB, h1, Bool.false_and, Bool.and_false]
      rw [hr]
      refine Runs.of_Ev (st := st5) (r' := .bool false) Tryz.func12 nB_eq rfl (by rw [Tryz.ntmps12]; exact Nat.le_of_ble_eq_true rfl) rfl ((hev1 trivial).seq (e4.seq (hev5 ⟨h1, trivial⟩))) (.inr rfl) ?_ (by rw [ch]; rfl)
      show some (st5.tm 2) = _
      rw [c2]
    | true =>
      obtain ⟨ex5, st5, ob5, hp5, hev5⟩ := Ev.of_X (c := nC) (O := O) (fl := flg [(6, 2, .bit), (6, 6, .bit)]) (n := 50) (code := seqR (seqR nB)) (st := mkN s s.size st3.tm) (tr := [.bit true, .bit (decide ((s.size : Int) ≤ 40))])
        (fun ex st ob => (ex, st.tm 2, st.hp, ob)) (y := (Ex.ret, PV.bool (decide ((s.size : Int) ≤ 40)), Heap.empty, decide ((s.size : Int) ≤ 40) = decide ((s.size : Int) ≤ 40) ∧ decide (1 ≤ (s.size : Int)) = true ∧ True)) (by kernel_rfl)
      rw [← h3.eq] at hev5
      simp only [Prod.mk.injEq] at hp5
      obtain ⟨rfl, c2, ch, rfl⟩ := hp5
      have hr : nameB s = decide ((s.size : Int) ≤ 40) := by simp only [nameB, h1, g, Bool.true_and]
      rw [hr]
      refine Runs.of_Ev (st := st5) (r' := .bool (decide ((s.size : Int) ≤ 40))) Tryz.func12 nB_eq rfl (by rw [Tryz.ntmps12]; exact Nat.le_of_ble_eq_true rfl) rfl ((hev1 trivial).seq (e4.seq (hev5 (by simp only [h1, and_self])))) (.inr rfl) ?_ (by rw [ch]; rfl)
      show some (st5.tm 2) = _
      rw [c2]
  · have e4 : Ev nC O (.seq (seqL (seqL (seqR nB))) (.block 0 (.loop nL))) st1 .ret st3 := (hev2 trivial).seq e3.block_ret
    have hr : nameB s = false := by simp only [nameB, g, Bool.false_and]
    rw [hr]
    refine Runs.of_Ev (st := st3) (r' := .bool false) Tryz.func12 nB_eq rfl (by rw [Tryz.ntmps12]; exact Nat.le_of_ble_eq_true rfl) rfl ((hev1 trivial).seq (e4.seq_stop (by intro q; cases q))) (.inr rfl) ?_ (by rw [hh]; rfl)
    show some (st3.tm 2) = _
    rw [h2]
end Go.Proofs.YtigfgicjjhepoaaGreatDoor.VA

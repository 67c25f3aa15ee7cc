/- Names, as the program tells them. -/
import Derived.Test.YtigfgicjjhepoaaGreatDoorSe
set_option linter.unusedVariables false
set_option linter.unusedSimpArgs false
namespace Go.Proofs.YtigfgicjjhepoaaGreatDoor.VA
open Go Go.Proofs

/-- What is known of a function at some depth, and at every greater one. -/
def Known (f : FuncId) (args : List PV) (r : PV) : Prop := ∃ m, ∀ m', m ≤ m' → (orc Pr pol prim1 primI0 m').pure f args = some r
/-- A word on oracles that holds from some depth on. -/
def Deep (Q : Orc → Prop) : Prop := ∃ m, ∀ m', m ≤ m' → Q (orc Pr pol prim1 primI0 m')
theorem Known.deep {f : FuncId} {args : List PV} {r : PV} (h : Known f args r) : Deep (fun O => O.pure f args = some r) := h
theorem Deep.and {Q R : Orc → Prop} (h : Deep Q) (g : Deep R) : Deep (fun O => Q O ∧ R O) := by
  obtain ⟨m, hm⟩ := h
  obtain ⟨k, hk⟩ := g
  exact ⟨max m k, fun m' h' => ⟨hm m' (by omega), hk m' (by omega)⟩⟩
theorem Deep.triv : Deep (fun _ => True) := ⟨0, fun _ _ => trivial⟩
theorem Known.of {Q : Orc → Prop} {f : FuncId} {args : List PV} {r : PV} (hQ : Deep Q) (hp : prim1 f args = none) (h : ∀ O, Q O → Runs Pr pol O f args r) : Known f args r := by
  obtain ⟨m, hm⟩ := hQ
  obtain ⟨n, hn⟩ := h _ (hm m (Nat.le_refl m))
  refine ⟨max m n + 1, fun m' h' => ?_⟩
  obtain ⟨k, rfl⟩ : ∃ k, m' = k + 1 := ⟨m' - 1, by omega⟩
  exact orc_pure hp (evPure_mono (evPure_le (orc_le' (by omega)) hn) (by omega))

theorem known_known : Known 6 [] (.bool true) := ⟨0, fun m' _ => by
  cases m' with
  | zero => rfl
  | succ m => rfl⟩

/-! ### indexFunc -/
noncomputable def iB : Code := bodyOf Tryz.f81
noncomputable def iL : Code := inner (inner (seqR (seqL (seqR iB))))
noncomputable def iC : Ctx := ⟨Pr, pol, [], 81⟩
def iK : Key := ([], 10, 0)
theorem iB_eq : Tryz.f81.body = some (.seq (seqL iB) (.seq (.seq (seqL (seqL (seqR iB))) (.block 0 (.loop iL))) (seqR (seqR iB)))) := by kernel_rfl

theorem rune_at {s : ByteArray} {k : Nat} (h : k < s.size) : runeB ((Utf8.decode s k).1 : Int) = !okAt s k ∧ (okAt s k = true → (Utf8.decode s k).2 = 1) := by
  by_cases hb : byteAt s k < 128
  · obtain ⟨h1, h2⟩ := decode_lo h hb
    rw [h1]
    refine ⟨?_, fun _ => h2⟩
    simp only [runeB, okAt, Bool.not_and, Bool.not_not]
  · have h1 := decode_hi h hb
    have h2 : okAt s k = false := by
      have : 126 < byteAt s k := by omega
      simp [okAt, this]
    refine ⟨?_, fun e => by rw [h2] at e; cases e⟩
    simp only [runeB, h1, h2, decide_true, Bool.or_true, Bool.not_false]

structure ISt (s : ByteArray) (p : Nat) (st : St) : Prop where
  t1 : st.tm 1 = .fn 31 [] []
  t2 : st.tm 2 = .bool true
  t10 : st.tm 10 = .ptr iK 1 0 0
  hb : st.hp.blk iK = some (.iter s p)
def mkI (s : ByteArray) (p : Nat) (R : Nat → PV) (B : Key → Option Blk) (ct : List Nat → Nat → Nat) : St :=
  ⟨fun i => if i = 1 then .fn 31 [] [] else if i = 2 then .bool true else if i = 10 then .ptr iK 1 0 0 else R i, ⟨fun j => if j = iK then some (.iter s p) else B j, ct⟩⟩
theorem ISt.eq {s : ByteArray} {p : Nat} {st : St} (h : ISt s p st) : st = mkI s p st.tm st.hp.blk st.hp.cnt := by
  obtain ⟨tm, ⟨blk, ct⟩⟩ := st
  obtain ⟨h1, h2, h3, h4⟩ := h
  simp only at h1 h2 h3 h4
  unfold mkI
  congr 1
  · funext i
    split
    · rename_i e; rw [e, h1]
    · split
      · rename_i e; rw [e, h2]
      · split
        · rename_i e; rw [e, h3]
        · rfl
  · congr 1
    funext j
    split
    · rename_i e; rw [e, h4]
    · rfl

theorem i_end {O : Orc} {s : ByteArray} {p : Nat} (R : Nat → PV) (B : Key → Option Blk) (ct : List Nat → Nat → Nat) (h : ¬ p < s.size) : ∃ st', Ev iC O iL (mkI s p R B ct) (.exit 0) st' := by
  obtain ⟨ex, st', ob, hp, hev⟩ := Ev.of_X (c := iC) (O := O) (fl := flg [(2, 0, .next)]) (n := 50) (code := iL) (st := mkI s p R B ct) (tr := [.bit false])
    (fun ex st ob => (ex, ob)) (y := (Ex.exit 0, ¬ p < s.size ∧ True)) (by kernel_rfl)
  simp only [Prod.mk.injEq] at hp
  obtain ⟨rfl, rfl⟩ := hp
  exact ⟨st', hev ⟨h, trivial⟩⟩

theorem i_ok {O : Orc} (hO : ∀ n, O.pure 31 [.int .i32 n] = some (.bool (runeB n))) {s : ByteArray} {k : Nat} (R : Nat → PV) (B : Key → Option Blk) (ct : List Nat → Nat → Nat) (h : k < s.size) (hk : okAt s k = true) :
    ∃ st', Ev iC O iL (mkI s k R B ct) .normal st' ∧ ISt s (k + 1) st' := by
  obtain ⟨ex, st', ob, hp, hev⟩ := Ev.of_X (c := iC) (O := O) (fl := flg [(2, 0, .next), (4, 2, .call)]) (n := 50) (code := iL) (st := mkI s k R B ct) (tr := [.bit true, .val (.bool false)])
    (fun ex st ob => (ex, st.tm 1, st.tm 2, st.tm 10, st.hp.blk iK, ob)) (y := (Ex.normal, PV.fn 31 [] [], PV.bool true, PV.ptr iK 1 0 0, some (Blk.iter s (k + (Utf8.decode s k).2)),
      O.pure 31 [.int .i32 (Utf8.decode s k).1] = some (.bool false) ∧ k < s.size ∧ True)) (by kernel_rfl)
  simp only [Prod.mk.injEq] at hp
  obtain ⟨rfl, h1, h2, h3, h4, rfl⟩ := hp
  obtain ⟨g1, g2⟩ := rune_at h
  refine ⟨st', hev ⟨?_, h, trivial⟩, h1, h2, h3, by rw [h4, g2 hk]⟩
  rw [hO, g1, hk]; rfl

theorem i_bad {O : Orc} (hO : ∀ n, O.pure 31 [.int .i32 n] = some (.bool (runeB n))) {s : ByteArray} {k : Nat} (R : Nat → PV) (B : Key → Option Blk) (ct : List Nat → Nat → Nat) (h : k < s.size) (hk : okAt s k = false) :
    ∃ st', Ev iC O iL (mkI s k R B ct) .ret st' ∧ st'.tm 6 = .int .i64 k := by
  obtain ⟨ex, st', ob, hp, hev⟩ := Ev.of_X (c := iC) (O := O) (fl := flg [(2, 0, .next), (4, 2, .call)]) (n := 50) (code := iL) (st := mkI s k R B ct) (tr := [.bit true, .val (.bool true)])
    (fun ex st ob => (ex, st.tm 6, ob)) (y := (Ex.ret, PV.int .i64 k,
      O.pure 31 [.int .i32 (Utf8.decode s k).1] = some (.bool true) ∧ k < s.size ∧ True)) (by kernel_rfl)
  simp only [Prod.mk.injEq] at hp
  obtain ⟨rfl, h1, rfl⟩ := hp
  obtain ⟨g1, g2⟩ := rune_at h
  refine ⟨st', hev ⟨?_, h, trivial⟩, h1⟩
  rw [hO, g1, hk]; rfl

/-- The first place from k on, of j places, where the byte is none of a name. -/
def fbad (s : ByteArray) : Nat → Nat → Int
  | 0, _ => -1
  | j + 1, k => if okAt s k then fbad s j (k + 1) else k

theorem i_loop {O : Orc} (hO : ∀ n, O.pure 31 [.int .i32 n] = some (.bool (runeB n))) {s : ByteArray} : ∀ (j k : Nat), k + j = s.size → ∀ {st : St}, ISt s k st →
    (fbad s j k = -1 ∧ ∃ st', Ev iC O (.loop iL) st (.exit 0) st') ∨ (∃ st', Ev iC O (.loop iL) st .ret st' ∧ st'.tm 6 = .int .i64 (fbad s j k))
  | 0, k, hk, st, h => by
    rw [h.eq]
    obtain ⟨st', e⟩ := i_end (O := O) (s := s) (p := k) st.tm st.hp.blk st.hp.cnt (by omega)
    exact .inl ⟨rfl, st', e.loop_stop (by intro q; cases q)⟩
  | j + 1, k, hk, st, h => by
    have hlt : k < s.size := by omega
    cases ho : okAt s k with
    | true =>
      obtain ⟨st1, e, h1⟩ := i_ok hO st.tm st.hp.blk st.hp.cnt hlt ho
      rw [← h.eq] at e
      have hf : fbad s (j + 1) k = fbad s j (k + 1) := by simp only [fbad, ho, if_true]
      rw [hf]
      rcases i_loop hO j (k + 1) (by omega) h1 with ⟨g, st', e'⟩ | ⟨st', e', h'⟩
      · exact .inl ⟨g, st', e.loop e'⟩
      · exact .inr ⟨st', e.loop e', h'⟩
    | false =>
      obtain ⟨st', e, h'⟩ := i_bad hO st.tm st.hp.blk st.hp.cnt hlt ho
      rw [← h.eq] at e
      have hf : fbad s (j + 1) k = k := by simp only [fbad, ho, Bool.false_eq_true, if_false]
      rw [hf]
      exact .inr ⟨st', e.loop_stop (by intro q; cases q), h'⟩

def idxF (s : ByteArray) : Int := fbad s s.size 0

theorem idx_run {O : Orc} (hO : ∀ n, O.pure 31 [.int .i32 n] = some (.bool (runeB n))) (s : ByteArray) : Runs Pr pol O 81 [.str s, .fn 31 [] [], .bool true] (.int .i64 (idxF s)) := by
  obtain ⟨ex1, st1, ob1, hp1, hev1⟩ := Ev.of_X (c := iC) (O := O) (fl := flg []) (n := 50) (code := seqL iB) (st := startSt [.str s, .fn 31 [] [], .bool true] Heap.empty) (tr := [])
    (fun ex st ob => (ex, st.tm 0, st.tm 1, st.tm 2, st.hp, ob)) (y := (Ex.normal, PV.str s, PV.fn 31 [] [], PV.bool true, Heap.empty, True)) (by kernel_rfl)
  simp only [Prod.mk.injEq] at hp1
  obtain ⟨rfl, a0, a1, a2, ah, rfl⟩ := hp1
  have hst1 : st1 = ⟨fun i => if i = 0 then .str s else if i = 1 then .fn 31 [] [] else if i = 2 then .bool true else st1.tm i, Heap.empty⟩ := by
    obtain ⟨tm, hp⟩ := st1
    simp only at a0 a1 a2 ah
    subst ah
    congr 1
    funext i
    split
    · rename_i e; rw [e, a0]
    · split
      · rename_i e; rw [e, a1]
      · split
        · rename_i e; rw [e, a2]
        · rfl
  obtain ⟨ex2, st2, ob2, hp2, hev2⟩ := Ev.of_X (c := iC) (O := O) (fl := flg []) (n := 50) (code := seqL (seqL (seqR iB))) (st := ⟨fun i => if i = 0 then .str s else if i = 1 then .fn 31 [] [] else if i = 2 then .bool true else st1.tm i, Heap.empty⟩) (tr := [])
    (fun ex st ob => (ex, st.tm 1, st.tm 2, st.tm 10, st.hp.blk iK, ob)) (y := (Ex.normal, PV.fn 31 [] [], PV.bool true, PV.ptr iK 1 0 0, some (Blk.iter s 0), True)) (by kernel_rfl)
  rw [← hst1] at hev2
  simp only [Prod.mk.injEq] at hp2
  obtain ⟨rfl, b1, b2, b3, b4, rfl⟩ := hp2
  have hdr : ∀ (H : Heap) (n : Int), (dr H 12 (.int .i64 n)).map (·.1) = some (.int .i64 n) := fun H n => rfl
  rcases i_loop hO s.size 0 (by omega) ⟨b1, b2, b3, b4⟩ with ⟨g, st3, e3⟩ | ⟨st3, e3, h6⟩
  · have e4 : Ev iC O (.seq (seqL (seqL (seqR iB))) (.block 0 (.loop iL))) st1 .normal st3 := (hev2 trivial).seq e3.block
    obtain ⟨ex5, st5, ob5, hp5, hev5⟩ := Ev.of_X (c := iC) (O := O) (fl := flg []) (n := 50) (code := seqR (seqR iB)) (st := st3) (tr := [])
      (fun ex st ob => (ex, st.tm 6, ob)) (y := (Ex.ret, PV.int .i64 (-1), True)) (by kernel_rfl)
    simp only [Prod.mk.injEq] at hp5
    obtain ⟨rfl, c2, rfl⟩ := hp5
    have hr : idxF s = -1 := g
    rw [hr]
    refine Runs.of_Ev (st := st5) (r' := .int .i64 (-1)) Tryz.func81 iB_eq rfl (by rw [Tryz.ntmps81]; exact Nat.le_of_ble_eq_true rfl) rfl ((hev1 trivial).seq (e4.seq (hev5 trivial))) (.inr rfl) ?_ (hdr _ _)
    show some (st5.tm 6) = _
    rw [c2]
  · have e4 : Ev iC O (.seq (seqL (seqL (seqR iB))) (.block 0 (.loop iL))) st1 .ret st3 := (hev2 trivial).seq e3.block_ret
    refine Runs.of_Ev (st := st3) (r' := .int .i64 (idxF s)) Tryz.func81 iB_eq rfl (by rw [Tryz.ntmps81]; exact Nat.le_of_ble_eq_true rfl) rfl ((hev1 trivial).seq (e4.seq_stop (by intro q; cases q))) (.inr rfl) ?_ (hdr _ _)
    show some (st3.tm 6) = _
    rw [h6]; rfl

theorem fbad_neg (s : ByteArray) : ∀ j k, k + j = s.size → allOk s k = true → (0 ≤ fbad s j k ↔ allOk s s.size = false)
  | 0, k, hk, ha => by
    have : k = s.size := by omega
    subst this
    simp [fbad, ha]
  | j + 1, k, hk, ha => by
    unfold fbad
    cases ho : okAt s k with
    | true =>
      simp only [if_true]
      exact fbad_neg s j (k + 1) (by omega) (by simp only [allOk, ha, ho, Bool.and_self])
    | false =>
      simp only [Bool.false_eq_true, if_false]
      have hf : ∀ m, k < m → allOk s m = false := by
        intro m hm
        induction m with
        | zero => omega
        | succ m ih =>
          simp only [allOk]
          by_cases q : k = m
          · subst q; rw [ho, Bool.and_false]
          · rw [ih (by omega), Bool.false_and]
      exact ⟨fun _ => hf _ (by omega), fun _ => by omega⟩

theorem idxFunc_run {O : Orc} {s : ByteArray} {v : Int} (h : O.pure 81 [.str s, .fn 31 [] [], .bool true] = some (.int .i64 v)) : Runs Pr pol O 55 [.str s, .fn 31 [] []] (.int .i64 v) :=
  Runs.of_X (n := 50) (fl := flg [(1, 2, .call)]) (tr := [.val (.int .i64 v)]) (ob := O.pure 81 [.str s, .fn 31 [] [], .bool true] = some (.int .i64 v) ∧ True) (by kernel_rfl) ⟨h, trivial⟩
theorem contains_run {O : Orc} {s : ByteArray} {v : Int} (h : O.pure 55 [.str s, .fn 31 [] []] = some (.int .i64 v)) : Runs Pr pol O 30 [.str s, .fn 31 [] []] (.bool (decide (0 ≤ v))) :=
  Runs.of_X (n := 50) (fl := flg [(1, 2, .call)]) (tr := [.val (.int .i64 v)]) (ob := O.pure 55 [.str s, .fn 31 [] []] = some (.int .i64 v) ∧ True) (by kernel_rfl) ⟨h, trivial⟩

theorem isName_run {O : Orc} {s : ByteArray} (h : O.pure 30 [.str s, .fn 31 [] []] = some (.bool (decide (0 ≤ idxF s)))) : Runs Pr pol O 11 [.str s] (.bool (nameB s)) := by
  have hn : nameB s = (decide (0 < (s.size : Int)) && (decide ((s.size : Int) ≤ 40) && !decide (0 ≤ idxF s))) := by
    have h1 := fbad_neg s s.size 0 (by omega) rfl
    have h2 : decide (1 ≤ (s.size : Int)) = decide (0 < (s.size : Int)) := by simp only [decide_eq_decide]; omega
    have h3 : (!decide (0 ≤ idxF s)) = allOk s s.size := by
      unfold idxF
      cases ha : allOk s s.size with
      | true => have : ¬ 0 ≤ fbad s s.size 0 := fun q => by rw [h1.1 q] at ha; cases ha
                simp [this]
      | false => have := h1.2 ha; simp [this]
    rw [nameB, h2, h3]
    cases allOk s s.size <;> cases decide (0 < (s.size : Int)) <;> cases decide ((s.size : Int) ≤ 40) <;> rfl
  rw [hn]
  cases h1 : decide (0 < (s.size : Int)) with
  | false => exact Runs.of_X (n := 50) (fl := flg [(1, 2, .bit)]) (tr := [.bit false]) (ob := decide (0 < (s.size : Int)) = false ∧ True) (by kernel_rfl) ⟨h1, trivial⟩
  | true =>
    cases h2 : decide ((s.size : Int) ≤ 40) with
    | false => exact Runs.of_X (n := 50) (fl := flg [(1, 2, .bit), (1, 6, .bit)]) (tr := [.bit true, .bit false]) (ob := decide ((s.size : Int) ≤ 40) = false ∧ decide (0 < (s.size : Int)) = true ∧ True) (by kernel_rfl) ⟨h2, h1, trivial⟩
    | true =>
      exact Runs.of_X (n := 50) (fl := flg [(1, 2, .bit), (1, 6, .bit), (1, 10, .call)]) (tr := [.bit true, .bit true, .val (.bool (decide (0 ≤ idxF s)))])
        (ob := O.pure 30 [.str s, .fn 31 [] []] = some (.bool (decide (0 ≤ idxF s))) ∧ decide ((s.size : Int) ≤ 40) = true ∧ decide (0 < (s.size : Int)) = true ∧ True) (by kernel_rfl) ⟨h, h2, h1, trivial⟩

theorem known_isName (s : ByteArray) : Known 11 [.str s] (.bool (nameB s)) := by
  have h0 : Deep (fun O => ∀ n, O.pure 31 [.int .i32 n] = some (.bool (runeB n))) := by
    refine ⟨51, fun m' h' n => ?_⟩
    obtain ⟨k, rfl⟩ : ∃ k, m' = k + 1 := ⟨m' - 1, by omega⟩
    refine orc_pure rfl (evPure_mono (rune_at50 _ n) (by omega))
  have h1 : Known 81 [.str s, .fn 31 [] [], .bool true] (.int .i64 (idxF s)) := Known.of h0 rfl (fun O hO => idx_run hO s)
  have h2 := Known.of (r := .int .i64 (idxF s)) (f := 55) h1.deep rfl (fun O hO => idxFunc_run hO)
  have h3 := Known.of (r := .bool (decide (0 ≤ idxF s))) (f := 30) h2.deep rfl (fun O hO => contains_run hO)
  exact Known.of h3.deep rfl (fun O hO => isName_run hO)
end Go.Proofs.YtigfgicjjhepoaaGreatDoor.VA

/- The law of checks, over the evaluator. -/
import Derived.Test.YtigfgicjjhepoaaGreatDoorSp
set_option linter.unusedVariables false
set_option linter.unusedSimpArgs false
namespace Go.Proofs.YtigfgicjjhepoaaGreatDoor.VA
open Go Go.Proofs

theorem Ev.seq_out {c : Ctx} {O : Orc} {a b x : Code} {st s : St} {ex : Ex} (h : Ev c O (.seq a b) st ex s) (hne : ex ≠ .normal) : Ev c O (.seq a (.seq b x)) st ex s := by
  obtain ⟨n, hn⟩ := h
  cases n with
  | zero => simp [evCode] at hn
  | succ n =>
    simp only [evCode] at hn
    split at hn
    · rename_i s1 h1
      exact Ev.seq ⟨n, h1⟩ (Ev.seq_stop ⟨n, hn⟩ hne)
    · exact Ev.seq_stop ⟨n, hn⟩ hne

noncomputable def cB : Code := bodyOf Tryz.f4
noncomputable def cC : Ctx := ⟨Pr, pol, [], 4⟩
noncomputable def cT2 : Code := seqR (seqR cB)
noncomputable def cT3 : Code := seqR cT2
noncomputable def cT6 : Code := seqR (seqR (seqR cT3))
noncomputable def cT7 : Code := seqR cT6
noncomputable def cT9 : Code := seqR (seqR cT7)
noncomputable def cT11 : Code := seqR (seqR cT9)
noncomputable def cL1 : Code := inner (inner (seqR (seqL cT2)))
noncomputable def cL2 : Code := inner (inner (seqR (seqL cT6)))
noncomputable def cL3 : Code := inner (inner (seqR (seqL cT11)))
theorem cB_eq : Tryz.f4.body = some (.seq (seqL cB) (.seq (seqL (seqR cB)) (.seq (.seq (seqL (seqL cT2)) (.block 0 (.loop cL1))) (.seq (seqL cT3) (.seq (seqL (seqR cT3)) (.seq (seqL (seqR (seqR cT3))) (.seq (.seq (seqL (seqL cT6)) (.block 2 (.loop cL2)))
    (.seq (seqL cT7) (.seq (seqL (seqR cT7)) (.seq (seqL cT9) (.seq (seqL (seqR cT9)) (.seq (.seq (seqL (seqL cT11)) (.block 4 (.loop cL3))) (seqR cT11))))))))))))) := by kernel_rfl

/-- States: named temporaries, the rest, and that nothing lies at one place. -/
def mkS (ts : List (Nat × PV)) (R : Nat → PV) (B : Key → Option Blk) (C : List Nat → Nat → Nat) : St :=
  ⟨fun i => pick ts R i, ⟨B, fun p d => if p = [] ∧ d = 98 then 0 else C p d⟩⟩
where
  pick : List (Nat × PV) → (Nat → PV) → Nat → PV
  | [], R, i => R i
  | (n, v) :: l, R, i => if i = n then v else pick l R i
def Has (ts : List (Nat × PV)) (st : St) : Prop := (∀ x ∈ ts, st.tm x.1 = x.2) ∧ st.hp.cnt [] 98 = 0
theorem Has.eq {ts : List (Nat × PV)} {st : St} (h : Has ts st) : st = mkS ts st.tm st.hp.blk st.hp.cnt := by
  obtain ⟨tm, ⟨blk, ct⟩⟩ := st
  obtain ⟨h1, h2⟩ := h
  simp only at h1 h2
  unfold mkS
  congr 1
  · funext i
    induction ts with
    | nil => rfl
    | cons x l ih =>
      obtain ⟨n, v⟩ := x
      unfold mkS.pick
      split
      · rename_i e; rw [e]; exact h1 (n, v) (by simp)
      · exact ih (fun y hy => h1 y (by simp [hy]))
  · congr 1
    funext p d
    split
    · rename_i e; obtain ⟨rfl, rfl⟩ := e; rw [h2]
    · rfl
theorem has_nil {st : St} (h : st.hp.cnt [] 98 = 0) : Has [] st := ⟨fun _ h => (by cases h), h⟩
theorem Has.cons {ts : List (Nat × PV)} {st : St} {n : Nat} {v : PV} (h : Has ts st) (hv : st.tm n = v) : Has ((n, v) :: ts) st := ⟨fun x hx => by
  rcases List.mem_cons.1 hx with rfl | hx
  · exact hv
  · exact h.1 x hx, h.2⟩

section
variable {O : Orc} {l : List Dm} {s : ByteArray}
abbrev kn (O : Orc) : Prop := O.pure 6 [] = some (.bool true)

/-- The guard. -/
theorem c_long1 (hk : kn O) (h : 6 < (l.length : Int)) : ∃ st', Ev cC O (.seq (seqL cB) (seqL (seqR cB))) (startSt [LS l, .str s] Heap.empty) .ret st' ∧ st'.tm 4 = .bool true := by
  obtain ⟨ex, st', ob, hp, hev⟩ := Ev.of_X (c := cC) (O := O) (fl := flg [(1, 0, .call), (1, 4, .val), (1, 5, .bit), (2, 0, .call)]) (n := 50) (code := .seq (seqL cB) (seqL (seqR cB))) (st := startSt [LS l, .str s] Heap.empty)
    (tr := [.val (.bool true), .val (.int .i64 l.length), .bit true, .val (.bool true)]) (fun ex st ob => (ex, st.tm 4, ob))
    (y := (Ex.ret, PV.bool true, kn O ∧ decide (6 < (l.length : Int)) = true ∧ some (PV.int .i64 ((l.map Dm.pv).length : Int)) = some (.int .i64 (l.length : Int)) ∧ kn O ∧ True)) (by kernel_rfl)
  simp only [Prod.mk.injEq] at hp
  obtain ⟨rfl, h4, rfl⟩ := hp
  exact ⟨st', hev ⟨hk, decide_eq_true h, lenE l, hk, trivial⟩, h4⟩
theorem c_long2 (hk : kn O) (h : ¬ 6 < (l.length : Int)) (h2 : 50 < (s.size : Int)) : ∃ st', Ev cC O (.seq (seqL cB) (seqL (seqR cB))) (startSt [LS l, .str s] Heap.empty) .ret st' ∧ st'.tm 4 = .bool true := by
  obtain ⟨ex, st', ob, hp, hev⟩ := Ev.of_X (c := cC) (O := O) (fl := flg [(1, 0, .call), (1, 4, .val), (1, 5, .bit), (1, 10, .bit), (2, 0, .call)]) (n := 50) (code := .seq (seqL cB) (seqL (seqR cB))) (st := startSt [LS l, .str s] Heap.empty)
    (tr := [.val (.bool true), .val (.int .i64 l.length), .bit false, .bit true, .val (.bool true)]) (fun ex st ob => (ex, st.tm 4, ob))
    (y := (Ex.ret, PV.bool true, kn O ∧ decide (50 < (s.size : Int)) = true ∧ decide (6 < (l.length : Int)) = false ∧ some (PV.int .i64 ((l.map Dm.pv).length : Int)) = some (.int .i64 (l.length : Int)) ∧ kn O ∧ True)) (by kernel_rfl)
  simp only [Prod.mk.injEq] at hp
  obtain ⟨rfl, h4, rfl⟩ := hp
  exact ⟨st', hev ⟨hk, decide_eq_true h2, decide_eq_false h, lenE l, hk, trivial⟩, h4⟩
theorem c_guard (hk : kn O) (h : ¬ 6 < (l.length : Int)) (h2 : ¬ 50 < (s.size : Int)) : ∃ st', Ev cC O (.seq (seqL cB) (.seq (seqL (seqR cB)) (seqL (seqL cT2)))) (startSt [LS l, .str s] Heap.empty) .normal st' ∧ Has [(0, LS l), (1, .str s), (5, .int .i64 ((0 : Nat) : Int))] st' := by
  obtain ⟨ex, st', ob, hp, hev⟩ := Ev.of_X (c := cC) (O := O) (fl := flg [(1, 0, .call), (1, 4, .val), (1, 5, .bit), (1, 10, .bit)]) (n := 50) (code := .seq (seqL cB) (.seq (seqL (seqR cB)) (seqL (seqL cT2)))) (st := startSt [LS l, .str s] Heap.empty)
    (tr := [.val (.bool true), .val (.int .i64 l.length), .bit false, .bit false]) (fun ex st ob => (ex, st.tm 0, st.tm 1, st.tm 5, st.hp.cnt [] 98, ob))
    (y := (Ex.normal, LS l, PV.str s, PV.int .i64 ((0 : Nat) : Int), 0, decide (50 < (s.size : Int)) = false ∧ decide (6 < (l.length : Int)) = false ∧ some (PV.int .i64 ((l.map Dm.pv).length : Int)) = some (.int .i64 (l.length : Int)) ∧ kn O ∧ True)) (by kernel_rfl)
  simp only [Prod.mk.injEq] at hp
  obtain ⟨rfl, h0, h1, h5, hc, rfl⟩ := hp
  exact ⟨st', hev ⟨decide_eq_false h2, decide_eq_false h, lenE l, hk, trivial⟩, (((has_nil hc).cons h5).cons h1).cons h0⟩

/-! names -/
theorem n1_end {k : Nat} (R : Nat → PV) (B : Key → Option Blk) (C : List Nat → Nat → Nat) (h : ¬ (k : Int) < l.length) : ∃ st', Ev cC O cL1 (mkS [(0, LS l), (1, .str s), (5, .int .i64 k)] R B C) (.exit 0) st' ∧ Has [(0, LS l), (1, .str s)] st' := by
  obtain ⟨ex, st', ob, hp, hev⟩ := Ev.of_X (c := cC) (O := O) (fl := flg [(4, 2, .val), (4, 3, .bit)]) (n := 50) (code := cL1) (st := mkS [(0, LS l), (1, .str s), (5, .int .i64 k)] R B C) (tr := [.val (.int .i64 l.length), .bit false])
    (fun ex st ob => (ex, st.tm 0, st.tm 1, st.hp.cnt [] 98, ob)) (y := (Ex.exit 0, LS l, PV.str s, 0, decide ((k : Int) < l.length) = false ∧ some (PV.int .i64 ((l.map Dm.pv).length : Int)) = some (.int .i64 (l.length : Int)) ∧ True)) (by kernel_rfl)
  simp only [Prod.mk.injEq] at hp
  obtain ⟨rfl, h0, h1, hc, rfl⟩ := hp
  exact ⟨st', hev ⟨by simpa using h, lenE l, trivial⟩, ((has_nil hc).cons h1).cons h0⟩
theorem n1_go {k : Nat} {d : Dm} (R : Nat → PV) (B : Key → Option Blk) (C : List Nat → Nat → Nat) (h : l[k]? = some d) (hk : k < 2 ^ 62) (hd : ¬ 50 < (d.s.size : Int)) : ∃ st', Ev cC O cL1 (mkS [(0, LS l), (1, .str s), (5, .int .i64 k)] R B C) .normal st' ∧ Has [(0, LS l), (1, .str s), (5, .int .i64 ((k + 1 : Nat) : Int))] st' := by
  have hlt : k < l.length := (List.getElem?_eq_some_iff.1 h).1
  have ha : AD l (k : Int) d := iAddr h
  obtain ⟨ex, st', ob, hp, hev⟩ := Ev.of_X (c := cC) (O := O) (fl := flg [(4, 2, .val), (4, 3, .bit), (6, 2, .val), (6, 6, .bit)]) (n := 50) (code := cL1) (st := mkS [(0, LS l), (1, .str s), (5, .int .i64 k)] R B C) (tr := [.val (.int .i64 l.length), .bit true, .val (.pp d.pv.cells 0), .bit false])
    (fun ex st ob => (ex, st.tm 0, st.tm 1, st.tm 5, st.hp.cnt [] 98, ob)) (y := (Ex.normal, LS l, PV.str s, PV.int .i64 (IntKind.i64.wrap ((k : Int) + 1)), 0, decide (50 < (d.s.size : Int)) = false ∧ AD l (k : Int) d ∧ decide ((k : Int) < l.length) = true ∧ some (PV.int .i64 ((l.map Dm.pv).length : Int)) = some (.int .i64 (l.length : Int)) ∧ True)) (by kernel_rfl)
  simp only [Prod.mk.injEq] at hp
  obtain ⟨rfl, h0, h1, h5, hc, rfl⟩ := hp
  exact ⟨st', hev ⟨decide_eq_false hd, ha, by simp [hlt], lenE l, trivial⟩, (((has_nil hc).cons (by rw [h5, wrap_nat hk])).cons h1).cons h0⟩
theorem n1_stop {k : Nat} {d : Dm} (R : Nat → PV) (B : Key → Option Blk) (C : List Nat → Nat → Nat) (h : l[k]? = some d) (hd : 50 < (d.s.size : Int)) : ∃ st', Ev cC O cL1 (mkS [(0, LS l), (1, .str s), (5, .int .i64 k)] R B C) .ret st' ∧ st'.tm 4 = .bool true := by
  have hlt : k < l.length := (List.getElem?_eq_some_iff.1 h).1
  have ha : AD l (k : Int) d := iAddr h
  obtain ⟨ex, st', ob, hp, hev⟩ := Ev.of_X (c := cC) (O := O) (fl := flg [(4, 2, .val), (4, 3, .bit), (6, 2, .val), (6, 6, .bit)]) (n := 50) (code := cL1) (st := mkS [(0, LS l), (1, .str s), (5, .int .i64 k)] R B C) (tr := [.val (.int .i64 l.length), .bit true, .val (.pp d.pv.cells 0), .bit true])
    (fun ex st ob => (ex, st.tm 4, ob)) (y := (Ex.ret, PV.bool true, decide (50 < (d.s.size : Int)) = true ∧ AD l (k : Int) d ∧ decide ((k : Int) < l.length) = true ∧ some (PV.int .i64 ((l.map Dm.pv).length : Int)) = some (.int .i64 (l.length : Int)) ∧ True)) (by kernel_rfl)
  simp only [Prod.mk.injEq] at hp
  obtain ⟨rfl, h4, rfl⟩ := hp
  exact ⟨st', hev ⟨decide_eq_true hd, ha, by simp [hlt], lenE l, trivial⟩, h4⟩
theorem n1_loop (hl : l.length < 2 ^ 62) : ∀ (r : List Dm) (k : Nat), l.drop k = r → ∀ {st : St}, Has [(0, LS l), (1, .str s), (5, .int .i64 k)] st →
    ((∀ d ∈ r, ¬ 50 < (d.s.size : Int)) ∧ ∃ st', Ev cC O (.loop cL1) st (.exit 0) st' ∧ Has [(0, LS l), (1, .str s)] st') ∨ (∃ st', Ev cC O (.loop cL1) st .ret st' ∧ st'.tm 4 = .bool true)
  | [], k, hk, st, h => by
    have : l.length ≤ k := by simpa using hk
    rw [h.eq]
    obtain ⟨st', e, h'⟩ := n1_end (O := O) (l := l) (s := s) (k := k) st.tm st.hp.blk st.hp.cnt (by omega)
    exact .inl ⟨by simp, st', e.loop_stop (by intro q; cases q), h'⟩
  | d :: r, k, hk, st, h => by
    have hd : l[k]? = some d := by
      have := congrArg (fun x => x[0]?) hk
      simpa using this
    have hr : l.drop (k + 1) = r := by
      have := congrArg (fun x => x.drop 1) hk
      simpa using this
    have hlt : k < l.length := (List.getElem?_eq_some_iff.1 hd).1
    by_cases hs : 50 < (d.s.size : Int)
    · obtain ⟨st', e, h'⟩ := n1_stop (O := O) (s := s) st.tm st.hp.blk st.hp.cnt hd hs
      rw [← h.eq] at e
      exact .inr ⟨st', e.loop_stop (by intro q; cases q), h'⟩
    · obtain ⟨st1, e, h1⟩ := n1_go (O := O) (s := s) st.tm st.hp.blk st.hp.cnt hd (by omega) hs
      rw [← h.eq] at e
      rcases n1_loop hl r (k + 1) hr h1 with ⟨g, st', e', h'⟩ | ⟨st', e', h'⟩
      · exact .inl ⟨fun x hx => by
          rcases List.mem_cons.1 hx with rfl | hx
          · exact hs
          · exact g x hx, st', e.loop e', h'⟩
      · exact .inr ⟨st', e.loop e', h'⟩

/-! Check, Find -/
theorem c_mid {e v : Int} {b : Bool} (R : Nat → PV) (B : Key → Option Blk) (C : List Nat → Nat → Nat) (hl : l.length ≤ 6) (hc : O.pure 9 [LS l] = some (.int .i64 e)) (hf : O.pure 10 [LS l, .str s] = some (.tup [.int .i64 v, .bool b])) :
    ∃ st', Ev cC O (.seq (seqL cT3) (.seq (seqL (seqR cT3)) (.seq (seqL (seqR (seqR cT3))) (seqL (seqL cT6))))) (mkS [(0, LS l), (1, .str s)] R B C) .normal st' ∧
      Has [(0, LS l), (1, .str s), (6, .int .i64 e), (7, .int .i64 v), (8, .bool b), (9, .int .i64 (-1)), (10, .int .i64 ((l.length : Int) - 1))] st' := by
  have hw : some (PV.int .i64 (IntKind.i64.wrap ((l.length : Int) - 1))) = some (.int .i64 ((l.length : Int) - 1)) := by rw [wrap_id (by omega)]
  obtain ⟨ex, st', ob, hp, hev⟩ := Ev.of_X (c := cC) (O := O) (fl := flg [(8, 1, .pers), (9, 2, .pers), (11, 1, .val), (11, 2, .val)]) (n := 50) (code := .seq (seqL cT3) (.seq (seqL (seqR cT3)) (.seq (seqL (seqR (seqR cT3))) (seqL (seqL cT6))))) (st := mkS [(0, LS l), (1, .str s)] R B C)
    (tr := [.val (.int .i64 e), .val (.tup [.int .i64 v, .bool b]), .val (.int .i64 l.length), .val (.int .i64 ((l.length : Int) - 1))])
    (fun ex st ob => (ex, st.tm 0, st.tm 1, st.tm 6, st.tm 7, st.tm 8, st.tm 9, st.tm 10, st.hp.cnt [] 98, ob))
    (y := (Ex.normal, LS l, PV.str s, PV.int .i64 e, PV.int .i64 v, PV.bool b, PV.int .i64 (-1), PV.int .i64 ((l.length : Int) - 1), 0,
      some (PV.int .i64 (IntKind.i64.wrap ((l.length : Int) - 1))) = some (.int .i64 ((l.length : Int) - 1)) ∧ some (PV.int .i64 ((l.map Dm.pv).length : Int)) = some (.int .i64 (l.length : Int)) ∧ PV.persL [LS l, .str s] = true ∧ O.pure 10 [LS l, .str s] = some (.tup [.int .i64 v, .bool b]) ∧ PV.persL [LS l] = true ∧ O.pure 9 [LS l] = some (.int .i64 e) ∧ True)) (by kernel_rfl)
  simp only [Prod.mk.injEq] at hp
  obtain ⟨rfl, h0, h1, h6, h7, h8, h9, h10, hcn, rfl⟩ := hp
  exact ⟨st', hev ⟨hw, lenE l, persF l s, hf, persLS l, hc, trivial⟩, (((((((has_nil hcn).cons h10).cons h9).cons h8).cons h7).cons h6).cons h1).cons h0⟩

/-! where a name is -/
section
variable {e v at_ : Int} {b : Bool} (R : Nat → PV) (B : Key → Option Blk) (C : List Nat → Nat → Nat)
theorem n2_end : ∃ st', Ev cC O cL2 (mkS [(0, LS l), (1, .str s), (6, .int .i64 e), (7, .int .i64 v), (8, .bool b), (9, .int .i64 at_), (10, .int .i64 (-1))] R B C) (.exit 2) st' ∧ Has [(0, LS l), (1, .str s), (6, .int .i64 e), (7, .int .i64 v), (8, .bool b), (9, .int .i64 at_)] st' := by
  obtain ⟨ex, st', ob, hp, hev⟩ := Ev.of_X (c := cC) (O := O) (fl := flg []) (n := 50) (code := cL2) (st := mkS [(0, LS l), (1, .str s), (6, .int .i64 e), (7, .int .i64 v), (8, .bool b), (9, .int .i64 at_), (10, .int .i64 (-1))] R B C) (tr := [])
    (fun ex st ob => (ex, st.tm 0, st.tm 1, st.tm 6, st.tm 7, st.tm 8, st.tm 9, st.hp.cnt [] 98, ob)) (y := (Ex.exit 2, LS l, PV.str s, PV.int .i64 e, PV.int .i64 v, PV.bool b, PV.int .i64 at_, 0, True)) (by kernel_rfl)
  simp only [Prod.mk.injEq] at hp
  obtain ⟨rfl, h0, h1, h6, h7, h8, h9, hc, rfl⟩ := hp
  exact ⟨st', hev trivial, ((((((has_nil hc).cons h9).cons h8).cons h7).cons h6).cons h1).cons h0⟩
theorem n2_step {k : Nat} {d : Dm} (h : l[k]? = some d) (hl : l.length ≤ 6) : ∃ st', Ev cC O cL2 (mkS [(0, LS l), (1, .str s), (6, .int .i64 e), (7, .int .i64 v), (8, .bool b), (9, .int .i64 at_), (10, .int .i64 (k : Int))] R B C) .normal st' ∧
    Has [(0, LS l), (1, .str s), (6, .int .i64 e), (7, .int .i64 v), (8, .bool b), (9, .int .i64 (if d.s = s then (k : Int) else at_)), (10, .int .i64 ((k : Int) - 1))] st' := by
  have hlt : k < l.length := (List.getElem?_eq_some_iff.1 h).1
  have ha : AD l (k : Int) d := iAddr h
  have hw : some (PV.int .i64 (IntKind.i64.wrap ((k : Int) - 1))) = some (.int .i64 ((k : Int) - 1)) := by rw [wrap_id (by omega)]
  have h0k : decide (0 ≤ (k : Int)) = true := by simp
  by_cases hs : d.s = s
  · rw [if_pos hs]
    obtain ⟨ex, st', ob, hp, hev⟩ := Ev.of_X (c := cC) (O := O) (fl := flg [(12, 1, .bit), (14, 2, .val), (14, 6, .bit), (13, 1, .val)]) (n := 50) (code := cL2) (st := mkS [(0, LS l), (1, .str s), (6, .int .i64 e), (7, .int .i64 v), (8, .bool b), (9, .int .i64 at_), (10, .int .i64 (k : Int))] R B C)
      (tr := [.bit true, .val (.pp d.pv.cells 0), .bit true, .val (.int .i64 ((k : Int) - 1))])
      (fun ex st ob => (ex, st.tm 0, st.tm 1, st.tm 6, st.tm 7, st.tm 8, st.tm 9, st.tm 10, st.hp.cnt [] 98, ob)) (y := (Ex.normal, LS l, PV.str s, PV.int .i64 e, PV.int .i64 v, PV.bool b, PV.int .i64 (k : Int), PV.int .i64 ((k : Int) - 1), 0,
        some (PV.int .i64 (IntKind.i64.wrap ((k : Int) - 1))) = some (.int .i64 ((k : Int) - 1)) ∧ decide (d.s = s) = true ∧ AD l (k : Int) d ∧ decide (0 ≤ (k : Int)) = true ∧ True)) (by kernel_rfl)
    simp only [Prod.mk.injEq] at hp
    obtain ⟨rfl, h0, h1, h6, h7, h8, h9, h10, hc, rfl⟩ := hp
    exact ⟨st', hev ⟨hw, decide_eq_true hs, ha, h0k, trivial⟩, (((((((has_nil hc).cons h10).cons h9).cons h8).cons h7).cons h6).cons h1).cons h0⟩
  · rw [if_neg hs]
    obtain ⟨ex, st', ob, hp, hev⟩ := Ev.of_X (c := cC) (O := O) (fl := flg [(12, 1, .bit), (14, 2, .val), (14, 6, .bit), (13, 1, .val)]) (n := 50) (code := cL2) (st := mkS [(0, LS l), (1, .str s), (6, .int .i64 e), (7, .int .i64 v), (8, .bool b), (9, .int .i64 at_), (10, .int .i64 (k : Int))] R B C)
      (tr := [.bit true, .val (.pp d.pv.cells 0), .bit false, .val (.int .i64 ((k : Int) - 1))])
      (fun ex st ob => (ex, st.tm 0, st.tm 1, st.tm 6, st.tm 7, st.tm 8, st.tm 9, st.tm 10, st.hp.cnt [] 98, ob)) (y := (Ex.normal, LS l, PV.str s, PV.int .i64 e, PV.int .i64 v, PV.bool b, PV.int .i64 at_, PV.int .i64 ((k : Int) - 1), 0,
        some (PV.int .i64 (IntKind.i64.wrap ((k : Int) - 1))) = some (.int .i64 ((k : Int) - 1)) ∧ decide (d.s = s) = false ∧ AD l (k : Int) d ∧ decide (0 ≤ (k : Int)) = true ∧ True)) (by kernel_rfl)
    simp only [Prod.mk.injEq] at hp
    obtain ⟨rfl, h0, h1, h6, h7, h8, h9, h10, hc, rfl⟩ := hp
    exact ⟨st', hev ⟨hw, decide_eq_false hs, ha, h0k, trivial⟩, (((((((has_nil hc).cons h10).cons h9).cons h8).cons h7).cons h6).cons h1).cons h0⟩
end
theorem n2_loop {e v : Int} {b : Bool} (hl : l.length ≤ 6) : ∀ (k : Nat), k ≤ l.length → ∀ {st : St}, Has [(0, LS l), (1, .str s), (6, .int .i64 e), (7, .int .i64 v), (8, .bool b), (9, .int .i64 (idxN s (l.drop k) k)), (10, .int .i64 ((k : Int) - 1))] st →
    ∃ st', Ev cC O (.loop cL2) st (.exit 2) st' ∧ Has [(0, LS l), (1, .str s), (6, .int .i64 e), (7, .int .i64 v), (8, .bool b), (9, .int .i64 (idxN s l 0))] st'
  | 0, hk, st, h => by
    rw [h.eq]
    obtain ⟨st', ev, h'⟩ := n2_end (O := O) (l := l) (s := s) (e := e) (v := v) (b := b) (at_ := idxN s (l.drop 0) 0) st.tm st.hp.blk st.hp.cnt
    exact ⟨st', ev.loop_stop (by intro q; cases q), h'⟩
  | k + 1, hk, st, h => by
    have hd : l[k]? = some l[k] := List.getElem?_eq_getElem (by omega)
    have hi : (((k + 1 : Nat) : Int) - 1) = (k : Int) := by omega
    rw [hi] at h
    obtain ⟨st1, ev, h1⟩ := n2_step (O := O) (l := l) (s := s) (e := e) (v := v) (b := b) (at_ := idxN s (l.drop (k + 1)) (k + 1)) st.tm st.hp.blk st.hp.cnt hd hl
    rw [← h.eq] at ev
    have hx : (if (l[k]).s = s then (k : Int) else idxN s (l.drop (k + 1)) (k + 1)) = idxN s (l.drop k) k := by
      rw [List.drop_eq_getElem_cons (show k < l.length by omega)]
      rfl
    rw [hx] at h1
    obtain ⟨st', ev', h'⟩ := n2_loop hl k (by omega) h1
    exact ⟨st', ev.loop ev', h'⟩
end
end Go.Proofs.YtigfgicjjhepoaaGreatDoor.VA

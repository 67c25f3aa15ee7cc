/- The law's own check, over lists of at most six. -/
import Derived.Test.YtigfgicjjhepoaaGreatDoorSm
set_option linter.unusedVariables false
set_option linter.unusedSimpArgs false
namespace Go.Proofs.YtigfgicjjhepoaaGreatDoor.VA
open Go Go.Proofs

noncomputable def lB : Code := bodyOf Tryz.f8
noncomputable def lL : Code := inner (inner (seqR (seqL (seqR (seqR lB)))))
noncomputable def lX : Code := inner (seqL (seqR lL))
noncomputable def lI : Code := inner (inner (seqR (seqR (seqR lX))))
noncomputable def lC : Ctx := ⟨Pr, pol, [], 8⟩
theorem lB_eq : Tryz.f8.body = some (.seq (seqL lB) (.seq (seqL (seqR lB)) (.seq (.seq (seqL (seqL (seqR (seqR lB)))) (.block 0 (.loop lL))) (seqR (seqR (seqR lB)))))) := by kernel_rfl
theorem lL_eq : lL = .seq (seqL lL) (.seq (.block 1 (.seq (seqL lX) (.seq (seqL (seqR lX)) (.seq (seqL (seqR (seqR lX))) (.block 3 (.loop lI)))))) (seqR (seqR lL))) := by kernel_rfl

theorem Ev.block_normal {c : Ctx} {O : Orc} {a : Code} {id : Nat} {st st1 : St} (h : Ev c O a st .normal st1) : Ev c O (.block id a) st .normal st1 := by
  obtain ⟨n, hn⟩ := h
  exact ⟨n + 1, by simp only [evCode, hn]⟩

structure LSt (l : List Dm) (k : Nat) (st : St) : Prop where
  t0 : st.tm 0 = LS l
  t3 : st.tm 3 = .int .i64 k
  ct : st.hp.cnt [] 4 = k
def mkL (l : List Dm) (k : Nat) (R : Nat → PV) (B : Key → Option Blk) (C : List Nat → Nat → Nat) : St :=
  ⟨fun i => if i = 0 then LS l else if i = 3 then .int .i64 k else R i, ⟨B, fun p d => if p = [] ∧ d = 4 then k else C p d⟩⟩
theorem LSt.eq {l : List Dm} {k : Nat} {st : St} (h : LSt l k st) : st = mkL l k st.tm st.hp.blk st.hp.cnt := by
  obtain ⟨tm, ⟨blk, ct⟩⟩ := st
  obtain ⟨h0, h1, h4⟩ := h
  simp only at h0 h1 h4
  unfold mkL
  congr 1
  · funext i
    split
    · rename_i e; rw [e, h0]
    · split
      · rename_i e; rw [e, h1]
      · rfl
  · congr 1
    funext p d
    split
    · rename_i e; obtain ⟨rfl, rfl⟩ := e; rw [h4]
    · rfl

/-- Within the inner loop: place i of the outer, k of the inner. -/
structure JSt (l : List Dm) (i : Nat) (d : Dm) (k : Nat) (st : St) : Prop where
  t0 : st.tm 0 = LS l
  t3 : st.tm 3 = .int .i64 i
  t4 : st.tm 4 = .ptr ([], 4, i) 4 0 0
  t5 : st.tm 5 = .int .i64 k
  hb : st.hp.blk ([], 4, i) = some (.row 4 [d.pv] false)
  ct : st.hp.cnt [] 4 = i + 1
def mkJ (l : List Dm) (i : Nat) (d : Dm) (k : Nat) (R : Nat → PV) (B : Key → Option Blk) (C : List Nat → Nat → Nat) : St :=
  ⟨fun j => if j = 0 then LS l else if j = 3 then .int .i64 i else if j = 4 then .ptr ([], 4, i) 4 0 0 else if j = 5 then .int .i64 k else R j, ⟨fun x => if x = ([], 4, i) then some (.row 4 [d.pv] false) else B x, fun p e => if p = [] ∧ e = 4 then i + 1 else C p e⟩⟩
theorem JSt.eq {l : List Dm} {i : Nat} {d : Dm} {k : Nat} {st : St} (h : JSt l i d k st) : st = mkJ l i d k st.tm st.hp.blk st.hp.cnt := by
  obtain ⟨tm, ⟨blk, ct⟩⟩ := st
  obtain ⟨h0, h1, h2, h3, h4, h5⟩ := h
  simp only at h0 h1 h2 h3 h4 h5
  unfold mkJ
  congr 1
  · funext j
    split
    · rename_i e; rw [e, h0]
    · split
      · rename_i e; rw [e, h1]
      · split
        · rename_i e; rw [e, h2]
        · split
          · rename_i e; rw [e, h3]
          · rfl
  · congr 1
    · funext x
      split
      · rename_i e; rw [e, h4]
      · rfl
    · funext p e'
      split
      · rename_i e; obtain ⟨rfl, rfl⟩ := e; rw [h5]
      · rfl

theorem l_end {O : Orc} {l : List Dm} {k : Nat} (R : Nat → PV) (B : Key → Option Blk) (C : List Nat → Nat → Nat) (h : ¬ (k : Int) < l.length) : ∃ st', Ev lC O lL (mkL l k R B C) (.exit 0) st' := by
  obtain ⟨ex, st', ob, hp, hev⟩ := Ev.of_X (c := lC) (O := O) (fl := flg [(4, 2, .val), (4, 3, .bit)]) (n := 50) (code := lL) (st := mkL l k R B C) (tr := [.val (.int .i64 l.length), .bit false])
    (fun ex st ob => (ex, ob)) (y := (Ex.exit 0, decide ((k : Int) < l.length) = false ∧ some (PV.int .i64 ((l.map Dm.pv).length : Int)) = some (.int .i64 (l.length : Int)) ∧ True)) (by kernel_rfl)
  simp only [Prod.mk.injEq] at hp
  obtain ⟨rfl, rfl⟩ := hp
  exact ⟨st', hev ⟨by simpa using h, lenE l, trivial⟩⟩

section
variable {O : Orc} {l : List Dm} {d : Dm} (R : Nat → PV) (B : Key → Option Blk) (C : List Nat → Nat → Nat)

theorem l_name {k : Nat} (hk : k < 6) (h : l[k]? = some d) (g1 : O.pure 12 [.str d.s] = some (.bool false)) : ∃ st', Ev lC O lL (mkL l k R B C) .ret st' ∧ st'.tm 2 = .int .i64 11 := by
  have hlt : k < l.length := (List.getElem?_eq_some_iff.1 h).1
  have ha : AD l (k : Int) d := iAddr h
  have hX : (evXCode lC O (flg [(4, 2, .val), (4, 3, .bit), (6, 2, .val), (7, 2, .call)]) 50 lL (mkL l k R B C) ⟨[.val (.int .i64 l.length), .bit true, .val (.pp d.pv.cells 0), .val (.bool false)], True⟩).map (fun r => (r.1, r.2.1.tm 2, r.2.2.ob)) = some (Ex.ret, PV.int .i64 11, O.pure 12 [.str d.s] = some (.bool false) ∧ AD l (k : Int) d ∧ decide ((k : Int) < (l.length : Int)) = true ∧ some (PV.int .i64 ((l.map Dm.pv).length : Int)) = some (.int .i64 (l.length : Int)) ∧ True) := by
    obtain rfl | rfl | rfl | rfl | rfl | rfl : k = 0 ∨ k = 1 ∨ k = 2 ∨ k = 3 ∨ k = 4 ∨ k = 5 := by omega
    all_goals kernel_rfl
  obtain ⟨ex, st', ob, hp, hev⟩ := Ev.of_X (fun ex st ob => (ex, st.tm 2, ob)) hX
  simp only [Prod.mk.injEq] at hp
  obtain ⟨rfl, h2, rfl⟩ := hp
  exact ⟨st', hev ⟨g1, ha, by simp [hlt], lenE l, trivial⟩, h2⟩

theorem l_far1 {k : Nat} (hk : k < 6) (h : l[k]? = some d) (g1 : O.pure 12 [.str d.s] = some (.bool true)) (g2 : O.pure 26 [.int .i64 d.a] = some (.bool false)) : ∃ st', Ev lC O lL (mkL l k R B C) .ret st' ∧ st'.tm 2 = .int .i64 2 := by
  have hlt : k < l.length := (List.getElem?_eq_some_iff.1 h).1
  have ha : AD l (k : Int) d := iAddr h
  have hX : (evXCode lC O (flg [(4, 2, .val), (4, 3, .bit), (6, 2, .val), (7, 2, .call), (9, 2, .call)]) 50 lL (mkL l k R B C) ⟨[.val (.int .i64 l.length), .bit true, .val (.pp d.pv.cells 0), .val (.bool true), .val (.bool false)], True⟩).map (fun r => (r.1, r.2.1.tm 2, r.2.2.ob)) = some (Ex.ret, PV.int .i64 2, O.pure 26 [.int .i64 d.a] = some (.bool false) ∧ O.pure 12 [.str d.s] = some (.bool true) ∧ AD l (k : Int) d ∧ decide ((k : Int) < (l.length : Int)) = true ∧ some (PV.int .i64 ((l.map Dm.pv).length : Int)) = some (.int .i64 (l.length : Int)) ∧ True) := by
    obtain rfl | rfl | rfl | rfl | rfl | rfl : k = 0 ∨ k = 1 ∨ k = 2 ∨ k = 3 ∨ k = 4 ∨ k = 5 := by omega
    all_goals kernel_rfl
  obtain ⟨ex, st', ob, hp, hev⟩ := Ev.of_X (fun ex st ob => (ex, st.tm 2, ob)) hX
  simp only [Prod.mk.injEq] at hp
  obtain ⟨rfl, h2, rfl⟩ := hp
  exact ⟨st', hev ⟨g2, g1, ha, by simp [hlt], lenE l, trivial⟩, h2⟩

theorem l_far2 {k : Nat} (hk : k < 6) (h : l[k]? = some d) (g1 : O.pure 12 [.str d.s] = some (.bool true)) (g2 : O.pure 26 [.int .i64 d.a] = some (.bool true)) (g3 : O.pure 26 [.int .i64 d.b] = some (.bool false)) : ∃ st', Ev lC O lL (mkL l k R B C) .ret st' ∧ st'.tm 2 = .int .i64 2 := by
  have hlt : k < l.length := (List.getElem?_eq_some_iff.1 h).1
  have ha : AD l (k : Int) d := iAddr h
  have hX : (evXCode lC O (flg [(4, 2, .val), (4, 3, .bit), (6, 2, .val), (7, 2, .call), (9, 2, .call), (9, 7, .call)]) 50 lL (mkL l k R B C) ⟨[.val (.int .i64 l.length), .bit true, .val (.pp d.pv.cells 0), .val (.bool true), .val (.bool true), .val (.bool false)], True⟩).map (fun r => (r.1, r.2.1.tm 2, r.2.2.ob)) = some (Ex.ret, PV.int .i64 2, O.pure 26 [.int .i64 d.b] = some (.bool false) ∧ O.pure 26 [.int .i64 d.a] = some (.bool true) ∧ O.pure 12 [.str d.s] = some (.bool true) ∧ AD l (k : Int) d ∧ decide ((k : Int) < (l.length : Int)) = true ∧ some (PV.int .i64 ((l.map Dm.pv).length : Int)) = some (.int .i64 (l.length : Int)) ∧ True) := by
    obtain rfl | rfl | rfl | rfl | rfl | rfl : k = 0 ∨ k = 1 ∨ k = 2 ∨ k = 3 ∨ k = 4 ∨ k = 5 := by omega
    all_goals kernel_rfl
  obtain ⟨ex, st', ob, hp, hev⟩ := Ev.of_X (fun ex st ob => (ex, st.tm 2, ob)) hX
  simp only [Prod.mk.injEq] at hp
  obtain ⟨rfl, h2, rfl⟩ := hp
  exact ⟨st', hev ⟨g3, g2, g1, ha, by simp [hlt], lenE l, trivial⟩, h2⟩

theorem l_far3 {k : Nat} (hk : k < 6) (h : l[k]? = some d) (g1 : O.pure 12 [.str d.s] = some (.bool true)) (g2 : O.pure 26 [.int .i64 d.a] = some (.bool true)) (g3 : O.pure 26 [.int .i64 d.b] = some (.bool true)) (g4 : O.pure 26 [.int .i64 d.c] = some (.bool false)) : ∃ st', Ev lC O lL (mkL l k R B C) .ret st' ∧ st'.tm 2 = .int .i64 2 := by
  have hlt : k < l.length := (List.getElem?_eq_some_iff.1 h).1
  have ha : AD l (k : Int) d := iAddr h
  have hX : (evXCode lC O (flg [(4, 2, .val), (4, 3, .bit), (6, 2, .val), (7, 2, .call), (9, 2, .call), (9, 7, .call), (9, 13, .call)]) 50 lL (mkL l k R B C) ⟨[.val (.int .i64 l.length), .bit true, .val (.pp d.pv.cells 0), .val (.bool true), .val (.bool true), .val (.bool true), .val (.bool false)], True⟩).map (fun r => (r.1, r.2.1.tm 2, r.2.2.ob)) = some (Ex.ret, PV.int .i64 2, O.pure 26 [.int .i64 d.c] = some (.bool false) ∧ O.pure 26 [.int .i64 d.b] = some (.bool true) ∧ O.pure 26 [.int .i64 d.a] = some (.bool true) ∧ O.pure 12 [.str d.s] = some (.bool true) ∧ AD l (k : Int) d ∧ decide ((k : Int) < (l.length : Int)) = true ∧ some (PV.int .i64 ((l.map Dm.pv).length : Int)) = some (.int .i64 (l.length : Int)) ∧ True) := by
    obtain rfl | rfl | rfl | rfl | rfl | rfl : k = 0 ∨ k = 1 ∨ k = 2 ∨ k = 3 ∨ k = 4 ∨ k = 5 := by omega
    all_goals kernel_rfl
  obtain ⟨ex, st', ob, hp, hev⟩ := Ev.of_X (fun ex st ob => (ex, st.tm 2, ob)) hX
  simp only [Prod.mk.injEq] at hp
  obtain ⟨rfl, h2, rfl⟩ := hp
  exact ⟨st', hev ⟨g4, g3, g2, g1, ha, by simp [hlt], lenE l, trivial⟩, h2⟩

theorem l_order {k : Nat} (hk : k < 6) (h : l[k]? = some d) (g1 : O.pure 12 [.str d.s] = some (.bool true)) (g2 : O.pure 26 [.int .i64 d.a] = some (.bool true)) (g3 : O.pure 26 [.int .i64 d.b] = some (.bool true)) (g4 : O.pure 26 [.int .i64 d.c] = some (.bool true)) (g5 : decide (d.c < d.b) = true) : ∃ st', Ev lC O lL (mkL l k R B C) .ret st' ∧ st'.tm 2 = .int .i64 8 := by
  have hlt : k < l.length := (List.getElem?_eq_some_iff.1 h).1
  have ha : AD l (k : Int) d := iAddr h
  have hX : (evXCode lC O (flg [(4, 2, .val), (4, 3, .bit), (6, 2, .val), (7, 2, .call), (9, 2, .call), (9, 7, .call), (9, 13, .call), (11, 4, .bit)]) 50 lL (mkL l k R B C) ⟨[.val (.int .i64 l.length), .bit true, .val (.pp d.pv.cells 0), .val (.bool true), .val (.bool true), .val (.bool true), .val (.bool true), .bit true], True⟩).map (fun r => (r.1, r.2.1.tm 2, r.2.2.ob)) = some (Ex.ret, PV.int .i64 8, decide (d.c < d.b) = true ∧ O.pure 26 [.int .i64 d.c] = some (.bool true) ∧ O.pure 26 [.int .i64 d.b] = some (.bool true) ∧ O.pure 26 [.int .i64 d.a] = some (.bool true) ∧ O.pure 12 [.str d.s] = some (.bool true) ∧ AD l (k : Int) d ∧ decide ((k : Int) < (l.length : Int)) = true ∧ some (PV.int .i64 ((l.map Dm.pv).length : Int)) = some (.int .i64 (l.length : Int)) ∧ True) := by
    obtain rfl | rfl | rfl | rfl | rfl | rfl : k = 0 ∨ k = 1 ∨ k = 2 ∨ k = 3 ∨ k = 4 ∨ k = 5 := by omega
    all_goals kernel_rfl
  obtain ⟨ex, st', ob, hp, hev⟩ := Ev.of_X (fun ex st ob => (ex, st.tm 2, ob)) hX
  simp only [Prod.mk.injEq] at hp
  obtain ⟨rfl, h2, rfl⟩ := hp
  exact ⟨st', hev ⟨g5, g4, g3, g2, g1, ha, by simp [hlt], lenE l, trivial⟩, h2⟩

theorem l_pre {k : Nat} (hk : k < 6) (h : l[k]? = some d) (g1 : O.pure 12 [.str d.s] = some (.bool true)) (g2 : O.pure 26 [.int .i64 d.a] = some (.bool true)) (g3 : O.pure 26 [.int .i64 d.b] = some (.bool true)) (g4 : O.pure 26 [.int .i64 d.c] = some (.bool true)) (g5 : decide (d.c < d.b) = false) : ∃ st', Ev lC O (.seq (seqL lL) (.seq (seqL lX) (.seq (seqL (seqR lX)) (seqL (seqR (seqR lX)))))) (mkL l k R B C) .normal st' ∧ JSt l k d 0 st' := by
  have hlt : k < l.length := (List.getElem?_eq_some_iff.1 h).1
  have ha : AD l (k : Int) d := iAddr h
  have hX : (evXCode lC O (flg [(4, 2, .val), (4, 3, .bit), (6, 2, .val), (7, 2, .call), (9, 2, .call), (9, 7, .call), (9, 13, .call), (11, 4, .bit)]) 50 (.seq (seqL lL) (.seq (seqL lX) (.seq (seqL (seqR lX)) (seqL (seqR (seqR lX)))))) (mkL l k R B C) ⟨[.val (.int .i64 l.length), .bit true, .val (.pp d.pv.cells 0), .val (.bool true), .val (.bool true), .val (.bool true), .val (.bool true), .bit false], True⟩).map (fun r => (r.1, r.2.1.tm 0, r.2.1.tm 3, r.2.1.tm 4, r.2.1.tm 5, r.2.1.hp.blk ([], 4, k), r.2.1.hp.cnt [] 4, r.2.2.ob)) = some (Ex.normal, LS l, PV.int .i64 k, PV.ptr ([], 4, k) 4 0 0, PV.int .i64 ((0 : Nat) : Int), some (Blk.row 4 [d.pv] false), k + 1, decide (d.c < d.b) = false ∧ O.pure 26 [.int .i64 d.c] = some (.bool true) ∧ O.pure 26 [.int .i64 d.b] = some (.bool true) ∧ O.pure 26 [.int .i64 d.a] = some (.bool true) ∧ O.pure 12 [.str d.s] = some (.bool true) ∧ AD l (k : Int) d ∧ decide ((k : Int) < (l.length : Int)) = true ∧ some (PV.int .i64 ((l.map Dm.pv).length : Int)) = some (.int .i64 (l.length : Int)) ∧ True) := by
    obtain rfl | rfl | rfl | rfl | rfl | rfl : k = 0 ∨ k = 1 ∨ k = 2 ∨ k = 3 ∨ k = 4 ∨ k = 5 := by omega
    all_goals kernel_rfl
  obtain ⟨ex, st', ob, hp, hev⟩ := Ev.of_X (fun ex st ob => (ex, st.tm 0, st.tm 3, st.tm 4, st.tm 5, st.hp.blk ([], 4, k), st.hp.cnt [] 4, ob)) hX
  simp only [Prod.mk.injEq] at hp
  obtain ⟨rfl, h0, h1, h2, h3, h4, h5, rfl⟩ := hp
  exact ⟨st', hev ⟨g5, g4, g3, g2, g1, ha, by simp [hlt], lenE l, trivial⟩, h0, h1, h2, h3, h4, h5⟩

theorem j_end {i k : Nat} (hi : i < 6) (h : ¬ (k : Int) < (i : Int)) : ∃ st', Ev lC O lI (mkJ l i d k R B C) (.exit 3) st' ∧ JSt l i d k st' := by
  have hX : (evXCode lC O (flg [(14, 2, .bit)]) 50 lI (mkJ l i d k R B C) ⟨[.bit false], True⟩).map (fun r => (r.1, r.2.1.tm 0, r.2.1.tm 3, r.2.1.tm 4, r.2.1.tm 5, r.2.1.hp.blk ([], 4, i), r.2.1.hp.cnt [] 4, r.2.2.ob)) = some (Ex.exit 3, LS l, PV.int .i64 i, PV.ptr ([], 4, i) 4 0 0, PV.int .i64 k, some (Blk.row 4 [d.pv] false), i + 1, decide ((k : Int) < (i : Int)) = false ∧ True) := by
    obtain rfl | rfl | rfl | rfl | rfl | rfl : i = 0 ∨ i = 1 ∨ i = 2 ∨ i = 3 ∨ i = 4 ∨ i = 5 := by omega
    all_goals kernel_rfl
  obtain ⟨ex, st', ob, hp, hev⟩ := Ev.of_X (fun ex st ob => (ex, st.tm 0, st.tm 3, st.tm 4, st.tm 5, st.hp.blk ([], 4, i), st.hp.cnt [] 4, ob)) hX
  simp only [Prod.mk.injEq] at hp
  obtain ⟨rfl, h0, h1, h2, h3, h4, h5, rfl⟩ := hp
  exact ⟨st', hev ⟨by simpa using h, trivial⟩, h0, h1, h2, h3, h4, h5⟩

theorem j_no {i k : Nat} {x : Dm} (hi : i < 6) (h : k < i) (hx : l[k]? = some x) (hne : x.s ≠ d.s) : ∃ st', Ev lC O lI (mkJ l i d k R B C) .normal st' ∧ JSt l i d (k + 1) st' := by
  have ha : AD l (k : Int) x := iAddr hx
  have hX : (evXCode lC O (flg [(14, 2, .bit), (16, 2, .val), (16, 7, .bit)]) 50 lI (mkJ l i d k R B C) ⟨[.bit true, .val (.pp x.pv.cells 0), .bit false], True⟩).map (fun r => (r.1, r.2.1.tm 0, r.2.1.tm 3, r.2.1.tm 4, r.2.1.tm 5, r.2.1.hp.blk ([], 4, i), r.2.1.hp.cnt [] 4, r.2.2.ob)) = some (Ex.normal, LS l, PV.int .i64 i, PV.ptr ([], 4, i) 4 0 0, PV.int .i64 (IntKind.i64.wrap ((k : Int) + 1)), some (Blk.row 4 [d.pv] false), i + 1,
      decide (x.s = d.s) = false ∧ AD l (k : Int) x ∧ decide ((k : Int) < (i : Int)) = true ∧ True) := by
    obtain rfl | rfl | rfl | rfl | rfl | rfl : i = 0 ∨ i = 1 ∨ i = 2 ∨ i = 3 ∨ i = 4 ∨ i = 5 := by omega
    all_goals kernel_rfl
  obtain ⟨ex, st', ob, hp, hev⟩ := Ev.of_X (fun ex st ob => (ex, st.tm 0, st.tm 3, st.tm 4, st.tm 5, st.hp.blk ([], 4, i), st.hp.cnt [] 4, ob)) hX
  simp only [Prod.mk.injEq] at hp
  obtain ⟨rfl, h0, h1, h2, h3, h4, h5, rfl⟩ := hp
  exact ⟨st', hev ⟨by simp [hne], ha, by simp [h], trivial⟩, h0, h1, h2, by rw [h3, wrap_nat (by omega)], h4, h5⟩

theorem j_yes {i k : Nat} {x : Dm} (hi : i < 6) (h : k < i) (hx : l[k]? = some x) (he : x.s = d.s) : ∃ st', Ev lC O lI (mkJ l i d k R B C) .ret st' ∧ st'.tm 2 = .int .i64 9 := by
  have ha : AD l (k : Int) x := iAddr hx
  have hX : (evXCode lC O (flg [(14, 2, .bit), (16, 2, .val), (16, 7, .bit)]) 50 lI (mkJ l i d k R B C) ⟨[.bit true, .val (.pp x.pv.cells 0), .bit true], True⟩).map (fun r => (r.1, r.2.1.tm 2, r.2.2.ob)) = some (Ex.ret, PV.int .i64 9,
      decide (x.s = d.s) = true ∧ AD l (k : Int) x ∧ decide ((k : Int) < (i : Int)) = true ∧ True) := by
    obtain rfl | rfl | rfl | rfl | rfl | rfl : i = 0 ∨ i = 1 ∨ i = 2 ∨ i = 3 ∨ i = 4 ∨ i = 5 := by omega
    all_goals kernel_rfl
  obtain ⟨ex, st', ob, hp, hev⟩ := Ev.of_X (fun ex st ob => (ex, st.tm 2, ob)) hX
  simp only [Prod.mk.injEq] at hp
  obtain ⟨rfl, h0, rfl⟩ := hp
  exact ⟨st', hev ⟨by simp [he], ha, by simp [h], trivial⟩, h0⟩

theorem l_post {i k : Nat} (hi : i < 6) : ∃ st', Ev lC O (seqR (seqR lL)) (mkJ l i d k R B C) .normal st' ∧ LSt l (i + 1) st' := by
  have hX : (evXCode lC O (flg []) 50 (seqR (seqR lL)) (mkJ l i d k R B C) ⟨[], True⟩).map (fun r => (r.1, r.2.1.tm 0, r.2.1.tm 3, r.2.1.hp.cnt [] 4, r.2.2.ob)) = some (Ex.normal, LS l, PV.int .i64 ((i + 1 : Nat) : Int), i + 1, True) := by
    obtain rfl | rfl | rfl | rfl | rfl | rfl : i = 0 ∨ i = 1 ∨ i = 2 ∨ i = 3 ∨ i = 4 ∨ i = 5 := by omega
    all_goals kernel_rfl
  obtain ⟨ex, st', ob, hp, hev⟩ := Ev.of_X (fun ex st ob => (ex, st.tm 0, st.tm 3, st.hp.cnt [] 4, ob)) hX
  simp only [Prod.mk.injEq] at hp
  obtain ⟨rfl, h0, h1, h2, rfl⟩ := hp
  exact ⟨st', hev trivial, h0, h1, h2⟩
end

theorem idxN_iff (s : ByteArray) : ∀ (m : List Dm) (k : Nat), 0 ≤ idxN s m k ↔ ∃ x ∈ m, x.s = s
  | [], k => by simp [idxN]
  | d :: m, k => by
    unfold idxN
    split
    · rename_i e; exact ⟨fun _ => ⟨d, by simp, e⟩, fun _ => by omega⟩
    · rename_i e
      rw [idxN_iff s m (k + 1)]
      exact ⟨fun ⟨x, hx, h⟩ => ⟨x, by simp [hx], h⟩, fun ⟨x, hx, h⟩ => by
        rcases List.mem_cons.1 hx with rfl | hx
        · exact absurd h e
        · exact ⟨x, hx, h⟩⟩

/-- The inner loop: whether a name was there before. -/
theorem j_loop {O : Orc} {l : List Dm} {d : Dm} {i : Nat} (hi : i < 6) (hil : i < l.length) : ∀ (n k : Nat), k + n = i → ∀ {st : St}, JSt l i d k st → (∀ j x, j < k → l[j]? = some x → x.s ≠ d.s) →
    ((∀ j x, j < i → l[j]? = some x → x.s ≠ d.s) ∧ ∃ st', Ev lC O (.loop lI) st (.exit 3) st' ∧ JSt l i d i st') ∨ ((∃ j x, j < i ∧ l[j]? = some x ∧ x.s = d.s) ∧ ∃ st', Ev lC O (.loop lI) st .ret st' ∧ st'.tm 2 = .int .i64 9)
  | 0, k, hk, st, h, hb => by
    have : k = i := by omega
    subst this
    obtain ⟨st', e, h'⟩ := j_end (O := O) (l := l) (d := d) (i := k) (k := k) st.tm st.hp.blk st.hp.cnt hi (by omega)
    rw [← h.eq] at e
    exact .inl ⟨hb, st', e.loop_stop (by intro q; cases q), h'⟩
  | n + 1, k, hk, st, h, hb => by
    have hkl : l[k]? = some l[k] := List.getElem?_eq_getElem (by omega)
    by_cases e : (l[k]).s = d.s
    · obtain ⟨st', ev, h2⟩ := j_yes (O := O) st.tm st.hp.blk st.hp.cnt hi (by omega) hkl e
      rw [← h.eq] at ev
      exact .inr ⟨⟨k, _, by omega, hkl, e⟩, st', ev.loop_stop (by intro q; cases q), h2⟩
    · obtain ⟨st1, ev, h1⟩ := j_no (O := O) st.tm st.hp.blk st.hp.cnt hi (by omega) hkl e
      rw [← h.eq] at ev
      rcases j_loop hi hil n (k + 1) (by omega) h1 (fun j x hj hx => by
        by_cases q : j = k
        · subst q; rw [hkl] at hx; cases hx; exact e
        · exact hb j x (by omega) hx) with ⟨g, st', e', h'⟩ | ⟨g, st', e', h'⟩
      · exact .inl ⟨g, st', ev.loop e', h'⟩
      · exact .inr ⟨g, st', ev.loop e', h'⟩

def QL (l : List Dm) (O : Orc) : Prop := ∀ i, i < l.length → ∀ d, l[i]? = some d → O.pure 12 [.str d.s] = some (.bool (nameB d.s)) ∧
  (O.pure 26 [.int .i64 d.a] = some (.bool (withinB d.a)) ∧ O.pure 26 [.int .i64 d.b] = some (.bool (withinB d.b))) ∧ O.pure 26 [.int .i64 d.c] = some (.bool (withinB d.c))
theorem deepQL (l : List Dm) (hs : ∀ d ∈ l, d.s.size < 2 ^ 62) : Deep (QL l) := by
  refine Deep.all (Q := fun i O => ∀ d, l[i]? = some d → _) _ (fun i hi => ?_)
  have hd : l[i]? = some l[i] := List.getElem?_eq_getElem hi
  obtain ⟨m, hm⟩ := (known_name l[i].s (hs _ (List.getElem_mem hi))).deep.and (((known_within l[i].a).deep.and (known_within l[i].b).deep).and (known_within l[i].c).deep)
  refine ⟨m, fun m' h' d e => ?_⟩
  rw [hd] at e
  cases e
  exact hm m' h'

theorem l_step {O : Orc} {l : List Dm} {d : Dm} {k : Nat} (hk : k < 6) (h : l[k]? = some d) (hQ : QL l O) {st : St} (hs : LSt l k st) :
    (errAt l k d = 0 ∧ ∃ st', Ev lC O lL st .normal st' ∧ LSt l (k + 1) st') ∨ (errAt l k d ≠ 0 ∧ ∃ st', Ev lC O lL st .ret st' ∧ st'.tm 2 = .int .i64 (errAt l k d)) := by
  have hlt : k < l.length := (List.getElem?_eq_some_iff.1 h).1
  obtain ⟨hn, ⟨ha, hb⟩, hc⟩ := hQ k hlt d h
  rw [within_far] at ha hb hc
  rw [hs.eq]
  unfold errAt Dm.e dimE
  cases h1 : nameB d.s with
  | false =>
    rw [h1] at hn
    exact .inr ⟨by simp, by simpa using l_name st.tm st.hp.blk st.hp.cnt hk h hn⟩
  | true =>
    rw [h1] at hn
    cases h2 : farB d.a with
    | true => rw [h2] at ha; exact .inr ⟨by simp, by simpa using l_far1 st.tm st.hp.blk st.hp.cnt hk h hn ha⟩
    | false =>
      rw [h2] at ha
      cases h3 : farB d.b with
      | true => rw [h3] at hb; exact .inr ⟨by simp, by simpa using l_far2 st.tm st.hp.blk st.hp.cnt hk h hn ha hb⟩
      | false =>
        rw [h3] at hb
        cases h4 : farB d.c with
        | true => rw [h4] at hc; exact .inr ⟨by simp, by simpa using l_far3 st.tm st.hp.blk st.hp.cnt hk h hn ha hb hc⟩
        | false =>
          rw [h4] at hc
          cases h5 : decide (d.c < d.b) with
          | true => exact .inr ⟨by simp, by simpa using l_order st.tm st.hp.blk st.hp.cnt hk h hn ha hb hc h5⟩
          | false =>
            obtain ⟨s1, e1, j1⟩ := l_pre st.tm st.hp.blk st.hp.cnt hk h hn ha hb hc h5
            obtain ⟨s2, eG, e2⟩ := e1.seq_inv
            obtain ⟨s3, e6, e3⟩ := e2.seq_inv
            obtain ⟨s4, eB, e13⟩ := e3.seq_inv
            have hidx := idxN_iff d.s (l.take k) 0
            rcases j_loop (O := O) hk hlt k 0 (by omega) j1 (fun j x hj => by omega) with ⟨g, s5, e5, h5'⟩ | ⟨⟨j, x, hj, hx, he⟩, s5, e5, h2'⟩
            · have hno : ¬ 0 ≤ idxN d.s (l.take k) 0 := fun q => by
                obtain ⟨x, hx, he⟩ := hidx.1 q
                obtain ⟨j, hj⟩ := List.getElem?_of_mem hx
                have hjk : j < k := by
                  have := (List.getElem?_eq_some_iff.1 hj).1
                  rw [List.length_take] at this; omega
                rw [List.getElem?_take, if_pos hjk] at hj
                exact g j x hjk hj he
              obtain ⟨s6, e7, h7⟩ := l_post (O := O) (l := l) (d := d) (i := k) (k := k) s5.tm s5.hp.blk s5.hp.cnt hk
              rw [← h5'.eq] at e7
              refine .inl ⟨by simp [hno], s6, ?_, h7⟩
              rw [lL_eq]
              exact eG.seq ((Ev.block_normal (e6.seq (eB.seq (e13.seq e5.block)))).seq e7)
            · have hyes : 0 ≤ idxN d.s (l.take k) 0 := hidx.2 ⟨x, List.mem_of_getElem? (by rw [List.getElem?_take, if_pos hj]; exact hx), he⟩
              refine .inr ⟨by simp [hyes], s5, ?_, by simpa [hyes] using h2'⟩
              rw [lL_eq]
              exact eG.seq ((Ev.block_ret (e6.seq (eB.seq (e13.seq e5.block_ret)))).seq_stop (by intro q; cases q))

theorem l_loop {O : Orc} {l : List Dm} (hl : l.length ≤ 6) (hQ : QL l O) : ∀ (r : List Dm) (k : Nat), l.drop k = r → ∀ {st : St}, LSt l k st →
    (chkE l r k = 0 ∧ ∃ st', Ev lC O (.loop lL) st (.exit 0) st') ∨ (∃ st', Ev lC O (.loop lL) st .ret st' ∧ st'.tm 2 = .int .i64 (chkE l r k))
  | [], k, hk, st, h => by
    have : l.length ≤ k := by simpa using hk
    rw [h.eq]
    obtain ⟨st', e⟩ := l_end (O := O) (l := l) (k := k) st.tm st.hp.blk st.hp.cnt (by omega)
    exact .inl ⟨rfl, st', e.loop_stop (by intro q; cases q)⟩
  | d :: r, k, hk, st, h => by
    have hd : l[k]? = some d := by
      have := congrArg (fun x => x[0]?) hk
      simpa using this
    have hr : l.drop (k + 1) = r := by
      have := congrArg (fun x => x.drop 1) hk
      simpa using this
    have hlt : k < l.length := (List.getElem?_eq_some_iff.1 hd).1
    rcases l_step (by omega) hd hQ h with ⟨g, st1, ev, h1⟩ | ⟨g, st1, ev, h2⟩
    · have : chkE l (d :: r) k = chkE l r (k + 1) := by simp only [chkE, g, if_true]
      rw [this]
      rcases l_loop hl hQ r (k + 1) hr h1 with ⟨g', st', e'⟩ | ⟨st', e', h'⟩
      · exact .inl ⟨g', st', ev.loop e'⟩
      · exact .inr ⟨st', ev.loop e', h'⟩
    · have : chkE l (d :: r) k = errAt l k d := by simp only [chkE, g, if_false]
      rw [this]
      exact .inr ⟨st1, ev.loop_stop (by intro q; cases q), h2⟩

theorem lcheck_run {O : Orc} {l : List Dm} (hl : l.length ≤ 6) (hQ : QL l O) : Runs Pr pol O 8 [LS l] (.int .i64 (chkE l l 0)) := by
  obtain ⟨ex1, st1, ob1, hp1, hev1⟩ := Ev.of_X (c := lC) (O := O) (fl := flg [(1, 1, .val), (1, 2, .bit)]) (n := 50) (code := .seq (seqL lB) (.seq (seqL (seqR lB)) (seqL (seqL (seqR (seqR lB)))))) (st := startSt [LS l] Heap.empty)
    (tr := [.val (.int .i64 l.length), .bit false])
    (fun ex st ob => (ex, st.tm 0, st.tm 3, st.hp.cnt [] 4, ob)) (y := (Ex.normal, LS l, PV.int .i64 ((0 : Nat) : Int), 0,
      decide (64 < (l.length : Int)) = false ∧ some (PV.int .i64 ((l.map Dm.pv).length : Int)) = some (.int .i64 (l.length : Int)) ∧ True)) (by kernel_rfl)
  simp only [Prod.mk.injEq] at hp1
  obtain ⟨rfl, a0, a3, ac, rfl⟩ := hp1
  have hpre := hev1 ⟨decide_eq_false (by omega), lenE l, trivial⟩
  obtain ⟨s1, e1, e2⟩ := hpre.seq_inv
  obtain ⟨s2, e2, e3⟩ := e2.seq_inv
  have hdr : ∀ (H : Heap) (n : Int), (dr H 12 (.int .i64 n)).map (·.1) = some (.int .i64 n) := fun H n => rfl
  rcases l_loop hl hQ l 0 rfl ⟨a0, a3, ac⟩ with ⟨g, st3, e4⟩ | ⟨st3, e4, h2⟩
  · obtain ⟨ex5, st5, ob5, hp5, hev5⟩ := Ev.of_X (c := lC) (O := O) (fl := flg []) (n := 50) (code := seqR (seqR (seqR lB))) (st := st3) (tr := [])
      (fun ex st ob => (ex, st.tm 2, ob)) (y := (Ex.ret, PV.int .i64 0, True)) (by kernel_rfl)
    simp only [Prod.mk.injEq] at hp5
    obtain ⟨rfl, c2, rfl⟩ := hp5
    rw [g]
    refine Runs.of_Ev (st := st5) (r' := .int .i64 0) Tryz.func8 lB_eq (persLS l) (by rw [Tryz.ntmps8]; exact Nat.le_of_ble_eq_true rfl) rfl (e1.seq (e2.seq ((e3.seq e4.block).seq (hev5 trivial)))) (.inr rfl) ?_ (hdr _ _)
    show some (st5.tm 2) = _
    rw [c2]
  · refine Runs.of_Ev (st := st3) (r' := .int .i64 (chkE l l 0)) Tryz.func8 lB_eq (persLS l) (by rw [Tryz.ntmps8]; exact Nat.le_of_ble_eq_true rfl) rfl (e1.seq (e2.seq ((e3.seq e4.block_ret).seq_stop (by intro q; cases q)))) (.inr rfl) ?_ (hdr _ _)
    show some (st3.tm 2) = _
    rw [h2]

theorem known_lcheck (l : List Dm) (hl : l.length ≤ 6) (hs : ∀ d ∈ l, d.s.size < 2 ^ 62) : Known 8 [LS l] (.int .i64 (chkE l l 0)) := Known.of (deepQL l hs) rfl (fun O hO => lcheck_run hl hO)
end Go.Proofs.YtigfgicjjhepoaaGreatDoor.VA

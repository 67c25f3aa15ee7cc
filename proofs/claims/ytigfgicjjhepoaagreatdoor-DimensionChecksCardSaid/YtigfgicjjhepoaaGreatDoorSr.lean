/- The law of checks, over the evaluator: the end of it. -/
import Derived.Test.YtigfgicjjhepoaaGreatDoorSq
set_option linter.unusedVariables false
set_option linter.unusedSimpArgs false
namespace Go.Proofs.YtigfgicjjhepoaaGreatDoor.VA
open Go Go.Proofs
section
variable {O : Orc} {l : List Dm} {s : ByteArray}

/-- What the long test asks. -/
def QE (O : Orc) (l : List Dm) (s : ByteArray) (e : Int) : Prop := O.pure 8 [LS l] = some (.int .i64 e) ∧ O.pure 11 [.str s] = some (.bool (nameB s)) ∧ O.pure 12 [.str s] = some (.bool (nameB s)) ∧ O.pure 9 [.sl false (List.replicate 65 zeroD)] = some (.int .i64 6)

theorem c_test_yes_ok {e v : Int} (R : Nat → PV) (B : Key → Option Blk) (C : List Nat → Nat → Nat) (hQ : QE O l s e) (he : e = 0) (hv : 0 ≤ v) : ∃ st', Ev cC O (.seq (seqL cT7) (seqL (seqR cT7))) (mkS [(0, LS l), (1, .str s), (6, .int .i64 e), (7, .int .i64 v), (8, .bool true), (9, .int .i64 v)] R B C) .normal st' ∧ st'.tm 0 = LS l := by
  obtain ⟨ex, st', ob, hp, hev⟩ := Ev.of_X (c := cC) (O := O) (fl := flg [(16, 2, .pers), (16, 3, .bit), (16, 7, .bit), (16, 15, .bit), (16, 28, .call), (16, 30, .call), (16, 31, .bit), (16, 35, .call), (18, 1, .bit)]) (n := 60) (code := (.seq (seqL cT7) (seqL (seqR cT7)))) (st := mkS [(0, LS l), (1, .str s), (6, .int .i64 e), (7, .int .i64 v), (8, .bool true), (9, .int .i64 v)] R B C)
    (tr := [.val (.int .i64 e), .bit false, .bit true, .bit false, .val (.bool (nameB s)), .val (.bool (nameB s)), .bit false, .val (.int .i64 6), .bit false])
    (fun ex st ob => (ex, st.tm 0, st.hp.cnt [] 98, ob)) (y := (Ex.normal, LS l, 1, (!decide (e = 0)) = false ∧ O.pure 9 [.sl false (List.replicate 65 zeroD)] = some (.int .i64 6) ∧ (nameB s != nameB s) = false ∧ O.pure 12 [.str s] = some (.bool (nameB s)) ∧ O.pure 11 [.str s] = some (.bool (nameB s)) ∧ (!decide (v = v)) = false ∧ decide (0 ≤ (v : Int)) = true ∧ (!decide (e = e)) = false ∧ PV.persL [LS l] = true ∧ O.pure 8 [LS l] = some (.int .i64 e) ∧ True)) (by kernel_rfl)
  simp only [Prod.mk.injEq] at hp
  obtain ⟨rfl, h0, hc, rfl⟩ := hp
  exact ⟨st', hev ⟨by simp [he], hQ.2.2.2, by simp, hQ.2.2.1, hQ.2.1, by simp, by simp [hv], by simp, persLS l, hQ.1, trivial⟩, h0⟩
theorem c_test_yes_err {e v : Int} (R : Nat → PV) (B : Key → Option Blk) (C : List Nat → Nat → Nat) (hQ : QE O l s e) (he : e ≠ 0) (hv : 0 ≤ v) : ∃ st', Ev cC O (.seq (seqL cT7) (seqL (seqR cT7))) (mkS [(0, LS l), (1, .str s), (6, .int .i64 e), (7, .int .i64 v), (8, .bool true), (9, .int .i64 v)] R B C) .ret st' ∧ st'.tm 4 = .bool true := by
  obtain ⟨ex, st', ob, hp, hev⟩ := Ev.of_X (c := cC) (O := O) (fl := flg [(16, 2, .pers), (16, 3, .bit), (16, 7, .bit), (16, 15, .bit), (16, 28, .call), (16, 30, .call), (16, 31, .bit), (16, 35, .call), (18, 1, .bit)]) (n := 60) (code := (.seq (seqL cT7) (seqL (seqR cT7)))) (st := mkS [(0, LS l), (1, .str s), (6, .int .i64 e), (7, .int .i64 v), (8, .bool true), (9, .int .i64 v)] R B C)
    (tr := [.val (.int .i64 e), .bit false, .bit true, .bit false, .val (.bool (nameB s)), .val (.bool (nameB s)), .bit false, .val (.int .i64 6), .bit true])
    (fun ex st ob => (ex, st.tm 4, ob)) (y := (Ex.ret, PV.bool true, (!decide (e = 0)) = true ∧ O.pure 9 [.sl false (List.replicate 65 zeroD)] = some (.int .i64 6) ∧ (nameB s != nameB s) = false ∧ O.pure 12 [.str s] = some (.bool (nameB s)) ∧ O.pure 11 [.str s] = some (.bool (nameB s)) ∧ (!decide (v = v)) = false ∧ decide (0 ≤ (v : Int)) = true ∧ (!decide (e = e)) = false ∧ PV.persL [LS l] = true ∧ O.pure 8 [LS l] = some (.int .i64 e) ∧ True)) (by kernel_rfl)
  simp only [Prod.mk.injEq] at hp
  obtain ⟨rfl, h4, rfl⟩ := hp
  exact ⟨st', hev ⟨by simp [he], hQ.2.2.2, by simp, hQ.2.2.1, hQ.2.1, by simp, by simp [hv], by simp, persLS l, hQ.1, trivial⟩, h4⟩
theorem c_test_no_ok {e : Int} (R : Nat → PV) (B : Key → Option Blk) (C : List Nat → Nat → Nat) (hQ : QE O l s e) (he : e = 0) : ∃ st', Ev cC O (.seq (seqL cT7) (seqL (seqR cT7))) (mkS [(0, LS l), (1, .str s), (6, .int .i64 e), (7, .int .i64 0), (8, .bool false), (9, .int .i64 (-1))] R B C) .normal st' ∧ st'.tm 0 = LS l := by
  obtain ⟨ex, st', ob, hp, hev⟩ := Ev.of_X (c := cC) (O := O) (fl := flg [(16, 2, .pers), (16, 3, .bit), (16, 7, .bit), (16, 28, .call), (16, 30, .call), (16, 31, .bit), (16, 35, .call), (18, 1, .bit)]) (n := 60) (code := (.seq (seqL cT7) (seqL (seqR cT7)))) (st := mkS [(0, LS l), (1, .str s), (6, .int .i64 e), (7, .int .i64 0), (8, .bool false), (9, .int .i64 (-1))] R B C)
    (tr := [.val (.int .i64 e), .bit false, .bit false, .val (.bool (nameB s)), .val (.bool (nameB s)), .bit false, .val (.int .i64 6), .bit false])
    (fun ex st ob => (ex, st.tm 0, st.hp.cnt [] 98, ob)) (y := (Ex.normal, LS l, 1, (!decide (e = 0)) = false ∧ O.pure 9 [.sl false (List.replicate 65 zeroD)] = some (.int .i64 6) ∧ (nameB s != nameB s) = false ∧ O.pure 12 [.str s] = some (.bool (nameB s)) ∧ O.pure 11 [.str s] = some (.bool (nameB s)) ∧ decide (0 ≤ ((-1) : Int)) = false ∧ (!decide (e = e)) = false ∧ PV.persL [LS l] = true ∧ O.pure 8 [LS l] = some (.int .i64 e) ∧ True)) (by kernel_rfl)
  simp only [Prod.mk.injEq] at hp
  obtain ⟨rfl, h0, hc, rfl⟩ := hp
  exact ⟨st', hev ⟨by simp [he], hQ.2.2.2, by simp, hQ.2.2.1, hQ.2.1, by simp, by simp, persLS l, hQ.1, trivial⟩, h0⟩
theorem c_test_no_err {e : Int} (R : Nat → PV) (B : Key → Option Blk) (C : List Nat → Nat → Nat) (hQ : QE O l s e) (he : e ≠ 0) : ∃ st', Ev cC O (.seq (seqL cT7) (seqL (seqR cT7))) (mkS [(0, LS l), (1, .str s), (6, .int .i64 e), (7, .int .i64 0), (8, .bool false), (9, .int .i64 (-1))] R B C) .ret st' ∧ st'.tm 4 = .bool true := by
  obtain ⟨ex, st', ob, hp, hev⟩ := Ev.of_X (c := cC) (O := O) (fl := flg [(16, 2, .pers), (16, 3, .bit), (16, 7, .bit), (16, 28, .call), (16, 30, .call), (16, 31, .bit), (16, 35, .call), (18, 1, .bit)]) (n := 60) (code := (.seq (seqL cT7) (seqL (seqR cT7)))) (st := mkS [(0, LS l), (1, .str s), (6, .int .i64 e), (7, .int .i64 0), (8, .bool false), (9, .int .i64 (-1))] R B C)
    (tr := [.val (.int .i64 e), .bit false, .bit false, .val (.bool (nameB s)), .val (.bool (nameB s)), .bit false, .val (.int .i64 6), .bit true])
    (fun ex st ob => (ex, st.tm 4, ob)) (y := (Ex.ret, PV.bool true, (!decide (e = 0)) = true ∧ O.pure 9 [.sl false (List.replicate 65 zeroD)] = some (.int .i64 6) ∧ (nameB s != nameB s) = false ∧ O.pure 12 [.str s] = some (.bool (nameB s)) ∧ O.pure 11 [.str s] = some (.bool (nameB s)) ∧ decide (0 ≤ ((-1) : Int)) = false ∧ (!decide (e = e)) = false ∧ PV.persL [LS l] = true ∧ O.pure 8 [LS l] = some (.int .i64 e) ∧ True)) (by kernel_rfl)
  simp only [Prod.mk.injEq] at hp
  obtain ⟨rfl, h4, rfl⟩ := hp
  exact ⟨st', hev ⟨by simp [he], hQ.2.2.2, by simp, hQ.2.2.1, hQ.2.1, by simp, by simp, persLS l, hQ.1, trivial⟩, h4⟩

/-- States where the heap does not matter. -/
def mkT (ts : List (Nat × PV)) (R : Nat → PV) (H : Heap) : St := ⟨fun i => mkS.pick ts R i, H⟩
def HasT (ts : List (Nat × PV)) (st : St) : Prop := ∀ x ∈ ts, st.tm x.1 = x.2
theorem HasT.eq {ts : List (Nat × PV)} {st : St} (h : HasT ts st) : st = mkT ts st.tm st.hp := by
  obtain ⟨tm, hp⟩ := st
  unfold HasT at h
  simp only at h
  unfold mkT
  congr 1
  funext i
  induction ts with
  | nil => rfl
  | cons x l ih =>
    obtain ⟨n, v⟩ := x
    unfold mkS.pick
    split
    · rename_i e; rw [e]; exact h (n, v) (by simp)
    · exact ih (fun y hy => h y (by simp [hy]))
theorem hasT_nil {st : St} : HasT [] st := fun _ h => by cases h
theorem HasT.cons {ts : List (Nat × PV)} {st : St} {n : Nat} {v : PV} (h : HasT ts st) (hv : st.tm n = v) : HasT ((n, v) :: ts) st := fun x hx => by
  rcases List.mem_cons.1 hx with rfl | hx
  · exact hv
  · exact h x hx

/-! the values -/
theorem c_nom (R : Nat → PV) (H : Heap) (hn : O.pure 13 [LS l] = some (nomV l)) : ∃ st', Ev cC O (.seq (seqL cT9) (.seq (seqL (seqR cT9)) (seqL (seqL cT11)))) (mkT [(0, LS l)] R H) .normal st' ∧ HasT [(0, LS l), (11, nomV l), (12, .int .i64 ((0 : Nat) : Int))] st' := by
  -- the length of what was handed back
  have key : ∀ x : PV, (x = .sl true [] ∧ l.length = 0) ∨ (∃ rs, x = .sl false rs ∧ rs.length = l.length) → O.pure 13 [LS l] = some x → ∃ st', Ev cC O (.seq (seqL cT9) (.seq (seqL (seqR cT9)) (seqL (seqL cT11)))) (mkT [(0, LS l)] R H) .normal st' ∧ HasT [(0, LS l), (11, x), (12, .int .i64 ((0 : Nat) : Int))] st' := by
    rintro x (⟨rfl, hl⟩ | ⟨rs, rfl, hl⟩) hn
    · obtain ⟨ex, st', ob, hp, hev⟩ := Ev.of_X (c := cC) (O := O) (fl := flg [(20, 1, .pers), (21, 1, .val), (21, 3, .val), (21, 4, .bit)]) (n := 50) (code := .seq (seqL cT9) (.seq (seqL (seqR cT9)) (seqL (seqL cT11)))) (st := mkT [(0, LS l)] R H)
        (tr := [.val (.sl true []), .val (.int .i64 l.length), .val (.int .i64 l.length), .bit false]) (fun ex st ob => (ex, st.tm 0, st.tm 11, st.tm 12, ob))
        (y := (Ex.normal, LS l, PV.sl true [], PV.int .i64 ((0 : Nat) : Int), (!decide ((l.length : Int) = (l.length : Int))) = false ∧ some (PV.int .i64 ((l.map Dm.pv).length : Int)) = some (.int .i64 (l.length : Int)) ∧ some (PV.int .i64 (([] : List PV).length : Int)) = some (.int .i64 (l.length : Int)) ∧ PV.persL [LS l] = true ∧ O.pure 13 [LS l] = some (.sl true []) ∧ True)) (by kernel_rfl)
      simp only [Prod.mk.injEq] at hp
      obtain ⟨rfl, h0, h11, h12, rfl⟩ := hp
      exact ⟨st', hev ⟨by simp, lenE l, by simp [hl], persLS l, hn, trivial⟩, ((hasT_nil.cons h12).cons h11).cons h0⟩
    · obtain ⟨ex, st', ob, hp, hev⟩ := Ev.of_X (c := cC) (O := O) (fl := flg [(20, 1, .pers), (21, 1, .val), (21, 3, .val), (21, 4, .bit)]) (n := 50) (code := .seq (seqL cT9) (.seq (seqL (seqR cT9)) (seqL (seqL cT11)))) (st := mkT [(0, LS l)] R H)
        (tr := [.val (.sl false rs), .val (.int .i64 l.length), .val (.int .i64 l.length), .bit false]) (fun ex st ob => (ex, st.tm 0, st.tm 11, st.tm 12, ob))
        (y := (Ex.normal, LS l, PV.sl false rs, PV.int .i64 ((0 : Nat) : Int), (!decide ((l.length : Int) = (l.length : Int))) = false ∧ some (PV.int .i64 ((l.map Dm.pv).length : Int)) = some (.int .i64 (l.length : Int)) ∧ some (PV.int .i64 (rs.length : Int)) = some (.int .i64 (l.length : Int)) ∧ PV.persL [LS l] = true ∧ O.pure 13 [LS l] = some (.sl false rs) ∧ True)) (by kernel_rfl)
      simp only [Prod.mk.injEq] at hp
      obtain ⟨rfl, h0, h11, h12, rfl⟩ := hp
      exact ⟨st', hev ⟨by simp, lenE l, by rw [hl], persLS l, hn, trivial⟩, ((hasT_nil.cons h12).cons h11).cons h0⟩
  refine key (nomV l) ?_ hn
  unfold nomV
  by_cases h : l = []
  · subst h; exact .inl ⟨rfl, rfl⟩
  · rw [if_neg h]; exact .inr ⟨_, rfl, by simp⟩

theorem n3_end {k : Nat} (x : PV) (R : Nat → PV) (H : Heap) (h : ¬ (k : Int) < l.length) : ∃ st', Ev cC O cL3 (mkT [(0, LS l), (11, x), (12, .int .i64 k)] R H) (.exit 4) st' := by
  obtain ⟨ex, st', ob, hp, hev⟩ := Ev.of_X (c := cC) (O := O) (fl := flg [(24, 2, .val), (24, 3, .bit)]) (n := 50) (code := cL3) (st := mkT [(0, LS l), (11, x), (12, .int .i64 k)] R H) (tr := [.val (.int .i64 l.length), .bit false])
    (fun ex st ob => (ex, ob)) (y := (Ex.exit 4, decide ((k : Int) < l.length) = false ∧ some (PV.int .i64 ((l.map Dm.pv).length : Int)) = some (.int .i64 (l.length : Int)) ∧ True)) (by kernel_rfl)
  simp only [Prod.mk.injEq] at hp
  obtain ⟨rfl, rfl⟩ := hp
  exact ⟨st', hev ⟨by simpa using h, lenE l, trivial⟩⟩

def NS (l : List Dm) : PV := .sl false (l.map fun d => ratV d.a)
/-- The address of a value. -/
def AR (l : List Dm) (k : Int) (d : Dm) : Prop := (if 0 ≤ k then match (l.map fun d => ratV d.a)[k.toNat]?, some 4 with
    | some v, some n => if v.cells.length = n ∧ 0 < n then some (PV.pp v.cells 0) else none
    | _, _ => none
    else none) = some (.pp (ratV d.a).cells 0)
theorem arOk {k : Nat} {d : Dm} (h : l[k]? = some d) : AR l (k : Int) d := by
  unfold AR
  rw [if_pos (Int.natCast_nonneg k), Int.toNat_natCast, List.getElem?_map, h]
  rfl
def Q3 (O : Orc) (l : List Dm) : Prop := ∀ i, i < l.length → ∀ d, l[i]? = some d → (O.pure 14 [D d.s d.a d.b d.c] = some (.tup [.int .i64 (d.a + d.b), .int .i64 (d.a + d.c)]) ∧ O.pure 16 [.int .i64 d.a] = some (ratV d.a)) ∧ O.pure 15 [ratV d.a, ratV d.a] = some (.bool true)

theorem n3_go {k : Nat} {d : Dm} (R : Nat → PV) (H : Heap) (hl : l.length ≤ 6) (h : l[k]? = some d) (hb : d.e = 0) (hQ : Q3 O l) : ∃ st', Ev cC O cL3 (mkT [(0, LS l), (11, NS l), (12, .int .i64 k)] R H) .normal st' ∧ HasT [(0, LS l), (11, NS l), (12, .int .i64 ((k + 1 : Nat) : Int))] st' := by
  have hlt : k < l.length := (List.getElem?_eq_some_iff.1 h).1
  have ha : AD l (k : Int) d := iAddr h
  have hr := arOk h
  obtain ⟨⟨q1, q2⟩, q3⟩ := hQ k hlt d h
  have hd := dimE_ok hb
  have w1 : (!decide (d.a + d.b = IntKind.i64.wrap (d.a + d.b))) = false := by rw [wrap_id (by omega)]; simp
  have w2 : (!decide (d.a + d.c = IntKind.i64.wrap (d.a + d.c))) = false := by rw [wrap_id (by omega)]; simp
  have hp2 : PV.persL [ratV d.a, ratV d.a] = true := by simp only [PV.persL, persR, Bool.and_self]
  obtain ⟨ex, st', ob, hp, hev⟩ := Ev.of_X (c := cC) (O := O) (fl := flg [(24, 2, .val), (24, 3, .bit), (26, 2, .val), (26, 4, .call), (27, 3, .val), (27, 8, .val), (27, 12, .bit), (27, 17, .val), (27, 22, .val), (27, 26, .bit), (27, 31, .val), (27, 35, .val), (27, 38, .pers), (27, 39, .pers)]) (n := 60) (code := cL3) (st := mkT [(0, LS l), (11, NS l), (12, .int .i64 k)] R H)
    (tr := [.val (.int .i64 l.length), .bit true, .val (.pp d.pv.cells 0), .val (.tup [.int .i64 (d.a + d.b), .int .i64 (d.a + d.c)]), .val (.pp d.pv.cells 0), .val (.pp d.pv.cells 0), .bit false, .val (.pp d.pv.cells 0), .val (.pp d.pv.cells 0), .bit false, .val (.pp (ratV d.a).cells 0), .val (.pp d.pv.cells 0), .val (ratV d.a), .val (.bool true)])
    (fun ex st ob => (ex, st.tm 0, st.tm 11, st.tm 12, ob))
    (y := (Ex.normal, LS l, NS l, PV.int .i64 (IntKind.i64.wrap ((k : Int) + 1)), PV.persL [ratV d.a, ratV d.a] = true ∧ O.pure 15 [ratV d.a, ratV d.a] = some (.bool true) ∧ PV.persL [.int .i64 d.a] = true ∧ O.pure 16 [.int .i64 d.a] = some (ratV d.a) ∧ AD l (k : Int) d ∧ AR l (k : Int) d ∧
      (!decide (d.a + d.c = IntKind.i64.wrap (d.a + d.c))) = false ∧ AD l (k : Int) d ∧ AD l (k : Int) d ∧ (!decide (d.a + d.b = IntKind.i64.wrap (d.a + d.b))) = false ∧ AD l (k : Int) d ∧ AD l (k : Int) d ∧
      O.pure 14 [D d.s d.a d.b d.c] = some (.tup [.int .i64 (d.a + d.b), .int .i64 (d.a + d.c)]) ∧ AD l (k : Int) d ∧ decide ((k : Int) < l.length) = true ∧ some (PV.int .i64 ((l.map Dm.pv).length : Int)) = some (.int .i64 (l.length : Int)) ∧ True)) (by kernel_rfl)
  simp only [Prod.mk.injEq] at hp
  obtain ⟨rfl, h0, h11, h12, rfl⟩ := hp
  exact ⟨st', hev ⟨hp2, q3, rfl, q2, ha, hr, w2, ha, ha, w1, ha, ha, q1, ha, by simp [hlt], lenE l, trivial⟩, ((hasT_nil.cons (by rw [h12, wrap_nat (by omega)])).cons h11).cons h0⟩

theorem n3_loop (hl : l.length ≤ 6) (hb : ∀ d ∈ l, d.e = 0) (hQ : Q3 O l) : ∀ (r : List Dm) (k : Nat), l.drop k = r → ∀ {st : St}, HasT [(0, LS l), (11, nomV l), (12, .int .i64 k)] st → ∃ st', Ev cC O (.loop cL3) st (.exit 4) st'
  | [], k, hk, st, h => by
    have : l.length ≤ k := by simpa using hk
    rw [h.eq]
    obtain ⟨st', e⟩ := n3_end (O := O) (l := l) (k := k) (nomV l) st.tm st.hp (by omega)
    exact ⟨st', e.loop_stop (by intro q; cases q)⟩
  | d :: r, k, hk, st, h => by
    have hd : l[k]? = some d := by
      have := congrArg (fun x => x[0]?) hk
      simpa using this
    have hr : l.drop (k + 1) = r := by
      have := congrArg (fun x => x.drop 1) hk
      simpa using this
    have hne : l ≠ [] := fun e => by rw [e] at hd; simp at hd
    have hv : nomV l = NS l := by unfold nomV; rw [if_neg hne]; rfl
    rw [hv] at h
    obtain ⟨st1, e, h1⟩ := n3_go (O := O) st.tm st.hp hl hd (hb d (List.mem_of_getElem? hd)) hQ
    rw [← h.eq] at e
    rw [← hv] at h1
    obtain ⟨st', e'⟩ := n3_loop hl hb hQ r (k + 1) hr h1
    exact ⟨st', e.loop e'⟩

theorem chkE_all : ∀ (r : List Dm) (k : Nat), chkE l r k = 0 → ∀ d ∈ r, d.e = 0
  | [], _, _, d, hd => by cases hd
  | x :: r, k, h, d, hd => by
    unfold chkE at h
    split at h
    · rename_i g
      rcases List.mem_cons.1 hd with rfl | hd
      · unfold errAt at g
        split at g
        · assumption
        · rename_i hne; exact absurd g hne
      · exact chkE_all r (k + 1) h d hd
    · rename_i g; exact absurd h g
end

structure QAll (l : List Dm) (s : ByteArray) (O : Orc) : Prop where
  kn : kn O
  chk : O.pure 9 [LS l] = some (.int .i64 (chkE l l 0))
  fnd : O.pure 10 [LS l, .str s] = some (findV l s)

theorem body_true {O : Orc} {l : List Dm} {s : ByteArray} {st : St} (h : Ev cC O (bodyOf Tryz.f4) (startSt [LS l, .str s] Heap.empty) .ret st) (h4 : st.tm 4 = .bool true) : Runs Pr pol O 4 [LS l, .str s] (.bool true) := by
  refine Runs.of_Ev (st := st) (r' := .bool true) Tryz.func4 (body := bodyOf Tryz.f4) (by kernel_rfl) (persF l s) (by rw [Tryz.ntmps4]; exact Nat.le_of_ble_eq_true rfl) rfl h (.inr rfl) ?_ rfl
  show some (st.tm 4) = _
  rw [h4]

theorem cB_seq : bodyOf Tryz.f4 = .seq (seqL cB) (.seq (seqL (seqR cB)) (.seq (.seq (seqL (seqL cT2)) (.block 0 (.loop cL1))) (.seq (seqL cT3) (.seq (seqL (seqR cT3)) (.seq (seqL (seqR (seqR cT3))) (.seq (.seq (seqL (seqL cT6)) (.block 2 (.loop cL2)))
    (.seq (seqL cT7) (.seq (seqL (seqR cT7)) (.seq (seqL cT9) (.seq (seqL (seqR cT9)) (.seq (.seq (seqL (seqL cT11)) (.block 4 (.loop cL3))) (seqR cT11)))))))))))) := by
  unfold bodyOf
  rw [cB_eq]
  rfl

theorem checks_run {O : Orc} {l : List Dm} {s : ByteArray} (hk : kn O) (hQ : l.length ≤ 6 → (s.size : Int) ≤ 50 → QAll l s O ∧ ((∀ d ∈ l, ¬ 50 < (d.s.size : Int)) → QE O l s (chkE l l 0) ∧ (chkE l l 0 = 0 → O.pure 13 [LS l] = some (nomV l) ∧ Q3 O l))) : Runs Pr pol O 4 [LS l, .str s] (.bool true) := by
  by_cases h1 : 6 < (l.length : Int)
  · obtain ⟨st, e, h4⟩ := c_long1 (s := s) hk h1
    refine body_true ?_ h4
    rw [cB_seq]
    exact e.seq_out (by intro q; cases q)
  by_cases h2 : 50 < (s.size : Int)
  · obtain ⟨st, e, h4⟩ := c_long2 hk h1 h2
    refine body_true ?_ h4
    rw [cB_seq]
    exact e.seq_out (by intro q; cases q)
  have hl : l.length ≤ 6 := by omega
  obtain ⟨hA, hR⟩ := hQ hl (by omega)
  obtain ⟨st1, e1, g1⟩ := c_guard hk h1 h2
  obtain ⟨s1, ea, e1⟩ := e1.seq_inv
  obtain ⟨s2, eb, er3⟩ := e1.seq_inv
  rcases n1_loop (O := O) (by omega) l 0 rfl g1 with ⟨hs, st2, e2, g2⟩ | ⟨st2, e2, h4⟩
  rotate_left
  · refine body_true ?_ h4
    rw [cB_seq]
    exact ea.seq (eb.seq ((er3.seq e2.block_ret).seq_stop (by intro q; cases q)))
  obtain ⟨hE, hZ⟩ := hR hs
  have hf := hA.fnd
  unfold findV at hf
  -- Check, Find, where the name is
  have mid : ∀ (v : Int) (b : Bool), O.pure 10 [LS l, .str s] = some (.tup [.int .i64 v, .bool b]) → ∃ st3, Ev cC O (.seq (seqL cT3) (.seq (seqL (seqR cT3)) (.seq (seqL (seqR (seqR cT3))) (.seq (seqL (seqL cT6)) (.block 2 (.loop cL2)))))) st2 .normal st3 ∧
      Has [(0, LS l), (1, .str s), (6, .int .i64 (chkE l l 0)), (7, .int .i64 v), (8, .bool b), (9, .int .i64 (idxN s l 0))] st3 := fun v b hfv => by
    obtain ⟨st3, e3, g3⟩ := c_mid st2.tm st2.hp.blk st2.hp.cnt hl hA.chk hfv
    rw [← g2.eq] at e3
    obtain ⟨t1, f1, e3⟩ := e3.seq_inv
    obtain ⟨t2, f2, e3⟩ := e3.seq_inv
    obtain ⟨t3, f3, f4⟩ := e3.seq_inv
    have hd0 : idxN s (l.drop l.length) l.length = -1 := by rw [List.drop_length]; rfl
    rw [← hd0] at g3
    obtain ⟨st4, e4, g4⟩ := n2_loop (O := O) hl l.length (Nat.le_refl _) g3
    exact ⟨st4, f1.seq (f2.seq (f3.seq (f4.seq e4.block))), g4⟩
  have pre : ∀ {st3 st' : St} {ex : Ex} {X : Code}, Ev cC O (.seq (seqL cT3) (.seq (seqL (seqR cT3)) (.seq (seqL (seqR (seqR cT3))) (.seq (seqL (seqL cT6)) (.block 2 (.loop cL2)))))) st2 .normal st3 → Ev cC O X st3 ex st' →
      Ev cC O (.seq (seqL cB) (.seq (seqL (seqR cB)) (.seq (.seq (seqL (seqL cT2)) (.block 0 (.loop cL1))) (.seq (seqL cT3) (.seq (seqL (seqR cT3)) (.seq (seqL (seqR (seqR cT3))) (.seq (.seq (seqL (seqL cT6)) (.block 2 (.loop cL2))) X))))))) (startSt [LS l, .str s] Heap.empty) ex st' := fun e3 eX => by
    obtain ⟨t1, f1, e3⟩ := e3.seq_inv
    obtain ⟨t2, f2, e3⟩ := e3.seq_inv
    obtain ⟨t3, f3, f4⟩ := e3.seq_inv
    exact ea.seq (eb.seq ((er3.seq e2.block).seq (f1.seq (f2.seq (f3.seq (f4.seq eX))))))
  -- the end, where all is right
  have fin : ∀ {st5 : St}, chkE l l 0 = 0 → st5.tm 0 = LS l → ∃ st', Ev cC O (.seq (seqL cT9) (.seq (seqL (seqR cT9)) (.seq (.seq (seqL (seqL cT11)) (.block 4 (.loop cL3))) (seqR cT11)))) st5 .ret st' ∧ st'.tm 4 = .bool true := fun {st5} hz h0 => by
    obtain ⟨hn, h3⟩ := hZ hz
    have hT : HasT [(0, LS l)] st5 := hasT_nil.cons h0
    obtain ⟨st6, e6, g6⟩ := c_nom (O := O) (l := l) st5.tm st5.hp hn
    rw [← hT.eq] at e6
    obtain ⟨t1, f1, e6⟩ := e6.seq_inv
    obtain ⟨t2, f2, f3⟩ := e6.seq_inv
    obtain ⟨st7, e7⟩ := n3_loop (O := O) hl (chkE_all l 0 hz) h3 l 0 rfl g6
    obtain ⟨ex, st', ob, hp, hev⟩ := Ev.of_X (c := cC) (O := O) (fl := flg []) (n := 50) (code := seqR cT11) (st := st7) (tr := []) (fun ex st ob => (ex, st.tm 4, ob)) (y := (Ex.ret, PV.bool true, True)) (by kernel_rfl)
    simp only [Prod.mk.injEq] at hp
    obtain ⟨rfl, h4, rfl⟩ := hp
    exact ⟨st', f1.seq (f2.seq ((f3.seq e7.block).seq (hev trivial))), h4⟩
  by_cases hi : 0 ≤ idxN s l 0
  · rw [if_neg (by omega), decide_eq_true hi] at hf
    obtain ⟨st3, e3, g3⟩ := mid _ _ hf
    by_cases hz : chkE l l 0 = 0
    · obtain ⟨st5, e5, h0⟩ := c_test_yes_ok st3.tm st3.hp.blk st3.hp.cnt hE hz hi
      rw [← g3.eq] at e5
      obtain ⟨t1, f1, f2⟩ := e5.seq_inv
      obtain ⟨st', e', h4⟩ := fin hz h0
      refine body_true ?_ h4
      rw [cB_seq]
      exact pre e3 (f1.seq (f2.seq e'))
    · obtain ⟨st5, e5, h4⟩ := c_test_yes_err st3.tm st3.hp.blk st3.hp.cnt hE hz hi
      rw [← g3.eq] at e5
      refine body_true ?_ h4
      rw [cB_seq]
      exact pre e3 (e5.seq_out (by intro q; cases q))
  · have hneg : idxN s l 0 = -1 := by
      have : ∀ (m : List Dm) (k : Nat), ¬ 0 ≤ idxN s m k → idxN s m k = -1 := fun m => by
        induction m with
        | nil => intro k _; rfl
        | cons d m ih =>
          intro k h
          unfold idxN at h ⊢
          split
          · rename_i e; rw [if_pos e] at h; omega
          · rename_i e; rw [if_neg e] at h; exact ih (k + 1) h
      exact this l 0 hi
    rw [hneg] at hf
    rw [if_pos (by omega), show decide (0 ≤ (-1 : Int)) = false from rfl] at hf
    obtain ⟨st3, e3, g3⟩ := mid _ _ hf
    rw [hneg] at g3
    by_cases hz : chkE l l 0 = 0
    · obtain ⟨st5, e5, h0⟩ := c_test_no_ok st3.tm st3.hp.blk st3.hp.cnt hE hz
      rw [← g3.eq] at e5
      obtain ⟨t1, f1, f2⟩ := e5.seq_inv
      obtain ⟨st', e', h4⟩ := fin hz h0
      refine body_true ?_ h4
      rw [cB_seq]
      exact pre e3 (f1.seq (f2.seq e'))
    · obtain ⟨st5, e5, h4⟩ := c_test_no_err st3.tm st3.hp.blk st3.hp.cnt hE hz
      rw [← g3.eq] at e5
      refine body_true ?_ h4
      rw [cB_seq]
      exact pre e3 (e5.seq_out (by intro q; cases q))

theorem Deep.imp {p : Prop} {Q : Orc → Prop} (h : p → Deep Q) : Deep (fun O => p → Q O) := by
  by_cases hp : p
  · obtain ⟨m, hm⟩ := h hp
    exact ⟨m, fun m' h' _ => hm m' h'⟩
  · exact ⟨0, fun m' _ q => absurd q hp⟩
theorem Deep.mono {Q R : Orc → Prop} (h : Deep Q) (f : ∀ O, Q O → R O) : Deep R := by
  obtain ⟨m, hm⟩ := h
  exact ⟨m, fun m' h' => f _ (hm m' h')⟩

theorem known_checks (l : List Dm) (s : ByteArray) : Known 4 [LS l, .str s] (.bool true) := by
  refine Known.of (Q := fun O => kn O ∧ (l.length ≤ 6 → (s.size : Int) ≤ 50 → QAll l s O ∧ ((∀ d ∈ l, ¬ 50 < (d.s.size : Int)) → QE O l s (chkE l l 0) ∧ (chkE l l 0 = 0 → O.pure 13 [LS l] = some (nomV l) ∧ Q3 O l)))) ?_ rfl (fun O hO => checks_run hO.1 hO.2)
  refine known_known.deep.and (Deep.imp fun hl => Deep.imp fun hs => Deep.and ?_ (Deep.imp fun hd => Deep.and ?_ (Deep.imp fun hz => Deep.and ?_ ?_)))
  · exact (known_known.deep.and ((known_check l hl).deep.and (known_find l s (by omega)).deep)).mono fun O h => ⟨h.1, h.2.1, h.2.2⟩
  · exact ((known_lcheck l hl (fun d h => by have := hd d h; omega)).deep.and ((known_isName s).deep.and ((known_name s (by omega)).deep.and known_many.deep))).mono fun O h => ⟨h.1, h.2.1, h.2.2.1, h.2.2.2⟩
  · exact (known_nom hl (fun d h => (dimE_ok (chkE_all l 0 hz d h)).1)).deep
  · refine Deep.all (Q := fun i O => ∀ d, l[i]? = some d → _) _ (fun i hi => ?_)
    have hd : l[i]? = some l[i] := List.getElem?_eq_getElem hi
    have he := chkE_all l 0 hz _ (List.getElem_mem hi)
    obtain ⟨m, hm⟩ := ((known_range he).deep.and (known_from (dimE_ok he).1).deep).and (known_equal (l[i]).a).deep
    refine ⟨m, fun m' h' d e => ?_⟩
    rw [hd] at e
    cases e
    exact hm m' h'
end Go.Proofs.YtigfgicjjhepoaaGreatDoor.VA

/- Nominal values. -/
import Derived.Test.YtigfgicjjhepoaaGreatDoorSo
set_option linter.unusedVariables false
set_option linter.unusedSimpArgs false
namespace Go.Proofs.YtigfgicjjhepoaaGreatDoor.VA
open Go Go.Proofs

theorem nom0 (O : Orc) : Runs Pr pol O 13 [LS []] (nomV []) :=
  Runs.of_X (n := 60) (fl := flg []) (tr := []) (ob := True) (by kernel_rfl) trivial
theorem nom1 {O : Orc} {d1 : Dm} (h1 : O.pure 16 [.int .i64 d1.a] = some (ratV d1.a)) : Runs Pr pol O 13 [LS [d1]] (nomV [d1]) := by
  obtain ⟨ex, st, ob, hpj, hev⟩ := Ev.of_X (c := ⟨Pr, pol, [], 13⟩) (O := O) (fl := flg [(5, 3, .pers)]) (n := 60) (code := bodyOf Tryz.f13) (st := startSt [LS [d1]] Heap.empty) (tr := [.val (ratV d1.a)])
    (fun ex st ob => (ex, resultsV ⟨Pr, pol, [], 13⟩ st Tryz.f13.results.toList, st.hp.blk ([], 17, 0), ob)) (y := (Ex.ret, some (PV.ms ([], 17, 0) 4 0 1), some (Blk.row 4 [ratV d1.a] false), PV.persL [.int .i64 d1.a] = true ∧ O.pure 16 [.int .i64 d1.a] = some (ratV d1.a) ∧ True)) (by kernel_rfl)
  simp only [Prod.mk.injEq] at hpj
  obtain ⟨rfl, hr, hb, rfl⟩ := hpj
  refine Runs.of_Ev (st := st) Tryz.func13 (body := bodyOf Tryz.f13) (by kernel_rfl) (persLS _) (by rw [Tryz.ntmps13]; exact Nat.le_of_ble_eq_true rfl) rfl (hev ⟨rfl, h1, trivial⟩) (.inr rfl) hr ?_
  have := dr_ms hb (persNs [d1]) (szNs [d1]) (by simp)
  show (dr st.hp 12 (.ms ([], 17, 0) 4 0 ([ratV d1.a] : List PV).length)).map (·.1) = _
  exact (congrArg (Option.map (·.1)) this)
theorem nom2 {O : Orc} {d1 d2 : Dm} (h1 : O.pure 16 [.int .i64 d1.a] = some (ratV d1.a)) (h2 : O.pure 16 [.int .i64 d2.a] = some (ratV d2.a)) : Runs Pr pol O 13 [LS [d1, d2]] (nomV [d1, d2]) := by
  obtain ⟨ex, st, ob, hpj, hev⟩ := Ev.of_X (c := ⟨Pr, pol, [], 13⟩) (O := O) (fl := flg [(5, 3, .pers)]) (n := 60) (code := bodyOf Tryz.f13) (st := startSt [LS [d1, d2]] Heap.empty) (tr := [.val (ratV d1.a), .val (ratV d2.a)])
    (fun ex st ob => (ex, resultsV ⟨Pr, pol, [], 13⟩ st Tryz.f13.results.toList, st.hp.blk ([], 17, 1), ob)) (y := (Ex.ret, some (PV.ms ([], 17, 1) 4 0 2), some (Blk.row 4 [ratV d1.a, ratV d2.a] false), PV.persL [.int .i64 d2.a] = true ∧ O.pure 16 [.int .i64 d2.a] = some (ratV d2.a) ∧ PV.persL [.int .i64 d1.a] = true ∧ O.pure 16 [.int .i64 d1.a] = some (ratV d1.a) ∧ True)) (by kernel_rfl)
  simp only [Prod.mk.injEq] at hpj
  obtain ⟨rfl, hr, hb, rfl⟩ := hpj
  refine Runs.of_Ev (st := st) Tryz.func13 (body := bodyOf Tryz.f13) (by kernel_rfl) (persLS _) (by rw [Tryz.ntmps13]; exact Nat.le_of_ble_eq_true rfl) rfl (hev ⟨rfl, h2, rfl, h1, trivial⟩) (.inr rfl) hr ?_
  have := dr_ms hb (persNs [d1, d2]) (szNs [d1, d2]) (by simp)
  show (dr st.hp 12 (.ms ([], 17, 1) 4 0 ([ratV d1.a, ratV d2.a] : List PV).length)).map (·.1) = _
  exact (congrArg (Option.map (·.1)) this)
theorem nom3 {O : Orc} {d1 d2 d3 : Dm} (h1 : O.pure 16 [.int .i64 d1.a] = some (ratV d1.a)) (h2 : O.pure 16 [.int .i64 d2.a] = some (ratV d2.a)) (h3 : O.pure 16 [.int .i64 d3.a] = some (ratV d3.a)) : Runs Pr pol O 13 [LS [d1, d2, d3]] (nomV [d1, d2, d3]) := by
  obtain ⟨ex, st, ob, hpj, hev⟩ := Ev.of_X (c := ⟨Pr, pol, [], 13⟩) (O := O) (fl := flg [(5, 3, .pers)]) (n := 60) (code := bodyOf Tryz.f13) (st := startSt [LS [d1, d2, d3]] Heap.empty) (tr := [.val (ratV d1.a), .val (ratV d2.a), .val (ratV d3.a)])
    (fun ex st ob => (ex, resultsV ⟨Pr, pol, [], 13⟩ st Tryz.f13.results.toList, st.hp.blk ([], 17, 2), ob)) (y := (Ex.ret, some (PV.ms ([], 17, 2) 4 0 3), some (Blk.row 4 [ratV d1.a, ratV d2.a, ratV d3.a] false), PV.persL [.int .i64 d3.a] = true ∧ O.pure 16 [.int .i64 d3.a] = some (ratV d3.a) ∧ PV.persL [.int .i64 d2.a] = true ∧ O.pure 16 [.int .i64 d2.a] = some (ratV d2.a) ∧ PV.persL [.int .i64 d1.a] = true ∧ O.pure 16 [.int .i64 d1.a] = some (ratV d1.a) ∧ True)) (by kernel_rfl)
  simp only [Prod.mk.injEq] at hpj
  obtain ⟨rfl, hr, hb, rfl⟩ := hpj
  refine Runs.of_Ev (st := st) Tryz.func13 (body := bodyOf Tryz.f13) (by kernel_rfl) (persLS _) (by rw [Tryz.ntmps13]; exact Nat.le_of_ble_eq_true rfl) rfl (hev ⟨rfl, h3, rfl, h2, rfl, h1, trivial⟩) (.inr rfl) hr ?_
  have := dr_ms hb (persNs [d1, d2, d3]) (szNs [d1, d2, d3]) (by simp)
  show (dr st.hp 12 (.ms ([], 17, 2) 4 0 ([ratV d1.a, ratV d2.a, ratV d3.a] : List PV).length)).map (·.1) = _
  exact (congrArg (Option.map (·.1)) this)
theorem nom4 {O : Orc} {d1 d2 d3 d4 : Dm} (h1 : O.pure 16 [.int .i64 d1.a] = some (ratV d1.a)) (h2 : O.pure 16 [.int .i64 d2.a] = some (ratV d2.a)) (h3 : O.pure 16 [.int .i64 d3.a] = some (ratV d3.a)) (h4 : O.pure 16 [.int .i64 d4.a] = some (ratV d4.a)) : Runs Pr pol O 13 [LS [d1, d2, d3, d4]] (nomV [d1, d2, d3, d4]) := by
  obtain ⟨ex, st, ob, hpj, hev⟩ := Ev.of_X (c := ⟨Pr, pol, [], 13⟩) (O := O) (fl := flg [(5, 3, .pers)]) (n := 60) (code := bodyOf Tryz.f13) (st := startSt [LS [d1, d2, d3, d4]] Heap.empty) (tr := [.val (ratV d1.a), .val (ratV d2.a), .val (ratV d3.a), .val (ratV d4.a)])
    (fun ex st ob => (ex, resultsV ⟨Pr, pol, [], 13⟩ st Tryz.f13.results.toList, st.hp.blk ([], 17, 3), ob)) (y := (Ex.ret, some (PV.ms ([], 17, 3) 4 0 4), some (Blk.row 4 [ratV d1.a, ratV d2.a, ratV d3.a, ratV d4.a] false), PV.persL [.int .i64 d4.a] = true ∧ O.pure 16 [.int .i64 d4.a] = some (ratV d4.a) ∧ PV.persL [.int .i64 d3.a] = true ∧ O.pure 16 [.int .i64 d3.a] = some (ratV d3.a) ∧ PV.persL [.int .i64 d2.a] = true ∧ O.pure 16 [.int .i64 d2.a] = some (ratV d2.a) ∧ PV.persL [.int .i64 d1.a] = true ∧ O.pure 16 [.int .i64 d1.a] = some (ratV d1.a) ∧ True)) (by kernel_rfl)
  simp only [Prod.mk.injEq] at hpj
  obtain ⟨rfl, hr, hb, rfl⟩ := hpj
  refine Runs.of_Ev (st := st) Tryz.func13 (body := bodyOf Tryz.f13) (by kernel_rfl) (persLS _) (by rw [Tryz.ntmps13]; exact Nat.le_of_ble_eq_true rfl) rfl (hev ⟨rfl, h4, rfl, h3, rfl, h2, rfl, h1, trivial⟩) (.inr rfl) hr ?_
  have := dr_ms hb (persNs [d1, d2, d3, d4]) (szNs [d1, d2, d3, d4]) (by simp)
  show (dr st.hp 12 (.ms ([], 17, 3) 4 0 ([ratV d1.a, ratV d2.a, ratV d3.a, ratV d4.a] : List PV).length)).map (·.1) = _
  exact (congrArg (Option.map (·.1)) this)
theorem nom5 {O : Orc} {d1 d2 d3 d4 d5 : Dm} (h1 : O.pure 16 [.int .i64 d1.a] = some (ratV d1.a)) (h2 : O.pure 16 [.int .i64 d2.a] = some (ratV d2.a)) (h3 : O.pure 16 [.int .i64 d3.a] = some (ratV d3.a)) (h4 : O.pure 16 [.int .i64 d4.a] = some (ratV d4.a)) (h5 : O.pure 16 [.int .i64 d5.a] = some (ratV d5.a)) : Runs Pr pol O 13 [LS [d1, d2, d3, d4, d5]] (nomV [d1, d2, d3, d4, d5]) := by
  obtain ⟨ex, st, ob, hpj, hev⟩ := Ev.of_X (c := ⟨Pr, pol, [], 13⟩) (O := O) (fl := flg [(5, 3, .pers)]) (n := 60) (code := bodyOf Tryz.f13) (st := startSt [LS [d1, d2, d3, d4, d5]] Heap.empty) (tr := [.val (ratV d1.a), .val (ratV d2.a), .val (ratV d3.a), .val (ratV d4.a), .val (ratV d5.a)])
    (fun ex st ob => (ex, resultsV ⟨Pr, pol, [], 13⟩ st Tryz.f13.results.toList, st.hp.blk ([], 17, 4), ob)) (y := (Ex.ret, some (PV.ms ([], 17, 4) 4 0 5), some (Blk.row 4 [ratV d1.a, ratV d2.a, ratV d3.a, ratV d4.a, ratV d5.a] false), PV.persL [.int .i64 d5.a] = true ∧ O.pure 16 [.int .i64 d5.a] = some (ratV d5.a) ∧ PV.persL [.int .i64 d4.a] = true ∧ O.pure 16 [.int .i64 d4.a] = some (ratV d4.a) ∧ PV.persL [.int .i64 d3.a] = true ∧ O.pure 16 [.int .i64 d3.a] = some (ratV d3.a) ∧ PV.persL [.int .i64 d2.a] = true ∧ O.pure 16 [.int .i64 d2.a] = some (ratV d2.a) ∧ PV.persL [.int .i64 d1.a] = true ∧ O.pure 16 [.int .i64 d1.a] = some (ratV d1.a) ∧ True)) (by kernel_rfl)
  simp only [Prod.mk.injEq] at hpj
  obtain ⟨rfl, hr, hb, rfl⟩ := hpj
  refine Runs.of_Ev (st := st) Tryz.func13 (body := bodyOf Tryz.f13) (by kernel_rfl) (persLS _) (by rw [Tryz.ntmps13]; exact Nat.le_of_ble_eq_true rfl) rfl (hev ⟨rfl, h5, rfl, h4, rfl, h3, rfl, h2, rfl, h1, trivial⟩) (.inr rfl) hr ?_
  have := dr_ms hb (persNs [d1, d2, d3, d4, d5]) (szNs [d1, d2, d3, d4, d5]) (by simp)
  show (dr st.hp 12 (.ms ([], 17, 4) 4 0 ([ratV d1.a, ratV d2.a, ratV d3.a, ratV d4.a, ratV d5.a] : List PV).length)).map (·.1) = _
  exact (congrArg (Option.map (·.1)) this)
theorem nom6 {O : Orc} {d1 d2 d3 d4 d5 d6 : Dm} (h1 : O.pure 16 [.int .i64 d1.a] = some (ratV d1.a)) (h2 : O.pure 16 [.int .i64 d2.a] = some (ratV d2.a)) (h3 : O.pure 16 [.int .i64 d3.a] = some (ratV d3.a)) (h4 : O.pure 16 [.int .i64 d4.a] = some (ratV d4.a)) (h5 : O.pure 16 [.int .i64 d5.a] = some (ratV d5.a)) (h6 : O.pure 16 [.int .i64 d6.a] = some (ratV d6.a)) : Runs Pr pol O 13 [LS [d1, d2, d3, d4, d5, d6]] (nomV [d1, d2, d3, d4, d5, d6]) := by
  obtain ⟨ex, st, ob, hpj, hev⟩ := Ev.of_X (c := ⟨Pr, pol, [], 13⟩) (O := O) (fl := flg [(5, 3, .pers)]) (n := 60) (code := bodyOf Tryz.f13) (st := startSt [LS [d1, d2, d3, d4, d5, d6]] Heap.empty) (tr := [.val (ratV d1.a), .val (ratV d2.a), .val (ratV d3.a), .val (ratV d4.a), .val (ratV d5.a), .val (ratV d6.a)])
    (fun ex st ob => (ex, resultsV ⟨Pr, pol, [], 13⟩ st Tryz.f13.results.toList, st.hp.blk ([], 17, 5), ob)) (y := (Ex.ret, some (PV.ms ([], 17, 5) 4 0 6), some (Blk.row 4 [ratV d1.a, ratV d2.a, ratV d3.a, ratV d4.a, ratV d5.a, ratV d6.a] false), PV.persL [.int .i64 d6.a] = true ∧ O.pure 16 [.int .i64 d6.a] = some (ratV d6.a) ∧ PV.persL [.int .i64 d5.a] = true ∧ O.pure 16 [.int .i64 d5.a] = some (ratV d5.a) ∧ PV.persL [.int .i64 d4.a] = true ∧ O.pure 16 [.int .i64 d4.a] = some (ratV d4.a) ∧ PV.persL [.int .i64 d3.a] = true ∧ O.pure 16 [.int .i64 d3.a] = some (ratV d3.a) ∧ PV.persL [.int .i64 d2.a] = true ∧ O.pure 16 [.int .i64 d2.a] = some (ratV d2.a) ∧ PV.persL [.int .i64 d1.a] = true ∧ O.pure 16 [.int .i64 d1.a] = some (ratV d1.a) ∧ True)) (by kernel_rfl)
  simp only [Prod.mk.injEq] at hpj
  obtain ⟨rfl, hr, hb, rfl⟩ := hpj
  refine Runs.of_Ev (st := st) Tryz.func13 (body := bodyOf Tryz.f13) (by kernel_rfl) (persLS _) (by rw [Tryz.ntmps13]; exact Nat.le_of_ble_eq_true rfl) rfl (hev ⟨rfl, h6, rfl, h5, rfl, h4, rfl, h3, rfl, h2, rfl, h1, trivial⟩) (.inr rfl) hr ?_
  have := dr_ms hb (persNs [d1, d2, d3, d4, d5, d6]) (szNs [d1, d2, d3, d4, d5, d6]) (by simp)
  show (dr st.hp 12 (.ms ([], 17, 5) 4 0 ([ratV d1.a, ratV d2.a, ratV d3.a, ratV d4.a, ratV d5.a, ratV d6.a] : List PV).length)).map (·.1) = _
  exact (congrArg (Option.map (·.1)) this)

theorem nom_run {O : Orc} {l : List Dm} (hl : l.length ≤ 6) (h : ∀ i, i < l.length → ∀ d, l[i]? = some d → O.pure 16 [.int .i64 d.a] = some (ratV d.a)) : Runs Pr pol O 13 [LS l] (nomV l) := by
  match l, hl, h with
  | [], _, _ => exact nom0 O
  | [d1], _, h => exact nom1 (h 0 (by simp) _ rfl)
  | [d1, d2], _, h => exact nom2 (h 0 (by simp) _ rfl) (h 1 (by simp) _ rfl)
  | [d1, d2, d3], _, h => exact nom3 (h 0 (by simp) _ rfl) (h 1 (by simp) _ rfl) (h 2 (by simp) _ rfl)
  | [d1, d2, d3, d4], _, h => exact nom4 (h 0 (by simp) _ rfl) (h 1 (by simp) _ rfl) (h 2 (by simp) _ rfl) (h 3 (by simp) _ rfl)
  | [d1, d2, d3, d4, d5], _, h => exact nom5 (h 0 (by simp) _ rfl) (h 1 (by simp) _ rfl) (h 2 (by simp) _ rfl) (h 3 (by simp) _ rfl) (h 4 (by simp) _ rfl)
  | [d1, d2, d3, d4, d5, d6], _, h => exact nom6 (h 0 (by simp) _ rfl) (h 1 (by simp) _ rfl) (h 2 (by simp) _ rfl) (h 3 (by simp) _ rfl) (h 4 (by simp) _ rfl) (h 5 (by simp) _ rfl)
  | _ :: _ :: _ :: _ :: _ :: _ :: _ :: _, hl, _ => simp at hl

theorem known_nom {l : List Dm} (hl : l.length ≤ 6) (hb : ∀ d ∈ l, -1073741824 ≤ d.a ∧ d.a ≤ 1073741824) : Known 13 [LS l] (nomV l) := by
  have hD : Deep (fun O => ∀ i, i < l.length → ∀ d, l[i]? = some d → O.pure 16 [.int .i64 d.a] = some (ratV d.a)) := by
    refine Deep.all (Q := fun i O => ∀ d, l[i]? = some d → _) _ (fun i hi => ?_)
    have hd : l[i]? = some l[i] := List.getElem?_eq_getElem hi
    obtain ⟨m, hm⟩ := known_from (hb _ (List.getElem_mem hi))
    refine ⟨m, fun m' h' d e => ?_⟩
    rw [hd] at e
    cases e
    exact hm m' h'
  exact Known.of hD rfl (fun O hO => nom_run hl hO)
end Go.Proofs.YtigfgicjjhepoaaGreatDoor.VA

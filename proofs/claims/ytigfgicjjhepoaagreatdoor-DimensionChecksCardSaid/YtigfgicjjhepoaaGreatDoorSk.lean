/- Lists of dimensions: Find, Check. -/
import Derived.Test.YtigfgicjjhepoaaGreatDoorSg
set_option linter.unusedVariables false
set_option linter.unusedSimpArgs false
namespace Go.Proofs.YtigfgicjjhepoaaGreatDoor.VA
open Go Go.Proofs

structure Dm where
  s : ByteArray
  a : Int
  b : Int
  c : Int
def Dm.pv (d : Dm) : PV := D d.s d.a d.b d.c
def Dm.e (d : Dm) : Int := dimE d.s d.a d.b d.c
def LS (l : List Dm) : PV := .sl false (l.map Dm.pv)

/-- The address of an element. -/
theorem iAddr {l : List Dm} {k : Nat} {d : Dm} (h : l[k]? = some d) : (if 0 ≤ (k : Int) then match (l.map Dm.pv)[(k : Int).toNat]?, some 4 with
    | some v, some n => if v.cells.length = n ∧ 0 < n then some (PV.pp v.cells 0) else none
    | _, _ => none
    else none) = some (.pp d.pv.cells 0) := by
  rw [if_pos (Int.natCast_nonneg k), Int.toNat_natCast, List.getElem?_map, h]
  rfl

/-! ### IndexFunc -/
theorem eq_run (O : Orc) (d : Dm) (s : ByteArray) : evPure Pr pol O 50 29 [d.pv, .pp [.str s] 0] = some (.bool (decide (d.s = s))) :=
  evXPure_ok (fl := flg []) (tr := []) (ob := True) (by kernel_rfl) trivial

noncomputable def fB : Code := bodyOf Tryz.f28
noncomputable def fL : Code := inner (inner (seqR (seqL (seqR fB))))
noncomputable def fC : Ctx := ⟨Pr, pol, [], 28⟩
theorem fB_eq : Tryz.f28.body = some (.seq (seqL fB) (.seq (.seq (seqL (seqL (seqR fB))) (.block 0 (.loop fL))) (seqR (seqR fB)))) := by kernel_rfl

structure FSt (l : List Dm) (s : ByteArray) (k : Nat) (st : St) : Prop where
  t0 : st.tm 0 = LS l
  t1 : st.tm 1 = .fn 29 [] [.pp [.str s] 0]
  t7 : st.tm 7 = .int .i64 l.length
  t8 : st.tm 8 = .int .i64 k
def mkF (l : List Dm) (s : ByteArray) (k : Nat) (R : Nat → PV) (H : Heap) : St :=
  ⟨fun i => if i = 0 then LS l else if i = 1 then .fn 29 [] [.pp [.str s] 0] else if i = 7 then .int .i64 l.length else if i = 8 then .int .i64 k else R i, H⟩
theorem FSt.eq {l : List Dm} {s : ByteArray} {k : Nat} {st : St} (h : FSt l s k st) : st = mkF l s k st.tm st.hp := by
  obtain ⟨tm, hp⟩ := st
  obtain ⟨h0, h1, h2, h3⟩ := h
  simp only at h0 h1 h2 h3
  unfold mkF
  congr 1
  funext i
  split
  · rename_i e; rw [e, h0]
  · split
    · rename_i e; rw [e, h1]
    · split
      · rename_i e; rw [e, h2]
      · split
        · rename_i e; rw [e, h3]
        · rfl

theorem f_end {O : Orc} {l : List Dm} {s : ByteArray} {k : Nat} (R : Nat → PV) (H : Heap) (h : ¬ (k : Int) < l.length) : ∃ st', Ev fC O fL (mkF l s k R H) (.exit 0) st' := by
  obtain ⟨ex, st', ob, hp, hev⟩ := Ev.of_X (c := fC) (O := O) (fl := flg [(2, 0, .bit)]) (n := 50) (code := fL) (st := mkF l s k R H) (tr := [.bit false])
    (fun ex st ob => (ex, ob)) (y := (Ex.exit 0, decide ((k : Int) < l.length) = false ∧ True)) (by kernel_rfl)
  simp only [Prod.mk.injEq] at hp
  obtain ⟨rfl, rfl⟩ := hp
  exact ⟨st', hev ⟨by simpa using h, trivial⟩⟩

theorem f_no {O : Orc} (hO : ∀ (d : Dm) s, O.pure 29 [d.pv, .pp [.str s] 0] = some (.bool (decide (d.s = s)))) {l : List Dm} {s : ByteArray} {k : Nat} {d : Dm} (R : Nat → PV) (H : Heap) (h : l[k]? = some d) (hk : k < 2 ^ 62) (hd : d.s ≠ s) :
    ∃ st', Ev fC O fL (mkF l s k R H) .normal st' ∧ FSt l s (k + 1) st' := by
  have hlt : k < l.length := (List.getElem?_eq_some_iff.1 h).1
  obtain ⟨ex, st', ob, hp, hev⟩ := Ev.of_X (c := fC) (O := O) (fl := flg [(2, 0, .bit), (4, 3, .val), (4, 5, .call)]) (n := 50) (code := fL) (st := mkF l s k R H) (tr := [.bit true, .val (.pp d.pv.cells 0), .val (.bool false)])
    (fun ex st ob => (ex, st.tm 0, st.tm 1, st.tm 7, st.tm 8, ob)) (y := (Ex.normal, LS l, PV.fn 29 [] [.pp [.str s] 0], PV.int .i64 l.length, PV.int .i64 (IntKind.i64.wrap ((k : Int) + 1)),
      O.pure 29 [d.pv, .pp [.str s] 0] = some (.bool false) ∧ (if 0 ≤ (k : Int) then match (l.map Dm.pv)[(k : Int).toNat]?, some 4 with
        | some v, some n => if v.cells.length = n ∧ 0 < n then some (PV.pp v.cells 0) else none
        | _, _ => none
        else none) = some (.pp d.pv.cells 0) ∧ decide ((k : Int) < l.length) = true ∧ True)) (by kernel_rfl)
  simp only [Prod.mk.injEq] at hp
  obtain ⟨rfl, h0, h1, h2, h3, rfl⟩ := hp
  exact ⟨st', hev ⟨by rw [hO, decide_eq_false hd], iAddr h, by simp [hlt], trivial⟩, h0, h1, h2, by rw [h3, wrap_nat hk]⟩

theorem f_yes {O : Orc} (hO : ∀ (d : Dm) s, O.pure 29 [d.pv, .pp [.str s] 0] = some (.bool (decide (d.s = s)))) {l : List Dm} {s : ByteArray} {k : Nat} {d : Dm} (R : Nat → PV) (H : Heap) (h : l[k]? = some d) (hd : d.s = s) :
    ∃ st', Ev fC O fL (mkF l s k R H) .ret st' ∧ st'.tm 4 = .int .i64 k := by
  have hlt : k < l.length := (List.getElem?_eq_some_iff.1 h).1
  obtain ⟨ex, st', ob, hp, hev⟩ := Ev.of_X (c := fC) (O := O) (fl := flg [(2, 0, .bit), (4, 3, .val), (4, 5, .call)]) (n := 50) (code := fL) (st := mkF l s k R H) (tr := [.bit true, .val (.pp d.pv.cells 0), .val (.bool true)])
    (fun ex st ob => (ex, st.tm 4, ob)) (y := (Ex.ret, PV.int .i64 k,
      O.pure 29 [d.pv, .pp [.str s] 0] = some (.bool true) ∧ (if 0 ≤ (k : Int) then match (l.map Dm.pv)[(k : Int).toNat]?, some 4 with
        | some v, some n => if v.cells.length = n ∧ 0 < n then some (PV.pp v.cells 0) else none
        | _, _ => none
        else none) = some (.pp d.pv.cells 0) ∧ decide ((k : Int) < l.length) = true ∧ True)) (by kernel_rfl)
  simp only [Prod.mk.injEq] at hp
  obtain ⟨rfl, h0, rfl⟩ := hp
  exact ⟨st', hev ⟨by rw [hO, decide_eq_true hd], iAddr h, by simp [hlt], trivial⟩, h0⟩

/-- The first place from k on whose name is s; -1: none. -/
def idxN (s : ByteArray) : List Dm → Nat → Int
  | [], _ => -1
  | d :: l, k => if d.s = s then k else idxN s l (k + 1)

theorem f_loop {O : Orc} (hO : ∀ (d : Dm) s, O.pure 29 [d.pv, .pp [.str s] 0] = some (.bool (decide (d.s = s)))) {l : List Dm} {s : ByteArray} (hl : l.length < 2 ^ 62) : ∀ (r : List Dm) (k : Nat), l.drop k = r → ∀ {st : St}, FSt l s k st →
    (idxN s r k = -1 ∧ ∃ st', Ev fC O (.loop fL) st (.exit 0) st') ∨ (∃ st', Ev fC O (.loop fL) st .ret st' ∧ st'.tm 4 = .int .i64 (idxN s r k))
  | [], k, hk, st, h => by
    have : l.length ≤ k := by simpa using hk
    rw [h.eq]
    obtain ⟨st', e⟩ := f_end (O := O) (l := l) (s := s) (k := k) st.tm st.hp (by omega)
    exact .inl ⟨rfl, st', e.loop_stop (by intro q; cases q)⟩
  | d :: r, k, hk, st, h => by
    have hd : l[k]? = some d := by
      have := congrArg (fun x => x[0]?) hk
      simpa using this
    have hr : l.drop (k + 1) = r := by
      have := congrArg (fun x => x.drop 1) hk
      simpa using this
    have hlt : k < l.length := (List.getElem?_eq_some_iff.1 hd).1
    by_cases e : d.s = s
    · obtain ⟨st', ev, h4⟩ := f_yes hO st.tm st.hp hd e
      rw [← h.eq] at ev
      have : idxN s (d :: r) k = k := by simp only [idxN, e, if_true]
      rw [this]
      exact .inr ⟨st', ev.loop_stop (by intro q; cases q), h4⟩
    · obtain ⟨st1, ev, h1⟩ := f_no hO st.tm st.hp hd (by omega) e
      rw [← h.eq] at ev
      have : idxN s (d :: r) k = idxN s r (k + 1) := by simp only [idxN, e, if_false]
      rw [this]
      rcases f_loop hO hl r (k + 1) hr h1 with ⟨g, st', e'⟩ | ⟨st', e', h'⟩
      · exact .inl ⟨g, st', ev.loop e'⟩
      · exact .inr ⟨st', ev.loop e', h'⟩

theorem index_run {O : Orc} (hO : ∀ (d : Dm) s, O.pure 29 [d.pv, .pp [.str s] 0] = some (.bool (decide (d.s = s)))) (l : List Dm) (s : ByteArray) (hl : l.length < 2 ^ 62) (hpers : PV.persL [LS l] = true) :
    Runs Pr pol O 28 [LS l, .fn 29 [] [.pp [.str s] 0]] (.int .i64 (idxN s l 0)) := by
  obtain ⟨ex1, st1, ob1, hp1, hev1⟩ := Ev.of_X (c := fC) (O := O) (fl := flg []) (n := 50) (code := seqL fB) (st := startSt [LS l, .fn 29 [] [.pp [.str s] 0]] Heap.empty) (tr := [])
    (fun ex st ob => (ex, st.tm 0, st.tm 1, ob)) (y := (Ex.normal, LS l, PV.fn 29 [] [.pp [.str s] 0], True)) (by kernel_rfl)
  simp only [Prod.mk.injEq] at hp1
  obtain ⟨rfl, a0, a1, rfl⟩ := hp1
  have hst1 : st1 = ⟨fun i => if i = 0 then LS l else if i = 1 then .fn 29 [] [.pp [.str s] 0] else st1.tm i, st1.hp⟩ := by
    obtain ⟨tm, hp⟩ := st1
    simp only at a0 a1
    congr 1
    funext i
    split
    · rename_i e; rw [e, a0]
    · split
      · rename_i e; rw [e, a1]
      · rfl
  obtain ⟨ex2, st2, ob2, hp2, hev2⟩ := Ev.of_X (c := fC) (O := O) (fl := flg [(1, 1, .val)]) (n := 50) (code := seqL (seqL (seqR fB))) (st := ⟨fun i => if i = 0 then LS l else if i = 1 then .fn 29 [] [.pp [.str s] 0] else st1.tm i, st1.hp⟩) (tr := [.val (.int .i64 l.length)])
    (fun ex st ob => (ex, st.tm 0, st.tm 1, st.tm 7, st.tm 8, ob)) (y := (Ex.normal, LS l, PV.fn 29 [] [.pp [.str s] 0], PV.int .i64 l.length, PV.int .i64 0, some (PV.int .i64 (l.map Dm.pv).length) = some (.int .i64 l.length) ∧ True)) (by kernel_rfl)
  rw [← hst1] at hev2
  simp only [Prod.mk.injEq] at hp2
  obtain ⟨rfl, b0, b1, b2, b3, rfl⟩ := hp2
  have hob : some (PV.int .i64 ((l.map Dm.pv).length : Int)) = some (.int .i64 (l.length : Int)) ∧ True := by rw [List.length_map]; exact ⟨rfl, trivial⟩
  have hdr : ∀ (H : Heap) (n : Int), (dr H 12 (.int .i64 n)).map (·.1) = some (.int .i64 n) := fun H n => rfl
  have hpl : PV.persL [LS l, .fn 29 [] [.pp [.str s] 0]] = true := by
    simp only [PV.persL, Bool.and_true] at hpers ⊢
    rw [hpers]; rfl
  rcases f_loop hO hl l 0 rfl ⟨b0, b1, b2, b3⟩ with ⟨g, st3, e3⟩ | ⟨st3, e3, h4⟩
  · have e4 : Ev fC O (.seq (seqL (seqL (seqR fB))) (.block 0 (.loop fL))) st1 .normal st3 := (hev2 hob).seq e3.block
    obtain ⟨ex5, st5, ob5, hp5, hev5⟩ := Ev.of_X (c := fC) (O := O) (fl := flg []) (n := 50) (code := seqR (seqR fB)) (st := st3) (tr := [])
      (fun ex st ob => (ex, st.tm 4, ob)) (y := (Ex.ret, PV.int .i64 (-1), True)) (by kernel_rfl)
    simp only [Prod.mk.injEq] at hp5
    obtain ⟨rfl, c2, rfl⟩ := hp5
    rw [g]
    refine Runs.of_Ev (st := st5) (r' := .int .i64 (-1)) Tryz.func28 fB_eq hpl (by rw [Tryz.ntmps28]; exact Nat.le_of_ble_eq_true rfl) rfl ((hev1 trivial).seq (e4.seq (hev5 trivial))) (.inr rfl) ?_ (hdr _ _)
    show some (st5.tm 4) = _
    rw [c2]
  · have e4 : Ev fC O (.seq (seqL (seqL (seqR fB))) (.block 0 (.loop fL))) st1 .ret st3 := (hev2 hob).seq e3.block_ret
    refine Runs.of_Ev (st := st3) (r' := .int .i64 (idxN s l 0)) Tryz.func28 fB_eq hpl (by rw [Tryz.ntmps28]; exact Nat.le_of_ble_eq_true rfl) rfl ((hev1 trivial).seq (e4.seq_stop (by intro q; cases q))) (.inr rfl) ?_ (hdr _ _)
    show some (st3.tm 4) = _
    rw [h4]

theorem persD : ∀ l : List Dm, PV.persL (l.map Dm.pv) = true
  | [] => rfl
  | d :: l => by
    simp only [List.map_cons, PV.persL, Bool.and_eq_true]
    exact ⟨rfl, persD l⟩
theorem persLS (l : List Dm) : PV.persL [LS l] = true := by
  simp only [LS, PV.persL, PV.pers, persD, Bool.and_self]

def findV (l : List Dm) (s : ByteArray) : PV := .tup [.int .i64 (if 0 > idxN s l 0 then 0 else idxN s l 0), .bool (decide (0 ≤ idxN s l 0))]
theorem find_run {O : Orc} {l : List Dm} {s : ByteArray} (h : O.pure 28 [LS l, .fn 29 [] [.pp [.str s] 0]] = some (.int .i64 (idxN s l 0))) :
    Runs Pr pol O 10 [LS l, .str s] (findV l s) := by
  have hp : PV.persL [LS l, .str s] = true := by
    have := persLS l
    simp only [PV.persL, Bool.and_true] at this ⊢
    rw [this]; rfl
  have hd : drL (Heap.empty.alloc [] 3 (.row 1 [.str s] false)) 12 [LS l, .fn 29 [] [.ptr ([], 3, 0) 1 0 0]] = some ([LS l, .fn 29 [] [.pp [.str s] 0]], [([], 3, 0)]) := by
    have hL : (LS l).pers = true := by have := persLS l; simpa [PV.persL] using this
    unfold drL
    rw [if_neg (by simp [PV.persL, PV.pers])]
    simp only
    have h1 : dr (Heap.empty.alloc [] 3 (.row 1 [.str s] false)) 11 (LS l) = some (LS l, []) := by unfold dr; rw [if_pos hL]
    have h2 : drL (Heap.empty.alloc [] 3 (.row 1 [.str s] false)) 11 [.fn 29 [] [.ptr ([], 3, 0) 1 0 0]] = some ([.fn 29 [] [.pp [.str s] 0]], [([], 3, 0)]) := rfl
    rw [h1, h2]
    rfl
  exact Runs.of_XB (n := 50) (fl := flg [(1, 2, .res)]) (tr := [.res [LS l, .fn 29 [] [.pp [.str s] 0]] [([], 3, 0)] (.int .i64 (idxN s l 0))]) hp
    (ob := drL (Heap.empty.alloc [] 3 (.row 1 [.str s] false)) 12 [LS l, .fn 29 [] [.ptr ([], 3, 0) 1 0 0]] = some ([LS l, .fn 29 [] [.pp [.str s] 0]], [([], 3, 0)]) ∧
      O.pure 28 [LS l, .fn 29 [] [.pp [.str s] 0]] = some (.int .i64 (idxN s l 0)) ∧ True) (by kernel_rfl) ⟨hd, h, trivial⟩

theorem known_find (l : List Dm) (s : ByteArray) (hl : l.length < 2 ^ 62) : Known 10 [LS l, .str s] (findV l s) := by
  have h0 : Deep (fun O => ∀ (d : Dm) s, O.pure 29 [d.pv, .pp [.str s] 0] = some (.bool (decide (d.s = s)))) := by
    refine ⟨51, fun m' h' d s => ?_⟩
    obtain ⟨k, rfl⟩ : ∃ k, m' = k + 1 := ⟨m' - 1, by omega⟩
    exact orc_pure rfl (evPure_mono (eq_run _ d s) (by omega))
  have h1 : Known 28 [LS l, .fn 29 [] [.pp [.str s] 0]] (.int .i64 (idxN s l 0)) := Known.of h0 rfl (fun O hO => index_run hO l s hl (persLS l))
  exact Known.of h1.deep rfl (fun O hO => find_run hO)

/-! ### Check -/
noncomputable def kB : Code := bodyOf Tryz.f9
noncomputable def kL : Code := inner (inner (seqR (seqL (seqR (seqR kB)))))
noncomputable def kC : Ctx := ⟨Pr, pol, [], 9⟩
theorem kB_eq : Tryz.f9.body = some (.seq (seqL kB) (.seq (seqL (seqR kB)) (.seq (.seq (seqL (seqL (seqR (seqR kB)))) (.block 0 (.loop kL))) (seqR (seqR (seqR kB)))))) := by kernel_rfl

structure KSt (l : List Dm) (k : Nat) (st : St) : Prop where
  t0 : st.tm 0 = LS l
  t10 : st.tm 10 = LS l
  t11 : st.tm 11 = .int .i64 l.length
  t12 : st.tm 12 = .int .i64 k
  ct : st.hp.cnt [] 4 = k
def mkK (l : List Dm) (k : Nat) (R : Nat → PV) (B : Key → Option Blk) (C : List Nat → Nat → Nat) : St :=
  ⟨fun i => if i = 0 then LS l else if i = 10 then LS l else if i = 11 then .int .i64 l.length else if i = 12 then .int .i64 k else R i, ⟨B, fun p d => if p = [] ∧ d = 4 then k else C p d⟩⟩
theorem KSt.eq {l : List Dm} {k : Nat} {st : St} (h : KSt l k st) : st = mkK l k st.tm st.hp.blk st.hp.cnt := by
  obtain ⟨tm, ⟨blk, ct⟩⟩ := st
  obtain ⟨h0, h1, h2, h3, h4⟩ := h
  simp only at h0 h1 h2 h3 h4
  unfold mkK
  congr 1
  · funext i
    split
    · rename_i e; rw [e, h0]
    · split
      · rename_i e; rw [e, h1]
      · split
        · rename_i e; rw [e, h2]
        · split
          · rename_i e; rw [e, h3]
          · rfl
  · congr 1
    funext p d
    split
    · rename_i e; obtain ⟨rfl, rfl⟩ := e; rw [h4]
    · rfl

theorem k_end {O : Orc} {l : List Dm} {k : Nat} (R : Nat → PV) (B : Key → Option Blk) (C : List Nat → Nat → Nat) (h : ¬ (k : Int) < l.length) : ∃ st', Ev kC O kL (mkK l k R B C) (.exit 0) st' := by
  obtain ⟨ex, st', ob, hp, hev⟩ := Ev.of_X (c := kC) (O := O) (fl := flg [(4, 0, .bit)]) (n := 50) (code := kL) (st := mkK l k R B C) (tr := [.bit false])
    (fun ex st ob => (ex, ob)) (y := (Ex.exit 0, decide ((k : Int) < l.length) = false ∧ True)) (by kernel_rfl)
  simp only [Prod.mk.injEq] at hp
  obtain ⟨rfl, rfl⟩ := hp
  exact ⟨st', hev ⟨by simpa using h, trivial⟩⟩
end Go.Proofs.YtigfgicjjhepoaaGreatDoor.VA

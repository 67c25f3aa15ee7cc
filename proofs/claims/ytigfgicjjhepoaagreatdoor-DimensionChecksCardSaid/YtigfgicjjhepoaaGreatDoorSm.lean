/- Check over lists of at most six. -/
import Derived.Test.YtigfgicjjhepoaaGreatDoorSl
set_option linter.unusedVariables false
set_option linter.unusedSimpArgs false
namespace Go.Proofs.YtigfgicjjhepoaaGreatDoor.VA
open Go Go.Proofs

theorem Ev.seq_inv {c : Ctx} {O : Orc} {a b : Code} {st st1 : St} (h : Ev c O (.seq a b) st .normal st1) : ∃ s, Ev c O a st .normal s ∧ Ev c O b s .normal st1 := by
  obtain ⟨n, hn⟩ := h
  cases n with
  | zero => simp [evCode] at hn
  | succ n =>
    simp only [evCode] at hn
    split at hn
    · rename_i s hs
      exact ⟨s, ⟨n, hs⟩, ⟨n, hn⟩⟩
    · rename_i hne
      exact absurd hn (hne st1)

def chkE (l : List Dm) : List Dm → Nat → Int
  | [], _ => 0
  | d :: r, k => if errAt l k d = 0 then chkE l r (k + 1) else errAt l k d

theorem k_step {O : Orc} {l : List Dm} {d : Dm} {k : Nat} (hk : k < 6) (h : l[k]? = some d) (hQ : QK l O) {st : St} (hs : KSt l k st) :
    (errAt l k d = 0 ∧ ∃ st', Ev kC O kL st .normal st' ∧ KSt l (k + 1) st') ∨ (errAt l k d ≠ 0 ∧ ∃ st', Ev kC O kL st .ret st' ∧ st'.tm 2 = .int .i64 (errAt l k d)) := by
  have hlt : k < l.length := (List.getElem?_eq_some_iff.1 h).1
  obtain ⟨⟨hn, hf⟩, ⟨ha, hb⟩, hc⟩ := hQ k hlt d h
  rw [hs.eq]
  unfold findV at hf
  unfold errAt Dm.e dimE
  cases h1 : nameB d.s with
  | false =>
    rw [h1] at hn
    exact .inr ⟨by simp, by simpa using k_name st.tm st.hp.blk st.hp.cnt hk h hn⟩
  | true =>
    rw [h1] at hn
    cases h2 : farB d.a with
    | true => rw [h2] at ha; exact .inr ⟨by simp, by simpa using k_far1 st.tm st.hp.blk st.hp.cnt hk h hn ha⟩
    | false =>
      rw [h2] at ha
      cases h3 : farB d.b with
      | true => rw [h3] at hb; exact .inr ⟨by simp, by simpa using k_far2 st.tm st.hp.blk st.hp.cnt hk h hn ha hb⟩
      | false =>
        rw [h3] at hb
        cases h4 : farB d.c with
        | true => rw [h4] at hc; exact .inr ⟨by simp, by simpa using k_far3 st.tm st.hp.blk st.hp.cnt hk h hn ha hb hc⟩
        | false =>
          rw [h4] at hc
          cases h5 : decide (d.c < d.b) with
          | true => exact .inr ⟨by simp, by simpa using k_order st.tm st.hp.blk st.hp.cnt hk h hn ha hb hc h5⟩
          | false =>
            cases h6 : decide (0 ≤ idxN d.s (l.take k) 0) with
            | true =>
              rw [h6] at hf
              have h6' : 0 ≤ idxN d.s (l.take k) 0 := of_decide_eq_true h6
              exact .inr ⟨by simp [h6'], by simpa [h6'] using k_dup st.tm st.hp.blk st.hp.cnt hk h hn ha hb hc h5 hf⟩
            | false =>
              rw [h6] at hf
              have h6' : ¬ 0 ≤ idxN d.s (l.take k) 0 := of_decide_eq_false h6
              exact .inl ⟨by simp [h6'], k_go st.tm st.hp.blk st.hp.cnt hk h hn ha hb hc h5 hf⟩

theorem k_loop {O : Orc} {l : List Dm} (hl : l.length ≤ 6) (hQ : QK l O) : ∀ (r : List Dm) (k : Nat), l.drop k = r → ∀ {st : St}, KSt l k st →
    (chkE l r k = 0 ∧ ∃ st', Ev kC O (.loop kL) st (.exit 0) st') ∨ (∃ st', Ev kC O (.loop kL) st .ret st' ∧ st'.tm 2 = .int .i64 (chkE l r k))
  | [], k, hk, st, h => by
    have : l.length ≤ k := by simpa using hk
    rw [h.eq]
    obtain ⟨st', e⟩ := k_end (O := O) (l := l) (k := k) st.tm st.hp.blk st.hp.cnt (by omega)
    exact .inl ⟨rfl, st', e.loop_stop (by intro q; cases q)⟩
  | d :: r, k, hk, st, h => by
    have hd : l[k]? = some d := by
      have := congrArg (fun x => x[0]?) hk
      simpa using this
    have hr : l.drop (k + 1) = r := by
      have := congrArg (fun x => x.drop 1) hk
      simpa using this
    have hlt : k < l.length := (List.getElem?_eq_some_iff.1 hd).1
    rcases k_step (by omega) hd hQ h with ⟨g, st1, ev, h1⟩ | ⟨g, st1, ev, h2⟩
    · have : chkE l (d :: r) k = chkE l r (k + 1) := by simp only [chkE, g, if_true]
      rw [this]
      rcases k_loop hl hQ r (k + 1) hr h1 with ⟨g', st', e'⟩ | ⟨st', e', h'⟩
      · exact .inl ⟨g', st', ev.loop e'⟩
      · exact .inr ⟨st', ev.loop e', h'⟩
    · have : chkE l (d :: r) k = errAt l k d := by simp only [chkE, g, if_false]
      rw [this]
      exact .inr ⟨st1, ev.loop_stop (by intro q; cases q), h2⟩

/-- The length of a list, as an equation of the evaluator. -/
theorem lenE (l : List Dm) : some (PV.int .i64 ((l.map Dm.pv).length : Int)) = some (.int .i64 (l.length : Int)) := by rw [List.length_map]

theorem check_run {O : Orc} {l : List Dm} (hl : l.length ≤ 6) (hQ : QK l O) : Runs Pr pol O 9 [LS l] (.int .i64 (chkE l l 0)) := by
  obtain ⟨ex1, st1, ob1, hp1, hev1⟩ := Ev.of_X (c := kC) (O := O) (fl := flg [(1, 1, .val), (1, 2, .bit), (3, 1, .val)]) (n := 50) (code := .seq (seqL kB) (.seq (seqL (seqR kB)) (seqL (seqL (seqR (seqR kB)))))) (st := startSt [LS l] Heap.empty)
    (tr := [.val (.int .i64 l.length), .bit false, .val (.int .i64 l.length)])
    (fun ex st ob => (ex, st.tm 0, st.tm 10, st.tm 11, st.tm 12, st.hp.cnt [] 4, ob)) (y := (Ex.normal, LS l, LS l, PV.int .i64 l.length, PV.int .i64 ((0 : Nat) : Int), 0,
      some (PV.int .i64 ((l.map Dm.pv).length : Int)) = some (.int .i64 (l.length : Int)) ∧ decide (64 < (l.length : Int)) = false ∧ some (PV.int .i64 ((l.map Dm.pv).length : Int)) = some (.int .i64 (l.length : Int)) ∧ True)) (by kernel_rfl)
  simp only [Prod.mk.injEq] at hp1
  obtain ⟨rfl, a0, a10, a11, a12, ac, rfl⟩ := hp1
  have hpre := hev1 ⟨lenE l, decide_eq_false (by omega), lenE l, trivial⟩
  obtain ⟨s1, e1, e2⟩ := hpre.seq_inv
  obtain ⟨s2, e2, e3⟩ := e2.seq_inv
  have hdr : ∀ (H : Heap) (n : Int), (dr H 12 (.int .i64 n)).map (·.1) = some (.int .i64 n) := fun H n => rfl
  rcases k_loop hl hQ l 0 rfl ⟨a0, a10, a11, a12, ac⟩ with ⟨g, st3, e4⟩ | ⟨st3, e4, h2⟩
  · obtain ⟨ex5, st5, ob5, hp5, hev5⟩ := Ev.of_X (c := kC) (O := O) (fl := flg []) (n := 50) (code := seqR (seqR (seqR kB))) (st := st3) (tr := [])
      (fun ex st ob => (ex, st.tm 2, ob)) (y := (Ex.ret, PV.int .i64 0, True)) (by kernel_rfl)
    simp only [Prod.mk.injEq] at hp5
    obtain ⟨rfl, c2, rfl⟩ := hp5
    rw [g]
    refine Runs.of_Ev (st := st5) (r' := .int .i64 0) Tryz.func9 kB_eq (persLS l) (by rw [Tryz.ntmps9]; exact Nat.le_of_ble_eq_true rfl) rfl (e1.seq (e2.seq ((e3.seq e4.block).seq (hev5 trivial)))) (.inr rfl) ?_ (hdr _ _)
    show some (st5.tm 2) = _
    rw [c2]
  · refine Runs.of_Ev (st := st3) (r' := .int .i64 (chkE l l 0)) Tryz.func9 kB_eq (persLS l) (by rw [Tryz.ntmps9]; exact Nat.le_of_ble_eq_true rfl) rfl (e1.seq (e2.seq ((e3.seq e4.block_ret).seq_stop (by intro q; cases q)))) (.inr rfl) ?_ (hdr _ _)
    show some (st3.tm 2) = _
    rw [h2]

theorem known_check (l : List Dm) (hl : l.length ≤ 6) : Known 9 [LS l] (.int .i64 (chkE l l 0)) := Known.of (deepQK l (by omega)) rfl (fun O hO => check_run hl hO)

/-- Too many. -/
theorem check_many (O : Orc) (l : List PV) (hp : PV.persL [.sl false l] = true) (hl : 64 < (l.length : Int)) : Runs Pr pol O 9 [.sl false l] (.int .i64 6) :=
  Runs.of_XB (n := 50) (fl := flg [(1, 2, .bit)]) (tr := [.bit true]) hp (ob := decide (64 < (l.length : Int)) = true ∧ True) (by kernel_rfl) ⟨decide_eq_true hl, trivial⟩
def zeroD : PV := D .empty 0 0 0
theorem known_many : Known 9 [.sl false (List.replicate 65 zeroD)] (.int .i64 6) :=
  Known.of Deep.triv rfl (fun O _ => check_many O _ (by kernel_rfl) (by rw [List.length_replicate]; decide))
end Go.Proofs.YtigfgicjjhepoaaGreatDoor.VA

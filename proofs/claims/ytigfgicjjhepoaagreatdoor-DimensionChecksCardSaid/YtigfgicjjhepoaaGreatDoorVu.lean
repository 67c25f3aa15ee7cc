/- The exchange of two steps. -/
import Derived.Test.YtigfgicjjhepoaaGreatDoorVt
set_option linter.unusedVariables false
set_option linter.unusedSimpArgs false
namespace Go.Proofs.YtigfgicjjhepoaaGreatDoor.VA
open Go Go.RowKit

/-- What a state must be for an exchange: no key that is not yet laid occurs. -/
structure Fit (c : Ctx) (B : Key → Prop) (st : St) : Prop where
  ops : ∀ y, Bd B (opv c.pol.glob st.tm y)
  rows : ∀ k sz els fz, B k → st.hp.blk k = some (.row sz els fz) → ∀ e ∈ els, Bd B e
  fresh : ∀ d n, st.hp.cnt c.path d ≤ n → ¬ B (c.path, d, n) ∧ st.hp.blk (c.path, d, n) = none

/-- A fact of an effect, at a heap. -/
def EffOk (H : Heap) (d : Option Nat) : Eff → Prop
  | .keep => True
  | .lay e _ => d = some e
  | .frz ks => ∀ k ∈ ks, H.blk k ≠ none

section
variable {c : Ctx} {O : Orc} {ops : Array Oper} {B : Key → Prop} {st : St}

theorem Fit.agree (h : Fit c B st) (e : Eff) : ∀ k, B k → SameB (st.hp.blk k) ((e.app c.path st.hp).blk k) := by
  intro k hk
  cases e with
  | keep => exact .inl rfl
  | lay d b =>
    left
    simp only [Eff.app, Heap.alloc]
    rw [if_neg (fun e => (h.fresh d (st.hp.cnt c.path d) (Nat.le_refl _)).1 (by rw [e] at hk; exact hk))]
  | frz ks =>
    simp only [Eff.app, Heap.freeze]
    cases hb : st.hp.blk k with
    | none => exact .inl rfl
    | some x =>
      cases x with
      | row sz els fz => exact .inr ⟨sz, els, _, _, rfl, rfl⟩
      | map d es => exact .inl rfl
      | iter s p => exact .inl rfl
      | loop => exact .inl rfl

theorem callee_bd {op : Op} {ρ : Operand → PV} (h : ∀ y, Bd B (ρ y)) {f : FuncId} {as : List PV} (hc : callee op ρ = some (f, as)) : ∀ y ∈ as, Bd B y := by
  cases op with
  | call k =>
    obtain ⟨cal, args, ats⟩ := k
    cases cal with
    | value g =>
      simp only [callee] at hc
      have hg := h g
      split at hc
      · rename_i f' first cap hf
        simp only [Option.some.injEq, Prod.mk.injEq] at hc
        obtain ⟨rfl, rfl⟩ := hc
        rw [hf] at hg
        cases hg with
        | fn _ _ _ h1 h2 =>
          intro y hy
          simp only [List.mem_append, List.mem_map] at hy
          rcases hy with (hy | ⟨x, _, rfl⟩) | hy
          · exact h1 y hy
          · exact h x
          · exact h2 y hy
      · cases hc
    | builtin b => simp [callee] at hc
    | invoke r n => simp [callee] at hc
  | _ => simp [callee] at hc

theorem cnt_app {p : List Nat} {d : Nat} {e : Eff} (H : Heap) (h : ∀ b, e ≠ .lay d b) : (e.app p H).cnt p d = H.cnt p d := by
  cases e with
  | keep => rfl
  | lay d' b =>
    simp only [Eff.app, Heap.alloc]
    rw [if_neg (fun e => h b (by rw [e.2]))]
  | frz ks => rfl

theorem Fit.after (h : Fit c B st) {i : Nat} (e : Eff) (he : ∀ d b, e = .lay d b → dstOf ops i ≠ some d) : stepE c O ops i st.tm (e.app c.path st.hp) = stepE c O ops i st.tm st.hp := by
  unfold stepE
  unfold dstOf at he
  cases ho : ops[i]? with
  | none => rfl
  | some o =>
    simp only [ho, Option.bind_some] at he ⊢
    rw [wantedV_congr (tm := st.tm) (tm' := st.tm) (H := e.app c.path st.hp) (H' := st.hp) (fun _ _ _ _ _ => rfl)]
    cases wantedV ops o ⟨st.tm, st.hp⟩ with
    | none => rfl
    | some b =>
      cases b with
      | false => rfl
      | true =>
        simp only [evEff]
        have hV := stepV_agree (c := c) (op := o.op) (h.agree e) h.rows h.ops
        split
        · rw [hV]
        · rw [hV]
        · cases hd : o.dst with
          | none => rfl
          | some d =>
            simp only [Heap.next]
            rw [cnt_app st.hp (fun b hb => he d b hb hd)]
        · split
          · rename_i f as hc
            rw [stepC_agree (h.agree e) h.rows (callee_bd h.ops hc)]
          · rfl
        · rfl

theorem stepE_ok {i : Nat} {tm : Nat → PV} {H : Heap} {v : PV} {e : Eff} (h : stepE c O ops i tm H = some (v, e)) : EffOk H (dstOf ops i) e := by
  unfold stepE at h
  unfold dstOf
  cases ho : ops[i]? with
  | none => simp [ho] at h
  | some o =>
    simp only [ho, Option.bind_some] at h ⊢
    split at h
    · cases h
    · unfold evEff at h
      split at h
      · simp only [Option.map_eq_some_iff, Prod.mk.injEq] at h; obtain ⟨_, _, _, rfl⟩ := h; trivial
      · simp only [Option.map_eq_some_iff, Prod.mk.injEq] at h; obtain ⟨_, _, _, rfl⟩ := h; trivial
      · split at h
        · rename_i d hd
          simp only [Option.map_eq_some_iff, Prod.mk.injEq] at h
          obtain ⟨_, _, _, rfl⟩ := h
          exact hd
        · cases h
      · split at h
        · rename_i f as hc
          simp only [Option.map_eq_some_iff, Prod.mk.injEq] at h
          obtain ⟨r, hr, _, rfl⟩ := h
          unfold stepC at hr
          split at hr
          · cases hr
          · rename_i as' ks hd
            split at hr
            · cases hr
            · simp only [Option.map_eq_some_iff] at hr
              obtain ⟨x, _, rfl⟩ := hr
              intro k hk
              dsimp only at hk
              split at hk
              · cases hk
              · exact (dr_keys 12).2 _ _ _ hd k hk
        · cases h
      · cases h
    · simp at h
      rw [← h.2]; trivial

theorem Fit.comm (h : Fit c B st) {e1 e2 : Eff} {d1 d2 : Option Nat} (h1 : EffOk st.hp d1 e1) (h2 : EffOk st.hp d2 e2) (hd : ∀ d, d1 = some d → d2 ≠ some d) : e1.app c.path (e2.app c.path st.hp) = e2.app c.path (e1.app c.path st.hp) := by
  have fr : ∀ d, st.hp.blk (st.hp.next c.path d) = none := fun d => (h.fresh d _ (Nat.le_refl _)).2
  have lf : ∀ d b ks, (∀ k ∈ ks, st.hp.blk k ≠ none) → (st.hp.freeze ks).alloc c.path d b = (st.hp.alloc c.path d b).freeze ks := fun d b ks hks => by
    have hn : st.hp.next c.path d ∉ ks := fun hm => hks _ hm (fr d)
    simp only [Heap.alloc, Heap.freeze, Heap.next, Heap.mk.injEq, and_true]
    funext j
    have hn' : (c.path, d, st.hp.cnt c.path d) ∉ ks := hn
    by_cases e : j = (c.path, d, st.hp.cnt c.path d)
    · subst e
      cases b <;> simp [hn']
    · simp [e]
  cases e1 with
  | keep => rfl
  | lay a b =>
    cases e2 with
    | keep => rfl
    | lay a' b' =>
      have hne : a ≠ a' := fun e => hd a h1 (by rw [e]; exact h2)
      simp only [Eff.app, Heap.alloc, Heap.next, Heap.mk.injEq]
      refine ⟨?_, ?_⟩
      · funext j
        simp only [hne, hne.symm, and_false, if_false]
        by_cases e : j = (c.path, a, st.hp.cnt c.path a)
        · have e' : j ≠ (c.path, a', st.hp.cnt c.path a') := fun e2 => hne (by rw [e] at e2; simpa using congrArg (·.2.1) e2)
          subst e
          simp [hne]
        · by_cases e' : j = (c.path, a', st.hp.cnt c.path a')
          · subst e'; simp [hne.symm]
          · simp [e, e']
      · funext q x
        by_cases e : q = c.path ∧ x = a
        · have e' : ¬ (q = c.path ∧ x = a') := fun e2 => hne (by rw [← e.2, e2.2])
          simp only [if_pos e, if_neg e']
        · simp only [if_neg e]
    | frz ks => exact lf a b ks h2
  | frz ks =>
    cases e2 with
    | keep => rfl
    | lay a b => exact (lf a b ks h1).symm
    | frz ks' =>
      simp only [Eff.app, Heap.freeze, Heap.mk.injEq, and_true]
      funext j
      cases st.hp.blk j with
      | none => rfl
      | some x =>
        cases x with
        | row sz els fz => simp only [Bool.or_assoc, Bool.or_comm (decide (j ∈ ks'))]
        | map d es => rfl
        | iter s p => rfl
        | loop => rfl

/-- Two places whose steps do not touch one another. -/
structure Apart (c : Ctx) (ops : Array Oper) (i j : Nat) : Prop where
  dst : ∀ d, dstOf ops i = some d → dstOf ops j ≠ some d
  rdi : ∀ d, dstOf ops j = some d → d ∉ rdOf ops i
  rdj : ∀ d, dstOf ops i = some d → d ∉ rdOf ops j
  cls : clsAt c ops i = .p ∨ clsAt c ops j = .p ∨ (clsAt c ops i ≠ .w ∧ clsAt c ops j ≠ .w)

theorem put_get {st : St} {d : Option Nat} {v : PV} {t : Nat} (h : ∀ e, d = some e → t ≠ e) : (st.put d v).tm t = st.tm t := by
  cases d with
  | none => rfl
  | some d => simp only [St.put]; rw [if_neg (h d rfl)]

theorem put_comm {tm : Nat → PV} {H H' G G' K : Heap} {d e : Option Nat} {v u : PV} (h : ∀ x, d = some x → e ≠ some x) :
    (St.put ⟨(St.put ⟨tm, H⟩ d v).tm, H'⟩ e u).tm = (St.put ⟨(St.put ⟨tm, G⟩ e u).tm, G'⟩ d v).tm := by
  cases d with
  | none => cases e <;> rfl
  | some d =>
    cases e with
    | none => rfl
    | some e =>
      have hne : d ≠ e := fun q => h d rfl (by rw [q])
      funext i
      simp only [St.put]
      by_cases a : i = e
      · rw [if_pos a, if_neg (fun q => hne (q.symm.trans a)), if_pos a]
      · rw [if_neg a]
        by_cases b : i = d
        · rw [if_pos b, if_pos b]
        · rw [if_neg b, if_neg b, if_neg a]

theorem swap (hF : Fit c B st) {i j : Nat} (ha : Apart c ops i j) {s1 s2 : St} (h1 : evStep c O true ops i st = some s1) (h2 : evStep c O true ops j s1 = some s2) :
    ∃ s, evStep c O true ops j st = some s ∧ evStep c O true ops i s = some s2 := by
  rw [evStep_eq, Option.map_eq_some_iff] at h1 h2
  obtain ⟨⟨vi, Hi⟩, h1, rfl⟩ := h1
  obtain ⟨⟨vj, Hij⟩, h2, rfl⟩ := h2
  dsimp only at h2
  have cj : ∀ (H : Heap), stepH c O ops j (st.put (dstOf ops i) vi).tm H = stepH c O ops j st.tm H := fun H => (stepH_congr (fun t ht => put_get (fun e he q => ha.rdj e he (q ▸ ht)))).1
  have ci : ∀ (u : PV) (H : Heap), stepH c O ops i (st.put (dstOf ops j) u).tm H = stepH c O ops i st.tm H := fun u H => (stepH_congr (fun t ht => put_get (fun e he q => ha.rdi e he (q ▸ ht)))).1
  rw [cj] at h2
  have fin : ∀ {G : Heap}, stepH c O ops j st.tm st.hp = some (vj, G) → stepH c O ops i st.tm G = some (vi, Hij) →
      ∃ s, evStep c O true ops j st = some s ∧ evStep c O true ops i s = some { tm := (St.put ⟨(st.put (dstOf ops i) vi).tm, Hi⟩ (dstOf ops j) vj).tm, hp := Hij } := fun {G} g1 g2 => by
    refine ⟨{ tm := (st.put (dstOf ops j) vj).tm, hp := G }, by rw [evStep_eq, g1]; rfl, ?_⟩
    rw [evStep_eq]
    dsimp only
    rw [ci, g2]
    simp only [Option.map_some, Option.some.injEq, St.mk.injEq, and_true]
    exact (put_comm (tm := st.tm) (H := st.hp) (K := st.hp) ha.dst).symm
  rcases ha.cls with hp | hp | ⟨hi, hj⟩
  · -- i asks no heap
    have hw : clsAt c ops i ≠ .w := by rw [hp]; simp
    rw [stepH_stepE hw, Option.map_eq_some_iff] at h1
    obtain ⟨⟨v, e⟩, h1, he⟩ := h1
    have hk := (stepE_p (H' := Hij) hp).2 v e h1
    subst hk
    simp only [Eff.app, Prod.mk.injEq] at he
    obtain ⟨rfl, rfl⟩ := he
    refine fin h2 ?_
    rw [stepH_stepE hw, ← (stepE_p (H := st.hp) (H' := Hij) hp).1, h1]
    rfl
  · have hw : clsAt c ops j ≠ .w := by rw [hp]; simp
    rw [stepH_stepE hw, Option.map_eq_some_iff] at h2
    obtain ⟨⟨v, e⟩, h2, he⟩ := h2
    have hk := (stepE_p (H' := Hij) hp).2 v e h2
    subst hk
    simp only [Eff.app, Prod.mk.injEq] at he
    obtain ⟨rfl, rfl⟩ := he
    refine fin (G := st.hp) ?_ h1
    rw [stepH_stepE hw, ← (stepE_p (H := Hi) (H' := st.hp) hp).1, h2]
    rfl
  · rw [stepH_stepE hi, Option.map_eq_some_iff] at h1
    obtain ⟨⟨v, ei⟩, h1, he⟩ := h1
    simp only [Prod.mk.injEq] at he
    obtain ⟨rfl, rfl⟩ := he
    rw [stepH_stepE hj, Option.map_eq_some_iff] at h2
    obtain ⟨⟨v', ej⟩, h2, he⟩ := h2
    simp only [Prod.mk.injEq] at he
    obtain ⟨rfl, rfl⟩ := he
    have oi := stepE_ok h1
    rw [hF.after ei (fun d b e => by subst e; exact ha.dst d oi)] at h2
    have oj := stepE_ok h2
    refine fin (G := ej.app c.path st.hp) (by rw [stepH_stepE hj, h2]; rfl) ?_
    rw [stepH_stepE hi, hF.after ej (fun d b e => by subst e; exact fun q => ha.dst d q oj), h1]
    simp only [Option.map_some, Option.some.injEq, Prod.mk.injEq, true_and]
    exact hF.comm oi oj ha.dst
end
end Go.Proofs.YtigfgicjjhepoaaGreatDoor.VA

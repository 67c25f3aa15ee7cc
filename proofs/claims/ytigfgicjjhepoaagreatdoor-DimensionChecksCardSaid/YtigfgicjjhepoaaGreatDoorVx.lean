/- Regions: operations in one order, and in another. -/
import Derived.Test.YtigfgicjjhepoaaGreatDoorVw
set_option linter.unusedVariables false
set_option linter.unusedSimpArgs false
namespace Go.Proofs.YtigfgicjjhepoaaGreatDoor.VA
open Go Go.RowKit
section
variable {ng base nt : Nat} {w0 : World} {Ext : Nat → Prop} {D : List Deferred} {ρ : Key → Option Nat} {st : St} {a : Act} {w w' : World} {H : Heap} {c : Ctx} {O : Orc}

/-- Where a region writes. -/
def Dsts (nt : Nat) (ops : Array Oper) : Prop := ∀ (i : Nat) (o : Oper), ops[i]? = some o → ∀ d, o.dst = some d → d < nt

theorem wanted_ok (h : Rel ng base nt w0 Ext D ρ st a w) {ops : Array Oper} {o : Oper} {b : Bool} (hw : wantedV ops o st = some b) : Region.wanted o (yielded ops a.tmps) = b := by
  unfold wantedV at hw
  unfold Region.wanted
  cases hg : o.guard with
  | none => simp [hg] at hw ⊢; exact hw
  | some q =>
    obtain ⟨j, t⟩ := q
    simp only [hg] at hw ⊢
    split at hw
    · rename_i d hd
      split at hw
      · rename_i x hx
        simp only [Option.some.injEq] at hw
        have hr := h.tmps d
        rw [hx] at hr
        have hv : a.tmps.getD d undef = .bool x := hr.bool_inv
        have : a.tmps[d]? = some (.bool x) := by
          rw [Array.getD_eq_getD_getElem?] at hv
          cases hq : a.tmps[d]? with
          | none => rw [hq] at hv; simp [undef] at hv
          | some v => rw [hq] at hv; simpa using hv
        unfold yielded
        rw [hd]
        simp only [Option.bind_some, this]
        rw [← hw]
        cases x <;> cases t <;> rfl
      · rename_i l hx
        simp only [Option.some.injEq] at hw
        subst hw
        have hr := h.tmps d
        rw [hx] at hr
        unfold yielded
        rw [hd]
        simp only [Option.bind_some]
        generalize hv : a.tmps.getD d undef = u at hr
        cases hr with
        | tup _ cs hl hc =>
          rw [Array.getD_eq_getD_getElem?] at hv
          cases hq : a.tmps[d]? with
          | none => rfl
          | some v =>
            rw [hq] at hv
            simp only [Option.getD_some] at hv
            subst hv
            rfl
      · cases hw
    · cases hw

theorem Went.trans {st1 st2 : St} {a1 a2 : Act} {w1 w2 : World} (h : Went ng base nt w0 Ext D ρ H w st1 a1 w1) (g : ∀ ρ1, Rel ng base nt w0 Ext D ρ1 st1 a1 w1 → Went ng base nt w0 Ext D ρ1 st1.hp w1 st2 a2 w2) :
    Went ng base nt w0 Ext D ρ H w st2 a2 w2 := by
  obtain ⟨ρ1, r1, e1⟩ := h.rel
  obtain ⟨ρ2, r2, e2⟩ := (g ρ1 r1).rel
  exact ⟨ρ2, r2, e1.trans e2⟩

theorem skip_ok (h : Rel ng base nt w0 Ext D ρ st a w) {d : Option Nat} (hd : ∀ i, d = some i → i < nt) : Went ng base nt w0 Ext D ρ st.hp w (st.put d (.tup [])) (a.put d undef) w := by
  refine ⟨ρ, h.put d hd rep_unit, ?_⟩
  have e : (st.put d (.tup [])).hp = st.hp := by cases d <;> rfl
  rw [e]
  exact Evo.refl _ _ _

/-- Operations in one order. -/
theorem evList_ok (hP : POk c.P c.pol) (hO : OrcOk c.P c.pol O) (hG : GOk c.pol ng w0) {draw : Bool} {ops : Array Oper} (hD : Dsts nt ops) {ro : Option Nat} {n : Nat} {Q : Exit → Act → World → Prop} {st' : St} :
    ∀ (l : List Nat) (st : St) (ρ : Key → Option Nat) (a : Act) (w : World), Rel ng base nt w0 Ext D ρ st a w → evList c O draw ops l st = some st' →
      (∀ a' w', Went ng base nt w0 Ext D ρ st.hp w st' a' w' → Q .normal a' w') → wpOpsIn (Fr ro) n c.P ops Q l a w
  | [], st, ρ, a, w, h, hs, hn => by
    simp only [evList, Option.some.injEq] at hs
    subst hs
    exact hn a w ⟨ρ, h, Evo.refl _ _ _⟩
  | i :: l, st, ρ, a, w, h, hs, hn => by
    simp only [evList, Option.bind_eq_some_iff] at hs
    obtain ⟨s1, h1, h2⟩ := hs
    unfold evStep at h1
    simp only [wpOpsIn]
    cases ho : ops[i]? with
    | none => simp [ho] at h1
    | some o =>
      simp only [ho] at h1 ⊢
      have go : ∀ a' w', Went ng base nt w0 Ext D ρ st.hp w s1 a' w' → wpOpsIn (Fr ro) n c.P ops Q l a' w' := fun a' w' hw => by
        obtain ⟨ρ1, r1, e1⟩ := hw.rel
        refine evList_ok hP hO hG hD l s1 ρ1 a' w' r1 h2 (fun a2 w2 h3 => hn a2 w2 ?_)
        obtain ⟨ρ2, r2, e2⟩ := h3.rel
        exact ⟨ρ2, r2, e1.trans e2⟩
      cases hw : wantedV ops o st with
      | none => simp [hw] at h1
      | some b =>
        rw [wanted_ok h hw]
        cases b with
        | true =>
          simp only [hw] at h1
          rw [if_pos rfl]
          exact evOp_ok hP hO hG h (hD i o ho) h1 go
        | false =>
          simp only [hw, Option.some.injEq] at h1
          subst h1
          rw [if_neg (by simp)]
          exact ⟨fun f _ => trivial, go _ _ (skip_ok h (hD i o ho))⟩

/-- What an operation leads to is there. -/
theorem wpIn_exists {ro : Option Nat} {n : Nat} {P : Program} {o : Oper} {next : Act → World → Prop} (h : o.wpIn (Fr ro) n P a w next (fun _ _ _ => False)) : ∃ a' w', next a' w' := by
  obtain ⟨_, h⟩ := h
  unfold Oper.uponIn at h
  split at h
  · exact ⟨_, _, h⟩
  · exact ⟨_, _, h⟩
  · exact ⟨_, _, h⟩
  · obtain ⟨_, _, h⟩ := h
    obtain ⟨e, w', fr, hR, _⟩ := h [] (fun d hd => by simp [Fr, Fence.wide] at hd)
    cases e with
    | returned v => exact ⟨_, _, hR⟩
    | panicked ch => exact hR.elim
    | outgrown => obtain ⟨_, _, hq⟩ := hR; exact hq.elim
  · obtain ⟨_, h⟩ := h
    obtain ⟨v, w', hR, _⟩ := h default [] (fun d hd => by simp [Fr, Fence.wide] at hd)
    exact ⟨_, _, hR⟩
  · obtain ⟨_, _, h⟩ := h
    obtain ⟨e, w', hR, _⟩ := h default [] (fun d hd => by simp [Fr, Fence.wide] at hd)
    cases e with
    | returned v => exact ⟨_, _, hR⟩
    | panicked ch => exact hR.elim
    | outgrown => obtain ⟨_, _, hq⟩ := hR; exact hq.elim
  · exact h.elim
  · exact h.elim

theorem evStep_exists (hP : POk c.P c.pol) (hO : OrcOk c.P c.pol O) (hG : GOk c.pol ng w0) {draw : Bool} {ops : Array Oper} (hD : Dsts nt ops) (h : Rel ng base nt w0 Ext D ρ st a w) {i : Nat} {s1 : St} (hs : evStep c O draw ops i st = some s1) :
    ∃ ρ' a' w', Rel ng base nt w0 Ext D ρ' s1 a' w' := by
  unfold evStep at hs
  cases ho : ops[i]? with
  | none => simp [ho] at hs
  | some o =>
    simp only [ho] at hs
    cases hw : wantedV ops o st with
    | none => simp [hw] at hs
    | some b =>
      cases b with
      | true =>
        simp only [hw] at hs
        obtain ⟨a', w', hw'⟩ := wpIn_exists (evOp_ok (ro := none) (n := 0) hP hO hG h (hD i o ho) hs (fun a' w' hh => hh))
        obtain ⟨ρ', r, _⟩ := hw'.rel
        exact ⟨ρ', a', w', r⟩
      | false =>
        simp only [hw, Option.some.injEq] at hs
        subst hs
        obtain ⟨ρ', r, _⟩ := (skip_ok h (hD i o ho)).rel
        exact ⟨ρ', _, _, r⟩

theorem Rel.fit (hG : GOk c.pol ng w0) (h : Rel ng base nt w0 Ext D ρ st a w) : Fit c (fun k => ρ k ≠ none) st := by
  refine ⟨fun y => (h.eval hG y).bd, fun k sz els fz hk hb e he => ?_, fun d n hn => ?_⟩
  · obtain ⟨b, hkb⟩ := Option.ne_none_iff_exists'.1 hk
    obtain ⟨arr, ty, h1, h2, h3, h4, h5⟩ := blk_row h.heap hb hkb
    refine .of_cells (fun y hy => ?_)
    obtain ⟨i, hi, rfl⟩ := List.getElem_of_mem he
    obtain ⟨j, hj, rfl⟩ := List.getElem_of_mem hy
    have hsz := h4 _ (List.getElem_mem hi)
    have hlt : i * sz + j < arr.size := Nat.lt_of_lt_of_le (mul_lt_of hi (by omega)) h2
    exact (h5 i _ j _ _ (List.getElem?_eq_getElem hi) (List.getElem?_eq_getElem hj) (Array.getElem?_eq_getElem hlt)).bd
  · have := h.heap.fresh c.path d n hn
    exact ⟨fun hne => hne this.1, this.2⟩

theorem move_front (hP : POk c.P c.pol) (hO : OrcOk c.P c.pol O) (hG : GOk c.pol ng w0) {ops : Array Oper} (hD : Dsts nt ops) {i : Nat} {B : List Nat} {st' : St} :
    ∀ (A : List Nat) (st : St) (ρ : Key → Option Nat) (a : Act) (w : World), Rel ng base nt w0 Ext D ρ st a w → (∀ x ∈ A, Apart c ops x i) → evList c O true ops (A ++ i :: B) st = some st' → evList c O true ops (i :: (A ++ B)) st = some st'
  | [], st, ρ, a, w, h, hA, hs => hs
  | x :: A, st, ρ, a, w, h, hA, hs => by
    simp only [List.cons_append, evList, Option.bind_eq_some_iff] at hs
    obtain ⟨s1, h1, h2⟩ := hs
    obtain ⟨ρ1, a1, w1, r1⟩ := evStep_exists hP hO hG hD h h1
    have := move_front hP hO hG hD A s1 ρ1 a1 w1 r1 (fun y hy => hA y (List.mem_cons_of_mem _ hy)) h2
    simp only [evList, Option.bind_eq_some_iff] at this
    obtain ⟨s2, h3, h4⟩ := this
    obtain ⟨s, g1, g2⟩ := swap (h.fit hG) (hA x (by simp)) h1 h3
    simp only [List.cons_append, evList, Option.bind_eq_some_iff]
    exact ⟨s, g1, s2, g2, h4⟩

/-- One order for another. -/
theorem perm_ok (hP : POk c.P c.pol) (hO : OrcOk c.P c.pol O) (hG : GOk c.pol ng w0) {ops : Array Oper} (hD : Dsts nt ops) {st' : St} :
    ∀ (l L : List Nat) (st : St) (ρ : Key → Option Nat) (a : Act) (w : World), Rel ng base nt w0 Ext D ρ st a w → l.Perm L → L.Nodup → (∀ x y, [x, y].Sublist L → [y, x].Sublist l → Apart c ops x y) → evList c O true ops L st = some st' → evList c O true ops l st = some st'
  | [], L, st, ρ, a, w, h, hp, hn, hA, hs => by
    have := hp.symm.eq_nil
    subst this
    exact hs
  | i :: l, L, st, ρ, a, w, h, hp, hn, hA, hs => by
    have hi : i ∈ L := hp.subset (by simp)
    obtain ⟨A, B, rfl⟩ := List.append_of_mem hi
    have hpl : l.Perm (A ++ B) := (List.perm_cons i).1 (hp.trans List.perm_middle)
    have h1 := move_front hP hO hG hD A st ρ a w h (fun x hx => hA x i ?_ ?_) hs
    · simp only [evList, Option.bind_eq_some_iff] at h1 ⊢
      obtain ⟨s1, g1, g2⟩ := h1
      obtain ⟨ρ1, a1, w1, r1⟩ := evStep_exists hP hO hG hD h g1
      refine ⟨s1, g1, perm_ok hP hO hG hD l (A ++ B) s1 ρ1 a1 w1 r1 hpl ?_ (fun x y hx hy => hA x y (hx.trans ?_) (hy.trans (List.sublist_cons_self i l))) g2⟩
      · exact hn.sublist (List.Sublist.append (List.Sublist.refl A) (List.sublist_cons_self i B))
      · exact List.Sublist.append (List.Sublist.refl A) (List.sublist_cons_self i B)
    · -- x before i in L
      have e1 : [x].Sublist A := List.singleton_sublist.2 hx
      have e2 : [i].Sublist (i :: B) := List.singleton_sublist.2 (by simp)
      exact e1.append e2
    · have : x ∈ l := hpl.symm.subset (List.mem_append_left _ hx)
      exact (List.singleton_sublist.2 this).cons_cons i
end
end Go.Proofs.YtigfgicjjhepoaaGreatDoor.VA

/- Parts of the proof: Vn, Vo, Vp, Vq, Vr, Vs, Vt, Vu, Vv, Vw, Vx, Vy, Vz -/
import Derived.Test.YtigfgicjjhepoaaGreatDoorMa
import Derived.Laws.CopyOwn
import Derived.Deep.Upon
import Derived.CallsIn
import Derived.Orders
set_option linter.unusedVariables false
set_option linter.unusedSimpArgs false
namespace Go.Proofs.YtigfgicjjhepoaaGreatDoor.VA
open Go Go.RowKit
section
variable {ng base : Nat} {w w' : World} {Ext : Nat → Prop} {ρ : Key → Option Nat} {H : Heap}

def bind (ρ : Key → Option Nat) (k : Key) (b : Nat) : Key → Option Nat := fun j => if j = k then some b else ρ j

theorem HRel.rebindEvo (h : HRel ng base Ext ρ H w) {H1 : Heap} (hsub : ∀ k x, H1.blk k = some x → H.blk k = some x) (hcnt : H1.cnt = H.cnt) {p : List Nat} {d b : Nat} {blk : Blk}
    (hb : b < w.heap.size → Mut Ext ρ H b) (hother : ∀ j, j ≠ b → j < w.heap.size → w'.heap[j]? = w.heap[j]?) (hsize : w.heap.size ≤ w'.heap.size) (hblt : b < w'.heap.size) (hbase : base ≤ b)
    (hnokey : ∀ k, H1.blk k ≠ none → ρ k ≠ some b) (hroom : ∀ n, room w b n → room w' b n) :
    Evo w ρ (Mut Ext ρ H) w' (bind ρ (H.next p d) b) (Mut Ext (bind ρ (H.next p d) b) (H1.alloc p d blk)) := by
  have hnext : H1.next p d = H.next p d := by simp [Heap.next, hcnt]
  have hfr := h.fresh p d (H.cnt p d) (Nat.le_refl _)
  have hkeys : ∀ k c, ρ k = some c → bind ρ (H.next p d) b k = some c := fun k c hk => by
    unfold bind
    rw [if_neg (fun e => by rw [e] at hk; unfold Heap.next at hk; rw [hfr.1] at hk; cases hk)]
    exact hk
  have hblk : ∀ k x, (H1.alloc p d blk).blk k = some x → (k = H.next p d ∧ x = blk) ∨ (k ≠ H.next p d ∧ H.blk k = some x ∧ H1.blk k = some x) := fun k x hk => by
    simp only [Heap.alloc, hnext] at hk
    by_cases e : k = H.next p d
    · rw [if_pos e] at hk; exact .inl ⟨e, by simpa using hk.symm⟩
    · rw [if_neg e] at hk; exact .inr ⟨e, hsub k x hk, hk⟩
  refine ⟨hkeys, fun a v hc hm => ?_, fun c n hr => ?_, fun c hc hm => ?_, hsize, fun c x hx => ?_⟩
  · have hlt := cell_lt hc
    by_cases e : a.block = b
    · exact absurd (hb (e ▸ hlt)) (e ▸ hm)
    · rw [World.cell?_of_block (w := w) (hother _ e hlt)]; exact hc
  · by_cases e : c = b
    · subst e; exact hroom n hr
    · obtain ⟨arr, ty, h1, h2⟩ := hr
      exact ⟨arr, ty, (hother c e (Array.getElem?_eq_some_iff.1 h1).1).trans h1, h2⟩
  · rcases hm with hm | ⟨k, sz, els, hk, hbk⟩
    · exact .inl hm
    · rcases hblk k _ hk with ⟨e, _⟩ | ⟨e, h1, h2⟩
      · unfold bind at hbk; rw [if_pos e] at hbk
        simp only [Option.some.injEq] at hbk
        exact hbk ▸ hb (hbk ▸ hc)
      · unfold bind at hbk; rw [if_neg e] at hbk
        exact .inr ⟨k, sz, els, h1, hbk⟩
  · by_cases e : c = b
    · subst e
      exfalso
      rcases hb (Array.getElem?_eq_some_iff.1 hx).1 with hm | ⟨k, sz, els, hk, hbk⟩
      · have := (h.ext c hm).1; omega
      · rcases h.blk k _ hk with ⟨_, _, _, hn⟩ | ⟨c', hc', hr⟩
        · rw [hn] at hbk; cases hbk
        · rw [hbk] at hc'; cases hc'
          obtain ⟨arr, ty, h1, _⟩ := hr
          rw [h1] at hx; cases hx
    · exact (hother c e (Array.getElem?_eq_some_iff.1 hx).1).trans hx

/-- A key is bound to a block: a new one, or one whose key is gone. -/
theorem HRel.rebind (h : HRel ng base Ext ρ H w) {H1 : Heap} (hsub : ∀ k x, H1.blk k = some x → H.blk k = some x) (hcnt : H1.cnt = H.cnt) {p : List Nat} {d b : Nat} {blk : Blk}
    (hb : b < w.heap.size → Mut Ext ρ H b) (hother : ∀ j, j ≠ b → j < w.heap.size → w'.heap[j]? = w.heap[j]?) (hsize : w.heap.size ≤ w'.heap.size) (hblt : b < w'.heap.size) (hbase : base ≤ b)
    (hnokey : ∀ k, H1.blk k ≠ none → ρ k ≠ some b) (hroom : ∀ n, room w b n → room w' b n)
    (hrel : BlkRel w' (bind ρ (H.next p d) b) (Mut Ext (bind ρ (H.next p d) b) (H1.alloc p d blk)) b blk) :
    HRel ng base Ext (bind ρ (H.next p d) b) (H1.alloc p d blk) w' ∧ Evo w ρ (Mut Ext ρ H) w' (bind ρ (H.next p d) b) (Mut Ext (bind ρ (H.next p d) b) (H1.alloc p d blk)) := by
  have hnext : H1.next p d = H.next p d := by simp [Heap.next, hcnt]
  have hfr := h.fresh p d (H.cnt p d) (Nat.le_refl _)
  have hkeys : ∀ k c, ρ k = some c → bind ρ (H.next p d) b k = some c := fun k c hk => by
    unfold bind
    rw [if_neg (fun e => by rw [e] at hk; unfold Heap.next at hk; rw [hfr.1] at hk; cases hk)]
    exact hk
  have hblk : ∀ k x, (H1.alloc p d blk).blk k = some x → (k = H.next p d ∧ x = blk) ∨ (k ≠ H.next p d ∧ H.blk k = some x ∧ H1.blk k = some x) := fun k x hk => by
    simp only [Heap.alloc, hnext] at hk
    by_cases e : k = H.next p d
    · rw [if_pos e] at hk; exact .inl ⟨e, by simpa using hk.symm⟩
    · rw [if_neg e] at hk; exact .inr ⟨e, hsub k x hk, hk⟩
  have hevo : Evo w ρ (Mut Ext ρ H) w' (bind ρ (H.next p d) b) (Mut Ext (bind ρ (H.next p d) b) (H1.alloc p d blk)) := h.rebindEvo hsub hcnt hb hother hsize hblt hbase hnokey hroom
  refine ⟨⟨h.ngb, Nat.le_trans h.size hsize, h.ext, fun k c hk => ?_, fun q e n hn => ?_, fun k k' c h1 h2 h3 h4 => ?_, fun k x hx => ?_⟩, hevo⟩
  · unfold bind at hk
    by_cases e : k = H.next p d
    · rw [if_pos e] at hk; simp only [Option.some.injEq] at hk; subst hk; exact ⟨hbase, hblt⟩
    · rw [if_neg e] at hk; exact ⟨(h.dom k c hk).1, Nat.lt_of_lt_of_le (h.dom k c hk).2 hsize⟩
  · simp only [Heap.alloc, hcnt] at hn
    have hne : (q, e, n) ≠ H.next p d := fun eq => by
      simp only [Heap.next, Prod.mk.injEq] at eq
      obtain ⟨rfl, rfl, rfl⟩ := eq
      simp at hn
      omega
    have hn' : H.cnt q e ≤ n := by split at hn <;> omega
    refine ⟨by unfold bind; rw [if_neg hne]; exact (h.fresh q e n hn').1, ?_⟩
    simp only [Heap.alloc, hnext]
    rw [if_neg hne]
    cases hx : H1.blk (q, e, n) with
    | none => rfl
    | some x => have := hsub _ _ hx; rw [(h.fresh q e n hn').2] at this; cases this
  · obtain ⟨x1, hx1⟩ := Option.ne_none_iff_exists'.1 h1
    obtain ⟨x2, hx2⟩ := Option.ne_none_iff_exists'.1 h2
    rcases hblk k x1 hx1 with ⟨e1, _⟩ | ⟨e1, g1, g1'⟩ <;> rcases hblk k' x2 hx2 with ⟨e2, _⟩ | ⟨e2, g2, g2'⟩
    · rw [e1, e2]
    · unfold bind at h3 h4
      rw [if_pos e1] at h3; rw [if_neg e2] at h4
      simp only [Option.some.injEq] at h3; subst h3
      exact absurd h4 (hnokey k' (by rw [g2']; simp))
    · unfold bind at h3 h4
      rw [if_neg e1] at h3; rw [if_pos e2] at h4
      simp only [Option.some.injEq] at h4; subst h4
      exact absurd h3 (hnokey k (by rw [g1']; simp))
    · unfold bind at h3 h4
      rw [if_neg e1] at h3; rw [if_neg e2] at h4
      exact h.inj k k' c (by rw [g1]; simp) (by rw [g2]; simp) h3 h4
  · rcases hblk k x hx with ⟨rfl, rfl⟩ | ⟨e, g1, g1'⟩
    · exact .inr ⟨b, by unfold bind; rw [if_pos rfl], hrel⟩
    · rcases h.blk k x g1 with ⟨sz, fz, rfl, hn⟩ | ⟨c, hc, hr⟩
      · exact .inl ⟨sz, fz, rfl, by unfold bind; rw [if_neg e]; exact hn⟩
      · have hne : c ≠ b := fun e' => hnokey k (by rw [g1']; simp) (e' ▸ hc)
        exact .inr ⟨c, hkeys k c hc, hr.evo hevo (hother c hne hr.lt)⟩

/-- A key is bound to nothing: an empty row. -/
theorem HRel.virtual (h : HRel ng base Ext ρ H w) {H1 : Heap} (hsub : ∀ k x, H1.blk k = some x → H.blk k = some x) (hcnt : H1.cnt = H.cnt) {p : List Nat} {d sz : Nat} :
    HRel ng base Ext ρ (H1.alloc p d (.row sz [] false)) w ∧ Evo w ρ (Mut Ext ρ H) w ρ (Mut Ext ρ (H1.alloc p d (.row sz [] false))) := by
  have hnext : H1.next p d = H.next p d := by simp [Heap.next, hcnt]
  have hfr := h.fresh p d (H.cnt p d) (Nat.le_refl _)
  have hblk : ∀ k x, (H1.alloc p d (.row sz [] false)).blk k = some x → (k = H.next p d ∧ x = .row sz [] false) ∨ (k ≠ H.next p d ∧ H.blk k = some x ∧ H1.blk k = some x) := fun k x hk => by
    simp only [Heap.alloc, hnext] at hk
    by_cases e : k = H.next p d
    · rw [if_pos e] at hk; exact .inl ⟨e, by simpa using hk.symm⟩
    · rw [if_neg e] at hk; exact .inr ⟨e, hsub k x hk, hk⟩
  have hk0 : ρ (H.next p d) = none := hfr.1
  have hevo : Evo w ρ (Mut Ext ρ H) w ρ (Mut Ext ρ (H1.alloc p d (.row sz [] false))) := by
    refine ⟨fun _ _ h => h, fun _ _ h _ => h, fun _ _ h => h, fun c hc hm => ?_, Nat.le_refl _, fun _ _ h => h⟩
    rcases hm with hm | ⟨k, sz', els, hk, hbk⟩
    · exact .inl hm
    · rcases hblk k _ hk with ⟨e, _⟩ | ⟨e, h1, h2⟩
      · rw [e, hk0] at hbk; cases hbk
      · exact .inr ⟨k, sz', els, h1, hbk⟩
  refine ⟨⟨h.ngb, h.size, h.ext, h.dom, fun q e n hn => ?_, fun k k' c h1 h2 h3 h4 => ?_, fun k x hx => ?_⟩, hevo⟩
  · simp only [Heap.alloc, hcnt] at hn
    have hne : (q, e, n) ≠ H.next p d := fun eq => by
      simp only [Heap.next, Prod.mk.injEq] at eq
      obtain ⟨rfl, rfl, rfl⟩ := eq
      simp at hn
      omega
    have hn' : H.cnt q e ≤ n := by split at hn <;> omega
    refine ⟨(h.fresh q e n hn').1, ?_⟩
    simp only [Heap.alloc, hnext]
    rw [if_neg hne]
    cases hx : H1.blk (q, e, n) with
    | none => rfl
    | some x => have := hsub _ _ hx; rw [(h.fresh q e n hn').2] at this; cases this
  · obtain ⟨x1, hx1⟩ := Option.ne_none_iff_exists'.1 h1
    obtain ⟨x2, hx2⟩ := Option.ne_none_iff_exists'.1 h2
    rcases hblk k x1 hx1 with ⟨e1, _⟩ | ⟨e1, g1, _⟩
    · rw [e1, hk0] at h3; cases h3
    · rcases hblk k' x2 hx2 with ⟨e2, _⟩ | ⟨e2, g2, _⟩
      · rw [e2, hk0] at h4; cases h4
      · exact h.inj k k' c (by rw [g1]; simp) (by rw [g2]; simp) h3 h4
  · rcases hblk k x hx with ⟨rfl, rfl⟩ | ⟨e, g1, _⟩
    · exact .inl ⟨sz, false, rfl, hk0⟩
    · rcases h.blk k x g1 with ⟨sz', fz, rfl, hn⟩ | ⟨c, hc, hr⟩
      · exact .inl ⟨sz', fz, rfl, hn⟩
      · exact .inr ⟨c, hc, hr.evo hevo rfl⟩

theorem HRel.updateEvo (h : HRel ng base Ext ρ H w) {k : Key} {b : Nat} {old new : Blk} (hk : H.blk k = some old) (hb : ρ k = some b) (hm : (∃ sz els, old = .row sz els false) ∨ ¬ ∃ arr e f, w.heap[b]? = some (.cells arr e f))
    (hnew : (∃ sz els, new = .row sz els false) → ∃ sz els, old = .row sz els false)
    (hother : ∀ j, j ≠ b → w'.heap[j]? = w.heap[j]?) (hsize : w'.heap.size = w.heap.size) (hroom : ∀ n, room w b n → room w' b n) :
    Evo w ρ (Mut Ext ρ H) w' ρ (Mut Ext ρ (H.set k new)) := by
  have hblk : ∀ j x, (H.set k new).blk j = some x → (j = k ∧ x = new) ∨ (j ≠ k ∧ H.blk j = some x) := fun j x hj => by
    simp only [Heap.set] at hj
    by_cases e : j = k
    · rw [if_pos e] at hj; exact .inl ⟨e, by simpa using hj.symm⟩
    · rw [if_neg e] at hj; exact .inr ⟨e, hj⟩
  have hmut : ∀ c, Mut Ext ρ (H.set k new) c → Mut Ext ρ H c := fun c hm' => by
    rcases hm' with hm' | ⟨j, sz, els, hj, hbj⟩
    · exact .inl hm'
    · rcases hblk j _ hj with ⟨e, e2⟩ | ⟨e, h1⟩
      · obtain ⟨sz', els', ho⟩ := hnew ⟨sz, els, e2.symm⟩
        exact .inr ⟨k, sz', els', by rw [hk, ho], by rw [← e]; exact hbj⟩
      · exact .inr ⟨j, sz, els, h1, hbj⟩
  refine ⟨fun _ _ h => h, fun a v hc hm' => ?_, fun c n hr => ?_, fun c _ hm' => hmut c hm', by omega, fun c x hx => ?_⟩
  · by_cases e : a.block = b
    · rcases hm with ⟨sz, els, ho⟩ | hm
      · exact absurd (.inr ⟨k, sz, els, by rw [hk, ho], by rw [e]; exact hb⟩) hm'
      · exfalso
        apply hm
        unfold World.cell? at hc
        rw [e] at hc
        split at hc
        · rename_i arr ty f hh; exact ⟨arr, ty, f, hh⟩
        · cases hc
    · rw [World.cell?_of_block (w := w) (hother _ e)]; exact hc
  · by_cases e : c = b
    · subst e; exact hroom n hr
    · obtain ⟨arr, ty, h1, h2⟩ := hr
      exact ⟨arr, ty, (hother c e).trans h1, h2⟩
  · by_cases e : c = b
    · subst e
      exfalso
      rcases h.blk k _ hk with ⟨_, _, _, hn⟩ | ⟨c', hc', hr⟩
      · rw [hn] at hb; cases hb
      · rw [hb] at hc'; cases hc'
        cases old with
        | row sz els fz => obtain ⟨arr, ty, h1, _⟩ := hr; rw [h1] at hx; cases hx
        | map d es => obtain ⟨en, h1, _⟩ := hr; rw [h1] at hx; cases hx
        | iter s p => rw [show w.heap[c]? = some (.stringIter s p) from hr] at hx; cases hx
        | loop => obtain ⟨tmps, d, h1, _⟩ := hr; rw [h1] at hx; cases hx
    · exact (hother c e).trans hx

/-- A block is written in place. -/
theorem HRel.update (h : HRel ng base Ext ρ H w) {k : Key} {b : Nat} {old new : Blk} (hk : H.blk k = some old) (hb : ρ k = some b) (hm : (∃ sz els, old = .row sz els false) ∨ ¬ ∃ arr e f, w.heap[b]? = some (.cells arr e f))
    (hnew : (∃ sz els, new = .row sz els false) → ∃ sz els, old = .row sz els false)
    (hother : ∀ j, j ≠ b → w'.heap[j]? = w.heap[j]?) (hsize : w'.heap.size = w.heap.size) (hroom : ∀ n, room w b n → room w' b n)
    (hrel : BlkRel w' ρ (Mut Ext ρ (H.set k new)) b new) :
    HRel ng base Ext ρ (H.set k new) w' ∧ Evo w ρ (Mut Ext ρ H) w' ρ (Mut Ext ρ (H.set k new)) := by
  have hblk : ∀ j x, (H.set k new).blk j = some x → (j = k ∧ x = new) ∨ (j ≠ k ∧ H.blk j = some x) := fun j x hj => by
    simp only [Heap.set] at hj
    by_cases e : j = k
    · rw [if_pos e] at hj; exact .inl ⟨e, by simpa using hj.symm⟩
    · rw [if_neg e] at hj; exact .inr ⟨e, hj⟩
  have hmut : ∀ c, Mut Ext ρ (H.set k new) c → Mut Ext ρ H c := fun c hm' => by
    rcases hm' with hm' | ⟨j, sz, els, hj, hbj⟩
    · exact .inl hm'
    · rcases hblk j _ hj with ⟨e, e2⟩ | ⟨e, h1⟩
      · obtain ⟨sz', els', ho⟩ := hnew ⟨sz, els, e2.symm⟩
        exact .inr ⟨k, sz', els', by rw [hk, ho], by rw [← e]; exact hbj⟩
      · exact .inr ⟨j, sz, els, h1, hbj⟩
  have hevo : Evo w ρ (Mut Ext ρ H) w' ρ (Mut Ext ρ (H.set k new)) := h.updateEvo hk hb hm hnew hother hsize hroom
  refine ⟨⟨h.ngb, by rw [hsize]; exact h.size, h.ext, fun j c hj => by rw [hsize]; exact h.dom j c hj, fun q e n hn => ⟨(h.fresh q e n hn).1, ?_⟩, fun j j' c h1 h2 h3 h4 => ?_, fun j x hx => ?_⟩, hevo⟩
  · have hf := h.fresh q e n hn
    simp only [Heap.set]
    rw [if_neg (fun e' => by rw [e'] at hf; rw [hf.2] at hk; cases hk)]
    exact hf.2
  · have conv : ∀ j, (H.set k new).blk j ≠ none → H.blk j ≠ none := fun j hj => by
      obtain ⟨x, hx⟩ := Option.ne_none_iff_exists'.1 hj
      rcases hblk j x hx with ⟨e, _⟩ | ⟨_, g⟩
      · rw [e, hk]; simp
      · rw [g]; simp
    exact h.inj j j' c (conv j h1) (conv j' h2) h3 h4
  · rcases hblk j x hx with ⟨rfl, rfl⟩ | ⟨e, g⟩
    · exact .inr ⟨b, hb, hrel⟩
    · rcases h.blk j x g with ⟨sz, fz, rfl, hn⟩ | ⟨c, hc, hr⟩
      · exact .inl ⟨sz, fz, rfl, hn⟩
      · have hne : c ≠ b := fun e' => e (h.inj j k c (by rw [g]; simp) (by rw [hk]; simp) hc (e' ▸ hb))
        exact .inr ⟨c, hc, hr.evo hevo (hother c hne)⟩

/-- Rows are frozen. -/
theorem HRel.freeze (h : HRel ng base Ext ρ H w) (ks : List Key) :
    HRel ng base Ext ρ (H.freeze ks) w ∧ Evo w ρ (Mut Ext ρ H) w ρ (Mut Ext ρ (H.freeze ks)) ∧ ∀ k b, k ∈ ks → ρ k = some b → (∃ x, H.blk k = some x) → ¬ Mut Ext ρ (H.freeze ks) b := by
  have hblk : ∀ j x, (H.freeze ks).blk j = some x → ∃ y, H.blk j = some y ∧ ((∃ sz els fz, y = .row sz els fz ∧ x = .row sz els (fz || decide (j ∈ ks))) ∨ (x = y ∧ ∀ sz els fz, y ≠ .row sz els fz)) := fun j x hj => by
    simp only [Heap.freeze] at hj
    split at hj
    · rename_i sz els fz hb
      simp only [Option.some.injEq] at hj
      exact ⟨_, hb, .inl ⟨sz, els, fz, rfl, hj.symm⟩⟩
    · rename_i hb
      exact ⟨x, hj, .inr ⟨rfl, fun sz els fz e => hb sz els fz (by rw [hj, e])⟩⟩
  have hmut : ∀ c, Mut Ext ρ (H.freeze ks) c → Ext c ∨ ∃ k sz els, H.blk k = some (.row sz els false) ∧ ρ k = some c ∧ k ∉ ks := fun c hm => by
    rcases hm with hm | ⟨j, sz, els, hj, hbj⟩
    · exact .inl hm
    · obtain ⟨y, hy, ⟨sz', els', fz, rfl, e⟩ | ⟨e, hn⟩⟩ := hblk j _ hj
      · simp only [Blk.row.injEq] at e
        obtain ⟨rfl, rfl, e3⟩ := e
        have e3 := e3.symm
        simp only [Bool.or_eq_false_iff, decide_eq_false_iff_not] at e3
        exact .inr ⟨j, sz, els, by rw [hy, e3.1], hbj, e3.2⟩
      · exact absurd e.symm (hn sz els false)
  have hevo : Evo w ρ (Mut Ext ρ H) w ρ (Mut Ext ρ (H.freeze ks)) := by
    refine ⟨fun _ _ h => h, fun _ _ h _ => h, fun _ _ h => h, fun c hc hm => ?_, Nat.le_refl _, fun _ _ h => h⟩
    rcases hmut c hm with hm | ⟨k, sz, els, h1, h2, _⟩
    · exact .inl hm
    · exact .inr ⟨k, sz, els, h1, h2⟩
  refine ⟨⟨h.ngb, h.size, h.ext, h.dom, fun q e n hn => ⟨(h.fresh q e n hn).1, ?_⟩, fun k k' c h1 h2 h3 h4 => ?_, fun k x hx => ?_⟩, hevo, fun k b hk hb hx hm => ?_⟩
  · simp only [Heap.freeze, (h.fresh q e n hn).2]
  · have conv : ∀ j, (H.freeze ks).blk j ≠ none → H.blk j ≠ none := fun j hj => by
      obtain ⟨x, hx⟩ := Option.ne_none_iff_exists'.1 hj
      obtain ⟨y, hy, _⟩ := hblk j x hx
      rw [hy]; simp
    exact h.inj k k' c (conv k h1) (conv k' h2) h3 h4
  · obtain ⟨y, hy, hc⟩ := hblk k x hx
    rcases h.blk k y hy with ⟨sz, fz, rfl, hn⟩ | ⟨c, hc', hr⟩
    · rcases hc with ⟨sz', els', fz', e1, e2⟩ | ⟨e, _⟩
      · simp only [Blk.row.injEq] at e1
        obtain ⟨rfl, rfl, rfl⟩ := e1
        exact .inl ⟨sz, _, e2, hn⟩
      · exact .inl ⟨sz, fz, e, hn⟩
    · right
      refine ⟨c, hc', ?_⟩
      have := hr.evo hevo rfl
      rcases hc with ⟨sz', els', fz, rfl, e2⟩ | ⟨e, _⟩
      · rw [e2]; exact this
      · rw [e]; exact this
  · rcases hmut b hm with hm | ⟨k', sz, els, h1, h2, h3⟩
    · have := (h.dom k b hb).1; have := (h.ext b hm).1; omega
    · obtain ⟨x, hx⟩ := hx
      exact h3 (h.inj k' k b (by rw [h1]; simp) (by rw [hx]; simp) h2 hb ▸ hk)
end
end Go.Proofs.YtigfgicjjhepoaaGreatDoor.VA
set_option linter.unusedVariables false
set_option linter.unusedSimpArgs false
namespace Go.Proofs.YtigfgicjjhepoaaGreatDoor.VA
open Go Go.RowKit
section
variable {ng base : Nat} {w : World} {Ext : Nat → Prop} {ρ : Key → Option Nat} {H : Heap}

theorem elemOf_cells {l : List PV} (h : elemOk l = true) : (elemOf l).cells = l ∧ 0 < l.length := by
  match l, h with
  | [v], h => cases v <;> simp [elemOk, oneV] at h <;> exact ⟨rfl, by simp⟩
  | a :: b :: l, _ => exact ⟨rfl, by simp⟩

theorem wrap_i64 {a : Int} (h0 : 0 ≤ a) (h1 : a < 2 ^ 63) : IntKind.i64.wrap a = a := by
  simp only [IntKind.wrap, IntKind.bits, IntKind.signed]
  have : a % 2 ^ 64 = a := Int.emod_eq_of_lt h0 (by omega)
  simp [this]
  omega

/-- What laying a block gives. -/
structure Laid (ng base : Nat) (Ext : Nat → Prop) (ρ : Key → Option Nat) (H : Heap) (w w' : World) (p : List Nat) (d : Nat) (blk : Blk) (x : PV) (v : Value) : Prop where
  below : Below w.heap.size w w'
  heap : HRel ng base Ext (bind ρ (H.next p d) w.heap.size) (H.alloc p d blk) w'
  evo : Evo w ρ (Mut Ext ρ H) w' (bind ρ (H.next p d) w.heap.size) (Mut Ext (bind ρ (H.next p d) w.heap.size) (H.alloc p d blk))
  rep : Rep w' (bind ρ (H.next p d) w.heap.size) (Mut Ext (bind ρ (H.next p d) w.heap.size) (H.alloc p d blk)) x v

theorem bind_self (ρ : Key → Option Nat) (k : Key) (b : Nat) : bind ρ k b k = some b := by simp [bind]

/-- A new object, of whatever kind. -/
theorem laid_of (h : HRel ng base Ext ρ H w) (p : List Nat) (d : Nat) (blk : Blk) (o : Obj) (x : PV) (v : Value)
    (hrel : ∀ (E : Evo w ρ (Mut Ext ρ H) (w.alloc o) ρ (Mut Ext ρ H)), ∀ ρ' M', Evo w ρ (Mut Ext ρ H) (w.alloc o) ρ' M' → BlkRel (w.alloc o) ρ' M' w.heap.size blk)
    (hrep : ∀ ρ' M', ρ' (H.next p d) = some w.heap.size → Rep (w.alloc o) ρ' M' x v) : Laid ng base Ext ρ H w (w.alloc o) p d blk x v := by
  have hB := below_alloc w o
  have hnk : ∀ k, H.blk k ≠ none → ρ k ≠ some w.heap.size := fun k _ e => by have := (h.dom k _ e).2; omega
  -- the relation for the new block, at the new keys
  have hE0 : Evo w ρ (Mut Ext ρ H) (w.alloc o) (bind ρ (H.next p d) w.heap.size) (Mut Ext (bind ρ (H.next p d) w.heap.size) (H.alloc p d blk)) := by
    have hfr := h.fresh p d (H.cnt p d) (Nat.le_refl _)
    refine ⟨fun k c hk => ?_, (evo_ext (ρ := ρ) (M := Mut Ext ρ H) hB).cell, (evo_ext (ρ := ρ) (M := Mut Ext ρ H) hB).rooms, fun c hc hm => ?_, hB.size, fun b x hb => (hB.block b (Array.getElem?_eq_some_iff.1 hb).1).trans hb⟩
    · unfold bind
      rw [if_neg (fun e => by rw [e] at hk; unfold Heap.next at hk; rw [hfr.1] at hk; cases hk)]
      exact hk
    · rcases hm with hm | ⟨k, sz, els, hk, hbk⟩
      · exact .inl hm
      · simp only [Heap.alloc] at hk
        unfold bind at hbk
        by_cases e : k = H.next p d
        · rw [if_pos e] at hbk; simp only [Option.some.injEq] at hbk; omega
        · rw [if_neg e] at hk hbk; exact .inr ⟨k, sz, els, hk, hbk⟩
  obtain ⟨g1, g2⟩ := h.rebind (w' := w.alloc o) (H1 := H) (fun _ _ h => h) rfl (p := p) (d := d) (b := w.heap.size) (blk := blk) (fun hlt => by omega) (fun j _ hj => hB.block j hj) hB.size (by simp) h.size hnk
    (fun n hr => (evo_ext (ρ := ρ) (M := Mut Ext ρ H) hB).rooms _ n hr) (hrel (evo_ext hB) _ _ hE0)
  exact ⟨hB, g1, g2, hrep _ _ (bind_self _ _ _)⟩

theorem heap_new (w : World) (o : Obj) : (w.alloc o).heap[w.heap.size]? = some o := (MapKept.heap_alloc w o).1

/-- A row of one element. -/
theorem blk_one {cs : List PV} {vs : Array Value} {e : TypeId} {M' : Nat → Prop} {ρ' : Key → Option Nat} {w' : World} {b : Nat} (hok : elemOk cs = true) (hr : Reps w' ρ' M' cs vs.toList) (hb : w'.heap[b]? = some (.cells vs e (0, 0))) :
    BlkRel w' ρ' M' b (.row cs.length [elemOf cs] false) := by
  obtain ⟨e1, e2⟩ := elemOf_cells hok
  refine ⟨vs, e, hb, by have := hr.1; simp at this ⊢; omega, e2, fun x hx => by simp at hx; rw [hx, e1], fun i x j c v hi hc hv => ?_⟩
  rcases i with _ | i
  · simp only [List.getElem?_cons_zero, Option.some.injEq] at hi
    subst hi
    rw [e1] at hc
    exact hr.2 j c v hc (by simpa using hv)
  · simp at hi

theorem stepN_ok {c : Ctx} (hP : POk c.P c.pol) (h : HRel ng base Ext ρ H w) {f : Operand → PV} {g : Operand → Value} (hv : ∀ y, Rep w ρ (Mut Ext ρ H) (f y) (g y)) {o : Oper} {blk : Blk} {mk : Key → PV}
    (hs : stepN c o.op f = some (blk, mk)) (p : List Nat) (d : Nat) :
    ∃ v w', (execOp g o).run c.P w = .ok (.value v) w' ∧ Laid ng base Ext ρ H w w' p d blk (mk (H.next p d)) v := by
  obtain ⟨dst, op, ty, pos, after, guard⟩ := o
  simp only at hs
  cases op with
  | alloc t =>
    simp only [stepN] at hs
    cases hz : zeroT c.P t with
    | none => simp [hz] at hs
    | some z =>
      simp only [hz] at hs
      split at hs
      rotate_left
      · cases hs
      rename_i hok
      simp only [Option.some.injEq, Prod.mk.injEq] at hs
      obtain ⟨rfl, rfl⟩ := hs
      obtain ⟨i, zv, hi, hzv, hr⟩ := rep_zero (w := w) (ρ := ρ) (M := Mut Ext ρ H) hz
      refine ⟨.pointer (some ⟨w.heap.size, 0, none⟩), w.alloc (.cells zv.cells t), ?_, ?_⟩
      · simp [execOp, Instr.alloc, zeroValue, typeInfo, hi, hzv, newVar, newRow]
      · refine laid_of h p d _ _ _ _ (fun _ ρ' M' E => blk_one hok (hr.evo E) (heap_new w _)) (fun ρ' M' hk => ?_)
        simpa using Rep.ptr (w := w.alloc (.cells zv.cells t)) (ρ := ρ') (M := M') (H.next p d) z.length 0 0 w.heap.size hk
  | box t x =>
    simp only [stepN] at hs
    have hx := hv x
    have hrun : (execOp g ⟨dst, .box t x, ty, pos, after, guard⟩).run c.P w = .ok (.value (.pointer (some ⟨w.heap.size, 0, none⟩))) (w.alloc (.cells (g x).cells t)) := by
      simp [execOp, Instr.box, newVar, newRow]
    split at hs
    · rename_i hok
      simp only [Option.some.injEq, Prod.mk.injEq] at hs
      obtain ⟨rfl, rfl⟩ := hs
      refine ⟨_, _, hrun, laid_of h p d _ _ _ _ (fun _ ρ' M' E => blk_one hok ((reps_cells hx (junk_of rfl (elemOf_cells hok).2)).evo E) (heap_new w _)) (fun ρ' M' hk => ?_)⟩
      simpa using Rep.ptr (w := w.alloc (.cells (g x).cells t)) (ρ := ρ') (M := M') (H.next p d) (f x).cells.length 0 0 w.heap.size hk
    · simp only [Option.some.injEq, Prod.mk.injEq] at hs
      obtain ⟨rfl, rfl⟩ := hs
      refine ⟨_, _, hrun, laid_of h p d _ _ _ _ (fun _ ρ' M' E => ⟨_, _, heap_new w _, by simp, by omega, by simp, fun i x j c v hi => by simp at hi⟩) (fun ρ' M' hk => ?_)⟩
      simpa using Rep.ptr (w := w.alloc (.cells (g x).cells t)) (ρ := ρ') (M := M') (H.next p d) 1 0 0 w.heap.size hk
  | makeSlice t l m =>
    simp only [stepN] at hs
    split at hs
    rotate_left
    · cases hs
    rename_i e he
    split at hs
    rotate_left
    · cases hs
    rename_i n by_ z a b hn hby hz hl hm
    split at hs
    rotate_left
    · cases hs
    rename_i hc
    obtain ⟨rfl, c0, c1, c2, c3, c4⟩ := hc
    simp only [Option.some.injEq, Prod.mk.injEq] at hs
    obtain ⟨rfl, rfl⟩ := hs
    have hlv := hv l
    have hmv := hv m
    rw [hl] at hlv; rw [hm] at hmv
    obtain ⟨e1, e2⟩ := elemOf_cells c3
    have hu : c.P.underlying t = some (.slice e) := by
      unfold elemT at he
      cases hu : c.P.underlying t with
      | none => simp [hu] at he
      | some d => cases d <;> simp [hu] at he; subst he; rfl
    obtain ⟨i, zv, hi, hzv, hr⟩ := rep_zero (w := w) (ρ := ρ) (M := Mut Ext ρ H) hz
    have hisz : i.size = n := by obtain ⟨i', hi', hs'⟩ := sizeT hn; rw [hi] at hi'; cases hi'; exact hs'
    have hib : i.bytes = by_ := by simpa [byT, hi] using hby
    have hzs : zv.cells.size = n := by have := hr.1; simp at this; omega
    have hwrap : IntKind.i64.wrap a = a := wrap_i64 c0 (by omega)
    obtain ⟨k, rfl⟩ := Int.eq_ofNat_of_zero_le c0
    have hnpos : 0 < n := by omega
    let cells : Array Value := (Array.range (k * n)).map ((if k * n = 0 then #[] else zv.cells)[· % (if k * n = 0 then (#[] : Array Value) else zv.cells).size]!)
    have hget : ∀ i j, i < k → j < n → cells[i * n + j]? = zv.cells[j]? := fun i j hi hj => by
      have hlt := mul_lt_of hi hj
      have hk0 : k * n ≠ 0 := by omega
      simp only [cells, Array.getElem?_map, Array.getElem?_range, hlt, if_true, Option.map_some, if_neg hk0]
      have hmod : (i * n + j) % zv.cells.size = j := by rw [hzs, Nat.mul_comm, Nat.mul_add_mod, Nat.mod_eq_of_lt hj]
      rw [hmod, getElem!_pos zv.cells j (by omega)]
      simp [show j < zv.cells.size by omega]
    refine ⟨.slice (some ⟨w.heap.size, 0, none⟩) k k, w.alloc (.cells cells e), ?_, ?_⟩
    · have h1 : ¬ ((k : Int) < 0 ∨ (by_ : Int) * k > 2 ^ 48) := by omega
      have hnz : ¬ (2 ^ 48 < (by_ : Int) * k) := by omega
      have hneg : ¬ ((k : Int) < 0) := by omega
      simp only [execOp, hlv.int_inv, hmv.int_inv, Instr.makeSlice, Sem.run_bind, run_underlying hu, Result.andThen_ok, asInt, asIntOf, Sem.run_pure, typeInfo, run_program, hi, hwrap, hib]
      rw [if_neg (by simp [hnz, hneg, c1])]
      simp only [Sem.run_bind, Result.andThen_ok, Int.toNat_natCast, run_sizeOf hn, run_askRoom, zeroValue, typeInfo, run_program, hi, hzv, Sem.run_pure]
      by_cases hk0 : k * n = 0
      · simp [hk0, newRow, cells, hi, hzv]
      · simp [hk0, newRow, cells, hi, hzv]
    · refine laid_of h p d _ _ _ _ (fun _ ρ' M' E => ?_) (fun ρ' M' hk => ?_)
      · refine ⟨cells, e, heap_new w _, by simp [cells], hnpos, fun x hx => by rw [List.mem_replicate] at hx; rw [hx.2, e1, c4], fun i x j c v hi' hc hv' => ?_⟩
        have hik : i < k := by have := (List.getElem?_eq_some_iff.1 hi').1; simpa using this
        have hx : x = elemOf z := by
          rw [List.getElem?_replicate] at hi'
          simp only [Int.toNat_natCast, if_pos hik, Option.some.injEq] at hi'
          exact hi'.symm
        subst hx
        rw [e1] at hc
        have hjn : j < n := by have := (List.getElem?_eq_some_iff.1 hc).1; omega
        rw [hget i j hik hjn] at hv'
        exact (hr.2 j c v hc (by simpa using hv')).evo E
      · have := Rep.ms (w := w.alloc (.cells cells e)) (ρ := ρ') (M := M') (H.next p d) n 0 k w.heap.size k hk (Nat.le_refl _) ⟨cells, e, heap_new w _, by simp [cells]⟩
        simpa using this
  | makeMap t r =>
    cases r with
    | none =>
      simp only [stepN, Option.map_eq_some_iff, Prod.mk.injEq] at hs
      obtain ⟨q, hq, rfl, rfl⟩ := hs
      refine ⟨.map (some w.heap.size), w.alloc (.map #[] 0), by simp [execOp, Instr.makeMap], laid_of h p d _ _ _ _ (fun _ ρ' M' E => ⟨#[], by rw [heap_new]; rfl, rfl, fun i k v e hi => by simp at hi⟩) (fun ρ' M' hk => .mapr _ _ hk)⟩
    | some r => simp [stepN] at hs
  | range t x =>
    simp only [stepN] at hs
    split at hs
    rotate_left
    · cases hs
    rename_i s hu hx
    simp only [Option.some.injEq, Prod.mk.injEq] at hs
    obtain ⟨rfl, rfl⟩ := hs
    have hxv := hv x
    rw [hx] at hxv
    refine ⟨.pointer (some ⟨w.heap.size, 0, none⟩), w.alloc (.stringIter s 0), by simp [execOp, hxv.str_inv, Instr.range, run_underlying hu], laid_of h p d _ _ _ _ (fun _ ρ' M' E => heap_new w _) (fun ρ' M' hk => ?_)⟩
    simpa using Rep.ptr (w := w.alloc (.stringIter s 0)) (ρ := ρ') (M := M') (H.next p d) 1 0 0 w.heap.size hk
  | _ => simp [stepN] at hs
end
end Go.Proofs.YtigfgicjjhepoaaGreatDoor.VA
set_option linter.unusedVariables false
set_option linter.unusedSimpArgs false
namespace Go.Proofs.YtigfgicjjhepoaaGreatDoor.VA
open Go Go.RowKit
section
variable {ng base : Nat} {w : World} {Ext : Nat → Prop} {ρ : Key → Option Nat} {H : Heap}

/-- What a step that changes the heap gives. -/
structure Stepd (ng base : Nat) (Ext : Nat → Prop) (ρ : Key → Option Nat) (H : Heap) (w w' : World) (ρ' : Key → Option Nat) (H' : Heap) : Prop where
  below : Below base w w'
  heap : HRel ng base Ext ρ' H' w'
  evo : Evo w ρ (Mut Ext ρ H) w' ρ' (Mut Ext ρ' H')

theorem Stepd.refl (h : HRel ng base Ext ρ H w) : Stepd ng base Ext ρ H w w ρ H := ⟨Below.refl _ _, h, Evo.refl _ _ _⟩

theorem oneV_one {M : Nat → Prop} {x : PV} {v : Value} (h : oneV x = true) (hr : Rep w ρ M x v) : v.oneCell' = true := by
  cases hr <;> simp [oneV] at h <;> rfl

theorem reps_one {M : Nat → Prop} {l : List PV} {vs : List Value} (h : l.all oneV = true) (hr : Reps w ρ M l vs) : ∀ v ∈ vs, v.oneCell' = true := by
  intro v hv
  obtain ⟨i, hi, rfl⟩ := List.getElem_of_mem hv
  have hl : i < l.length := by rw [hr.1]; exact hi
  exact oneV_one (List.all_eq_true.1 h _ (List.getElem_mem hl)) (hr.2 i _ _ (List.getElem?_eq_getElem hl) (List.getElem?_eq_getElem hi))

theorem below_heap (w : World) (b : Nat) (o : Obj) (hb : base ≤ b) : Below base w { w with heap := w.heap.setIfInBounds b o } :=
  ⟨rfl, rfl, rfl, by simp, fun k hk => by simp [show b ≠ k by omega]⟩

theorem putCells_get {cs vs : List PV} {j n : Nat} (hn : vs.length = n) (hj : j + n ≤ cs.length) (q : Nat) : (putCells cs j vs)[q]? = if q < j then cs[q]? else if q < j + n then vs[q - j]? else cs[q]? := by
  unfold putCells
  have h1 : (cs.take j).length = j := by simp; omega
  by_cases a : q < j
  · rw [if_pos a, List.getElem?_append_left (by simp; omega), List.getElem?_append_left (by omega), List.getElem?_take, if_pos a]
  · rw [if_neg a]
    by_cases b : q < j + n
    · rw [if_pos b, List.getElem?_append_left (by simp; omega), List.getElem?_append_right (by omega), h1]
    · rw [if_neg b, List.getElem?_append_right (by simp; omega), List.getElem?_drop]
      congr 1
      simp
      omega
theorem putCells_length {cs vs : List PV} {j n : Nat} (hn : vs.length = n) (hj : j + n ≤ cs.length) : (putCells cs j vs).length = cs.length := by
  unfold putCells; simp; omega

theorem seg_get {arr : Array Value} {vs : List Value} {o n : Nat} (hn : vs.length = n) (ho : o + n ≤ arr.size) (q : Nat) :
    (arr.toList.take o ++ vs ++ arr.toList.drop (o + n)).toArray[q]? = if q < o then arr[q]? else if q < o + n then vs[q - o]? else arr[q]? := by
  rw [List.getElem?_toArray]
  have h1 : (arr.toList.take o).length = o := by simp; omega
  by_cases a : q < o
  · rw [if_pos a, List.getElem?_append_left (by simp; omega), List.getElem?_append_left (by omega), List.getElem?_take, if_pos a, Array.getElem?_toList]
  · rw [if_neg a]
    by_cases b : q < o + n
    · rw [if_pos b, List.getElem?_append_left (by simp; omega), List.getElem?_append_right (by omega), h1]
    · rw [if_neg b, List.getElem?_append_right (by simp; omega), List.getElem?_drop, Array.getElem?_toList]
      congr 1
      simp
      omega

theorem blk_row (h : HRel ng base Ext ρ H w) {k : Key} {sz : Nat} {els : List PV} {fz : Bool} {b : Nat} (hk : H.blk k = some (.row sz els fz)) (hb : ρ k = some b) : BlkRel w ρ (Mut Ext ρ H) b (.row sz els fz) :=
  h.rows k sz els fz b hk hb

theorem storeV_ok {c : Ctx} (h : HRel ng base Ext ρ H w) {t : TypeId} {a v : PV} {va vv : Value} (ha : Rep w ρ (Mut Ext ρ H) a va) (hv : Rep w ρ (Mut Ext ρ H) v vv) {H' : Heap} (hs : storeV c t a v H = some H') :
    ∃ w', (Instr.storeAt t va vv).run c.P w = .ok () w' ∧ Stepd ng base Ext ρ H w w' ρ H' := by
  unfold storeV at hs
  split at hs
  rotate_left
  · cases hs
  rename_i k sz i j
  split at hs
  rotate_left
  · cases hs
  rename_i z els n hbk hn
  split at hs
  rotate_left
  · cases hs
  rename_i hc
  obtain ⟨rfl, c1, c2, c3⟩ := hc
  split at hs
  rotate_left
  · cases hs
  rename_i e he
  split at hs
  rotate_left
  · cases hs
  rename_i hc
  obtain ⟨d1, d2⟩ := hc
  simp only [Option.some.injEq] at hs
  subst hs
  cases ha with
  | ptr _ _ _ _ b hk =>
  obtain ⟨arr, ty, h1, h2, h3, h4, h5⟩ := blk_row h hbk hk
  have hcells := reps_cells hv (junk_of rfl (by omega))
  have hvl : vv.cells.size = n := by have := hcells.1; simp at this; omega
  have hesz := h4 e (List.mem_of_getElem? he)
  have hi : i < els.length := (List.getElem?_eq_some_iff.1 he).1
  have hfit : i * z + z ≤ arr.size := by
    have : (i + 1) * z ≤ els.length * z := Nat.mul_le_mul_right z hi
    rw [Nat.succ_mul] at this
    omega
  have hrun : (Instr.storeAt t (.pointer (some ⟨b, i * z + j, none⟩)) vv).run c.P w = .ok () (w.setRow b (arr.toList.take (i * z + j) ++ vv.cells.toList ++ arr.toList.drop (i * z + j + n)).toArray) := by
    have := run_storeCells_at c.P b (i * z + j) ty vv.cells.toList 0 arr w h1 (by simp; omega) (reps_one c3 hcells)
    simp only [Nat.add_zero, Array.length_toList, hvl] at this
    simp [Instr.storeAt, Instr.sureAddr, storeVar, run_sizeOf hn, hvl, this]
  have hlen : vv.cells.toList.length = n := by simp [hvl]
  have hsize : (arr.toList.take (i * z + j) ++ vv.cells.toList ++ arr.toList.drop (i * z + j + n)).toArray.size = arr.size := by simp; omega
  have hblt : b < w.heap.size := (Array.getElem?_eq_some_iff.1 h1).1
  have hother : ∀ q, q ≠ b → (w.setRow b (arr.toList.take (i * z + j) ++ vv.cells.toList ++ arr.toList.drop (i * z + j + n)).toArray).heap[q]? = w.heap[q]? := fun q hq => setRow_other w b q _ hq
  have hnew := setRow_heap w b arr (arr.toList.take (i * z + j) ++ vv.cells.toList ++ arr.toList.drop (i * z + j + n)).toArray ty (0, 0) h1
  have hroom : ∀ q, room w b q → room (w.setRow b (arr.toList.take (i * z + j) ++ vv.cells.toList ++ arr.toList.drop (i * z + j + n)).toArray) b q := fun q hq => by
    obtain ⟨arr', e', g1, g2⟩ := hq
    rw [h1] at g1; cases g1
    exact ⟨_, _, hnew, by rw [hsize]; exact g2⟩
  have hpl := putCells_length c1 d1
  obtain ⟨e1, e2⟩ := elemOf_cells d2
  have E := h.updateEvo (new := .row z (els.set i (elemOf (putCells e.cells j v.cells))) false) hbk hk (.inl ⟨_, _, rfl⟩) (fun _ => ⟨_, _, rfl⟩) hother (setRow_size _ _ _) hroom
  refine ⟨_, hrun, below_setRow (Below.refl _ _) (h.dom k b hk).1 _, ?_, E⟩
  refine (h.update (new := .row z (els.set i (elemOf (putCells e.cells j v.cells))) false) hbk hk (.inl ⟨_, _, rfl⟩) (fun _ => ⟨_, _, rfl⟩) hother (setRow_size _ _ _) hroom ?_).1
  refine ⟨_, ty, hnew, by rw [hsize]; simpa using h2, h3, fun x hx => ?_, fun i' x j' y u hx hy hu => ?_⟩
  · rcases List.mem_or_eq_of_mem_set hx with hx | rfl
    · exact h4 x hx
    · rw [e1, hpl, hesz]
  · rw [seg_get hlen (by omega)] at hu
    have hi' : i' < els.length := by have := (List.getElem?_eq_some_iff.1 hx).1; simpa using this
    by_cases hii : i' = i
    · subst hii
      rw [List.getElem?_set_self hi'] at hx
      simp only [Option.some.injEq] at hx
      subst hx
      rw [e1, putCells_get c1 d1] at hy
      have hj' : j' < z := by
        rcases Nat.lt_or_ge j' z with q | q
        · exact q
        · rw [if_neg (by omega), if_neg (by omega), List.getElem?_eq_none (by omega)] at hy; cases hy
      by_cases a1 : j' < j
      · rw [if_pos a1] at hy
        rw [if_pos (by omega)] at hu
        exact (h5 i' e j' y u he hy hu).evo E
      · rw [if_neg a1] at hy
        rw [if_neg (by omega)] at hu
        by_cases a2 : j' < j + n
        · rw [if_pos a2] at hy
          rw [if_pos (by omega)] at hu
          rw [show i' * z + j' - (i' * z + j) = j' - j by omega] at hu
          exact (hcells.2 _ y u hy hu).evo E
        · rw [if_neg a2] at hy
          rw [if_neg (by omega)] at hu
          exact (h5 i' e j' y u he hy hu).evo E
    · rw [List.getElem?_set_ne (fun q => hii q.symm)] at hx
      have hj' : j' < z := by have := (List.getElem?_eq_some_iff.1 hy).1; have := h4 x (List.mem_of_getElem? hx); omega
      have hu' : arr[i' * z + j']? = some u := by
        rcases Nat.lt_or_ge i' i with q | q
        · have : (i' + 1) * z ≤ i * z := Nat.mul_le_mul_right z q
          rw [Nat.succ_mul] at this
          rw [if_pos (by omega)] at hu; exact hu
        · have : (i + 1) * z ≤ i' * z := Nat.mul_le_mul_right z (by omega)
          rw [Nat.succ_mul] at this
          rw [if_neg (by omega), if_neg (by omega)] at hu; exact hu
      exact (h5 i' x j' y u hx hy hu').evo E

theorem posV_eq {i : PV} : ∀ {es : List (PV × PV)} {j : Nat}, posV i es = some j → ∀ {e : PV × PV}, es[j]? = some e → eqS i e.1 = true
  | e :: es, j, h, e', he => by
    simp only [posV] at h
    split at h
    · rename_i hq
      simp only [Option.some.injEq] at h; subst h
      simp at he; subst he; exact hq
    · simp only [Option.map_eq_some_iff] at h
      obtain ⟨k, hk, rfl⟩ := h
      exact posV_eq hk (by simpa using he)
  | [], j, h, e', he => by simp [posV] at h

theorem rep_key_eq {M : Nat → Prop} {d : Option IntKind} {x y : PV} {v u : Value} (hx : isKeyV d x = true) (hy : isKeyV d y = true) (he : eqS x y = true) (hv : Rep w ρ M x v) (hu : Rep w ρ M y u) : u = v := by
  cases d with
  | none =>
    cases x <;> simp [isKeyV] at hx; cases y <;> simp [isKeyV] at hy
    cases hv; cases hu
    simp [eqS] at he; rw [he]
  | some k =>
    cases x <;> simp [isKeyV] at hx; cases y <;> simp [isKeyV] at hy
    cases hv; cases hu
    simp [eqS] at he; rw [he.1, he.2]

theorem map_ok {c : Ctx} (h : HRel ng base Ext ρ H w) {t e : TypeId} {d : Option IntKind} {k : Key} {es : List (PV × PV)} {i v : PV} {vm vi vv : Value} (hk : keyT c.P t = some (d, e)) (hbk : H.blk k = some (.map d es)) (hik : isKeyV d i = true)
    (hm : Rep w ρ (Mut Ext ρ H) (.mapr k) vm) (hi : Rep w ρ (Mut Ext ρ H) i vi) (hv : Rep w ρ (Mut Ext ρ H) v vv) :
    ∃ w', (Instr.mapUpdate t vm vi vv).run c.P w = .ok () w' ∧ Stepd ng base Ext ρ H w w' ρ (H.set k (.map d (updV es i v))) := by
  obtain ⟨kt, hu, hkt⟩ := keyT_inv hk
  cases hm with
  | mapr _ b hb =>
  have hbr : BlkRel w ρ (Mut Ext ρ H) b (.map d es) := by
    rcases h.blk k _ hbk with ⟨sz', fz', h0, hn⟩ | ⟨b', hb', hr⟩
    · cases h0
    · rw [hb'] at hb; cases hb; exact hr
  obtain ⟨en, e1, e2, e3⟩ := hbr
  have hfind := findNow_pos hik hi es en.toList 0 (by simpa using e2) (fun j k v e hj he => by
    obtain ⟨q1, q2, q3, q4⟩ := e3 j k v e hj (by simpa using he); exact ⟨q1, q4⟩)
  have hkey := MapKept.run_checkKey (P := c.P) (w := w) hkt (key_isKey hik hi) false 9999
  have hfk := MapKept.run_findKey (P := c.P) (w := w) hkt hfind
  have hblt : b < w.heap.size := (Array.getElem?_eq_some_iff.1 e1).1
  have hnr : ¬ ∃ arr e f, w.heap[b]? = some (.cells arr e f) := by
    rintro ⟨arr, e, f, hh⟩
    rw [e1] at hh; cases hh
  have main : ∀ (o : Obj), (∀ ρ' M', Evo w ρ (Mut Ext ρ H) { w with heap := w.heap.setIfInBounds b o } ρ' M' → BlkRel { w with heap := w.heap.setIfInBounds b o } ρ' M' b (.map d (updV es i v))) →
      Stepd ng base Ext ρ H w { w with heap := w.heap.setIfInBounds b o } ρ (H.set k (.map d (updV es i v))) := fun o ho => by
    have hother := (MapKept.heap_set (o' := o) e1).2
    have hroom : ∀ q, room w b q → room { w with heap := w.heap.setIfInBounds b o } b q := fun q ⟨arr, e, g1, g2⟩ => absurd ⟨arr, e, _, g1⟩ hnr
    have E := h.updateEvo (w' := { w with heap := w.heap.setIfInBounds b o }) (new := .map d (updV es i v)) hbk hb (.inr hnr) (fun ⟨_, _, q⟩ => by cases q) hother (by simp) hroom
    exact ⟨below_heap w b o (h.dom k b hb).1, (h.update (new := .map d (updV es i v)) hbk hb (.inr hnr) (fun ⟨_, _, q⟩ => by cases q) hother (by simp) hroom (ho _ _ E)).1, E⟩
  cases hp : posV i es with
  | none =>
    rw [hp] at hfk
    simp only [Option.bind_none] at hfk
    refine ⟨{ w with heap := w.heap.setIfInBounds b (.map (en.push { key := vi, val := vv, born := en.size }) (en.size + 1)) }, ?_, main _ (fun ρ' M' E => ?_)⟩
    · simp only [Instr.mapUpdate, Sem.run_bind, run_underlying hu, Result.andThen_ok, MapKept.run_getObj_map e1, hkey, hfk, MapKept.run_setObj_map _ e1]
    · refine ⟨en.push { key := vi, val := vv, born := en.size }, by simp [hblt], by simp [updV, hp, e2], fun q k' v' e' hq he' => ?_⟩
      simp only [updV, hp] at hq
      rcases Nat.lt_trichotomy q es.length with g | g | g
      · rw [List.getElem?_append_left g] at hq
        rw [Array.getElem?_push, if_neg (by omega)] at he'
        obtain ⟨q1, q2, q3, q4⟩ := e3 q k' v' e' hq he'
        exact ⟨q1.evo E, q2.evo E, q3, q4⟩
      · subst g
        simp at hq
        obtain ⟨rfl, rfl⟩ := hq
        rw [Array.getElem?_push, if_pos e2.symm] at he'
        cases he'
        exact ⟨hi.evo E, hv.evo E, e2, hik⟩
      · rw [List.getElem?_eq_none (by simp; omega)] at hq; cases hq
  | some j =>
    have hlt := posV_lt hp
    have hjn : en[j]? = some (en[j]'(by omega)) := Array.getElem?_eq_getElem (by omega)
    rw [hp] at hfk
    simp only [Option.bind_some, Array.getElem?_toList, hjn, Option.map_some] at hfk
    have hsame : (en[j]'(by omega)).key = vi := by
      have hje : es[j]? = some es[j] := List.getElem?_eq_getElem hlt
      obtain ⟨q1, q2, q3, q4⟩ := e3 j es[j].1 es[j].2 _ hje hjn
      exact rep_key_eq hik q4 (posV_eq hp hje) hi q1
    refine ⟨{ w with heap := w.heap.setIfInBounds b (.map (en.modify (0 + j) fun e => { e with key := vi, val := vv }) en.size) }, ?_, main _ (fun ρ' M' E => ?_)⟩
    · have hjn' : en[0 + j]? = some (en[j]'(by omega)) := by rw [Nat.zero_add]; exact hjn
      simp only [Instr.mapUpdate, Sem.run_bind, run_underlying hu, Result.andThen_ok, MapKept.run_getObj_map e1, hkey, hfk, hjn', Option.map_some, Option.getD_some, hsame, MapKept.run_keyThatStays (key_isKey hik hi), MapKept.run_setObj_map _ e1]
    · refine ⟨en.modify (0 + j) fun e => { e with key := vi, val := vv }, by simp [hblt], by simp [updV, hp, e2], fun q k' v' e' hq he' => ?_⟩
      simp only [updV, hp] at hq
      rw [Nat.zero_add, Array.getElem?_modify] at he'
      by_cases g : q = j
      · subst g
        rw [List.getElem?_set_self hlt] at hq
        simp only [Option.some.injEq, Prod.mk.injEq] at hq
        obtain ⟨rfl, rfl⟩ := hq
        rw [if_pos rfl, hjn] at he'
        simp only [Option.map_some, Option.some.injEq] at he'
        subst he'
        have hje : es[q]? = some es[q] := List.getElem?_eq_getElem hlt
        obtain ⟨q1, q2, q3, q4⟩ := e3 q es[q].1 es[q].2 _ hje hjn
        exact ⟨hi.evo E, hv.evo E, q3, hik⟩
      · rw [List.getElem?_set_ne (fun q' => g q'.symm)] at hq
        rw [if_neg (fun q' => g q'.symm)] at he'
        obtain ⟨q1, q2, q3, q4⟩ := e3 q k' v' e' hq he'
        exact ⟨q1.evo E, q2.evo E, q3, q4⟩

theorem next_ok {c : Ctx} {ty : TypeId} (h : HRel ng base Ext ρ H w) {k : Key} {s : ByteArray} {pos : Nat} {vi : Value} (hbk : H.blk k = some (.iter s pos)) (hi : Rep w ρ (Mut Ext ρ H) (.ptr k 1 0 0) vi) :
    ∃ v w', (Instr.next vi true ty).run c.P w = .ok v w' ∧
      if pos < s.size then Stepd ng base Ext ρ H w w' ρ (H.set k (.iter s (pos + (Utf8.decode s pos).2))) ∧ v = .tuple #[.bool true, .int .i64 pos, .int .i32 (Utf8.decode s pos).1]
      else w' = w ∧ v = .tuple #[.bool false] := by
  cases hi with
  | ptr _ _ _ _ b hb =>
  have hbr : w.heap[b]? = some (.stringIter s pos) := by
    rcases h.blk k _ hbk with ⟨sz', fz', h0, hn⟩ | ⟨b', hb', hr⟩
    · cases h0
    · rw [hb'] at hb; cases hb; exact hr
  have hblt : b < w.heap.size := (Array.getElem?_eq_some_iff.1 hbr).1
  have hget : (getObj b).run c.P w = .ok (.stringIter s pos) w := by simp [getObj, Sem.run, hbr]
  by_cases hp : pos < s.size
  · simp only [if_pos hp]
    have hset : (setObj b (.stringIter s (pos + (Utf8.decode s pos).2))).run c.P w = .ok () { w with heap := w.heap.setIfInBounds b (.stringIter s (pos + (Utf8.decode s pos).2)) } := by simp [setObj, Sem.run, hbr]
    refine ⟨_, { w with heap := w.heap.setIfInBounds b (.stringIter s (pos + (Utf8.decode s pos).2)) }, ?_, ?_, rfl⟩
    rotate_left
    · have hnr : ¬ ∃ arr e f, w.heap[b]? = some (.cells arr e f) := by
        rintro ⟨arr, e, f, hh⟩
        rw [hbr] at hh; cases hh
      have hother := (MapKept.heap_set (o' := .stringIter s (pos + (Utf8.decode s pos).2)) hbr).2
      have hroom : ∀ q, room w b q → room { w with heap := w.heap.setIfInBounds b (.stringIter s (pos + (Utf8.decode s pos).2)) } b q := fun q ⟨arr, e, g1, g2⟩ => absurd ⟨arr, e, _, g1⟩ hnr
      have E := h.updateEvo (w' := { w with heap := w.heap.setIfInBounds b (.stringIter s (pos + (Utf8.decode s pos).2)) }) (new := .iter s (pos + (Utf8.decode s pos).2)) hbk hb (.inr hnr) (fun ⟨_, _, q⟩ => by cases q) hother (by simp) hroom
      exact ⟨below_heap w b _ (h.dom k b hb).1, (h.update (new := .iter s (pos + (Utf8.decode s pos).2)) hbk hb (.inr hnr) (fun ⟨_, _, q⟩ => by cases q) hother (by simp) hroom (by simp [BlkRel, hblt])).1, E⟩
    · simp [Instr.next, hget, hp, hset, goInt]
  · simp only [if_neg hp]
    exact ⟨_, w, by simp [Instr.next, hget, hp], rfl, rfl⟩
end
end Go.Proofs.YtigfgicjjhepoaaGreatDoor.VA
set_option linter.unusedVariables false
set_option linter.unusedSimpArgs false
namespace Go.Proofs.YtigfgicjjhepoaaGreatDoor.VA
open Go Go.RowKit
section
variable {ng base : Nat} {w w' : World} {Ext : Nat → Prop} {ρ ρ' : Key → Option Nat} {H : Heap} {M M' : Nat → Prop} {P : Program} {pol : Pol}

/-- Elements as cells, one after the other. -/
structure Flat (w : World) (ρ : Key → Option Nat) (M : Nat → Prop) (sz : Nat) (els : List PV) (vs : List Value) : Prop where
  len : vs.length = els.length * sz
  sizes : ∀ e ∈ els, e.cells.length = sz
  rep : ∀ (i : Nat) (e : PV) (j : Nat) (c : PV) (v : Value), els[i]? = some e → e.cells[j]? = some c → vs[i * sz + j]? = some v → Rep w ρ M c v

theorem Flat.nil (sz : Nat) : Flat w ρ M sz [] [] := ⟨by simp, by simp, fun i e j c v h => by simp at h⟩

theorem Flat.evo (E : Evo w ρ M w' ρ' M') {sz : Nat} {els : List PV} {vs : List Value} (h : Flat w ρ M sz els vs) : Flat w' ρ' M' sz els vs :=
  ⟨h.len, h.sizes, fun i e j c v h1 h2 h3 => (h.rep i e j c v h1 h2 h3).evo E⟩

theorem Flat.append {sz : Nat} {els src : List PV} {vs us : List Value} (h : Flat w ρ M sz els vs) (g : Flat w ρ M sz src us) : Flat w ρ M sz (els ++ src) (vs ++ us) := by
  refine ⟨by simp [h.len, g.len, Nat.add_mul], fun e he => ?_, fun i e j c v h1 h2 h3 => ?_⟩
  · rcases List.mem_append.1 he with he | he
    · exact h.sizes e he
    · exact g.sizes e he
  · by_cases hi : i < els.length
    · rw [List.getElem?_append_left hi] at h1
      have hj : j < sz := by have := (List.getElem?_eq_some_iff.1 h2).1; have := h.sizes e (List.mem_of_getElem? h1); omega
      have := mul_lt_of hi hj
      rw [List.getElem?_append_left (by rw [h.len]; exact this)] at h3
      exact h.rep i e j c v h1 h2 h3
    · rw [List.getElem?_append_right (by omega)] at h1
      have hle : els.length * sz ≤ i * sz := Nat.mul_le_mul_right sz (by omega)
      rw [List.getElem?_append_right (by rw [h.len]; omega), h.len] at h3
      refine g.rep (i - els.length) e j c v h1 h2 ?_
      rw [Nat.sub_mul]
      rw [show i * sz - els.length * sz + j = i * sz + j - els.length * sz by omega]
      exact h3

theorem Flat.blk {sz : Nat} {els : List PV} {vs : List Value} (h : Flat w ρ M sz els vs) (hpos : 0 < sz) {b : Nat} {arr : Array Value} {e : TypeId} {fz : Bool} (hb : w.heap[b]? = some (.cells arr e (0, 0))) (hs : vs.length ≤ arr.size) (hq : ∀ q, q < vs.length → arr[q]? = vs[q]?) :
    BlkRel w ρ M b (.row sz els fz) := by
  refine ⟨arr, e, hb, by rw [← h.len]; exact hs, hpos, h.sizes, fun i x j c v hi hc hv => ?_⟩
  have hi' : i < els.length := (List.getElem?_eq_some_iff.1 hi).1
  have hj : j < sz := by have := (List.getElem?_eq_some_iff.1 hc).1; have := h.sizes x (List.mem_of_getElem? hi); omega
  have := mul_lt_of hi' hj
  exact h.rep i x j c v hi hc (by rw [← hq _ (by rw [h.len]; exact this)]; exact hv)

theorem flat_of_blk {b sz : Nat} {els : List PV} {fz : Bool} (h : BlkRel w ρ M b (.row sz els fz)) : ∃ (arr : Array Value) (e : TypeId), w.heap[b]? = some (.cells arr e (0, 0)) ∧ els.length * sz ≤ arr.size ∧ 0 < sz ∧ Flat w ρ M sz els (arr.toList.take (els.length * sz)) := by
  obtain ⟨arr, e, h1, h2, h3, h4, h5⟩ := h
  refine ⟨arr, e, h1, h2, h3, by simp; omega, h4, fun i x j c v hi hc hv => ?_⟩
  rw [List.getElem?_take] at hv
  split at hv
  · exact h5 i x j c v hi hc (by simpa using hv)
  · cases hv

theorem srcT_kind {tx : TypeId} (h : srcT P tx = true) : (∃ e', P.underlying tx = some (.slice e')) ∨ P.underlying tx = some .string := by
  simp only [srcT, Bool.or_eq_true] at h
  rcases h with h | h
  · unfold elemT at h
    split at h
    · rename_i e hu; exact .inl ⟨e, hu⟩
    · cases h
  · unfold isStrT at h
    split at h
    · rename_i hu; exact .inr hu
    · cases h

/-- A source out of cells behind an address. -/
theorem src_of {sz b o cap : Nat} {tx : TypeId} {src : List PV} (val : Nat → Nat → Value) (hpos : 0 < sz) (hk : srcT P tx = true) (hsz : ∀ e ∈ src, e.cells.length = sz) (hone : src.all (fun v => v.cells.all oneV) = true)
    (hc : ∀ (i : Nat) (e : PV) (j : Nat) (c : PV), src[i]? = some e → e.cells[j]? = some c → w.cell? ⟨b, o + i * sz + j, none⟩ = some (val i j) ∧ Rep w ρ M c (val i j)) :
    ∃ news, Src P sz tx (.slice (some ⟨b, o, none⟩) src.length cap) src.length news w ∧ Flat w ρ M sz src news := by
  let news : List Value := (List.range (src.length * sz)).map fun q => val (q / sz) (q % sz)
  have hlen : news.length = src.length * sz := by simp [news]
  have hget : ∀ q, q < src.length * sz → ∃ e c, src[q / sz]? = some e ∧ e.cells[q % sz]? = some c ∧ news[q]? = some (val (q / sz) (q % sz)) := fun q hq => by
    have h1 : q / sz < src.length := Nat.div_lt_of_lt_mul (by rw [Nat.mul_comm]; exact hq)
    have h2 : q % sz < sz := Nat.mod_lt _ hpos
    have h3 := hsz _ (List.getElem_mem h1)
    exact ⟨src[q / sz], (src[q / sz]).cells[q % sz]'(by omega), List.getElem?_eq_getElem h1, List.getElem?_eq_getElem _, by simp [news, hq]⟩
  have hcells : ∀ j v, news[j]? = some v → w.cell? ((⟨b, o, none⟩ : Addr).add j) = some v := fun j v hj => by
    have hlt : j < src.length * sz := by rw [← hlen]; exact (List.getElem?_eq_some_iff.1 hj).1
    obtain ⟨e, c, g1, g2, g3⟩ := hget j hlt
    rw [hj] at g3
    simp only [Option.some.injEq] at g3
    have hadd : (⟨b, o, none⟩ : Addr).add j = ⟨b, o + j, none⟩ := by unfold Addr.add; split <;> simp_all
    rw [hadd, g3, ← (hc _ e _ c g1 g2).1]
    congr 2
    have := Nat.div_add_mod j sz
    rw [Nat.mul_comm] at this
    omega
  refine ⟨news, ⟨srcT_kind hk, fun _ => rfl, run_firstCells_some w sz src.length ⟨b, o, none⟩ src.length cap news hlen hcells, run_firstCells_some w.drew sz src.length ⟨b, o, none⟩ src.length cap news hlen (by simpa using hcells), hlen, fun u hu => ?_⟩, hlen, hsz, fun i e j c v hi hj hv => ?_⟩
  · obtain ⟨q, hq, rfl⟩ := List.getElem_of_mem hu
    obtain ⟨e, c, g1, g2, g3⟩ := hget q (by rw [← hlen]; exact hq)
    rw [List.getElem?_eq_getElem hq] at g3
    simp only [Option.some.injEq] at g3
    rw [g3]
    have h1 := List.all_eq_true.1 hone e (List.mem_of_getElem? g1)
    exact oneV_one (List.all_eq_true.1 h1 c (List.mem_of_getElem? g2)) (hc _ e _ c g1 g2).2
  · have hi' : i < src.length := (List.getElem?_eq_some_iff.1 hi).1
    have hj' : j < sz := by have := (List.getElem?_eq_some_iff.1 hj).1; have := hsz e (List.mem_of_getElem? hi); omega
    have hlt := mul_lt_of hi' hj'
    have e1 : (i * sz + j) / sz = i := by rw [Nat.mul_comm, Nat.mul_add_div hpos, Nat.div_eq_of_lt hj', Nat.add_zero]
    have e2 : (i * sz + j) % sz = j := by rw [Nat.mul_comm, Nat.mul_add_mod, Nat.mod_eq_of_lt hj']
    simp only [news, List.getElem?_map, List.getElem?_range hlt, Option.map_some, e1, e2, Option.some.injEq] at hv
    rw [← hv]
    exact (hc i e j c hi hj).2

theorem src_nil {sz cap : Nat} {tx : TypeId} (hk : srcT P tx = true) (a : Option Addr) : Src P sz tx (.slice a 0 cap) 0 [] w := by
  cases a with
  | none => exact ⟨srcT_kind hk, fun _ => rfl, run_firstCells_none w sz 0 0 cap, run_firstCells_none w.drew sz 0 0 cap, by simp, fun _ h => by cases h⟩
  | some a => exact ⟨srcT_kind hk, fun _ => rfl, run_firstCells_some w sz 0 a 0 cap [] (by simp) (by simp), run_firstCells_some w.drew sz 0 a 0 cap [] (by simp) (by simp), by simp, fun _ h => by cases h⟩

theorem src_ok (h : HRel ng base Ext ρ H w) {sz : Nat} (hpos : 0 < sz) {tx : TypeId} {x : PV} {vx : Value} {src : List PV} (hx : Rep w ρ (Mut Ext ρ H) x vx) (hs : srcV H sz x = some src) (hone : src.all (fun v => v.cells.all oneV) = true) (hk : srcT P tx = true) :
    ∃ news, Src P sz tx vx src.length news w ∧ Flat w ρ (Mut Ext ρ H) sz src news := by
  cases x with
  | sl f l =>
    simp only [srcV] at hs
    split at hs
    rotate_left
    · cases hs
    rename_i hall
    simp only [Option.some.injEq] at hs
    subst hs
    cases hx with
    | sl0 f a c hf => exact ⟨[], src_nil hk a, .nil sz⟩
    | sl f l b o c sz' val hc hf hsz hpos' hM h1 h2 =>
      exact src_of val hpos hk (allSz_mem hall) hone (fun i e j c' hi hj => by
        have h3 : e.cells.length = sz := allSz_mem hall e (List.mem_of_getElem? hi)
        have h4 : e.cells.length = sz' := hsz e (List.mem_of_getElem? hi)
        have h5 : sz' = sz := by omega
        subst h5
        exact ⟨h1 i e j c' hi hj, h2 i e j c' hi hj⟩)
  | ms k z off len =>
    simp only [srcV] at hs
    split at hs
    rotate_left
    · cases hs
    rename_i y els fz hbk
    split at hs
    rotate_left
    · cases hs
    rename_i hc
    obtain ⟨rfl, rfl⟩ := hc
    obtain ⟨c1, c2, c3, c4⟩ := cut_some hs
    cases hx with
    | ms0 k sz off a =>
      obtain rfl : src = [] := List.eq_nil_of_length_eq_zero c3
      exact ⟨[], src_nil hk a, .nil _⟩
    | ms k sz off len b c hb hle hr =>
      obtain ⟨arr, e, h1, h2, h3, h4, h5⟩ := blk_row h hbk hb
      have := src_of (P := P) (w := w) (ρ := ρ) (M := Mut Ext ρ H) (tx := tx) (src := src) (b := b) (o := off * y) (cap := c) (fun i j => arr.getD ((off + i) * y + j) undef) hpos hk ?_ hone ?_
      · rw [c3] at this; exact c3 ▸ this
      · intro e he
        rw [c2] at he
        exact h4 e (List.mem_of_mem_drop (List.mem_of_mem_take he))
      · intro i e j c' hi hj
        have hi' : i < src.length := (List.getElem?_eq_some_iff.1 hi).1
        rw [c4 i (by omega)] at hi
        have hj' : j < y := by have := (List.getElem?_eq_some_iff.1 hj).1; have := h4 e (List.mem_of_getElem? hi); omega
        have hlt : (off + i) * y + j < arr.size := Nat.lt_of_lt_of_le (mul_lt_of (by omega) hj') h2
        have hv := getD_of_lt hlt
        refine ⟨?_, h5 (off + i) e j c' _ hi hj hv⟩
        unfold World.cell?
        simp only [h1]
        rw [← hv]
        simp [Nat.add_mul]
  | str s =>
    simp only [srcV] at hs
    split at hs
    rotate_left
    · cases hs
    rename_i h1
    subst h1
    simp only [Option.some.injEq] at hs
    subst hs
    cases hx
    have hl : (s.data.toList.map byteV).length = s.size := by simp
    refine ⟨byteCells s, ?_, ?_⟩
    · rw [hl]
      exact ⟨srcT_kind hk, fun _ => rfl, firstCells_string s w, firstCells_string s w.drew, by rw [byteCells_length, Nat.mul_one], fun u hu => by
        obtain ⟨_, _, rfl⟩ := List.mem_map.1 hu
        rfl⟩
    · refine ⟨by rw [byteCells_length, hl, Nat.mul_one], fun e he => ?_, fun i e j c v hi hj hv => ?_⟩
      · obtain ⟨b, _, rfl⟩ := List.mem_map.1 he
        rfl
      · simp only [List.getElem?_map, Option.map_eq_some_iff] at hi
        obtain ⟨b, hb, rfl⟩ := hi
        obtain rfl : j = 0 := by
          have := (List.getElem?_eq_some_iff.1 hj).1
          simp [byteV, PV.cells] at this; exact this
        simp only [byteV, PV.cells, List.getElem?_cons_zero, Option.some.injEq] at hj
        subst hj
        simp only [Nat.mul_one, Nat.add_zero, byteCells, List.getElem?_map, hb, Option.map_some, Option.some.injEq] at hv
        subst hv
        exact .int _ _
  | _ => simp [srcV] at hs

theorem setCells_setRow (P : Program) {b o : Nat} {ty : TypeId} {cur : Array Value} {vs : List Value} (hg : w.heap[b]? = some (.cells cur ty (0, 0))) (hl : o + vs.length ≤ cur.size) (h1 : ∀ v ∈ vs, v.oneCell' = true) :
    w.setCells b o vs = w.setRow b (cur.toList.take o ++ vs ++ cur.toList.drop (o + vs.length)).toArray := by
  have a := run_storeCells_at P b o ty vs 0 cur w hg (by simpa using hl) h1
  have c := run_storeCells_cells (P := P) b o vs 0 w (fun j hj => by simp [World.cell?, hg, show o + j < cur.size by omega]) (fun j hj => by simp [World.frozen?, hg]) h1
  rw [c] at a
  simpa using a

/-- What appending asks of the types. -/
structure AppT (P : Program) (t e : TypeId) (i : TypeInfo) (z : Value) (sz by_ : Nat) : Prop where
  ht : P.underlying t = some (.slice e)
  hi : P.info? e = some i
  hz : i.zero = some z
  hsz : i.size = sz
  hby : i.bytes = by_
  hzs : z.cells.size = sz

theorem appT (hP : POk P pol) {t : TypeId} {sz by_ : Nat} (h1 : (elemT P t).bind (szT P) = some sz) (h2 : (elemT P t).bind (byT P) = some by_) : ∃ e i z, AppT P t e i z sz by_ := by
  cases he : elemT P t with
  | none => simp [he] at h1
  | some e =>
    simp only [he, Option.bind_some] at h1 h2
    obtain ⟨i, hi, hs⟩ := sizeT h1
    obtain ⟨z, hz⟩ := hP.hasZero e i (size_ok h1) hi
    have hu : P.underlying t = some (.slice e) := by
      unfold elemT at he
      cases hu : P.underlying t with
      | none => simp [hu] at he
      | some d => cases d <;> simp [hu] at he; subst he; rfl
    exact ⟨e, i, z, hu, hi, hz, hs, by simpa [byT, hi] using h2, by rw [hP.zero e i z (size_ok h1) hi hz]; exact hs⟩

/-- The arm that grows, whatever stands in front. -/
theorem grow_run {t tx ty e : TypeId} {i : TypeInfo} {z : Value} {sz by_ : Nat} (T : AppT P t e i z sz by_) {bs : Option Addr} {len cap : Nat} {olds news : List Value} {x : Value} {n : Nat}
    (hol : olds.length = len * sz) (hold : ∀ w' : World, w'.heap = w.heap → (Builtin.firstCells sz len (.slice bs len cap)).run P w' = .ok olds.toArray w') (hs : Src P sz tx x n news w) (hg : cap < len + n) (hb : (len + n) * by_ ≤ 2 ^ 47) (hbp : 0 < by_) :
    ∃ (arr : Array Value) (cap' : Nat), (Builtin.append_ #[t, tx] ty #[.slice bs len cap, x]).run P w = .ok (.slice (some ⟨w.heap.size, 0, none⟩) (len + n) cap') (w.drew.alloc (.cells arr e)) ∧ len + n ≤ cap' ∧ arr.size = cap' * sz ∧
      ∀ q, q < (len + n) * sz → arr[q]? = (olds ++ news)[q]? := by
  have hn := hs.newsLen
  have h47 : (len + n) * by_ ≤ 140737488355328 := by simpa using hb
  have h63 : len + n ≤ 140737488355328 := Nat.le_trans (Nat.le_mul_of_pos_right _ hbp) h47
  have hge := grownCap_ge w (len + n) cap e
  obtain ⟨T1, T2, T3, rfl, rfl, T6⟩ := T
  have hrun := run_append_grow_src (P := P) w t tx ty e i z T1 T2 T3 bs len cap olds (hold _ rfl) x n news hs hg (by omega) (growslice_fits hg h47)
  have hL : (olds ++ news).length = (len + n) * i.size := by rw [List.length_append, hol, hn, Nat.add_mul]
  refine ⟨_, _, hrun, hge, ?_, fun q hq => ?_⟩
  · rw [Array.size_append, List.size_toArray, hL, size_zeroCells, T6, ← Nat.add_mul]
    congr 1
    omega
  · rw [Array.getElem?_append_left (by simp only [List.size_toArray]; rw [hL]; exact hq), List.getElem?_toArray]

theorem heap_grow (w : World) (o : Obj) : (w.drew.alloc o).heap[w.heap.size]? = some o ∧ (w.drew.alloc o).heap.size = w.heap.size + 1 ∧ Below w.heap.size w (w.drew.alloc o) :=
  ⟨(MapKept.heap_alloc w.drew o).1, by simp, (Below.refl _ w).drew.alloc (Nat.le_refl _) o⟩

/-- The arm that grows: the row of one's own. -/
theorem grow_ok (h : HRel ng base Ext ρ H w) {H1 : Heap} (hsub : ∀ k x, H1.blk k = some x → H.blk k = some x) (hcnt : H1.cnt = H.cnt) (p : List Nat) (d : Nat)
    {t tx ty e : TypeId} {i : TypeInfo} {z : Value} {sz by_ : Nat} (hpos : 0 < sz) (T : AppT P t e i z sz by_) {bs : Option Addr} {len cap : Nat} {olds news : List Value} {x : Value} {els src : List PV}
    (hfo : Flat w ρ (Mut Ext ρ H) sz els olds) (hfs : Flat w ρ (Mut Ext ρ H) sz src news) (hlen : els.length = len)
    (hold : ∀ w' : World, w'.heap = w.heap → (Builtin.firstCells sz len (.slice bs len cap)).run P w' = .ok olds.toArray w') (hs : Src P sz tx x src.length news w) (hg : cap < len + src.length) (hb : (len + src.length) * by_ ≤ 2 ^ 47) (hbp : 0 < by_) :
    ∃ v w' ρ', (Builtin.append_ #[t, tx] ty #[.slice bs len cap, x]).run P w = .ok v w' ∧ Stepd ng base Ext ρ H w w' ρ' (H1.alloc p d (.row sz (els ++ src) false)) ∧
      Rep w' ρ' (Mut Ext ρ' (H1.alloc p d (.row sz (els ++ src) false))) (.ms (H.next p d) sz 0 (len + src.length)) v := by
  obtain ⟨arr, cap', hrun, hc, hsz, hq⟩ := grow_run (ty := ty) T (by rw [hfo.len, hlen]) hold hs hg hb hbp
  obtain ⟨g1, g2, g3⟩ := heap_grow w (.cells arr e)
  have hF := hfo.append hfs
  have hnk : ∀ k, H1.blk k ≠ none → ρ k ≠ some w.heap.size := fun k _ e => by have := (h.dom k _ e).2; omega
  have hroom : ∀ n, room w w.heap.size n → room (w.drew.alloc (.cells arr e)) w.heap.size n := fun n hr => by
    obtain ⟨a', e', q, _⟩ := hr
    have := (Array.getElem?_eq_some_iff.1 q).1; omega
  have E := h.rebindEvo (w' := w.drew.alloc (.cells arr e)) hsub hcnt (p := p) (d := d) (b := w.heap.size) (blk := .row sz (els ++ src) false) (fun hlt => by omega) (fun j _ hj => g3.block j hj) g3.size (by omega) h.size hnk hroom
  have hflen : (olds ++ news).length = (len + src.length) * sz := by rw [hF.len, List.length_append, hlen]
  have hle : (len + src.length) * sz ≤ cap' * sz := Nat.mul_le_mul_right _ hc
  refine ⟨_, _, _, hrun, ⟨g3.mono h.size, (h.rebind (w' := w.drew.alloc (.cells arr e)) hsub hcnt (p := p) (d := d) (b := w.heap.size) (blk := .row sz (els ++ src) false) (fun hlt => by omega) (fun j _ hj => g3.block j hj) g3.size (by omega) h.size hnk hroom
    ((hF.evo E).blk hpos g1 (by omega) (fun q hlt => hq q (by omega)))).1, E⟩, ?_⟩
  have := Rep.ms (w := w.drew.alloc (.cells arr e)) (ρ := bind ρ (H.next p d) w.heap.size) (M := Mut Ext (bind ρ (H.next p d) w.heap.size) (H1.alloc p d (.row sz (els ++ src) false))) (H.next p d) sz 0 (len + src.length) w.heap.size cap' (bind_self _ _ _) hc ⟨arr, e, g1, by rw [Nat.zero_add, hsz]; exact Nat.le_refl _⟩
  simpa using this

theorem append_ok {c : Ctx} (hP : POk c.P c.pol) (h : HRel ng base Ext ρ H w) {d : Nat} {t tx ty : TypeId} {s x r : PV} {vs vx : Value} {H' : Heap} (hsr : Rep w ρ (Mut Ext ρ H) s vs) (hxr : Rep w ρ (Mut Ext ρ H) x vx) (ha : appendV c d t tx s x H = some (r, H')) :
    ∃ v w' ρ', (Builtin.append_ #[t, tx] ty #[vs, vx]).run c.P w = .ok v w' ∧ Stepd ng base Ext ρ H w w' ρ' H' ∧ Rep w' ρ' (Mut Ext ρ' H') r v := by
  unfold appendV at ha
  split at ha
  rotate_left
  · cases ha
  rename_i sz by_ hsz hby
  obtain ⟨e, i, z, T⟩ := appT hP hsz hby
  split at ha
  rotate_left
  · cases ha
  rename_i hc
  obtain ⟨hpos, hbp, htx⟩ := hc
  split at ha
  · cases ha
  rename_i src hsrc
  split at ha
  rotate_left
  · cases ha
  rename_i hone
  obtain ⟨news, hS, hF⟩ := src_ok (P := c.P) h hpos hxr hsrc hone htx
  have nothing : ∀ (bs : Option Addr) (len cap : Nat), len ≤ cap → src = [] → (Builtin.append_ #[t, tx] ty #[.slice bs len cap, vx]).run c.P w = .ok (.slice bs len cap) w := fun bs len cap hle e0 => by
    subst e0
    have hnl := hS.newsLen
    obtain rfl : news = [] := List.eq_nil_of_length_eq_zero (by simpa using hnl)
    have hS' : Src c.P i.size tx vx 0 [] w := by rw [T.hsz]; exact hS
    exact run_append_nothing (P := c.P) w t tx ty e i T.ht T.hi bs len cap hle vx hS'
  split at ha
  · -- nil
    split at ha
    rotate_left
    · cases ha
    rename_i hb
    simp only [Option.some.injEq, Prod.mk.injEq] at ha
    obtain ⟨rfl, rfl⟩ := ha
    obtain ⟨bs, rfl⟩ : ∃ bs, vs = .slice bs 0 0 := by
      cases hsr with
      | sl0 f a cc hf => exact ⟨a, by rw [hf rfl]⟩
      | sl f l b o cc sz' val hc' hf => exact ⟨some ⟨b, o, none⟩, by have := hf rfl; simp at this; subst this; rfl⟩
    by_cases e0 : src = []
    · refine ⟨_, w, ρ, nothing bs 0 0 (Nat.le_refl _) e0, ?_, ?_⟩
      · subst e0
        obtain ⟨v1, v2⟩ := h.virtual (H1 := H) (fun _ _ h => h) rfl (p := c.path) (d := d) (sz := sz)
        exact ⟨Below.refl _ _, v1, v2⟩
      · subst e0
        exact .ms0 _ _ _ _
    · have hp : 0 < src.length := List.length_pos_iff.2 e0
      have := grow_ok (ty := ty) h (H1 := H) (fun _ _ h => h) rfl c.path d hpos T (bs := bs) (len := 0) (cap := 0) (olds := []) (els := []) (Flat.nil sz) hF rfl (fun w' _ => by
        cases bs with
        | none => exact run_firstCells_none w' sz 0 0 0
        | some a => exact run_firstCells_some w' sz 0 a 0 0 [] (by simp) (by simp)) hS (by omega) (by simpa using hb) hbp
      simpa using this
  · -- a row of one's own
    rename_i k y off len
    split at ha
    rotate_left
    · cases ha
    rename_i z' els hbk
    split at ha
    rotate_left
    · cases ha
    rename_i hcc
    obtain ⟨rfl, rfl, rfl, rfl, hb⟩ := hcc
    simp only [Option.some.injEq, Prod.mk.injEq] at ha
    obtain ⟨rfl, rfl⟩ := ha
    have hsub : ∀ k' x, (H.erase k).blk k' = some x → H.blk k' = some x := fun k' x hx => by
      simp only [Heap.erase] at hx
      split at hx
      · cases hx
      · exact hx
    generalize hlen : els.length = len at hsr hb ⊢
    cases hsr with
    | ms0 _ _ _ bs =>
      obtain rfl : els = [] := List.eq_nil_of_length_eq_zero hlen
      by_cases e0 : src = []
      · refine ⟨_, w, ρ, nothing bs 0 0 (Nat.le_refl _) e0, ?_, ?_⟩
        · subst e0
          obtain ⟨v1, v2⟩ := h.virtual (H1 := H.erase k) hsub rfl (p := c.path) (d := d) (sz := z')
          exact ⟨Below.refl _ _, v1, v2⟩
        · subst e0
          exact .ms0 _ _ _ _
      · have hp : 0 < src.length := List.length_pos_iff.2 e0
        exact grow_ok (ty := ty) h (H1 := H.erase k) hsub rfl c.path d hpos T (bs := bs) (len := 0) (cap := 0) (olds := []) (els := []) (Flat.nil z') hF rfl (fun w' _ => by
          cases bs with
          | none => exact run_firstCells_none w' z' 0 0 0
          | some a => exact run_firstCells_some w' z' 0 a 0 0 [] (by simp) (by simp)) hS (by omega) hb hbp
    | ms _ _ _ _ b cap hk hle hr =>
      have hbr := blk_row h hbk hk
      obtain ⟨arr, e', h1, h2, h3, hFo⟩ := flat_of_blk hbr
      obtain ⟨arr', e'', g1, g2⟩ := hr
      rw [h1] at g1
      simp only [Option.some.injEq, Obj.cells.injEq, and_true] at g1
      obtain ⟨rfl, rfl⟩ := g1
      rw [Nat.zero_add] at g2
      rw [hlen] at h2 hFo
      rw [Nat.zero_mul]
      have hblt : b < w.heap.size := (Array.getElem?_eq_some_iff.1 h1).1
      have hbm : b < w.heap.size → Mut Ext ρ H b := fun _ => .inr ⟨k, z', els, hbk, hk⟩
      have hnk : ∀ k', (H.erase k).blk k' ≠ none → ρ k' ≠ some b := fun k' hk' e0 => by
        obtain ⟨x, hx⟩ := Option.ne_none_iff_exists'.1 hk'
        have hne : k' ≠ k := fun e1 => by subst e1; simp [Heap.erase] at hx
        exact hne (h.inj k' k b (by rw [hsub k' x hx]; simp) (by rw [hbk]; simp) e0 hk)
      by_cases hfit : len + src.length ≤ cap
      · -- room
        have hnl := hS.newsLen
        have hfit' : (len + src.length) * z' ≤ cap * z' := Nat.mul_le_mul_right _ hfit
        rw [Nat.add_mul] at hfit'
        have hin : len * z' + news.length ≤ arr.size := by omega
        have hrun := run_append_room_src (P := c.P) w t tx ty e i T.ht T.hi b 0 len cap vx src.length news (by rw [T.hsz]; exact hS) hfit (fun j hj => by rw [T.hsz]; simp [World.cell?, h1, show len * z' + j < arr.size by omega]) (fun j hj => by simp [World.frozen?, h1])
        rw [T.hsz, Nat.zero_add, setCells_setRow c.P h1 hin hS.one] at hrun
        have hsegs : (arr.toList.take (len * z') ++ news ++ arr.toList.drop (len * z' + news.length)).toArray.size = arr.size := by simp; omega
        have hnew := setRow_heap w b arr (arr.toList.take (len * z') ++ news ++ arr.toList.drop (len * z' + news.length)).toArray e' (0, 0) h1
        have hother : ∀ j, j ≠ b → j < w.heap.size → (w.setRow b (arr.toList.take (len * z') ++ news ++ arr.toList.drop (len * z' + news.length)).toArray).heap[j]? = w.heap[j]? := fun j hj _ => setRow_other w b j _ hj
        have hroom : ∀ q, room w b q → room (w.setRow b (arr.toList.take (len * z') ++ news ++ arr.toList.drop (len * z' + news.length)).toArray) b q := fun q hq => by
          obtain ⟨a', e', q1, q2⟩ := hq
          rw [h1] at q1; cases q1
          exact ⟨_, _, hnew, by rw [hsegs]; exact q2⟩
        have E := h.rebindEvo (w' := w.setRow b (arr.toList.take (len * z') ++ news ++ arr.toList.drop (len * z' + news.length)).toArray) (H1 := H.erase k) hsub rfl (p := c.path) (d := d) (b := b) (blk := .row z' (els ++ src) false) hbm hother (by simp) (by simpa using hblt) (h.dom k b hk).1 hnk hroom
        refine ⟨_, _, _, hrun, ⟨below_setRow (Below.refl _ _) (h.dom k b hk).1 _, (h.rebind (w' := w.setRow b (arr.toList.take (len * z') ++ news ++ arr.toList.drop (len * z' + news.length)).toArray) (H1 := H.erase k) hsub rfl (p := c.path) (d := d) (b := b) (blk := .row z' (els ++ src) false) hbm hother (by simp) (by simpa using hblt) (h.dom k b hk).1 hnk hroom ?_).1, E⟩, ?_⟩
        · refine ((hFo.append hF).evo E).blk hpos hnew (by rw [hsegs]; simp; omega) (fun q hq => ?_)
          have hq' : q < len * z' + news.length := by simp at hq; omega
          rw [List.getElem?_toArray, List.getElem?_append_left (by simp; omega)]
        · have := Rep.ms (w := w.setRow b (arr.toList.take (len * z') ++ news ++ arr.toList.drop (len * z' + news.length)).toArray) (ρ := bind ρ (H.next c.path d) b) (M := Mut Ext (bind ρ (H.next c.path d) b) ((H.erase k).alloc c.path d (.row z' (els ++ src) false))) (H.next c.path d) z' 0 (len + src.length) b cap (bind_self _ _ _) hfit (hroom _ ⟨arr, e', h1, by rw [Nat.zero_add]; exact g2⟩)
          simpa using this
      · -- a new row
        have hlenO : (arr.toList.take (len * z')).length = len * z' := by simp; omega
        exact grow_ok (ty := ty) h (H1 := H.erase k) hsub rfl c.path d hpos T (bs := some ⟨b, 0, none⟩) (len := len) (cap := cap) hFo hF hlen (fun w' hw' => run_firstCells_some w' z' len ⟨b, 0, none⟩ len cap _ hlenO (fun j v hj => by
          rw [List.getElem?_take] at hj
          split at hj
          · have hadd : (⟨b, 0, none⟩ : Addr).add j = ⟨b, j, none⟩ := by unfold Addr.add; split <;> simp_all
            rw [hadd]
            simp only [World.cell?, hw', h1]
            simpa using hj
          · cases hj)) hS (by omega) hb hbp
  · -- a full row that can only be read
    rename_i l hne
    split at ha
    rotate_left
    · cases ha
    rename_i hcc
    obtain ⟨hpl, hal, hb⟩ := hcc
    simp only [Option.some.injEq, Prod.mk.injEq] at ha
    obtain ⟨rfl, rfl⟩ := ha
    cases hsr with
    | sl0 f a cc hf => exact absurd rfl hne
    | sl f l b o cap sz' val hc' hf hsz' hpos' hM g1 g2 =>
      have hcl := hf rfl
      subst hcl
      by_cases e0 : src = []
      · refine ⟨_, w, ρ, nothing _ _ _ (Nat.le_refl _) e0, Stepd.refl h, ?_⟩
        subst e0
        rw [List.append_nil]
        exact .sl false l b o l.length sz' val (Nat.le_refl _) (fun e0 => by cases e0) hsz' hpos' hM g1 g2
      · have hp : 0 < src.length := List.length_pos_iff.2 e0
        have hszeq : sz' = sz := by
          obtain ⟨v, l', rfl⟩ := List.exists_cons_of_ne_nil (fun e1 => hne e1)
          have a1 := hsz' v (by simp)
          have a2 := allSz_mem hal v (by simp)
          omega
        subst hszeq
        -- the old cells
        let olds : List Value := (List.range (l.length * sz')).map fun q => val (q / sz') (q % sz')
        have hol : olds.length = l.length * sz' := by simp [olds]
        have hget : ∀ q, q < l.length * sz' → ∃ e c, l[q / sz']? = some e ∧ e.cells[q % sz']? = some c ∧ olds[q]? = some (val (q / sz') (q % sz')) := fun q hq => by
          have h1 : q / sz' < l.length := Nat.div_lt_of_lt_mul (by rw [Nat.mul_comm]; exact hq)
          have h2 : q % sz' < sz' := Nat.mod_lt _ hpos
          have h3 := hsz' _ (List.getElem_mem h1)
          exact ⟨l[q / sz'], (l[q / sz']).cells[q % sz']'(by omega), List.getElem?_eq_getElem h1, List.getElem?_eq_getElem _, by simp [olds, hq]⟩
        have hFo : Flat w ρ (Mut Ext ρ H) sz' l olds := ⟨hol, hsz', fun i e j c v hi hj hv => by
          have hi' : i < l.length := (List.getElem?_eq_some_iff.1 hi).1
          have hj' : j < sz' := by have := (List.getElem?_eq_some_iff.1 hj).1; have := hsz' e (List.mem_of_getElem? hi); omega
          have hlt := mul_lt_of hi' hj'
          have e1 : (i * sz' + j) / sz' = i := by rw [Nat.mul_comm, Nat.mul_add_div hpos, Nat.div_eq_of_lt hj', Nat.add_zero]
          have e2 : (i * sz' + j) % sz' = j := by rw [Nat.mul_comm, Nat.mul_add_mod, Nat.mod_eq_of_lt hj']
          simp only [olds, List.getElem?_map, List.getElem?_range hlt, Option.map_some, e1, e2, Option.some.injEq] at hv
          rw [← hv]
          exact g2 i e j c hi hj⟩
        obtain ⟨arr, cap', hrun, hc1, hsz1, hq⟩ := grow_run (ty := ty) T (bs := some ⟨b, o, none⟩) (cap := l.length) hol (fun w' hw' => run_firstCells_some w' sz' l.length ⟨b, o, none⟩ l.length l.length olds hol (fun j v hj => by
          have hlt : j < l.length * sz' := by rw [← hol]; exact (List.getElem?_eq_some_iff.1 hj).1
          obtain ⟨e, c, q1, q2, q3⟩ := hget j hlt
          rw [hj] at q3
          simp only [Option.some.injEq] at q3
          have hadd : (⟨b, o, none⟩ : Addr).add j = ⟨b, o + j, none⟩ := by unfold Addr.add; split <;> simp_all
          have := g1 _ e _ c q1 q2
          rw [hadd, q3, ← this]
          simp only [World.cell?, hw']
          have hdm := Nat.div_add_mod j sz'
          rw [Nat.mul_comm] at hdm
          rw [show o + j / sz' * sz' + j % sz' = o + j by omega])) hS (by omega) hb hbp
        obtain ⟨a1, a2, a3⟩ := heap_grow w (.cells arr e)
        have E := evo_below h a3 (Mut Ext ρ H)
        refine ⟨_, _, ρ, hrun, ⟨a3.mono h.size, h.below a3, E⟩, ?_⟩
        have hFE := (hFo.append hF).evo E
        have hlen : (l ++ src).length = l.length + src.length := by simp
        have hMn : ¬ Mut Ext ρ H w.heap.size := fun hm => by
          rcases hm with hm | ⟨k, q, els, _, hk⟩
          · have := (h.ext _ hm).1; have := h.size; omega
          · have := (h.dom _ _ hk).2; omega
        have hcell : ∀ (i : Nat) (v : PV) (j : Nat) (x : PV), (l ++ src)[i]? = some v → v.cells[j]? = some x → i * sz' + j < (l.length + src.length) * sz' := fun i v j x hi hj => by
          have hi' := (List.getElem?_eq_some_iff.1 hi).1
          have hj' := (List.getElem?_eq_some_iff.1 hj).1
          have := hFE.sizes v (List.mem_of_getElem? hi)
          rw [hlen] at hi'
          exact mul_lt_of hi' (by omega)
        have hfl : (olds ++ news).length = (l.length + src.length) * sz' := by rw [hFE.len, hlen]
        have := Rep.sl (w := w.drew.alloc (.cells arr e)) (ρ := ρ) (M := Mut Ext ρ H) false (l ++ src) w.heap.size 0 cap' sz' (fun i j => (olds ++ news).getD (i * sz' + j) undef) (by rw [hlen]; exact hc1) (fun e0 => by cases e0) hFE.sizes hpos hMn
          (fun i v j x hi hj => by
            have hlt := hcell i v j x hi hj
            unfold World.cell?
            simp only [a1, Nat.zero_add]
            rw [List.getD_eq_getElem?_getD, List.getElem?_eq_getElem (by omega : i * sz' + j < (olds ++ news).length)]
            have := hq _ hlt
            rw [List.getElem?_eq_getElem (by omega : i * sz' + j < (olds ++ news).length)] at this
            simpa using this)
          (fun i v j x hi hj => by
            have hlt := hcell i v j x hi hj
            rw [List.getD_eq_getElem?_getD, List.getElem?_eq_getElem (by omega : i * sz' + j < (olds ++ news).length)]
            exact hFE.rep i v j x _ hi hj (List.getElem?_eq_getElem _))
        rw [hlen] at this
        exact this
  · cases ha
end
end Go.Proofs.YtigfgicjjhepoaaGreatDoor.VA
set_option linter.unusedVariables false
set_option linter.unusedSimpArgs false
namespace Go.Proofs.YtigfgicjjhepoaaGreatDoor.VA
open Go Go.RowKit

/-- Every key within is one of B's. -/
inductive Bd (B : Key → Prop) : PV → Prop
  | bool (b : Bool) : Bd B (.bool b)
  | int (k : IntKind) (n : Int) : Bd B (.int k n)
  | str (s : ByteArray) : Bd B (.str s)
  | agg (l : List PV) (h : ∀ x ∈ l, Bd B x) : Bd B (.agg l)
  | tup (l : List PV) (h : ∀ x ∈ l, Bd B x) : Bd B (.tup l)
  | sl (f : Bool) (l : List PV) (h : ∀ x ∈ l, Bd B x) : Bd B (.sl f l)
  | ms0 (k : Key) (sz off : Nat) : Bd B (.ms k sz off 0)
  | ms (k : Key) (sz off len : Nat) (h : B k) : Bd B (.ms k sz off len)
  | ptr (k : Key) (sz i j : Nat) (h : B k) : Bd B (.ptr k sz i j)
  | pp (l : List PV) (off : Nat) (h : ∀ x ∈ l, Bd B x) : Bd B (.pp l off)
  | nilp : Bd B .nilp
  | fn (f : FuncId) (a b : List PV) (h : ∀ x ∈ a, Bd B x) (g : ∀ x ∈ b, Bd B x) : Bd B (.fn f a b)
  | nilfn : Bd B .nilfn
  | mapr (k : Key) (h : B k) : Bd B (.mapr k)
  | nilm : Bd B .nilm
  | nilif : Bd B .nilif
  | yld (k : Key) (h : B k) : Bd B (.yld k)
  | junk : Bd B .junk

theorem Bd.cells {B : Key → Prop} {x : PV} (h : Bd B x) : ∀ c ∈ x.cells, Bd B c := by
  intro c hc
  cases h <;> simp only [PV.cells, List.mem_singleton, List.not_mem_nil] at hc
  case agg l h => exact h c hc
  all_goals subst hc
  all_goals constructor <;> assumption

theorem Bd.of_cells {B : Key → Prop} {x : PV} (h : ∀ c ∈ x.cells, Bd B c) : Bd B x := by
  cases x with
  | agg l => exact .agg l h
  | junk => exact .junk
  | _ => exact h _ (by simp [PV.cells])

theorem Rep.bd {w : World} {ρ : Key → Option Nat} {M : Nat → Prop} {x : PV} {v : Value} (h : Rep w ρ M x v) : Bd (fun k => ρ k ≠ none) x := by
  have lst : ∀ {l : List PV} {vs : List Value}, l.length = vs.length → (∀ (i : Nat) (c : PV) (v : Value), l[i]? = some c → vs[i]? = some v → Bd (fun k => ρ k ≠ none) c) → ∀ c ∈ l, Bd (fun k => ρ k ≠ none) c := fun hl hh c hc => by
    obtain ⟨i, hi, rfl⟩ := List.getElem_of_mem hc
    exact hh i _ _ (List.getElem?_eq_getElem hi) (List.getElem?_eq_getElem (by omega))
  induction h with
  | bool b => exact .bool b
  | int k n => exact .int k n
  | str s => exact .str s
  | agg l cs hl h ih => exact .agg l (lst (vs := cs.toList) (by simpa using hl) (fun i c v hc hv => ih i c v hc (by simpa using hv)))
  | tup l cs hl h ih => exact .tup l (lst (vs := cs.toList) (by simpa using hl) (fun i c v hc hv => ih i c v hc (by simpa using hv)))
  | sl0 f a c hf => exact .sl f [] (by simp)
  | sl f l b o c sz val hc hf hsz hpos hM h1 h2 ih =>
    refine .sl f l (fun x hx => .of_cells (fun y hy => ?_))
    obtain ⟨i, hi, rfl⟩ := List.getElem_of_mem hx
    obtain ⟨j, hj, rfl⟩ := List.getElem_of_mem hy
    exact ih i _ j _ (List.getElem?_eq_getElem hi) (List.getElem?_eq_getElem hj)
  | ms0 k sz off a => exact .ms0 k sz off
  | ms k sz off len b c hk hc hr => exact .ms k sz off len (by rw [hk]; simp)
  | ptr k sz i j b hk => exact .ptr k sz i j (by rw [hk]; simp)
  | pp l off b o val hb hM h1 h2 ih =>
    refine .pp l off (fun x hx => ?_)
    obtain ⟨i, hi, rfl⟩ := List.getElem_of_mem hx
    exact ih i _ (List.getElem?_eq_getElem hi)
  | nilp => exact .nilp
  | fn f x y a b hx hy h1 h2 ih1 ih2 =>
    exact .fn f x y (lst (vs := a.toList) (by simpa using hx) (fun i c v hc hv => ih1 i c v hc (by simpa using hv))) (lst (vs := b.toList) (by simpa using hy) (fun i c v hc hv => ih2 i c v hc (by simpa using hv)))
  | nilfn => exact .nilfn
  | mapr k b hk => exact .mapr k (by rw [hk]; simp)
  | nilm => exact .nilm
  | nilif => exact .nilif
  | yld k b hk => exact .yld k (by rw [hk]; simp)
  | junk v => exact .junk

/-- The same block, but that it may be frozen. -/
def SameB (x y : Option Blk) : Prop := x = y ∨ ∃ sz els f g, x = some (.row sz els f) ∧ y = some (.row sz els g)

section
variable {B : Key → Prop} {H H' : Heap}

theorem dr_agree (hB : ∀ k, B k → SameB (H.blk k) (H'.blk k)) (hrow : ∀ k sz els fz, B k → H.blk k = some (.row sz els fz) → ∀ e ∈ els, Bd B e) : ∀ (n : Nat),
    (∀ x, Bd B x → dr H' n x = dr H n x) ∧ (∀ l : List PV, (∀ x ∈ l, Bd B x) → drL H' n l = drL H n l) := by
  intro n
  induction n with
  | zero => exact ⟨fun x _ => rfl, fun l _ => rfl⟩
  | succ n ih =>
    obtain ⟨ih1, ih2⟩ := ih
    refine ⟨fun x hx => ?_, fun l hl => ?_⟩
    · simp only [dr]
      split
      · rfl
      · cases hx with
        | agg l h => simp only [ih2 l h]
        | tup l h => simp only [ih2 l h]
        | sl f l h => simp only [ih2 l h]
        | pp l o h => simp only [ih2 l h]
        | fn f a b h g => simp only [ih2 a h, ih2 b g]
        | ms0 k sz off => simp
        | ms k sz off len h =>
          dsimp only
          rcases hB k h with e | ⟨z, els, f, g, e1, e2⟩
          · rw [← e]
            split
            · rfl
            · split
              · rename_i z els fz hbk
                split
                · rename_i part hp
                  have : ∀ x ∈ part, Bd B x := by
                    split at hp
                    · obtain ⟨_, c2, _, _⟩ := cut_some hp
                      intro x hx
                      rw [c2] at hx
                      exact hrow k z els fz h hbk x (List.mem_of_mem_drop (List.mem_of_mem_take hx))
                    · cases hp
                  rw [ih2 part this]
                · rfl
              · rfl
          · simp only [e1, e2]
            split
            · rfl
            · split
              · rename_i part hp
                have : ∀ x ∈ part, Bd B x := by
                  split at hp
                  · obtain ⟨_, c2, _, _⟩ := cut_some hp
                    intro x hx
                    rw [c2] at hx
                    exact hrow k z els f h e1 x (List.mem_of_mem_drop (List.mem_of_mem_take hx))
                  · cases hp
                rw [ih2 part this]
              · rfl
        | ptr k sz i j h =>
          dsimp only
          rcases hB k h with e | ⟨z, els, f, g, e1, e2⟩
          · rw [← e]
            split
            · rename_i z els fz hbk
              split
              · rename_i e0 hp
                have : ∀ x ∈ e0.cells, Bd B x := by
                  split at hp
                  · exact (hrow k z els fz h hbk e0 (List.mem_of_getElem? hp)).cells
                  · cases hp
                rw [ih2 _ this]
              · rfl
            · rfl
          · simp only [e1, e2]
            split
            · rename_i e0 hp
              have : ∀ x ∈ e0.cells, Bd B x := by
                split at hp
                · exact (hrow k z els f h e1 e0 (List.mem_of_getElem? hp)).cells
                · cases hp
              rw [ih2 _ this]
            · rfl
        | _ => rfl
    · simp only [drL]
      split
      · rfl
      · cases l with
        | nil => rfl
        | cons v l => simp only [ih1 v (hl v (by simp)), ih2 l (fun x hx => hl x (by simp [hx]))]

theorem dr_keys : ∀ (n : Nat), (∀ x y ks, dr H n x = some (y, ks) → ∀ k ∈ ks, H.blk k ≠ none) ∧ (∀ l m ks, drL H n l = some (m, ks) → ∀ k ∈ ks, H.blk k ≠ none) := by
  intro n
  induction n with
  | zero =>
    refine ⟨fun x y ks h k hk => ?_, fun l m ks h k hk => ?_⟩
    · simp only [dr] at h; split at h <;> simp at h; obtain ⟨_, rfl⟩ := h; cases hk
    · simp only [drL] at h; split at h <;> simp at h; obtain ⟨_, rfl⟩ := h; cases hk
  | succ n ih =>
    obtain ⟨ih1, ih2⟩ := ih
    refine ⟨fun x y ks h k hk => ?_, fun l m ks h k hk => ?_⟩
    · simp only [dr] at h
      split at h
      · simp at h; obtain ⟨_, rfl⟩ := h; cases hk
      · split at h
        · simp only [Option.map_eq_some_iff, Prod.mk.injEq] at h
          obtain ⟨⟨a, b⟩, h1, _, rfl⟩ := h
          exact ih2 _ _ _ h1 k hk
        · simp only [Option.map_eq_some_iff, Prod.mk.injEq] at h
          obtain ⟨⟨a, b⟩, h1, _, rfl⟩ := h
          exact ih2 _ _ _ h1 k hk
        · split at h
          · rename_i r h1
            split at h
            · simp only [Option.some.injEq, Prod.mk.injEq] at h
              obtain ⟨_, rfl⟩ := h
              exact ih2 _ r.1 r.2 h1 k hk
            · cases h
          · cases h
        · simp only [Option.map_eq_some_iff, Prod.mk.injEq] at h
          obtain ⟨⟨a, b⟩, h1, _, rfl⟩ := h
          exact ih2 _ _ _ h1 k hk
        · split at h
          · rename_i r s h1 h2
            simp only [Option.some.injEq, Prod.mk.injEq] at h
            obtain ⟨_, rfl⟩ := h
            rcases List.mem_append.1 hk with hk | hk
            · exact ih2 _ r.1 r.2 h1 k hk
            · exact ih2 _ s.1 s.2 h2 k hk
          · cases h
        · split at h
          · simp at h; obtain ⟨_, rfl⟩ := h; cases hk
          · split at h
            · rename_i hbk
              split at h
              · split at h
                · rename_i r h1
                  split at h
                  · simp only [Option.some.injEq, Prod.mk.injEq] at h
                    obtain ⟨_, rfl⟩ := h
                    rcases List.mem_cons.1 hk with rfl | hk
                    · rw [hbk]; simp
                    · exact ih2 _ r.1 r.2 h1 k hk
                  · cases h
                · cases h
              · cases h
            · cases h
        · split at h
          · rename_i hbk
            split at h
            · simp only [Option.map_eq_some_iff, Prod.mk.injEq] at h
              obtain ⟨⟨a, b⟩, h1, _, rfl⟩ := h
              rcases List.mem_cons.1 hk with rfl | hk
              · rw [hbk]; simp
              · exact ih2 _ a b h1 k hk
            · cases h
          · cases h
        · cases h
    · simp only [drL] at h
      split at h
      · simp at h; obtain ⟨_, rfl⟩ := h; cases hk
      · split at h
        · simp at h; obtain ⟨_, rfl⟩ := h; cases hk
        · split at h
          · rename_i r s h1 h2
            simp only [Option.some.injEq, Prod.mk.injEq] at h
            obtain ⟨_, rfl⟩ := h
            rcases List.mem_append.1 hk with hk | hk
            · exact ih1 _ r.1 r.2 h1 k hk
            · exact ih2 _ s.1 s.2 h2 k hk
          · cases h
end
end Go.Proofs.YtigfgicjjhepoaaGreatDoor.VA
set_option linter.unusedVariables false
set_option linter.unusedSimpArgs false
namespace Go.Proofs.YtigfgicjjhepoaaGreatDoor.VA
open Go Go.RowKit

/-- What an operation reads. -/
def reads : Op → List Operand
  | .move x | .assign x | .nilCheck x | .fieldAddr _ x _ | .field _ x _ | .unOp _ _ x | .extract x _ | .load _ x | .convert _ _ x | .box _ x | .range _ x | .next x _ => [x]
  | .pick b x y => [b, x, y]
  | .build _ parts | .buildSlice _ _ parts => parts.toList.map (·.2)
  | .indexAddr _ x i | .index _ x i | .binOp _ _ x i _ | .lookup _ x i _ | .store _ x i => [x, i]
  | .slice _ x lo hi mx => x :: (lo.toList ++ hi.toList ++ mx.toList)
  | .makeFunc _ a b => a.toList ++ b.toList
  | .call { callee := .value g, args, .. } => g :: args.toList
  | .call { args, .. } => args.toList
  | .makeSlice _ l m => [l, m]
  | .mapUpdate _ m i v => [m, i, v]
  | _ => []

theorem map_congr_op {ρ ρ' : Operand → PV} {l : List Operand} (h : ∀ y ∈ l, ρ y = ρ' y) : l.map ρ = l.map ρ' := List.map_congr_left h
theorem parts_congr {ρ ρ' : Operand → PV} {l : List (Nat × Operand)} (h : ∀ y ∈ l.map (·.2), ρ y = ρ' y) : (l.map fun p => (p.1, ρ p.2)) = l.map fun p => (p.1, ρ' p.2) :=
  List.map_congr_left fun p hp => by rw [h p.2 (List.mem_map_of_mem hp)]
theorem opt_congr {ρ ρ' : Operand → PV} {o : Option Operand} (h : ∀ y ∈ o.toList, ρ y = ρ' y) : o.map ρ = o.map ρ' := by
  cases o with
  | none => rfl
  | some x => simp [h x (by simp)]

theorem stepV_congr {c : Ctx} {op : Op} {ρ ρ' : Operand → PV} {H : Heap} (h : ∀ y ∈ reads op, ρ y = ρ' y) : stepV c op ρ H = stepV c op ρ' H := by
  cases op with
  | move x => simp only [stepV, h x (by simp [reads])]
  | assign x => simp only [stepV, h x (by simp [reads])]
  | nilCheck x => simp only [stepV, h x (by simp [reads])]
  | fieldAddr t x f => simp only [stepV, h x (by simp [reads])]
  | field t x f => simp only [stepV, h x (by simp [reads])]
  | unOp o t x => simp only [stepV, h x (by simp [reads])]
  | extract x i => simp only [stepV, h x (by simp [reads])]
  | load t x => simp only [stepV, h x (by simp [reads])]
  | convert s d x => simp only [stepV, h x (by simp [reads])]
  | pick b x y => simp only [stepV, h b (by simp [reads]), h x (by simp [reads]), h y (by simp [reads])]
  | build t parts => simp only [stepV, parts_congr (l := parts.toList) (fun y hy => h y (by simpa [reads] using hy))]
  | buildSlice t n parts => simp only [stepV, parts_congr (l := parts.toList) (fun y hy => h y (by simpa [reads] using hy))]
  | indexAddr t x i => simp only [stepV, h x (by simp [reads]), h i (by simp [reads])]
  | index t x i => simp only [stepV, h x (by simp [reads]), h i (by simp [reads])]
  | binOp o t x y m => simp only [stepV, h x (by simp [reads]), h y (by simp [reads])]
  | lookup t x i ok => simp only [stepV, h x (by simp [reads]), h i (by simp [reads])]
  | slice t x lo hi mx =>
    have h1 := opt_congr (o := lo) (fun y hy => h y (by simp [reads] at hy ⊢; simp [hy]))
    have h2 := opt_congr (o := hi) (fun y hy => h y (by simp [reads] at hy ⊢; simp [hy]))
    have h3 := opt_congr (o := mx) (fun y hy => h y (by simp [reads] at hy ⊢; simp [hy]))
    simp only [stepV, h x (by simp [reads]), h1, h2, h3]
  | makeFunc f a b =>
    have h1 := map_congr_op (l := a.toList) (fun y hy => h y (by simp only [reads, List.mem_append]; exact .inl hy))
    have h2 := map_congr_op (l := b.toList) (fun y hy => h y (by simp only [reads, List.mem_append]; exact .inr hy))
    cases f <;> simp only [stepV, h1, h2]
  | call k =>
    obtain ⟨cal, args, ats⟩ := k
    cases cal with
    | builtin b =>
      have hl : ∀ y ∈ args.toList, ρ y = ρ' y := fun y hy => h y (by simpa [reads] using hy)
      cases b <;> simp only [stepV]
      · split
        · rename_i y t ha ht
          rw [hl y (by rw [ha]; simp)]
        · rfl
      · split
        · rename_i y z ha
          rw [hl y (by rw [ha]; simp), hl z (by rw [ha]; simp)]
        · rfl
      · split
        · rename_i y z ha
          rw [hl y (by rw [ha]; simp), hl z (by rw [ha]; simp)]
        · rfl
    | value g => rfl
    | invoke r n => rfl
  | _ => rfl

theorem stepN_congr {c : Ctx} {op : Op} {ρ ρ' : Operand → PV} (h : ∀ y ∈ reads op, ρ y = ρ' y) : stepN c op ρ = stepN c op ρ' := by
  cases op with
  | box t x => simp only [stepN, h x (by simp [reads])]
  | makeSlice t l m => simp only [stepN, h l (by simp [reads]), h m (by simp [reads])]
  | makeMap t r => cases r <;> rfl
  | range t x => simp only [stepN, h x (by simp [reads])]
  | _ => rfl

theorem callee_congr {op : Op} {ρ ρ' : Operand → PV} (h : ∀ y ∈ reads op, ρ y = ρ' y) : callee op ρ = callee op ρ' := by
  cases op with
  | call k =>
    obtain ⟨cal, args, ats⟩ := k
    cases cal with
    | value g =>
      have h1 := map_congr_op (l := args.toList) (fun y hy => h y (by simp only [reads, List.mem_cons]; exact .inr hy))
      simp only [callee, h g (by simp [reads]), h1]
    | builtin b => rfl
    | invoke r n => rfl
  | _ => rfl

theorem stepW_congr {c : Ctx} {O : Orc} {d : Option Nat} {op : Op} {ρ ρ' : Operand → PV} {H : Heap} (h : ∀ y ∈ reads op, ρ y = ρ' y) : stepW c O d op ρ H = stepW c O d op ρ' H := by
  cases op with
  | store t a v => simp only [stepW, h a (by simp [reads]), h v (by simp [reads])]
  | mapUpdate t m i v => simp only [stepW, h m (by simp [reads]), h i (by simp [reads]), h v (by simp [reads])]
  | next it s => cases s <;> simp only [stepW, h it (by simp [reads])]
  | call k =>
    obtain ⟨cal, args, ats⟩ := k
    cases cal with
    | builtin b =>
      have hl : ∀ y ∈ args.toList, ρ y = ρ' y := fun y hy => h y (by simpa [reads] using hy)
      cases b <;> simp only [stepW]
      split
      · rename_i s x t tx d ha _
        rw [hl s (by rw [ha]; simp), hl x (by rw [ha]; simp)]
      · rfl
    | value g =>
      have h1 := map_congr_op (l := args.toList) (fun y hy => h y (by simp only [reads, List.mem_cons]; exact .inr hy))
      cases g <;> simp only [stepW, h1, h _ (show _ ∈ reads _ by simp [reads]; exact .inl rfl)]
    | invoke r n => rfl
  | _ => rfl
end Go.Proofs.YtigfgicjjhepoaaGreatDoor.VA
set_option linter.unusedVariables false
set_option linter.unusedSimpArgs false
namespace Go.Proofs.YtigfgicjjhepoaaGreatDoor.VA
open Go Go.RowKit

theorem stepV_p {c : Ctx} {draw : Bool} {op : Op} {ρ : Operand → PV} (H H' : Heap) (h : clsOf c.pol draw op = .p) : stepV c op ρ H = stepV c op ρ H' := by
  cases op with
  | load t x => simp [clsOf] at h
  | convert s d x => simp [clsOf] at h
  | lookup t x i ok => simp [clsOf] at h
  | makeFunc f a b => cases f <;> rfl
  | call k =>
    obtain ⟨cal, args, ats⟩ := k
    cases cal with
    | builtin b => cases b <;> rfl
    | value g => rfl
    | invoke r n => rfl
  | _ => rfl

section
variable {B : Key → Prop} {H H' : Heap}

theorem SameB.row {x y : Option Blk} (h : SameB x y) (P0 : Option (Nat × List PV) → Prop) : True := trivial

theorem loadV_agree {P : Program} {t : TypeId} {a : PV} (hB : ∀ k, B k → SameB (H.blk k) (H'.blk k)) (ha : Bd B a) : loadV P H' t a = loadV P H t a := by
  cases ha with
  | ptr k sz i j h =>
    simp only [loadV]
    rcases hB k h with e | ⟨z, els, f, g, e1, e2⟩
    · rw [← e]
    · rw [e1, e2]
  | _ => rfl

theorem stepV_agree {c : Ctx} {op : Op} {ρ : Operand → PV} (hB : ∀ k, B k → SameB (H.blk k) (H'.blk k)) (hrow : ∀ k sz els fz, B k → H.blk k = some (.row sz els fz) → ∀ e ∈ els, Bd B e) (hρ : ∀ y, Bd B (ρ y)) :
    stepV c op ρ H' = stepV c op ρ H := by
  cases op with
  | load t x => exact loadV_agree hB (hρ x)
  | convert s d x =>
    have hx := (dr_agree hB hrow 2).1 (ρ x) (hρ x)
    simp only [stepV]
    generalize ρ x = v at hx
    split
    · rfl
    · rfl
    · rfl
    · rw [hx]
    · rfl
  | makeFunc f a b => cases f <;> rfl
  | lookup t x i ok =>
    simp only [stepV]
    cases keyT c.P t with
    | none => rfl
    | some q =>
      have hx := hρ x
      generalize ρ x = v at hx
      cases hx with
      | mapr k h =>
        rcases hB k h with e | ⟨z, els, f, g, e1, e2⟩
        · simp only [← e]
        · simp only [e1, e2]
      | _ => rfl
  | call k =>
    obtain ⟨cal, args, ats⟩ := k
    cases cal with
    | builtin b => cases b <;> rfl
    | value g => rfl
    | invoke r n => rfl
  | _ => rfl

theorem stepC_agree {c : Ctx} {O : Orc} {f : FuncId} {args : List PV} (hB : ∀ k, B k → SameB (H.blk k) (H'.blk k)) (hrow : ∀ k sz els fz, B k → H.blk k = some (.row sz els fz) → ∀ e ∈ els, Bd B e) (hρ : ∀ y ∈ args, Bd B y) :
    stepC c O f args H' = stepC c O f args H := by
  simp only [stepC, (dr_agree hB hrow 12).2 args hρ]
end

/-- The step at a place: the value, and what it does to the heap. -/
def stepE (c : Ctx) (O : Orc) (ops : Array Oper) (i : Nat) (tm : Nat → PV) (H : Heap) : Option (PV × Eff) :=
  match ops[i]? with
  | none => none
  | some o => match wantedV ops o ⟨tm, H⟩ with
    | none => none
    | some true => evEff c O true o (opv c.pol.glob tm) H
    | some false => some (.tup [], .keep)

def stepH (c : Ctx) (O : Orc) (ops : Array Oper) (i : Nat) (tm : Nat → PV) (H : Heap) : Option (PV × Heap) :=
  match ops[i]? with
  | none => none
  | some o => match wantedV ops o ⟨tm, H⟩ with
    | none => none
    | some true => match clsOf c.pol true o.op with
      | .w => stepW c O o.dst o.op (opv c.pol.glob tm) H
      | _ => (evEff c O true o (opv c.pol.glob tm) H).map fun r => (r.1, r.2.app c.path H)
    | some false => some (.tup [], H)

def dstOf (ops : Array Oper) (i : Nat) : Option Nat := (ops[i]?).bind (·.dst)
def clsAt (c : Ctx) (ops : Array Oper) (i : Nat) : Cls :=
  match ops[i]? with
  | some o => clsOf c.pol true o.op
  | none => .p

/-- The temporaries that the step at a place reads. -/
def rdOf (ops : Array Oper) (i : Nat) : List Nat :=
  match ops[i]? with
  | none => []
  | some o => (match o.guard with
    | some (j, _) => ((ops[j]?).bind (·.dst)).toList
    | none => []) ++ (reads o.op).filterMap fun
    | .tmp t => some t
    | _ => none

theorem evStep_eq {c : Ctx} {O : Orc} {ops : Array Oper} {i : Nat} {st : St} : evStep c O true ops i st = (stepH c O ops i st.tm st.hp).map fun r => { tm := (st.put (dstOf ops i) r.1).tm, hp := r.2 } := by
  unfold evStep stepH dstOf
  cases ho : ops[i]? with
  | none => rfl
  | some o =>
    simp only [Option.bind_some]
    cases hw : wantedV ops o st with
    | none => simp [hw]
    | some b =>
      cases b with
      | false =>
        simp only [hw, Option.map_some]
        congr 1
        cases o.dst <;> rfl
      | true =>
        simp only [hw]
        unfold evOp
        split
        · rename_i hc; simp [hc]
        · rename_i hc
          cases hcl : clsOf c.pol true o.op with
          | w => exact absurd hcl hc
          | _ => simp [Option.map_map]; rfl

theorem opv_congr {g : Nat → PV} {tm tm' : Nat → PV} {l : List Operand} (h : ∀ t ∈ (l.filterMap fun | Operand.tmp t => some t | _ => none), tm t = tm' t) : ∀ y ∈ l, opv g tm y = opv g tm' y := by
  intro y hy
  cases y with
  | tmp t => exact h t (List.mem_filterMap.2 ⟨_, hy, rfl⟩)
  | _ => rfl

theorem wantedV_congr {ops : Array Oper} {o : Oper} {tm tm' : Nat → PV} {H H' : Heap} (h : ∀ j b, o.guard = some (j, b) → ∀ d, (ops[j]?).bind (·.dst) = some d → tm d = tm' d) : wantedV ops o ⟨tm, H⟩ = wantedV ops o ⟨tm', H'⟩ := by
  unfold wantedV
  cases hg : o.guard with
  | none => rfl
  | some q =>
    obtain ⟨j, b⟩ := q
    dsimp only
    cases hd : (ops[j]?).bind (·.dst) with
    | none => rfl
    | some d => simp only [h j b hg d hd]

/-- Only what it reads matters. -/
theorem stepH_congr {c : Ctx} {O : Orc} {ops : Array Oper} {i : Nat} {tm tm' : Nat → PV} {H : Heap} (h : ∀ t ∈ rdOf ops i, tm t = tm' t) : stepH c O ops i tm H = stepH c O ops i tm' H ∧ stepE c O ops i tm H = stepE c O ops i tm' H := by
  unfold stepH stepE
  unfold rdOf at h
  cases ho : ops[i]? with
  | none => exact ⟨rfl, rfl⟩
  | some o =>
    simp only [ho, List.mem_append] at h ⊢
    have hw : wantedV ops o ⟨tm, H⟩ = wantedV ops o ⟨tm', H⟩ := wantedV_congr (fun j b hg d hd => h d (.inl (by rw [hg]; simp [hd])))
    have hr := opv_congr (g := c.pol.glob) (l := reads o.op) (tm := tm) (tm' := tm') (fun t ht => h t (.inr ht))
    rw [hw]
    have he : evEff c O true o (opv c.pol.glob tm) H = evEff c O true o (opv c.pol.glob tm') H := by
      unfold evEff
      rw [stepV_congr hr, stepN_congr hr, callee_congr hr]
    rw [he, stepW_congr hr]
    exact ⟨rfl, rfl⟩

/-- A step that is no writing one. -/
theorem stepH_stepE {c : Ctx} {O : Orc} {ops : Array Oper} {i : Nat} {tm : Nat → PV} {H : Heap} (h : clsAt c ops i ≠ .w) : stepH c O ops i tm H = (stepE c O ops i tm H).map fun r => (r.1, r.2.app c.path H) := by
  unfold stepH stepE
  unfold clsAt at h
  cases ho : ops[i]? with
  | none => rfl
  | some o =>
    simp only [ho] at h ⊢
    cases wantedV ops o ⟨tm, H⟩ with
    | none => rfl
    | some b =>
      cases b with
      | false => rfl
      | true =>
        dsimp only
        split
        · rename_i hc; exact absurd hc h
        · rfl

/-- A step that asks no heap. -/
theorem stepE_p {c : Ctx} {O : Orc} {ops : Array Oper} {i : Nat} {tm : Nat → PV} {H H' : Heap} (h : clsAt c ops i = .p) : stepE c O ops i tm H = stepE c O ops i tm H' ∧ ∀ v e, stepE c O ops i tm H = some (v, e) → e = .keep := by
  unfold stepE
  unfold clsAt at h
  cases ho : ops[i]? with
  | none => exact ⟨rfl, fun v e h => by cases h⟩
  | some o =>
    simp only [ho] at h ⊢
    rw [wantedV_congr (tm := tm) (tm' := tm) (H := H) (H' := H') (fun _ _ _ _ _ => rfl)]
    cases wantedV ops o ⟨tm, H'⟩ with
    | none => exact ⟨rfl, fun v e h => by cases h⟩
    | some b =>
      cases b with
      | false => exact ⟨rfl, fun v e h => by simp at h; exact h.2.symm⟩
      | true =>
        simp only [evEff, h]
        refine ⟨by rw [stepV_p H H' h], fun v e he => ?_⟩
        simp only [Option.map_eq_some_iff, Prod.mk.injEq] at he
        obtain ⟨_, _, _, rfl⟩ := he
        rfl
end Go.Proofs.YtigfgicjjhepoaaGreatDoor.VA
set_option linter.unusedVariables false
set_option linter.unusedSimpArgs false
namespace Go.Proofs.YtigfgicjjhepoaaGreatDoor.VA
open Go Go.RowKit

/-- What a state must be for an exchange: no key that is not yet laid occurs. -/
structure Fit (c : Ctx) (B : Key → Prop) (st : St) : Prop where
  ops : ∀ y, Bd B (opv c.pol.glob st.tm y)
  rows : ∀ k sz els fz, B k → st.hp.blk k = some (.row sz els fz) → ∀ e ∈ els, Bd B e
  fresh : ∀ d n, st.hp.cnt c.path d ≤ n → ¬ B (c.path, d, n) ∧ st.hp.blk (c.path, d, n) = none

/-- A fact of an effect, at a heap. -/
def EffOk (H : Heap) (d : Option Nat) : Eff → Prop
  | .keep => True
  | .lay e _ => d = some e
  | .frz ks => ∀ k ∈ ks, H.blk k ≠ none

section
variable {c : Ctx} {O : Orc} {ops : Array Oper} {B : Key → Prop} {st : St}

theorem Fit.agree (h : Fit c B st) (e : Eff) : ∀ k, B k → SameB (st.hp.blk k) ((e.app c.path st.hp).blk k) := by
  intro k hk
  cases e with
  | keep => exact .inl rfl
  | lay d b =>
    left
    simp only [Eff.app, Heap.alloc]
    rw [if_neg (fun e => (h.fresh d (st.hp.cnt c.path d) (Nat.le_refl _)).1 (by rw [e] at hk; exact hk))]
  | frz ks =>
    simp only [Eff.app, Heap.freeze]
    cases hb : st.hp.blk k with
    | none => exact .inl rfl
    | some x =>
      cases x with
      | row sz els fz => exact .inr ⟨sz, els, _, _, rfl, rfl⟩
      | map d es => exact .inl rfl
      | iter s p => exact .inl rfl
      | loop => exact .inl rfl

theorem callee_bd {op : Op} {ρ : Operand → PV} (h : ∀ y, Bd B (ρ y)) {f : FuncId} {as : List PV} (hc : callee op ρ = some (f, as)) : ∀ y ∈ as, Bd B y := by
  cases op with
  | call k =>
    obtain ⟨cal, args, ats⟩ := k
    cases cal with
    | value g =>
      simp only [callee] at hc
      have hg := h g
      split at hc
      · rename_i f' first cap hf
        simp only [Option.some.injEq, Prod.mk.injEq] at hc
        obtain ⟨rfl, rfl⟩ := hc
        rw [hf] at hg
        cases hg with
        | fn _ _ _ h1 h2 =>
          intro y hy
          simp only [List.mem_append, List.mem_map] at hy
          rcases hy with (hy | ⟨x, _, rfl⟩) | hy
          · exact h1 y hy
          · exact h x
          · exact h2 y hy
      · cases hc
    | builtin b => simp [callee] at hc
    | invoke r n => simp [callee] at hc
  | _ => simp [callee] at hc

theorem cnt_app {p : List Nat} {d : Nat} {e : Eff} (H : Heap) (h : ∀ b, e ≠ .lay d b) : (e.app p H).cnt p d = H.cnt p d := by
  cases e with
  | keep => rfl
  | lay d' b =>
    simp only [Eff.app, Heap.alloc]
    rw [if_neg (fun e => h b (by rw [e.2]))]
  | frz ks => rfl

theorem Fit.after (h : Fit c B st) {i : Nat} (e : Eff) (he : ∀ d b, e = .lay d b → dstOf ops i ≠ some d) : stepE c O ops i st.tm (e.app c.path st.hp) = stepE c O ops i st.tm st.hp := by
  unfold stepE
  unfold dstOf at he
  cases ho : ops[i]? with
  | none => rfl
  | some o =>
    simp only [ho, Option.bind_some] at he ⊢
    rw [wantedV_congr (tm := st.tm) (tm' := st.tm) (H := e.app c.path st.hp) (H' := st.hp) (fun _ _ _ _ _ => rfl)]
    cases wantedV ops o ⟨st.tm, st.hp⟩ with
    | none => rfl
    | some b =>
      cases b with
      | false => rfl
      | true =>
        simp only [evEff]
        have hV := stepV_agree (c := c) (op := o.op) (h.agree e) h.rows h.ops
        split
        · rw [hV]
        · rw [hV]
        · cases hd : o.dst with
          | none => rfl
          | some d =>
            simp only [Heap.next]
            rw [cnt_app st.hp (fun b hb => he d b hb hd)]
        · split
          · rename_i f as hc
            rw [stepC_agree (h.agree e) h.rows (callee_bd h.ops hc)]
          · rfl
        · rfl

theorem stepE_ok {i : Nat} {tm : Nat → PV} {H : Heap} {v : PV} {e : Eff} (h : stepE c O ops i tm H = some (v, e)) : EffOk H (dstOf ops i) e := by
  unfold stepE at h
  unfold dstOf
  cases ho : ops[i]? with
  | none => simp [ho] at h
  | some o =>
    simp only [ho, Option.bind_some] at h ⊢
    split at h
    · cases h
    · unfold evEff at h
      split at h
      · simp only [Option.map_eq_some_iff, Prod.mk.injEq] at h; obtain ⟨_, _, _, rfl⟩ := h; trivial
      · simp only [Option.map_eq_some_iff, Prod.mk.injEq] at h; obtain ⟨_, _, _, rfl⟩ := h; trivial
      · split at h
        · rename_i d hd
          simp only [Option.map_eq_some_iff, Prod.mk.injEq] at h
          obtain ⟨_, _, _, rfl⟩ := h
          exact hd
        · cases h
      · split at h
        · rename_i f as hc
          simp only [Option.map_eq_some_iff, Prod.mk.injEq] at h
          obtain ⟨r, hr, _, rfl⟩ := h
          unfold stepC at hr
          split at hr
          · cases hr
          · rename_i as' ks hd
            split at hr
            · cases hr
            · simp only [Option.map_eq_some_iff] at hr
              obtain ⟨x, _, rfl⟩ := hr
              intro k hk
              dsimp only at hk
              split at hk
              · cases hk
              · exact (dr_keys 12).2 _ _ _ hd k hk
        · cases h
      · cases h
    · simp at h
      rw [← h.2]; trivial

theorem Fit.comm (h : Fit c B st) {e1 e2 : Eff} {d1 d2 : Option Nat} (h1 : EffOk st.hp d1 e1) (h2 : EffOk st.hp d2 e2) (hd : ∀ d, d1 = some d → d2 ≠ some d) : e1.app c.path (e2.app c.path st.hp) = e2.app c.path (e1.app c.path st.hp) := by
  have fr : ∀ d, st.hp.blk (st.hp.next c.path d) = none := fun d => (h.fresh d _ (Nat.le_refl _)).2
  have lf : ∀ d b ks, (∀ k ∈ ks, st.hp.blk k ≠ none) → (st.hp.freeze ks).alloc c.path d b = (st.hp.alloc c.path d b).freeze ks := fun d b ks hks => by
    have hn : st.hp.next c.path d ∉ ks := fun hm => hks _ hm (fr d)
    simp only [Heap.alloc, Heap.freeze, Heap.next, Heap.mk.injEq, and_true]
    funext j
    have hn' : (c.path, d, st.hp.cnt c.path d) ∉ ks := hn
    by_cases e : j = (c.path, d, st.hp.cnt c.path d)
    · subst e
      cases b <;> simp [hn']
    · simp [e]
  cases e1 with
  | keep => rfl
  | lay a b =>
    cases e2 with
    | keep => rfl
    | lay a' b' =>
      have hne : a ≠ a' := fun e => hd a h1 (by rw [e]; exact h2)
      simp only [Eff.app, Heap.alloc, Heap.next, Heap.mk.injEq]
      refine ⟨?_, ?_⟩
      · funext j
        simp only [hne, hne.symm, and_false, if_false]
        by_cases e : j = (c.path, a, st.hp.cnt c.path a)
        · have e' : j ≠ (c.path, a', st.hp.cnt c.path a') := fun e2 => hne (by rw [e] at e2; simpa using congrArg (·.2.1) e2)
          subst e
          simp [hne]
        · by_cases e' : j = (c.path, a', st.hp.cnt c.path a')
          · subst e'; simp [hne.symm]
          · simp [e, e']
      · funext q x
        by_cases e : q = c.path ∧ x = a
        · have e' : ¬ (q = c.path ∧ x = a') := fun e2 => hne (by rw [← e.2, e2.2])
          simp only [if_pos e, if_neg e']
        · simp only [if_neg e]
    | frz ks => exact lf a b ks h2
  | frz ks =>
    cases e2 with
    | keep => rfl
    | lay a b => exact (lf a b ks h1).symm
    | frz ks' =>
      simp only [Eff.app, Heap.freeze, Heap.mk.injEq, and_true]
      funext j
      cases st.hp.blk j with
      | none => rfl
      | some x =>
        cases x with
        | row sz els fz => simp only [Bool.or_assoc, Bool.or_comm (decide (j ∈ ks'))]
        | map d es => rfl
        | iter s p => rfl
        | loop => rfl

/-- Two places whose steps do not touch one another. -/
structure Apart (c : Ctx) (ops : Array Oper) (i j : Nat) : Prop where
  dst : ∀ d, dstOf ops i = some d → dstOf ops j ≠ some d
  rdi : ∀ d, dstOf ops j = some d → d ∉ rdOf ops i
  rdj : ∀ d, dstOf ops i = some d → d ∉ rdOf ops j
  cls : clsAt c ops i = .p ∨ clsAt c ops j = .p ∨ (clsAt c ops i ≠ .w ∧ clsAt c ops j ≠ .w)

theorem put_get {st : St} {d : Option Nat} {v : PV} {t : Nat} (h : ∀ e, d = some e → t ≠ e) : (st.put d v).tm t = st.tm t := by
  cases d with
  | none => rfl
  | some d => simp only [St.put]; rw [if_neg (h d rfl)]

theorem put_comm {tm : Nat → PV} {H H' G G' K : Heap} {d e : Option Nat} {v u : PV} (h : ∀ x, d = some x → e ≠ some x) :
    (St.put ⟨(St.put ⟨tm, H⟩ d v).tm, H'⟩ e u).tm = (St.put ⟨(St.put ⟨tm, G⟩ e u).tm, G'⟩ d v).tm := by
  cases d with
  | none => cases e <;> rfl
  | some d =>
    cases e with
    | none => rfl
    | some e =>
      have hne : d ≠ e := fun q => h d rfl (by rw [q])
      funext i
      simp only [St.put]
      by_cases a : i = e
      · rw [if_pos a, if_neg (fun q => hne (q.symm.trans a)), if_pos a]
      · rw [if_neg a]
        by_cases b : i = d
        · rw [if_pos b, if_pos b]
        · rw [if_neg b, if_neg b, if_neg a]

theorem swap (hF : Fit c B st) {i j : Nat} (ha : Apart c ops i j) {s1 s2 : St} (h1 : evStep c O true ops i st = some s1) (h2 : evStep c O true ops j s1 = some s2) :
    ∃ s, evStep c O true ops j st = some s ∧ evStep c O true ops i s = some s2 := by
  rw [evStep_eq, Option.map_eq_some_iff] at h1 h2
  obtain ⟨⟨vi, Hi⟩, h1, rfl⟩ := h1
  obtain ⟨⟨vj, Hij⟩, h2, rfl⟩ := h2
  dsimp only at h2
  have cj : ∀ (H : Heap), stepH c O ops j (st.put (dstOf ops i) vi).tm H = stepH c O ops j st.tm H := fun H => (stepH_congr (fun t ht => put_get (fun e he q => ha.rdj e he (q ▸ ht)))).1
  have ci : ∀ (u : PV) (H : Heap), stepH c O ops i (st.put (dstOf ops j) u).tm H = stepH c O ops i st.tm H := fun u H => (stepH_congr (fun t ht => put_get (fun e he q => ha.rdi e he (q ▸ ht)))).1
  rw [cj] at h2
  have fin : ∀ {G : Heap}, stepH c O ops j st.tm st.hp = some (vj, G) → stepH c O ops i st.tm G = some (vi, Hij) →
      ∃ s, evStep c O true ops j st = some s ∧ evStep c O true ops i s = some { tm := (St.put ⟨(st.put (dstOf ops i) vi).tm, Hi⟩ (dstOf ops j) vj).tm, hp := Hij } := fun {G} g1 g2 => by
    refine ⟨{ tm := (st.put (dstOf ops j) vj).tm, hp := G }, by rw [evStep_eq, g1]; rfl, ?_⟩
    rw [evStep_eq]
    dsimp only
    rw [ci, g2]
    simp only [Option.map_some, Option.some.injEq, St.mk.injEq, and_true]
    exact (put_comm (tm := st.tm) (H := st.hp) (K := st.hp) ha.dst).symm
  rcases ha.cls with hp | hp | ⟨hi, hj⟩
  · -- i asks no heap
    have hw : clsAt c ops i ≠ .w := by rw [hp]; simp
    rw [stepH_stepE hw, Option.map_eq_some_iff] at h1
    obtain ⟨⟨v, e⟩, h1, he⟩ := h1
    have hk := (stepE_p (H' := Hij) hp).2 v e h1
    subst hk
    simp only [Eff.app, Prod.mk.injEq] at he
    obtain ⟨rfl, rfl⟩ := he
    refine fin h2 ?_
    rw [stepH_stepE hw, ← (stepE_p (H := st.hp) (H' := Hij) hp).1, h1]
    rfl
  · have hw : clsAt c ops j ≠ .w := by rw [hp]; simp
    rw [stepH_stepE hw, Option.map_eq_some_iff] at h2
    obtain ⟨⟨v, e⟩, h2, he⟩ := h2
    have hk := (stepE_p (H' := Hij) hp).2 v e h2
    subst hk
    simp only [Eff.app, Prod.mk.injEq] at he
    obtain ⟨rfl, rfl⟩ := he
    refine fin (G := st.hp) ?_ h1
    rw [stepH_stepE hw, ← (stepE_p (H := Hi) (H' := st.hp) hp).1, h2]
    rfl
  · rw [stepH_stepE hi, Option.map_eq_some_iff] at h1
    obtain ⟨⟨v, ei⟩, h1, he⟩ := h1
    simp only [Prod.mk.injEq] at he
    obtain ⟨rfl, rfl⟩ := he
    rw [stepH_stepE hj, Option.map_eq_some_iff] at h2
    obtain ⟨⟨v', ej⟩, h2, he⟩ := h2
    simp only [Prod.mk.injEq] at he
    obtain ⟨rfl, rfl⟩ := he
    have oi := stepE_ok h1
    rw [hF.after ei (fun d b e => by subst e; exact ha.dst d oi)] at h2
    have oj := stepE_ok h2
    refine fin (G := ej.app c.path st.hp) (by rw [stepH_stepE hj, h2]; rfl) ?_
    rw [stepH_stepE hi, hF.after ej (fun d b e => by subst e; exact fun q => ha.dst d q oj), h1]
    simp only [Option.map_some, Option.some.injEq, Prod.mk.injEq, true_and]
    exact hF.comm oi oj ha.dst
end
end Go.Proofs.YtigfgicjjhepoaaGreatDoor.VA
set_option linter.unusedVariables false
set_option linter.unusedSimpArgs false
namespace Go.Proofs.YtigfgicjjhepoaaGreatDoor.VA
open Go Go.RowKit

/-- What f does at arguments: the same word for a function with a body and for one of the model's own. -/
def Does (P : Program) (f : FuncId) (vs : Array Value) (w : World) (R : Value → World → Prop) : Prop :=
  (∃ fn c, P.funcs[f]? = some fn ∧ fn.body = some c ∧ (fn.name == "runtime.NumGoroutine") = false ∧ Calls P f vs w (fun e w' => ∃ v, e = .returned v ∧ R v w')) ∨
    ∃ v w', (callFunc f vs).run P w = .ok (.value v) w' ∧ R v w'

/-- The package's variables are as they were laid. -/
def GOk (pol : Pol) (ng : Nat) (w : World) : Prop := ∀ x, (pol.glob x).pers = true ∧ Rep w (fun _ => none) (fun b => ng ≤ b) (pol.glob x) (.pointer (some ⟨x, 0, none⟩))

structure OrcOk (P : Program) (pol : Pol) (O : Orc) : Prop where
  pure : ∀ f args r, O.pure f args = some r → ∀ (ng : Nat) (w : World) (M : Nat → Prop) (vs : Array Value), GOk pol ng w → ng ≤ w.heap.size → (∀ b, M b → b < w.heap.size ∧ ng ≤ b) → Reps w (fun _ => none) M args vs.toList →
    Does P f vs w (fun v w' => Below w.heap.size w w' ∧ Rep w' (fun _ => none) M r v)
  inl : ∀ path f args H r H', O.inl path f args H = some (r, H') → ∀ (ng base : Nat) (Ext : Nat → Prop) (ρ : Key → Option Nat) (w : World) (vs : Array Value), GOk pol ng w → HRel ng base Ext ρ H w → Reps w ρ (Mut Ext ρ H) args vs.toList →
    Does P f vs w (fun v w' => ∃ ρ', Stepd ng base Ext ρ H w w' ρ' H' ∧ Rep w' ρ' (Mut Ext ρ' H') r v)

/-- A fence that keeps nothing out, in a round or in none. -/
def Fr (ro : Option Nat) : Fence := { Fence.wide with round := ro }

theorem calls_fr {ro : Option Nat} {n : Nat} {P : Program} {f : FuncId} {args : Array Value} {w : World} {R : Ending → World → Prop} (h : Calls P f args w R) : CallsIn (Fr ro) n P f args w R :=
  ⟨trivial, fun cs _ => let ⟨e, w', fr, r, s, x⟩ := h cs; ⟨e, w', fr, r, comesIn_wide.2 s, x⟩⟩

section
variable {ng base nt : Nat} {w0 : World} {Ext : Nat → Prop} {D : List Deferred} {ρ : Key → Option Nat} {st : St} {a : Act} {w w' : World} {H : Heap} {pol : Pol} {P : Program}

theorem mut_ng (h : HRel ng base Ext ρ H w) {b : Nat} (hm : Mut Ext ρ H b) : b < w.heap.size ∧ ng ≤ b := by
  rcases hm with hm | ⟨k, sz, els, _, hk⟩
  · have := (h.ext b hm); have := h.size; omega
  · have := h.dom k b hk; have := h.ngb; omega

theorem GOk.below (h : GOk pol ng w) (hb : ng ≤ base) (B : Below base w w') : GOk pol ng w' := fun x => by
  obtain ⟨h1, h2⟩ := h x
  refine ⟨h1, ?_⟩
  -- nothing of the room counts here: no key is bound
  have key : ∀ {x : PV} {v : Value}, Rep w (fun _ => none) (fun b => ng ≤ b) x v → Rep w' (fun _ => none) (fun b => ng ≤ b) x v := by
    intro x v h
    induction h with
    | bool b => exact .bool b
    | int k n => exact .int k n
    | str s => exact .str s
    | agg l cs hl h ih => exact .agg l cs hl ih
    | tup l cs hl h ih => exact .tup l cs hl ih
    | sl0 f a c hf => exact .sl0 f a c hf
    | sl f l b o c sz val hc hf hsz hpos hM h1 h2 ih => exact .sl f l b o c sz val hc hf hsz hpos hM (fun i v j x hi hj => (B.cell (show b < base by omega)).trans (h1 i v j x hi hj)) ih
    | ms0 k sz off a => exact .ms0 k sz off a
    | ms k sz off len b c hk hc hr => cases hk
    | ptr k sz i j b hk => cases hk
    | pp l off b o val hb hM h1 h2 ih => exact .pp l off b o val (Nat.lt_of_lt_of_le hb B.size) hM (fun j x hj => (B.cell (show b < base by omega)).trans (h1 j x hj)) ih
    | nilp => exact .nilp
    | fn f x y a b hx hy h1 h2 ih1 ih2 => exact .fn f x y a b hx hy ih1 ih2
    | nilfn => exact .nilfn
    | mapr k b hk => cases hk
    | nilm => exact .nilm
    | nilif => exact .nilif
    | yld k b hk => cases hk
    | junk v => exact .junk v
  exact key h2

theorem Rep.flat {M M' : Nat → Prop} {ρ' : Key → Option Nat} {x : PV} {v : Value} (h : Rep w ρ M x v) : x.flat = true → Rep w' ρ' M' x v := by
  have lst : ∀ {l : List PV}, PV.flatL l = true → ∀ (i : Nat) (c : PV), l[i]? = some c → c.flat = true := by
    intro l
    induction l with
    | nil => intro _ i c hc; simp at hc
    | cons x l ih =>
      intro hl i c hc
      simp only [PV.flatL, Bool.and_eq_true] at hl
      rcases i with _ | i
      · simp only [List.getElem?_cons_zero, Option.some.injEq] at hc; subst hc; exact hl.1
      · exact ih hl.2 i c (by simpa using hc)
  induction h with
  | bool b => exact fun _ => .bool b
  | int k n => exact fun _ => .int k n
  | str s => exact fun _ => .str s
  | agg l cs hl h ih => exact fun hp => .agg l cs hl (fun i c v hc hv => ih i c v hc hv (lst (by simpa [PV.flat] using hp) i c hc))
  | tup l cs hl h ih => exact fun hp => .tup l cs hl (fun i c v hc hv => ih i c v hc hv (lst (by simpa [PV.flat] using hp) i c hc))
  | sl0 f a c hf => exact fun _ => .sl0 f a c hf
  | sl f l b o c sz val hc hf hsz hpos hM h1 h2 ih =>
    intro hp
    cases l with
    | nil => exact .sl0 f _ c (fun h => by simpa using hf h)
    | cons x l => simp [PV.flat] at hp
  | nilp => exact fun _ => .nilp
  | nilfn => exact fun _ => .nilfn
  | nilm => exact fun _ => .nilm
  | nilif => exact fun _ => .nilif
  | _ => intro hp; simp [PV.flat] at hp

/-- A value is what its operand says. -/
theorem Rel.eval {c : Ctx} (hG : GOk c.pol ng w0) (h : Rel ng base nt w0 Ext D ρ st a w) (y : Operand) : Rep w ρ (Mut Ext ρ st.hp) (opv c.pol.glob st.tm y) (a.eval y) := by
  cases y with
  | tmp t => exact h.tmps t
  | const v => exact rep_ofVal 8 v
  | global x =>
    have hg := hG.below h.heap.ngb h.below x
    exact hg.2.pers (fun b hm => (mut_ng h.heap hm).2) hg.1
  | func f => exact .fn f [] [] #[] #[] rfl rfl (fun i c v h => by simp at h) (fun i c v h => by simp at h)

theorem upon_does {ro : Option Nat} {n : Nat} {o : Oper} {next : Act → World → Prop} {Q : Exit → Act → World → Prop} {f : FuncId} {vs : Array Value} {R : Value → World → Prop} (h : Does P f vs w R) (hn : ∀ v w', R v w' → next (a.put o.dst v) w') :
    o.uponIn (Fr ro) n P a next Q ((callFunc f vs).run P w) := by
  rcases h with ⟨fn, c, hf, hb, hname, hc⟩ | ⟨v, w', hr, hR⟩
  · have hrun : (callFunc f vs).run P w = .ok (.enter f vs) w := by
      have h1 : fn.name ≠ "runtime.NumGoroutine" := by simpa using hname
      simp [callFunc, hf, h1, hb]
    rw [hrun, Oper.uponIn_enter]
    refine ⟨fun h => by simp [Fr, Fence.wide] at h, (calls_fr hc).mono ?_⟩
    rintro e w' ⟨v, rfl, hR⟩
    exact hn v w' hR
  · rw [hr, Oper.uponIn_value]
    exact hn v w' hR
end
end Go.Proofs.YtigfgicjjhepoaaGreatDoor.VA
set_option linter.unusedVariables false
set_option linter.unusedSimpArgs false
namespace Go.Proofs.YtigfgicjjhepoaaGreatDoor.VA
open Go Go.RowKit
section
variable {ng base nt : Nat} {w0 : World} {Ext : Nat → Prop} {D : List Deferred} {ρ : Key → Option Nat} {st : St} {a : Act} {w w' : World} {H : Heap} {pol : Pol} {P : Program}

theorem freeze_nil (H : Heap) : H.freeze [] = H := by
  unfold Heap.freeze
  congr 1
  funext k
  cases H.blk k with
  | none => rfl
  | some x => cases x <;> simp

/-- The machine's call of a function's value. -/
theorem run_call {o : Oper} {g : Operand} {args : Array Operand} {ats : Array TypeId} {ρm : Operand → Value} (ho : o.op = .call { callee := .value g, args := args, argTypes := ats }) {f : FuncId} {x y : Array Value} (hg : ρm g = .func (.func f) x y) :
    (execOp ρm o).run P w = (callFunc f (x ++ args.map ρm ++ y)).run P w := by
  simp only [execOp, ho, resolve, hg, Deferred.ofValue, Sem.run_bind, Sem.run_pure, Result.andThen_ok, invoke]

theorem callee_rep {f : Operand → PV} {g : Operand → Value} {M : Nat → Prop} (hv : ∀ y, Rep w ρ M (f y) (g y)) {op : Op} {fid : FuncId} {as : List PV} (h : callee op f = some (fid, as)) :
    ∃ g0 args ats x y, op = .call { callee := .value g0, args := args, argTypes := ats } ∧ g g0 = .func (.func fid) x y ∧ Reps w ρ M as (x ++ args.map g ++ y).toList := by
  cases op with
  | call k =>
    obtain ⟨cal, args, ats⟩ := k
    cases cal with
    | value g0 =>
      simp only [callee] at h
      have hg := hv g0
      split at h
      · rename_i f' first cap hf
        simp only [Option.some.injEq, Prod.mk.injEq] at h
        obtain ⟨rfl, rfl⟩ := h
        rw [hf] at hg
        generalize hgv : g g0 = u at hg
        cases hg with
        | fn _ _ _ x y hx hy h1 h2 =>
          refine ⟨g0, args, ats, x, y, rfl, hgv, ?_⟩
          have r1 : Reps w ρ M first x.toList := ⟨by simpa using hx, fun i c v hc hv => h1 i c v hc (by simpa using hv)⟩
          have r2 : Reps w ρ M cap y.toList := ⟨by simpa using hy, fun i c v hc hv => h2 i c v hc (by simpa using hv)⟩
          have := (r1.append (arr_rep hv args)).append r2
          simpa using this
      · cases h
    | builtin b => simp [callee] at h
    | invoke r n => simp [callee] at h
  | _ => simp [callee] at h

theorem mut_freeze (h : HRel ng base Ext ρ H w) (ks : List Key) : ∀ b, Mut Ext ρ (H.freeze ks) b → Mut Ext ρ H b := fun b hm =>
  (h.freeze ks).2.1.muts b (mut_ng (h.freeze ks).1 hm).1 hm

/-- A call that freezes. -/
theorem stepC_ok {c : Ctx} {O : Orc} (hO : OrcOk c.P c.pol O) (hG : GOk c.pol ng w) (h : HRel ng base Ext ρ H w) {f : FuncId} {as : List PV} {vs : Array Value} {r : PV} {ks : List Key} (hs : stepC c O f as H = some (r, ks)) (hr : Reps w ρ (Mut Ext ρ H) as vs.toList) :
    Does c.P f vs w (fun v w' => Stepd ng base Ext ρ H w w' ρ (H.freeze ks) ∧ Rep w' ρ (Mut Ext ρ (H.freeze ks)) r v) := by
  unfold stepC at hs
  split at hs
  · cases hs
  rename_i as' ks0 hd
  split at hs
  · cases hs
  simp only [Option.map_eq_some_iff, Prod.mk.injEq] at hs
  obtain ⟨r0, hp, rfl, rfl⟩ := hs
  have hfz := h.freeze ks0
  have hkey : ∀ k b, k ∈ ks0 → ρ k = some b → ¬ Mut Ext ρ (H.freeze ks0) b := fun k b hk hb => hfz.2.2 k b hk hb (Option.ne_none_iff_exists'.1 ((dr_keys 12).2 _ _ _ hd k hk))
  have hrep := (dr_ok (ρ' := fun _ => none) h.rows (mut_freeze h ks0) 12).2 as as' ks0 vs.toList hd hkey hr
  have hD := hO.pure f as' r0 hp ng w (Mut Ext ρ (H.freeze ks0)) vs hG (Nat.le_trans h.ngb h.size) (fun b hm => mut_ng hfz.1 hm) hrep
  have fin : ∀ v w', (Below w.heap.size w w' ∧ Rep w' (fun _ => none) (Mut Ext ρ (H.freeze ks0)) r0 v) →
      Stepd ng base Ext ρ H w w' ρ (H.freeze (if r0.flat then [] else ks0)) ∧ Rep w' ρ (Mut Ext ρ (H.freeze (if r0.flat then [] else ks0))) r0 v := by
    rintro v w' ⟨hB, hv⟩
    by_cases hfl : r0.flat = true
    · simp only [hfl, if_true, freeze_nil]
      exact ⟨⟨hB.mono h.size, h.below hB, evo_below h hB _⟩, hv.flat hfl⟩
    · simp only [hfl, if_false, Bool.false_eq_true]
      refine ⟨⟨hB.mono h.size, hfz.1.below hB, hfz.2.1.trans (evo_below hfz.1 hB _)⟩, ?_⟩
      exact hv.evo ⟨fun _ _ h => (by cases h), fun _ _ h _ => h, fun _ _ h => h, fun _ _ h => h, Nat.le_refl _, fun _ _ h => h⟩
  rcases hD with ⟨fn, cd, h1, h2, h3, h4⟩ | ⟨v, w', h1, h2⟩
  · exact .inl ⟨fn, cd, h1, h2, h3, fun cs => let ⟨e, w', fr, ⟨v, he, hR⟩, s, x⟩ := h4 cs; ⟨e, w', fr, ⟨v, he, fin v w' hR⟩, s, x⟩⟩
  · exact .inr ⟨v, w', h1, fin v w' h2⟩

/-- What an operation may turn a state into. -/
structure Went (ng base nt : Nat) (w0 : World) (Ext : Nat → Prop) (D : List Deferred) (ρ : Key → Option Nat) (H : Heap) (w : World) (st' : St) (a' : Act) (w' : World) : Prop where
  rel : ∃ ρ', Rel ng base nt w0 Ext D ρ' st' a' w' ∧ Evo w ρ (Mut Ext ρ H) w' ρ' (Mut Ext ρ' st'.hp)

theorem went (h : Rel ng base nt w0 Ext D ρ st a w) {d : Option Nat} (hd : ∀ i, d = some i → i < nt) {ρ' : Key → Option Nat} {H' : Heap} (hs : Stepd ng base Ext ρ st.hp w w' ρ' H') {x : PV} {v : Value} (hx : Rep w' ρ' (Mut Ext ρ' H') x v) :
    Went ng base nt w0 Ext D ρ st.hp w { tm := (st.put d x).tm, hp := H' } (a.put d v) w' := by
  have h0 : Rel ng base nt w0 Ext D ρ' { tm := st.tm, hp := H' } a w' := ⟨fun i => (h.tmps i).evo hs.evo, h.size, h.defers, h.below.trans hs.below, hs.heap⟩
  have h1 := h0.put d hd hx
  refine ⟨ρ', ?_, hs.evo⟩
  have e : St.put { tm := st.tm, hp := H' } d x = { tm := (st.put d x).tm, hp := H' } := by cases d <;> rfl
  rw [e] at h1
  exact h1

theorem opMaps (h : HRel ng base Ext ρ H w) : ∀ k d es b, H.blk k = some (.map d es) → ρ k = some b → BlkRel w ρ (Mut Ext ρ H) b (.map d es) := by
  intro k d es b hk hb
  rcases h.blk k _ hk with ⟨sz', fz', h0, hn⟩ | ⟨b', hb', hr⟩
  · cases h0
  · rw [hb'] at hb; cases hb; exact hr

theorem rep_unit {M : Nat → Prop} : Rep w ρ M (.tup []) undef := .tup [] #[] rfl (fun i c v h => by simp at h)

theorem evOp_ok {c : Ctx} {O : Orc} (hP : POk c.P c.pol) (hO : OrcOk c.P c.pol O) (hG : GOk c.pol ng w0) (h : Rel ng base nt w0 Ext D ρ st a w) {draw : Bool} {o : Oper} (hd : ∀ i, o.dst = some i → i < nt) {st' : St}
    (hs : evOp c O draw o st = some st') {ro : Option Nat} {n : Nat} {next : Act → World → Prop} {Q : Exit → Act → World → Prop} (hn : ∀ a' w', Went ng base nt w0 Ext D ρ st.hp w st' a' w' → next a' w') :
    o.wpIn (Fr ro) n c.P a w next Q := by
  have hv := h.eval hG
  have hGw : GOk c.pol ng w := hG.below h.heap.ngb h.below
  refine ⟨fun f _ => trivial, ?_⟩
  have valued : ∀ {v : Value} {w' : World} {ρ' : Key → Option Nat} {H' : Heap} {x : PV}, (execOp a.eval o).run c.P w = .ok (.value v) w' → (∀ q, o.op ≠ .defer q) → Stepd ng base Ext ρ st.hp w w' ρ' H' → Rep w' ρ' (Mut Ext ρ' H') x v →
      st' = { tm := (st.put o.dst x).tm, hp := H' } → o.uponIn (Fr ro) n c.P a next Q ((o.semAt (Fr ro).round a.eval).run c.P w) := by
    intro v w' ρ' H' x hrun hdf hS hx he
    rw [Oper.semAt_eq _ _ _ hdf, hrun, Oper.uponIn_value]
    rw [he] at hn
    exact hn _ _ (went h hd hS hx)
  have skipped : ∀ {w' : World} {ρ' : Key → Option Nat} {H' : Heap}, (execOp a.eval o).run c.P w = .ok .skip w' → (∀ q, o.op ≠ .defer q) → Stepd ng base Ext ρ st.hp w w' ρ' H' →
      st' = { tm := (st.put o.dst (.tup [])).tm, hp := H' } → o.uponIn (Fr ro) n c.P a next Q ((o.semAt (Fr ro).round a.eval).run c.P w) := by
    intro w' ρ' H' hrun hdf hS he
    rw [Oper.semAt_eq _ _ _ hdf, hrun, Oper.uponIn_skip]
    rw [he] at hn
    exact hn _ _ (went h hd hS rep_unit)
  have called : ∀ {f : FuncId} {vs : Array Value} {R : Value → World → Prop} {H' : Heap} {x : PV}, (execOp a.eval o).run c.P w = (callFunc f vs).run c.P w → (∀ q, o.op ≠ .defer q) → Does c.P f vs w (fun v w' => ∃ ρ', Stepd ng base Ext ρ st.hp w w' ρ' H' ∧ Rep w' ρ' (Mut Ext ρ' H') x v) →
      st' = { tm := (st.put o.dst x).tm, hp := H' } → o.uponIn (Fr ro) n c.P a next Q ((o.semAt (Fr ro).round a.eval).run c.P w) := by
    intro f vs R H' x hrun hdf hD he
    rw [Oper.semAt_eq _ _ _ hdf, hrun]
    rw [he] at hn
    exact upon_does hD (fun v w' ⟨ρ', hS, hx⟩ => hn _ _ (went h hd hS hx))
  have valV : ∀ {x : PV}, stepV c o.op (opv c.pol.glob st.tm) st.hp = some x → (∀ q, o.op ≠ .defer q) → st' = { tm := (st.put o.dst x).tm, hp := st.hp } → o.uponIn (Fr ro) n c.P a next Q ((o.semAt (Fr ro).round a.eval).run c.P w) := by
    intro x hx hdf he
    obtain ⟨v, w', hrun, hB, hr⟩ := stepV_ok hP h.heap.rows (opMaps h.heap) (fun b hm => (mut_ng h.heap hm).1) hv hx
    exact valued hrun hdf ⟨hB.mono h.heap.size, h.heap.below hB, evo_below h.heap hB _⟩ hr he
  have callC : ∀ {f : FuncId} {as : List PV} {r : PV} {ks : List Key}, callee o.op (opv c.pol.glob st.tm) = some (f, as) → stepC c O f as st.hp = some (r, ks) → st' = { tm := (st.put o.dst r).tm, hp := st.hp.freeze ks } →
      o.uponIn (Fr ro) n c.P a next Q ((o.semAt (Fr ro).round a.eval).run c.P w) := by
    intro f as r ks hc hsc he
    obtain ⟨g0, args, ats, x, y, ho, hg, hR⟩ := callee_rep hv hc
    refine called (R := fun _ _ => True) (run_call ho hg) (fun q e => by rw [ho] at e; cases e) ?_ he
    rcases stepC_ok hO hGw h.heap hsc hR with ⟨fn, cd, h1, h2, h3, h4⟩ | ⟨v, w', h1, h2⟩
    · exact .inl ⟨fn, cd, h1, h2, h3, fun cs => let ⟨e, w', fr, ⟨v, he, hR⟩, s, x⟩ := h4 cs; ⟨e, w', fr, ⟨v, he, ρ, hR⟩, s, x⟩⟩
    · exact .inr ⟨v, w', h1, ρ, h2⟩
  have callI : ∀ {f : FuncId} {as : List PV} {r : PV} {H' : Heap} {path : List Nat}, callee o.op (opv c.pol.glob st.tm) = some (f, as) → O.inl path f as st.hp = some (r, H') → st' = { tm := (st.put o.dst r).tm, hp := H' } →
      o.uponIn (Fr ro) n c.P a next Q ((o.semAt (Fr ro).round a.eval).run c.P w) := by
    intro f as r H' path hc hsc he
    obtain ⟨g0, args, ats, x, y, ho, hg, hR⟩ := callee_rep hv hc
    exact called (R := fun _ _ => True) (run_call ho hg) (fun q e => by rw [ho] at e; cases e) (hO.inl path f as st.hp r H' hsc ng base Ext ρ w _ hGw h.heap hR) he
  unfold evOp at hs
  split at hs
  · -- a writing one
    simp only [Option.map_eq_some_iff] at hs
    obtain ⟨⟨x, H'⟩, hs, rfl⟩ := hs
    obtain ⟨dst, op, ty, pos, after, guard⟩ := o
    dsimp only at *
    cases op with
    | store t p q =>
      simp only [stepW, Option.map_eq_some_iff, Prod.mk.injEq] at hs
      obtain ⟨H1, h1, rfl, rfl⟩ := hs
      obtain ⟨w', hr, hS⟩ := storeV_ok h.heap (hv p) (hv q) h1
      exact skipped (by simp only [execOp, Sem.run_bind, hr, Result.andThen_ok, Sem.run_pure]) (fun q e => by cases e) hS rfl
    | mapUpdate t m i q =>
      simp only [stepW] at hs
      split at hs
      rotate_left
      · cases hs
      rename_i d e k hk hm
      split at hs
      rotate_left
      · cases hs
      rename_i d' es hbk
      split at hs
      rotate_left
      · cases hs
      rename_i hc
      obtain ⟨rfl, hik⟩ := hc
      simp only [Option.some.injEq, Prod.mk.injEq] at hs
      obtain ⟨rfl, rfl⟩ := hs
      obtain ⟨w', hr, hS⟩ := map_ok h.heap hk hbk hik (hm ▸ hv m) (hv i) (hv q)
      exact skipped (by simp only [execOp, Sem.run_bind, hr, Result.andThen_ok, Sem.run_pure]) (fun q e => by cases e) hS rfl
    | next it s =>
      cases s with
      | false => simp [stepW] at hs
      | true =>
        simp only [stepW] at hs
        split at hs
        rotate_left
        · cases hs
        rename_i k hit
        split at hs
        rotate_left
        · cases hs
        rename_i s pos' hbk
        obtain ⟨v, w', hr, hS⟩ := next_ok (c := c) (ty := ty) h.heap hbk (hit ▸ hv it)
        have hrun : (execOp a.eval ⟨dst, .next it true, ty, pos, after, guard⟩).run c.P w = .ok (.value v) w' := by simp only [execOp]; exact run_v hr
        split at hs
        · rename_i hp
          simp only [Option.some.injEq, Prod.mk.injEq] at hs
          obtain ⟨rfl, rfl⟩ := hs
          simp only [if_pos hp] at hS
          obtain ⟨hS, rfl⟩ := hS
          refine valued hrun (fun q e => by cases e) hS ?_ rfl
          have := Reps.cons (Rep.bool (w := w') (ρ := ρ) (M := Mut Ext ρ (st.hp.set k (.iter s (pos' + (Utf8.decode s pos').2)))) true) (Reps.cons (Rep.int .i64 (pos' : Int)) (Reps.cons (Rep.int .i32 (Utf8.decode s pos').1) Reps.nil))
          exact .tup _ _ rfl (fun i c v hc hv => this.2 i c v hc (by simpa using hv))
        · rename_i hp
          simp only [Option.some.injEq, Prod.mk.injEq] at hs
          obtain ⟨rfl, rfl⟩ := hs
          simp only [if_neg hp] at hS
          obtain ⟨rfl, rfl⟩ := hS
          refine valued hrun (fun q e => by cases e) (Stepd.refl h.heap) ?_ rfl
          have := Reps.cons (Rep.bool (w := w') (ρ := ρ) (M := Mut Ext ρ st.hp) false) Reps.nil
          exact .tup _ _ rfl (fun i c v hc hv => this.2 i c v hc (by simpa using hv))
    | call k =>
      obtain ⟨cal, args, ats⟩ := k
      cases cal with
      | builtin b =>
        cases b with
        | append =>
          simp only [stepW] at hs
          split at hs
          rotate_left
          · cases hs
          rename_i s y t tx d ha ht
          obtain ⟨args⟩ := args
          obtain ⟨ats⟩ := ats
          simp only at ha ht
          subst ha ht
          obtain ⟨v, w', ρ', hr, hS, hx⟩ := append_ok (ty := ty) hP h.heap (hv s) (hv y) hs
          refine valued (?_ : (execOp a.eval _).run c.P w = .ok (.value v) w') (fun q e => by cases e) hS hx rfl
          simp only [execOp, resolve, Sem.run_bind, Sem.run_pure, Result.andThen_ok, invoke, builtin, List.map_toArray, List.map_cons, List.map_nil]
          rw [hr]
          rfl
        | _ => simp [stepW] at hs
      | value g =>
        have key : ∀ (path : List Nat), (match opv c.pol.glob st.tm g with
            | .fn f first cap => match c.pol.mode f with
              | .inl => O.inl path f (first ++ args.toList.map (opv c.pol.glob st.tm) ++ cap) st.hp
              | _ => match stepC c O f (first ++ args.toList.map (opv c.pol.glob st.tm) ++ cap) st.hp with
                | some (r, ks) => some (r, st.hp.freeze ks)
                | none => none
            | _ => none) = some (x, H') → Oper.uponIn (Fr ro) n c.P ⟨dst, .call ⟨.value g, args, ats⟩, ty, pos, after, guard⟩ a next Q ((Oper.semAt (Fr ro).round a.eval ⟨dst, .call ⟨.value g, args, ats⟩, ty, pos, after, guard⟩).run c.P w) := by
          intro path hs
          split at hs
          rotate_left
          · cases hs
          rename_i f first cap hg
          have hc : callee (.call ⟨.value g, args, ats⟩) (opv c.pol.glob st.tm) = some (f, first ++ args.toList.map (opv c.pol.glob st.tm) ++ cap) := by simp only [callee, hg]
          split at hs
          · exact callI hc hs rfl
          · split at hs
            · rename_i r ks hsc
              simp only [Option.some.injEq, Prod.mk.injEq] at hs
              obtain ⟨rfl, rfl⟩ := hs
              exact callC hc hsc rfl
            · cases hs
        cases g with
        | func f =>
          have hc : callee (.call ⟨.value (.func f), args, ats⟩) (opv c.pol.glob st.tm) = some (f, args.toList.map (opv c.pol.glob st.tm)) := by simp [callee, opv]
          simp only [stepW] at hs
          split at hs
          · exact callI hc hs rfl
          · exact callI hc hs rfl
        | _ => exact key _ hs
      | invoke r m => simp [stepW] at hs
    | _ => simp [stepW] at hs
  · -- the others
    rename_i hcl
    simp only [Option.map_eq_some_iff] at hs
    obtain ⟨⟨x, e⟩, hs, rfl⟩ := hs
    unfold evEff at hs
    split at hs
    · rename_i hc
      simp only [Option.map_eq_some_iff, Prod.mk.injEq] at hs
      obtain ⟨y, hy, rfl, rfl⟩ := hs
      exact valV hy (fun q e => by rw [e] at hc; simp [clsOf] at hc) rfl
    · rename_i hc
      simp only [Option.map_eq_some_iff, Prod.mk.injEq] at hs
      obtain ⟨y, hy, rfl, rfl⟩ := hs
      exact valV hy (fun q e => by rw [e] at hc; simp [clsOf] at hc) rfl
    · rename_i hc
      split at hs
      · rename_i d hdst
        simp only [Option.map_eq_some_iff, Prod.mk.injEq] at hs
        obtain ⟨⟨b, mk⟩, hy, rfl, rfl⟩ := hs
        obtain ⟨v, w', hrun, hL⟩ := stepN_ok hP h.heap hv hy c.path d
        exact valued hrun (fun q e => by rw [e] at hc; simp [clsOf] at hc) ⟨hL.below.mono h.heap.size, hL.heap, hL.evo⟩ hL.rep rfl
      · cases hs
    · rename_i hc
      split at hs
      · rename_i f as hca
        simp only [Option.map_eq_some_iff, Prod.mk.injEq] at hs
        obtain ⟨⟨r, ks⟩, hy, rfl, rfl⟩ := hs
        exact callC hca hy rfl
      · cases hs
    · cases hs
end
end Go.Proofs.YtigfgicjjhepoaaGreatDoor.VA
set_option linter.unusedVariables false
set_option linter.unusedSimpArgs false
namespace Go.Proofs.YtigfgicjjhepoaaGreatDoor.VA
open Go Go.RowKit
section
variable {ng base nt : Nat} {w0 : World} {Ext : Nat → Prop} {D : List Deferred} {ρ : Key → Option Nat} {st : St} {a : Act} {w w' : World} {H : Heap} {c : Ctx} {O : Orc}

/-- Where a region writes. -/
def Dsts (nt : Nat) (ops : Array Oper) : Prop := ∀ (i : Nat) (o : Oper), ops[i]? = some o → ∀ d, o.dst = some d → d < nt

theorem wanted_ok (h : Rel ng base nt w0 Ext D ρ st a w) {ops : Array Oper} {o : Oper} {b : Bool} (hw : wantedV ops o st = some b) : Region.wanted o (yielded ops a.tmps) = b := by
  unfold wantedV at hw
  unfold Region.wanted
  cases hg : o.guard with
  | none => simp [hg] at hw ⊢; exact hw
  | some q =>
    obtain ⟨j, t⟩ := q
    simp only [hg] at hw ⊢
    split at hw
    · rename_i d hd
      split at hw
      · rename_i x hx
        simp only [Option.some.injEq] at hw
        have hr := h.tmps d
        rw [hx] at hr
        have hv : a.tmps.getD d undef = .bool x := hr.bool_inv
        have : a.tmps[d]? = some (.bool x) := by
          rw [Array.getD_eq_getD_getElem?] at hv
          cases hq : a.tmps[d]? with
          | none => rw [hq] at hv; simp [undef] at hv
          | some v => rw [hq] at hv; simpa using hv
        unfold yielded
        rw [hd]
        simp only [Option.bind_some, this]
        rw [← hw]
        cases x <;> cases t <;> rfl
      · rename_i l hx
        simp only [Option.some.injEq] at hw
        subst hw
        have hr := h.tmps d
        rw [hx] at hr
        unfold yielded
        rw [hd]
        simp only [Option.bind_some]
        generalize hv : a.tmps.getD d undef = u at hr
        cases hr with
        | tup _ cs hl hc =>
          rw [Array.getD_eq_getD_getElem?] at hv
          cases hq : a.tmps[d]? with
          | none => rfl
          | some v =>
            rw [hq] at hv
            simp only [Option.getD_some] at hv
            subst hv
            rfl
      · cases hw
    · cases hw

theorem Went.trans {st1 st2 : St} {a1 a2 : Act} {w1 w2 : World} (h : Went ng base nt w0 Ext D ρ H w st1 a1 w1) (g : ∀ ρ1, Rel ng base nt w0 Ext D ρ1 st1 a1 w1 → Went ng base nt w0 Ext D ρ1 st1.hp w1 st2 a2 w2) :
    Went ng base nt w0 Ext D ρ H w st2 a2 w2 := by
  obtain ⟨ρ1, r1, e1⟩ := h.rel
  obtain ⟨ρ2, r2, e2⟩ := (g ρ1 r1).rel
  exact ⟨ρ2, r2, e1.trans e2⟩

theorem skip_ok (h : Rel ng base nt w0 Ext D ρ st a w) {d : Option Nat} (hd : ∀ i, d = some i → i < nt) : Went ng base nt w0 Ext D ρ st.hp w (st.put d (.tup [])) (a.put d undef) w := by
  refine ⟨ρ, h.put d hd rep_unit, ?_⟩
  have e : (st.put d (.tup [])).hp = st.hp := by cases d <;> rfl
  rw [e]
  exact Evo.refl _ _ _

/-- Operations in one order. -/
theorem evList_ok (hP : POk c.P c.pol) (hO : OrcOk c.P c.pol O) (hG : GOk c.pol ng w0) {draw : Bool} {ops : Array Oper} (hD : Dsts nt ops) {ro : Option Nat} {n : Nat} {Q : Exit → Act → World → Prop} {st' : St} :
    ∀ (l : List Nat) (st : St) (ρ : Key → Option Nat) (a : Act) (w : World), Rel ng base nt w0 Ext D ρ st a w → evList c O draw ops l st = some st' →
      (∀ a' w', Went ng base nt w0 Ext D ρ st.hp w st' a' w' → Q .normal a' w') → wpOpsIn (Fr ro) n c.P ops Q l a w
  | [], st, ρ, a, w, h, hs, hn => by
    simp only [evList, Option.some.injEq] at hs
    subst hs
    exact hn a w ⟨ρ, h, Evo.refl _ _ _⟩
  | i :: l, st, ρ, a, w, h, hs, hn => by
    simp only [evList, Option.bind_eq_some_iff] at hs
    obtain ⟨s1, h1, h2⟩ := hs
    unfold evStep at h1
    simp only [wpOpsIn]
    cases ho : ops[i]? with
    | none => simp [ho] at h1
    | some o =>
      simp only [ho] at h1 ⊢
      have go : ∀ a' w', Went ng base nt w0 Ext D ρ st.hp w s1 a' w' → wpOpsIn (Fr ro) n c.P ops Q l a' w' := fun a' w' hw => by
        obtain ⟨ρ1, r1, e1⟩ := hw.rel
        refine evList_ok hP hO hG hD l s1 ρ1 a' w' r1 h2 (fun a2 w2 h3 => hn a2 w2 ?_)
        obtain ⟨ρ2, r2, e2⟩ := h3.rel
        exact ⟨ρ2, r2, e1.trans e2⟩
      cases hw : wantedV ops o st with
      | none => simp [hw] at h1
      | some b =>
        rw [wanted_ok h hw]
        cases b with
        | true =>
          simp only [hw] at h1
          rw [if_pos rfl]
          exact evOp_ok hP hO hG h (hD i o ho) h1 go
        | false =>
          simp only [hw, Option.some.injEq] at h1
          subst h1
          rw [if_neg (by simp)]
          exact ⟨fun f _ => trivial, go _ _ (skip_ok h (hD i o ho))⟩

/-- What an operation leads to is there. -/
theorem wpIn_exists {ro : Option Nat} {n : Nat} {P : Program} {o : Oper} {next : Act → World → Prop} (h : o.wpIn (Fr ro) n P a w next (fun _ _ _ => False)) : ∃ a' w', next a' w' := by
  obtain ⟨_, h⟩ := h
  unfold Oper.uponIn at h
  split at h
  · exact ⟨_, _, h⟩
  · exact ⟨_, _, h⟩
  · exact ⟨_, _, h⟩
  · obtain ⟨_, _, h⟩ := h
    obtain ⟨e, w', fr, hR, _⟩ := h [] (fun d hd => by simp [Fr, Fence.wide] at hd)
    cases e with
    | returned v => exact ⟨_, _, hR⟩
    | panicked ch => exact hR.elim
    | outgrown => obtain ⟨_, _, hq⟩ := hR; exact hq.elim
  · obtain ⟨_, h⟩ := h
    obtain ⟨v, w', hR, _⟩ := h default [] (fun d hd => by simp [Fr, Fence.wide] at hd)
    exact ⟨_, _, hR⟩
  · obtain ⟨_, _, h⟩ := h
    obtain ⟨e, w', hR, _⟩ := h default [] (fun d hd => by simp [Fr, Fence.wide] at hd)
    cases e with
    | returned v => exact ⟨_, _, hR⟩
    | panicked ch => exact hR.elim
    | outgrown => obtain ⟨_, _, hq⟩ := hR; exact hq.elim
  · exact h.elim
  · exact h.elim

theorem evStep_exists (hP : POk c.P c.pol) (hO : OrcOk c.P c.pol O) (hG : GOk c.pol ng w0) {draw : Bool} {ops : Array Oper} (hD : Dsts nt ops) (h : Rel ng base nt w0 Ext D ρ st a w) {i : Nat} {s1 : St} (hs : evStep c O draw ops i st = some s1) :
    ∃ ρ' a' w', Rel ng base nt w0 Ext D ρ' s1 a' w' := by
  unfold evStep at hs
  cases ho : ops[i]? with
  | none => simp [ho] at hs
  | some o =>
    simp only [ho] at hs
    cases hw : wantedV ops o st with
    | none => simp [hw] at hs
    | some b =>
      cases b with
      | true =>
        simp only [hw] at hs
        obtain ⟨a', w', hw'⟩ := wpIn_exists (evOp_ok (ro := none) (n := 0) hP hO hG h (hD i o ho) hs (fun a' w' hh => hh))
        obtain ⟨ρ', r, _⟩ := hw'.rel
        exact ⟨ρ', a', w', r⟩
      | false =>
        simp only [hw, Option.some.injEq] at hs
        subst hs
        obtain ⟨ρ', r, _⟩ := (skip_ok h (hD i o ho)).rel
        exact ⟨ρ', _, _, r⟩

theorem Rel.fit (hG : GOk c.pol ng w0) (h : Rel ng base nt w0 Ext D ρ st a w) : Fit c (fun k => ρ k ≠ none) st := by
  refine ⟨fun y => (h.eval hG y).bd, fun k sz els fz hk hb e he => ?_, fun d n hn => ?_⟩
  · obtain ⟨b, hkb⟩ := Option.ne_none_iff_exists'.1 hk
    obtain ⟨arr, ty, h1, h2, h3, h4, h5⟩ := blk_row h.heap hb hkb
    refine .of_cells (fun y hy => ?_)
    obtain ⟨i, hi, rfl⟩ := List.getElem_of_mem he
    obtain ⟨j, hj, rfl⟩ := List.getElem_of_mem hy
    have hsz := h4 _ (List.getElem_mem hi)
    have hlt : i * sz + j < arr.size := Nat.lt_of_lt_of_le (mul_lt_of hi (by omega)) h2
    exact (h5 i _ j _ _ (List.getElem?_eq_getElem hi) (List.getElem?_eq_getElem hj) (Array.getElem?_eq_getElem hlt)).bd
  · have := h.heap.fresh c.path d n hn
    exact ⟨fun hne => hne this.1, this.2⟩

theorem move_front (hP : POk c.P c.pol) (hO : OrcOk c.P c.pol O) (hG : GOk c.pol ng w0) {ops : Array Oper} (hD : Dsts nt ops) {i : Nat} {B : List Nat} {st' : St} :
    ∀ (A : List Nat) (st : St) (ρ : Key → Option Nat) (a : Act) (w : World), Rel ng base nt w0 Ext D ρ st a w → (∀ x ∈ A, Apart c ops x i) → evList c O true ops (A ++ i :: B) st = some st' → evList c O true ops (i :: (A ++ B)) st = some st'
  | [], st, ρ, a, w, h, hA, hs => hs
  | x :: A, st, ρ, a, w, h, hA, hs => by
    simp only [List.cons_append, evList, Option.bind_eq_some_iff] at hs
    obtain ⟨s1, h1, h2⟩ := hs
    obtain ⟨ρ1, a1, w1, r1⟩ := evStep_exists hP hO hG hD h h1
    have := move_front hP hO hG hD A s1 ρ1 a1 w1 r1 (fun y hy => hA y (List.mem_cons_of_mem _ hy)) h2
    simp only [evList, Option.bind_eq_some_iff] at this
    obtain ⟨s2, h3, h4⟩ := this
    obtain ⟨s, g1, g2⟩ := swap (h.fit hG) (hA x (by simp)) h1 h3
    simp only [List.cons_append, evList, Option.bind_eq_some_iff]
    exact ⟨s, g1, s2, g2, h4⟩

/-- One order for another. -/
theorem perm_ok (hP : POk c.P c.pol) (hO : OrcOk c.P c.pol O) (hG : GOk c.pol ng w0) {ops : Array Oper} (hD : Dsts nt ops) {st' : St} :
    ∀ (l L : List Nat) (st : St) (ρ : Key → Option Nat) (a : Act) (w : World), Rel ng base nt w0 Ext D ρ st a w → l.Perm L → L.Nodup → (∀ x y, [x, y].Sublist L → [y, x].Sublist l → Apart c ops x y) → evList c O true ops L st = some st' → evList c O true ops l st = some st'
  | [], L, st, ρ, a, w, h, hp, hn, hA, hs => by
    have := hp.symm.eq_nil
    subst this
    exact hs
  | i :: l, L, st, ρ, a, w, h, hp, hn, hA, hs => by
    have hi : i ∈ L := hp.subset (by simp)
    obtain ⟨A, B, rfl⟩ := List.append_of_mem hi
    have hpl : l.Perm (A ++ B) := (List.perm_cons i).1 (hp.trans List.perm_middle)
    have h1 := move_front hP hO hG hD A st ρ a w h (fun x hx => hA x i ?_ ?_) hs
    · simp only [evList, Option.bind_eq_some_iff] at h1 ⊢
      obtain ⟨s1, g1, g2⟩ := h1
      obtain ⟨ρ1, a1, w1, r1⟩ := evStep_exists hP hO hG hD h g1
      refine ⟨s1, g1, perm_ok hP hO hG hD l (A ++ B) s1 ρ1 a1 w1 r1 hpl ?_ (fun x y hx hy => hA x y (hx.trans ?_) (hy.trans (List.sublist_cons_self i l))) g2⟩
      · exact hn.sublist (List.Sublist.append (List.Sublist.refl A) (List.sublist_cons_self i B))
      · exact List.Sublist.append (List.Sublist.refl A) (List.sublist_cons_self i B)
    · -- x before i in L
      have e1 : [x].Sublist A := List.singleton_sublist.2 hx
      have e2 : [i].Sublist (i :: B) := List.singleton_sublist.2 (by simp)
      exact e1.append e2
    · have : x ∈ l := hpl.symm.subset (List.mem_append_left _ hx)
      exact (List.singleton_sublist.2 this).cons_cons i
end
end Go.Proofs.YtigfgicjjhepoaaGreatDoor.VA
set_option linter.unusedVariables false
set_option linter.unusedSimpArgs false
namespace Go.Proofs.YtigfgicjjhepoaaGreatDoor.VA
open Go Go.RowKit

theorem before_asymm {x y : Nat} : ∀ {l : List Nat}, l.Nodup → [x, y].Sublist l → ¬ [y, x].Sublist l
  | [], _, h, _ => by cases h
  | z :: l, hn, h, g => by
    have hz := (List.nodup_cons.1 hn).1
    have hn' := (List.nodup_cons.1 hn).2
    cases h with
    | cons _ h =>
      cases g with
      | cons _ g => exact before_asymm hn' h g
      | cons_cons _ g => exact hz (h.subset (by simp))
    | cons_cons _ h =>
      have hy : y ∈ l := h.subset (by simp)
      cases g with
      | cons _ g => exact hz (g.subset (by simp))
      | cons_cons _ g => exact hz (by simpa using hy)

theorem before_trans {x y z : Nat} : ∀ {l : List Nat}, l.Nodup → [x, y].Sublist l → [y, z].Sublist l → [x, z].Sublist l
  | [], _, h, _ => by cases h
  | u :: l, hn, h, g => by
    have hz := (List.nodup_cons.1 hn).1
    have hn' := (List.nodup_cons.1 hn).2
    cases h with
    | cons _ h =>
      cases g with
      | cons _ g => exact (before_trans hn' h g).cons u
      | cons_cons _ g => exact absurd (h.subset (by simp)) hz
    | cons_cons _ h =>
      have hy : y ∈ l := h.subset (by simp)
      cases g with
      | cons _ g => exact ((List.singleton_sublist.2 (g.subset (by simp)))).cons_cons _
      | cons_cons _ g => exact absurd hy hz

theorem before_total {x y : Nat} (hne : x ≠ y) : ∀ {l : List Nat}, x ∈ l → y ∈ l → [x, y].Sublist l ∨ [y, x].Sublist l
  | u :: l, hx, hy => by
    by_cases e1 : x = u
    · subst e1
      rcases List.mem_cons.1 hy with e | hy'
      · exact absurd e.symm hne
      · exact .inl ((List.singleton_sublist.2 hy').cons_cons _)
    · have hx' : x ∈ l := (List.mem_cons.1 hx).resolve_left e1
      by_cases e2 : y = u
      · subst e2
        exact .inr ((List.singleton_sublist.2 hx').cons_cons _)
      · have hy' : y ∈ l := (List.mem_cons.1 hy).resolve_left e2
        rcases before_total hne hx' hy' with h | h
        · exact .inl (h.cons u)
        · exact .inr (h.cons u)

/-- The places that must stand before a place. -/
def preds (ops : Array Oper) (i : Nat) : List Nat :=
  match ops[i]? with
  | some o => (o.after.toList.filter (Region.binds .any)).map (·.on)
  | none => []

theorem exists_min : ∀ {L : List Nat}, L ≠ [] → ∃ i ∈ L, ∀ j ∈ L, i ≤ j
  | [x], _ => ⟨x, by simp, by simp⟩
  | x :: y :: L, _ => by
    obtain ⟨i, hi, hm⟩ := exists_min (L := y :: L) (by simp)
    by_cases h : x ≤ i
    · exact ⟨x, by simp, fun j hj => by
        rcases List.mem_cons.1 hj with rfl | hj
        · exact Nat.le_refl _
        · exact Nat.le_trans h (hm j hj)⟩
    · exact ⟨i, List.mem_cons_of_mem _ hi, fun j hj => by
        rcases List.mem_cons.1 hj with rfl | hj
        · omega
        · exact hm j hj⟩

theorem go_perm {ops : Array Oper} (hp : ∀ i p, p ∈ preds ops i → p < i) : ∀ (m t : Nat) (listed : Array Bool) (L : List Nat), listed.size = ops.size → L.Nodup → L.length = m → (∀ i, i ∈ L ↔ i < ops.size ∧ listed.getD i true = false) →
    (Region.linearise.go .any ops m t listed []).Perm L ∧ ∀ i ∈ L, ∀ p ∈ preds ops i, p ∈ L → [p, i].Sublist (Region.linearise.go .any ops m t listed [])
  | 0, t, listed, L, hs, hn, hl, hL => by
    have : L = [] := List.eq_nil_of_length_eq_zero hl
    subst this
    simp [Region.linearise.go]
  | m + 1, t, listed, L, hs, hn, hl, hL => by
    have hready : ∀ i, i ∈ Region.ready .any ops listed ↔ i ∈ L ∧ ∀ p ∈ preds ops i, listed.getD p false = true := fun i => by
      unfold Region.ready preds
      rw [List.mem_filter, List.mem_range, hL]
      cases ho : ops[i]? with
      | none =>
        have : ¬ i < ops.size := fun h => by rw [Array.getElem?_eq_getElem h] at ho; cases ho
        simp [this]
      | some o =>
        have hi : i < ops.size := (Array.getElem?_eq_some_iff.1 ho).1
        simp only [hi, true_and, Option.map_some, Option.getD_some, Bool.and_eq_true, Bool.not_eq_true']
        refine and_congr Iff.rfl ?_
        rw [Array.all_eq_true_iff_forall_mem]
        constructor
        · intro h p hp
          simp only [List.mem_map, List.mem_filter, Array.mem_toList_iff] at hp
          obtain ⟨e, ⟨he, hb⟩, rfl⟩ := hp
          have := h e he
          simpa [hb] using this
        · intro h e he
          by_cases hb : Region.binds .any e = true
          · have := h e.on (List.mem_map.2 ⟨e, List.mem_filter.2 ⟨by simpa using he, hb⟩, rfl⟩)
            simp [this]
          · simp [hb]
    have hin : ∀ p, p < ops.size → p ∉ L → listed.getD p false = true := fun p hp0 hpl => by
      have h1 : ¬ listed.getD p true = false := fun e => hpl ((hL p).2 ⟨hp0, e⟩)
      have hlt : p < listed.size := by omega
      simp only [Array.getD_eq_getD_getElem?, Array.getElem?_eq_getElem hlt, Option.getD_some] at h1 ⊢
      simpa using h1
    have hne : Region.ready .any ops listed ≠ [] := by
      obtain ⟨i, hi, hm⟩ := exists_min (L := L) (by intro e; rw [e] at hl; simp at hl)
      refine List.ne_nil_of_mem ((hready i).2 ⟨hi, fun p hpp => hin p ?_ (fun hpl => ?_)⟩)
      · have := hp i p hpp; have := ((hL i).1 hi).1; omega
      · have := hp i p hpp; have := hm p hpl; omega
    have hlen : 0 < (Region.ready .any ops listed).length := List.length_pos_iff.2 hne
    have hlt := Nat.mod_lt t hlen
    obtain ⟨i, hi⟩ : ∃ i, (Region.ready .any ops listed)[t % (Region.ready .any ops listed).length]? = some i := ⟨_, List.getElem?_eq_getElem hlt⟩
    have hir := (hready i).1 (List.mem_of_getElem? hi)
    have hgo : Region.linearise.go .any ops (m + 1) t listed [] = i :: Region.linearise.go .any ops m (t / (Region.ready .any ops listed).length) (listed.setIfInBounds i true) [] := by
      simp only [Region.linearise.go]
      change (match (Region.ready .any ops listed)[t % (Region.ready .any ops listed).length]? with
        | some i => Region.linearise.go .any ops m (t / (Region.ready .any ops listed).length) (listed.setIfInBounds i true) [i]
        | none => [].reverse) = _
      rw [hi]
      simp only []
      rw [linearise_go_acc]
      rfl
    have hie : (L.erase i).length = m := by rw [List.length_erase_of_mem hir.1, hl]; rfl
    have hL' : ∀ j, j ∈ L.erase i ↔ j < ops.size ∧ (listed.setIfInBounds i true).getD j true = false := fun j => by
      rw [hn.mem_erase_iff, hL]
      simp only [Array.getD_eq_getD_getElem?, Array.getElem?_setIfInBounds]
      by_cases e : i = j
      · subst e
        simp only [ne_eq, not_true, false_and, if_true, false_iff, not_and]
        intro _
        split <;> simp
      · simp only [if_neg e, ne_eq, show ¬ j = i from fun q => e q.symm, not_false_eq_true, true_and]
    obtain ⟨g1, g2⟩ := go_perm hp m (t / (Region.ready .any ops listed).length) (listed.setIfInBounds i true) (L.erase i) (by simp [hs]) (hn.erase i) hie hL'
    rw [hgo]
    refine ⟨((List.perm_cons i).2 g1).trans (List.perm_cons_erase hir.1).symm, fun j hj p hpj hpL => ?_⟩
    by_cases e : j = i
    · subst e
      have h1 := hir.2 p hpj
      have h2 := ((hL p).1 hpL).2
      have hlt : p < listed.size := by rw [hs]; exact ((hL p).1 hpL).1
      simp only [Array.getD_eq_getD_getElem?, Array.getElem?_eq_getElem hlt, Option.getD_some] at h1 h2
      rw [h1] at h2; cases h2
    · have hj' : j ∈ L.erase i := hn.mem_erase_iff.2 ⟨e, hj⟩
      by_cases e2 : p = i
      · subst e2
        exact (List.singleton_sublist.2 (g1.symm.subset hj')).cons_cons _
      · exact (g2 j hj' p hpj (hn.mem_erase_iff.2 ⟨e2, hpL⟩)).cons i

/-- What the machine's order is: all places, those before which another must stand behind it. -/
theorem linearise_perm {ops : Array Oper} (hp : ∀ i p, p ∈ preds ops i → p < i) (t : Nat) : (Region.linearise .any ops t).Perm (List.range ops.size) ∧ ∀ i p, p ∈ preds ops i → [p, i].Sublist (Region.linearise .any ops t) := by
  obtain ⟨h1, h2⟩ := go_perm hp ops.size t (Array.replicate ops.size false) (List.range ops.size) (by simp) List.nodup_range (by simp) (fun i => by
    simp only [List.mem_range, Array.getD_eq_getD_getElem?, Array.getElem?_replicate]
    constructor
    · intro h; exact ⟨h, by simp [h]⟩
    · intro h; exact h.1)
  refine ⟨h1, fun i p hpi => h2 i ?_ p hpi ?_⟩
  · rw [List.mem_range]
    unfold preds at hpi
    cases ho : ops[i]? with
    | none => simp [ho] at hpi
    | some o => exact (Array.getElem?_eq_some_iff.1 ho).1
  · rw [List.mem_range]
    have := hp i p hpi
    unfold preds at hpi
    cases ho : ops[i]? with
    | none => simp [ho] at hpi
    | some o => have := (Array.getElem?_eq_some_iff.1 ho).1; omega
end Go.Proofs.YtigfgicjjhepoaaGreatDoor.VA
set_option linter.unusedVariables false
set_option linter.unusedSimpArgs false
namespace Go.Proofs.YtigfgicjjhepoaaGreatDoor.VA
open Go Go.RowKit

/-- The places before a place, as bits; t: those of the places before it. -/
def maskOf (ops : Array Oper) (t : List Nat) (i : Nat) : Nat := (preds ops i).foldl (fun m p => m ||| (1 <<< p) ||| t.getD p 0) 0
def masks (ops : Array Oper) : Nat → List Nat
  | 0 => []
  | k + 1 => masks ops k ++ [maskOf ops (masks ops k) k]

theorem masks_length (ops : Array Oper) : ∀ k, (masks ops k).length = k
  | 0 => rfl
  | k + 1 => by simp [masks, masks_length ops k]

theorem fold_bits {t : List Nat} {a : Nat} : ∀ (l : List Nat) (m : Nat), (l.foldl (fun m p => m ||| (1 <<< p) ||| t.getD p 0) m).testBit a = true → m.testBit a = true ∨ ∃ p ∈ l, a = p ∨ (t.getD p 0).testBit a = true
  | [], m, h => .inl h
  | p :: l, m, h => by
    rw [List.foldl_cons] at h
    rcases fold_bits l _ h with h | ⟨q, hq, h⟩
    · simp only [Nat.testBit_or, Bool.or_eq_true] at h
      rcases h with (h | h) | h
      · exact .inl h
      · rw [Nat.one_shiftLeft, Nat.testBit_two_pow] at h
        exact .inr ⟨p, by simp, .inl (by simpa using (of_decide_eq_true h).symm)⟩
      · exact .inr ⟨p, by simp, .inr h⟩
    · exact .inr ⟨q, List.mem_cons_of_mem _ hq, h⟩

theorem mask_before {ops : Array Oper} (hp : ∀ i p, p ∈ preds ops i → p < i) {l : List Nat} (hn : l.Nodup) (hl : ∀ i p, p ∈ preds ops i → [p, i].Sublist l) : ∀ (k i a : Nat), i < k → ((masks ops k).getD i 0).testBit a = true → [a, i].Sublist l
  | 0, i, a, hi, h => by omega
  | k + 1, i, a, hi, h => by
    simp only [masks] at h
    by_cases e : i < k
    · rw [List.getD_eq_getElem?_getD, List.getElem?_append_left (by rw [masks_length]; exact e), ← List.getD_eq_getElem?_getD] at h
      exact mask_before hp hn hl k i a e h
    · have : i = k := by omega
      subst this
      rw [List.getD_eq_getElem?_getD, List.getElem?_append_right (by rw [masks_length]; exact Nat.le_refl _), masks_length, Nat.sub_self] at h
      simp only [List.getElem?_cons_zero, Option.getD_some] at h
      rcases fold_bits _ _ h with h | ⟨p, hpi, rfl | h⟩
      · simp at h
      · exact hl i a hpi
      · exact before_trans hn (mask_before hp hn hl i p a (hp i p hpi) h) (hl i p hpi)

def clsP (pol : Pol) (ops : Array Oper) (i : Nat) : Cls :=
  match ops[i]? with
  | some o => clsOf pol true o.op
  | none => .p

def isP : Cls → Bool
  | .p => true
  | _ => false
def isW : Cls → Bool
  | .w => true
  | _ => false

/-- What is known of a place: where it writes, what it reads, its kind, the places before it. -/
structure Place where
  dst : Option Nat
  rd : List Nat
  p : Bool
  w : Bool

def placeOf (pol : Pol) (ops : Array Oper) (i : Nat) : Place := ⟨dstOf ops i, rdOf ops i, isP (clsP pol ops i), isW (clsP pol ops i)⟩

def apartP (x y : Place) : Bool :=
  (match x.dst with
   | some d => (match y.dst with
     | some e => !Nat.beq d e
     | none => true) && !y.rd.any (Nat.beq d)
   | none => true) &&
  (match y.dst with
   | some d => !x.rd.any (Nat.beq d)
   | none => true) && (x.p || y.p || (!x.w && !y.w))

theorem apart_of {c : Ctx} {ops : Array Oper} {i j : Nat} (h : apartP (placeOf c.pol ops i) (placeOf c.pol ops j) = true) : Apart c ops i j := by
  have anyb : ∀ {l : List Nat} {d : Nat}, l.any (Nat.beq d) = false → d ∉ l := fun h hm => by
    have := List.any_eq_false.1 h _ hm
    simp [Nat.beq_refl] at this
  simp only [apartP, placeOf, Bool.and_eq_true, Bool.or_eq_true, Bool.not_eq_true'] at h
  obtain ⟨⟨h1, h2⟩, h3⟩ := h
  refine ⟨fun d hd he => ?_, fun d hd hm => ?_, fun d hd hm => ?_, ?_⟩
  · simp only [hd, he, Bool.and_eq_true, Bool.not_eq_true'] at h1
    simp [Nat.beq_refl] at h1
  · simp only [hd, Bool.not_eq_true'] at h2
    exact anyb h2 hm
  · simp only [hd, Bool.and_eq_true, Bool.not_eq_true'] at h1
    exact anyb h1.2 hm
  · have e : ∀ k, clsAt c ops k = clsP c.pol ops k := fun k => rfl
    rw [e, e]
    cases hi : clsP c.pol ops i <;> cases hj : clsP c.pol ops j <;> simp_all [isP, isW]

def before (x y : Nat) : List Nat → Bool
  | [] => false
  | z :: l => if Nat.beq z x then l.any (Nat.beq y) else before x y l

theorem before_sub {x y : Nat} : ∀ {l : List Nat}, before x y l = true → [x, y].Sublist l
  | z :: l, h => by
    simp only [before] at h
    split at h
    · rename_i e
      have e := Nat.eq_of_beq_eq_true e
      subst e
      obtain ⟨u, hu, hy⟩ := List.any_eq_true.1 h
      have := Nat.eq_of_beq_eq_true hy
      subst this
      exact (List.singleton_sublist.2 hu).cons_cons _
    · exact (before_sub h).cons z

/-- Of orders for conflicting pairs: each is met by one of the lists, or runs in a circle. -/
def circle (t : List Nat) : List (Nat × Nat) → List (Nat × Nat) → Bool
  | all, or => or.any fun (x, y) => all.any fun (u, v) => (Nat.beq y u || (t.getD u 0).testBit y) && (Nat.beq v x || (t.getD x 0).testBit v)

def cover (t : List Nat) : List (Nat × Nat) → List (Nat × Nat) → List (List Nat) → Bool
  | [], or, Rs => !Rs.isEmpty || circle t or or
  | (a, i) :: C, or, Rs => cover t C ((a, i) :: or) (Rs.filter (before a i)) && cover t C ((i, a) :: or) (Rs.filter (before i a))

theorem cover_ok {t : List Nat} {l : List Nat} (hn : l.Nodup) {n : Nat} (hmem : ∀ i, i < n → i ∈ l) (ht : ∀ i a, i < n → (t.getD i 0).testBit a = true → [a, i].Sublist l) : ∀ (C or : List (Nat × Nat)) (Rs : List (List Nat)),
    (∀ x ∈ C, x.1 < n ∧ x.2 < n ∧ x.1 ≠ x.2) → (∀ x ∈ or, x.1 < n ∧ x.2 < n ∧ [x.1, x.2].Sublist l) → cover t C or Rs = true → ∃ R ∈ Rs, ∀ x ∈ C, ([x.1, x.2].Sublist l → [x.1, x.2].Sublist R) ∧ ([x.2, x.1].Sublist l → [x.2, x.1].Sublist R)
  | [], or, Rs, hC, ho, h => by
    simp only [cover, Bool.or_eq_true, Bool.not_eq_true'] at h
    rcases h with h | h
    · obtain ⟨R, hR⟩ := List.exists_mem_of_ne_nil Rs (by intro e; subst e; simp at h)
      exact ⟨R, hR, by simp⟩
    · exfalso
      simp only [circle, List.any_eq_true, Bool.and_eq_true, Bool.or_eq_true] at h
      obtain ⟨⟨x, y⟩, h1, ⟨u, v⟩, h2, h3, h4⟩ := h
      obtain ⟨a1, a2, a3⟩ := ho _ h1
      obtain ⟨b1, b2, b3⟩ := ho _ h2
      dsimp only at *
      have q1 : [x, v].Sublist l := by
        rcases h3 with h3 | h3
        · have := Nat.eq_of_beq_eq_true h3; subst this; exact before_trans hn a3 b3
        · exact before_trans hn (before_trans hn a3 (ht u y b1 h3)) b3
      rcases h4 with h4 | h4
      · have := Nat.eq_of_beq_eq_true h4; subst this; exact before_asymm hn q1 q1
      · exact before_asymm hn q1 (ht x v a1 h4)
  | (a, i) :: C, or, Rs, hC, ho, h => by
    simp only [cover, Bool.and_eq_true] at h
    obtain ⟨c1, c2, c3⟩ := hC (a, i) (by simp)
    rcases before_total c3 (hmem a c1) (hmem i c2) with hb | hb
    · obtain ⟨R, hR, hh⟩ := cover_ok hn hmem ht C ((a, i) :: or) _ (fun x hx => hC x (List.mem_cons_of_mem _ hx)) (fun x hx => by
        rcases List.mem_cons.1 hx with rfl | hx
        · exact ⟨c1, c2, hb⟩
        · exact ho x hx) h.1
      obtain ⟨hR1, hR2⟩ := List.mem_filter.1 hR
      refine ⟨R, hR1, fun x hx => ?_⟩
      rcases List.mem_cons.1 hx with rfl | hx
      · exact ⟨fun _ => before_sub hR2, fun q => absurd q (before_asymm hn hb)⟩
      · exact hh x hx
    · obtain ⟨R, hR, hh⟩ := cover_ok hn hmem ht C ((i, a) :: or) _ (fun x hx => hC x (List.mem_cons_of_mem _ hx)) (fun x hx => by
        rcases List.mem_cons.1 hx with rfl | hx
        · exact ⟨c2, c1, hb⟩
        · exact ho x hx) h.2
      obtain ⟨hR1, hR2⟩ := List.mem_filter.1 hR
      refine ⟨R, hR1, fun x hx => ?_⟩
      rcases List.mem_cons.1 hx with rfl | hx
      · exact ⟨fun q => absurd q (before_asymm hn hb), fun _ => before_sub hR2⟩
      · exact hh x hx

/-- The check of a region that is drawn. -/
def regionOk (pol : Pol) (ops : Array Oper) (reps : List (List Nat)) : Bool :=
  let n := ops.size
  let ix := List.range n
  let t := masks ops n
  let pl := ix.map (placeOf pol ops)
  let dp : Place := ⟨none, [], true, false⟩
  let C := ix.flatMap fun i => (List.range i).filterMap fun a => if (t.getD i 0).testBit a || apartP (pl.getD a dp) (pl.getD i dp) && apartP (pl.getD i dp) (pl.getD a dp) then none else some (a, i)
  ix.all (fun i => (preds ops i).all fun p => Nat.blt p i) &&
  (ix :: reps).all (fun R => R.isPerm ix && ix.all fun i => (preds ops i).all fun p => before p i R) &&
  cover t C [] (ix :: reps)

theorem preds_lt {ops : Array Oper} {i p : Nat} (h : p ∈ preds ops i) : i < ops.size := by
  unfold preds at h
  cases ho : ops[i]? with
  | none => simp [ho] at h
  | some o => exact (Array.getElem?_eq_some_iff.1 ho).1

/-- For every order that the machine may take there is one of ours that differs in nothing that matters. -/
theorem regionOk_ok {c : Ctx} {ops : Array Oper} {reps : List (List Nat)} (h : regionOk c.pol ops reps = true) (t : Nat) :
    ∃ R ∈ List.range ops.size :: reps, (Region.linearise .any ops t).Perm R ∧ R.Nodup ∧ ∀ x y, [x, y].Sublist R → [y, x].Sublist (Region.linearise .any ops t) → Apart c ops x y := by
  simp only [regionOk, Bool.and_eq_true] at h
  obtain ⟨⟨h1, h2⟩, h3⟩ := h
  have hp : ∀ i p, p ∈ preds ops i → p < i := fun i p hpi => by
    have := List.all_eq_true.1 (List.all_eq_true.1 h1 i (List.mem_range.2 (preds_lt hpi))) p hpi
    simpa [Nat.blt_eq] using this
  obtain ⟨g1, g2⟩ := linearise_perm hp t
  generalize Region.linearise .any ops t = l at g1 g2 ⊢
  have hn : l.Nodup := g1.nodup_iff.2 List.nodup_range
  have hmem : ∀ i, i < ops.size → i ∈ l := fun i hi => g1.symm.subset (List.mem_range.2 hi)
  have hmask := mask_before hp hn g2 ops.size
  obtain ⟨R, hR, hag⟩ := cover_ok hn hmem (n := ops.size) (t := masks ops ops.size) (fun i a hi hb => hmask i a hi hb) _ [] _ (fun x hx => by
    obtain ⟨i, hi, hx⟩ := List.mem_flatMap.1 hx
    obtain ⟨a, ha, hx⟩ := List.mem_filterMap.1 hx
    have hi := List.mem_range.1 hi
    have ha := List.mem_range.1 ha
    split at hx
    · cases hx
    · simp only [Option.some.injEq] at hx
      subst hx
      exact ⟨by show a < ops.size; omega, hi, by show a ≠ i; omega⟩) (by simp) h3
  have hRp := List.all_eq_true.1 h2 R hR
  simp only [Bool.and_eq_true] at hRp
  have hperm := List.isPerm_iff.1 hRp.1
  have hRn : R.Nodup := hperm.nodup_iff.2 List.nodup_range
  have hRb : ∀ i p, p ∈ preds ops i → [p, i].Sublist R := fun i p hpi => before_sub (List.all_eq_true.1 (List.all_eq_true.1 hRp.2 i (List.mem_range.2 (preds_lt hpi))) p hpi)
  have hRmask := mask_before hp hRn hRb ops.size
  have hpl : ∀ i, i < ops.size → ((List.range ops.size).map (placeOf c.pol ops)).getD i ⟨none, [], true, false⟩ = placeOf c.pol ops i := fun i hi => by
    rw [List.getD_eq_getElem?_getD, List.getElem?_map, List.getElem?_range hi]; rfl
  refine ⟨R, hR, g1.trans hperm.symm, hRn, fun x y hx hy => ?_⟩
  have hxm : x < ops.size := List.mem_range.1 (hperm.subset (hx.subset (by simp)))
  have hym : y < ops.size := List.mem_range.1 (hperm.subset (hx.subset (by simp)))
  have hne : x ≠ y := fun e => by subst e; exact before_asymm hRn hx hx
  -- a pair, the smaller first
  have pair : ∀ a i, a < i → i < ops.size → ([a, i].Sublist R ∧ [i, a].Sublist l) ∨ ([i, a].Sublist R ∧ [a, i].Sublist l) → Apart c ops a i ∧ Apart c ops i a := by
    intro a i hai hi hor
    have ha : a < ops.size := by omega
    by_cases hc : ((masks ops ops.size).getD i 0).testBit a = true
    · rcases hor with ⟨_, q⟩ | ⟨q, _⟩
      · exact absurd (hmask i a hi hc) (before_asymm hn q)
      · exact absurd (hRmask i a hi hc) (before_asymm hRn q)
    · by_cases hap : (apartP (placeOf c.pol ops a) (placeOf c.pol ops i) && apartP (placeOf c.pol ops i) (placeOf c.pol ops a)) = true
      · simp only [Bool.and_eq_true] at hap
        exact ⟨apart_of hap.1, apart_of hap.2⟩
      · have hin := hag (a, i) (List.mem_flatMap.2 ⟨i, List.mem_range.2 hi, List.mem_filterMap.2 ⟨a, List.mem_range.2 hai, by rw [hpl a ha, hpl i hi]; simp only [Bool.not_eq_true] at hc hap; simp only [hc, hap, Bool.or_self, Bool.false_eq_true, if_false]⟩⟩)
        rcases hor with ⟨q1, q2⟩ | ⟨q1, q2⟩
        · exact absurd (hin.2 q2) (before_asymm hRn q1)
        · exact absurd (hin.1 q2) (before_asymm hRn q1)
  rcases Nat.lt_or_gt_of_ne hne with h | h
  · exact (pair x y h hym (.inl ⟨hx, hy⟩)).1
  · exact (pair y x h hxm (.inr ⟨hx, hy⟩)).2
end Go.Proofs.YtigfgicjjhepoaaGreatDoor.VA

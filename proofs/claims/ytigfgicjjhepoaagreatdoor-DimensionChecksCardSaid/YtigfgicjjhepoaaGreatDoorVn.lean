/- What steps that change the heap do to the relation. -/
import Derived.Test.YtigfgicjjhepoaaGreatDoorVm
set_option linter.unusedVariables false
set_option linter.unusedSimpArgs false
namespace Go.Proofs.YtigfgicjjhepoaaGreatDoor.VA
open Go Go.RowKit
section
variable {ng base : Nat} {w w' : World} {Ext : Nat → Prop} {ρ : Key → Option Nat} {H : Heap}

def bind (ρ : Key → Option Nat) (k : Key) (b : Nat) : Key → Option Nat := fun j => if j = k then some b else ρ j

theorem HRel.rebindEvo (h : HRel ng base Ext ρ H w) {H1 : Heap} (hsub : ∀ k x, H1.blk k = some x → H.blk k = some x) (hcnt : H1.cnt = H.cnt) {p : List Nat} {d b : Nat} {blk : Blk}
    (hb : b < w.heap.size → Mut Ext ρ H b) (hother : ∀ j, j ≠ b → j < w.heap.size → w'.heap[j]? = w.heap[j]?) (hsize : w.heap.size ≤ w'.heap.size) (hblt : b < w'.heap.size) (hbase : base ≤ b)
    (hnokey : ∀ k, H1.blk k ≠ none → ρ k ≠ some b) (hroom : ∀ n, room w b n → room w' b n) :
    Evo w ρ (Mut Ext ρ H) w' (bind ρ (H.next p d) b) (Mut Ext (bind ρ (H.next p d) b) (H1.alloc p d blk)) := by
  have hnext : H1.next p d = H.next p d := by simp [Heap.next, hcnt]
  have hfr := h.fresh p d (H.cnt p d) (Nat.le_refl _)
  have hkeys : ∀ k c, ρ k = some c → bind ρ (H.next p d) b k = some c := fun k c hk => by
    unfold bind
    rw [if_neg (fun e => by rw [e] at hk; unfold Heap.next at hk; rw [hfr.1] at hk; cases hk)]
    exact hk
  have hblk : ∀ k x, (H1.alloc p d blk).blk k = some x → (k = H.next p d ∧ x = blk) ∨ (k ≠ H.next p d ∧ H.blk k = some x ∧ H1.blk k = some x) := fun k x hk => by
    simp only [Heap.alloc, hnext] at hk
    by_cases e : k = H.next p d
    · rw [if_pos e] at hk; exact .inl ⟨e, by simpa using hk.symm⟩
    · rw [if_neg e] at hk; exact .inr ⟨e, hsub k x hk, hk⟩
  refine ⟨hkeys, fun a v hc hm => ?_, fun c n hr => ?_, fun c hc hm => ?_, hsize, fun c x hx => ?_⟩
  · have hlt := cell_lt hc
    by_cases e : a.block = b
    · exact absurd (hb (e ▸ hlt)) (e ▸ hm)
    · rw [World.cell?_of_block (w := w) (hother _ e hlt)]; exact hc
  · by_cases e : c = b
    · subst e; exact hroom n hr
    · obtain ⟨arr, ty, h1, h2⟩ := hr
      exact ⟨arr, ty, (hother c e (Array.getElem?_eq_some_iff.1 h1).1).trans h1, h2⟩
  · rcases hm with hm | ⟨k, sz, els, hk, hbk⟩
    · exact .inl hm
    · rcases hblk k _ hk with ⟨e, _⟩ | ⟨e, h1, h2⟩
      · unfold bind at hbk; rw [if_pos e] at hbk
        simp only [Option.some.injEq] at hbk
        exact hbk ▸ hb (hbk ▸ hc)
      · unfold bind at hbk; rw [if_neg e] at hbk
        exact .inr ⟨k, sz, els, h1, hbk⟩
  · by_cases e : c = b
    · subst e
      exfalso
      rcases hb (Array.getElem?_eq_some_iff.1 hx).1 with hm | ⟨k, sz, els, hk, hbk⟩
      · have := (h.ext c hm).1; omega
      · rcases h.blk k _ hk with ⟨_, _, _, hn⟩ | ⟨c', hc', hr⟩
        · rw [hn] at hbk; cases hbk
        · rw [hbk] at hc'; cases hc'
          obtain ⟨arr, ty, h1, _⟩ := hr
          rw [h1] at hx; cases hx
    · exact (hother c e (Array.getElem?_eq_some_iff.1 hx).1).trans hx

/-- A key is bound to a block: a new one, or one whose key is gone. -/
theorem HRel.rebind (h : HRel ng base Ext ρ H w) {H1 : Heap} (hsub : ∀ k x, H1.blk k = some x → H.blk k = some x) (hcnt : H1.cnt = H.cnt) {p : List Nat} {d b : Nat} {blk : Blk}
    (hb : b < w.heap.size → Mut Ext ρ H b) (hother : ∀ j, j ≠ b → j < w.heap.size → w'.heap[j]? = w.heap[j]?) (hsize : w.heap.size ≤ w'.heap.size) (hblt : b < w'.heap.size) (hbase : base ≤ b)
    (hnokey : ∀ k, H1.blk k ≠ none → ρ k ≠ some b) (hroom : ∀ n, room w b n → room w' b n)
    (hrel : BlkRel w' (bind ρ (H.next p d) b) (Mut Ext (bind ρ (H.next p d) b) (H1.alloc p d blk)) b blk) :
    HRel ng base Ext (bind ρ (H.next p d) b) (H1.alloc p d blk) w' ∧ Evo w ρ (Mut Ext ρ H) w' (bind ρ (H.next p d) b) (Mut Ext (bind ρ (H.next p d) b) (H1.alloc p d blk)) := by
  have hnext : H1.next p d = H.next p d := by simp [Heap.next, hcnt]
  have hfr := h.fresh p d (H.cnt p d) (Nat.le_refl _)
  have hkeys : ∀ k c, ρ k = some c → bind ρ (H.next p d) b k = some c := fun k c hk => by
    unfold bind
    rw [if_neg (fun e => by rw [e] at hk; unfold Heap.next at hk; rw [hfr.1] at hk; cases hk)]
    exact hk
  have hblk : ∀ k x, (H1.alloc p d blk).blk k = some x → (k = H.next p d ∧ x = blk) ∨ (k ≠ H.next p d ∧ H.blk k = some x ∧ H1.blk k = some x) := fun k x hk => by
    simp only [Heap.alloc, hnext] at hk
    by_cases e : k = H.next p d
    · rw [if_pos e] at hk; exact .inl ⟨e, by simpa using hk.symm⟩
    · rw [if_neg e] at hk; exact .inr ⟨e, hsub k x hk, hk⟩
  have hevo : Evo w ρ (Mut Ext ρ H) w' (bind ρ (H.next p d) b) (Mut Ext (bind ρ (H.next p d) b) (H1.alloc p d blk)) := h.rebindEvo hsub hcnt hb hother hsize hblt hbase hnokey hroom
  refine ⟨⟨h.ngb, Nat.le_trans h.size hsize, h.ext, fun k c hk => ?_, fun q e n hn => ?_, fun k k' c h1 h2 h3 h4 => ?_, fun k x hx => ?_⟩, hevo⟩
  · unfold bind at hk
    by_cases e : k = H.next p d
    · rw [if_pos e] at hk; simp only [Option.some.injEq] at hk; subst hk; exact ⟨hbase, hblt⟩
    · rw [if_neg e] at hk; exact ⟨(h.dom k c hk).1, Nat.lt_of_lt_of_le (h.dom k c hk).2 hsize⟩
  · simp only [Heap.alloc, hcnt] at hn
    have hne : (q, e, n) ≠ H.next p d := fun eq => by
      simp only [Heap.next, Prod.mk.injEq] at eq
      obtain ⟨rfl, rfl, rfl⟩ := eq
      simp at hn
      omega
    have hn' : H.cnt q e ≤ n := by split at hn <;> omega
    refine ⟨by unfold bind; rw [if_neg hne]; exact (h.fresh q e n hn').1, ?_⟩
    simp only [Heap.alloc, hnext]
    rw [if_neg hne]
    cases hx : H1.blk (q, e, n) with
    | none => rfl
    | some x => have := hsub _ _ hx; rw [(h.fresh q e n hn').2] at this; cases this
  · obtain ⟨x1, hx1⟩ := Option.ne_none_iff_exists'.1 h1
    obtain ⟨x2, hx2⟩ := Option.ne_none_iff_exists'.1 h2
    rcases hblk k x1 hx1 with ⟨e1, _⟩ | ⟨e1, g1, g1'⟩ <;> rcases hblk k' x2 hx2 with ⟨e2, _⟩ | ⟨e2, g2, g2'⟩
    · rw [e1, e2]
    · unfold bind at h3 h4
      rw [if_pos e1] at h3; rw [if_neg e2] at h4
      simp only [Option.some.injEq] at h3; subst h3
      exact absurd h4 (hnokey k' (by rw [g2']; simp))
    · unfold bind at h3 h4
      rw [if_neg e1] at h3; rw [if_pos e2] at h4
      simp only [Option.some.injEq] at h4; subst h4
      exact absurd h3 (hnokey k (by rw [g1']; simp))
    · unfold bind at h3 h4
      rw [if_neg e1] at h3; rw [if_neg e2] at h4
      exact h.inj k k' c (by rw [g1]; simp) (by rw [g2]; simp) h3 h4
  · rcases hblk k x hx with ⟨rfl, rfl⟩ | ⟨e, g1, g1'⟩
    · exact .inr ⟨b, by unfold bind; rw [if_pos rfl], hrel⟩
    · rcases h.blk k x g1 with ⟨sz, fz, rfl, hn⟩ | ⟨c, hc, hr⟩
      · exact .inl ⟨sz, fz, rfl, by unfold bind; rw [if_neg e]; exact hn⟩
      · have hne : c ≠ b := fun e' => hnokey k (by rw [g1']; simp) (e' ▸ hc)
        exact .inr ⟨c, hkeys k c hc, hr.evo hevo (hother c hne hr.lt)⟩

/-- A key is bound to nothing: an empty row. -/
theorem HRel.virtual (h : HRel ng base Ext ρ H w) {H1 : Heap} (hsub : ∀ k x, H1.blk k = some x → H.blk k = some x) (hcnt : H1.cnt = H.cnt) {p : List Nat} {d sz : Nat} :
    HRel ng base Ext ρ (H1.alloc p d (.row sz [] false)) w ∧ Evo w ρ (Mut Ext ρ H) w ρ (Mut Ext ρ (H1.alloc p d (.row sz [] false))) := by
  have hnext : H1.next p d = H.next p d := by simp [Heap.next, hcnt]
  have hfr := h.fresh p d (H.cnt p d) (Nat.le_refl _)
  have hblk : ∀ k x, (H1.alloc p d (.row sz [] false)).blk k = some x → (k = H.next p d ∧ x = .row sz [] false) ∨ (k ≠ H.next p d ∧ H.blk k = some x ∧ H1.blk k = some x) := fun k x hk => by
    simp only [Heap.alloc, hnext] at hk
    by_cases e : k = H.next p d
    · rw [if_pos e] at hk; exact .inl ⟨e, by simpa using hk.symm⟩
    · rw [if_neg e] at hk; exact .inr ⟨e, hsub k x hk, hk⟩
  have hk0 : ρ (H.next p d) = none := hfr.1
  have hevo : Evo w ρ (Mut Ext ρ H) w ρ (Mut Ext ρ (H1.alloc p d (.row sz [] false))) := by
    refine ⟨fun _ _ h => h, fun _ _ h _ => h, fun _ _ h => h, fun c hc hm => ?_, Nat.le_refl _, fun _ _ h => h⟩
    rcases hm with hm | ⟨k, sz', els, hk, hbk⟩
    · exact .inl hm
    · rcases hblk k _ hk with ⟨e, _⟩ | ⟨e, h1, h2⟩
      · rw [e, hk0] at hbk; cases hbk
      · exact .inr ⟨k, sz', els, h1, hbk⟩
  refine ⟨⟨h.ngb, h.size, h.ext, h.dom, fun q e n hn => ?_, fun k k' c h1 h2 h3 h4 => ?_, fun k x hx => ?_⟩, hevo⟩
  · simp only [Heap.alloc, hcnt] at hn
    have hne : (q, e, n) ≠ H.next p d := fun eq => by
      simp only [Heap.next, Prod.mk.injEq] at eq
      obtain ⟨rfl, rfl, rfl⟩ := eq
      simp at hn
      omega
    have hn' : H.cnt q e ≤ n := by split at hn <;> omega
    refine ⟨(h.fresh q e n hn').1, ?_⟩
    simp only [Heap.alloc, hnext]
    rw [if_neg hne]
    cases hx : H1.blk (q, e, n) with
    | none => rfl
    | some x => have := hsub _ _ hx; rw [(h.fresh q e n hn').2] at this; cases this
  · obtain ⟨x1, hx1⟩ := Option.ne_none_iff_exists'.1 h1
    obtain ⟨x2, hx2⟩ := Option.ne_none_iff_exists'.1 h2
    rcases hblk k x1 hx1 with ⟨e1, _⟩ | ⟨e1, g1, _⟩
    · rw [e1, hk0] at h3; cases h3
    · rcases hblk k' x2 hx2 with ⟨e2, _⟩ | ⟨e2, g2, _⟩
      · rw [e2, hk0] at h4; cases h4
      · exact h.inj k k' c (by rw [g1]; simp) (by rw [g2]; simp) h3 h4
  · rcases hblk k x hx with ⟨rfl, rfl⟩ | ⟨e, g1, _⟩
    · exact .inl ⟨sz, false, rfl, hk0⟩
    · rcases h.blk k x g1 with ⟨sz', fz, rfl, hn⟩ | ⟨c, hc, hr⟩
      · exact .inl ⟨sz', fz, rfl, hn⟩
      · exact .inr ⟨c, hc, hr.evo hevo rfl⟩

theorem HRel.updateEvo (h : HRel ng base Ext ρ H w) {k : Key} {b : Nat} {old new : Blk} (hk : H.blk k = some old) (hb : ρ k = some b) (hm : (∃ sz els, old = .row sz els false) ∨ ¬ ∃ arr e f, w.heap[b]? = some (.cells arr e f))
    (hnew : (∃ sz els, new = .row sz els false) → ∃ sz els, old = .row sz els false)
    (hother : ∀ j, j ≠ b → w'.heap[j]? = w.heap[j]?) (hsize : w'.heap.size = w.heap.size) (hroom : ∀ n, room w b n → room w' b n) :
    Evo w ρ (Mut Ext ρ H) w' ρ (Mut Ext ρ (H.set k new)) := by
  have hblk : ∀ j x, (H.set k new).blk j = some x → (j = k ∧ x = new) ∨ (j ≠ k ∧ H.blk j = some x) := fun j x hj => by
    simp only [Heap.set] at hj
    by_cases e : j = k
    · rw [if_pos e] at hj; exact .inl ⟨e, by simpa using hj.symm⟩
    · rw [if_neg e] at hj; exact .inr ⟨e, hj⟩
  have hmut : ∀ c, Mut Ext ρ (H.set k new) c → Mut Ext ρ H c := fun c hm' => by
    rcases hm' with hm' | ⟨j, sz, els, hj, hbj⟩
    · exact .inl hm'
    · rcases hblk j _ hj with ⟨e, e2⟩ | ⟨e, h1⟩
      · obtain ⟨sz', els', ho⟩ := hnew ⟨sz, els, e2.symm⟩
        exact .inr ⟨k, sz', els', by rw [hk, ho], by rw [← e]; exact hbj⟩
      · exact .inr ⟨j, sz, els, h1, hbj⟩
  refine ⟨fun _ _ h => h, fun a v hc hm' => ?_, fun c n hr => ?_, fun c _ hm' => hmut c hm', by omega, fun c x hx => ?_⟩
  · by_cases e : a.block = b
    · rcases hm with ⟨sz, els, ho⟩ | hm
      · exact absurd (.inr ⟨k, sz, els, by rw [hk, ho], by rw [e]; exact hb⟩) hm'
      · exfalso
        apply hm
        unfold World.cell? at hc
        rw [e] at hc
        split at hc
        · rename_i arr ty f hh; exact ⟨arr, ty, f, hh⟩
        · cases hc
    · rw [World.cell?_of_block (w := w) (hother _ e)]; exact hc
  · by_cases e : c = b
    · subst e; exact hroom n hr
    · obtain ⟨arr, ty, h1, h2⟩ := hr
      exact ⟨arr, ty, (hother c e).trans h1, h2⟩
  · by_cases e : c = b
    · subst e
      exfalso
      rcases h.blk k _ hk with ⟨_, _, _, hn⟩ | ⟨c', hc', hr⟩
      · rw [hn] at hb; cases hb
      · rw [hb] at hc'; cases hc'
        cases old with
        | row sz els fz => obtain ⟨arr, ty, h1, _⟩ := hr; rw [h1] at hx; cases hx
        | map d es => obtain ⟨en, h1, _⟩ := hr; rw [h1] at hx; cases hx
        | iter s p => rw [show w.heap[c]? = some (.stringIter s p) from hr] at hx; cases hx
        | loop => obtain ⟨tmps, d, h1, _⟩ := hr; rw [h1] at hx; cases hx
    · exact (hother c e).trans hx

/-- A block is written in place. -/
theorem HRel.update (h : HRel ng base Ext ρ H w) {k : Key} {b : Nat} {old new : Blk} (hk : H.blk k = some old) (hb : ρ k = some b) (hm : (∃ sz els, old = .row sz els false) ∨ ¬ ∃ arr e f, w.heap[b]? = some (.cells arr e f))
    (hnew : (∃ sz els, new = .row sz els false) → ∃ sz els, old = .row sz els false)
    (hother : ∀ j, j ≠ b → w'.heap[j]? = w.heap[j]?) (hsize : w'.heap.size = w.heap.size) (hroom : ∀ n, room w b n → room w' b n)
    (hrel : BlkRel w' ρ (Mut Ext ρ (H.set k new)) b new) :
    HRel ng base Ext ρ (H.set k new) w' ∧ Evo w ρ (Mut Ext ρ H) w' ρ (Mut Ext ρ (H.set k new)) := by
  have hblk : ∀ j x, (H.set k new).blk j = some x → (j = k ∧ x = new) ∨ (j ≠ k ∧ H.blk j = some x) := fun j x hj => by
    simp only [Heap.set] at hj
    by_cases e : j = k
    · rw [if_pos e] at hj; exact .inl ⟨e, by simpa using hj.symm⟩
    · rw [if_neg e] at hj; exact .inr ⟨e, hj⟩
  have hmut : ∀ c, Mut Ext ρ (H.set k new) c → Mut Ext ρ H c := fun c hm' => by
    rcases hm' with hm' | ⟨j, sz, els, hj, hbj⟩
    · exact .inl hm'
    · rcases hblk j _ hj with ⟨e, e2⟩ | ⟨e, h1⟩
      · obtain ⟨sz', els', ho⟩ := hnew ⟨sz, els, e2.symm⟩
        exact .inr ⟨k, sz', els', by rw [hk, ho], by rw [← e]; exact hbj⟩
      · exact .inr ⟨j, sz, els, h1, hbj⟩
  have hevo : Evo w ρ (Mut Ext ρ H) w' ρ (Mut Ext ρ (H.set k new)) := h.updateEvo hk hb hm hnew hother hsize hroom
  refine ⟨⟨h.ngb, by rw [hsize]; exact h.size, h.ext, fun j c hj => by rw [hsize]; exact h.dom j c hj, fun q e n hn => ⟨(h.fresh q e n hn).1, ?_⟩, fun j j' c h1 h2 h3 h4 => ?_, fun j x hx => ?_⟩, hevo⟩
  · have hf := h.fresh q e n hn
    simp only [Heap.set]
    rw [if_neg (fun e' => by rw [e'] at hf; rw [hf.2] at hk; cases hk)]
    exact hf.2
  · have conv : ∀ j, (H.set k new).blk j ≠ none → H.blk j ≠ none := fun j hj => by
      obtain ⟨x, hx⟩ := Option.ne_none_iff_exists'.1 hj
      rcases hblk j x hx with ⟨e, _⟩ | ⟨_, g⟩
      · rw [e, hk]; simp
      · rw [g]; simp
    exact h.inj j j' c (conv j h1) (conv j' h2) h3 h4
  · rcases hblk j x hx with ⟨rfl, rfl⟩ | ⟨e, g⟩
    · exact .inr ⟨b, hb, hrel⟩
    · rcases h.blk j x g with ⟨sz, fz, rfl, hn⟩ | ⟨c, hc, hr⟩
      · exact .inl ⟨sz, fz, rfl, hn⟩
      · have hne : c ≠ b := fun e' => e (h.inj j k c (by rw [g]; simp) (by rw [hk]; simp) hc (e' ▸ hb))
        exact .inr ⟨c, hc, hr.evo hevo (hother c hne)⟩

/-- Rows are frozen. -/
theorem HRel.freeze (h : HRel ng base Ext ρ H w) (ks : List Key) :
    HRel ng base Ext ρ (H.freeze ks) w ∧ Evo w ρ (Mut Ext ρ H) w ρ (Mut Ext ρ (H.freeze ks)) ∧ ∀ k b, k ∈ ks → ρ k = some b → (∃ x, H.blk k = some x) → ¬ Mut Ext ρ (H.freeze ks) b := by
  have hblk : ∀ j x, (H.freeze ks).blk j = some x → ∃ y, H.blk j = some y ∧ ((∃ sz els fz, y = .row sz els fz ∧ x = .row sz els (fz || decide (j ∈ ks))) ∨ (x = y ∧ ∀ sz els fz, y ≠ .row sz els fz)) := fun j x hj => by
    simp only [Heap.freeze] at hj
    split at hj
    · rename_i sz els fz hb
      simp only [Option.some.injEq] at hj
      exact ⟨_, hb, .inl ⟨sz, els, fz, rfl, hj.symm⟩⟩
    · rename_i hb
      exact ⟨x, hj, .inr ⟨rfl, fun sz els fz e => hb sz els fz (by rw [hj, e])⟩⟩
  have hmut : ∀ c, Mut Ext ρ (H.freeze ks) c → Ext c ∨ ∃ k sz els, H.blk k = some (.row sz els false) ∧ ρ k = some c ∧ k ∉ ks := fun c hm => by
    rcases hm with hm | ⟨j, sz, els, hj, hbj⟩
    · exact .inl hm
    · obtain ⟨y, hy, ⟨sz', els', fz, rfl, e⟩ | ⟨e, hn⟩⟩ := hblk j _ hj
      · simp only [Blk.row.injEq] at e
        obtain ⟨rfl, rfl, e3⟩ := e
        have e3 := e3.symm
        simp only [Bool.or_eq_false_iff, decide_eq_false_iff_not] at e3
        exact .inr ⟨j, sz, els, by rw [hy, e3.1], hbj, e3.2⟩
      · exact absurd e.symm (hn sz els false)
  have hevo : Evo w ρ (Mut Ext ρ H) w ρ (Mut Ext ρ (H.freeze ks)) := by
    refine ⟨fun _ _ h => h, fun _ _ h _ => h, fun _ _ h => h, fun c hc hm => ?_, Nat.le_refl _, fun _ _ h => h⟩
    rcases hmut c hm with hm | ⟨k, sz, els, h1, h2, _⟩
    · exact .inl hm
    · exact .inr ⟨k, sz, els, h1, h2⟩
  refine ⟨⟨h.ngb, h.size, h.ext, h.dom, fun q e n hn => ⟨(h.fresh q e n hn).1, ?_⟩, fun k k' c h1 h2 h3 h4 => ?_, fun k x hx => ?_⟩, hevo, fun k b hk hb hx hm => ?_⟩
  · simp only [Heap.freeze, (h.fresh q e n hn).2]
  · have conv : ∀ j, (H.freeze ks).blk j ≠ none → H.blk j ≠ none := fun j hj => by
      obtain ⟨x, hx⟩ := Option.ne_none_iff_exists'.1 hj
      obtain ⟨y, hy, _⟩ := hblk j x hx
      rw [hy]; simp
    exact h.inj k k' c (conv k h1) (conv k' h2) h3 h4
  · obtain ⟨y, hy, hc⟩ := hblk k x hx
    rcases h.blk k y hy with ⟨sz, fz, rfl, hn⟩ | ⟨c, hc', hr⟩
    · rcases hc with ⟨sz', els', fz', e1, e2⟩ | ⟨e, _⟩
      · simp only [Blk.row.injEq] at e1
        obtain ⟨rfl, rfl, rfl⟩ := e1
        exact .inl ⟨sz, _, e2, hn⟩
      · exact .inl ⟨sz, fz, e, hn⟩
    · right
      refine ⟨c, hc', ?_⟩
      have := hr.evo hevo rfl
      rcases hc with ⟨sz', els', fz, rfl, e2⟩ | ⟨e, _⟩
      · rw [e2]; exact this
      · rw [e]; exact this
  · rcases hmut b hm with hm | ⟨k', sz, els, h1, h2, h3⟩
    · have := (h.dom k b hb).1; have := (h.ext b hm).1; omega
    · obtain ⟨x, hx⟩ := hx
      exact h3 (h.inj k' k b (by rw [h1]; simp) (by rw [hx]; simp) h2 hb ▸ hk)
end
end Go.Proofs.YtigfgicjjhepoaaGreatDoor.VA

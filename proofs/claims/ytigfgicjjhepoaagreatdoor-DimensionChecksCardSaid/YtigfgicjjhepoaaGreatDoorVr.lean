/- What the steps of a region read, and that steps which do not touch one another may be exchanged. -/
import Derived.Test.YtigfgicjjhepoaaGreatDoorVq
set_option linter.unusedVariables false
set_option linter.unusedSimpArgs false
namespace Go.Proofs.YtigfgicjjhepoaaGreatDoor.VA
open Go Go.RowKit

/-- Every key within is one of B's. -/
inductive Bd (B : Key → Prop) : PV → Prop
  | bool (b : Bool) : Bd B (.bool b)
  | int (k : IntKind) (n : Int) : Bd B (.int k n)
  | str (s : ByteArray) : Bd B (.str s)
  | agg (l : List PV) (h : ∀ x ∈ l, Bd B x) : Bd B (.agg l)
  | tup (l : List PV) (h : ∀ x ∈ l, Bd B x) : Bd B (.tup l)
  | sl (f : Bool) (l : List PV) (h : ∀ x ∈ l, Bd B x) : Bd B (.sl f l)
  | ms0 (k : Key) (sz off : Nat) : Bd B (.ms k sz off 0)
  | ms (k : Key) (sz off len : Nat) (h : B k) : Bd B (.ms k sz off len)
  | ptr (k : Key) (sz i j : Nat) (h : B k) : Bd B (.ptr k sz i j)
  | pp (l : List PV) (off : Nat) (h : ∀ x ∈ l, Bd B x) : Bd B (.pp l off)
  | nilp : Bd B .nilp
  | fn (f : FuncId) (a b : List PV) (h : ∀ x ∈ a, Bd B x) (g : ∀ x ∈ b, Bd B x) : Bd B (.fn f a b)
  | nilfn : Bd B .nilfn
  | mapr (k : Key) (h : B k) : Bd B (.mapr k)
  | nilm : Bd B .nilm
  | nilif : Bd B .nilif
  | yld (k : Key) (h : B k) : Bd B (.yld k)
  | junk : Bd B .junk

theorem Bd.cells {B : Key → Prop} {x : PV} (h : Bd B x) : ∀ c ∈ x.cells, Bd B c := by
  intro c hc
  cases h <;> simp only [PV.cells, List.mem_singleton, List.not_mem_nil] at hc
  case agg l h => exact h c hc
  all_goals subst hc
  all_goals constructor <;> assumption

theorem Bd.of_cells {B : Key → Prop} {x : PV} (h : ∀ c ∈ x.cells, Bd B c) : Bd B x := by
  cases x with
  | agg l => exact .agg l h
  | junk => exact .junk
  | _ => exact h _ (by simp [PV.cells])

theorem Rep.bd {w : World} {ρ : Key → Option Nat} {M : Nat → Prop} {x : PV} {v : Value} (h : Rep w ρ M x v) : Bd (fun k => ρ k ≠ none) x := by
  have lst : ∀ {l : List PV} {vs : List Value}, l.length = vs.length → (∀ (i : Nat) (c : PV) (v : Value), l[i]? = some c → vs[i]? = some v → Bd (fun k => ρ k ≠ none) c) → ∀ c ∈ l, Bd (fun k => ρ k ≠ none) c := fun hl hh c hc => by
    obtain ⟨i, hi, rfl⟩ := List.getElem_of_mem hc
    exact hh i _ _ (List.getElem?_eq_getElem hi) (List.getElem?_eq_getElem (by omega))
  induction h with
  | bool b => exact .bool b
  | int k n => exact .int k n
  | str s => exact .str s
  | agg l cs hl h ih => exact .agg l (lst (vs := cs.toList) (by simpa using hl) (fun i c v hc hv => ih i c v hc (by simpa using hv)))
  | tup l cs hl h ih => exact .tup l (lst (vs := cs.toList) (by simpa using hl) (fun i c v hc hv => ih i c v hc (by simpa using hv)))
  | sl0 f a c hf => exact .sl f [] (by simp)
  | sl f l b o c sz val hc hf hsz hpos hM h1 h2 ih =>
    refine .sl f l (fun x hx => .of_cells (fun y hy => ?_))
    obtain ⟨i, hi, rfl⟩ := List.getElem_of_mem hx
    obtain ⟨j, hj, rfl⟩ := List.getElem_of_mem hy
    exact ih i _ j _ (List.getElem?_eq_getElem hi) (List.getElem?_eq_getElem hj)
  | ms0 k sz off a => exact .ms0 k sz off
  | ms k sz off len b c hk hc hr => exact .ms k sz off len (by rw [hk]; simp)
  | ptr k sz i j b hk => exact .ptr k sz i j (by rw [hk]; simp)
  | pp l off b o val hb hM h1 h2 ih =>
    refine .pp l off (fun x hx => ?_)
    obtain ⟨i, hi, rfl⟩ := List.getElem_of_mem hx
    exact ih i _ (List.getElem?_eq_getElem hi)
  | nilp => exact .nilp
  | fn f x y a b hx hy h1 h2 ih1 ih2 =>
    exact .fn f x y (lst (vs := a.toList) (by simpa using hx) (fun i c v hc hv => ih1 i c v hc (by simpa using hv))) (lst (vs := b.toList) (by simpa using hy) (fun i c v hc hv => ih2 i c v hc (by simpa using hv)))
  | nilfn => exact .nilfn
  | mapr k b hk => exact .mapr k (by rw [hk]; simp)
  | nilm => exact .nilm
  | nilif => exact .nilif
  | yld k b hk => exact .yld k (by rw [hk]; simp)
  | junk v => exact .junk

/-- The same block, but that it may be frozen. -/
def SameB (x y : Option Blk) : Prop := x = y ∨ ∃ sz els f g, x = some (.row sz els f) ∧ y = some (.row sz els g)

section
variable {B : Key → Prop} {H H' : Heap}

theorem dr_agree (hB : ∀ k, B k → SameB (H.blk k) (H'.blk k)) (hrow : ∀ k sz els fz, B k → H.blk k = some (.row sz els fz) → ∀ e ∈ els, Bd B e) : ∀ (n : Nat),
    (∀ x, Bd B x → dr H' n x = dr H n x) ∧ (∀ l : List PV, (∀ x ∈ l, Bd B x) → drL H' n l = drL H n l) := by
  intro n
  induction n with
  | zero => exact ⟨fun x _ => rfl, fun l _ => rfl⟩
  | succ n ih =>
    obtain ⟨ih1, ih2⟩ := ih
    refine ⟨fun x hx => ?_, fun l hl => ?_⟩
    · simp only [dr]
      split
      · rfl
      · cases hx with
        | agg l h => simp only [ih2 l h]
        | tup l h => simp only [ih2 l h]
        | sl f l h => simp only [ih2 l h]
        | pp l o h => simp only [ih2 l h]
        | fn f a b h g => simp only [ih2 a h, ih2 b g]
        | ms0 k sz off => simp
        | ms k sz off len h =>
          dsimp only
          rcases hB k h with e | ⟨z, els, f, g, e1, e2⟩
          · rw [← e]
            split
            · rfl
            · split
              · rename_i z els fz hbk
                split
                · rename_i part hp
                  have : ∀ x ∈ part, Bd B x := by
                    split at hp
                    · obtain ⟨_, c2, _, _⟩ := cut_some hp
                      intro x hx
                      rw [c2] at hx
                      exact hrow k z els fz h hbk x (List.mem_of_mem_drop (List.mem_of_mem_take hx))
                    · cases hp
                  rw [ih2 part this]
                · rfl
              · rfl
          · simp only [e1, e2]
            split
            · rfl
            · split
              · rename_i part hp
                have : ∀ x ∈ part, Bd B x := by
                  split at hp
                  · obtain ⟨_, c2, _, _⟩ := cut_some hp
                    intro x hx
                    rw [c2] at hx
                    exact hrow k z els f h e1 x (List.mem_of_mem_drop (List.mem_of_mem_take hx))
                  · cases hp
                rw [ih2 part this]
              · rfl
        | ptr k sz i j h =>
          dsimp only
          rcases hB k h with e | ⟨z, els, f, g, e1, e2⟩
          · rw [← e]
            split
            · rename_i z els fz hbk
              split
              · rename_i e0 hp
                have : ∀ x ∈ e0.cells, Bd B x := by
                  split at hp
                  · exact (hrow k z els fz h hbk e0 (List.mem_of_getElem? hp)).cells
                  · cases hp
                rw [ih2 _ this]
              · rfl
            · rfl
          · simp only [e1, e2]
            split
            · rename_i e0 hp
              have : ∀ x ∈ e0.cells, Bd B x := by
                split at hp
                · exact (hrow k z els f h e1 e0 (List.mem_of_getElem? hp)).cells
                · cases hp
              rw [ih2 _ this]
            · rfl
        | _ => rfl
    · simp only [drL]
      split
      · rfl
      · cases l with
        | nil => rfl
        | cons v l => simp only [ih1 v (hl v (by simp)), ih2 l (fun x hx => hl x (by simp [hx]))]

theorem dr_keys : ∀ (n : Nat), (∀ x y ks, dr H n x = some (y, ks) → ∀ k ∈ ks, H.blk k ≠ none) ∧ (∀ l m ks, drL H n l = some (m, ks) → ∀ k ∈ ks, H.blk k ≠ none) := by
  intro n
  induction n with
  | zero =>
    refine ⟨fun x y ks h k hk => ?_, fun l m ks h k hk => ?_⟩
    · simp only [dr] at h; split at h <;> simp at h; obtain ⟨_, rfl⟩ := h; cases hk
    · simp only [drL] at h; split at h <;> simp at h; obtain ⟨_, rfl⟩ := h; cases hk
  | succ n ih =>
    obtain ⟨ih1, ih2⟩ := ih
    refine ⟨fun x y ks h k hk => ?_, fun l m ks h k hk => ?_⟩
    · simp only [dr] at h
      split at h
      · simp at h; obtain ⟨_, rfl⟩ := h; cases hk
      · split at h
        · simp only [Option.map_eq_some_iff, Prod.mk.injEq] at h
          obtain ⟨⟨a, b⟩, h1, _, rfl⟩ := h
          exact ih2 _ _ _ h1 k hk
        · simp only [Option.map_eq_some_iff, Prod.mk.injEq] at h
          obtain ⟨⟨a, b⟩, h1, _, rfl⟩ := h
          exact ih2 _ _ _ h1 k hk
        · split at h
          · rename_i r h1
            split at h
            · simp only [Option.some.injEq, Prod.mk.injEq] at h
              obtain ⟨_, rfl⟩ := h
              exact ih2 _ r.1 r.2 h1 k hk
            · cases h
          · cases h
        · simp only [Option.map_eq_some_iff, Prod.mk.injEq] at h
          obtain ⟨⟨a, b⟩, h1, _, rfl⟩ := h
          exact ih2 _ _ _ h1 k hk
        · split at h
          · rename_i r s h1 h2
            simp only [Option.some.injEq, Prod.mk.injEq] at h
            obtain ⟨_, rfl⟩ := h
            rcases List.mem_append.1 hk with hk | hk
            · exact ih2 _ r.1 r.2 h1 k hk
            · exact ih2 _ s.1 s.2 h2 k hk
          · cases h
        · split at h
          · simp at h; obtain ⟨_, rfl⟩ := h; cases hk
          · split at h
            · rename_i hbk
              split at h
              · split at h
                · rename_i r h1
                  split at h
                  · simp only [Option.some.injEq, Prod.mk.injEq] at h
                    obtain ⟨_, rfl⟩ := h
                    rcases List.mem_cons.1 hk with rfl | hk
                    · rw [hbk]; simp
                    · exact ih2 _ r.1 r.2 h1 k hk
                  · cases h
                · cases h
              · cases h
            · cases h
        · split at h
          · rename_i hbk
            split at h
            · simp only [Option.map_eq_some_iff, Prod.mk.injEq] at h
              obtain ⟨⟨a, b⟩, h1, _, rfl⟩ := h
              rcases List.mem_cons.1 hk with rfl | hk
              · rw [hbk]; simp
              · exact ih2 _ a b h1 k hk
            · cases h
          · cases h
        · cases h
    · simp only [drL] at h
      split at h
      · simp at h; obtain ⟨_, rfl⟩ := h; cases hk
      · split at h
        · simp at h; obtain ⟨_, rfl⟩ := h; cases hk
        · split at h
          · rename_i r s h1 h2
            simp only [Option.some.injEq, Prod.mk.injEq] at h
            obtain ⟨_, rfl⟩ := h
            rcases List.mem_append.1 hk with hk | hk
            · exact ih1 _ r.1 r.2 h1 k hk
            · exact ih2 _ s.1 s.2 h2 k hk
          · cases h
end
end Go.Proofs.YtigfgicjjhepoaaGreatDoor.VA

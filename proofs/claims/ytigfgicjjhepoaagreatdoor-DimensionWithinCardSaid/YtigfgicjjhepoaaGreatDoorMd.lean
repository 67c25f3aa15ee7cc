/- Parts of the proof: Wg, Wh, Wi, Wj, Wk, Wl -/
import Derived.Test.YtigfgicjjhepoaaGreatDoorMc
set_option linter.unusedVariables false
set_option linter.unusedSimpArgs false
namespace Go.Proofs.YtigfgicjjhepoaaGreatDoor.VA
open Go

open Classical in
/-- What is known at some depth. -/
noncomputable def lim (P : Program) (pol : Pol) (prim : FuncId → List PV → Option PV) (primI : FuncId → List PV → Heap → Option (PV × Heap)) : Orc :=
  { pure := fun f a => if h : ∃ r, ∃ m, (orc P pol prim primI m).pure f a = some r then some h.choose else none
    inl := fun p f a H => if h : ∃ r, ∃ m, (orc P pol prim primI m).inl p f a H = some r then some h.choose else none }

variable {c : Ctx} {P : Program} {pol : Pol} {prim : FuncId → List PV → Option PV} {primI : FuncId → List PV → Heap → Option (PV × Heap)}

theorem lim_pure {f : FuncId} {a : List PV} {r : PV} : (lim P pol prim primI).pure f a = some r ↔ ∃ m, (orc P pol prim primI m).pure f a = some r := by
  unfold lim
  simp only
  constructor
  · intro h
    split at h
    · rename_i hx; cases h; exact hx.choose_spec
    · cases h
  · rintro ⟨m, hm⟩
    have hx : ∃ r, ∃ m, (orc P pol prim primI m).pure f a = some r := ⟨r, m, hm⟩
    rw [dif_pos hx]
    obtain ⟨m', hm'⟩ := hx.choose_spec
    have h1 := (orc_le' (Nat.le_max_left m m')).pure _ _ _ hm
    have h2 := (orc_le' (Nat.le_max_right m m')).pure _ _ _ hm'
    rw [h1] at h2
    exact h2.symm
theorem lim_inl {p : List Nat} {f : FuncId} {a : List PV} {H : Heap} {r : PV × Heap} : (lim P pol prim primI).inl p f a H = some r ↔ ∃ m, (orc P pol prim primI m).inl p f a H = some r := by
  unfold lim
  simp only
  constructor
  · intro h
    split at h
    · rename_i hx; cases h; exact hx.choose_spec
    · cases h
  · rintro ⟨m, hm⟩
    have hx : ∃ r, ∃ m, (orc P pol prim primI m).inl p f a H = some r := ⟨r, m, hm⟩
    rw [dif_pos hx]
    obtain ⟨m', hm'⟩ := hx.choose_spec
    have h1 := (orc_le' (Nat.le_max_left m m')).inl _ _ _ _ _ hm
    have h2 := (orc_le' (Nat.le_max_right m m')).inl _ _ _ _ _ hm'
    rw [h1] at h2
    exact h2.symm

theorem stepC_lim {f : FuncId} {args : List PV} {H : Heap} {r : PV × List Key} (hs : stepC c (lim P pol prim primI) f args H = some r) : ∃ m, stepC c (orc P pol prim primI m) f args H = some r := by
  unfold stepC at hs ⊢
  split at hs
  · cases hs
  rename_i as1 ks hd
  try simp only [hd]
  split at hs
  · cases hs
  · rename_i hm
    try simp only [hm]
    simp only [Option.map_eq_some_iff] at hs ⊢
    obtain ⟨x, hx, e⟩ := hs
    obtain ⟨m, hx⟩ := lim_pure.1 hx
    exact ⟨m, x, hx, e⟩

theorem stepW_lim {d : Option Nat} {op : Op} {ρ : Operand → PV} {H : Heap} {r : PV × Heap} (hs : stepW c (lim P pol prim primI) d op ρ H = some r) : ∃ m, stepW c (orc P pol prim primI m) d op ρ H = some r := by
  cases op with
  | call k =>
    obtain ⟨cal, args, ats⟩ := k
    cases cal with
    | builtin b => cases b <;> exact ⟨0, hs⟩
    | invoke r m => simp [stepW] at hs
    | value g =>
      have key : ∀ (path : List Nat), (match ρ g with
          | .fn f first cap => match c.pol.mode f with
            | .inl => (lim P pol prim primI).inl path f (first ++ args.toList.map ρ ++ cap) H
            | _ => match stepC c (lim P pol prim primI) f (first ++ args.toList.map ρ ++ cap) H with
              | some (r, ks) => some (r, H.freeze ks)
              | none => none
          | _ => none) = some r → ∃ m, (match ρ g with
          | .fn f first cap => match c.pol.mode f with
            | .inl => (orc P pol prim primI m).inl path f (first ++ args.toList.map ρ ++ cap) H
            | _ => match stepC c (orc P pol prim primI m) f (first ++ args.toList.map ρ ++ cap) H with
              | some (r, ks) => some (r, H.freeze ks)
              | none => none
          | _ => none) = some r := by
        intro path hs
        split at hs
        rotate_left
        · cases hs
        rename_i f first cap hg
        try simp only
        split at hs
        · rename_i hm
          try simp only [hm]
          exact lim_inl.1 hs
        · rename_i hm
          split at hs
          · rename_i r' ks hc
            obtain ⟨m, hc⟩ := stepC_lim hc
            refine ⟨m, ?_⟩
            cases hmm : c.pol.mode f with
            | inl => exact absurd hmm hm
            | pure =>
              simp only [hc]
              exact hs
          · cases hs
      cases g with
      | func f =>
        simp only [stepW] at hs ⊢
        split at hs
        · exact lim_inl.1 hs
        · exact lim_inl.1 hs
      | _ => exact key _ hs
  | next it s => cases s <;> exact ⟨0, hs⟩
  | _ => exact ⟨0, hs⟩

theorem evEff_lim {draw : Bool} {o : Oper} {ρ : Operand → PV} {H : Heap} {r : PV × Eff} (hs : evEff c (lim P pol prim primI) draw o ρ H = some r) : ∃ m, evEff c (orc P pol prim primI m) draw o ρ H = some r := by
  unfold evEff at hs ⊢
  split at hs
  · exact ⟨0, hs⟩
  · exact ⟨0, hs⟩
  · exact ⟨0, hs⟩
  · rename_i e
    try simp only [e]
    split at hs
    · rename_i f args hc
      try simp only [hc]
      simp only [Option.map_eq_some_iff] at hs ⊢
      obtain ⟨x, hx, e'⟩ := hs
      obtain ⟨m, hx⟩ := stepC_lim hx
      exact ⟨m, x, hx, e'⟩
    · cases hs
  · cases hs

theorem evOp_lim {draw : Bool} {o : Oper} {st st' : St} (hs : evOp c (lim P pol prim primI) draw o st = some st') : ∃ m, evOp c (orc P pol prim primI m) draw o st = some st' := by
  unfold evOp at hs ⊢
  split at hs
  · rename_i e
    try simp only [e]
    simp only [Option.map_eq_some_iff] at hs ⊢
    obtain ⟨x, hx, e'⟩ := hs
    obtain ⟨m, hx⟩ := stepW_lim hx
    exact ⟨m, x, hx, e'⟩
  · rename_i hne
    simp only [Option.map_eq_some_iff] at hs ⊢
    obtain ⟨x, hx, e'⟩ := hs
    obtain ⟨m, hx⟩ := evEff_lim hx
    exact ⟨m, x, hx, e'⟩

theorem evStep_lim {draw : Bool} {ops : Array Oper} {i : Nat} {st st' : St} (hs : evStep c (lim P pol prim primI) draw ops i st = some st') : ∃ m, evStep c (orc P pol prim primI m) draw ops i st = some st' := by
  unfold evStep at hs ⊢
  split at hs
  · cases hs
  rename_i o ho
  try simp only
  split at hs
  · cases hs
  · rename_i hw; exact evOp_lim hs
  · rename_i hw; exact ⟨0, hs⟩

theorem evList_lim {draw : Bool} {ops : Array Oper} : ∀ (l : List Nat) {st st' : St}, evList c (lim P pol prim primI) draw ops l st = some st' → ∃ m, evList c (orc P pol prim primI m) draw ops l st = some st'
  | [], st, st', hs => ⟨0, hs⟩
  | i :: l, st, st', hs => by
    simp only [evList, Option.bind_eq_some_iff] at hs ⊢
    obtain ⟨s1, h1, h2⟩ := hs
    obtain ⟨a, h1⟩ := evStep_lim h1
    obtain ⟨b, h2⟩ := evList_lim l h2
    exact ⟨max a b, s1, evStep_le (orc_le' (Nat.le_max_left a b)) h1, evList_le (orc_le' (Nat.le_max_right a b)) l h2⟩

theorem evListT_lim {ops : Array Oper} : ∀ (l : List Nat) {st : St} {r : St × List Key}, evListT c (lim P pol prim primI) ops l st = some r → ∃ m, evListT c (orc P pol prim primI m) ops l st = some r
  | [], st, r, hs => ⟨0, hs⟩
  | i :: l, st, r, hs => by
    simp only [evListT] at hs ⊢
    split at hs
    · cases hs
    rename_i s1 h1
    split at hs
    · cases hs
    rename_i s2 ks h2
    obtain ⟨a, h1⟩ := evStep_lim h1
    obtain ⟨b, h2⟩ := evListT_lim l h2
    refine ⟨max a b, ?_⟩
    simp only [evStep_le (orc_le' (Nat.le_max_left a b)) h1, evListT_le (orc_le' (Nat.le_max_right a b)) l h2]
    exact hs

theorem reps_lim {ops : Array Oper} {st st0 : St} {ks : List Key} : ∀ {rs : List (List Nat)}, (rs.all fun l => match evListT c (lim P pol prim primI) ops l st with
        | some (st1, ks1) => sameB ops st0 st1 (ks ++ ks1)
        | none => false) = true → ∃ m, ∀ m', m ≤ m' → (rs.all fun l => match evListT c (orc P pol prim primI m') ops l st with
        | some (st1, ks1) => sameB ops st0 st1 (ks ++ ks1)
        | none => false) = true
  | [], _ => ⟨0, fun _ _ => rfl⟩
  | l :: rs, h => by
    simp only [List.all_cons, Bool.and_eq_true] at h
    obtain ⟨h1, h2⟩ := h
    obtain ⟨b, h2⟩ := reps_lim h2
    split at h1
    · rename_i s1 k1 he
      obtain ⟨a, he⟩ := evListT_lim l he
      refine ⟨max a b, fun m' hm => ?_⟩
      simp only [List.all_cons, Bool.and_eq_true]
      refine ⟨?_, h2 m' (by omega)⟩
      rw [evListT_le (orc_le' (show a ≤ m' by omega)) l he]
      exact h1
    · cases h1

theorem evRegion_lim {id : Nat} {ops : Array Oper} {draw : Bool} {st st' : St} (hs : evRegion c (lim P pol prim primI) id ops draw st = some st') : ∃ m, evRegion c (orc P pol prim primI m) id ops draw st = some st' := by
  unfold evRegion at hs ⊢
  split at hs
  · rename_i r rs hr
    try simp only
    split at hs
    rotate_left
    · cases hs
    rename_i st0 ks h0
    split at hs
    rotate_left
    · cases hs
    rename_i hq
    simp only [Bool.and_eq_true] at hq
    obtain ⟨a, h0⟩ := evListT_lim _ h0
    obtain ⟨b, hb⟩ := reps_lim hq.2
    refine ⟨max a b, ?_⟩
    simp only [evListT_le (orc_le' (Nat.le_max_left a b)) _ h0]
    rw [if_pos ?_]
    · exact hs
    · simp only [Bool.and_eq_true]
      exact ⟨hq.1, hb _ (Nat.le_max_right a b)⟩
  · rename_i d rs hne
    exact evList_lim _ hs

theorem evCode_lim : ∀ (n : Nat) {code : Code} {st : St} {r : Ex × St}, evCode c (lim P pol prim primI) n code st = some r → ∃ m, evCode c (orc P pol prim primI m) n code st = some r := by
  intro n
  induction n with
  | zero => intro code st r hs; simp [evCode] at hs
  | succ n ih =>
    intro code st r hs
    cases code with
    | skip => exact ⟨0, hs⟩
    | region id ops draw =>
      simp only [evCode, Option.map_eq_some_iff] at hs ⊢
      obtain ⟨s1, h1, e⟩ := hs
      obtain ⟨m, h1⟩ := evRegion_lim h1
      exact ⟨m, s1, h1, e⟩
    | seq a b =>
      simp only [evCode] at hs ⊢
      split at hs
      · rename_i s1 h1
        obtain ⟨x, h1⟩ := ih h1
        obtain ⟨y, hs⟩ := ih hs
        refine ⟨max x y, ?_⟩
        rw [evCode_le (orc_le' (Nat.le_max_left x y)) n h1]
        exact evCode_le (orc_le' (Nat.le_max_right x y)) n hs
      · rename_i hne
        obtain ⟨ex, s1⟩ := r
        obtain ⟨x, h1⟩ := ih hs
        refine ⟨x, ?_⟩
        rw [h1]
        cases ex with
        | normal => exact absurd hs (hne s1)
        | exit id => rfl
        | ret => rfl
    | cond x a b =>
      simp only [evCode] at hs ⊢
      split at hs
      · exact ih hs
      · cases hs
    | block id a =>
      simp only [evCode] at hs ⊢
      split at hs
      · rename_i j s1 h1
        obtain ⟨x, h1⟩ := ih h1
        exact ⟨x, by rw [h1]; exact hs⟩
      · rename_i hne
        obtain ⟨ex, s1⟩ := r
        obtain ⟨x, h1⟩ := ih hs
        refine ⟨x, ?_⟩
        rw [h1]
        cases ex with
        | normal => rfl
        | exit id => exact absurd hs (hne id s1)
        | ret => rfl
    | loop a =>
      simp only [evCode] at hs ⊢
      split at hs
      · rename_i s1 h1
        obtain ⟨x, h1⟩ := ih h1
        obtain ⟨y, hs⟩ := ih hs
        refine ⟨max x y, ?_⟩
        rw [evCode_le (orc_le' (Nat.le_max_left x y)) n h1]
        exact evCode_le (orc_le' (Nat.le_max_right x y)) n hs
      · rename_i hne
        obtain ⟨ex, s1⟩ := r
        obtain ⟨x, h1⟩ := ih hs
        refine ⟨x, ?_⟩
        rw [h1]
        cases ex with
        | normal => exact absurd hs (hne s1)
        | exit id => rfl
        | ret => rfl
    | exit id => exact ⟨0, hs⟩
    | ret => exact ⟨0, hs⟩
    | _ => simp [evCode] at hs

theorem evBody_lim {n : Nat} {path : List Nat} {f : FuncId} {args : List PV} {H : Heap} {r : PV × Heap} (hs : evBody P pol (lim P pol prim primI) n path f args H = some r) : ∃ m, evBody P pol (orc P pol prim primI m) n path f args H = some r := by
  unfold evBody at hs ⊢
  split at hs
  · cases hs
  split at hs
  · cases hs
  split at hs
  rotate_left
  · cases hs
  rename_i hc
  split at hs
  · rename_i st he
    obtain ⟨m, he⟩ := evCode_lim n he
    exact ⟨m, by rw [if_pos hc, he]; exact hs⟩
  · rename_i st he
    obtain ⟨m, he⟩ := evCode_lim n he
    exact ⟨m, by rw [if_pos hc, he]; exact hs⟩
  · cases hs

theorem evPure_lim {n : Nat} {f : FuncId} {args : List PV} {r : PV} (hs : evPure P pol (lim P pol prim primI) n f args = some r) : ∃ m, evPure P pol (orc P pol prim primI m) n f args = some r := by
  unfold evPure at hs ⊢
  split at hs
  rotate_left
  · cases hs
  rename_i hp
  split at hs
  · rename_i x H hb
    obtain ⟨m, hb⟩ := evBody_lim hb
    exact ⟨m, by rw [if_pos hp, hb]; exact hs⟩
  · cases hs

/-- What runs over all that is known is known. -/
theorem lim_run {f : FuncId} {args : List PV} {r : PV} (hp : prim f args = none) (h : Runs P pol (lim P pol prim primI) f args r) : (lim P pol prim primI).pure f args = some r := by
  obtain ⟨n, hn⟩ := h
  obtain ⟨m, hm⟩ := evPure_lim hn
  rw [lim_pure]
  exact ⟨max n m + 1, orc_pure hp (evPure_mono (evPure_le (orc_le' (Nat.le_max_right n m)) hm) (Nat.le_max_left n m))⟩
/-- What a function on the caller's heap does, given fuel enough. -/
def RunsI (P : Program) (pol : Pol) (O : Orc) (p : List Nat) (f : FuncId) (args : List PV) (H : Heap) (r : PV) (H' : Heap) : Prop := ∃ n, evBody P pol O n p f args H = some (r, H')
theorem lim_runI {p : List Nat} {f : FuncId} {args : List PV} {H H' : Heap} {r : PV} (hp : primI f args H = none) (h : RunsI P pol (lim P pol prim primI) p f args H r H') : (lim P pol prim primI).inl p f args H = some (r, H') := by
  obtain ⟨n, hn⟩ := h
  obtain ⟨m, hm⟩ := evBody_lim hn
  rw [lim_inl]
  refine ⟨max n m + 1, ?_⟩
  simp only [orc, hp]
  exact evBody_mono (evBody_le (orc_le' (Nat.le_max_right n m)) hm) (Nat.le_max_left n m)
theorem lim_prim {f : FuncId} {args : List PV} {r : PV} (h : prim f args = some r) : (lim P pol prim primI).pure f args = some r := lim_pure.2 ⟨0, h⟩
theorem lim_primI {p : List Nat} {f : FuncId} {args : List PV} {H : Heap} {r : PV × Heap} (h : primI f args H = some r) : (lim P pol prim primI).inl p f args H = some r := lim_inl.2 ⟨0, h⟩
end Go.Proofs.YtigfgicjjhepoaaGreatDoor.VA
set_option linter.unusedVariables false
set_option linter.unusedSimpArgs false
namespace Go.Proofs.YtigfgicjjhepoaaGreatDoor.VA
open Go

/-- What is known: temporaries, blocks, how many blocks have been laid at places. -/
structure YS where
  ts : List (Nat × PV)
  bs : List (Key × Blk)
  cs : List (Nat × Nat)

structure HasY (p : List Nat) (y : YS) (st : St) : Prop where
  t : ∀ x ∈ y.ts, st.tm x.1 = x.2
  b : ∀ x ∈ y.bs, st.hp.blk x.1 = some x.2
  c : ∀ x ∈ y.cs, st.hp.cnt p x.1 = x.2

def getT : List (Nat × PV) → (Nat → PV) → Nat → PV
  | [], R, i => R i
  | (n, v) :: l, R, i => match Nat.beq i n with
    | true => v
    | false => getT l R i
def dropT {α : Type} : List (Nat × α) → Nat → List (Nat × α)
  | [], _ => []
  | (n, v) :: l, d => match Nat.beq n d with
    | true => dropT l d
    | false => (n, v) :: dropT l d
def putT (ts : List (Nat × PV)) (d : Option Nat) (v : PV) : List (Nat × PV) :=
  match d with
  | some d => (d, v) :: dropT ts d
  | none => ts
def getC : List (Nat × Nat) → Nat → Option Nat
  | [], _ => none
  | (n, v) :: l, d => match Nat.beq n d with
    | true => some v
    | false => getC l d

/-- Every one of a list. -/
def AllP : List Prop → Prop
  | [] => True
  | p :: l => p ∧ AllP l

/-- The state, where what is not known is R. -/
structure SatY (p : List Nat) (R : Nat → PV) (y : YS) (st : St) : Prop where
  t : st.tm = fun i => getT y.ts R i
  b : ∀ x ∈ y.bs, st.hp.blk x.1 = some x.2
  c : ∀ x ∈ y.cs, st.hp.cnt p x.1 = x.2

def yρ (c : Ctx) (R : Nat → PV) (y : YS) : Operand → PV := opv c.pol.glob (fun i => getT y.ts R i)

/-- What becomes of a block that is known: forgotten; another by its place in the code; another as is told. -/
inductive Keep where
  | drop | apart | told

def apart (k j : Key) : Bool := !(Nat.beq k.2.1 j.2.1)
def apartL (k : Key) : List Key → Bool
  | [] => true
  | j :: l => apart k j && apartL k l
def notIn (k : Key) : List Key → Prop
  | [] => True
  | j :: l => k ≠ j ∧ notIn k l

/-- Those that are none of some keys. -/
def keepB : List Keep → List (Key × Blk) → List Key → Option (List (Key × Blk) × List Prop)
  | _, [], _ => some ([], [])
  | .drop :: ms, _ :: l, ks => keepB ms l ks
  | .apart :: ms, e :: l, ks => match apartL e.1 ks, keepB ms l ks with
    | true, some r => some (e :: r.1, r.2)
    | _, _ => none
  | .told :: ms, e :: l, ks => match keepB ms l ks with
    | some r => some (e :: r.1, notIn e.1 ks :: r.2)
    | none => none
  | [], _ :: _, _ => none

/-- One block is another now. -/
def setB : Nat → List Keep → List (Key × Blk) → Key → Blk → Option (List (Key × Blk) × List Prop)
  | 0, _ :: ms, _ :: l, k, b => match keepB ms l [k] with
    | some r => some ((k, b) :: r.1, r.2)
    | none => none
  | n + 1, .drop :: ms, _ :: l, k, b => setB n ms l k b
  | n + 1, .apart :: ms, e :: l, k, b => match apart e.1 k, setB n ms l k b with
    | true, some r => some (e :: r.1, r.2)
    | _, _ => none
  | n + 1, .told :: ms, e :: l, k, b => match setB n ms l k b with
    | some r => some (e :: r.1, (e.1 ≠ k) :: r.2)
    | none => none
  | _, _, _, _, _ => none
/-- All but one, that are none of some keys. -/
def outB : Nat → List Keep → List (Key × Blk) → List Key → Option (List (Key × Blk) × List Prop)
  | 0, _ :: ms, _ :: l, ks => keepB ms l ks
  | n + 1, .drop :: ms, _ :: l, ks => outB n ms l ks
  | n + 1, .apart :: ms, e :: l, ks => match apartL e.1 ks, outB n ms l ks with
    | true, some r => some (e :: r.1, r.2)
    | _, _ => none
  | n + 1, .told :: ms, e :: l, ks => match outB n ms l ks with
    | some r => some (e :: r.1, notIn e.1 ks :: r.2)
    | none => none
  | _, _, _, _ => none

def eqNats : List Nat → List Nat → Bool
  | [], [] => true
  | a :: l, b :: m => Nat.beq a b && eqNats l m
  | _, _ => false
def kEq (k j : Key) : Bool := eqNats k.1 j.1 && (Nat.beq k.2.1 j.2.1 && Nat.beq k.2.2 j.2.2)
/-- Two keys are the same: by computation, or as is told. -/
def keyOb (cmp : Bool) (k j : Key) : Option (List Prop) :=
  match cmp with
  | true => match kEq k j with
    | true => some []
    | false => none
  | false => some [k = j]

/-- How a value is read deep. -/
inductive Rd where
  | p
  | agg (l : List Rd)
  | tup (l : List Rd)
  | sl (l : List Rd)
  | row (n : Nat) (cmp : Bool)
  | part (n : Nat) (cmp : Bool)
  | rows (n : Nat) (cmp : Bool) (l : List Rd)
  | ptr (n : Nat) (cmp : Bool)
  | ptrs (n : Nat) (cmp : Bool) (l : List Rd)
  | fn (a b : List Rd)

/-- A block that is read: its place among those known, its key, whether it is read indeed. -/
structure Use where
  n : Nat
  key : Key
  cond : Bool

mutual
def rdV (bs : List (Key × Blk)) : Nat → Rd → PV → Option (PV × List Use × List Prop)
  | _, .p, v => some (v, [], [v.pers = true])
  | n + 1, .agg rs, .agg l => match rdL bs n rs l with
    | some (xs, us, ps) => some (.agg xs, us, ps)
    | none => none
  | n + 1, .tup rs, .tup l => match rdL bs n rs l with
    | some (xs, us, ps) => some (.tup xs, us, ps)
    | none => none
  | n + 1, .sl rs, .sl f l => match rdL bs n rs l with
    | some (xs, us, ps) => match allSz (l.headD .junk).cells.length xs with
      | true => some (.sl f xs, us, ps)
      | false => none
    | none => none
  | n + 1, .row i cmp, .ms k sz off len => match bs[i]? with
    | some (k', .row z els _) => match Nat.beq off 0 && Nat.beq z sz, keyOb cmp k k' with
      | true, some q => some (.sl false els, [⟨i, k', !(Nat.beq len 0)⟩], q ++ [len = els.length, PV.persL els = true, allSz sz els = true])
      | _, _ => none
    | _ => none
  | n + 1, .part i cmp, .ms k sz off len => match bs[i]? with
    | some (k', .row z els _) => match Nat.beq z sz, keyOb cmp k k' with
      | true, some q => some (.sl false ((els.drop off).take len), [⟨i, k', !(Nat.beq len 0)⟩], q ++ [off + len ≤ els.length, PV.persL ((els.drop off).take len) = true, allSz sz ((els.drop off).take len) = true])
      | _, _ => none
    | _ => none
  | n + 1, .rows i cmp rs, .ms k sz off len => match bs[i]? with
    | some (k', .row z els _) => match Nat.beq z sz, keyOb cmp k k', cut els off len with
      | true, some q, some part => match rdL bs n rs part with
        | some (xs, us, ps) => match allSz sz xs, Nat.beq len 0 with
          | true, false => some (.sl false xs, ⟨i, k', true⟩ :: us, q ++ ps)
          | _, _ => none
        | none => none
      | _, _, _ => none
    | _ => none
  | n + 1, .ptr i cmp, .ptr k sz q j => match bs[i]? with
    | some (k', .row z els _) => match Nat.beq z sz, keyOb cmp k k', els[q]? with
      | true, some o, some e => some (.pp e.cells j, [⟨i, k', true⟩], o ++ [PV.persL e.cells = true])
      | _, _, _ => none
    | _ => none
  | n + 1, .ptrs i cmp rs, .ptr k sz q j => match bs[i]? with
    | some (k', .row z els _) => match Nat.beq z sz, keyOb cmp k k', els[q]? with
      | true, some o, some e => match rdL bs n rs e.cells with
        | some (xs, us, ps) => some (.pp xs j, ⟨i, k', true⟩ :: us, o ++ ps)
        | none => none
      | _, _, _ => none
    | _ => none
  | n + 1, .fn ra rb, .fn f a b => match rdL bs n ra a, rdL bs n rb b with
    | some (xs, us, ps), some (ys, vs, qs) => some (.fn f xs ys, us ++ vs, ps ++ qs)
    | _, _ => none
  | _, _, _ => none
def rdL (bs : List (Key × Blk)) : Nat → List Rd → List PV → Option (List PV × List Use × List Prop)
  | _, [], [] => some ([], [], [])
  | n + 1, r :: rs, v :: l => match rdV bs n r v, rdL bs n rs l with
    | some (x, us, ps), some (xs, vs, qs) => some (x :: xs, us ++ vs, ps ++ qs)
    | _, _ => none
  | _, _, _ => none
end

def usedB (i : Nat) : List Use → Bool
  | [] => false
  | u :: us => match Nat.beq u.n i with
    | true => u.cond || usedB i us
    | false => usedB i us
def apartU (i : Nat) (k : Key) : List Use → Bool
  | [] => true
  | u :: us => (Nat.beq u.n i || apart k u.key) && apartU i k us
def toldU (i : Nat) (k : Key) : List Use → Prop
  | [] => True
  | u :: us => match Nat.beq u.n i with
    | true => toldU i k us
    | false => k ≠ u.key ∧ toldU i k us
def Blk.frz : Blk → Bool → Blk
  | .row s e f, b => .row s e (f || b)
  | x, _ => x
/-- After a call that read some. -/
def frzB (nfl : Bool) (us : List Use) : Nat → List Keep → List (Key × Blk) → Option (List (Key × Blk) × List Prop)
  | _, _, [] => some ([], [])
  | i, .drop :: ms, _ :: l => frzB nfl us (i + 1) ms l
  | i, .apart :: ms, e :: l => match apartU i e.1 us, frzB nfl us (i + 1) ms l with
    | true, some r => some ((e.1, e.2.frz (usedB i us && nfl)) :: r.1, r.2)
    | _, _ => none
  | i, .told :: ms, e :: l => match frzB nfl us (i + 1) ms l with
    | some r => some ((e.1, e.2.frz (usedB i us && nfl)) :: r.1, toldU i e.1 us :: r.2)
    | none => none
  | _, [], _ :: _ => none

/-- Where an append's new elements come from, and what it goes on. -/
inductive Src where
  | sl | ms (n : Nat) (cmp : Bool)
inductive Onto where
  | nil | own (n : Nat) (cmp : Bool) | pers

/-- What is said of an operation. -/
inductive Hint where
  | ev
  | bit (b : Bool)
  | val (v : PV)
  | fit
  | elem (e : PV)
  | idx
  | cut (w : PV)
  | ld (n : Nat) (cmp : Bool)
  | get (n : Nat) (cmp : Bool) (e : PV)
  | st (n : Nat) (cmp : Bool) (ks : List Keep)
  | put (n : Nat) (cmp : Bool) (ks : List Keep) (e : PV)
  | new (ks : List Keep)
  | mk (ks : List Keep)
  | flat (rs : List Rd) (v : PV)
  | call (rs : List Rd) (ks : List Keep) (v : PV)
  | inl (v : PV) (bs : List (Key × Blk)) (cs : List (Nat × Nat))
  | app (x : Src) (s : Onto) (ks : List Keep)
  | any (v : PV) (bs : List (Key × Blk)) (cs : List (Nat × Nat))
  | scut
  | byte (b : UInt8)
  | div
  | look (n : Nat) (cmp : Bool) (r : Option PV)
  | upd (n : Nat) (cmp : Bool) (ks : List Keep)
  | nx (n : Nat) (cmp : Bool) (ks : List Keep) (b : Bool)

/-- A place behind another. -/
def addO (off i : Nat) : Nat :=
  match off with
  | 0 => i
  | off + 1 => off + 1 + i
abbrev YR := PV × List (Key × Blk) × List (Nat × Nat) × List Prop

def intP : PV → Option (IntKind × Int)
  | .int k n => some (k, n)
  | _ => none

/-- The unwrapped answer. -/
def fitV (ρ : Operand → PV) (P : Program) : Op → Option (IntKind × Int)
  | .binOp .add _ x y _ => match ρ x, ρ y with
    | .int k a, .int j b => if k = j then some (k, a + b) else none
    | _, _ => none
  | .binOp .sub _ x y _ => match ρ x, ρ y with
    | .int k a, .int j b => if k = j then some (k, a - b) else none
    | _, _ => none
  | .binOp .mul _ x y _ => match ρ x, ρ y with
    | .int k a, .int j b => if k = j then some (k, a * b) else none
    | _, _ => none
  | .unOp .neg _ x => match ρ x with
    | .int k a => some (k, 0 - a)
    | _ => none
  | .convert s d x => match P.underlying s, P.underlying d, ρ x with
    | some _, some (.int k), .int _ n => some (k, n)
    | _, _, _ => none
  | _ => none

def isRow (P : Program) (t : TypeId) : Option TypeId :=
  match P.underlying t with
  | some (.slice e) => some e
  | _ => none

def srcY (y : YS) (sz : Nat) (s : Src) (x : PV) : Option (List PV × List Prop) :=
  match s, x with
  | .sl, .sl _ l => some (l, [allSz sz l = true])
  | .ms n cmp, .ms k z off len => match y.bs[n]? with
    | some (k', .row w els _) => match Nat.beq off 0 && Nat.beq z sz, Nat.beq w sz, keyOb cmp k k' with
      | true, true, some q => some (els, q ++ [len = els.length])
      | _, _, _ => none
    | _ => none
  | _, _ => none

def appY (c : Ctx) (y : YS) (d : Nat) (t tx : TypeId) (s x : PV) (hx : Src) (hs : Onto) (ks : List Keep) : Option YR :=
  match (elemT c.P t).bind (szT c.P), (elemT c.P t).bind (byT c.P), srcT c.P tx with
  | some (sz + 1), some (by_ + 1), true => match srcY y (sz + 1) hx x with
    | none => none
    | some (src, q) => match hs, s with
      | .nil, .sl true [] => match getC y.cs d with
        | some n => match keepB ks y.bs [(c.path, d, n)] with
          | some r => some (.ms (c.path, d, n) (sz + 1) 0 src.length, ((c.path, d, n), .row (sz + 1) src false) :: r.1, (d, n + 1) :: dropT y.cs d,
              q ++ (src.all (fun v => v.cells.all oneV) = true) :: (src.length * (by_ + 1) ≤ 2 ^ 47) :: r.2)
          | none => none
        | none => none
      | .own i cmp, .ms k w off len => match y.bs[i]?, getC y.cs d with
        | some (k', .row z els false), some n => match Nat.beq off 0 && Nat.beq w (sz + 1), Nat.beq z (sz + 1), keyOb cmp k k', outB i ks y.bs [k, (c.path, d, n)] with
          | true, true, some o, some r => some (.ms (c.path, d, n) (sz + 1) 0 (len + src.length), ((c.path, d, n), .row (sz + 1) (els ++ src) false) :: r.1, (d, n + 1) :: dropT y.cs d,
              q ++ o ++ (src.all (fun v => v.cells.all oneV) = true) :: (len = els.length) :: ((len + src.length) * (by_ + 1) ≤ 2 ^ 47) :: r.2)
          | _, _, _, _ => none
        | _, _ => none
      | .pers, .sl true l => some (.sl false (l ++ src), y.bs, y.cs,
              q ++ [src.all (fun v => v.cells.all oneV) = true, l ≠ [], PV.persL src = true, allSz (sz + 1) l = true, (l.length + src.length) * (by_ + 1) ≤ 2 ^ 47])
      | _, _ => none
  | _, _, _ => none

/-- What is known of a heap. -/
structure HasH (p : List Nat) (bs : List (Key × Blk)) (cs : List (Nat × Nat)) (H : Heap) : Prop where
  b : ∀ x ∈ bs, H.blk x.1 = some x.2
  c : ∀ x ∈ cs, H.cnt p x.1 = x.2
/-- What a call on the caller's heap must do. -/
def InlOk (O : Orc) (p : List Nat) (d : Nat) (f : FuncId) (args : List PV) (bs : List (Key × Blk)) (cs : List (Nat × Nat)) (v : PV) (bs' : List (Key × Blk)) (cs' : List (Nat × Nat)) : Prop :=
  ∀ H, HasH p bs cs H → ∃ H', O.inl (p ++ [d]) f args H = some (v, H') ∧ HasH p bs' cs' H'
/-- What an operation must do. -/
def AnyOk (c : Ctx) (O : Orc) (draw : Bool) (o : Oper) (y : YS) (v : PV) (bs : List (Key × Blk)) (cs : List (Nat × Nat)) : Prop :=
  ∀ st, HasY c.path y st → ∃ H', evOp c O draw o st = some ⟨(st.put o.dst v).tm, H'⟩ ∧ HasH c.path bs cs H'

def yOp (c : Ctx) (O : Orc) (h : Hint) (draw : Bool) (o : Oper) (R : Nat → PV) (y : YS) : Option YR :=
  match h with
  | .ev => match isPR c.pol draw o.op, stepV c o.op (yρ c R y) Heap.empty with
    | true, some v => some (v, y.bs, y.cs, [])
    | _, _ => none
  | .bit b => match isPR c.pol draw o.op, stepV c o.op (yρ c R y) Heap.empty with
    | true, some (.bool x) => some (.bool b, y.bs, y.cs, [x = b])
    | _, _ => none
  | .val v => match isPR c.pol draw o.op with
    | true => some (v, y.bs, y.cs, [stepV c o.op (yρ c R y) Heap.empty = some v])
    | false => none
  | .fit => match fitV (yρ c R y) c.P o.op with
    | some (k, n) => some (.int k n, y.bs, y.cs, [k.wrap n = n])
    | none => none
  | .elem e => match o.op with
    | .indexAddr t x j => match isRow c.P t, yρ c R y x, yρ c R y j with
      | some el, .sl _ xs, .int _ n => match szT c.P el with
        | some (m + 1) => match Nat.beq e.cells.length (m + 1) with
          | true => some (.pp e.cells 0, y.bs, y.cs, [0 ≤ n, xs[n.toNat]? = some e])
          | false => none
        | _ => none
      | _, _, _ => none
    | _ => none
  | .idx => match o.op with
    | .indexAddr t x j => match isRow c.P t, yρ c R y x, yρ c R y j with
      | some el, .ms k sz off len, .int _ n => match szT c.P el with
        | some (m + 1) => match Nat.beq (m + 1) sz with
          | true => some (.ptr k (m + 1) (addO off n.toNat) 0, y.bs, y.cs, [0 ≤ n, n < len])
          | false => none
        | _ => none
      | _, _, _ => none
    | _ => none
  | .cut w => match o.op with
    | .slice t x lo hi none => match isRow c.P t, yρ c R y x with
      | some e, .sl f xs => match szT c.P e, intP ((lo.map (yρ c R y)).getD (.int .i64 0)), intP ((hi.map (yρ c R y)).getD (.int .i64 xs.length)) with
        | some (m + 1), some (_, a), some (_, b) => some (w, y.bs, y.cs, [allSz (m + 1) xs = true, 0 ≤ a, a ≤ b, b ≤ xs.length, PV.sl (f && decide (b = xs.length)) ((xs.drop a.toNat).take (b.toNat - a.toNat)) = w])
        | _, _, _ => none
      | some e, .ms k sz off len => match szT c.P e, intP ((lo.map (yρ c R y)).getD (.int .i64 0)), intP ((hi.map (yρ c R y)).getD (.int .i64 len)) with
        | some m, some (_, a), some (_, b) => match Nat.beq m sz with
          | true => some (w, y.bs, y.cs, [0 ≤ a, a ≤ b, b ≤ len, PV.ms k sz (off + a.toNat) (b.toNat - a.toNat) = w])
          | false => none
        | _, _, _ => none
      | _, _ => none
    | _ => none
  | .ld n cmp => match o.op with
    | .load t a => match yρ c R y a, y.bs[n]?, szT c.P t with
      | .ptr k sz i j, some (k', .row z els _), some m => match Nat.beq z sz, keyOb cmp k k', els[i]? with
        | true, some q, some e => match (VA.cut e.cells j m).bind (asType c.P t) with
          | some v => some (v, y.bs, y.cs, q)
          | none => none
        | _, _, _ => none
      | _, _, _ => none
    | _ => none
  | .get n cmp e => match o.op with
    | .load t a => match yρ c R y a, y.bs[n]?, szT c.P t with
      | .ptr k sz i j, some (k', .row z els _), some m => match Nat.beq z sz, keyOb cmp k k' with
        | true, some q => match (VA.cut e.cells j m).bind (asType c.P t) with
          | some v => some (v, y.bs, y.cs, q ++ [els[i]? = some e])
          | none => none
        | _, _ => none
      | _, _, _ => none
    | _ => none
  | .st n cmp ks => match o.op with
    | .store t a x => match yρ c R y a, y.bs[n]?, szT c.P t with
      | .ptr k sz i j, some (k', .row z els false), some (m + 1) => match Nat.beq z sz, keyOb cmp k k', els[i]? with
        | true, some q, some e => let v := yρ c R y x
          match Nat.beq v.cells.length (m + 1) && v.cells.all oneV && Nat.ble (j + (m + 1)) e.cells.length && elemOk (putCells e.cells j v.cells), setB n ks y.bs k' (.row sz (els.set i (elemOf (putCells e.cells j v.cells))) false) with
          | true, some r => some (.tup [], r.1, y.cs, q ++ r.2)
          | _, _ => none
        | _, _, _ => none
      | _, _, _ => none
    | _ => none
  | .put n cmp ks e => match o.op with
    | .store t a x => match yρ c R y a, y.bs[n]?, szT c.P t with
      | .ptr k sz i j, some (k', .row z els false), some (m + 1) => match Nat.beq z sz, keyOb cmp k k' with
        | true, some q => let v := yρ c R y x
          match Nat.beq v.cells.length (m + 1) && v.cells.all oneV && Nat.ble (j + (m + 1)) e.cells.length && elemOk (putCells e.cells j v.cells), setB n ks y.bs k' (.row sz (els.set i (elemOf (putCells e.cells j v.cells))) false) with
          | true, some r => some (.tup [], r.1, y.cs, q ++ (els[i]? = some e) :: r.2)
          | _, _ => none
        | _, _ => none
      | _, _, _ => none
    | _ => none
  | .new ks => match clsOf c.pol draw o.op, o.dst, stepN c o.op (yρ c R y) with
    | .n, some d, some (b, f) => match getC y.cs d with
      | some n => match keepB ks y.bs [(c.path, d, n)] with
        | some r => some (f (c.path, d, n), ((c.path, d, n), b) :: r.1, (d, n + 1) :: dropT y.cs d, r.2)
        | none => none
      | none => none
    | _, _, _ => none
  | .mk ks => match o.op, o.dst with
    | .makeSlice t x z, some d => match elemT c.P t with
      | some e => match szT c.P e, byT c.P e, zeroT c.P e, yρ c R y x, yρ c R y z with
        | some m, some by_, some w, .int .i64 a, .int .i64 b => match elemOk w && Nat.beq w.length m, getC y.cs d with
          | true, some n => match keepB ks y.bs [(c.path, d, n)] with
            | some r => some (.ms (c.path, d, n) m 0 a.toNat, ((c.path, d, n), .row m (List.replicate a.toNat (elemOf w)) false) :: r.1, (d, n + 1) :: dropT y.cs d,
                (a = b) :: (0 ≤ a) :: ((by_ : Int) * a ≤ 281474976710656) :: (a ≤ 281474976710656) :: r.2)
            | none => none
          | _, _ => none
        | _, _, _, _, _ => none
      | none => none
    | _, _ => none
  | .flat rs v => match callee o.op (yρ c R y) with
    | some (f, args) => match c.pol.mode f, rdL y.bs 12 rs args, v.flat with
      | .pure, some (xs, us, ps), true => some (v, y.bs, y.cs, ps ++ [O.pure f xs = some v])
      | _, _, _ => none
    | none => none
  | .call rs ks v => match callee o.op (yρ c R y) with
    | some (f, args) => match c.pol.mode f, rdL y.bs 12 rs args with
      | .pure, some (xs, us, ps) => match frzB (!v.flat) us 0 ks y.bs with
        | some r => some (v, r.1, y.cs, ps ++ (O.pure f xs = some v) :: r.2)
        | none => none
      | _, _ => none
    | none => none
  | .inl v bs cs => match callee o.op (yρ c R y), clsOf c.pol draw o.op with
    | some (f, args), .w => match c.pol.mode f with
      | .inl => some (v, bs, cs, [InlOk O c.path (o.dst.getD 1000000) f args y.bs y.cs v bs cs])
      | .pure => none
    | _, _ => none
  | .app hx hs ks => match o.op, o.dst with
    | .call { callee := .builtin .append, args, argTypes }, some d => match args.toList, argTypes.toList with
      | [s, x], [t, tx] => appY c y d t tx (yρ c R y s) (yρ c R y x) hx hs ks
      | _, _ => none
    | _, _ => none
  | .any v bs cs => some (v, bs, cs, [AnyOk c O draw o y v bs cs])
  | .scut => match o.op with
    | .slice t x lo hi none => match isStrT c.P t, yρ c R y x with
      | true, .str s => match intP ((lo.map (yρ c R y)).getD (.int .i64 0)), intP ((hi.map (yρ c R y)).getD (.int .i64 s.size)) with
        | some (_, a), some (_, b) => some (.str (s.extract a.toNat b.toNat), y.bs, y.cs, [0 ≤ a, a ≤ b, b ≤ s.size])
        | _, _ => none
      | _, _ => none
    | _ => none
  | .byte b => match o.op with
    | .index t x i => match isStrT c.P t, yρ c R y x, yρ c R y i with
      | true, .str s, .int _ n => some (.int .u8 (b.toNat : Int), y.bs, y.cs, [0 ≤ n, s.data.toList[n.toNat]? = some b])
      | _, _, _ => none
    | _ => none
  | .div => match o.op with
    | .binOp .quo t x z _ => match yρ c R y x, yρ c R y z with
      | .int k a, .int j b => match decide (k = j) with
        | true => some (.int k (k.wrap (a.tdiv b)), y.bs, y.cs, [b ≠ 0])
        | false => none
      | _, _ => none
    | .binOp .rem t x z _ => match yρ c R y x, yρ c R y z with
      | .int k a, .int j b => match decide (k = j) with
        | true => some (.int k (a.tmod b), y.bs, y.cs, [b ≠ 0])
        | false => none
      | _, _ => none
    | _ => none
  | .look n cmp r => match o.op with
    | .lookup t x i ok => match keyT c.P t, yρ c R y x, y.bs[n]? with
      | some (d, e), .mapr k, some (k', .map d' es) => match keyOb cmp k k', decide (d = d') && isKeyV d (yρ c R y i), zeroT c.P e, aggT c.P e with
        | some q, true, some z, some true => some ((match ok with
          | true => .tup [r.getD (.agg z), .bool r.isSome]
          | false => r.getD (.agg z)), y.bs, y.cs, q ++ [lookV es (yρ c R y i) = r])
        | some q, true, some z, some false => some ((match ok with
          | true => .tup [r.getD (z.headD .junk), .bool r.isSome]
          | false => r.getD (z.headD .junk)), y.bs, y.cs, q ++ [lookV es (yρ c R y i) = r])
        | _, _, _, _ => none
      | _, _, _ => none
    | _ => none
  | .upd n cmp ks => match o.op with
    | .mapUpdate t m i v => match keyT c.P t, yρ c R y m, y.bs[n]? with
      | some (d, e), .mapr k, some (k', .map d' es) => match keyOb cmp k k', decide (d = d') && isKeyV d (yρ c R y i), setB n ks y.bs k' (.map d (updV es (yρ c R y i) (yρ c R y v))) with
        | some q, true, some r => some (.tup [], r.1, y.cs, q ++ r.2)
        | _, _, _ => none
      | _, _, _ => none
    | _ => none
  | .nx n cmp ks b => match o.op with
    | .next it true => match yρ c R y it, y.bs[n]? with
      | .ptr k 1 0 0, some (k', .iter s pos) => match keyOb cmp k k', b with
        | some q, true => match setB n ks y.bs k' (.iter s (pos + (Utf8.decode s pos).2)) with
          | some r => some (.tup [.bool true, .int .i64 pos, .int .i32 (Utf8.decode s pos).1], r.1, y.cs, q ++ (pos < s.size) :: r.2)
          | none => none
        | some q, false => some (.tup [.bool false], y.bs, y.cs, q ++ [¬ pos < s.size])
        | none, _ => none
      | _, _ => none
    | _ => none

def yStep (c : Ctx) (O : Orc) (h : Hint) (draw : Bool) (ops : Array Oper) (i : Nat) (R : Nat → PV) (y : YS) : Option (YS × List Prop) :=
  match ops[i]? with
  | none => none
  | some o => match wantedV ops o ⟨fun i => getT y.ts R i, Heap.empty⟩ with
    | none => none
    | some true => match yOp c O h draw o R y with
      | some (v, bs, cs, ps) => some (⟨putT y.ts o.dst v, bs, cs⟩, ps)
      | none => none
    | some false => some (⟨putT y.ts o.dst (.tup []), y.bs, y.cs⟩, [])

def yList (c : Ctx) (O : Orc) (fl : Nat → Hint) (draw : Bool) (ops : Array Oper) (R : Nat → PV) : List Nat → YS → Option (YS × List Prop)
  | [], y => some (y, [])
  | i :: l, y => match yStep c O (fl i) draw ops i R y with
    | none => none
    | some (y1, ps) => match yList c O fl draw ops R l y1 with
      | none => none
      | some (y2, qs) => some (y2, ps ++ qs)

/-- What a store writes to. -/
def touchY (c : Ctx) (ops : Array Oper) (i : Nat) (R : Nat → PV) (y : YS) : List Key :=
  match ops[i]? with
  | some o => match o.op with
    | .store _ a _ => match yρ c R y a with
      | .ptr k _ _ _ => [k]
      | _ => []
    | _ => []
  | none => []
/-- As yList, with what is written to. -/
def yListT (c : Ctx) (O : Orc) (fl : Nat → Hint) (ops : Array Oper) (R : Nat → PV) : List Nat → YS → Option (YS × List Prop × List Key)
  | [], y => some (y, [], [])
  | i :: l, y => match yStep c O (fl i) true ops i R y with
    | none => none
    | some (y1, ps) => match yListT c O fl ops R l y1 with
      | none => none
      | some (y2, qs, ks) => some (y2, ps ++ qs, touchY c ops i R y ++ ks)
/-- The block of a key of literals. -/
def findK (k : Key) : List (Key × Blk) → Option Blk
  | [] => none
  | e :: l => match kEq k e.1 with
    | true => some e.2
    | false => findK k l
def sameBs (b0 b1 : List (Key × Blk)) : List Key → Option (List Prop)
  | [] => some []
  | k :: l => match findK k b0, findK k b1, sameBs b0 b1 l with
    | some x, some y, some ps => match rowB (some x) with
      | true => some ((x = y) :: ps)
      | false => none
    | _, _, _ => none
def sameTs (R : Nat → PV) (t0 t1 : List (Nat × PV)) : List (Option Nat) → List Prop
  | [] => []
  | none :: ds => sameTs R t0 t1 ds
  | some d :: ds => (getT t0 R d = getT t1 R d) :: sameTs R t0 t1 ds
def yReps (c : Ctx) (O : Orc) (fl : Nat → Hint) (ops : Array Oper) (R : Nat → PV) (y y0 : YS) (ks : List Key) : List (List Nat) → Option (List Prop)
  | [] => some []
  | l :: rs => match yListT c O fl ops R l y with
    | none => none
    | some (y1, ps, ks1) => match yReps c O fl ops R y y0 ks rs, sameBs y0.bs y1.bs (dedupK (ks ++ ks1)) with
      | some qs, some os => some (ps ++ sameTs R y0.ts y1.ts (ops.toList.map (·.dst)) ++ os ++ qs)
      | _, _ => none

def yRegion (c : Ctx) (O : Orc) (fl : Nat → Nat → Hint) (id : Nat) (ops : Array Oper) (draw : Bool) (R : Nat → PV) (y : YS) : Option (YS × List Prop) :=
  match draw, c.pol.reps c.fn id with
  | true, r :: rs => match yListT c O (fl id) ops R (List.range ops.size) y, ops.toList.all (plainOp c.pol) with
    | some (y0, ps, ks), true => match yReps c O (fl id) ops R y y0 ks (r :: rs) with
      | some qs => some (y0, ps ++ qs)
      | none => none
    | _, _ => none
  | d, _ => yList c O (fl id) d ops R (List.range ops.size) y

def yCode (c : Ctx) (O : Orc) (fl : Nat → Nat → Hint) (R : Nat → PV) : Nat → Code → YS → Option (Ex × YS × List Prop)
  | 0, _, _ => none
  | _ + 1, .skip, y => some (.normal, y, [])
  | _ + 1, .region id ops draw, y => match yRegion c O fl id ops draw R y with
    | some (y', ps) => some (.normal, y', ps)
    | none => none
  | n + 1, .seq a b, y => match yCode c O fl R n a y with
    | some (.normal, y1, ps) => match yCode c O fl R n b y1 with
      | some (ex, y2, qs) => some (ex, y2, ps ++ qs)
      | none => none
    | some (.exit j, y1, ps) => some (.exit j, y1, ps)
    | some (.ret, y1, ps) => some (.ret, y1, ps)
    | none => none
  | n + 1, .cond x a b, y => match yρ c R y x with
    | .bool true => yCode c O fl R n a y
    | .bool false => yCode c O fl R n b y
    | _ => none
  | n + 1, .block id a, y => match yCode c O fl R n a y with
    | some (.exit j, y1, ps) => match Nat.beq j id with
      | true => some (.normal, y1, ps)
      | false => some (.exit j, y1, ps)
    | some (.normal, y1, ps) => some (.normal, y1, ps)
    | some (.ret, y1, ps) => some (.ret, y1, ps)
    | none => none
  | n + 1, .loop a, y => match yCode c O fl R n a y with
    | some (.normal, y1, ps) => match yCode c O fl R n (.loop a) y1 with
      | some (ex, y2, qs) => some (ex, y2, ps ++ qs)
      | none => none
    | some (.exit j, y1, ps) => some (.exit j, y1, ps)
    | some (.ret, y1, ps) => some (.ret, y1, ps)
    | none => none
  | _ + 1, .exit id, y => some (.exit id, y, [])
  | _ + 1, .ret, y => some (.ret, y, [])
  | _, _, _ => none
end Go.Proofs.YtigfgicjjhepoaaGreatDoor.VA
set_option linter.unusedVariables false
set_option linter.unusedSimpArgs false
namespace Go.Proofs.YtigfgicjjhepoaaGreatDoor.VA
open Go
variable {c : Ctx} {O : Orc} {R : Nat → PV} {y y' : YS} {st : St} {p : List Nat} {bs : List (Key × Blk)} {H : Heap}

theorem allP_append : ∀ {a b : List Prop}, AllP (a ++ b) ↔ AllP a ∧ AllP b
  | [], b => by simp [AllP]
  | p :: a, b => by simp [AllP, allP_append (a := a) (b := b), and_assoc]

theorem AllP.nil : AllP [] := trivial
theorem AllP.cons {p : Prop} {l : List Prop} (h : p) (t : AllP l) : AllP (p :: l) := ⟨h, t⟩
theorem getT_eq : ∀ {ts : List (Nat × PV)} {tm : Nat → PV}, (∀ x ∈ ts, tm x.1 = x.2) → (fun i => getT ts tm i) = tm
  | [], tm, h => rfl
  | (n, v) :: l, tm, h => by
    funext i
    unfold getT
    split
    · rename_i e
      have e := Nat.eq_of_beq_eq_true e
      subst e
      exact (h (i, v) (by simp)).symm
    · exact congrFun (getT_eq (ts := l) (fun x hx => h x (by simp [hx]))) i
theorem getT_drop {d i : Nat} (h : i ≠ d) : ∀ {ts : List (Nat × PV)}, getT (dropT ts d) R i = getT ts R i
  | [] => rfl
  | (n, v) :: l => by
    unfold dropT
    split
    · rename_i e
      have e := Nat.eq_of_beq_eq_true e
      rw [getT_drop h (ts := l)]
      show _ = getT ((n, v) :: l) R i
      have : Nat.beq i n = false := by
        cases hb : Nat.beq i n with
        | false => rfl
        | true => exact absurd ((Nat.eq_of_beq_eq_true hb).trans e) h
      simp only [getT, this]
    · simp only [getT]
      rw [getT_drop h (ts := l)]
theorem getT_put (d : Option Nat) (v : PV) (ts : List (Nat × PV)) (hp : Heap) : (fun i => getT (putT ts d v) R i) = (St.put ⟨fun i => getT ts R i, hp⟩ d v).tm := by
  cases d with
  | none => rfl
  | some d =>
    funext i
    show getT ((d, v) :: dropT ts d) R i = if i = d then v else getT ts R i
    rw [getT]
    by_cases h : i = d
    · subst h
      simp
    · have : Nat.beq i d = false := by
        cases hb : Nat.beq i d with
        | false => rfl
        | true => exact absurd (Nat.eq_of_beq_eq_true hb) h
      simp only [this, if_neg h]
      exact getT_drop (R := R) (ts := ts) h
theorem HasY.sat (h : HasY p y st) : SatY p st.tm y st := ⟨(getT_eq h.t).symm, h.b, h.c⟩
theorem mem_getT : ∀ {ts : List (Nat × PV)}, (ts.map (·.1)).Nodup → ∀ x ∈ ts, getT ts R x.1 = x.2
  | (n, v) :: l, hd, x, hx => by
    simp only [List.map_cons, List.nodup_cons] at hd
    unfold getT
    rcases List.mem_cons.1 hx with rfl | hx
    · simp
    · have hne : x.1 ≠ n := fun e => hd.1 (e ▸ List.mem_map.2 ⟨x, hx, rfl⟩)
      have : Nat.beq x.1 n = false := by
        cases hb : Nat.beq x.1 n with
        | false => rfl
        | true => exact absurd (Nat.eq_of_beq_eq_true hb) hne
      simp only [this]
      exact mem_getT hd.2 x hx
/-- Every name once. -/
def onceT : List (Nat × PV) → Bool
  | [] => true
  | x :: l => offT x.1 l && onceT l
where
  offT (n : Nat) : List (Nat × PV) → Bool
    | [] => true
    | x :: l => !(Nat.beq n x.1) && offT n l
theorem onceT_ok : ∀ {ts : List (Nat × PV)}, onceT ts = true → (ts.map (·.1)).Nodup
  | [], _ => by simp
  | x :: l, h => by
    simp only [onceT, Bool.and_eq_true] at h
    simp only [List.map_cons, List.nodup_cons]
    refine ⟨?_, onceT_ok h.2⟩
    have off : ∀ {l : List (Nat × PV)}, onceT.offT x.1 l = true → x.1 ∉ l.map (·.1) := by
      intro l
      induction l with
      | nil => intro _; simp
      | cons z l ih =>
        intro h
        simp only [onceT.offT, Bool.and_eq_true, Bool.not_eq_true'] at h
        simp only [List.map_cons, List.mem_cons, not_or]
        refine ⟨fun e => ?_, ih h.2⟩
        rw [e] at h
        simp at h
    exact off h.1
theorem SatY.has (h : SatY p R y st) (ho : onceT y.ts = true) : HasY p y st := ⟨fun x hx => by rw [h.t]; exact mem_getT (onceT_ok ho) x hx, h.b, h.c⟩
theorem SatY.heap (h : SatY p R y st) : HasH p y.bs y.cs st.hp := ⟨h.b, h.c⟩

theorem apart_ok {k j : Key} (h : apart k j = true) : k ≠ j := by
  rintro rfl
  simp [apart] at h
theorem apartL_ok {k : Key} : ∀ {ks : List Key}, apartL k ks = true → ∀ j ∈ ks, k ≠ j
  | x :: l, h, j, hj => by
    simp only [apartL, Bool.and_eq_true] at h
    rcases List.mem_cons.1 hj with rfl | hj
    · exact apart_ok h.1
    · exact apartL_ok h.2 j hj
theorem notIn_ok {k : Key} : ∀ {ks : List Key}, notIn k ks → ∀ j ∈ ks, k ≠ j
  | x :: l, h, j, hj => by
    rcases List.mem_cons.1 hj with rfl | hj
    · exact h.1
    · exact notIn_ok h.2 j hj
theorem keepB_ok : ∀ {ms : List Keep} {bs r : List (Key × Blk)} {ks : List Key} {ps : List Prop}, keepB ms bs ks = some (r, ps) → AllP ps → ∀ e ∈ r, e ∈ bs ∧ ∀ j ∈ ks, e.1 ≠ j
  | ms, [], r, ks, ps, h, ho, e, he => by
    have : r = [] := by
      cases ms with
      | nil => simp [keepB] at h; exact h.1
      | cons m ms => cases m <;> (simp [keepB] at h; exact h.1)
    subst this; cases he
  | .drop :: ms, x :: l, r, ks, ps, h, ho, e, he => by
    simp only [keepB] at h
    obtain ⟨h1, h2⟩ := keepB_ok h ho e he
    exact ⟨List.mem_cons_of_mem _ h1, h2⟩
  | .apart :: ms, x :: l, r, ks, ps, h, ho, e, he => by
    simp only [keepB] at h
    split at h
    rotate_left
    · cases h
    rename_i q h1 h2
    simp only [Option.some.injEq, Prod.mk.injEq] at h
    obtain ⟨rfl, rfl⟩ := h
    rcases List.mem_cons.1 he with rfl | he
    · exact ⟨List.mem_cons_self .., apartL_ok h1⟩
    · obtain ⟨g1, g2⟩ := keepB_ok (r := q.1) (ps := q.2) h2 ho e he
      exact ⟨List.mem_cons_of_mem _ g1, g2⟩
  | .told :: ms, x :: l, r, ks, ps, h, ho, e, he => by
    simp only [keepB] at h
    split at h
    rotate_left
    · cases h
    rename_i q h2
    simp only [Option.some.injEq, Prod.mk.injEq] at h
    obtain ⟨rfl, rfl⟩ := h
    rcases List.mem_cons.1 he with rfl | he
    · exact ⟨List.mem_cons_self .., notIn_ok ho.1⟩
    · obtain ⟨g1, g2⟩ := keepB_ok (r := q.1) (ps := q.2) h2 ho.2 e he
      exact ⟨List.mem_cons_of_mem _ g1, g2⟩
  | [], x :: l, r, ks, ps, h, ho, e, he => by simp [keepB] at h
theorem setB_ok : ∀ {n : Nat} {ms : List Keep} {bs r : List (Key × Blk)} {k : Key} {b : Blk} {ps : List Prop}, setB n ms bs k b = some (r, ps) → AllP ps → ∀ e ∈ r, e = (k, b) ∨ (e ∈ bs ∧ e.1 ≠ k)
  | 0, m :: ms, x :: l, r, k, b, ps, h, ho, e, he => by
    simp only [setB] at h
    split at h
    rotate_left
    · cases h
    rename_i q h2
    simp only [Option.some.injEq, Prod.mk.injEq] at h
    obtain ⟨rfl, rfl⟩ := h
    rcases List.mem_cons.1 he with rfl | he
    · exact .inl rfl
    · obtain ⟨g1, g2⟩ := keepB_ok (r := q.1) (ps := q.2) h2 ho e he
      exact .inr ⟨List.mem_cons_of_mem _ g1, g2 k (by simp)⟩
  | n + 1, .drop :: ms, x :: l, r, k, b, ps, h, ho, e, he => by
    simp only [setB] at h
    rcases setB_ok h ho e he with g | ⟨g1, g2⟩
    · exact .inl g
    · exact .inr ⟨List.mem_cons_of_mem _ g1, g2⟩
  | n + 1, .apart :: ms, x :: l, r, k, b, ps, h, ho, e, he => by
    simp only [setB] at h
    split at h
    rotate_left
    · cases h
    rename_i q h1 h2
    simp only [Option.some.injEq, Prod.mk.injEq] at h
    obtain ⟨rfl, rfl⟩ := h
    rcases List.mem_cons.1 he with rfl | he
    · exact .inr ⟨List.mem_cons_self .., apart_ok h1⟩
    · rcases setB_ok (r := q.1) (ps := q.2) h2 ho e he with g | ⟨g1, g2⟩
      · exact .inl g
      · exact .inr ⟨List.mem_cons_of_mem _ g1, g2⟩
  | n + 1, .told :: ms, x :: l, r, k, b, ps, h, ho, e, he => by
    simp only [setB] at h
    split at h
    rotate_left
    · cases h
    rename_i q h2
    simp only [Option.some.injEq, Prod.mk.injEq] at h
    obtain ⟨rfl, rfl⟩ := h
    rcases List.mem_cons.1 he with rfl | he
    · exact .inr ⟨List.mem_cons_self .., ho.1⟩
    · rcases setB_ok (r := q.1) (ps := q.2) h2 ho.2 e he with g | ⟨g1, g2⟩
      · exact .inl g
      · exact .inr ⟨List.mem_cons_of_mem _ g1, g2⟩
  | 0, [], bs, r, k, b, ps, h, ho, e, he => by simp [setB] at h
  | 0, m :: ms, [], r, k, b, ps, h, ho, e, he => by simp [setB] at h
  | n + 1, [], bs, r, k, b, ps, h, ho, e, he => by simp [setB] at h
  | n + 1, m :: ms, [], r, k, b, ps, h, ho, e, he => by cases m <;> simp [setB] at h
theorem outB_ok : ∀ {n : Nat} {ms : List Keep} {bs r : List (Key × Blk)} {ks : List Key} {ps : List Prop}, outB n ms bs ks = some (r, ps) → AllP ps → ∀ e ∈ r, e ∈ bs ∧ ∀ j ∈ ks, e.1 ≠ j
  | 0, m :: ms, x :: l, r, ks, ps, h, ho, e, he => by
    simp only [outB] at h
    obtain ⟨g1, g2⟩ := keepB_ok h ho e he
    exact ⟨List.mem_cons_of_mem _ g1, g2⟩
  | n + 1, .drop :: ms, x :: l, r, ks, ps, h, ho, e, he => by
    simp only [outB] at h
    obtain ⟨g1, g2⟩ := outB_ok h ho e he
    exact ⟨List.mem_cons_of_mem _ g1, g2⟩
  | n + 1, .apart :: ms, x :: l, r, ks, ps, h, ho, e, he => by
    simp only [outB] at h
    split at h
    rotate_left
    · cases h
    rename_i q h1 h2
    simp only [Option.some.injEq, Prod.mk.injEq] at h
    obtain ⟨rfl, rfl⟩ := h
    rcases List.mem_cons.1 he with rfl | he
    · exact ⟨List.mem_cons_self .., apartL_ok h1⟩
    · obtain ⟨g1, g2⟩ := outB_ok (r := q.1) (ps := q.2) h2 ho e he
      exact ⟨List.mem_cons_of_mem _ g1, g2⟩
  | n + 1, .told :: ms, x :: l, r, ks, ps, h, ho, e, he => by
    simp only [outB] at h
    split at h
    rotate_left
    · cases h
    rename_i q h2
    simp only [Option.some.injEq, Prod.mk.injEq] at h
    obtain ⟨rfl, rfl⟩ := h
    rcases List.mem_cons.1 he with rfl | he
    · exact ⟨List.mem_cons_self .., notIn_ok ho.1⟩
    · obtain ⟨g1, g2⟩ := outB_ok (r := q.1) (ps := q.2) h2 ho.2 e he
      exact ⟨List.mem_cons_of_mem _ g1, g2⟩
  | 0, [], bs, r, ks, ps, h, ho, e, he => by simp [outB] at h
  | 0, m :: ms, [], r, ks, ps, h, ho, e, he => by simp [outB] at h
  | n + 1, [], bs, r, ks, ps, h, ho, e, he => by simp [outB] at h
  | n + 1, m :: ms, [], r, ks, ps, h, ho, e, he => by cases m <;> simp [outB] at h
theorem eqNats_ok : ∀ {a b : List Nat}, eqNats a b = true → a = b
  | [], [], _ => rfl
  | x :: a, z :: b, h => by
    simp only [eqNats, Bool.and_eq_true] at h
    rw [Nat.eq_of_beq_eq_true h.1, eqNats_ok h.2]
theorem kEq_ok {k j : Key} (h : kEq k j = true) : k = j := by
  simp only [kEq, Bool.and_eq_true] at h
  obtain ⟨k1, k2, k3⟩ := k
  obtain ⟨j1, j2, j3⟩ := j
  have h1 := eqNats_ok h.1
  have h2 := Nat.eq_of_beq_eq_true h.2.1
  have h3 := Nat.eq_of_beq_eq_true h.2.2
  simp only at h1 h2 h3
  rw [h1, h2, h3]
theorem keyOb_ok {cmp : Bool} {k j : Key} {q : List Prop} (h : keyOb cmp k j = some q) (ho : AllP q) : k = j := by
  unfold keyOb at h
  split at h
  · split at h
    · rename_i e; exact kEq_ok e
    · cases h
  · simp only [Option.some.injEq] at h
    subst h
    exact ho.1
theorem mem_of_get {α : Type} {l : List α} {n : Nat} {x : α} (h : l[n]? = some x) : x ∈ l := List.mem_of_getElem? h

/-! ### reading deep -/
/-- What is read indeed. -/
def KeysOf (us : List Use) (ks : List Key) : Prop := ∀ k, k ∈ ks ↔ ∃ u ∈ us, u.key = k ∧ u.cond = true
theorem keysOf_nil : KeysOf [] [] := fun k => by simp
theorem keysOf_append {us vs : List Use} {ks js : List Key} (h : KeysOf us ks) (g : KeysOf vs js) : KeysOf (us ++ vs) (ks ++ js) := fun k => by
  rw [List.mem_append, h k, g k]
  constructor
  · rintro (⟨u, hu, e⟩ | ⟨u, hu, e⟩)
    · exact ⟨u, List.mem_append_left _ hu, e⟩
    · exact ⟨u, List.mem_append_right _ hu, e⟩
  · rintro ⟨u, hu, e⟩
    rcases List.mem_append.1 hu with hu | hu
    · exact .inl ⟨u, hu, e⟩
    · exact .inr ⟨u, hu, e⟩
theorem keysOf_cons {n : Nat} {k : Key} {us : List Use} {ks : List Key} (h : KeysOf us ks) : KeysOf (⟨n, k, true⟩ :: us) (k :: ks) := fun j => by
  rw [List.mem_cons, h j]
  constructor
  · rintro (rfl | ⟨u, hu, e⟩)
    · exact ⟨_, List.mem_cons_self .., rfl, rfl⟩
    · exact ⟨u, List.mem_cons_of_mem _ hu, e⟩
  · rintro ⟨u, hu, e1, e2⟩
    rcases List.mem_cons.1 hu with rfl | hu
    · exact .inl e1.symm
    · exact .inr ⟨u, hu, e1, e2⟩
/-- Every block that is used is known at its place. -/
def UsesIn (bs : List (Key × Blk)) (us : List Use) : Prop := ∀ u ∈ us, ∃ b, bs[u.n]? = some (u.key, b)

theorem usesIn_one {i : Nat} {k : Key} {b : Blk} {cd : Bool} (h : bs[i]? = some (k, b)) : UsesIn bs [⟨i, k, cd⟩] := fun u hu => by
  obtain rfl := List.mem_singleton.1 hu
  exact ⟨b, h⟩
theorem row_ok {k : Key} {z off len : Nat} {els part xs : List PV} {fz : Bool} {n : Nat} (hb : H.blk k = some (.row z els fz)) (hcut : cut els off len = some part) {ks : List Key} (hd : drL H n part = some (xs, ks)) (hz : allSz z xs = true) :
    dr H (n + 1) (.ms k z off len) = some (if len = 0 then (.sl false [], []) else (.sl false xs, k :: ks)) := by
  unfold dr
  rw [if_neg (by simp [PV.pers])]
  by_cases h0 : len = 0
  · simp [h0]
  · simp only [if_neg h0, hb, if_true, hcut, hd, hz]
theorem cut_nil {els part : List PV} {off : Nat} (h : cut els off 0 = some part) : part = [] := by
  unfold cut at h
  split at h
  · simp at h; exact h
  · cases h
theorem cut_whole (els : List PV) : cut els 0 els.length = some els := by
  unfold cut
  rw [if_pos (by omega)]; simp

mutual
theorem rdV_ok (hH : ∀ x ∈ bs, H.blk x.1 = some x.2) : ∀ (n : Nat) (r : Rd) (v x : PV) (us : List Use) (ps : List Prop), rdV bs n r v = some (x, us, ps) → AllP ps → UsesIn bs us ∧ ∃ ks, dr H n v = some (x, ks) ∧ (v.pers = true → x = v ∧ ks = []) ∧ KeysOf us ks
  | n, .p, v, x, us, ps, h, ho => by
    have h : some (v, ([] : List Use), [v.pers = true]) = some (x, us, ps) := by
      cases n <;> exact h
    simp only [Option.some.injEq, Prod.mk.injEq] at h
    obtain ⟨rfl, rfl, rfl⟩ := h
    exact ⟨fun u hu => (by cases hu), [], dr_self ho.1, fun _ => ⟨rfl, rfl⟩, keysOf_nil⟩
  | n + 1, .agg rs, v, x, us, ps, h, ho => by
    cases v <;> simp only [rdV] at h <;> try cases h
    rename_i l
    split at h
    rotate_left
    · cases h
    rename_i xs us1 ps1 h1
    simp only [Option.some.injEq, Prod.mk.injEq] at h
    obtain ⟨rfl, rfl, rfl⟩ := h
    obtain ⟨hu, ks, g1, g2, g3⟩ := rdL_ok hH n rs l xs us1 ps1 h1 ho
    refine ⟨hu, ks, ?_, fun e => ?_, g3⟩
    · unfold dr
      split
      · rename_i e
        obtain ⟨e1, e2⟩ := g2 e
        rw [e1, e2]
      · simp only [g1, Option.map_some]
    · obtain ⟨e1, e2⟩ := g2 e
      exact ⟨by rw [e1], e2⟩
  | n + 1, .tup rs, v, x, us, ps, h, ho => by
    cases v <;> simp only [rdV] at h <;> try cases h
    rename_i l
    split at h
    rotate_left
    · cases h
    rename_i xs us1 ps1 h1
    simp only [Option.some.injEq, Prod.mk.injEq] at h
    obtain ⟨rfl, rfl, rfl⟩ := h
    obtain ⟨hu, ks, g1, g2, g3⟩ := rdL_ok hH n rs l xs us1 ps1 h1 ho
    refine ⟨hu, ks, ?_, fun e => ?_, g3⟩
    · unfold dr
      split
      · rename_i e
        obtain ⟨e1, e2⟩ := g2 e
        rw [e1, e2]
      · simp only [g1, Option.map_some]
    · obtain ⟨e1, e2⟩ := g2 e
      exact ⟨by rw [e1], e2⟩
  | n + 1, .sl rs, v, x, us, ps, h, ho => by
    cases v <;> simp only [rdV] at h <;> try cases h
    rename_i f l
    split at h
    rotate_left
    · cases h
    rename_i xs us1 ps1 h1
    split at h
    rotate_left
    · cases h
    rename_i hz
    simp only [Option.some.injEq, Prod.mk.injEq] at h
    obtain ⟨rfl, rfl, rfl⟩ := h
    obtain ⟨hu, ks, g1, g2, g3⟩ := rdL_ok hH n rs l xs us1 ps1 h1 ho
    refine ⟨hu, ks, ?_, fun e => ?_, g3⟩
    · unfold dr
      split
      · rename_i e
        obtain ⟨e1, e2⟩ := g2 e
        rw [e1, e2]
      · simp only [g1, hz, if_true]
    · obtain ⟨e1, e2⟩ := g2 e
      exact ⟨by rw [e1], e2⟩
  | n + 1, .row i cmp, v, x, us, ps, h, ho => by
    cases v <;> simp only [rdV] at h <;> try cases h
    rename_i k sz off len
    split at h
    rotate_left
    · cases h
    rename_i k' z els fz hb
    split at h
    rotate_left
    · cases h
    rename_i q hz hq
    simp only [Option.some.injEq, Prod.mk.injEq] at h
    obtain ⟨rfl, rfl, rfl⟩ := h
    rw [allP_append] at ho
    obtain ⟨hoq, ho1, ho2, ho3, _⟩ := ho
    have hk := keyOb_ok hq hoq
    subst hk
    simp only [Bool.and_eq_true] at hz
    have hz0 := Nat.eq_of_beq_eq_true hz.1
    have hz := Nat.eq_of_beq_eq_true hz.2
    subst hz hz0
    have hbk := hH _ (mem_of_get hb)
    refine ⟨usesIn_one hb, if len = 0 then [] else [k], row_ok hbk (by rw [ho1]; exact cut_whole els) (drL_self ho2) ho3 |>.trans ?_, fun e => by simp [PV.pers] at e, ?_⟩
    · by_cases h0 : len = 0
      · subst h0
        have : els = [] := List.eq_nil_of_length_eq_zero ho1.symm
        simp [this]
      · simp [h0]
    · intro j
      by_cases h0 : len = 0
      · subst h0; simp
      · have : Nat.beq len 0 = false := by cases hh : Nat.beq len 0 with
          | false => rfl
          | true => exact absurd (Nat.eq_of_beq_eq_true hh) h0
        rw [if_neg h0, this]
        constructor
        · intro e; exact ⟨_, List.mem_singleton_self _, (List.mem_singleton.1 e).symm, rfl⟩
        · rintro ⟨u, hu, e1, _⟩
          obtain rfl := List.mem_singleton.1 hu
          exact List.mem_singleton.2 e1.symm
  | n + 1, .part i cmp, v, x, us, ps, h, ho => by
    cases v <;> simp only [rdV] at h <;> try cases h
    rename_i k sz off len
    split at h
    rotate_left
    · cases h
    rename_i k' z els fz hb
    split at h
    rotate_left
    · cases h
    rename_i q hz hq
    simp only [Option.some.injEq, Prod.mk.injEq] at h
    obtain ⟨rfl, rfl, rfl⟩ := h
    rw [allP_append] at ho
    obtain ⟨hoq, ho1, ho2, ho3, _⟩ := ho
    have hk := keyOb_ok hq hoq
    subst hk
    have hz := Nat.eq_of_beq_eq_true hz
    subst hz
    have hbk := hH _ (mem_of_get hb)
    refine ⟨usesIn_one hb, if len = 0 then [] else [k], row_ok hbk (show cut els off len = some ((els.drop off).take len) by unfold cut; rw [if_pos ho1]) (drL_self ho2) ho3 |>.trans ?_, fun e => by simp [PV.pers] at e, ?_⟩
    · by_cases h0 : len = 0
      · subst h0
        simp
      · simp [h0]
    · intro j
      by_cases h0 : len = 0
      · subst h0; simp
      · have : Nat.beq len 0 = false := by cases hh : Nat.beq len 0 with
          | false => rfl
          | true => exact absurd (Nat.eq_of_beq_eq_true hh) h0
        rw [if_neg h0, this]
        constructor
        · intro e; exact ⟨_, List.mem_singleton_self _, (List.mem_singleton.1 e).symm, rfl⟩
        · rintro ⟨u, hu, e1, _⟩
          obtain rfl := List.mem_singleton.1 hu
          exact List.mem_singleton.2 e1.symm
  | n + 1, .rows i cmp rs, v, x, us, ps, h, ho => by
    cases v <;> simp only [rdV] at h <;> try cases h
    rename_i k sz off len
    split at h
    rotate_left
    · cases h
    rename_i k' z els fz hb
    split at h
    rotate_left
    · cases h
    rename_i q part hz hq hcut
    split at h
    rotate_left
    · cases h
    rename_i xs us1 ps1 h1
    split at h
    rotate_left
    · cases h
    rename_i hsz hne
    simp only [Option.some.injEq, Prod.mk.injEq] at h
    obtain ⟨rfl, rfl, rfl⟩ := h
    rw [allP_append] at ho
    have hk := keyOb_ok hq ho.1
    subst hk
    have hz := Nat.eq_of_beq_eq_true hz
    subst hz
    have hbk := hH _ (mem_of_get hb)
    obtain ⟨hu, ks, g1, g2, g3⟩ := rdL_ok hH n rs part xs us1 ps1 h1 ho.2
    have h0 : len ≠ 0 := fun e => by subst e; simp at hne
    refine ⟨fun u hu' => ?_, k :: ks, (row_ok hbk hcut g1 hsz).trans (by rw [if_neg h0]), fun e => by simp [PV.pers] at e, keysOf_cons g3⟩
    rcases List.mem_cons.1 hu' with rfl | hu'
    · exact ⟨_, hb⟩
    · exact hu u hu'
  | n + 1, .ptr i cmp, v, x, us, ps, h, ho => by
    cases v <;> simp only [rdV] at h <;> try cases h
    rename_i k sz q j
    split at h
    rotate_left
    · cases h
    rename_i k' z els fz hb
    split at h
    rotate_left
    · cases h
    rename_i o e hz hq he
    simp only [Option.some.injEq, Prod.mk.injEq] at h
    obtain ⟨rfl, rfl, rfl⟩ := h
    rw [allP_append] at ho
    have hk := keyOb_ok hq ho.1
    subst hk
    have hz := Nat.eq_of_beq_eq_true hz
    subst hz
    have hbk := hH _ (mem_of_get hb)
    refine ⟨usesIn_one hb, [k], ?_, fun e => by simp [PV.pers] at e, keysOf_cons keysOf_nil⟩
    unfold dr
    rw [if_neg (by simp [PV.pers])]
    simp only [hbk, if_true, he, drL_self ho.2.1, Option.map_some]
  | n + 1, .ptrs i cmp rs, v, x, us, ps, h, ho => by
    cases v <;> simp only [rdV] at h <;> try cases h
    rename_i k sz q j
    split at h
    rotate_left
    · cases h
    rename_i k' z els fz hb
    split at h
    rotate_left
    · cases h
    rename_i o e hz hq he
    split at h
    rotate_left
    · cases h
    rename_i xs us1 ps1 h1
    simp only [Option.some.injEq, Prod.mk.injEq] at h
    obtain ⟨rfl, rfl, rfl⟩ := h
    rw [allP_append] at ho
    have hk := keyOb_ok hq ho.1
    subst hk
    have hz := Nat.eq_of_beq_eq_true hz
    subst hz
    have hbk := hH _ (mem_of_get hb)
    obtain ⟨hu, ks, g1, g2, g3⟩ := rdL_ok hH n rs e.cells xs us1 ps1 h1 ho.2
    refine ⟨fun u hu' => ?_, k :: ks, ?_, fun e => by simp [PV.pers] at e, keysOf_cons g3⟩
    · rcases List.mem_cons.1 hu' with rfl | hu'
      · exact ⟨_, hb⟩
      · exact hu u hu'
    · unfold dr
      rw [if_neg (by simp [PV.pers])]
      simp only [hbk, if_true, he, g1, Option.map_some]
  | n + 1, .fn ra rb, v, x, us, ps, h, ho => by
    cases v <;> simp only [rdV] at h <;> try cases h
    rename_i f a b
    split at h
    rotate_left
    · cases h
    rename_i xs us1 ps1 ys us2 ps2 h1 h2
    simp only [Option.some.injEq, Prod.mk.injEq] at h
    obtain ⟨rfl, rfl, rfl⟩ := h
    rw [allP_append] at ho
    obtain ⟨hu, ks, g1, g2, g3⟩ := rdL_ok hH n ra a xs us1 ps1 h1 ho.1
    obtain ⟨hv, js, f1, f2, f3⟩ := rdL_ok hH n rb b ys us2 ps2 h2 ho.2
    refine ⟨fun u hu' => ?_, ks ++ js, ?_, fun e => ?_, keysOf_append g3 f3⟩
    · rcases List.mem_append.1 hu' with hu' | hu'
      · exact hu u hu'
      · exact hv u hu'
    · unfold dr
      split
      · rename_i e
        simp only [PV.pers, Bool.and_eq_true] at e
        obtain ⟨e1, e2⟩ := g2 e.1
        obtain ⟨e3, e4⟩ := f2 e.2
        rw [e1, e2, e3, e4]; rfl
      · simp only [g1, f1]
    · simp only [PV.pers, Bool.and_eq_true] at e
      obtain ⟨e1, e2⟩ := g2 e.1
      obtain ⟨e3, e4⟩ := f2 e.2
      rw [e1, e2, e3, e4]; exact ⟨rfl, rfl⟩
  | 0, .agg _, v, x, us, ps, h, ho => by cases v <;> simp [rdV] at h
  | 0, .tup _, v, x, us, ps, h, ho => by cases v <;> simp [rdV] at h
  | 0, .sl _, v, x, us, ps, h, ho => by cases v <;> simp [rdV] at h
  | 0, .row _ _, v, x, us, ps, h, ho => by cases v <;> simp [rdV] at h
  | 0, .part _ _, v, x, us, ps, h, ho => by cases v <;> simp [rdV] at h
  | 0, .rows _ _ _, v, x, us, ps, h, ho => by cases v <;> simp [rdV] at h
  | 0, .ptr _ _, v, x, us, ps, h, ho => by cases v <;> simp [rdV] at h
  | 0, .ptrs _ _ _, v, x, us, ps, h, ho => by cases v <;> simp [rdV] at h
  | 0, .fn _ _, v, x, us, ps, h, ho => by cases v <;> simp [rdV] at h
theorem rdL_ok (hH : ∀ x ∈ bs, H.blk x.1 = some x.2) : ∀ (n : Nat) (rs : List Rd) (l xs : List PV) (us : List Use) (ps : List Prop), rdL bs n rs l = some (xs, us, ps) → AllP ps → UsesIn bs us ∧ ∃ ks, drL H n l = some (xs, ks) ∧ (PV.persL l = true → xs = l ∧ ks = []) ∧ KeysOf us ks
  | n, [], l, xs, us, ps, h, ho => by
    cases l with
    | cons v l => cases n <;> simp [rdL] at h
    | nil =>
      have h : some (([] : List PV), ([] : List Use), ([] : List Prop)) = some (xs, us, ps) := by cases n <;> (simp only [rdL] at h; exact h)
      simp only [Option.some.injEq, Prod.mk.injEq] at h
      obtain ⟨rfl, rfl, rfl⟩ := h
      exact ⟨fun u hu => (by cases hu), [], drL_self rfl, fun _ => ⟨rfl, rfl⟩, keysOf_nil⟩
  | 0, r :: rs, l, xs, us, ps, h, ho => by cases l <;> simp [rdL] at h
  | n + 1, r :: rs, [], xs, us, ps, h, ho => by simp [rdL] at h
  | n + 1, r :: rs, v :: l, xs, us, ps, h, ho => by
    simp only [rdL] at h
    split at h
    rotate_left
    · cases h
    rename_i x us1 ps1 xs1 us2 ps2 h1 h2
    simp only [Option.some.injEq, Prod.mk.injEq] at h
    obtain ⟨rfl, rfl, rfl⟩ := h
    rw [allP_append] at ho
    obtain ⟨hu, ks, g1, g2, g3⟩ := rdV_ok hH n r v x us1 ps1 h1 ho.1
    obtain ⟨hv, js, f1, f2, f3⟩ := rdL_ok hH n rs l xs1 us2 ps2 h2 ho.2
    have hp : PV.persL (v :: l) = true → x :: xs1 = v :: l ∧ ks ++ js = [] := fun e => by
      simp only [PV.persL, Bool.and_eq_true] at e
      obtain ⟨e1, e2⟩ := g2 e.1
      obtain ⟨e3, e4⟩ := f2 e.2
      rw [e1, e2, e3, e4]; exact ⟨rfl, rfl⟩
    refine ⟨fun u hu' => ?_, ks ++ js, ?_, hp, keysOf_append g3 f3⟩
    · rcases List.mem_append.1 hu' with hu' | hu'
      · exact hu u hu'
      · exact hv u hu'
    · unfold drL
      split
      · rename_i e
        obtain ⟨e1, e2⟩ := hp e
        rw [e1, e2]
      · simp only [g1, f1]
end
end Go.Proofs.YtigfgicjjhepoaaGreatDoor.VA
set_option linter.unusedVariables false
set_option linter.unusedSimpArgs false
namespace Go.Proofs.YtigfgicjjhepoaaGreatDoor.VA
open Go
variable {c : Ctx} {O : Orc} {R : Nat → PV} {y y' : YS} {st : St} {p : List Nat} {bs : List (Key × Blk)} {H : Heap} {o : Oper} {draw : Bool} {v : PV}

/-! ### values: what is had on the empty heap is had -/
mutual
theorem dr_emp : ∀ (n : Nat) (v : PV) (r : PV × List Key), dr Heap.empty n v = some r → dr H n v = some r
  | 0, v, r, h => by
    unfold dr at h ⊢
    exact h
  | n + 1, v, r, h => by
    unfold dr at h ⊢
    split at h
    · rename_i e; rw [if_pos e]; exact h
    · rename_i e
      rw [if_neg e]
      cases v with
      | agg l =>
        simp only [Option.map_eq_some_iff] at h ⊢
        obtain ⟨x, hx, e⟩ := h
        exact ⟨x, drL_emp n l x hx, e⟩
      | tup l =>
        simp only [Option.map_eq_some_iff] at h ⊢
        obtain ⟨x, hx, e⟩ := h
        exact ⟨x, drL_emp n l x hx, e⟩
      | sl f l =>
        simp only at h ⊢
        split at h
        · rename_i x hx
          rw [drL_emp n l x hx]; exact h
        · cases h
      | pp l o =>
        simp only [Option.map_eq_some_iff] at h ⊢
        obtain ⟨x, hx, e⟩ := h
        exact ⟨x, drL_emp n l x hx, e⟩
      | fn f a b =>
        simp only at h ⊢
        split at h
        · rename_i x z hx hz
          rw [drL_emp n a x hx, drL_emp n b z hz]; exact h
        · cases h
      | ms k z off len =>
        simp only at h ⊢
        split at h
        · rename_i e; rw [if_pos e]; exact h
        · simp [Heap.empty] at h
      | ptr k z i j => simp [Heap.empty] at h
      | _ => exact h
theorem drL_emp : ∀ (n : Nat) (l : List PV) (r : List PV × List Key), drL Heap.empty n l = some r → drL H n l = some r
  | 0, l, r, h => by
    unfold drL at h ⊢
    exact h
  | n + 1, l, r, h => by
    unfold drL at h ⊢
    split at h
    · rename_i e; rw [if_pos e]; exact h
    · rename_i e
      rw [if_neg e]
      cases l with
      | nil => exact h
      | cons v l =>
        simp only at h ⊢
        split at h
        · rename_i x z hx hz
          rw [dr_emp n v x hx, drL_emp n l z hz]; exact h
        · cases h
end
theorem loadV_emp {P : Program} {t : TypeId} {a v : PV} (h : loadV P Heap.empty t a = some v) : loadV P H t a = some v := by
  unfold loadV at h ⊢
  split at h
  · cases h
  · cases a with
    | ptr k sz i j => simp [Heap.empty] at h
    | pp cs off => exact h
    | _ => cases h
theorem stepV_emp {op : Op} {ρ : Operand → PV} (hp : isPR c.pol draw op = true) (h : stepV c op ρ Heap.empty = some v) : stepV c op ρ H = some v := by
  cases op with
  | load t a => exact loadV_emp h
  | lookup t x i ok =>
    simp only [stepV] at h
    split at h
    · simp [Heap.empty] at h
    · cases h
  | convert s d x =>
    simp only [stepV] at h ⊢
    split at h
    · exact h
    · exact h
    · exact h
    · rename_i h1 h2
      split at h
      · rename_i hu
        rw [if_pos hu]
        split at h
        · rename_i x1 l ks hd
          rw [dr_emp 2 _ _ hd]; exact h
        · cases h
      · cases h
    · cases h
  | makeFunc f a b => cases f <;> exact h
  | call k =>
    obtain ⟨cal, args, ats⟩ := k
    cases cal with
    | builtin b => cases b <;> exact h
    | invoke r n => simp [stepV] at h
    | value g => simp [stepV] at h
  | _ => exact h

/-- An operation that makes a value. -/
theorem pr_step (hp : isPR c.pol draw o.op = true) (h : stepV c o.op (opv c.pol.glob st.tm) st.hp = some v) : evOp c O draw o st = some ⟨(st.put o.dst v).tm, st.hp⟩ := by
  unfold isPR at hp
  unfold evOp
  split at hp
  · rename_i e
    simp only [e, evEff, h, Option.map_some, Eff.app]
  · rename_i e
    simp only [e, evEff, h, Option.map_some, Eff.app]
  · cases hp

/-- What is to be shown of an operation. -/
def OpOk (c : Ctx) (O : Orc) (draw : Bool) (o : Oper) (st : St) (v : PV) (bs : List (Key × Blk)) (cs : List (Nat × Nat)) : Prop :=
  ∃ H', evOp c O draw o st = some ⟨(st.put o.dst v).tm, H'⟩ ∧ HasH c.path bs cs H'

theorem getC_ok : ∀ {cs : List (Nat × Nat)} {d n : Nat}, getC cs d = some n → (d, n) ∈ cs
  | (a, b) :: l, d, n, h => by
    unfold getC at h
    split at h
    · rename_i e
      have e := Nat.eq_of_beq_eq_true e
      subst e
      cases h
      exact List.mem_cons_self ..
    · exact List.mem_cons_of_mem _ (getC_ok h)
theorem mem_dropT {α : Type} {d : Nat} : ∀ {l : List (Nat × α)} {x : Nat × α}, x ∈ dropT l d → x ∈ l ∧ x.1 ≠ d
  | (a, b) :: l, x, h => by
    unfold dropT at h
    split at h
    · obtain ⟨h1, h2⟩ := mem_dropT h
      exact ⟨List.mem_cons_of_mem _ h1, h2⟩
    · rename_i e
      rcases List.mem_cons.1 h with rfl | h
      · exact ⟨List.mem_cons_self .., fun q => by rw [← q] at e; simp at e⟩
      · obtain ⟨h1, h2⟩ := mem_dropT h
        exact ⟨List.mem_cons_of_mem _ h1, h2⟩
/-- A new block. -/
theorem hasH_new {p : List Nat} {cs : List (Nat × Nat)} {d n : Nat} {b : Blk} {ks : List Keep} {r : List (Key × Blk)} {ps : List Prop} (h : HasH p bs cs H) (hn : getC cs d = some n) (hk : keepB ks bs [(p, d, n)] = some (r, ps)) (ho : AllP ps) :
    H.next p d = (p, d, n) ∧ HasH p (((p, d, n), b) :: r) ((d, n + 1) :: dropT cs d) (H.alloc p d b) := by
  have hc := h.c _ (getC_ok hn)
  simp only at hc
  have hx : H.next p d = (p, d, n) := by unfold Heap.next; rw [hc]
  refine ⟨hx, ⟨fun x hx' => ?_, fun x hx' => ?_⟩⟩
  · unfold Heap.alloc
    rw [hx]
    rcases List.mem_cons.1 hx' with rfl | hx'
    · simp
    · obtain ⟨h1, h2⟩ := keepB_ok hk ho x hx'
      show (if x.1 = (p, d, n) then some b else H.blk x.1) = some x.2
      rw [if_neg (h2 _ (by simp))]
      exact h.b x h1
  · rcases List.mem_cons.1 hx' with rfl | hx'
    · show (if p = p ∧ d = d then H.cnt p d + 1 else H.cnt p d) = n + 1
      rw [if_pos ⟨rfl, rfl⟩, hc]
    · obtain ⟨h1, h2⟩ := mem_dropT hx'
      show (if p = p ∧ x.1 = d then H.cnt p x.1 + 1 else H.cnt p x.1) = x.2
      rw [if_neg (fun e => h2 e.2)]
      exact h.c x h1
theorem beq_eq {a b : Nat} (h : Nat.beq a b = true) : a = b := Nat.eq_of_beq_eq_true h

theorem frz_blk {ks : List Key} {k : Key} {b : Blk} (h : H.blk k = some b) : (H.freeze ks).blk k = some (b.frz (decide (k ∈ ks))) := by
  unfold Heap.freeze
  simp only [h]
  cases b <;> rfl
theorem Blk.frz_false (b : Blk) : b.frz false = b := by cases b <;> simp [Blk.frz]
theorem usedB_ok {i : Nat} {k : Key} : ∀ {us : List Use}, (∀ u ∈ us, u.n = i → u.key = k) → (∀ u ∈ us, u.n ≠ i → k ≠ u.key) → (usedB i us = true ↔ ∃ u ∈ us, u.key = k ∧ u.cond = true)
  | [], _, _ => by simp [usedB]
  | u :: us, h1, h2 => by
    have ih := usedB_ok (us := us) (i := i) (k := k) (fun u hu => h1 u (by simp [hu])) (fun u hu => h2 u (by simp [hu]))
    unfold usedB
    split
    · rename_i e
      have e := beq_eq e
      have hk := h1 u (by simp) e
      rw [Bool.or_eq_true, ih]
      constructor
      · rintro (q | ⟨x, hx, q⟩)
        · exact ⟨u, by simp, hk, q⟩
        · exact ⟨x, by simp [hx], q⟩
      · rintro ⟨x, hx, q1, q2⟩
        rcases List.mem_cons.1 hx with rfl | hx
        · exact .inl q2
        · exact .inr ⟨x, hx, q1, q2⟩
    · rename_i e
      have hne : u.n ≠ i := fun q => by rw [q] at e; simp at e
      have hk := h2 u (by simp) hne
      rw [ih]
      constructor
      · rintro ⟨x, hx, q⟩; exact ⟨x, by simp [hx], q⟩
      · rintro ⟨x, hx, q1, q2⟩
        rcases List.mem_cons.1 hx with rfl | hx
        · exact absurd q1.symm hk
        · exact ⟨x, hx, q1, q2⟩
theorem apartU_ok {i : Nat} {k : Key} : ∀ {us : List Use}, apartU i k us = true → ∀ u ∈ us, u.n ≠ i → k ≠ u.key
  | u :: us, h, x, hx, hne => by
    simp only [apartU, Bool.and_eq_true, Bool.or_eq_true] at h
    rcases List.mem_cons.1 hx with rfl | hx
    · rcases h.1 with q | q
      · exact absurd (beq_eq q) hne
      · exact apart_ok q
    · exact apartU_ok h.2 x hx hne
theorem toldU_ok {i : Nat} {k : Key} : ∀ {us : List Use}, toldU i k us → ∀ u ∈ us, u.n ≠ i → k ≠ u.key
  | u :: us, h, x, hx, hne => by
    unfold toldU at h
    rcases List.mem_cons.1 hx with rfl | hx
    · split at h
      · rename_i q; exact absurd (beq_eq q) hne
      · exact h.1
    · split at h
      · exact toldU_ok h x hx hne
      · exact toldU_ok h.2 x hx hne
theorem frzB_ok {nfl : Bool} {us : List Use} {ks : List Key} (hu : UsesIn bs us) (hk : KeysOf us ks) (hH : ∀ x ∈ bs, H.blk x.1 = some x.2) : ∀ {i : Nat} {ms : List Keep} {l r : List (Key × Blk)} {ps : List Prop}, frzB nfl us i ms l = some (r, ps) → AllP ps → (∀ j e, l[j]? = some e → bs[i + j]? = some e) → ∀ e ∈ r, (H.freeze (if nfl = true then ks else [])).blk e.1 = some e.2
  | i, ms, [], r, ps, h, ho, hl, e, he => by
    have : r = [] := by
      cases ms with
      | nil => simp [frzB] at h; exact h.1
      | cons m ms => cases m <;> (simp [frzB] at h; exact h.1)
    subst this; cases he
  | i, .drop :: ms, x :: l, r, ps, h, ho, hl, e, he => by
    simp only [frzB] at h
    exact frzB_ok hu hk hH h ho (fun j e hj => by have := hl (j + 1) e (by simpa using hj); rwa [show i + (j + 1) = i + 1 + j by omega] at this) e he
  | i, .apart :: ms, x :: l, r, ps, h, ho, hl, e, he => by
    simp only [frzB] at h
    split at h
    rotate_left
    · cases h
    rename_i q h1 h2
    simp only [Option.some.injEq, Prod.mk.injEq] at h
    obtain ⟨rfl, rfl⟩ := h
    rcases List.mem_cons.1 he with rfl | he
    · exact one hl (apartU_ok h1)
    · exact frzB_ok hu hk hH (r := q.1) (ps := q.2) h2 ho (fun j e hj => by have := hl (j + 1) e (by simpa using hj); rwa [show i + (j + 1) = i + 1 + j by omega] at this) e he
  | i, .told :: ms, x :: l, r, ps, h, ho, hl, e, he => by
    simp only [frzB] at h
    split at h
    rotate_left
    · cases h
    rename_i q h2
    simp only [Option.some.injEq, Prod.mk.injEq] at h
    obtain ⟨rfl, rfl⟩ := h
    rcases List.mem_cons.1 he with rfl | he
    · exact one hl (toldU_ok ho.1)
    · exact frzB_ok hu hk hH (r := q.1) (ps := q.2) h2 ho.2 (fun j e hj => by have := hl (j + 1) e (by simpa using hj); rwa [show i + (j + 1) = i + 1 + j by omega] at this) e he
  | i, [], x :: l, r, ps, h, ho, hl, e, he => by simp [frzB] at h
where
  one {i : Nat} {x : Key × Blk} {l : List (Key × Blk)} (hl : ∀ j e, (x :: l)[j]? = some e → bs[i + j]? = some e) (hd : ∀ u ∈ us, u.n ≠ i → x.1 ≠ u.key) : (H.freeze (if nfl = true then ks else [])).blk x.1 = some (x.2.frz (usedB i us && nfl)) := by
    have hx : bs[i]? = some x := hl 0 x rfl
    have hb := hH x (mem_of_get hx)
    have hsame : ∀ u ∈ us, u.n = i → u.key = x.1 := fun u hu' e => by
      obtain ⟨b, hb'⟩ := hu u hu'
      rw [e, hx] at hb'
      cases hb'; rfl
    have hus := usedB_ok hsame hd
    rw [frz_blk hb]
    congr 1
    cases nfl with
    | false => simp
    | true =>
      simp only [if_true, Bool.and_true]
      congr 1
      rw [Bool.eq_iff_iff, decide_eq_true_eq, hk x.1, hus]

theorem callP_step {f : FuncId} {args xs : List PV} {ks : List Key} (hca : callee o.op (opv c.pol.glob st.tm) = some (f, args)) (hm : c.pol.mode f = .pure) (hd : drL st.hp 12 args = some (xs, ks)) (hO : O.pure f xs = some v) :
    evOp c O draw o st = some ⟨(st.put o.dst v).tm, st.hp.freeze (if v.flat then [] else ks)⟩ := by
  have hsc : stepC c O f args st.hp = some (v, if v.flat then [] else ks) := by
    unfold stepC
    simp only [hd, hm, hO, Option.map_some]
  have h : evStep c O draw #[{ o with guard := none }] 0 st = _ := call_step (v := v) (ks := ks) rfl rfl hca hm hsc
  have e : evStep c O draw #[{ o with guard := none }] 0 st = evOp c O draw { o with guard := none } st := rfl
  rw [e] at h
  have e2 : evOp c O draw { o with guard := none } st = evOp c O draw o st := rfl
  rw [e2] at h
  exact h
theorem freeze_none (H : Heap) (bs : List (Key × Blk)) (h : ∀ x ∈ bs, H.blk x.1 = some x.2) : ∀ x ∈ bs, (H.freeze []).blk x.1 = some x.2 := fun x hx => by
  rw [frz_blk (h x hx)]
  simp [Blk.frz_false]

theorem inl_step {f : FuncId} {args : List PV} {H' : Heap} (hca : callee o.op (opv c.pol.glob st.tm) = some (f, args)) (hm : c.pol.mode f = .inl) (hcl : clsOf c.pol draw o.op = .w) (hO : O.inl (c.path ++ [o.dst.getD 1000000]) f args st.hp = some (v, H')) :
    evOp c O draw o st = some ⟨(st.put o.dst v).tm, H'⟩ := by
  obtain ⟨dst, op, ty, pos, after, guard⟩ := o
  dsimp only at *
  unfold evOp
  simp only [hcl]
  cases op with
  | call k =>
    obtain ⟨cal, as', ats⟩ := k
    cases cal with
    | builtin b => simp [callee] at hca
    | invoke r n => simp [callee] at hca
    | value g =>
      simp only [callee] at hca
      split at hca
      rotate_left
      · cases hca
      rename_i f' first cap hg
      simp only [Option.some.injEq, Prod.mk.injEq] at hca
      obtain ⟨rfl, rfl⟩ := hca
      cases g with
      | func f0 =>
        simp only [opv, PV.fn.injEq] at hg
        obtain ⟨rfl, rfl, rfl⟩ := hg
        simp only [stepW]
        cases dst with
        | some d =>
          simp only [Option.getD_some, List.nil_append, List.append_nil] at hO
          simp only [hO, Option.map_some]
        | none =>
          simp only [Option.getD_none, List.nil_append, List.append_nil] at hO
          simp only [hO, Option.map_some]
      | _ => simp only [stepW, hg, hm, hO, Option.map_some]
  | _ => simp [callee] at hca
end Go.Proofs.YtigfgicjjhepoaaGreatDoor.VA
set_option linter.unusedVariables false
set_option linter.unusedSimpArgs false
namespace Go.Proofs.YtigfgicjjhepoaaGreatDoor.VA
open Go
variable {c : Ctx} {O : Orc} {R : Nat → PV} {y y' : YS} {st : St} {p : List Nat} {bs : List (Key × Blk)} {H : Heap} {o : Oper} {draw : Bool} {v : PV} {cs : List (Nat × Nat)} {ps : List Prop}

theorem sat_ρ (hs : SatY p R y st) : opv c.pol.glob st.tm = yρ c R y := by
  unfold yρ; rw [hs.t]
theorem fit_ok {op : Op} {ρ : Operand → PV} {P : Program} {k : IntKind} {n : Int} (hP : c.P = P) (h : fitV ρ P op = some (k, n)) (hw : k.wrap n = n) : isPR c.pol draw op = true ∧ stepV c op ρ H = some (.int k n) := by
  unfold fitV at h
  split at h
  · split at h
    · rename_i k1 a k2 b hx hy
      split at h
      · rename_i e
        simp only [Option.some.injEq, Prod.mk.injEq] at h
        obtain ⟨rfl, rfl⟩ := h
        refine ⟨rfl, ?_⟩
        simp only [stepV, hx, hy, binV, e, ne_eq, not_true_eq_false, if_false]
        rw [← e, hw]
      · cases h
    · cases h
  · split at h
    · rename_i k1 a k2 b hx hy
      split at h
      · rename_i e
        simp only [Option.some.injEq, Prod.mk.injEq] at h
        obtain ⟨rfl, rfl⟩ := h
        refine ⟨rfl, ?_⟩
        simp only [stepV, hx, hy, binV, e, ne_eq, not_true_eq_false, if_false]
        rw [← e, hw]
      · cases h
    · cases h
  · split at h
    · rename_i k1 a k2 b hx hy
      split at h
      · rename_i e
        simp only [Option.some.injEq, Prod.mk.injEq] at h
        obtain ⟨rfl, rfl⟩ := h
        refine ⟨rfl, ?_⟩
        simp only [stepV, hx, hy, binV, e, ne_eq, not_true_eq_false, if_false]
        rw [← e, hw]
      · cases h
    · cases h
  · split at h
    · rename_i k1 a hx
      simp only [Option.some.injEq, Prod.mk.injEq] at h
      obtain ⟨rfl, rfl⟩ := h
      refine ⟨rfl, ?_⟩
      simp only [stepV, hx, unV, hw]
    · cases h
  · split at h
    · rename_i h1 h2 hx
      simp only [Option.some.injEq, Prod.mk.injEq] at h
      obtain ⟨rfl, rfl⟩ := h
      refine ⟨rfl, ?_⟩
      rw [← hP] at h1 h2
      simp only [stepV, h1, h2, hx, hw]
    · cases h
  · cases h
theorem isRow_ok {P : Program} {t : TypeId} {e : TypeId} (h : isRow P t = some e) : P.underlying t = some (.slice e) := by
  unfold isRow at h
  split at h
  · rename_i h'; cases h; exact h'
  · cases h
theorem intP_ok {v : PV} {k : IntKind} {n : Int} (h : intP v = some (k, n)) : v = .int k n := by
  cases v <;> simp [intP] at h
  rw [h.1, h.2]

theorem srcY_ok {sz : Nat} {s : Src} {x : PV} {src : List PV} {q : List Prop} (hH : ∀ e ∈ y.bs, H.blk e.1 = some e.2) (h : srcY y sz s x = some (src, q)) (ho : AllP q) : srcV H sz x = some src := by
  unfold srcY at h
  split at h
  · simp only [Option.some.injEq, Prod.mk.injEq] at h
    obtain ⟨rfl, rfl⟩ := h
    simp only [srcV, ho.1, if_true]
  · split at h
    rotate_left
    · cases h
    rename_i k' w els fz hb
    split at h
    rotate_left
    · cases h
    rename_i q' hz hw hq
    simp only [Option.some.injEq, Prod.mk.injEq] at h
    obtain ⟨rfl, rfl⟩ := h
    rw [allP_append] at ho
    have hk := keyOb_ok hq ho.1
    subst hk
    simp only [Bool.and_eq_true] at hz
    obtain ⟨hz1, hz2⟩ := hz
    have h0 := beq_eq hz1
    have hz3 := beq_eq hz2
    have hw3 := beq_eq hw
    clear hz1 hz2 hw
    subst h0 hz3 hw3
    have hbk := hH _ (mem_of_get hb)
    simp only at hbk
    have hl : _ = els.length := ho.2.1
    simp only [srcV, hbk, and_self, if_true, hl, cut_whole]
  · cases h

theorem appY_ok {d : Nat} {t tx : TypeId} {s x : PV} {hx : Src} {hs : Onto} {ks : List Keep} (hS : HasH c.path y.bs y.cs H) (h : appY c y d t tx s x hx hs ks = some (v, bs, cs, ps)) (ho : AllP ps) :
    ∃ H', appendV c d t tx s x H = some (v, H') ∧ HasH c.path bs cs H' := by
  unfold appY at h
  split at h
  rotate_left
  · cases h
  rename_i sz by_ h1 h2 h3
  split at h
  · cases h
  rename_i src q hsrc
  unfold appendV
  simp only [h1, h2]
  rw [if_pos ⟨by omega, by omega, h3⟩]
  split at h
  · -- nil
    split at h
    rotate_left
    · cases h
    rename_i n hn
    split at h
    rotate_left
    · cases h
    rename_i r hk
    simp only [Option.some.injEq, Prod.mk.injEq] at h
    obtain ⟨rfl, rfl, rfl, rfl⟩ := h
    rw [allP_append] at ho
    obtain ⟨hoq, ho1, ho2, ho3⟩ := ho
    simp only [srcY_ok hS.b hsrc hoq, if_pos ho1]
    obtain ⟨hx, hh⟩ := hasH_new (r := r.1) (ps := r.2) (b := .row (sz + 1) src false) hS hn hk ho3
    rw [if_pos ho2, hx]
    exact ⟨_, rfl, hh⟩
  · -- own
    rename_i i0 cmp0 kx wx offx lenx
    split at h
    rotate_left
    · cases h
    rename_i k' z els n hb hn
    split at h
    rotate_left
    · cases h
    rename_i o r hw hz hq hk
    simp only [Option.some.injEq, Prod.mk.injEq] at h
    obtain ⟨rfl, rfl, rfl, rfl⟩ := h
    rw [allP_append, allP_append] at ho
    obtain ⟨⟨hoq, hoo⟩, ho1, ho2, ho3, ho4⟩ := ho
    have hkk := keyOb_ok hq hoo
    subst hkk
    simp only [Bool.and_eq_true] at hw
    obtain ⟨hw1, hw2⟩ := hw
    have h0 := beq_eq hw1
    have hw3 := beq_eq hw2
    have hz3 := beq_eq hz
    clear hw1 hw2 hz
    subst h0 hw3 hz3
    have hbk := hS.b _ (mem_of_get hb)
    simp only at hbk
    simp only [srcY_ok hS.b hsrc hoq, if_pos ho1, hbk]
    rw [if_pos (by simp only [true_and]; exact ⟨ho2, ho3⟩)]
    have hc := hS.c _ (getC_ok hn)
    simp only at hc
    have hx : H.next c.path d = (c.path, d, n) := by unfold Heap.next; rw [hc]
    have hx2 : (H.erase kx).next c.path d = (c.path, d, n) := by unfold Heap.next Heap.erase; simp only; rw [hc]
    rw [hx]
    refine ⟨_, rfl, ⟨fun e he => ?_, fun e he => ?_⟩⟩
    · unfold Heap.alloc
      rw [hx2]
      rcases List.mem_cons.1 he with rfl | he
      · simp
      · obtain ⟨g1, g2⟩ := outB_ok (r := r.1) (ps := r.2) hk ho4 e he
        show (if e.1 = (c.path, d, n) then _ else (if e.1 = kx then none else H.blk e.1)) = some e.2
        rw [if_neg (g2 _ (by simp)), if_neg (g2 _ (by simp))]
        exact hS.b e g1
    · rcases List.mem_cons.1 he with rfl | he
      · show (if c.path = c.path ∧ d = d then H.cnt c.path d + 1 else H.cnt c.path d) = n + 1
        rw [if_pos ⟨rfl, rfl⟩, hc]
      · obtain ⟨g1, g2⟩ := mem_dropT he
        show (if c.path = c.path ∧ e.1 = d then H.cnt c.path e.1 + 1 else H.cnt c.path e.1) = e.2
        rw [if_neg (fun q => g2 q.2)]
        exact hS.c e g1
  · -- persistent
    rename_i l
    simp only [Option.some.injEq, Prod.mk.injEq] at h
    obtain ⟨rfl, rfl, rfl, rfl⟩ := h
    rw [allP_append] at ho
    obtain ⟨hoq, ho1, ho2, ho3, ho4, ho5, _⟩ := ho
    simp only [srcY_ok hS.b hsrc hoq, if_pos ho1]
    cases l with
    | nil => exact absurd rfl ho2
    | cons a l => exact ⟨H, by simp only [if_pos (And.intro ho3 (And.intro ho4 ho5))], hS⟩
  · cases h

theorem addO_eq (off i : Nat) : addO off i = off + i := by
  unfold addO
  split
  · omega
  · rfl
theorem yOp_ok {h : Hint} (hs : SatY c.path R y st) (hy : yOp c O h draw o R y = some (v, bs, cs, ps)) (ho : AllP ps) (hon : onceT y.ts = true) : OpOk c O draw o st v bs cs := by
  have hρ := sat_ρ (c := c) hs
  have keep : HasH c.path y.bs y.cs st.hp := hs.heap
  cases h with
  | ev =>
    simp only [yOp] at hy
    split at hy
    rotate_left
    · cases hy
    rename_i v' h1 h2
    simp only [Option.some.injEq, Prod.mk.injEq] at hy
    obtain ⟨rfl, rfl, rfl, rfl⟩ := hy
    rw [← hρ] at h2
    exact ⟨_, pr_step h1 (stepV_emp h1 h2), keep⟩
  | bit b =>
    simp only [yOp] at hy
    split at hy
    rotate_left
    · cases hy
    rename_i x h1 h2
    simp only [Option.some.injEq, Prod.mk.injEq] at hy
    obtain ⟨rfl, rfl, rfl, rfl⟩ := hy
    rw [← hρ, ho.1] at h2
    exact ⟨_, pr_step h1 (stepV_emp h1 h2), keep⟩
  | val w =>
    simp only [yOp] at hy
    split at hy
    rotate_left
    · cases hy
    rename_i h1
    simp only [Option.some.injEq, Prod.mk.injEq] at hy
    obtain ⟨rfl, rfl, rfl, rfl⟩ := hy
    have h2 := ho.1
    rw [← hρ] at h2
    exact ⟨_, pr_step h1 (stepV_emp h1 h2), keep⟩
  | fit =>
    simp only [yOp] at hy
    split at hy
    rotate_left
    · cases hy
    rename_i k n h1
    simp only [Option.some.injEq, Prod.mk.injEq] at hy
    obtain ⟨rfl, rfl, rfl, rfl⟩ := hy
    rw [← hρ] at h1
    obtain ⟨g1, g2⟩ := fit_ok (draw := draw) (H := st.hp) rfl h1 ho.1
    exact ⟨_, pr_step g1 g2, keep⟩
  | elem e =>
    simp only [yOp] at hy
    split at hy
    rotate_left
    · cases hy
    rename_i t x j hop
    split at hy
    rotate_left
    · cases hy
    rename_i el f xs kk n hu hx hj
    split at hy
    rotate_left
    · cases hy
    rename_i m hm
    split at hy
    rotate_left
    · cases hy
    rename_i hc
    simp only [Option.some.injEq, Prod.mk.injEq] at hy
    obtain ⟨rfl, rfl, rfl, rfl⟩ := hy
    have hc := beq_eq hc
    refine ⟨_, pr_step (by rw [hop]; rfl) ?_, keep⟩
    rw [hop, hρ]
    simp only [stepV, isRow_ok hu, hx, hj, if_pos ho.1, ho.2.1, hm]
    rw [if_pos ⟨hc, by omega⟩]
  | idx =>
    simp only [yOp] at hy
    split at hy
    rotate_left
    · cases hy
    rename_i t x j hop
    split at hy
    rotate_left
    · cases hy
    rename_i el k sz off len kk n hu hx hj
    split at hy
    rotate_left
    · cases hy
    rename_i m hm
    split at hy
    rotate_left
    · cases hy
    rename_i hc
    simp only [Option.some.injEq, Prod.mk.injEq] at hy
    obtain ⟨rfl, rfl, rfl, rfl⟩ := hy
    have hc := beq_eq hc
    refine ⟨_, pr_step (by rw [hop]; rfl) ?_, keep⟩
    rw [hop, hρ]
    simp only [stepV, isRow_ok hu, hx, hj, hm]
    rw [if_pos ⟨hc, ho.1, ho.2.1, by omega⟩, addO_eq]
  | cut w =>
    simp only [yOp] at hy
    split at hy
    rotate_left
    · cases hy
    rename_i t x lo hi hop
    split at hy
    · rename_i e f xs hu hx
      split at hy
      rotate_left
      · cases hy
      rename_i m ka a kb b hn ha hb
      simp only [Option.some.injEq, Prod.mk.injEq] at hy
      obtain ⟨rfl, rfl, rfl, rfl⟩ := hy
      obtain ⟨o1, o2, o3, o4, o5, _⟩ := ho
      have ha := intP_ok ha
      have hb := intP_ok hb
      refine ⟨_, pr_step (by rw [hop]; rfl) ?_, keep⟩
      rw [hop, hρ]
      have he : elemT c.P t = some e := by unfold elemT; simp only [isRow_ok hu]
      simp only [stepV, isRow_ok hu, sliceV, hx, he, Option.bind_some, hn, Option.map_none, ha, hb]
      rw [if_pos ⟨by omega, o1⟩, if_pos ⟨o2, o3, o4⟩, o5]
    · rename_i e k sz off len hu hx
      split at hy
      rotate_left
      · cases hy
      rename_i m ka a kb b hn ha hb
      split at hy
      rotate_left
      · cases hy
      rename_i hc
      simp only [Option.some.injEq, Prod.mk.injEq] at hy
      obtain ⟨rfl, rfl, rfl, rfl⟩ := hy
      obtain ⟨o2, o3, o4, o5, _⟩ := ho
      have ha := intP_ok ha
      have hb := intP_ok hb
      refine ⟨_, pr_step (by rw [hop]; rfl) ?_, keep⟩
      rw [hop, hρ]
      have he : elemT c.P t = some e := by unfold elemT; simp only [isRow_ok hu]
      simp only [stepV, isRow_ok hu, sliceV, hx, he, Option.bind_some, hn, Option.map_none, ha, hb]
      rw [if_pos ⟨beq_eq hc, o2, o3, o4⟩, o5]
    · cases hy
  | ld n cmp =>
    simp only [yOp] at hy
    split at hy
    rotate_left
    · cases hy
    rename_i t a hop
    split at hy
    rotate_left
    · cases hy
    rename_i k sz i j k' z els fz m ha hb hm
    split at hy
    rotate_left
    · cases hy
    rename_i q e hz hq he
    split at hy
    rotate_left
    · cases hy
    rename_i v' hv
    simp only [Option.some.injEq, Prod.mk.injEq] at hy
    obtain ⟨rfl, rfl, rfl, rfl⟩ := hy
    have hk := keyOb_ok hq ho
    subst hk
    have hz := beq_eq hz
    subst hz
    have hbk := hs.b _ (mem_of_get hb)
    simp only at hbk
    refine ⟨_, pr_step (by rw [hop]; rfl) ?_, keep⟩
    rw [hop, hρ]
    simp only [stepV, loadV, hm, ha, hbk, if_true, he, hv]
  | get n cmp e =>
    simp only [yOp] at hy
    split at hy
    rotate_left
    · cases hy
    rename_i t a hop
    split at hy
    rotate_left
    · cases hy
    rename_i k sz i j k' z els fz m ha hb hm
    split at hy
    rotate_left
    · cases hy
    rename_i q hz hq
    split at hy
    rotate_left
    · cases hy
    rename_i v' hv
    simp only [Option.some.injEq, Prod.mk.injEq] at hy
    obtain ⟨rfl, rfl, rfl, rfl⟩ := hy
    rw [allP_append] at ho
    have hk := keyOb_ok hq ho.1
    subst hk
    have hz := beq_eq hz
    subst hz
    have hbk := hs.b _ (mem_of_get hb)
    simp only at hbk
    refine ⟨_, pr_step (by rw [hop]; rfl) ?_, keep⟩
    rw [hop, hρ]
    simp only [stepV, loadV, hm, ha, hbk, if_true, ho.2.1, hv]
  | st n cmp ks =>
    simp only [yOp] at hy
    split at hy
    rotate_left
    · cases hy
    rename_i t a x hop
    split at hy
    rotate_left
    · cases hy
    rename_i k sz i j k' z els m ha hb hm
    split at hy
    rotate_left
    · cases hy
    rename_i q e hz hq he
    split at hy
    rotate_left
    · cases hy
    rename_i r hc hset
    simp only [Option.some.injEq, Prod.mk.injEq] at hy
    obtain ⟨rfl, rfl, rfl, rfl⟩ := hy
    rw [allP_append] at ho
    have hk := keyOb_ok hq ho.1
    subst hk
    have hz := beq_eq hz
    subst hz
    have hbk := hs.b _ (mem_of_get hb)
    simp only at hbk
    simp only [Bool.and_eq_true] at hc
    obtain ⟨⟨⟨c1, c2⟩, c3⟩, c4⟩ := hc
    have c1 := beq_eq c1
    have c3 := Nat.le_of_ble_eq_true c3
    have hcl : clsOf c.pol draw o.op = .w := by rw [hop]; rfl
    refine ⟨st.hp.set k (.row z (els.set i (elemOf (putCells e.cells j (yρ c R y x).cells))) false), ?_, ⟨fun e' he' => ?_, fun e' he' => ?_⟩⟩
    · unfold evOp
      simp only [hcl, hop, stepW, hρ, storeV, ha, hm, hbk]
      rw [if_pos ⟨trivial, c1, by omega, c2⟩]
      simp only [he]
      rw [if_pos ⟨c3, c4⟩]
      rfl
    · rcases setB_ok (r := r.1) (ps := r.2) hset ho.2 e' he' with rfl | ⟨g1, g2⟩
      · simp [Heap.set]
      · show (if e'.1 = k then _ else st.hp.blk e'.1) = some e'.2
        rw [if_neg g2]
        exact hs.b e' g1
    · exact hs.c e' he'
  | put n cmp ks e =>
    simp only [yOp] at hy
    split at hy
    rotate_left
    · cases hy
    rename_i t a x hop
    split at hy
    rotate_left
    · cases hy
    rename_i k sz i j k' z els m ha hb hm
    split at hy
    rotate_left
    · cases hy
    rename_i q hz hq
    split at hy
    rotate_left
    · cases hy
    rename_i r hc hset
    simp only [Option.some.injEq, Prod.mk.injEq] at hy
    obtain ⟨rfl, rfl, rfl, rfl⟩ := hy
    rw [allP_append] at ho
    have hk := keyOb_ok hq ho.1
    subst hk
    have hz := beq_eq hz
    subst hz
    have hbk := hs.b _ (mem_of_get hb)
    simp only at hbk
    simp only [Bool.and_eq_true] at hc
    obtain ⟨⟨⟨c1, c2⟩, c3⟩, c4⟩ := hc
    have c1 := beq_eq c1
    have c3 := Nat.le_of_ble_eq_true c3
    have hcl : clsOf c.pol draw o.op = .w := by rw [hop]; rfl
    refine ⟨st.hp.set k (.row z (els.set i (elemOf (putCells e.cells j (yρ c R y x).cells))) false), ?_, ⟨fun e' he' => ?_, fun e' he' => ?_⟩⟩
    · unfold evOp
      simp only [hcl, hop, stepW, hρ, storeV, ha, hm, hbk]
      rw [if_pos ⟨trivial, c1, by omega, c2⟩]
      simp only [ho.2.1]
      rw [if_pos ⟨c3, c4⟩]
      rfl
    · rcases setB_ok (r := r.1) (ps := r.2) hset ho.2.2 e' he' with rfl | ⟨g1, g2⟩
      · simp [Heap.set]
      · show (if e'.1 = k then _ else st.hp.blk e'.1) = some e'.2
        rw [if_neg g2]
        exact hs.b e' g1
    · exact hs.c e' he'
  | new ks =>
    simp only [yOp] at hy
    split at hy
    rotate_left
    · cases hy
    rename_i d b f hcl hd hst
    split at hy
    rotate_left
    · cases hy
    rename_i n hn
    split at hy
    rotate_left
    · cases hy
    rename_i r hk
    simp only [Option.some.injEq, Prod.mk.injEq] at hy
    obtain ⟨rfl, rfl, rfl, rfl⟩ := hy
    obtain ⟨hx, hh⟩ := hasH_new (r := r.1) (ps := r.2) (b := b) keep hn hk ho
    refine ⟨st.hp.alloc c.path d b, ?_, hh⟩
    unfold evOp
    simp only [hcl, evEff, hd, hρ, hst, Option.map_some, hx]
    rfl
  | mk ks =>
    simp only [yOp] at hy
    split at hy
    rotate_left
    · cases hy
    rename_i t x z d hop hd
    split at hy
    rotate_left
    · cases hy
    rename_i e he
    split at hy
    rotate_left
    · cases hy
    rename_i m by_ w a b hm hby hw ha hb
    split at hy
    rotate_left
    · cases hy
    rename_i n hc hn
    split at hy
    rotate_left
    · cases hy
    rename_i r hk
    simp only [Option.some.injEq, Prod.mk.injEq] at hy
    obtain ⟨rfl, rfl, rfl, rfl⟩ := hy
    obtain ⟨o1, o2, o3, o4, o5⟩ := ho
    simp only [Bool.and_eq_true] at hc
    obtain ⟨hx, hh⟩ := hasH_new (r := r.1) (ps := r.2) (b := .row m (List.replicate a.toNat (elemOf w)) false) keep hn hk o5
    have hcl : clsOf c.pol draw o.op = .n := by rw [hop]; rfl
    refine ⟨st.hp.alloc c.path d _, ?_, hh⟩
    unfold evOp
    simp only [hcl, evEff, hd, hop, hρ, stepN, he, hm, hby, hw, ha, hb]
    rw [if_pos ⟨o1, o2, o3, o4, hc.1, beq_eq hc.2⟩]
    simp only [Option.map_some, hx]
    rfl
  | flat rs w =>
    simp only [yOp] at hy
    split at hy
    rotate_left
    · cases hy
    rename_i f args hca
    split at hy
    rotate_left
    · cases hy
    rename_i xs us qs hm hr hfl
    simp only [Option.some.injEq, Prod.mk.injEq] at hy
    obtain ⟨rfl, rfl, rfl, rfl⟩ := hy
    rw [allP_append] at ho
    obtain ⟨_, ks, g1, _, _⟩ := rdL_ok hs.b 12 rs args xs us qs hr ho.1
    rw [← hρ] at hca
    refine ⟨_, callP_step hca hm g1 ho.2.1, ⟨?_, hs.c⟩⟩
    rw [hfl, if_pos rfl]
    exact freeze_none _ _ hs.b
  | call rs ks w =>
    simp only [yOp] at hy
    split at hy
    rotate_left
    · cases hy
    rename_i f args hca
    split at hy
    rotate_left
    · cases hy
    rename_i xs us qs hm hr
    split at hy
    rotate_left
    · cases hy
    rename_i r hf
    simp only [Option.some.injEq, Prod.mk.injEq] at hy
    obtain ⟨rfl, rfl, rfl, rfl⟩ := hy
    rw [allP_append] at ho
    obtain ⟨hu, js, g1, _, g3⟩ := rdL_ok hs.b 12 rs args xs us qs hr ho.1
    rw [← hρ] at hca
    refine ⟨_, callP_step hca hm g1 ho.2.1, ⟨?_, hs.c⟩⟩
    have := frzB_ok (ks := js) hu g3 hs.b (i := 0) (r := r.1) (ps := r.2) hf ho.2.2 (fun j e hj => by rwa [Nat.zero_add])
    cases hfl : w.flat with
    | true =>
      simp only [hfl, Bool.not_true, Bool.false_eq_true, if_false] at this
      rw [if_pos rfl]; exact this
    | false =>
      simp only [hfl, Bool.not_false, if_true] at this
      rw [if_neg (by simp)]; exact this
  | inl w bs' cs' =>
    simp only [yOp] at hy
    split at hy
    rotate_left
    · cases hy
    rename_i f args hca hcl
    split at hy
    rotate_left
    · cases hy
    rename_i hm
    simp only [Option.some.injEq, Prod.mk.injEq] at hy
    obtain ⟨rfl, rfl, rfl, rfl⟩ := hy
    rw [← hρ] at hca
    obtain ⟨H', h1, h2⟩ := ho.1 st.hp keep
    exact ⟨H', inl_step hca hm hcl h1, h2⟩
  | app hx hs' ks =>
    simp only [yOp] at hy
    split at hy
    rotate_left
    · cases hy
    rename_i args argTypes d hop hd
    split at hy
    rotate_left
    · cases hy
    rename_i s x t tx hargs htys
    obtain ⟨H', h1, h2⟩ := appY_ok keep hy ho
    refine ⟨H', ?_, h2⟩
    unfold evOp
    have hcl : clsOf c.pol draw (.call { callee := .builtin .append, args := args, argTypes := argTypes }) = .w := rfl
    simp only [hop, hcl, stepW, hargs, htys, hd, hρ, h1, Option.map_some]
  | any w bs' cs' =>
    simp only [yOp, Option.some.injEq, Prod.mk.injEq] at hy
    obtain ⟨rfl, rfl, rfl, rfl⟩ := hy
    obtain ⟨H', h1, h2⟩ := ho.1 st (hs.has hon)
    exact ⟨H', h1, h2⟩
  | scut =>
    simp only [yOp] at hy
    split at hy
    rotate_left
    · cases hy
    rename_i t x lo hi hop
    split at hy
    rotate_left
    · cases hy
    rename_i s ht hx
    split at hy
    rotate_left
    · cases hy
    rename_i ka a kb b ha hb
    simp only [Option.some.injEq, Prod.mk.injEq] at hy
    obtain ⟨rfl, rfl, rfl, rfl⟩ := hy
    obtain ⟨o1, o2, o3, _⟩ := ho
    have ha := intP_ok ha
    have hb := intP_ok hb
    refine ⟨_, pr_step (by rw [hop]; rfl) ?_, keep⟩
    rw [hop, hρ]
    have hu : c.P.underlying t = some .string := by
      unfold isStrT at ht
      split at ht
      · rename_i h; exact h
      · cases ht
    simp only [stepV, hu, sliceV, hx, ht, if_true, Option.map_none, ha, hb]
    rw [if_pos ⟨o1, o2, o3⟩]
  | byte b =>
    simp only [yOp] at hy
    split at hy
    rotate_left
    · cases hy
    rename_i t x i hop
    split at hy
    rotate_left
    · cases hy
    rename_i s k n ht hx hi
    simp only [Option.some.injEq, Prod.mk.injEq] at hy
    obtain ⟨rfl, rfl, rfl, rfl⟩ := hy
    obtain ⟨o1, o2, _⟩ := ho
    refine ⟨_, pr_step (by rw [hop]; rfl) ?_, keep⟩
    rw [hop, hρ]
    have hu : c.P.underlying t = some .string := by
      unfold isStrT at ht
      split at ht
      · rename_i h; exact h
      · cases ht
    obtain ⟨hlt, he⟩ := List.getElem?_eq_some_iff.1 o2
    have hlt' : n.toNat < s.size := by simpa using hlt
    simp only [stepV, hu, hx, hi]
    rw [dif_pos ⟨o1, hlt'⟩]
    have : s[n.toNat]'hlt' = b := by
      rw [← he]; rfl
    rw [this]
  | div =>
    simp only [yOp] at hy
    split at hy
    · rename_i t x z ty hop
      split at hy
      rotate_left
      · cases hy
      rename_i k a j b hx hz
      split at hy
      rotate_left
      · cases hy
      rename_i hkj
      have hkj := of_decide_eq_true hkj
      subst hkj
      simp only [Option.some.injEq, Prod.mk.injEq] at hy
      obtain ⟨rfl, rfl, rfl, rfl⟩ := hy
      refine ⟨_, pr_step (by rw [hop]; rfl) ?_, keep⟩
      rw [hop, hρ]
      have hb : ¬ b = 0 := ho.1
      simp only [stepV, hx, hz, binV, ne_eq, not_true_eq_false, if_false, if_neg hb]
    · rename_i t x z ty hop
      split at hy
      rotate_left
      · cases hy
      rename_i k a j b hx hz
      split at hy
      rotate_left
      · cases hy
      rename_i hkj
      have hkj := of_decide_eq_true hkj
      subst hkj
      simp only [Option.some.injEq, Prod.mk.injEq] at hy
      obtain ⟨rfl, rfl, rfl, rfl⟩ := hy
      refine ⟨_, pr_step (by rw [hop]; rfl) ?_, keep⟩
      rw [hop, hρ]
      have hb : ¬ b = 0 := ho.1
      simp only [stepV, hx, hz, binV, ne_eq, not_true_eq_false, if_false, if_neg hb]
    · cases hy
  | look n cmp r =>
    simp only [yOp] at hy
    split at hy
    rotate_left
    · cases hy
    rename_i t x i ok hop
    split at hy
    rotate_left
    · cases hy
    rename_i d e k k' d' es ht hx hb
    split at hy
    · rename_i q z hq hd hz hg
      simp only [Option.some.injEq, Prod.mk.injEq] at hy
      obtain ⟨rfl, rfl, rfl, rfl⟩ := hy
      rw [allP_append] at ho
      have hk := keyOb_ok hq ho.1
      subst hk
      simp only [Bool.and_eq_true, decide_eq_true_eq] at hd
      have hbk := hs.b _ (mem_of_get hb)
      simp only at hbk
      refine ⟨_, pr_step (by rw [hop]; rfl) ?_, keep⟩
      rw [hop, hρ]
      simp only [stepV, ht, hx, hbk, hz, hg]
      rw [if_pos hd, ho.2.1]
      cases ok <;> rfl
    · rename_i q z hq hd hz hg
      simp only [Option.some.injEq, Prod.mk.injEq] at hy
      obtain ⟨rfl, rfl, rfl, rfl⟩ := hy
      rw [allP_append] at ho
      have hk := keyOb_ok hq ho.1
      subst hk
      simp only [Bool.and_eq_true, decide_eq_true_eq] at hd
      have hbk := hs.b _ (mem_of_get hb)
      simp only at hbk
      refine ⟨_, pr_step (by rw [hop]; rfl) ?_, keep⟩
      rw [hop, hρ]
      simp only [stepV, ht, hx, hbk, hz, hg]
      rw [if_pos hd, ho.2.1]
      cases ok <;> rfl
    · cases hy
  | upd n cmp ks =>
    simp only [yOp] at hy
    split at hy
    rotate_left
    · cases hy
    rename_i t m i w hop
    split at hy
    rotate_left
    · cases hy
    rename_i d e k k' d' es ht hx hb
    split at hy
    rotate_left
    · cases hy
    rename_i q r hq hd hset
    simp only [Option.some.injEq, Prod.mk.injEq] at hy
    obtain ⟨rfl, rfl, rfl, rfl⟩ := hy
    rw [allP_append] at ho
    have hk := keyOb_ok hq ho.1
    subst hk
    simp only [Bool.and_eq_true, decide_eq_true_eq] at hd
    have hbk := hs.b _ (mem_of_get hb)
    simp only at hbk
    have hcl : clsOf c.pol draw o.op = .w := by rw [hop]; rfl
    refine ⟨st.hp.set k (.map d (updV es (yρ c R y i) (yρ c R y w))), ?_, ⟨fun e' he' => ?_, fun e' he' => ?_⟩⟩
    · unfold evOp
      simp only [hop] at hcl
      simp only [hop, hcl, stepW, hρ, ht, hx, hbk]
      rw [if_pos hd]
      rfl
    · rcases setB_ok (r := r.1) (ps := r.2) hset ho.2 e' he' with rfl | ⟨g1, g2⟩
      · simp [Heap.set]
      · show (if e'.1 = k then _ else st.hp.blk e'.1) = some e'.2
        rw [if_neg g2]
        exact hs.b e' g1
    · exact hs.c e' he'
  | nx n cmp ks b =>
    simp only [yOp] at hy
    split at hy
    rotate_left
    · cases hy
    rename_i it hop
    split at hy
    rotate_left
    · cases hy
    rename_i k k' s pos hk hb
    have hcl : clsOf c.pol draw o.op = .w := by rw [hop]; rfl
    simp only [hop] at hcl
    split at hy
    · rename_i q hq
      split at hy
      rotate_left
      · cases hy
      rename_i r hset
      simp only [Option.some.injEq, Prod.mk.injEq] at hy
      obtain ⟨rfl, rfl, rfl, rfl⟩ := hy
      rw [allP_append] at ho
      have hkk := keyOb_ok hq ho.1
      subst hkk
      have hbk := hs.b _ (mem_of_get hb)
      simp only at hbk
      refine ⟨st.hp.set k (.iter s (pos + (Utf8.decode s pos).2)), ?_, ⟨fun e' he' => ?_, fun e' he' => ?_⟩⟩
      · unfold evOp
        simp only [hop, hcl, stepW, hρ, hk, hbk]
        rw [if_pos ho.2.1]
        rfl
      · rcases setB_ok (r := r.1) (ps := r.2) hset ho.2.2 e' he' with rfl | ⟨g1, g2⟩
        · simp [Heap.set]
        · show (if e'.1 = k then _ else st.hp.blk e'.1) = some e'.2
          rw [if_neg g2]
          exact hs.b e' g1
      · exact hs.c e' he'
    · rename_i q hq
      simp only [Option.some.injEq, Prod.mk.injEq] at hy
      obtain ⟨rfl, rfl, rfl, rfl⟩ := hy
      rw [allP_append] at ho
      have hkk := keyOb_ok hq ho.1
      subst hkk
      have hbk := hs.b _ (mem_of_get hb)
      simp only at hbk
      refine ⟨st.hp, ?_, keep⟩
      unfold evOp
      simp only [hop, hcl, stepW, hρ, hk, hbk]
      rw [if_neg ho.2.1]
      rfl
    · cases hy
end Go.Proofs.YtigfgicjjhepoaaGreatDoor.VA
set_option linter.unusedVariables false
set_option linter.unusedSimpArgs false
namespace Go.Proofs.YtigfgicjjhepoaaGreatDoor.VA
open Go
variable {c : Ctx} {O : Orc} {R : Nat → PV} {y y' : YS} {st : St} {p : List Nat} {draw : Bool} {ps : List Prop} {ops : Array Oper} {P : Program} {pol : Pol}

theorem offT_drop {n d : Nat} : ∀ {l : List (Nat × PV)}, onceT.offT n l = true → onceT.offT n (dropT l d) = true
  | [], h => rfl
  | x :: l, h => by
    simp only [onceT.offT, Bool.and_eq_true] at h
    unfold dropT
    split
    · exact offT_drop h.2
    · simp only [onceT.offT, Bool.and_eq_true]
      exact ⟨h.1, offT_drop h.2⟩
theorem onceT_drop {d : Nat} : ∀ {l : List (Nat × PV)}, onceT l = true → onceT (dropT l d) = true
  | [], h => rfl
  | x :: l, h => by
    simp only [onceT, Bool.and_eq_true] at h
    unfold dropT
    split
    · exact onceT_drop h.2
    · simp only [onceT, Bool.and_eq_true]
      exact ⟨offT_drop h.1, onceT_drop h.2⟩
theorem offT_self {d : Nat} : ∀ {l : List (Nat × PV)}, onceT.offT d (dropT l d) = true
  | [] => rfl
  | x :: l => by
    unfold dropT
    split
    · exact offT_self
    · rename_i e
      simp only [onceT.offT, Bool.and_eq_true, Bool.not_eq_true']
      refine ⟨?_, offT_self⟩
      cases hb : Nat.beq d x.1 with
      | false => rfl
      | true => rw [beq_eq hb] at e; simp at e
theorem onceT_put {d : Option Nat} {v : PV} {ts : List (Nat × PV)} (h : onceT ts = true) : onceT (putT ts d v) = true := by
  cases d with
  | none => exact h
  | some d =>
    simp only [putT, onceT, Bool.and_eq_true]
    exact ⟨offT_self, onceT_drop h⟩

/-- The state and that every name stands once. -/
structure SatO (p : List Nat) (R : Nat → PV) (y : YS) (st : St) : Prop where
  s : SatY p R y st
  o : onceT y.ts = true

theorem yStep_ok {h : Hint} {i : Nat} (hs : SatO c.path R y st) (hy : yStep c O h draw ops i R y = some (y', ps)) (ho : AllP ps) : ∃ st', evStep c O draw ops i st = some st' ∧ SatO c.path R y' st' := by
  unfold yStep at hy
  unfold evStep
  split at hy
  · cases hy
  rename_i o hi
  have hw : wantedV ops o ⟨fun i => getT y.ts R i, Heap.empty⟩ = wantedV ops o st := by
    unfold wantedV
    simp only [hs.s.t]
  rw [hw] at hy
  try simp only
  split at hy
  · cases hy
  · rename_i hw1
    split at hy
    rotate_left
    · cases hy
    rename_i v bs cs qs h1
    simp only [Option.some.injEq, Prod.mk.injEq] at hy
    obtain ⟨rfl, rfl⟩ := hy
    obtain ⟨H', g1, g2⟩ := yOp_ok hs.s h1 ho hs.o
    refine ⟨⟨(st.put o.dst v).tm, H'⟩, by simp only [hi, hw1]; exact g1, ⟨⟨?_, g2.b, g2.c⟩, onceT_put hs.o⟩⟩
    show (st.put o.dst v).tm = fun i => getT (putT y.ts o.dst v) R i
    rw [getT_put o.dst v y.ts st.hp]
    have e : st = ⟨fun i => getT y.ts R i, st.hp⟩ := by
      have := hs.s.t
      obtain ⟨tm, hp⟩ := st
      simp only at this
      subst this
      rfl
    rw [← e]
  · rename_i hw1
    simp only [Option.some.injEq, Prod.mk.injEq] at hy
    obtain ⟨rfl, rfl⟩ := hy
    refine ⟨st.put o.dst (.tup []), by simp only [hi, hw1], ⟨⟨?_, ?_, ?_⟩, onceT_put hs.o⟩⟩
    · show (st.put o.dst (.tup [])).tm = fun i => getT (putT y.ts o.dst (.tup [])) R i
      rw [getT_put o.dst _ y.ts st.hp]
      have e : st = ⟨fun i => getT y.ts R i, st.hp⟩ := by
        have := hs.s.t
        obtain ⟨tm, hp⟩ := st
        simp only at this
        subst this
        rfl
      rw [← e]
    · intro x hx
      have := hs.s.b x hx
      cases o.dst <;> exact this
    · intro x hx
      have := hs.s.c x hx
      cases o.dst <;> exact this

theorem yList_ok {fl : Nat → Hint} : ∀ (l : List Nat) {y y' : YS} {st : St} {ps : List Prop}, SatO c.path R y st → yList c O fl draw ops R l y = some (y', ps) → AllP ps → ∃ st', evList c O draw ops l st = some st' ∧ SatO c.path R y' st'
  | [], y, y', st, ps, hs, hy, ho => by
    simp only [yList, Option.some.injEq, Prod.mk.injEq] at hy
    obtain ⟨rfl, rfl⟩ := hy
    exact ⟨st, rfl, hs⟩
  | i :: l, y, y', st, ps, hs, hy, ho => by
    simp only [yList] at hy
    split at hy
    · cases hy
    rename_i y1 p1 h1
    split at hy
    · cases hy
    rename_i y2 p2 h2
    simp only [Option.some.injEq, Prod.mk.injEq] at hy
    obtain ⟨rfl, rfl⟩ := hy
    rw [allP_append] at ho
    obtain ⟨s1, g1, g2⟩ := yStep_ok hs h1 ho.1
    obtain ⟨s2, g3, g4⟩ := yList_ok l g2 h2 ho.2
    exact ⟨s2, by simp only [evList, g1, Option.bind_some, g3], g4⟩
theorem touch_eq {i : Nat} (hs : SatO c.path R y st) : touch c ops i st = touchY c ops i R y := by
  unfold touch touchY
  simp only [sat_ρ hs.s]
  rfl
theorem yListT_ok {fl : Nat → Hint} : ∀ (l : List Nat) {y y' : YS} {st : St} {ps : List Prop} {ks : List Key}, SatO c.path R y st → yListT c O fl ops R l y = some (y', ps, ks) → AllP ps → ∃ st', evListT c O ops l st = some (st', ks) ∧ SatO c.path R y' st'
  | [], y, y', st, ps, ks, hs, hy, ho => by
    simp only [yListT, Option.some.injEq, Prod.mk.injEq] at hy
    obtain ⟨rfl, rfl, rfl⟩ := hy
    exact ⟨st, rfl, hs⟩
  | i :: l, y, y', st, ps, ks, hs, hy, ho => by
    simp only [yListT] at hy
    split at hy
    · cases hy
    rename_i y1 p1 h1
    split at hy
    · cases hy
    rename_i y2 p2 k2 h2
    simp only [Option.some.injEq, Prod.mk.injEq] at hy
    obtain ⟨rfl, rfl, rfl⟩ := hy
    rw [allP_append] at ho
    obtain ⟨s1, g1, g2⟩ := yStep_ok hs h1 ho.1
    obtain ⟨s2, g3, g4⟩ := yListT_ok l g2 h2 ho.2
    exact ⟨s2, by simp only [evListT, g1, g3, touch_eq hs], g4⟩

theorem findK_ok {k : Key} {b : Blk} : ∀ {bs : List (Key × Blk)}, findK k bs = some b → (k, b) ∈ bs
  | e :: l, h => by
    unfold findK at h
    split at h
    · rename_i hk
      cases h
      rw [kEq_ok hk]
      exact List.mem_cons_self ..
    · exact List.mem_cons_of_mem _ (findK_ok h)
theorem sameBs_ok {b0 b1 : List (Key × Blk)} {H0 H1 : Heap} (h0 : ∀ x ∈ b0, H0.blk x.1 = some x.2) (h1 : ∀ x ∈ b1, H1.blk x.1 = some x.2) : ∀ {ks : List Key} {ps : List Prop}, sameBs b0 b1 ks = some ps → AllP ps → ∀ k ∈ ks, Blk.beq (H0.blk k) (H1.blk k) = true
  | k :: l, ps, h, ho, j, hj => by
    simp only [sameBs] at h
    split at h
    rotate_left
    · cases h
    rename_i x z qs hx hz hl
    split at h
    rotate_left
    · cases h
    rename_i hr
    simp only [Option.some.injEq] at h
    subst h
    rcases List.mem_cons.1 hj with rfl | hj
    · have e0 := h0 _ (findK_ok hx)
      have e1 := h1 _ (findK_ok hz)
      simp only at e0 e1
      rw [e0, e1, ← ho.1]
      exact rowB_refl hr
    · exact sameBs_ok h0 h1 hl ho.2 j hj
theorem sameTs_ok {t0 t1 : List (Nat × PV)} : ∀ {ds : List (Option Nat)}, AllP (sameTs R t0 t1 ds) → (ds.filterMap id).all (fun d => PV.beq (getT t0 R d) (getT t1 R d)) = true
  | [], _ => rfl
  | none :: ds, h => by
    simp only [List.filterMap_cons, id_eq]
    exact sameTs_ok (ds := ds) h
  | some d :: ds, h => by
    simp only [List.filterMap_cons, id_eq, List.all_cons, Bool.and_eq_true]
    exact ⟨by rw [h.1]; exact PV.beq_refl _, sameTs_ok (ds := ds) h.2⟩
theorem yReps_ok {fl : Nat → Hint} {y0 : YS} {st0 : St} {ks : List Key} (hs : SatO c.path R y st) (h0 : SatO c.path R y0 st0) : ∀ {rs : List (List Nat)} {ps : List Prop}, yReps c O fl ops R y y0 ks rs = some ps → AllP ps → (rs.all fun l => match evListT c O ops l st with
        | some (st1, ks1) => sameB ops st0 st1 (ks ++ ks1)
        | none => false) = true
  | [], ps, h, ho => rfl
  | l :: rs, ps, h, ho => by
    simp only [yReps] at h
    split at h
    · cases h
    rename_i y1 p1 k1 h1
    split at h
    rotate_left
    · cases h
    rename_i qs os h2 h3
    simp only [Option.some.injEq] at h
    subst h
    rw [allP_append, allP_append, allP_append] at ho
    obtain ⟨⟨⟨o1, o2⟩, o3⟩, o4⟩ := ho
    obtain ⟨s1, g1, g2⟩ := yListT_ok l hs h1 o1
    simp only [List.all_cons, g1, Bool.and_eq_true]
    refine ⟨?_, yReps_ok hs h0 h2 o4⟩
    have hb := sameBs_ok h0.s.b g2.s.b h3 o3
    unfold sameB
    rw [Bool.and_eq_true]
    constructor
    · have e : ops.toList.filterMap (·.dst) = (ops.toList.map (·.dst)).filterMap id := by
        rw [List.filterMap_map]; rfl
      rw [e]
      have := sameTs_ok o2
      rw [h0.s.t, g2.s.t]
      exact this
    · rw [List.all_eq_true]
      intro k hk
      exact hb k (mem_dedupK hk)
theorem yRegion_ok {fl : Nat → Nat → Hint} {id : Nat} (hs : SatO c.path R y st) (hy : yRegion c O fl id ops draw R y = some (y', ps)) (ho : AllP ps) : ∃ st', evRegion c O id ops draw st = some st' ∧ SatO c.path R y' st' := by
  unfold yRegion at hy
  unfold evRegion
  split at hy
  · rename_i r rs hr
    try simp only
    split at hy
    rotate_left
    · cases hy
    rename_i y0 p0 k0 h1 h2
    split at hy
    rotate_left
    · cases hy
    rename_i qs h3
    simp only [Option.some.injEq, Prod.mk.injEq] at hy
    obtain ⟨rfl, rfl⟩ := hy
    rw [allP_append] at ho
    obtain ⟨s0, g1, g2⟩ := yListT_ok _ hs h1 ho.1
    refine ⟨s0, ?_, g2⟩
    simp only [hr, g1]
    rw [if_pos]
    rw [h2, Bool.true_and]
    exact yReps_ok hs g2 h3 ho.2
  · rename_i d rs hne
    obtain ⟨s', g1, g2⟩ := yList_ok _ hs hy ho
    refine ⟨s', ?_, g2⟩
    split
    · rename_i r rs hr
      exact absurd hr (hne _ _ rfl)
    · exact g1

theorem yCode_ok {fl : Nat → Nat → Hint} : ∀ (n : Nat) (code : Code) {y y' : YS} {st : St} {ps : List Prop} {ex : Ex}, SatO c.path R y st → yCode c O fl R n code y = some (ex, y', ps) → AllP ps → ∃ st', evCode c O n code st = some (ex, st') ∧ SatO c.path R y' st' := by
  intro n
  induction n with
  | zero => intro code y y' st ps ex hs hy ho; simp [yCode] at hy
  | succ n ih =>
    intro code y y' st ps ex hs hy ho
    cases code with
    | skip =>
      simp only [yCode, Option.some.injEq, Prod.mk.injEq] at hy
      obtain ⟨rfl, rfl, rfl⟩ := hy
      exact ⟨st, rfl, hs⟩
    | region id ops draw =>
      simp only [yCode] at hy
      split at hy
      rotate_left
      · cases hy
      rename_i y1 p1 h1
      simp only [Option.some.injEq, Prod.mk.injEq] at hy
      obtain ⟨rfl, rfl, rfl⟩ := hy
      obtain ⟨s', g1, g2⟩ := yRegion_ok hs h1 ho
      exact ⟨s', by simp only [evCode, g1, Option.map_some], g2⟩
    | seq a b =>
      simp only [yCode] at hy
      split at hy
      · rename_i y1 p1 h1
        split at hy
        rotate_left
        · cases hy
        rename_i ex2 y2 p2 h2
        simp only [Option.some.injEq, Prod.mk.injEq] at hy
        obtain ⟨rfl, rfl, rfl⟩ := hy
        rw [allP_append] at ho
        obtain ⟨s1, g1, g2⟩ := ih a hs h1 ho.1
        obtain ⟨s2, g3, g4⟩ := ih b g2 h2 ho.2
        exact ⟨s2, by simp only [evCode, g1]; exact g3, g4⟩
      · rename_i j y1 p1 h1
        simp only [Option.some.injEq, Prod.mk.injEq] at hy
        obtain ⟨rfl, rfl, rfl⟩ := hy
        obtain ⟨s1, g1, g2⟩ := ih a hs h1 ho
        exact ⟨s1, by simp only [evCode, g1], g2⟩
      · rename_i y1 p1 h1
        simp only [Option.some.injEq, Prod.mk.injEq] at hy
        obtain ⟨rfl, rfl, rfl⟩ := hy
        obtain ⟨s1, g1, g2⟩ := ih a hs h1 ho
        exact ⟨s1, by simp only [evCode, g1], g2⟩
      · cases hy
    | cond x a b =>
      simp only [yCode] at hy
      simp only [evCode, sat_ρ hs.s]
      split at hy
      · rename_i hx
        simp only [hx, if_true]
        exact ih a hs hy ho
      · rename_i hx
        simp only [hx]
        exact ih b hs hy ho
      · cases hy
    | block id a =>
      simp only [yCode] at hy
      split at hy
      · rename_i j y1 p1 h1
        obtain ⟨s1, g1, g2⟩ : ∃ st', evCode c O n a st = some (.exit j, st') ∧ SatO c.path R y1 st' := ih a hs h1 (by
          split at hy <;> (simp only [Option.some.injEq, Prod.mk.injEq] at hy; obtain ⟨_, _, rfl⟩ := hy; exact ho))
        split at hy
        · rename_i e
          simp only [Option.some.injEq, Prod.mk.injEq] at hy
          obtain ⟨rfl, rfl, rfl⟩ := hy
          exact ⟨s1, by simp only [evCode, g1, beq_eq e, if_true], g2⟩
        · rename_i e
          simp only [Option.some.injEq, Prod.mk.injEq] at hy
          obtain ⟨rfl, rfl, rfl⟩ := hy
          have hne : j ≠ id := fun q => by rw [q] at e; simp at e
          exact ⟨s1, by simp only [evCode, g1, if_neg hne], g2⟩
      · rename_i y1 p1 h1
        simp only [Option.some.injEq, Prod.mk.injEq] at hy
        obtain ⟨rfl, rfl, rfl⟩ := hy
        obtain ⟨s1, g1, g2⟩ := ih a hs h1 ho
        exact ⟨s1, by simp only [evCode, g1], g2⟩
      · rename_i y1 p1 h1
        simp only [Option.some.injEq, Prod.mk.injEq] at hy
        obtain ⟨rfl, rfl, rfl⟩ := hy
        obtain ⟨s1, g1, g2⟩ := ih a hs h1 ho
        exact ⟨s1, by simp only [evCode, g1], g2⟩
      · cases hy
    | loop a =>
      simp only [yCode] at hy
      split at hy
      · rename_i y1 p1 h1
        split at hy
        rotate_left
        · cases hy
        rename_i ex2 y2 p2 h2
        simp only [Option.some.injEq, Prod.mk.injEq] at hy
        obtain ⟨rfl, rfl, rfl⟩ := hy
        rw [allP_append] at ho
        obtain ⟨s1, g1, g2⟩ := ih a hs h1 ho.1
        obtain ⟨s2, g3, g4⟩ := ih (.loop a) g2 h2 ho.2
        exact ⟨s2, by simp only [evCode, g1]; exact g3, g4⟩
      · rename_i j y1 p1 h1
        simp only [Option.some.injEq, Prod.mk.injEq] at hy
        obtain ⟨rfl, rfl, rfl⟩ := hy
        obtain ⟨s1, g1, g2⟩ := ih a hs h1 ho
        exact ⟨s1, by simp only [evCode, g1], g2⟩
      · rename_i y1 p1 h1
        simp only [Option.some.injEq, Prod.mk.injEq] at hy
        obtain ⟨rfl, rfl, rfl⟩ := hy
        obtain ⟨s1, g1, g2⟩ := ih a hs h1 ho
        exact ⟨s1, by simp only [evCode, g1], g2⟩
      · cases hy
    | exit id =>
      simp only [yCode, Option.some.injEq, Prod.mk.injEq] at hy
      obtain ⟨rfl, rfl, rfl⟩ := hy
      exact ⟨st, rfl, hs⟩
    | ret =>
      simp only [yCode, Option.some.injEq, Prod.mk.injEq] at hy
      obtain ⟨rfl, rfl, rfl⟩ := hy
      exact ⟨st, rfl, hs⟩
    | _ => simp [yCode] at hy

/-- Some of what is known. -/
def keepY (ns ks cs : List Nat) (y : YS) : YS := ⟨y.ts.filter (fun x => ns.any (Nat.beq x.1)), pick ks y.bs, y.cs.filter (fun x => cs.any (Nat.beq x.1))⟩
where
  pick : List Nat → List (Key × Blk) → List (Key × Blk)
    | [], _ => []
    | n :: l, bs => match bs[n]? with
      | some b => b :: pick l bs
      | none => pick l bs
theorem HasY.sub (h : HasY p y st) (h1 : ∀ x ∈ y'.ts, x ∈ y.ts) (h2 : ∀ x ∈ y'.bs, x ∈ y.bs) (h3 : ∀ x ∈ y'.cs, x ∈ y.cs) : HasY p y' st :=
  ⟨fun x hx => h.t x (h1 x hx), fun x hx => h.b x (h2 x hx), fun x hx => h.c x (h3 x hx)⟩
theorem mem_pick : ∀ {ks : List Nat} {bs : List (Key × Blk)} {x : Key × Blk}, x ∈ keepY.pick ks bs → x ∈ bs
  | n :: l, bs, x, h => by
    unfold keepY.pick at h
    split at h
    · rename_i b hb
      rcases List.mem_cons.1 h with rfl | h
      · exact mem_of_get hb
      · exact mem_pick h
    · exact mem_pick h
theorem HasY.keep {ns ks cs : List Nat} (h : HasY p y st) : HasY p (keepY ns ks cs y) st :=
  h.sub (fun x hx => (List.mem_filter.1 hx).1) (fun x hx => mem_pick hx) (fun x hx => (List.mem_filter.1 hx).1)

/-- A walk: what is known at its end (of that, some). -/
theorem HasY.walk {fl : Nat → Nat → Hint} {n : Nat} {code : Code} {ex : Ex} (hs : HasY c.path y st) (hon : onceT y.ts = true) {ns ks ds : List Nat}
    (h : ∀ R, (yCode c O fl R n code y).map (fun r => (r.1, keepY ns ks ds r.2.1, r.2.2)) = some (ex, y', ps)) (ho : AllP ps) : ∃ st', Ev c O code st ex st' ∧ HasY c.path y' st' := by
  have h := h st.tm
  simp only [Option.map_eq_some_iff, Prod.mk.injEq] at h
  obtain ⟨⟨ex', y1, ps'⟩, h1, rfl, rfl, rfl⟩ := h
  obtain ⟨st', g1, g2⟩ := yCode_ok n code ⟨hs.sat, hon⟩ h1 ho
  exact ⟨st', ⟨n, g1⟩, (g2.s.has g2.o).keep⟩

/-- What is known where a function begins. -/
def startY (args : List PV) (ds : List Nat) : YS := ⟨go 0 args, [], ds.map fun d => (d, 0)⟩
where
  go : Nat → List PV → List (Nat × PV)
    | _, [] => []
    | i, v :: l => (i, v) :: go (i + 1) l
theorem start_go : ∀ {args : List PV} {i : Nat} {x : Nat × PV}, x ∈ startY.go i args → ∃ j, x.1 = i + j ∧ args[j]? = some x.2
  | v :: l, i, x, h => by
    unfold startY.go at h
    rcases List.mem_cons.1 h with rfl | h
    · exact ⟨0, rfl, rfl⟩
    · obtain ⟨j, h1, h2⟩ := start_go h
      exact ⟨j + 1, by omega, by simpa using h2⟩
theorem start_has {args : List PV} {ds : List Nat} : HasY p (startY args ds) (startSt args Heap.empty) := by
  refine ⟨fun x hx => ?_, fun x hx => (by cases hx), fun x hx => ?_⟩
  · obtain ⟨j, h1, h2⟩ := start_go hx
    show args.getD x.1 (.tup []) = x.2
    rw [h1, Nat.zero_add, List.getD_eq_getElem?_getD, h2]; rfl
  · obtain ⟨d, _, rfl⟩ := List.mem_map.1 hx
    rfl

/-- Where a result lies. -/
def resY (P : Program) (R : Nat → PV) (y : YS) : List Nat → List ResultVar → Option (List PV)
  | _, [] => some []
  | ns, .tmp t :: rs => match resY P R y ns rs with
    | some l => some (getT y.ts R t :: l)
    | none => none
  | n :: ns, .cell a t :: rs => match getT y.ts R a, y.bs[n]?, szT P t with
    | .ptr k sz i j, some (k', .row z els _), some m => match kEq k k' && Nat.beq z sz, els[i]? with
      | true, some e => match (cut e.cells j m).bind (asType P t), resY P R y ns rs with
        | some v, some l => some (v :: l)
        | _, _ => none
      | _, _ => none
    | .pp cs off, _, some m => match (cut cs off m).bind (asType P t), resY P R y ns rs with
      | some v, some l => some (v :: l)
      | _, _ => none
    | _, _, _ => none
  | [], .cell _ _ :: _ => none
def oneR (l : List PV) : PV :=
  match l with
  | [v] => v
  | l => .tup l
theorem resY_ok (hc : c.P = P) (hs : SatY p R y st) : ∀ {rs : List ResultVar} {ns : List Nat} {l : List PV}, resY P R y ns rs = some l → rs.mapM (resV c st) = some l
  | [], ns, l, h => by
    simp only [resY, Option.some.injEq] at h
    subst h
    rfl
  | .tmp t :: rs, ns, l, h => by
    have h : (match resY P R y ns rs with
      | some l => some (getT y.ts R t :: l)
      | none => none) = some l := by cases ns <;> exact h
    split at h
    rotate_left
    · cases h
    rename_i l1 h1
    simp only [Option.some.injEq] at h
    subst h
    rw [List.mapM_cons, resY_ok hc hs h1]
    simp only [resV, hs.t]
    rfl
  | .cell a t :: rs, [], l, h => by simp [resY] at h
  | .cell a t :: rs, n :: ns, l, h => by
    simp only [resY] at h
    split at h
    · rename_i k sz i j k' z els fz m ha hb hm
      split at h
      rotate_left
      · cases h
      rename_i e hk he
      split at h
      rotate_left
      · cases h
      rename_i v l1 hv h1
      simp only [Option.some.injEq] at h
      subst h
      simp only [Bool.and_eq_true] at hk
      have hkk := kEq_ok hk.1
      subst hkk
      have hz := beq_eq hk.2
      have hbk := hs.b _ (mem_of_get hb)
      simp only at hbk
      rw [List.mapM_cons, resY_ok hc hs h1]
      simp only [resV, hs.t, ha, loadV, hc, hm, hbk, hz, if_true, he, hv]
      rfl
    · rename_i cs off m ha hm
      split at h
      rotate_left
      · cases h
      rename_i v l1 hv h1
      simp only [Option.some.injEq] at h
      subst h
      rw [List.mapM_cons, resY_ok hc hs h1]
      simp only [resV, hs.t, ha, loadV, hc, hm, hv]
      rfl
    · cases h
theorem resultsV_of {rs : List ResultVar} {l : List PV} (h : rs.mapM (resV c st) = some l) (hl : rs.length = l.length) : resultsV c st rs = some (oneR l) := by
  unfold resultsV
  match rs, l, hl with
  | [], [], _ => simp only [h]; rfl
  | [r], [v], _ =>
    simp only [oneR]
    rw [List.mapM_cons] at h
    cases hr : resV c st r with
    | none => rw [hr] at h; cases h
    | some w => rw [hr] at h; cases h; rfl
  | r :: r2 :: rs, v :: v2 :: l, _ => simp only [h]; rfl
theorem resY_len : ∀ {rs : List ResultVar} {ns : List Nat} {l : List PV}, resY P R y ns rs = some l → rs.length = l.length
  | [], ns, l, h => by
    simp only [resY, Option.some.injEq] at h
    subst h
    rfl
  | .tmp t :: rs, ns, l, h => by
    have h : (match resY P R y ns rs with
      | some l => some (getT y.ts R t :: l)
      | none => none) = some l := by cases ns <;> exact h
    split at h
    rotate_left
    · cases h
    rename_i l1 h1
    simp only [Option.some.injEq] at h
    subst h
    simp [resY_len h1]
  | .cell a t :: rs, [], l, h => by simp [resY] at h
  | .cell a t :: rs, n :: ns, l, h => by
    simp only [resY] at h
    split at h
    · split at h
      rotate_left
      · cases h
      split at h
      rotate_left
      · cases h
      rename_i v l1 hv h1
      simp only [Option.some.injEq] at h
      subst h
      simp [resY_len h1]
    · split at h
      rotate_left
      · cases h
      rename_i v l1 hv h1
      simp only [Option.some.injEq] at h
      subst h
      simp [resY_len h1]
    · cases h

/-- A whole function that ends at what is known. -/
def endY (P : Program) (R : Nat → PV) (ns : List Nat) (rd : Rd) (rs : List ResultVar) (r : Ex × YS × List Prop) : Option (PV × List Prop) :=
  match r.1 with
  | .exit _ => none
  | _ => match resY P R r.2.1 ns rs with
    | none => none
    | some l => match rdV r.2.1.bs 12 rd (oneR l) with
      | some (x, us, qs) => some (x, r.2.2 ++ qs)
      | none => none

theorem Runs.ofY {fl : Nat → Nat → Hint} {n : Nat} {f : FuncId} {fn : Func} {body : Code} {args : List PV} {st : St} {code : Code} {r : PV} {ns : List Nat} {rd : Rd} (hf : P.funcs[f]? = some fn) (hb : fn.body = some body) (hp : PV.persL args = true) (hl : args.length ≤ fn.ntmps) (hu : pol.use f = true)
    (hrest : ∀ ex st', Ev ⟨P, pol, [], f⟩ O code st ex st' → (ex = .normal ∨ ex = .ret) → ∃ ex', (ex' = .normal ∨ ex' = .ret) ∧ Ev ⟨P, pol, [], f⟩ O body (startSt args Heap.empty) ex' st') (hs : HasY [] y st) (hon : onceT y.ts = true)
    (h : ∀ R, (yCode ⟨P, pol, [], f⟩ O fl R n code y).bind (endY P R ns rd fn.results.toList) = some (r, ps)) (ho : AllP ps) : Runs P pol O f args r := by
  have h := h st.tm
  rw [Option.bind_eq_some_iff] at h
  obtain ⟨⟨ex, y1, ps1⟩, h1, h2⟩ := h
  have hex : ex = .normal ∨ ex = .ret := by
    cases ex with
    | normal => exact .inl rfl
    | ret => exact .inr rfl
    | exit j => simp [endY] at h2
  have h2 : (match resY P st.tm y1 ns fn.results.toList with
    | none => none
    | some l => match rdV y1.bs 12 rd (oneR l) with
      | some (x, us, qs) => some (x, ps1 ++ qs)
      | none => none) = some (r, ps) := by
    rcases hex with rfl | rfl <;> exact h2
  split at h2
  · cases h2
  rename_i l hres
  split at h2
  rotate_left
  · cases h2
  rename_i x us qs hrd
  simp only [Option.some.injEq, Prod.mk.injEq] at h2
  obtain ⟨rfl, rfl⟩ := h2
  rw [allP_append] at ho
  obtain ⟨st', g1, g2⟩ := yCode_ok n code ⟨hs.sat, hon⟩ h1 ho.1
  obtain ⟨_, ks, d1, _, _⟩ := rdV_ok g2.s.b 12 rd (oneR l) x us qs hrd ho.2
  have hr := resultsV_of (resY_ok (c := ⟨P, pol, [], f⟩) rfl g2.s hres) (resY_len hres)
  obtain ⟨ex', he', hev⟩ := hrest ex st' ⟨n, g1⟩ hex
  exact Runs.of_Ev hf hb hp hl hu hev he' hr (by rw [d1]; rfl)
/-- A function at one go. -/
theorem Runs.goY {fl : Nat → Nat → Hint} {n : Nat} {f : FuncId} {fn : Func} {body : Code} {args : List PV} {r : PV} {ns ds : List Nat} {rd : Rd} (hf : P.funcs[f]? = some fn) (hb : fn.body = some body) (hp : PV.persL args = true) (hl : args.length ≤ fn.ntmps) (hu : pol.use f = true)
    (hon : onceT (startY args ds).ts = true) (h : ∀ R, (yCode ⟨P, pol, [], f⟩ O fl R n body (startY args ds)).bind (endY P R ns rd fn.results.toList) = some (r, ps)) (ho : AllP ps) : Runs P pol O f args r :=
  Runs.ofY hf hb hp hl hu (fun ex st' e hx => ⟨ex, hx, e⟩) start_has hon h ho
end Go.Proofs.YtigfgicjjhepoaaGreatDoor.VA

/- Steps that do not touch one another may be exchanged: the exchange. -/
import Derived.Test.YtigfgicjjhepoaaGreatDoorVs
set_option linter.unusedVariables false
set_option linter.unusedSimpArgs false
namespace Go.Proofs.YtigfgicjjhepoaaGreatDoor.VA
open Go Go.RowKit

theorem stepV_p {c : Ctx} {draw : Bool} {op : Op} {ρ : Operand → PV} (H H' : Heap) (h : clsOf c.pol draw op = .p) : stepV c op ρ H = stepV c op ρ H' := by
  cases op with
  | load t x => simp [clsOf] at h
  | convert s d x => simp [clsOf] at h
  | lookup t x i ok => simp [clsOf] at h
  | makeFunc f a b => cases f <;> rfl
  | call k =>
    obtain ⟨cal, args, ats⟩ := k
    cases cal with
    | builtin b => cases b <;> rfl
    | value g => rfl
    | invoke r n => rfl
  | _ => rfl

section
variable {B : Key → Prop} {H H' : Heap}

theorem SameB.row {x y : Option Blk} (h : SameB x y) (P0 : Option (Nat × List PV) → Prop) : True := trivial

theorem loadV_agree {P : Program} {t : TypeId} {a : PV} (hB : ∀ k, B k → SameB (H.blk k) (H'.blk k)) (ha : Bd B a) : loadV P H' t a = loadV P H t a := by
  cases ha with
  | ptr k sz i j h =>
    simp only [loadV]
    rcases hB k h with e | ⟨z, els, f, g, e1, e2⟩
    · rw [← e]
    · rw [e1, e2]
  | _ => rfl

theorem stepV_agree {c : Ctx} {op : Op} {ρ : Operand → PV} (hB : ∀ k, B k → SameB (H.blk k) (H'.blk k)) (hrow : ∀ k sz els fz, B k → H.blk k = some (.row sz els fz) → ∀ e ∈ els, Bd B e) (hρ : ∀ y, Bd B (ρ y)) :
    stepV c op ρ H' = stepV c op ρ H := by
  cases op with
  | load t x => exact loadV_agree hB (hρ x)
  | convert s d x =>
    have hx := (dr_agree hB hrow 2).1 (ρ x) (hρ x)
    simp only [stepV]
    generalize ρ x = v at hx
    split
    · rfl
    · rfl
    · rfl
    · rw [hx]
    · rfl
  | makeFunc f a b => cases f <;> rfl
  | lookup t x i ok =>
    simp only [stepV]
    cases keyT c.P t with
    | none => rfl
    | some q =>
      have hx := hρ x
      generalize ρ x = v at hx
      cases hx with
      | mapr k h =>
        rcases hB k h with e | ⟨z, els, f, g, e1, e2⟩
        · simp only [← e]
        · simp only [e1, e2]
      | _ => rfl
  | call k =>
    obtain ⟨cal, args, ats⟩ := k
    cases cal with
    | builtin b => cases b <;> rfl
    | value g => rfl
    | invoke r n => rfl
  | _ => rfl

theorem stepC_agree {c : Ctx} {O : Orc} {f : FuncId} {args : List PV} (hB : ∀ k, B k → SameB (H.blk k) (H'.blk k)) (hrow : ∀ k sz els fz, B k → H.blk k = some (.row sz els fz) → ∀ e ∈ els, Bd B e) (hρ : ∀ y ∈ args, Bd B y) :
    stepC c O f args H' = stepC c O f args H := by
  simp only [stepC, (dr_agree hB hrow 12).2 args hρ]
end

/-- The step at a place: the value, and what it does to the heap. -/
def stepE (c : Ctx) (O : Orc) (ops : Array Oper) (i : Nat) (tm : Nat → PV) (H : Heap) : Option (PV × Eff) :=
  match ops[i]? with
  | none => none
  | some o => match wantedV ops o ⟨tm, H⟩ with
    | none => none
    | some true => evEff c O true o (opv c.pol.glob tm) H
    | some false => some (.tup [], .keep)

def stepH (c : Ctx) (O : Orc) (ops : Array Oper) (i : Nat) (tm : Nat → PV) (H : Heap) : Option (PV × Heap) :=
  match ops[i]? with
  | none => none
  | some o => match wantedV ops o ⟨tm, H⟩ with
    | none => none
    | some true => match clsOf c.pol true o.op with
      | .w => stepW c O o.dst o.op (opv c.pol.glob tm) H
      | _ => (evEff c O true o (opv c.pol.glob tm) H).map fun r => (r.1, r.2.app c.path H)
    | some false => some (.tup [], H)

def dstOf (ops : Array Oper) (i : Nat) : Option Nat := (ops[i]?).bind (·.dst)
def clsAt (c : Ctx) (ops : Array Oper) (i : Nat) : Cls :=
  match ops[i]? with
  | some o => clsOf c.pol true o.op
  | none => .p

/-- The temporaries that the step at a place reads. -/
def rdOf (ops : Array Oper) (i : Nat) : List Nat :=
  match ops[i]? with
  | none => []
  | some o => (match o.guard with
    | some (j, _) => ((ops[j]?).bind (·.dst)).toList
    | none => []) ++ (reads o.op).filterMap fun
    | .tmp t => some t
    | _ => none

theorem evStep_eq {c : Ctx} {O : Orc} {ops : Array Oper} {i : Nat} {st : St} : evStep c O true ops i st = (stepH c O ops i st.tm st.hp).map fun r => { tm := (st.put (dstOf ops i) r.1).tm, hp := r.2 } := by
  unfold evStep stepH dstOf
  cases ho : ops[i]? with
  | none => rfl
  | some o =>
    simp only [Option.bind_some]
    cases hw : wantedV ops o st with
    | none => simp [hw]
    | some b =>
      cases b with
      | false =>
        simp only [hw, Option.map_some]
        congr 1
        cases o.dst <;> rfl
      | true =>
        simp only [hw]
        unfold evOp
        split
        · rename_i hc; simp [hc]
        · rename_i hc
          cases hcl : clsOf c.pol true o.op with
          | w => exact absurd hcl hc
          | _ => simp [Option.map_map]; rfl

theorem opv_congr {g : Nat → PV} {tm tm' : Nat → PV} {l : List Operand} (h : ∀ t ∈ (l.filterMap fun | Operand.tmp t => some t | _ => none), tm t = tm' t) : ∀ y ∈ l, opv g tm y = opv g tm' y := by
  intro y hy
  cases y with
  | tmp t => exact h t (List.mem_filterMap.2 ⟨_, hy, rfl⟩)
  | _ => rfl

theorem wantedV_congr {ops : Array Oper} {o : Oper} {tm tm' : Nat → PV} {H H' : Heap} (h : ∀ j b, o.guard = some (j, b) → ∀ d, (ops[j]?).bind (·.dst) = some d → tm d = tm' d) : wantedV ops o ⟨tm, H⟩ = wantedV ops o ⟨tm', H'⟩ := by
  unfold wantedV
  cases hg : o.guard with
  | none => rfl
  | some q =>
    obtain ⟨j, b⟩ := q
    dsimp only
    cases hd : (ops[j]?).bind (·.dst) with
    | none => rfl
    | some d => simp only [h j b hg d hd]

/-- Only what it reads matters. -/
theorem stepH_congr {c : Ctx} {O : Orc} {ops : Array Oper} {i : Nat} {tm tm' : Nat → PV} {H : Heap} (h : ∀ t ∈ rdOf ops i, tm t = tm' t) : stepH c O ops i tm H = stepH c O ops i tm' H ∧ stepE c O ops i tm H = stepE c O ops i tm' H := by
  unfold stepH stepE
  unfold rdOf at h
  cases ho : ops[i]? with
  | none => exact ⟨rfl, rfl⟩
  | some o =>
    simp only [ho, List.mem_append] at h ⊢
    have hw : wantedV ops o ⟨tm, H⟩ = wantedV ops o ⟨tm', H⟩ := wantedV_congr (fun j b hg d hd => h d (.inl (by rw [hg]; simp [hd])))
    have hr := opv_congr (g := c.pol.glob) (l := reads o.op) (tm := tm) (tm' := tm') (fun t ht => h t (.inr ht))
    rw [hw]
    have he : evEff c O true o (opv c.pol.glob tm) H = evEff c O true o (opv c.pol.glob tm') H := by
      unfold evEff
      rw [stepV_congr hr, stepN_congr hr, callee_congr hr]
    rw [he, stepW_congr hr]
    exact ⟨rfl, rfl⟩

/-- A step that is no writing one. -/
theorem stepH_stepE {c : Ctx} {O : Orc} {ops : Array Oper} {i : Nat} {tm : Nat → PV} {H : Heap} (h : clsAt c ops i ≠ .w) : stepH c O ops i tm H = (stepE c O ops i tm H).map fun r => (r.1, r.2.app c.path H) := by
  unfold stepH stepE
  unfold clsAt at h
  cases ho : ops[i]? with
  | none => rfl
  | some o =>
    simp only [ho] at h ⊢
    cases wantedV ops o ⟨tm, H⟩ with
    | none => rfl
    | some b =>
      cases b with
      | false => rfl
      | true =>
        dsimp only
        split
        · rename_i hc; exact absurd hc h
        · rfl

/-- A step that asks no heap. -/
theorem stepE_p {c : Ctx} {O : Orc} {ops : Array Oper} {i : Nat} {tm : Nat → PV} {H H' : Heap} (h : clsAt c ops i = .p) : stepE c O ops i tm H = stepE c O ops i tm H' ∧ ∀ v e, stepE c O ops i tm H = some (v, e) → e = .keep := by
  unfold stepE
  unfold clsAt at h
  cases ho : ops[i]? with
  | none => exact ⟨rfl, fun v e h => by cases h⟩
  | some o =>
    simp only [ho] at h ⊢
    rw [wantedV_congr (tm := tm) (tm' := tm) (H := H) (H' := H') (fun _ _ _ _ _ => rfl)]
    cases wantedV ops o ⟨tm, H'⟩ with
    | none => exact ⟨rfl, fun v e h => by cases h⟩
    | some b =>
      cases b with
      | false => exact ⟨rfl, fun v e h => by simp at h; exact h.2.symm⟩
      | true =>
        simp only [evEff, h]
        refine ⟨by rw [stepV_p H H' h], fun v e he => ?_⟩
        simp only [Option.map_eq_some_iff, Prod.mk.injEq] at he
        obtain ⟨_, _, _, rfl⟩ := he
        rfl
end Go.Proofs.YtigfgicjjhepoaaGreatDoor.VA

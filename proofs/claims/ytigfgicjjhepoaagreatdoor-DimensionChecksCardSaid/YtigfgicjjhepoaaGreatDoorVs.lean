/- Steps that do not touch one another may be exchanged. -/
import Derived.Test.YtigfgicjjhepoaaGreatDoorVr
set_option linter.unusedVariables false
set_option linter.unusedSimpArgs false
namespace Go.Proofs.YtigfgicjjhepoaaGreatDoor.VA
open Go Go.RowKit

/-- What an operation reads. -/
def reads : Op → List Operand
  | .move x | .assign x | .nilCheck x | .fieldAddr _ x _ | .field _ x _ | .unOp _ _ x | .extract x _ | .load _ x | .convert _ _ x | .box _ x | .range _ x | .next x _ => [x]
  | .pick b x y => [b, x, y]
  | .build _ parts | .buildSlice _ _ parts => parts.toList.map (·.2)
  | .indexAddr _ x i | .index _ x i | .binOp _ _ x i _ | .lookup _ x i _ | .store _ x i => [x, i]
  | .slice _ x lo hi mx => x :: (lo.toList ++ hi.toList ++ mx.toList)
  | .makeFunc _ a b => a.toList ++ b.toList
  | .call { callee := .value g, args, .. } => g :: args.toList
  | .call { args, .. } => args.toList
  | .makeSlice _ l m => [l, m]
  | .mapUpdate _ m i v => [m, i, v]
  | _ => []

theorem map_congr_op {ρ ρ' : Operand → PV} {l : List Operand} (h : ∀ y ∈ l, ρ y = ρ' y) : l.map ρ = l.map ρ' := List.map_congr_left h
theorem parts_congr {ρ ρ' : Operand → PV} {l : List (Nat × Operand)} (h : ∀ y ∈ l.map (·.2), ρ y = ρ' y) : (l.map fun p => (p.1, ρ p.2)) = l.map fun p => (p.1, ρ' p.2) :=
  List.map_congr_left fun p hp => by rw [h p.2 (List.mem_map_of_mem hp)]
theorem opt_congr {ρ ρ' : Operand → PV} {o : Option Operand} (h : ∀ y ∈ o.toList, ρ y = ρ' y) : o.map ρ = o.map ρ' := by
  cases o with
  | none => rfl
  | some x => simp [h x (by simp)]

theorem stepV_congr {c : Ctx} {op : Op} {ρ ρ' : Operand → PV} {H : Heap} (h : ∀ y ∈ reads op, ρ y = ρ' y) : stepV c op ρ H = stepV c op ρ' H := by
  cases op with
  | move x => simp only [stepV, h x (by simp [reads])]
  | assign x => simp only [stepV, h x (by simp [reads])]
  | nilCheck x => simp only [stepV, h x (by simp [reads])]
  | fieldAddr t x f => simp only [stepV, h x (by simp [reads])]
  | field t x f => simp only [stepV, h x (by simp [reads])]
  | unOp o t x => simp only [stepV, h x (by simp [reads])]
  | extract x i => simp only [stepV, h x (by simp [reads])]
  | load t x => simp only [stepV, h x (by simp [reads])]
  | convert s d x => simp only [stepV, h x (by simp [reads])]
  | pick b x y => simp only [stepV, h b (by simp [reads]), h x (by simp [reads]), h y (by simp [reads])]
  | build t parts => simp only [stepV, parts_congr (l := parts.toList) (fun y hy => h y (by simpa [reads] using hy))]
  | buildSlice t n parts => simp only [stepV, parts_congr (l := parts.toList) (fun y hy => h y (by simpa [reads] using hy))]
  | indexAddr t x i => simp only [stepV, h x (by simp [reads]), h i (by simp [reads])]
  | index t x i => simp only [stepV, h x (by simp [reads]), h i (by simp [reads])]
  | binOp o t x y m => simp only [stepV, h x (by simp [reads]), h y (by simp [reads])]
  | lookup t x i ok => simp only [stepV, h x (by simp [reads]), h i (by simp [reads])]
  | slice t x lo hi mx =>
    have h1 := opt_congr (o := lo) (fun y hy => h y (by simp [reads] at hy ⊢; simp [hy]))
    have h2 := opt_congr (o := hi) (fun y hy => h y (by simp [reads] at hy ⊢; simp [hy]))
    have h3 := opt_congr (o := mx) (fun y hy => h y (by simp [reads] at hy ⊢; simp [hy]))
    simp only [stepV, h x (by simp [reads]), h1, h2, h3]
  | makeFunc f a b =>
    have h1 := map_congr_op (l := a.toList) (fun y hy => h y (by simp only [reads, List.mem_append]; exact .inl hy))
    have h2 := map_congr_op (l := b.toList) (fun y hy => h y (by simp only [reads, List.mem_append]; exact .inr hy))
    cases f <;> simp only [stepV, h1, h2]
  | call k =>
    obtain ⟨cal, args, ats⟩ := k
    cases cal with
    | builtin b =>
      have hl : ∀ y ∈ args.toList, ρ y = ρ' y := fun y hy => h y (by simpa [reads] using hy)
      cases b <;> simp only [stepV]
      · split
        · rename_i y t ha ht
          rw [hl y (by rw [ha]; simp)]
        · rfl
      · split
        · rename_i y z ha
          rw [hl y (by rw [ha]; simp), hl z (by rw [ha]; simp)]
        · rfl
      · split
        · rename_i y z ha
          rw [hl y (by rw [ha]; simp), hl z (by rw [ha]; simp)]
        · rfl
    | value g => rfl
    | invoke r n => rfl
  | _ => rfl

theorem stepN_congr {c : Ctx} {op : Op} {ρ ρ' : Operand → PV} (h : ∀ y ∈ reads op, ρ y = ρ' y) : stepN c op ρ = stepN c op ρ' := by
  cases op with
  | box t x => simp only [stepN, h x (by simp [reads])]
  | makeSlice t l m => simp only [stepN, h l (by simp [reads]), h m (by simp [reads])]
  | makeMap t r => cases r <;> rfl
  | range t x => simp only [stepN, h x (by simp [reads])]
  | _ => rfl

theorem callee_congr {op : Op} {ρ ρ' : Operand → PV} (h : ∀ y ∈ reads op, ρ y = ρ' y) : callee op ρ = callee op ρ' := by
  cases op with
  | call k =>
    obtain ⟨cal, args, ats⟩ := k
    cases cal with
    | value g =>
      have h1 := map_congr_op (l := args.toList) (fun y hy => h y (by simp only [reads, List.mem_cons]; exact .inr hy))
      simp only [callee, h g (by simp [reads]), h1]
    | builtin b => rfl
    | invoke r n => rfl
  | _ => rfl

theorem stepW_congr {c : Ctx} {O : Orc} {d : Option Nat} {op : Op} {ρ ρ' : Operand → PV} {H : Heap} (h : ∀ y ∈ reads op, ρ y = ρ' y) : stepW c O d op ρ H = stepW c O d op ρ' H := by
  cases op with
  | store t a v => simp only [stepW, h a (by simp [reads]), h v (by simp [reads])]
  | mapUpdate t m i v => simp only [stepW, h m (by simp [reads]), h i (by simp [reads]), h v (by simp [reads])]
  | next it s => cases s <;> simp only [stepW, h it (by simp [reads])]
  | call k =>
    obtain ⟨cal, args, ats⟩ := k
    cases cal with
    | builtin b =>
      have hl : ∀ y ∈ args.toList, ρ y = ρ' y := fun y hy => h y (by simpa [reads] using hy)
      cases b <;> simp only [stepW]
      split
      · rename_i s x t tx d ha _
        rw [hl s (by rw [ha]; simp), hl x (by rw [ha]; simp)]
      · rfl
    | value g =>
      have h1 := map_congr_op (l := args.toList) (fun y hy => h y (by simp only [reads, List.mem_cons]; exact .inr hy))
      cases g <;> simp only [stepW, h1, h _ (show _ ∈ reads _ by simp [reads]; exact .inl rfl)]
    | invoke r n => rfl
  | _ => rfl
end Go.Proofs.YtigfgicjjhepoaaGreatDoor.VA

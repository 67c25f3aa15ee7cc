/- The policy of this seat, and the looks at its program. -/
import Derived.Test.YtigfgicjjhepoaaGreatDoorProg
import Derived.Test.YtigfgicjjhepoaaGreatDoorMc
set_option linter.unusedVariables false
namespace Go.Proofs.YtigfgicjjhepoaaGreatDoor.VA
open Go Go.Proofs
def inlL : List Nat := [69, 71, 72, 91, 92, 93, 94, 95, 96, 103, 116, 117, 120, 121, 147, 149, 187, 206, 207, 208, 209, 210, 214, 216, 217]
def offL : List Nat := [91, 94, 117]
def repsF (f r : Nat) : List (List Nat) :=
  if Nat.beq f 17 && Nat.beq r 8 then [[0, 1, 2, 3, 4, 5, 6, 7, 8, 9, 10, 12, 13, 11, 14, 15, 16, 17], [0, 1, 2, 3, 4, 5, 6, 7, 8, 9, 10, 12, 13, 14, 15, 11, 16, 17], [0, 1, 2, 3, 4, 5, 6, 7, 8, 12, 13, 9, 10, 11, 14, 15, 16, 17], [0, 1, 2, 3, 4, 5, 6, 7, 8, 12, 13, 9, 10, 14, 15, 11, 16, 17], [0, 1, 2, 3, 4, 5, 6, 7, 8, 12, 13, 14, 15, 9, 10, 11, 16, 17], [0, 1, 2, 3, 4, 5, 8, 9, 10, 11, 12, 13, 6, 7, 14, 15, 16, 17], [0, 1, 2, 3, 4, 5, 8, 9, 10, 12, 13, 6, 7, 11, 14, 15, 16, 17], [0, 1, 2, 3, 4, 5, 8, 9, 10, 12, 13, 6, 7, 14, 15, 11, 16, 17], [0, 1, 2, 3, 4, 5, 8, 12, 13, 6, 7, 9, 10, 11, 14, 15, 16, 17], [0, 1, 2, 3, 4, 5, 8, 12, 13, 6, 7, 9, 10, 14, 15, 11, 16, 17], [0, 1, 2, 3, 4, 5, 8, 12, 13, 6, 7, 14, 15, 9, 10, 11, 16, 17], [0, 1, 2, 3, 8, 9, 10, 11, 12, 13, 4, 5, 6, 7, 14, 15, 16, 17], [0, 1, 2, 3, 8, 9, 10, 12, 13, 4, 5, 6, 7, 11, 14, 15, 16, 17], [0, 1, 2, 3, 8, 9, 10, 12, 13, 4, 5, 6, 7, 14, 15, 11, 16, 17], [0, 1, 2, 3, 8, 12, 13, 4, 5, 6, 7, 9, 10, 11, 14, 15, 16, 17], [0, 1, 2, 3, 8, 12, 13, 4, 5, 6, 7, 9, 10, 14, 15, 11, 16, 17], [0, 1, 2, 3, 8, 12, 13, 4, 5, 6, 7, 14, 15, 9, 10, 11, 16, 17]] else
  if Nat.beq f 22 && Nat.beq r 10 then [[0, 2, 1, 3]] else
  if Nat.beq f 22 && Nat.beq r 23 then [[0, 2, 1, 3, 4]] else
  if Nat.beq f 38 && Nat.beq r 13 then [[0, 2, 1, 3, 4]] else
  if Nat.beq f 62 && Nat.beq r 7 then [[0, 2, 1, 3, 4]] else
  []
def pol : Pol := { mode := fun f => if inlL.any (Nat.beq f) then .inl else .pure, glob := fun _ => .junk, reps := repsF, eqt := fun _ => false, use := fun f => !offL.any (Nat.beq f) }
noncomputable abbrev Pr : Program := Tryz.prog

theorem seatP : POk Pr pol := pok_of (n := 253) (by kernel_rfl) (by kernel_rfl) (by kernel_rfl) (fun _ => rfl)
theorem seatC : COk Pr pol := cok_of (n := 229) (by kernel_rfl) (by kernel_rfl)
theorem seatG (ng : Nat) (w : World) : GOk pol ng w := gok_junk (fun _ => rfl) ng w
end Go.Proofs.YtigfgicjjhepoaaGreatDoor.VA

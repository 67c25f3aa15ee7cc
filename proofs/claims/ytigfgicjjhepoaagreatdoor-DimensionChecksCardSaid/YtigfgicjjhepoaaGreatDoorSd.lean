/- The examples of the chapter: by computation. -/
import Derived.Test.YtigfgicjjhepoaaGreatDoorSc
set_option linter.unusedVariables false
namespace Go.Proofs.YtigfgicjjhepoaaGreatDoor.VA
open Go Go.Proofs
theorem known_run : (orc Pr pol prim0 primI0 300).pure 6 [] = some (.bool true) := by kernel_rfl
def knownS (l : List PV) : Option PV := match l with
  | [] => some (.bool true)
  | _ => none
def prim1 : FuncId → List PV → Option PV := addP 6 knownS prim0
theorem seat1 : PrimOk Pr pol prim1 := primOk_add seatP seatC seat0 seatI (fun args r h => ⟨300, by
  unfold knownS at h
  split at h
  · cases h; exact known_run
  · cases h⟩)
end Go.Proofs.YtigfgicjjhepoaaGreatDoor.VA

/-
  DERIVED. GIVEN WITH THE SEED: THE CARDS: each row of YtigfgicjjhepoaaGreatDoorRows.lean that lists a variable, with what it lists TIED to the program's text (the seventh form; the later family's looks); each row that meets fmt, with fmt's text TOLD by the authors' own Lean function (tested against real Go, not proved from fmt's source: count such statements apart). THE CARD IS WHAT COUNTS. Prove the row's statement (the work); the ties are given (YtigfgicjjhepoaaGreatDoorTie.lean); close each card by the builder's one call (the guide's Derived/Test/ToyasCard.lean, 'card_holds'). Laid BY PROGRAM, IN A SANDBOX (cutbox-door.mjs). By AI agents, Wed Nov 11 2026. No macro, syntax, notation, axiom, sorry.
-/
import Derived.Test.YtigfgicjjhepoaaGreatDoorRows
import GoSem.ClaimSeven
namespace Go.Proofs.YtigfgicjjhepoaaGreatDoor
namespace Rows

/-- THE TIED CARD OF 'dowellaw37.DimensionFits'. -/
def dimensionFitsCard : Claim7 := { stood := { row := dimensionFitsRow, standIns := [], harness := (true, "808691b1a07cdfd10c204738a57b7fd92d6b6a39bbbf9a188887552388c6cb5b"), looks := true }, kinds := [], alts := [], laidByText := true, laidKinds := [.data, .data, .data, .data, .sentinel, .sentinel, .pinned], laidTests := true, laidLooks := .later }
def DimensionFitsCardSaid : Prop := Claim7.holds Tryz.pinned (.plain (OpenSpec.ofChange dimensionFitsSpec)) dimensionFitsCard

/-- THE TIED CARD OF 'dowellaw37.DimensionChecks'. -/
def dimensionChecksCard : Claim7 := { stood := { row := dimensionChecksRow, standIns := [], harness := (true, "808691b1a07cdfd10c204738a57b7fd92d6b6a39bbbf9a188887552388c6cb5b"), looks := true }, kinds := [], alts := [], laidByText := true, laidKinds := [.data, .data, .data, .data, .sentinel, .sentinel, .pinned], laidTests := true, laidLooks := .later }
def DimensionChecksCardSaid : Prop := Claim7.holds Tryz.pinned (.plain (OpenSpec.ofChange dimensionChecksSpec)) dimensionChecksCard

/-- THE TIED CARD OF 'dowellaw37.DimensionWithin'. -/
def dimensionWithinCard : Claim7 := { stood := { row := dimensionWithinRow, standIns := [], harness := (true, "808691b1a07cdfd10c204738a57b7fd92d6b6a39bbbf9a188887552388c6cb5b"), looks := true }, kinds := [], alts := [], laidByText := true, laidKinds := [.data, .data, .data, .data, .sentinel, .sentinel, .pinned], laidTests := true, laidLooks := .later }
def DimensionWithinCardSaid : Prop := Claim7.holds Tryz.pinned (.plain (OpenSpec.ofChange dimensionWithinSpec)) dimensionWithinCard

/-- THE SECOND FORM's CARD OF 'dowellaw37.DimensionFits'. -/
def dimensionFitsUptoCard : Claim7 := { stood := { row := dimensionFitsUptoRow, standIns := [], harness := (true, "808691b1a07cdfd10c204738a57b7fd92d6b6a39bbbf9a188887552388c6cb5b"), looks := true }, kinds := [], alts := [], laidByText := true, laidKinds := [.data, .data, .data, .data, .sentinel, .sentinel, .pinned], laidTests := true, laidLooks := .later }
def DimensionFitsUptoCardSaid : Prop := Claim7.holds Tryz.pinned (.plain (OpenSpec.upto dimensionFitsSpec)) dimensionFitsUptoCard

/-- THE SECOND FORM's CARD OF 'dowellaw37.DimensionChecks'. -/
def dimensionChecksUptoCard : Claim7 := { stood := { row := dimensionChecksUptoRow, standIns := [], harness := (true, "808691b1a07cdfd10c204738a57b7fd92d6b6a39bbbf9a188887552388c6cb5b"), looks := true }, kinds := [], alts := [], laidByText := true, laidKinds := [.data, .data, .data, .data, .sentinel, .sentinel, .pinned], laidTests := true, laidLooks := .later }
def DimensionChecksUptoCardSaid : Prop := Claim7.holds Tryz.pinned (.plain (OpenSpec.upto dimensionChecksSpec)) dimensionChecksUptoCard

/-- THE SECOND FORM's CARD OF 'dowellaw37.DimensionWithin'. -/
def dimensionWithinUptoCard : Claim7 := { stood := { row := dimensionWithinUptoRow, standIns := [], harness := (true, "808691b1a07cdfd10c204738a57b7fd92d6b6a39bbbf9a188887552388c6cb5b"), looks := true }, kinds := [], alts := [], laidByText := true, laidKinds := [.data, .data, .data, .data, .sentinel, .sentinel, .pinned], laidTests := true, laidLooks := .later }
def DimensionWithinUptoCardSaid : Prop := Claim7.holds Tryz.pinned (.plain (OpenSpec.upto dimensionWithinSpec)) dimensionWithinUptoCard
end Rows
end Go.Proofs.YtigfgicjjhepoaaGreatDoor

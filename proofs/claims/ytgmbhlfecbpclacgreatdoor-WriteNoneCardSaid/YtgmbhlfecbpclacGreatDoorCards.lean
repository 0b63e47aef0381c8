/-
  DERIVED. GIVEN WITH THE SEED: THE CARDS: each row of YtgmbhlfecbpclacGreatDoorRows.lean that lists a variable, with what it lists TIED to the program's text (the seventh form; the later family's looks); each row that meets fmt, with fmt's text TOLD by the authors' own Lean function (tested against real Go, not proved from fmt's source: count such statements apart). THE CARD IS WHAT COUNTS. Prove the row's statement (the work); the ties are given (YtgmbhlfecbpclacGreatDoorTie.lean); close each card by the builder's one call (the guide's Derived/Test/ToyasCard.lean, 'card_holds'). Laid BY PROGRAM, IN A SANDBOX (cutbox-door.mjs). By AI agents, Wed Nov 11 2026. No macro, syntax, notation, axiom, sorry.
-/
import Derived.Test.YtgmbhlfecbpclacGreatDoorRows
import GoSem.ClaimSeven
namespace Go.Proofs.YtgmbhlfecbpclacGreatDoor
namespace Rows

/-- THE TIED CARD OF 'liverylaw22.WriteNone'. -/
def writeNoneCard : Claim7 := { stood := { row := writeNoneRow, standIns := [], harness := (true, "9423d8f495b5433bb3659473d3052225f6984afe7509308535ebdc2bafbe48be"), looks := false }, kinds := [], alts := [], laidByText := true, laidKinds := [.data, .pinned], laidTests := true, laidLooks := .later }
def WriteNoneCardSaid : Prop := Claim7.holds Tryz.pinned (.plain (OpenSpec.ofChange writeNoneSpec)) writeNoneCard

/-- THE SECOND FORM's CARD OF 'liverylaw22.WriteNone'. -/
def writeNoneUptoCard : Claim7 := { stood := { row := writeNoneUptoRow, standIns := [], harness := (true, "9423d8f495b5433bb3659473d3052225f6984afe7509308535ebdc2bafbe48be"), looks := false }, kinds := [], alts := [], laidByText := true, laidKinds := [.data, .pinned], laidTests := true, laidLooks := .later }
def WriteNoneUptoCardSaid : Prop := Claim7.holds Tryz.pinned (.plain (OpenSpec.upto writeNoneSpec)) writeNoneUptoCard
end Rows
end Go.Proofs.YtgmbhlfecbpclacGreatDoor

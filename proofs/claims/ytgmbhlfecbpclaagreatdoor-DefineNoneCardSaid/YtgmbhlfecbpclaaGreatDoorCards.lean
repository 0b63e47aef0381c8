/-
  DERIVED. GIVEN WITH THE SEED: THE CARDS: each row of YtgmbhlfecbpclaaGreatDoorRows.lean that lists a variable, with what it lists TIED to the program's text (the seventh form; the later family's looks); each row that meets fmt, with fmt's text TOLD by the authors' own Lean function (tested against real Go, not proved from fmt's source: count such statements apart). THE CARD IS WHAT COUNTS. Prove the row's statement (the work); the ties are given (YtgmbhlfecbpclaaGreatDoorTie.lean); close each card by the builder's one call (the guide's Derived/Test/ToyasCard.lean, 'card_holds'). Laid BY PROGRAM, IN A SANDBOX (cutbox-door.mjs). By AI agents, Wed Nov 11 2026. No macro, syntax, notation, axiom, sorry.
-/
import Derived.Test.YtgmbhlfecbpclaaGreatDoorRows
import GoSem.ClaimSeven
namespace Go.Proofs.YtgmbhlfecbpclaaGreatDoor
namespace Rows

/-- THE TIED CARD OF 'liverylaw23.DefineNone'. -/
def defineNoneCard : Claim7 := { stood := { row := defineNoneRow, standIns := [], harness := (true, "f88e40470e7290307dcea9cfdb7630cd1f23096a98da0bcfd4ae5a67594e470f"), looks := false }, kinds := [], alts := [], laidByText := true, laidKinds := [.data, .pinned], laidTests := true, laidLooks := .later }
def DefineNoneCardSaid : Prop := Claim7.holds Tryz.pinned (.plain (OpenSpec.ofChange defineNoneSpec)) defineNoneCard

/-- THE SECOND FORM's CARD OF 'liverylaw23.DefineNone'. -/
def defineNoneUptoCard : Claim7 := { stood := { row := defineNoneUptoRow, standIns := [], harness := (true, "f88e40470e7290307dcea9cfdb7630cd1f23096a98da0bcfd4ae5a67594e470f"), looks := false }, kinds := [], alts := [], laidByText := true, laidKinds := [.data, .pinned], laidTests := true, laidLooks := .later }
def DefineNoneUptoCardSaid : Prop := Claim7.holds Tryz.pinned (.plain (OpenSpec.upto defineNoneSpec)) defineNoneUptoCard
end Rows
end Go.Proofs.YtgmbhlfecbpclaaGreatDoor

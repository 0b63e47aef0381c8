/-
  DERIVED. GIVEN WITH THE SEED: THE CARDS: each row of YtgmbhlfecbpclabGreatDoorRows.lean that lists a variable, with what it lists TIED to the program's text (the seventh form; the later family's looks); each row that meets fmt, with fmt's text TOLD by the authors' own Lean function (tested against real Go, not proved from fmt's source: count such statements apart). THE CARD IS WHAT COUNTS. Prove the row's statement (the work); the ties are given (YtgmbhlfecbpclabGreatDoorTie.lean); close each card by the builder's one call (the guide's Derived/Test/ToyasCard.lean, 'card_holds'). Laid BY PROGRAM, IN A SANDBOX (cutbox-door.mjs). By AI agents, Wed Nov 11 2026. No macro, syntax, notation, axiom, sorry.
-/
import Derived.Test.YtgmbhlfecbpclabGreatDoorRows
import GoSem.ClaimSeven
namespace Go.Proofs.YtgmbhlfecbpclabGreatDoor
namespace Rows

/-- THE TIED CARD OF 'liverylaw21.ReadNone'. -/
def readNoneCard : Claim7 := { stood := { row := readNoneRow, standIns := [], harness := (true, "03e68df712d297b2744b1fd4b0f95d59714fd8d1b575af5b834a8821d9e0c3a3"), looks := false }, kinds := [], alts := [], laidByText := true, laidKinds := [.data, .pinned], laidTests := true, laidLooks := .later }
def ReadNoneCardSaid : Prop := Claim7.holds Tryz.pinned (.plain (OpenSpec.ofChange readNoneSpec)) readNoneCard

/-- THE SECOND FORM's CARD OF 'liverylaw21.ReadNone'. -/
def readNoneUptoCard : Claim7 := { stood := { row := readNoneUptoRow, standIns := [], harness := (true, "03e68df712d297b2744b1fd4b0f95d59714fd8d1b575af5b834a8821d9e0c3a3"), looks := false }, kinds := [], alts := [], laidByText := true, laidKinds := [.data, .pinned], laidTests := true, laidLooks := .later }
def ReadNoneUptoCardSaid : Prop := Claim7.holds Tryz.pinned (.plain (OpenSpec.upto readNoneSpec)) readNoneUptoCard
end Rows
end Go.Proofs.YtgmbhlfecbpclabGreatDoor

/-
  DERIVED. GIVEN WITH THE SEED: THE CARDS: each row of YtgdiihffjogdiaaGreatDoorRows.lean that lists a variable, with what it lists TIED to the program's text (the seventh form; the later family's looks); each row that meets fmt, with fmt's text TOLD by the authors' own Lean function (tested against real Go, not proved from fmt's source: count such statements apart). THE CARD IS WHAT COUNTS. Prove the row's statement (the work); the ties are given (YtgdiihffjogdiaaGreatDoorTie.lean); close each card by the builder's one call (the guide's Derived/Test/ToyasCard.lean, 'card_holds'). Laid BY PROGRAM, IN A SANDBOX (cutbox-door.mjs). By AI agents, Wed Nov 11 2026. No macro, syntax, notation, axiom, sorry.
-/
import Derived.Test.YtgdiihffjogdiaaGreatDoorRows
import GoSem.ClaimSeven
namespace Go.Proofs.YtgdiihffjogdiaaGreatDoor
namespace Rows

/-- THE TIED CARD OF 'liverylaw19.TableEntries'. -/
def tableEntriesCard : Claim7 := { stood := { row := tableEntriesRow, standIns := [], harness := (true, "2aa53cd56c1b91a50f28203a667b2a9a00ab8c99b044ad98aa5b2962c99e621c"), looks := false }, kinds := [], alts := [], laidByText := true, laidKinds := [.data, .pinned], laidTests := true, laidLooks := .later }
def TableEntriesCardSaid : Prop := Claim7.holds Tryz.pinned (.plain (OpenSpec.ofChange tableEntriesSpec)) tableEntriesCard

/-- THE TIED CARD OF 'liverylaw19.TableReaders'. -/
def tableReadersCard : Claim7 := { stood := { row := tableReadersRow, standIns := [], harness := (true, "2aa53cd56c1b91a50f28203a667b2a9a00ab8c99b044ad98aa5b2962c99e621c"), looks := false }, kinds := [], alts := [], laidByText := true, laidKinds := [.data, .pinned], laidTests := true, laidLooks := .later }
def TableReadersCardSaid : Prop := Claim7.holds Tryz.pinned (.plain (OpenSpec.ofChange tableReadersSpec)) tableReadersCard

/-- THE TIED CARD OF 'liverylaw19.TableNone'. -/
def tableNoneCard : Claim7 := { stood := { row := tableNoneRow, standIns := [], harness := (true, "2aa53cd56c1b91a50f28203a667b2a9a00ab8c99b044ad98aa5b2962c99e621c"), looks := false }, kinds := [], alts := [], laidByText := true, laidKinds := [.data, .pinned], laidTests := true, laidLooks := .later }
def TableNoneCardSaid : Prop := Claim7.holds Tryz.pinned (.plain (OpenSpec.ofChange tableNoneSpec)) tableNoneCard

/-- THE SECOND FORM's CARD OF 'liverylaw19.TableEntries'. -/
def tableEntriesUptoCard : Claim7 := { stood := { row := tableEntriesUptoRow, standIns := [], harness := (true, "2aa53cd56c1b91a50f28203a667b2a9a00ab8c99b044ad98aa5b2962c99e621c"), looks := false }, kinds := [], alts := [], laidByText := true, laidKinds := [.data, .pinned], laidTests := true, laidLooks := .later }
def TableEntriesUptoCardSaid : Prop := Claim7.holds Tryz.pinned (.plain (OpenSpec.upto tableEntriesSpec)) tableEntriesUptoCard

/-- THE SECOND FORM's CARD OF 'liverylaw19.TableReaders'. -/
def tableReadersUptoCard : Claim7 := { stood := { row := tableReadersUptoRow, standIns := [], harness := (true, "2aa53cd56c1b91a50f28203a667b2a9a00ab8c99b044ad98aa5b2962c99e621c"), looks := false }, kinds := [], alts := [], laidByText := true, laidKinds := [.data, .pinned], laidTests := true, laidLooks := .later }
def TableReadersUptoCardSaid : Prop := Claim7.holds Tryz.pinned (.plain (OpenSpec.upto tableReadersSpec)) tableReadersUptoCard

/-- THE SECOND FORM's CARD OF 'liverylaw19.TableNone'. -/
def tableNoneUptoCard : Claim7 := { stood := { row := tableNoneUptoRow, standIns := [], harness := (true, "2aa53cd56c1b91a50f28203a667b2a9a00ab8c99b044ad98aa5b2962c99e621c"), looks := false }, kinds := [], alts := [], laidByText := true, laidKinds := [.data, .pinned], laidTests := true, laidLooks := .later }
def TableNoneUptoCardSaid : Prop := Claim7.holds Tryz.pinned (.plain (OpenSpec.upto tableNoneSpec)) tableNoneUptoCard
end Rows
end Go.Proofs.YtgdiihffjogdiaaGreatDoor

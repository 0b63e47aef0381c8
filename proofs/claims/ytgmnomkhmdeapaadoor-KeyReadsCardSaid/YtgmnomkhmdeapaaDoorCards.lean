/-
  DERIVED. GIVEN WITH THE SEED: THE CARDS: each row of YtgmnomkhmdeapaaDoorRows.lean that lists a variable, with what it lists TIED to the program's text (the seventh form; the later family's looks); each row that meets fmt, with fmt's text TOLD by the authors' own Lean function (tested against real Go, not proved from fmt's source: count such statements apart). THE CARD IS WHAT COUNTS. Prove the row's statement (the work); the ties are given (YtgmnomkhmdeapaaDoorTie.lean); close each card by the builder's one call (the guide's Derived/Test/ToyasCard.lean, 'card_holds'). Laid BY PROGRAM, IN A SANDBOX (cutbox-door.mjs). By AI agents, Wed Nov 11 2026. No macro, syntax, notation, axiom, sorry.
-/
import Derived.Test.YtgmnomkhmdeapaaDoorRows
import GoSem.ClaimSeven
namespace Go.Proofs.YtgmnomkhmdeapaaDoor
namespace Rows

/-- THE TIED CARD OF 'liverylaw03.KeyOrder'. -/
def keyOrderCard : Claim7 := { stood := { row := keyOrderRow, standIns := [], harness := (true, "d2bb0063cf3ce445a47368ea7811af8629610ebcc7f641f5f5e63ee93672a61e"), looks := false }, kinds := [], alts := [], laidByText := true, laidKinds := [.data, .pinned], laidTests := true, laidLooks := .later }
def KeyOrderCardSaid : Prop := Claim7.holds Tryd.pinned (.plain (OpenSpec.ofChange keyOrderSpec)) keyOrderCard

/-- THE TIED CARD OF 'liverylaw03.KeyBack'. -/
def keyBackCard : Claim7 := { stood := { row := keyBackRow, standIns := [], harness := (true, "d2bb0063cf3ce445a47368ea7811af8629610ebcc7f641f5f5e63ee93672a61e"), looks := false }, kinds := [], alts := [], laidByText := true, laidKinds := [.data, .pinned], laidTests := true, laidLooks := .later }
def KeyBackCardSaid : Prop := Claim7.holds Tryd.pinned (.plain (OpenSpec.ofChange keyBackSpec)) keyBackCard

/-- THE TIED CARD OF 'liverylaw03.KeyBegins'. -/
def keyBeginsCard : Claim7 := { stood := { row := keyBeginsRow, standIns := [], harness := (true, "d2bb0063cf3ce445a47368ea7811af8629610ebcc7f641f5f5e63ee93672a61e"), looks := false }, kinds := [], alts := [], laidByText := true, laidKinds := [.data, .pinned], laidTests := true, laidLooks := .later }
def KeyBeginsCardSaid : Prop := Claim7.holds Tryd.pinned (.plain (OpenSpec.ofChange keyBeginsSpec)) keyBeginsCard

/-- THE TIED CARD OF 'liverylaw03.KeyReads'. -/
def keyReadsCard : Claim7 := { stood := { row := keyReadsRow, standIns := [], harness := (true, "d2bb0063cf3ce445a47368ea7811af8629610ebcc7f641f5f5e63ee93672a61e"), looks := false }, kinds := [], alts := [], laidByText := true, laidKinds := [.data, .pinned], laidTests := true, laidLooks := .later }
def KeyReadsCardSaid : Prop := Claim7.holds Tryd.pinned (.plain (OpenSpec.ofChange keyReadsSpec)) keyReadsCard

/-- THE TIED CARD OF 'liverylaw03.KeyMakes'. -/
def keyMakesCard : Claim7 := { stood := { row := keyMakesRow, standIns := [], harness := (true, "d2bb0063cf3ce445a47368ea7811af8629610ebcc7f641f5f5e63ee93672a61e"), looks := false }, kinds := [], alts := [], laidByText := true, laidKinds := [.data, .pinned], laidTests := true, laidLooks := .later }
def KeyMakesCardSaid : Prop := Claim7.holds Tryd.pinned (.plain (OpenSpec.ofChange keyMakesSpec)) keyMakesCard

/-- THE TIED CARD OF 'liverylaw03.KeyBetween'. -/
def keyBetweenCard : Claim7 := { stood := { row := keyBetweenRow, standIns := [], harness := (true, "d2bb0063cf3ce445a47368ea7811af8629610ebcc7f641f5f5e63ee93672a61e"), looks := false }, kinds := [], alts := [], laidByText := true, laidKinds := [.data, .pinned], laidTests := true, laidLooks := .later }
def KeyBetweenCardSaid : Prop := Claim7.holds Tryd.pinned (.plain (OpenSpec.ofChange keyBetweenSpec)) keyBetweenCard

/-- THE SECOND FORM's CARD OF 'liverylaw03.KeyOrder'. -/
def keyOrderUptoCard : Claim7 := { stood := { row := keyOrderUptoRow, standIns := [], harness := (true, "d2bb0063cf3ce445a47368ea7811af8629610ebcc7f641f5f5e63ee93672a61e"), looks := false }, kinds := [], alts := [], laidByText := true, laidKinds := [.data, .pinned], laidTests := true, laidLooks := .later }
def KeyOrderUptoCardSaid : Prop := Claim7.holds Tryd.pinned (.plain (OpenSpec.upto keyOrderSpec)) keyOrderUptoCard

/-- THE SECOND FORM's CARD OF 'liverylaw03.KeyBack'. -/
def keyBackUptoCard : Claim7 := { stood := { row := keyBackUptoRow, standIns := [], harness := (true, "d2bb0063cf3ce445a47368ea7811af8629610ebcc7f641f5f5e63ee93672a61e"), looks := false }, kinds := [], alts := [], laidByText := true, laidKinds := [.data, .pinned], laidTests := true, laidLooks := .later }
def KeyBackUptoCardSaid : Prop := Claim7.holds Tryd.pinned (.plain (OpenSpec.upto keyBackSpec)) keyBackUptoCard

/-- THE SECOND FORM's CARD OF 'liverylaw03.KeyBegins'. -/
def keyBeginsUptoCard : Claim7 := { stood := { row := keyBeginsUptoRow, standIns := [], harness := (true, "d2bb0063cf3ce445a47368ea7811af8629610ebcc7f641f5f5e63ee93672a61e"), looks := false }, kinds := [], alts := [], laidByText := true, laidKinds := [.data, .pinned], laidTests := true, laidLooks := .later }
def KeyBeginsUptoCardSaid : Prop := Claim7.holds Tryd.pinned (.plain (OpenSpec.upto keyBeginsSpec)) keyBeginsUptoCard

/-- THE SECOND FORM's CARD OF 'liverylaw03.KeyReads'. -/
def keyReadsUptoCard : Claim7 := { stood := { row := keyReadsUptoRow, standIns := [], harness := (true, "d2bb0063cf3ce445a47368ea7811af8629610ebcc7f641f5f5e63ee93672a61e"), looks := false }, kinds := [], alts := [], laidByText := true, laidKinds := [.data, .pinned], laidTests := true, laidLooks := .later }
def KeyReadsUptoCardSaid : Prop := Claim7.holds Tryd.pinned (.plain (OpenSpec.upto keyReadsSpec)) keyReadsUptoCard

/-- THE SECOND FORM's CARD OF 'liverylaw03.KeyMakes'. -/
def keyMakesUptoCard : Claim7 := { stood := { row := keyMakesUptoRow, standIns := [], harness := (true, "d2bb0063cf3ce445a47368ea7811af8629610ebcc7f641f5f5e63ee93672a61e"), looks := false }, kinds := [], alts := [], laidByText := true, laidKinds := [.data, .pinned], laidTests := true, laidLooks := .later }
def KeyMakesUptoCardSaid : Prop := Claim7.holds Tryd.pinned (.plain (OpenSpec.upto keyMakesSpec)) keyMakesUptoCard

/-- THE SECOND FORM's CARD OF 'liverylaw03.KeyBetween'. -/
def keyBetweenUptoCard : Claim7 := { stood := { row := keyBetweenUptoRow, standIns := [], harness := (true, "d2bb0063cf3ce445a47368ea7811af8629610ebcc7f641f5f5e63ee93672a61e"), looks := false }, kinds := [], alts := [], laidByText := true, laidKinds := [.data, .pinned], laidTests := true, laidLooks := .later }
def KeyBetweenUptoCardSaid : Prop := Claim7.holds Tryd.pinned (.plain (OpenSpec.upto keyBetweenSpec)) keyBetweenUptoCard
end Rows
end Go.Proofs.YtgmnomkhmdeapaaDoor

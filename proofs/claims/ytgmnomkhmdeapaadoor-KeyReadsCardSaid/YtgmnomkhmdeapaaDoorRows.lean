/-
  NARROWER THAN 'FOR EVERY INPUT', by the rows' own cells (each row's printed sentence says how): KeyOrder: laid · KeyBack: laid · KeyBegins: laid · KeyReads: laid · KeyMakes: laid · KeyBetween: laid.
  DERIVED. THE GIVEN ROWS OF THIS SEAT. 6 by the template 'for every input the law returns true; each argument reads behind the call as it read before'; 0 by the template 'total and deterministic' (their statements: YtgmnomkhmdeapaaDoorTotals.lean).
  GIVEN WITH THE SEED: the statements are not yours to turn. If you find one false, say at which input.
  Laid BY PROGRAM, IN A SANDBOX (cutbox-rows.mjs): the forced cells as the released guide's own fill.sh prints them over the translation 14a584a00d4a480f… (all of the seat's roots in one cut). By AI agents, Wed Nov 11 2026. No macro, syntax, notation, axiom, sorry.
-/
import Derived.Test.YtgmnomkhmdeapaaDoorChecked
import GoSem.PinnedTables
import GoSem.Claim
import GoSem.ClaimJoined
import GoSem.ClaimMapViews
import Derived.JoinedTies
import Derived.KernelRfl
namespace Go.Proofs.YtgmnomkhmdeapaaDoor
/- THE CELL 'sum', in the pinned program and in every row, IS THE sha256 OF THE DUMP (.gsa) THAT YtgmnomkhmdeapaaDoorProg.lean LOADS. Nothing in Lean hashes anything: it is a label: what it is worth is what the hold of that sum in a sandbox is worth. -/
noncomputable def Tryd.pinned : Pinned := { name := "ytgmnomkhmdeapaadoor", sum := "14a584a00d4a480febf84b61de90b77daf602c1bdefdc9aaa5d5523257623859", checked := Tryd.checked }
namespace Rows
def none {H : Type} : Left H := { results := [], args := [] }

/- WHAT THE LISTED PACKAGE-LEVEL VARIABLES READ AS WHEN THE CALL BEGINS. Each datum BY PROGRAM (the guide's laid-datum.mjs) off the statement by which the dump's own 'gosem.cut.vars' lays the variable. In a bare row this is a premise. The card (YtgmnomkhmdeapaaDoorCards.lean) ties it to the program's text. -/
def laid_unicode_utf8_acceptRanges {H : Type} : DataW H := .agg [.agg [.lit (.int .u8 128), .lit (.int .u8 191)], .agg [.lit (.int .u8 160), .lit (.int .u8 191)], .agg [.lit (.int .u8 128), .lit (.int .u8 159)], .agg [.lit (.int .u8 144), .lit (.int .u8 191)], .agg [.lit (.int .u8 128), .lit (.int .u8 143)], .agg [.lit (.int .u8 0), .lit (.int .u8 0)], .agg [.lit (.int .u8 0), .lit (.int .u8 0)], .agg [.lit (.int .u8 0), .lit (.int .u8 0)], .agg [.lit (.int .u8 0), .lit (.int .u8 0)], .agg [.lit (.int .u8 0), .lit (.int .u8 0)], .agg [.lit (.int .u8 0), .lit (.int .u8 0)], .agg [.lit (.int .u8 0), .lit (.int .u8 0)], .agg [.lit (.int .u8 0), .lit (.int .u8 0)], .agg [.lit (.int .u8 0), .lit (.int .u8 0)], .agg [.lit (.int .u8 0), .lit (.int .u8 0)], .agg [.lit (.int .u8 0), .lit (.int .u8 0)]]
/-- One of Go's own tables, pinned by name: the form's constant. -/
def laid_unicode_utf8_first : DataW Unit := Go.Pinned.utf8First

/-- 'liverylaw03.KeyOrder': WHATEVER THE INPUT: true; the input reads as it did. -/
def keyOrderSpec : ChangeSpec := { name := "keyOrder", fn := fun _ => fun
  | [d1, d2, d3] => { results := [.lit (.bool true)], args := [d1, d2, d3] }
  | _ => none }
def keyOrderRow : OpenClaim := { program := "ytgmnomkhmdeapaadoor", sum := "14a584a00d4a480febf84b61de90b77daf602c1bdefdc9aaa5d5523257623859", func := "livery/liverylaw03.KeyOrder", spec := "keyOrder", inPlace := ["math.Float64bits", "math.Float64frombits", "internal/abi.NoEscape", "internal/bytealg.MakeNoZero", "internal/bytealg.CountString", "internal/bytealg.IndexByteString", "internal/bytealg.IndexString"], unfollowed := true, recurses := true, named := ["internal/bytealg.MaxLen", "unicode/utf8.first", "unicode/utf8.acceptRanges"], apart := false, laid := [("unicode/utf8.acceptRanges", laid_unicode_utf8_acceptRanges), ("unicode/utf8.first", laid_unicode_utf8_first)] }
def KeyOrderSaid : Prop := keyOrderRow.holds Tryd.pinned (OpenSpec.ofChange keyOrderSpec)

/-- ITS FALSE NEIGHBOUR: 'it returns false'. Refute it at one input. -/
def keyOrderWrong : ChangeSpec := { name := "keyOrder", fn := fun _ => fun
  | [d1, d2, d3] => { results := [.lit (.bool false)], args := [d1, d2, d3] }
  | _ => none }
def KeyOrderWrongFalsely : Prop := keyOrderRow.holds Tryd.pinned (OpenSpec.ofChange keyOrderWrong)

/-- 'liverylaw03.KeyBack': WHATEVER THE INPUT: true; the input reads as it did. -/
def keyBackSpec : ChangeSpec := { name := "keyBack", fn := fun _ => fun
  | [d1, d2, d3] => { results := [.lit (.bool true)], args := [d1, d2, d3] }
  | _ => none }
def keyBackRow : OpenClaim := { program := "ytgmnomkhmdeapaadoor", sum := "14a584a00d4a480febf84b61de90b77daf602c1bdefdc9aaa5d5523257623859", func := "livery/liverylaw03.KeyBack", spec := "keyBack", inPlace := ["math.Float64bits", "math.Float64frombits", "internal/abi.NoEscape", "internal/bytealg.MakeNoZero", "internal/bytealg.CountString", "internal/bytealg.IndexByteString", "internal/bytealg.IndexString"], unfollowed := true, recurses := true, named := ["internal/bytealg.MaxLen", "unicode/utf8.first", "unicode/utf8.acceptRanges"], apart := false, laid := [("unicode/utf8.acceptRanges", laid_unicode_utf8_acceptRanges), ("unicode/utf8.first", laid_unicode_utf8_first)] }
def KeyBackSaid : Prop := keyBackRow.holds Tryd.pinned (OpenSpec.ofChange keyBackSpec)

/-- ITS FALSE NEIGHBOUR: 'it returns false'. Refute it at one input. -/
def keyBackWrong : ChangeSpec := { name := "keyBack", fn := fun _ => fun
  | [d1, d2, d3] => { results := [.lit (.bool false)], args := [d1, d2, d3] }
  | _ => none }
def KeyBackWrongFalsely : Prop := keyBackRow.holds Tryd.pinned (OpenSpec.ofChange keyBackWrong)

/-- 'liverylaw03.KeyBegins': WHATEVER THE INPUT: true; the input reads as it did. -/
def keyBeginsSpec : ChangeSpec := { name := "keyBegins", fn := fun _ => fun
  | [d1, d2] => { results := [.lit (.bool true)], args := [d1, d2] }
  | _ => none }
def keyBeginsRow : OpenClaim := { program := "ytgmnomkhmdeapaadoor", sum := "14a584a00d4a480febf84b61de90b77daf602c1bdefdc9aaa5d5523257623859", func := "livery/liverylaw03.KeyBegins", spec := "keyBegins", inPlace := ["math.Float64bits", "math.Float64frombits", "internal/abi.NoEscape", "internal/bytealg.MakeNoZero", "internal/bytealg.CountString", "internal/bytealg.IndexByteString", "internal/bytealg.IndexString"], unfollowed := true, recurses := true, named := ["internal/bytealg.MaxLen", "unicode/utf8.first", "unicode/utf8.acceptRanges"], apart := false, laid := [("unicode/utf8.acceptRanges", laid_unicode_utf8_acceptRanges), ("unicode/utf8.first", laid_unicode_utf8_first)] }
def KeyBeginsSaid : Prop := keyBeginsRow.holds Tryd.pinned (OpenSpec.ofChange keyBeginsSpec)

/-- ITS FALSE NEIGHBOUR: 'it returns false'. Refute it at one input. -/
def keyBeginsWrong : ChangeSpec := { name := "keyBegins", fn := fun _ => fun
  | [d1, d2] => { results := [.lit (.bool false)], args := [d1, d2] }
  | _ => none }
def KeyBeginsWrongFalsely : Prop := keyBeginsRow.holds Tryd.pinned (OpenSpec.ofChange keyBeginsWrong)

/-- 'liverylaw03.KeyReads': WHATEVER THE INPUT: true; the input reads as it did. -/
def keyReadsSpec : ChangeSpec := { name := "keyReads", fn := fun _ => fun
  | [d] => { results := [.lit (.bool true)], args := [d] }
  | _ => none }
def keyReadsRow : OpenClaim := { program := "ytgmnomkhmdeapaadoor", sum := "14a584a00d4a480febf84b61de90b77daf602c1bdefdc9aaa5d5523257623859", func := "livery/liverylaw03.KeyReads", spec := "keyReads", inPlace := ["math.Float64bits", "math.Float64frombits", "internal/abi.NoEscape", "internal/bytealg.MakeNoZero", "internal/bytealg.CountString", "internal/bytealg.IndexByteString", "internal/bytealg.IndexString"], unfollowed := true, recurses := true, named := ["internal/bytealg.MaxLen", "unicode/utf8.first", "unicode/utf8.acceptRanges"], apart := false, laid := [("unicode/utf8.acceptRanges", laid_unicode_utf8_acceptRanges), ("unicode/utf8.first", laid_unicode_utf8_first)] }
def KeyReadsSaid : Prop := keyReadsRow.holds Tryd.pinned (OpenSpec.ofChange keyReadsSpec)

/-- ITS FALSE NEIGHBOUR: 'it returns false'. Refute it at one input. -/
def keyReadsWrong : ChangeSpec := { name := "keyReads", fn := fun _ => fun
  | [d] => { results := [.lit (.bool false)], args := [d] }
  | _ => none }
def KeyReadsWrongFalsely : Prop := keyReadsRow.holds Tryd.pinned (OpenSpec.ofChange keyReadsWrong)

/-- 'liverylaw03.KeyMakes': WHATEVER THE INPUT: true; the input reads as it did. -/
def keyMakesSpec : ChangeSpec := { name := "keyMakes", fn := fun _ => fun
  | [d1, d2] => { results := [.lit (.bool true)], args := [d1, d2] }
  | _ => none }
def keyMakesRow : OpenClaim := { program := "ytgmnomkhmdeapaadoor", sum := "14a584a00d4a480febf84b61de90b77daf602c1bdefdc9aaa5d5523257623859", func := "livery/liverylaw03.KeyMakes", spec := "keyMakes", inPlace := ["math.Float64bits", "math.Float64frombits", "internal/abi.NoEscape", "internal/bytealg.MakeNoZero", "internal/bytealg.CountString", "internal/bytealg.IndexByteString", "internal/bytealg.IndexString"], unfollowed := true, recurses := true, named := ["internal/bytealg.MaxLen", "unicode/utf8.first", "unicode/utf8.acceptRanges"], apart := false, laid := [("unicode/utf8.acceptRanges", laid_unicode_utf8_acceptRanges), ("unicode/utf8.first", laid_unicode_utf8_first)] }
def KeyMakesSaid : Prop := keyMakesRow.holds Tryd.pinned (OpenSpec.ofChange keyMakesSpec)

/-- ITS FALSE NEIGHBOUR: 'it returns false'. Refute it at one input. -/
def keyMakesWrong : ChangeSpec := { name := "keyMakes", fn := fun _ => fun
  | [d1, d2] => { results := [.lit (.bool false)], args := [d1, d2] }
  | _ => none }
def KeyMakesWrongFalsely : Prop := keyMakesRow.holds Tryd.pinned (OpenSpec.ofChange keyMakesWrong)

/-- 'liverylaw03.KeyBetween': WHATEVER THE INPUT: true; the input reads as it did. -/
def keyBetweenSpec : ChangeSpec := { name := "keyBetween", fn := fun _ => fun
  | [d1, d2, d3] => { results := [.lit (.bool true)], args := [d1, d2, d3] }
  | _ => none }
def keyBetweenRow : OpenClaim := { program := "ytgmnomkhmdeapaadoor", sum := "14a584a00d4a480febf84b61de90b77daf602c1bdefdc9aaa5d5523257623859", func := "livery/liverylaw03.KeyBetween", spec := "keyBetween", inPlace := ["math.Float64bits", "math.Float64frombits", "internal/abi.NoEscape", "internal/bytealg.MakeNoZero", "internal/bytealg.CountString", "internal/bytealg.IndexByteString", "internal/bytealg.IndexString"], unfollowed := true, recurses := true, named := ["internal/bytealg.MaxLen", "unicode/utf8.first", "unicode/utf8.acceptRanges"], apart := false, laid := [("unicode/utf8.acceptRanges", laid_unicode_utf8_acceptRanges), ("unicode/utf8.first", laid_unicode_utf8_first)] }
def KeyBetweenSaid : Prop := keyBetweenRow.holds Tryd.pinned (OpenSpec.ofChange keyBetweenSpec)

/-- ITS FALSE NEIGHBOUR: 'it returns false'. Refute it at one input. -/
def keyBetweenWrong : ChangeSpec := { name := "keyBetween", fn := fun _ => fun
  | [d1, d2, d3] => { results := [.lit (.bool false)], args := [d1, d2, d3] }
  | _ => none }
def KeyBetweenWrongFalsely : Prop := keyBetweenRow.holds Tryd.pinned (OpenSpec.ofChange keyBetweenWrong)

/- THE SECOND FORM. 'bulk': how many values and letters a reading holds, each counted each time it is reached (what is shared counts as often as it is met; a slice's spare places count too). A statement '..UptoSaid' is the law's where the arguments, and the package variables that the reading takes, are together of bulk at most 1048576: NARROWER than '..Said'. Prove '..Said' where nothing that the law and all that it calls make is longer than what came in: it says more and counts as full. Else prove '..UptoSaid'. A law counts once. -/
mutual
def uptoBulk {H : Type} : DataW H → Nat
  | .lit (.string bytes) => bytes.length + 1
  | .lit _ => 1
  | .nil => 1
  | .ptr d => uptoBulk d + 1
  | .slice elems spare => uptoBulkAll elems + uptoBulkAll spare + 1
  | .agg parts => uptoBulkAll parts + 1
  | .iface _ d => uptoBulk d + 1
  | .map entries => uptoBulkEntries entries + 1
  | .held _ => 1
def uptoBulkAll {H : Type} : List (DataW H) → Nat
  | [] => 0
  | d :: r => uptoBulk d + uptoBulkAll r
def uptoBulkEntries {H : Type} : List (Lit × DataW H) → Nat
  | [] => 0
  | x :: r => uptoBulkEntry x + uptoBulkEntries r
def uptoBulkEntry {H : Type} : Lit × DataW H → Nat
  | (.string bytes, d) => bytes.length + uptoBulk d + 1
  | (_, d) => uptoBulk d + 1
 end
def uptoSmall : (H : Type) → List (DataW H) → Bool := fun _ ds => decide (uptoBulkAll ds ≤ 1048576)
def OpenSpec.upto (s : _root_.Go.ChangeSpec) : _root_.Go.OpenSpec := { _root_.Go.OpenSpec.ofChange s with cond := some uptoSmall }

/-- 'liverylaw03.KeyOrder', WHERE WHAT IT READS IS OF BULK AT MOST 1048576: true; the input reads as it did. -/
def keyOrderUptoRow : OpenClaim := { program := "ytgmnomkhmdeapaadoor", sum := "14a584a00d4a480febf84b61de90b77daf602c1bdefdc9aaa5d5523257623859", func := "livery/liverylaw03.KeyOrder", spec := "keyOrder", inPlace := ["math.Float64bits", "math.Float64frombits", "internal/abi.NoEscape", "internal/bytealg.MakeNoZero", "internal/bytealg.CountString", "internal/bytealg.IndexByteString", "internal/bytealg.IndexString"], unfollowed := true, recurses := true, named := ["internal/bytealg.MaxLen", "unicode/utf8.first", "unicode/utf8.acceptRanges"], apart := false, laid := [("unicode/utf8.acceptRanges", laid_unicode_utf8_acceptRanges), ("unicode/utf8.first", laid_unicode_utf8_first)], narrowed := true }
def KeyOrderUptoSaid : Prop := keyOrderUptoRow.holds Tryd.pinned (OpenSpec.upto keyOrderSpec)

/-- 'liverylaw03.KeyBack', WHERE WHAT IT READS IS OF BULK AT MOST 1048576: true; the input reads as it did. -/
def keyBackUptoRow : OpenClaim := { program := "ytgmnomkhmdeapaadoor", sum := "14a584a00d4a480febf84b61de90b77daf602c1bdefdc9aaa5d5523257623859", func := "livery/liverylaw03.KeyBack", spec := "keyBack", inPlace := ["math.Float64bits", "math.Float64frombits", "internal/abi.NoEscape", "internal/bytealg.MakeNoZero", "internal/bytealg.CountString", "internal/bytealg.IndexByteString", "internal/bytealg.IndexString"], unfollowed := true, recurses := true, named := ["internal/bytealg.MaxLen", "unicode/utf8.first", "unicode/utf8.acceptRanges"], apart := false, laid := [("unicode/utf8.acceptRanges", laid_unicode_utf8_acceptRanges), ("unicode/utf8.first", laid_unicode_utf8_first)], narrowed := true }
def KeyBackUptoSaid : Prop := keyBackUptoRow.holds Tryd.pinned (OpenSpec.upto keyBackSpec)

/-- 'liverylaw03.KeyBegins', WHERE WHAT IT READS IS OF BULK AT MOST 1048576: true; the input reads as it did. -/
def keyBeginsUptoRow : OpenClaim := { program := "ytgmnomkhmdeapaadoor", sum := "14a584a00d4a480febf84b61de90b77daf602c1bdefdc9aaa5d5523257623859", func := "livery/liverylaw03.KeyBegins", spec := "keyBegins", inPlace := ["math.Float64bits", "math.Float64frombits", "internal/abi.NoEscape", "internal/bytealg.MakeNoZero", "internal/bytealg.CountString", "internal/bytealg.IndexByteString", "internal/bytealg.IndexString"], unfollowed := true, recurses := true, named := ["internal/bytealg.MaxLen", "unicode/utf8.first", "unicode/utf8.acceptRanges"], apart := false, laid := [("unicode/utf8.acceptRanges", laid_unicode_utf8_acceptRanges), ("unicode/utf8.first", laid_unicode_utf8_first)], narrowed := true }
def KeyBeginsUptoSaid : Prop := keyBeginsUptoRow.holds Tryd.pinned (OpenSpec.upto keyBeginsSpec)

/-- 'liverylaw03.KeyReads', WHERE WHAT IT READS IS OF BULK AT MOST 1048576: true; the input reads as it did. -/
def keyReadsUptoRow : OpenClaim := { program := "ytgmnomkhmdeapaadoor", sum := "14a584a00d4a480febf84b61de90b77daf602c1bdefdc9aaa5d5523257623859", func := "livery/liverylaw03.KeyReads", spec := "keyReads", inPlace := ["math.Float64bits", "math.Float64frombits", "internal/abi.NoEscape", "internal/bytealg.MakeNoZero", "internal/bytealg.CountString", "internal/bytealg.IndexByteString", "internal/bytealg.IndexString"], unfollowed := true, recurses := true, named := ["internal/bytealg.MaxLen", "unicode/utf8.first", "unicode/utf8.acceptRanges"], apart := false, laid := [("unicode/utf8.acceptRanges", laid_unicode_utf8_acceptRanges), ("unicode/utf8.first", laid_unicode_utf8_first)], narrowed := true }
def KeyReadsUptoSaid : Prop := keyReadsUptoRow.holds Tryd.pinned (OpenSpec.upto keyReadsSpec)

/-- 'liverylaw03.KeyMakes', WHERE WHAT IT READS IS OF BULK AT MOST 1048576: true; the input reads as it did. -/
def keyMakesUptoRow : OpenClaim := { program := "ytgmnomkhmdeapaadoor", sum := "14a584a00d4a480febf84b61de90b77daf602c1bdefdc9aaa5d5523257623859", func := "livery/liverylaw03.KeyMakes", spec := "keyMakes", inPlace := ["math.Float64bits", "math.Float64frombits", "internal/abi.NoEscape", "internal/bytealg.MakeNoZero", "internal/bytealg.CountString", "internal/bytealg.IndexByteString", "internal/bytealg.IndexString"], unfollowed := true, recurses := true, named := ["internal/bytealg.MaxLen", "unicode/utf8.first", "unicode/utf8.acceptRanges"], apart := false, laid := [("unicode/utf8.acceptRanges", laid_unicode_utf8_acceptRanges), ("unicode/utf8.first", laid_unicode_utf8_first)], narrowed := true }
def KeyMakesUptoSaid : Prop := keyMakesUptoRow.holds Tryd.pinned (OpenSpec.upto keyMakesSpec)

/-- 'liverylaw03.KeyBetween', WHERE WHAT IT READS IS OF BULK AT MOST 1048576: true; the input reads as it did. -/
def keyBetweenUptoRow : OpenClaim := { program := "ytgmnomkhmdeapaadoor", sum := "14a584a00d4a480febf84b61de90b77daf602c1bdefdc9aaa5d5523257623859", func := "livery/liverylaw03.KeyBetween", spec := "keyBetween", inPlace := ["math.Float64bits", "math.Float64frombits", "internal/abi.NoEscape", "internal/bytealg.MakeNoZero", "internal/bytealg.CountString", "internal/bytealg.IndexByteString", "internal/bytealg.IndexString"], unfollowed := true, recurses := true, named := ["internal/bytealg.MaxLen", "unicode/utf8.first", "unicode/utf8.acceptRanges"], apart := false, laid := [("unicode/utf8.acceptRanges", laid_unicode_utf8_acceptRanges), ("unicode/utf8.first", laid_unicode_utf8_first)], narrowed := true }
def KeyBetweenUptoSaid : Prop := keyBetweenUptoRow.holds Tryd.pinned (OpenSpec.upto keyBetweenSpec)

end Rows
end Go.Proofs.YtgmnomkhmdeapaaDoor

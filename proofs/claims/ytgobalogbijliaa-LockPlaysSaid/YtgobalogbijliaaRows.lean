/-
  No cell of these rows narrows 'for every input' (looked for: loops, veiled, ifaces, maps, wideKeys, modest, calm, conditions, laid).
  DERIVED. THE GIVEN ROWS OF THIS SEAT. 7 by the template 'for every input the law returns true; each argument reads behind the call as it read before'; 0 by the template 'total and deterministic' (their statements: YtgobalogbijliaaTotals.lean).
  GIVEN WITH THE SEED: the statements are not yours to turn. If you find one false, say at which input.
  Laid BY PROGRAM, IN A SANDBOX (cutbox-rows.mjs): the forced cells as the released guide's own fill.sh prints them over the translation d6383185ecafdc69… (all of the seat's roots in one cut). By AI agents, Wed Nov 11 2026. No macro, syntax, notation, axiom, sorry.
-/
import Derived.Test.YtgobalogbijliaaChecked
import GoSem.Claim
import GoSem.ClaimJoined
import GoSem.ClaimMapViews
import Derived.JoinedTies
import Derived.KernelRfl
namespace Go.Proofs.Ytgobalogbijliaa
/- THE CELL 'sum', in the pinned program and in every row, IS THE sha256 OF THE DUMP (.gsa) THAT YtgobalogbijliaaProg.lean LOADS. Nothing in Lean hashes anything: it is a label: what it is worth is what the hold of that sum in a sandbox is worth. -/
noncomputable def Try.pinned : Pinned := { name := "ytgobalogbijliaa", sum := "d6383185ecafdc6941335f1e372702264935108d5e4e3fe267c30147d3e75ebf", checked := Try.checked }
namespace Rows
def none {H : Type} : Left H := { results := [], args := [] }

/-- 'liverylaw06.LockPlays': WHATEVER THE INPUT: true; the input reads as it did. -/
def lockPlaysSpec : ChangeSpec := { name := "lockPlays", fn := fun _ => fun
  | [d] => { results := [.lit (.bool true)], args := [d] }
  | _ => none }
def lockPlaysRow : OpenClaim := { program := "ytgobalogbijliaa", sum := "d6383185ecafdc6941335f1e372702264935108d5e4e3fe267c30147d3e75ebf", func := "livery/liverylaw06.LockPlays", spec := "lockPlays", unfollowed := true, recurses := true, apart := false }
def LockPlaysSaid : Prop := lockPlaysRow.holds Try.pinned (OpenSpec.ofChange lockPlaysSpec)

/-- ITS FALSE NEIGHBOUR: 'it returns false'. Refute it at one input. -/
def lockPlaysWrong : ChangeSpec := { name := "lockPlays", fn := fun _ => fun
  | [d] => { results := [.lit (.bool false)], args := [d] }
  | _ => none }
def LockPlaysWrongFalsely : Prop := lockPlaysRow.holds Try.pinned (OpenSpec.ofChange lockPlaysWrong)

/-- 'liverylaw06.LockApart': WHATEVER THE INPUT: true; the input reads as it did. -/
def lockApartSpec : ChangeSpec := { name := "lockApart", fn := fun _ => fun
  | [d] => { results := [.lit (.bool true)], args := [d] }
  | _ => none }
def lockApartRow : OpenClaim := { program := "ytgobalogbijliaa", sum := "d6383185ecafdc6941335f1e372702264935108d5e4e3fe267c30147d3e75ebf", func := "livery/liverylaw06.LockApart", spec := "lockApart", unfollowed := true, recurses := true, apart := false }
def LockApartSaid : Prop := lockApartRow.holds Try.pinned (OpenSpec.ofChange lockApartSpec)

/-- ITS FALSE NEIGHBOUR: 'it returns false'. Refute it at one input. -/
def lockApartWrong : ChangeSpec := { name := "lockApart", fn := fun _ => fun
  | [d] => { results := [.lit (.bool false)], args := [d] }
  | _ => none }
def LockApartWrongFalsely : Prop := lockApartRow.holds Try.pinned (OpenSpec.ofChange lockApartWrong)

/-- 'liverylaw06.LockEnds': WHATEVER THE INPUT: true; the input reads as it did. -/
def lockEndsSpec : ChangeSpec := { name := "lockEnds", fn := fun _ => fun
  | [d1, d2] => { results := [.lit (.bool true)], args := [d1, d2] }
  | _ => none }
def lockEndsRow : OpenClaim := { program := "ytgobalogbijliaa", sum := "d6383185ecafdc6941335f1e372702264935108d5e4e3fe267c30147d3e75ebf", func := "livery/liverylaw06.LockEnds", spec := "lockEnds", unfollowed := true, recurses := true, apart := false }
def LockEndsSaid : Prop := lockEndsRow.holds Try.pinned (OpenSpec.ofChange lockEndsSpec)

/-- ITS FALSE NEIGHBOUR: 'it returns false'. Refute it at one input. -/
def lockEndsWrong : ChangeSpec := { name := "lockEnds", fn := fun _ => fun
  | [d1, d2] => { results := [.lit (.bool false)], args := [d1, d2] }
  | _ => none }
def LockEndsWrongFalsely : Prop := lockEndsRow.holds Try.pinned (OpenSpec.ofChange lockEndsWrong)

/-- 'liverylaw06.LockTurns': WHATEVER THE INPUT: true; the input reads as it did. -/
def lockTurnsSpec : ChangeSpec := { name := "lockTurns", fn := fun _ => fun
  | [d] => { results := [.lit (.bool true)], args := [d] }
  | _ => none }
def lockTurnsRow : OpenClaim := { program := "ytgobalogbijliaa", sum := "d6383185ecafdc6941335f1e372702264935108d5e4e3fe267c30147d3e75ebf", func := "livery/liverylaw06.LockTurns", spec := "lockTurns", unfollowed := true, recurses := true, apart := false }
def LockTurnsSaid : Prop := lockTurnsRow.holds Try.pinned (OpenSpec.ofChange lockTurnsSpec)

/-- ITS FALSE NEIGHBOUR: 'it returns false'. Refute it at one input. -/
def lockTurnsWrong : ChangeSpec := { name := "lockTurns", fn := fun _ => fun
  | [d] => { results := [.lit (.bool false)], args := [d] }
  | _ => none }
def LockTurnsWrongFalsely : Prop := lockTurnsRow.holds Try.pinned (OpenSpec.ofChange lockTurnsWrong)

/-- 'liverylaw06.LockRaises': WHATEVER THE INPUT: true; the input reads as it did. -/
def lockRaisesSpec : ChangeSpec := { name := "lockRaises", fn := fun _ => fun
  | [d] => { results := [.lit (.bool true)], args := [d] }
  | _ => none }
def lockRaisesRow : OpenClaim := { program := "ytgobalogbijliaa", sum := "d6383185ecafdc6941335f1e372702264935108d5e4e3fe267c30147d3e75ebf", func := "livery/liverylaw06.LockRaises", spec := "lockRaises", unfollowed := true, recurses := true, apart := false }
def LockRaisesSaid : Prop := lockRaisesRow.holds Try.pinned (OpenSpec.ofChange lockRaisesSpec)

/-- ITS FALSE NEIGHBOUR: 'it returns false'. Refute it at one input. -/
def lockRaisesWrong : ChangeSpec := { name := "lockRaises", fn := fun _ => fun
  | [d] => { results := [.lit (.bool false)], args := [d] }
  | _ => none }
def LockRaisesWrongFalsely : Prop := lockRaisesRow.holds Try.pinned (OpenSpec.ofChange lockRaisesWrong)

/-- 'liverylaw06.LockNone': WHATEVER THE INPUT: true; the input reads as it did. -/
def lockNoneSpec : ChangeSpec := { name := "lockNone", fn := fun _ => fun
  | [d] => { results := [.lit (.bool true)], args := [d] }
  | _ => none }
def lockNoneRow : OpenClaim := { program := "ytgobalogbijliaa", sum := "d6383185ecafdc6941335f1e372702264935108d5e4e3fe267c30147d3e75ebf", func := "livery/liverylaw06.LockNone", spec := "lockNone", unfollowed := true, recurses := true, apart := false }
def LockNoneSaid : Prop := lockNoneRow.holds Try.pinned (OpenSpec.ofChange lockNoneSpec)

/-- ITS FALSE NEIGHBOUR: 'it returns false'. Refute it at one input. -/
def lockNoneWrong : ChangeSpec := { name := "lockNone", fn := fun _ => fun
  | [d] => { results := [.lit (.bool false)], args := [d] }
  | _ => none }
def LockNoneWrongFalsely : Prop := lockNoneRow.holds Try.pinned (OpenSpec.ofChange lockNoneWrong)

/-- 'liverylaw06.LockBoth': WHATEVER THE INPUT: true; the input reads as it did. -/
def lockBothSpec : ChangeSpec := { name := "lockBoth", fn := fun _ => fun
  | [d1, d2] => { results := [.lit (.bool true)], args := [d1, d2] }
  | _ => none }
def lockBothRow : OpenClaim := { program := "ytgobalogbijliaa", sum := "d6383185ecafdc6941335f1e372702264935108d5e4e3fe267c30147d3e75ebf", func := "livery/liverylaw06.LockBoth", spec := "lockBoth", unfollowed := true, recurses := true, apart := false }
def LockBothSaid : Prop := lockBothRow.holds Try.pinned (OpenSpec.ofChange lockBothSpec)

/-- ITS FALSE NEIGHBOUR: 'it returns false'. Refute it at one input. -/
def lockBothWrong : ChangeSpec := { name := "lockBoth", fn := fun _ => fun
  | [d1, d2] => { results := [.lit (.bool false)], args := [d1, d2] }
  | _ => none }
def LockBothWrongFalsely : Prop := lockBothRow.holds Try.pinned (OpenSpec.ofChange lockBothWrong)

/- THE SECOND FORM. 'bulk': how many values and letters a reading holds, each counted each time it is reached (what is shared counts as often as it is met; a slice's spare places count too). A statement '..UptoSaid' is the law's where the arguments, and the package variables that the reading takes, are together of bulk at most 1048576: NARROWER than '..Said'. Prove '..Said' where nothing that the law and all that it calls make is longer than what came in: it says more and counts as full. Else prove '..UptoSaid'. A law counts once. -/
mutual
def uptoBulk {H : Type} : DataW H → Nat
  | .lit (.string bytes) => bytes.length + 1
  | .lit _ => 1
  | .nil => 1
  | .ptr d => uptoBulk d + 1
  | .slice elems spare => uptoBulkAll elems + uptoBulkAll spare + 1
  | .agg parts => uptoBulkAll parts + 1
  | .iface _ d => uptoBulk d + 1
  | .map entries => uptoBulkEntries entries + 1
  | .held _ => 1
def uptoBulkAll {H : Type} : List (DataW H) → Nat
  | [] => 0
  | d :: r => uptoBulk d + uptoBulkAll r
def uptoBulkEntries {H : Type} : List (Lit × DataW H) → Nat
  | [] => 0
  | x :: r => uptoBulkEntry x + uptoBulkEntries r
def uptoBulkEntry {H : Type} : Lit × DataW H → Nat
  | (.string bytes, d) => bytes.length + uptoBulk d + 1
  | (_, d) => uptoBulk d + 1
 end
def uptoSmall : (H : Type) → List (DataW H) → Bool := fun _ ds => decide (uptoBulkAll ds ≤ 1048576)
def OpenSpec.upto (s : _root_.Go.ChangeSpec) : _root_.Go.OpenSpec := { _root_.Go.OpenSpec.ofChange s with cond := some uptoSmall }

/-- 'liverylaw06.LockPlays', WHERE WHAT IT READS IS OF BULK AT MOST 1048576: true; the input reads as it did. -/
def lockPlaysUptoRow : OpenClaim := { program := "ytgobalogbijliaa", sum := "d6383185ecafdc6941335f1e372702264935108d5e4e3fe267c30147d3e75ebf", func := "livery/liverylaw06.LockPlays", spec := "lockPlays", unfollowed := true, recurses := true, apart := false, narrowed := true }
def LockPlaysUptoSaid : Prop := lockPlaysUptoRow.holds Try.pinned (OpenSpec.upto lockPlaysSpec)

/-- 'liverylaw06.LockApart', WHERE WHAT IT READS IS OF BULK AT MOST 1048576: true; the input reads as it did. -/
def lockApartUptoRow : OpenClaim := { program := "ytgobalogbijliaa", sum := "d6383185ecafdc6941335f1e372702264935108d5e4e3fe267c30147d3e75ebf", func := "livery/liverylaw06.LockApart", spec := "lockApart", unfollowed := true, recurses := true, apart := false, narrowed := true }
def LockApartUptoSaid : Prop := lockApartUptoRow.holds Try.pinned (OpenSpec.upto lockApartSpec)

/-- 'liverylaw06.LockEnds', WHERE WHAT IT READS IS OF BULK AT MOST 1048576: true; the input reads as it did. -/
def lockEndsUptoRow : OpenClaim := { program := "ytgobalogbijliaa", sum := "d6383185ecafdc6941335f1e372702264935108d5e4e3fe267c30147d3e75ebf", func := "livery/liverylaw06.LockEnds", spec := "lockEnds", unfollowed := true, recurses := true, apart := false, narrowed := true }
def LockEndsUptoSaid : Prop := lockEndsUptoRow.holds Try.pinned (OpenSpec.upto lockEndsSpec)

/-- 'liverylaw06.LockTurns', WHERE WHAT IT READS IS OF BULK AT MOST 1048576: true; the input reads as it did. -/
def lockTurnsUptoRow : OpenClaim := { program := "ytgobalogbijliaa", sum := "d6383185ecafdc6941335f1e372702264935108d5e4e3fe267c30147d3e75ebf", func := "livery/liverylaw06.LockTurns", spec := "lockTurns", unfollowed := true, recurses := true, apart := false, narrowed := true }
def LockTurnsUptoSaid : Prop := lockTurnsUptoRow.holds Try.pinned (OpenSpec.upto lockTurnsSpec)

/-- 'liverylaw06.LockRaises', WHERE WHAT IT READS IS OF BULK AT MOST 1048576: true; the input reads as it did. -/
def lockRaisesUptoRow : OpenClaim := { program := "ytgobalogbijliaa", sum := "d6383185ecafdc6941335f1e372702264935108d5e4e3fe267c30147d3e75ebf", func := "livery/liverylaw06.LockRaises", spec := "lockRaises", unfollowed := true, recurses := true, apart := false, narrowed := true }
def LockRaisesUptoSaid : Prop := lockRaisesUptoRow.holds Try.pinned (OpenSpec.upto lockRaisesSpec)

/-- 'liverylaw06.LockNone', WHERE WHAT IT READS IS OF BULK AT MOST 1048576: true; the input reads as it did. -/
def lockNoneUptoRow : OpenClaim := { program := "ytgobalogbijliaa", sum := "d6383185ecafdc6941335f1e372702264935108d5e4e3fe267c30147d3e75ebf", func := "livery/liverylaw06.LockNone", spec := "lockNone", unfollowed := true, recurses := true, apart := false, narrowed := true }
def LockNoneUptoSaid : Prop := lockNoneUptoRow.holds Try.pinned (OpenSpec.upto lockNoneSpec)

/-- 'liverylaw06.LockBoth', WHERE WHAT IT READS IS OF BULK AT MOST 1048576: true; the input reads as it did. -/
def lockBothUptoRow : OpenClaim := { program := "ytgobalogbijliaa", sum := "d6383185ecafdc6941335f1e372702264935108d5e4e3fe267c30147d3e75ebf", func := "livery/liverylaw06.LockBoth", spec := "lockBoth", unfollowed := true, recurses := true, apart := false, narrowed := true }
def LockBothUptoSaid : Prop := lockBothUptoRow.holds Try.pinned (OpenSpec.upto lockBothSpec)

end Rows
end Go.Proofs.Ytgobalogbijliaa

/-
  No cell of these rows narrows 'for every input' (looked for: loops, veiled, ifaces, maps, wideKeys, modest, calm, conditions, laid).
  DERIVED. THE GIVEN ROWS OF THIS SEAT. 4 by the template 'for every input the law returns true; each argument reads behind the call as it read before'; 0 by the template 'total and deterministic' (their statements: YtfkamdkocmkkpaaTotals.lean).
  GIVEN WITH THE SEED: the statements are not yours to turn. If you find one false, say at which input.
  Laid BY PROGRAM, IN A SANDBOX (cutbox-rows.mjs): the forced cells as the released guide's own fill.sh prints them over the translation e2978806dba1e864… (all of the seat's roots in one cut). By AI agents, Wed Nov 11 2026. No macro, syntax, notation, axiom, sorry.
-/
import Derived.Test.YtfkamdkocmkkpaaChecked
import GoSem.Claim
import GoSem.ClaimJoined
import GoSem.ClaimMapViews
import Derived.JoinedTies
import Derived.KernelRfl
namespace Go.Proofs.Ytfkamdkocmkkpaa
/- THE CELL 'sum', in the pinned program and in every row, IS THE sha256 OF THE DUMP (.gsa) THAT YtfkamdkocmkkpaaProg.lean LOADS. Nothing in Lean hashes anything: it is a label: what it is worth is what the hold of that sum in a sandbox is worth. -/
noncomputable def Try.pinned : Pinned := { name := "ytfkamdkocmkkpaa", sum := "e2978806dba1e864c3bb2d5127e108f347d793590bc34fb3de0c55a118acac2b", checked := Try.checked }
namespace Rows
def none {H : Type} : Left H := { results := [], args := [] }

/-- 'liverylaw14.EdgeCircles': WHATEVER THE INPUT: true; the input reads as it did. -/
def edgeCirclesSpec : ChangeSpec := { name := "edgeCircles", fn := fun _ => fun
  | [d] => { results := [.lit (.bool true)], args := [d] }
  | _ => none }
def edgeCirclesRow : OpenClaim := { program := "ytfkamdkocmkkpaa", sum := "e2978806dba1e864c3bb2d5127e108f347d793590bc34fb3de0c55a118acac2b", func := "livery/liverylaw14.EdgeCircles", spec := "edgeCircles", unfollowed := true, recurses := true, plainKeys := false, apart := false }
def EdgeCirclesSaid : Prop := edgeCirclesRow.holds Try.pinned (OpenSpec.ofChange edgeCirclesSpec)

/-- ITS FALSE NEIGHBOUR: 'it returns false'. Refute it at one input. -/
def edgeCirclesWrong : ChangeSpec := { name := "edgeCircles", fn := fun _ => fun
  | [d] => { results := [.lit (.bool false)], args := [d] }
  | _ => none }
def EdgeCirclesWrongFalsely : Prop := edgeCirclesRow.holds Try.pinned (OpenSpec.ofChange edgeCirclesWrong)

/-- 'liverylaw14.EdgeBeside': WHATEVER THE INPUT: true; the input reads as it did. -/
def edgeBesideSpec : ChangeSpec := { name := "edgeBeside", fn := fun _ => fun
  | [d] => { results := [.lit (.bool true)], args := [d] }
  | _ => none }
def edgeBesideRow : OpenClaim := { program := "ytfkamdkocmkkpaa", sum := "e2978806dba1e864c3bb2d5127e108f347d793590bc34fb3de0c55a118acac2b", func := "livery/liverylaw14.EdgeBeside", spec := "edgeBeside", unfollowed := true, recurses := true, plainKeys := false, apart := false }
def EdgeBesideSaid : Prop := edgeBesideRow.holds Try.pinned (OpenSpec.ofChange edgeBesideSpec)

/-- ITS FALSE NEIGHBOUR: 'it returns false'. Refute it at one input. -/
def edgeBesideWrong : ChangeSpec := { name := "edgeBeside", fn := fun _ => fun
  | [d] => { results := [.lit (.bool false)], args := [d] }
  | _ => none }
def EdgeBesideWrongFalsely : Prop := edgeBesideRow.holds Try.pinned (OpenSpec.ofChange edgeBesideWrong)

/-- 'liverylaw14.EdgeNone': WHATEVER THE INPUT: true; the input reads as it did. -/
def edgeNoneSpec : ChangeSpec := { name := "edgeNone", fn := fun _ => fun
  | [d1, d2] => { results := [.lit (.bool true)], args := [d1, d2] }
  | _ => none }
def edgeNoneRow : OpenClaim := { program := "ytfkamdkocmkkpaa", sum := "e2978806dba1e864c3bb2d5127e108f347d793590bc34fb3de0c55a118acac2b", func := "livery/liverylaw14.EdgeNone", spec := "edgeNone", unfollowed := true, recurses := true, plainKeys := false, apart := false }
def EdgeNoneSaid : Prop := edgeNoneRow.holds Try.pinned (OpenSpec.ofChange edgeNoneSpec)

/-- ITS FALSE NEIGHBOUR: 'it returns false'. Refute it at one input. -/
def edgeNoneWrong : ChangeSpec := { name := "edgeNone", fn := fun _ => fun
  | [d1, d2] => { results := [.lit (.bool false)], args := [d1, d2] }
  | _ => none }
def EdgeNoneWrongFalsely : Prop := edgeNoneRow.holds Try.pinned (OpenSpec.ofChange edgeNoneWrong)

/-- 'liverylaw14.EdgePlays': WHATEVER THE INPUT: true; the input reads as it did. -/
def edgePlaysSpec : ChangeSpec := { name := "edgePlays", fn := fun _ => fun
  | [d] => { results := [.lit (.bool true)], args := [d] }
  | _ => none }
def edgePlaysRow : OpenClaim := { program := "ytfkamdkocmkkpaa", sum := "e2978806dba1e864c3bb2d5127e108f347d793590bc34fb3de0c55a118acac2b", func := "livery/liverylaw14.EdgePlays", spec := "edgePlays", unfollowed := true, recurses := true, plainKeys := false, apart := false }
def EdgePlaysSaid : Prop := edgePlaysRow.holds Try.pinned (OpenSpec.ofChange edgePlaysSpec)

/-- ITS FALSE NEIGHBOUR: 'it returns false'. Refute it at one input. -/
def edgePlaysWrong : ChangeSpec := { name := "edgePlays", fn := fun _ => fun
  | [d] => { results := [.lit (.bool false)], args := [d] }
  | _ => none }
def EdgePlaysWrongFalsely : Prop := edgePlaysRow.holds Try.pinned (OpenSpec.ofChange edgePlaysWrong)

/- THE SECOND FORM. 'bulk': how many values and letters a reading holds, each counted each time it is reached (what is shared counts as often as it is met; a slice's spare places count too). A statement '..UptoSaid' is the law's where the arguments, and the package variables that the reading takes, are together of bulk at most 1048576: NARROWER than '..Said'. Prove '..Said' where nothing that the law and all that it calls make is longer than what came in: it says more and counts as full. Else prove '..UptoSaid'. A law counts once. -/
mutual
def uptoBulk {H : Type} : DataW H → Nat
  | .lit (.string bytes) => bytes.length + 1
  | .lit _ => 1
  | .nil => 1
  | .ptr d => uptoBulk d + 1
  | .slice elems spare => uptoBulkAll elems + uptoBulkAll spare + 1
  | .agg parts => uptoBulkAll parts + 1
  | .iface _ d => uptoBulk d + 1
  | .map entries => uptoBulkEntries entries + 1
  | .held _ => 1
def uptoBulkAll {H : Type} : List (DataW H) → Nat
  | [] => 0
  | d :: r => uptoBulk d + uptoBulkAll r
def uptoBulkEntries {H : Type} : List (Lit × DataW H) → Nat
  | [] => 0
  | x :: r => uptoBulkEntry x + uptoBulkEntries r
def uptoBulkEntry {H : Type} : Lit × DataW H → Nat
  | (.string bytes, d) => bytes.length + uptoBulk d + 1
  | (_, d) => uptoBulk d + 1
 end
def uptoSmall : (H : Type) → List (DataW H) → Bool := fun _ ds => decide (uptoBulkAll ds ≤ 1048576)
def OpenSpec.upto (s : _root_.Go.ChangeSpec) : _root_.Go.OpenSpec := { _root_.Go.OpenSpec.ofChange s with cond := some uptoSmall }

/-- 'liverylaw14.EdgeCircles', WHERE WHAT IT READS IS OF BULK AT MOST 1048576: true; the input reads as it did. -/
def edgeCirclesUptoRow : OpenClaim := { program := "ytfkamdkocmkkpaa", sum := "e2978806dba1e864c3bb2d5127e108f347d793590bc34fb3de0c55a118acac2b", func := "livery/liverylaw14.EdgeCircles", spec := "edgeCircles", unfollowed := true, recurses := true, plainKeys := false, apart := false, narrowed := true }
def EdgeCirclesUptoSaid : Prop := edgeCirclesUptoRow.holds Try.pinned (OpenSpec.upto edgeCirclesSpec)

/-- 'liverylaw14.EdgeBeside', WHERE WHAT IT READS IS OF BULK AT MOST 1048576: true; the input reads as it did. -/
def edgeBesideUptoRow : OpenClaim := { program := "ytfkamdkocmkkpaa", sum := "e2978806dba1e864c3bb2d5127e108f347d793590bc34fb3de0c55a118acac2b", func := "livery/liverylaw14.EdgeBeside", spec := "edgeBeside", unfollowed := true, recurses := true, plainKeys := false, apart := false, narrowed := true }
def EdgeBesideUptoSaid : Prop := edgeBesideUptoRow.holds Try.pinned (OpenSpec.upto edgeBesideSpec)

/-- 'liverylaw14.EdgeNone', WHERE WHAT IT READS IS OF BULK AT MOST 1048576: true; the input reads as it did. -/
def edgeNoneUptoRow : OpenClaim := { program := "ytfkamdkocmkkpaa", sum := "e2978806dba1e864c3bb2d5127e108f347d793590bc34fb3de0c55a118acac2b", func := "livery/liverylaw14.EdgeNone", spec := "edgeNone", unfollowed := true, recurses := true, plainKeys := false, apart := false, narrowed := true }
def EdgeNoneUptoSaid : Prop := edgeNoneUptoRow.holds Try.pinned (OpenSpec.upto edgeNoneSpec)

/-- 'liverylaw14.EdgePlays', WHERE WHAT IT READS IS OF BULK AT MOST 1048576: true; the input reads as it did. -/
def edgePlaysUptoRow : OpenClaim := { program := "ytfkamdkocmkkpaa", sum := "e2978806dba1e864c3bb2d5127e108f347d793590bc34fb3de0c55a118acac2b", func := "livery/liverylaw14.EdgePlays", spec := "edgePlays", unfollowed := true, recurses := true, plainKeys := false, apart := false, narrowed := true }
def EdgePlaysUptoSaid : Prop := edgePlaysUptoRow.holds Try.pinned (OpenSpec.upto edgePlaysSpec)

end Rows
end Go.Proofs.Ytfkamdkocmkkpaa

/-
  No cell of these rows narrows 'for every input' (looked for: loops, veiled, ifaces, maps, wideKeys, modest, calm, conditions, laid).
  DERIVED. THE GIVEN ROWS OF THIS SEAT. 5 by the template 'for every input the law returns true; each argument reads behind the call as it read before'; 0 by the template 'total and deterministic' (their statements: YtempffmkbpglfaaTotals.lean).
  GIVEN WITH THE SEED: the statements are not yours to turn. If you find one false, say at which input.
  Laid BY PROGRAM, IN A SANDBOX (cutbox-rows.mjs): the forced cells as the released guide's own fill.sh prints them over the translation 704507d08892a8db… (all of the seat's roots in one cut). By AI agents, Wed Nov 11 2026. No macro, syntax, notation, axiom, sorry.
-/
import Derived.Test.YtempffmkbpglfaaChecked
import GoSem.Claim
import GoSem.ClaimJoined
import GoSem.ClaimMapViews
import Derived.JoinedTies
import Derived.KernelRfl
namespace Go.Proofs.Ytempffmkbpglfaa
/- THE CELL 'sum', in the pinned program and in every row, IS THE sha256 OF THE DUMP (.gsa) THAT YtempffmkbpglfaaProg.lean LOADS. Nothing in Lean hashes anything: it is a label: what it is worth is what the hold of that sum in a sandbox is worth. -/
noncomputable def Try.pinned : Pinned := { name := "ytempffmkbpglfaa", sum := "704507d08892a8db6e6c1a4858af990c73cd916a7e5f0f2ac22b6a2232f0d010", checked := Try.checked }
namespace Rows
def none {H : Type} : Left H := { results := [], args := [] }

/-- 'liverylaw10.LeafHalves': WHATEVER THE INPUT: true; the input reads as it did. -/
def leafHalvesSpec : ChangeSpec := { name := "leafHalves", fn := fun _ => fun
  | [d1, d2] => { results := [.lit (.bool true)], args := [d1, d2] }
  | _ => none }
def leafHalvesRow : OpenClaim := { program := "ytempffmkbpglfaa", sum := "704507d08892a8db6e6c1a4858af990c73cd916a7e5f0f2ac22b6a2232f0d010", func := "livery/liverylaw10.LeafHalves", spec := "leafHalves", inPlace := ["slices.overlaps[string]", "slices.overlaps[*livery/leaf.one]"], unfollowed := true, recurses := true, apart := false }
def LeafHalvesSaid : Prop := leafHalvesRow.holds Try.pinned (OpenSpec.ofChange leafHalvesSpec)

/-- ITS FALSE NEIGHBOUR: 'it returns false'. Refute it at one input. -/
def leafHalvesWrong : ChangeSpec := { name := "leafHalves", fn := fun _ => fun
  | [d1, d2] => { results := [.lit (.bool false)], args := [d1, d2] }
  | _ => none }
def LeafHalvesWrongFalsely : Prop := leafHalvesRow.holds Try.pinned (OpenSpec.ofChange leafHalvesWrong)

/-- 'liverylaw10.LeafCovers': WHATEVER THE INPUT: true; the input reads as it did. -/
def leafCoversSpec : ChangeSpec := { name := "leafCovers", fn := fun _ => fun
  | [d1, d2, d3] => { results := [.lit (.bool true)], args := [d1, d2, d3] }
  | _ => none }
def leafCoversRow : OpenClaim := { program := "ytempffmkbpglfaa", sum := "704507d08892a8db6e6c1a4858af990c73cd916a7e5f0f2ac22b6a2232f0d010", func := "livery/liverylaw10.LeafCovers", spec := "leafCovers", inPlace := ["slices.overlaps[string]", "slices.overlaps[*livery/leaf.one]"], unfollowed := true, recurses := true, apart := false }
def LeafCoversSaid : Prop := leafCoversRow.holds Try.pinned (OpenSpec.ofChange leafCoversSpec)

/-- ITS FALSE NEIGHBOUR: 'it returns false'. Refute it at one input. -/
def leafCoversWrong : ChangeSpec := { name := "leafCovers", fn := fun _ => fun
  | [d1, d2, d3] => { results := [.lit (.bool false)], args := [d1, d2, d3] }
  | _ => none }
def LeafCoversWrongFalsely : Prop := leafCoversRow.holds Try.pinned (OpenSpec.ofChange leafCoversWrong)

/-- 'liverylaw10.LeafPlays': WHATEVER THE INPUT: true; the input reads as it did. -/
def leafPlaysSpec : ChangeSpec := { name := "leafPlays", fn := fun _ => fun
  | [d1, d2] => { results := [.lit (.bool true)], args := [d1, d2] }
  | _ => none }
def leafPlaysRow : OpenClaim := { program := "ytempffmkbpglfaa", sum := "704507d08892a8db6e6c1a4858af990c73cd916a7e5f0f2ac22b6a2232f0d010", func := "livery/liverylaw10.LeafPlays", spec := "leafPlays", inPlace := ["slices.overlaps[string]", "slices.overlaps[*livery/leaf.one]"], unfollowed := true, recurses := true, apart := false }
def LeafPlaysSaid : Prop := leafPlaysRow.holds Try.pinned (OpenSpec.ofChange leafPlaysSpec)

/-- ITS FALSE NEIGHBOUR: 'it returns false'. Refute it at one input. -/
def leafPlaysWrong : ChangeSpec := { name := "leafPlays", fn := fun _ => fun
  | [d1, d2] => { results := [.lit (.bool false)], args := [d1, d2] }
  | _ => none }
def LeafPlaysWrongFalsely : Prop := leafPlaysRow.holds Try.pinned (OpenSpec.ofChange leafPlaysWrong)

/-- 'liverylaw10.LeafOrder': WHATEVER THE INPUT: true; the input reads as it did. -/
def leafOrderSpec : ChangeSpec := { name := "leafOrder", fn := fun _ => fun
  | [d1, d2] => { results := [.lit (.bool true)], args := [d1, d2] }
  | _ => none }
def leafOrderRow : OpenClaim := { program := "ytempffmkbpglfaa", sum := "704507d08892a8db6e6c1a4858af990c73cd916a7e5f0f2ac22b6a2232f0d010", func := "livery/liverylaw10.LeafOrder", spec := "leafOrder", inPlace := ["slices.overlaps[string]", "slices.overlaps[*livery/leaf.one]"], unfollowed := true, recurses := true, apart := false }
def LeafOrderSaid : Prop := leafOrderRow.holds Try.pinned (OpenSpec.ofChange leafOrderSpec)

/-- ITS FALSE NEIGHBOUR: 'it returns false'. Refute it at one input. -/
def leafOrderWrong : ChangeSpec := { name := "leafOrder", fn := fun _ => fun
  | [d1, d2] => { results := [.lit (.bool false)], args := [d1, d2] }
  | _ => none }
def LeafOrderWrongFalsely : Prop := leafOrderRow.holds Try.pinned (OpenSpec.ofChange leafOrderWrong)

/-- 'liverylaw10.LeafNone': WHATEVER THE INPUT: true; the input reads as it did. -/
def leafNoneSpec : ChangeSpec := { name := "leafNone", fn := fun _ => fun
  | [d] => { results := [.lit (.bool true)], args := [d] }
  | _ => none }
def leafNoneRow : OpenClaim := { program := "ytempffmkbpglfaa", sum := "704507d08892a8db6e6c1a4858af990c73cd916a7e5f0f2ac22b6a2232f0d010", func := "livery/liverylaw10.LeafNone", spec := "leafNone", inPlace := ["slices.overlaps[string]", "slices.overlaps[*livery/leaf.one]"], unfollowed := true, recurses := true, apart := false }
def LeafNoneSaid : Prop := leafNoneRow.holds Try.pinned (OpenSpec.ofChange leafNoneSpec)

/-- ITS FALSE NEIGHBOUR: 'it returns false'. Refute it at one input. -/
def leafNoneWrong : ChangeSpec := { name := "leafNone", fn := fun _ => fun
  | [d] => { results := [.lit (.bool false)], args := [d] }
  | _ => none }
def LeafNoneWrongFalsely : Prop := leafNoneRow.holds Try.pinned (OpenSpec.ofChange leafNoneWrong)

/- THE SECOND FORM. 'bulk': how many values and letters a reading holds, each counted each time it is reached (what is shared counts as often as it is met; a slice's spare places count too). A statement '..UptoSaid' is the law's where the arguments, and the package variables that the reading takes, are together of bulk at most 1048576: NARROWER than '..Said'. Prove '..Said' where nothing that the law and all that it calls make is longer than what came in: it says more and counts as full. Else prove '..UptoSaid'. A law counts once. -/
mutual
def uptoBulk {H : Type} : DataW H → Nat
  | .lit (.string bytes) => bytes.length + 1
  | .lit _ => 1
  | .nil => 1
  | .ptr d => uptoBulk d + 1
  | .slice elems spare => uptoBulkAll elems + uptoBulkAll spare + 1
  | .agg parts => uptoBulkAll parts + 1
  | .iface _ d => uptoBulk d + 1
  | .map entries => uptoBulkEntries entries + 1
  | .held _ => 1
def uptoBulkAll {H : Type} : List (DataW H) → Nat
  | [] => 0
  | d :: r => uptoBulk d + uptoBulkAll r
def uptoBulkEntries {H : Type} : List (Lit × DataW H) → Nat
  | [] => 0
  | x :: r => uptoBulkEntry x + uptoBulkEntries r
def uptoBulkEntry {H : Type} : Lit × DataW H → Nat
  | (.string bytes, d) => bytes.length + uptoBulk d + 1
  | (_, d) => uptoBulk d + 1
 end
def uptoSmall : (H : Type) → List (DataW H) → Bool := fun _ ds => decide (uptoBulkAll ds ≤ 1048576)
def OpenSpec.upto (s : _root_.Go.ChangeSpec) : _root_.Go.OpenSpec := { _root_.Go.OpenSpec.ofChange s with cond := some uptoSmall }

/-- 'liverylaw10.LeafHalves', WHERE WHAT IT READS IS OF BULK AT MOST 1048576: true; the input reads as it did. -/
def leafHalvesUptoRow : OpenClaim := { program := "ytempffmkbpglfaa", sum := "704507d08892a8db6e6c1a4858af990c73cd916a7e5f0f2ac22b6a2232f0d010", func := "livery/liverylaw10.LeafHalves", spec := "leafHalves", inPlace := ["slices.overlaps[string]", "slices.overlaps[*livery/leaf.one]"], unfollowed := true, recurses := true, apart := false, narrowed := true }
def LeafHalvesUptoSaid : Prop := leafHalvesUptoRow.holds Try.pinned (OpenSpec.upto leafHalvesSpec)

/-- 'liverylaw10.LeafCovers', WHERE WHAT IT READS IS OF BULK AT MOST 1048576: true; the input reads as it did. -/
def leafCoversUptoRow : OpenClaim := { program := "ytempffmkbpglfaa", sum := "704507d08892a8db6e6c1a4858af990c73cd916a7e5f0f2ac22b6a2232f0d010", func := "livery/liverylaw10.LeafCovers", spec := "leafCovers", inPlace := ["slices.overlaps[string]", "slices.overlaps[*livery/leaf.one]"], unfollowed := true, recurses := true, apart := false, narrowed := true }
def LeafCoversUptoSaid : Prop := leafCoversUptoRow.holds Try.pinned (OpenSpec.upto leafCoversSpec)

/-- 'liverylaw10.LeafPlays', WHERE WHAT IT READS IS OF BULK AT MOST 1048576: true; the input reads as it did. -/
def leafPlaysUptoRow : OpenClaim := { program := "ytempffmkbpglfaa", sum := "704507d08892a8db6e6c1a4858af990c73cd916a7e5f0f2ac22b6a2232f0d010", func := "livery/liverylaw10.LeafPlays", spec := "leafPlays", inPlace := ["slices.overlaps[string]", "slices.overlaps[*livery/leaf.one]"], unfollowed := true, recurses := true, apart := false, narrowed := true }
def LeafPlaysUptoSaid : Prop := leafPlaysUptoRow.holds Try.pinned (OpenSpec.upto leafPlaysSpec)

/-- 'liverylaw10.LeafOrder', WHERE WHAT IT READS IS OF BULK AT MOST 1048576: true; the input reads as it did. -/
def leafOrderUptoRow : OpenClaim := { program := "ytempffmkbpglfaa", sum := "704507d08892a8db6e6c1a4858af990c73cd916a7e5f0f2ac22b6a2232f0d010", func := "livery/liverylaw10.LeafOrder", spec := "leafOrder", inPlace := ["slices.overlaps[string]", "slices.overlaps[*livery/leaf.one]"], unfollowed := true, recurses := true, apart := false, narrowed := true }
def LeafOrderUptoSaid : Prop := leafOrderUptoRow.holds Try.pinned (OpenSpec.upto leafOrderSpec)

/-- 'liverylaw10.LeafNone', WHERE WHAT IT READS IS OF BULK AT MOST 1048576: true; the input reads as it did. -/
def leafNoneUptoRow : OpenClaim := { program := "ytempffmkbpglfaa", sum := "704507d08892a8db6e6c1a4858af990c73cd916a7e5f0f2ac22b6a2232f0d010", func := "livery/liverylaw10.LeafNone", spec := "leafNone", inPlace := ["slices.overlaps[string]", "slices.overlaps[*livery/leaf.one]"], unfollowed := true, recurses := true, apart := false, narrowed := true }
def LeafNoneUptoSaid : Prop := leafNoneUptoRow.holds Try.pinned (OpenSpec.upto leafNoneSpec)

end Rows
end Go.Proofs.Ytempffmkbpglfaa

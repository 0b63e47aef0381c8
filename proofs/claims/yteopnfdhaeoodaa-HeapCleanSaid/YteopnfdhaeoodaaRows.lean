/-
  No cell of these rows narrows 'for every input' (looked for: loops, veiled, ifaces, maps, wideKeys, modest, calm, conditions, laid).
  DERIVED. THE GIVEN ROWS OF THIS SEAT. 5 by the template 'for every input the law returns true; each argument reads behind the call as it read before'; 0 by the template 'total and deterministic' (their statements: YteopnfdhaeoodaaTotals.lean).
  GIVEN WITH THE SEED: the statements are not yours to turn. If you find one false, say at which input.
  Laid BY PROGRAM, IN A SANDBOX (cutbox-rows.mjs): the forced cells as the released guide's own fill.sh prints them over the translation 131a8d6ce26acfbd… (all of the seat's roots in one cut). By AI agents, Wed Nov 11 2026. No macro, syntax, notation, axiom, sorry.
-/
import Derived.Test.YteopnfdhaeoodaaChecked
import GoSem.Claim
import GoSem.ClaimJoined
import GoSem.ClaimMapViews
import Derived.JoinedTies
import Derived.KernelRfl
namespace Go.Proofs.Yteopnfdhaeoodaa
/- THE CELL 'sum', in the pinned program and in every row, IS THE sha256 OF THE DUMP (.gsa) THAT YteopnfdhaeoodaaProg.lean LOADS. Nothing in Lean hashes anything: it is a label: what it is worth is what the hold of that sum in a sandbox is worth. -/
noncomputable def Try.pinned : Pinned := { name := "yteopnfdhaeoodaa", sum := "131a8d6ce26acfbd6cbf0df67c7537d67de7e99dfe1a4b03801bd65a791642dd", checked := Try.checked }
namespace Rows
def none {H : Type} : Left H := { results := [], args := [] }

/-- 'liverylaw09.HeapFirst': WHATEVER THE INPUT: true; the input reads as it did. -/
def heapFirstSpec : ChangeSpec := { name := "heapFirst", fn := fun _ => fun
  | [d1, d2] => { results := [.lit (.bool true)], args := [d1, d2] }
  | _ => none }
def heapFirstRow : OpenClaim := { program := "yteopnfdhaeoodaa", sum := "131a8d6ce26acfbd6cbf0df67c7537d67de7e99dfe1a4b03801bd65a791642dd", func := "livery/liverylaw09.HeapFirst", spec := "heapFirst", apart := false }
def HeapFirstSaid : Prop := heapFirstRow.holds Try.pinned (OpenSpec.ofChange heapFirstSpec)

/-- ITS FALSE NEIGHBOUR: 'it returns false'. Refute it at one input. -/
def heapFirstWrong : ChangeSpec := { name := "heapFirst", fn := fun _ => fun
  | [d1, d2] => { results := [.lit (.bool false)], args := [d1, d2] }
  | _ => none }
def HeapFirstWrongFalsely : Prop := heapFirstRow.holds Try.pinned (OpenSpec.ofChange heapFirstWrong)

/-- 'liverylaw09.HeapAborts': WHATEVER THE INPUT: true; the input reads as it did. -/
def heapAbortsSpec : ChangeSpec := { name := "heapAborts", fn := fun _ => fun
  | [d1, d2] => { results := [.lit (.bool true)], args := [d1, d2] }
  | _ => none }
def heapAbortsRow : OpenClaim := { program := "yteopnfdhaeoodaa", sum := "131a8d6ce26acfbd6cbf0df67c7537d67de7e99dfe1a4b03801bd65a791642dd", func := "livery/liverylaw09.HeapAborts", spec := "heapAborts", unfollowed := true, recurses := true, apart := false }
def HeapAbortsSaid : Prop := heapAbortsRow.holds Try.pinned (OpenSpec.ofChange heapAbortsSpec)

/-- ITS FALSE NEIGHBOUR: 'it returns false'. Refute it at one input. -/
def heapAbortsWrong : ChangeSpec := { name := "heapAborts", fn := fun _ => fun
  | [d1, d2] => { results := [.lit (.bool false)], args := [d1, d2] }
  | _ => none }
def HeapAbortsWrongFalsely : Prop := heapAbortsRow.holds Try.pinned (OpenSpec.ofChange heapAbortsWrong)

/-- 'liverylaw09.HeapMost': WHATEVER THE INPUT: true; the input reads as it did. -/
def heapMostSpec : ChangeSpec := { name := "heapMost", fn := fun _ => fun
  | [d] => { results := [.lit (.bool true)], args := [d] }
  | _ => none }
def heapMostRow : OpenClaim := { program := "yteopnfdhaeoodaa", sum := "131a8d6ce26acfbd6cbf0df67c7537d67de7e99dfe1a4b03801bd65a791642dd", func := "livery/liverylaw09.HeapMost", spec := "heapMost", unfollowed := true, recurses := true, apart := false }
def HeapMostSaid : Prop := heapMostRow.holds Try.pinned (OpenSpec.ofChange heapMostSpec)

/-- ITS FALSE NEIGHBOUR: 'it returns false'. Refute it at one input. -/
def heapMostWrong : ChangeSpec := { name := "heapMost", fn := fun _ => fun
  | [d] => { results := [.lit (.bool false)], args := [d] }
  | _ => none }
def HeapMostWrongFalsely : Prop := heapMostRow.holds Try.pinned (OpenSpec.ofChange heapMostWrong)

/-- 'liverylaw09.HeapNone': WHATEVER THE INPUT: true; the input reads as it did. -/
def heapNoneSpec : ChangeSpec := { name := "heapNone", fn := fun _ => fun
  | [d1, d2] => { results := [.lit (.bool true)], args := [d1, d2] }
  | _ => none }
def heapNoneRow : OpenClaim := { program := "yteopnfdhaeoodaa", sum := "131a8d6ce26acfbd6cbf0df67c7537d67de7e99dfe1a4b03801bd65a791642dd", func := "livery/liverylaw09.HeapNone", spec := "heapNone", unfollowed := true, recurses := true, apart := false }
def HeapNoneSaid : Prop := heapNoneRow.holds Try.pinned (OpenSpec.ofChange heapNoneSpec)

/-- ITS FALSE NEIGHBOUR: 'it returns false'. Refute it at one input. -/
def heapNoneWrong : ChangeSpec := { name := "heapNone", fn := fun _ => fun
  | [d1, d2] => { results := [.lit (.bool false)], args := [d1, d2] }
  | _ => none }
def HeapNoneWrongFalsely : Prop := heapNoneRow.holds Try.pinned (OpenSpec.ofChange heapNoneWrong)

/-- 'liverylaw09.HeapClean': WHATEVER THE INPUT: true; the input reads as it did. -/
def heapCleanSpec : ChangeSpec := { name := "heapClean", fn := fun _ => fun
  | [d1, d2] => { results := [.lit (.bool true)], args := [d1, d2] }
  | _ => none }
def heapCleanRow : OpenClaim := { program := "yteopnfdhaeoodaa", sum := "131a8d6ce26acfbd6cbf0df67c7537d67de7e99dfe1a4b03801bd65a791642dd", func := "livery/liverylaw09.HeapClean", spec := "heapClean", inPlace := ["math.Float64bits"], unfollowed := true, recurses := true, apart := false }
def HeapCleanSaid : Prop := heapCleanRow.holds Try.pinned (OpenSpec.ofChange heapCleanSpec)

/-- ITS FALSE NEIGHBOUR: 'it returns false'. Refute it at one input. -/
def heapCleanWrong : ChangeSpec := { name := "heapClean", fn := fun _ => fun
  | [d1, d2] => { results := [.lit (.bool false)], args := [d1, d2] }
  | _ => none }
def HeapCleanWrongFalsely : Prop := heapCleanRow.holds Try.pinned (OpenSpec.ofChange heapCleanWrong)

/- THE SECOND FORM. 'bulk': how many values and letters a reading holds, each counted each time it is reached (what is shared counts as often as it is met; a slice's spare places count too). A statement '..UptoSaid' is the law's where the arguments, and the package variables that the reading takes, are together of bulk at most 1048576: NARROWER than '..Said'. Prove '..Said' where nothing that the law and all that it calls make is longer than what came in: it says more and counts as full. Else prove '..UptoSaid'. A law counts once. -/
mutual
def uptoBulk {H : Type} : DataW H → Nat
  | .lit (.string bytes) => bytes.length + 1
  | .lit _ => 1
  | .nil => 1
  | .ptr d => uptoBulk d + 1
  | .slice elems spare => uptoBulkAll elems + uptoBulkAll spare + 1
  | .agg parts => uptoBulkAll parts + 1
  | .iface _ d => uptoBulk d + 1
  | .map entries => uptoBulkEntries entries + 1
  | .held _ => 1
def uptoBulkAll {H : Type} : List (DataW H) → Nat
  | [] => 0
  | d :: r => uptoBulk d + uptoBulkAll r
def uptoBulkEntries {H : Type} : List (Lit × DataW H) → Nat
  | [] => 0
  | x :: r => uptoBulkEntry x + uptoBulkEntries r
def uptoBulkEntry {H : Type} : Lit × DataW H → Nat
  | (.string bytes, d) => bytes.length + uptoBulk d + 1
  | (_, d) => uptoBulk d + 1
 end
def uptoSmall : (H : Type) → List (DataW H) → Bool := fun _ ds => decide (uptoBulkAll ds ≤ 1048576)
def OpenSpec.upto (s : _root_.Go.ChangeSpec) : _root_.Go.OpenSpec := { _root_.Go.OpenSpec.ofChange s with cond := some uptoSmall }

/-- 'liverylaw09.HeapFirst', WHERE WHAT IT READS IS OF BULK AT MOST 1048576: true; the input reads as it did. -/
def heapFirstUptoRow : OpenClaim := { program := "yteopnfdhaeoodaa", sum := "131a8d6ce26acfbd6cbf0df67c7537d67de7e99dfe1a4b03801bd65a791642dd", func := "livery/liverylaw09.HeapFirst", spec := "heapFirst", apart := false, narrowed := true }
def HeapFirstUptoSaid : Prop := heapFirstUptoRow.holds Try.pinned (OpenSpec.upto heapFirstSpec)

/-- 'liverylaw09.HeapAborts', WHERE WHAT IT READS IS OF BULK AT MOST 1048576: true; the input reads as it did. -/
def heapAbortsUptoRow : OpenClaim := { program := "yteopnfdhaeoodaa", sum := "131a8d6ce26acfbd6cbf0df67c7537d67de7e99dfe1a4b03801bd65a791642dd", func := "livery/liverylaw09.HeapAborts", spec := "heapAborts", unfollowed := true, recurses := true, apart := false, narrowed := true }
def HeapAbortsUptoSaid : Prop := heapAbortsUptoRow.holds Try.pinned (OpenSpec.upto heapAbortsSpec)

/-- 'liverylaw09.HeapMost', WHERE WHAT IT READS IS OF BULK AT MOST 1048576: true; the input reads as it did. -/
def heapMostUptoRow : OpenClaim := { program := "yteopnfdhaeoodaa", sum := "131a8d6ce26acfbd6cbf0df67c7537d67de7e99dfe1a4b03801bd65a791642dd", func := "livery/liverylaw09.HeapMost", spec := "heapMost", unfollowed := true, recurses := true, apart := false, narrowed := true }
def HeapMostUptoSaid : Prop := heapMostUptoRow.holds Try.pinned (OpenSpec.upto heapMostSpec)

/-- 'liverylaw09.HeapNone', WHERE WHAT IT READS IS OF BULK AT MOST 1048576: true; the input reads as it did. -/
def heapNoneUptoRow : OpenClaim := { program := "yteopnfdhaeoodaa", sum := "131a8d6ce26acfbd6cbf0df67c7537d67de7e99dfe1a4b03801bd65a791642dd", func := "livery/liverylaw09.HeapNone", spec := "heapNone", unfollowed := true, recurses := true, apart := false, narrowed := true }
def HeapNoneUptoSaid : Prop := heapNoneUptoRow.holds Try.pinned (OpenSpec.upto heapNoneSpec)

/-- 'liverylaw09.HeapClean', WHERE WHAT IT READS IS OF BULK AT MOST 1048576: true; the input reads as it did. -/
def heapCleanUptoRow : OpenClaim := { program := "yteopnfdhaeoodaa", sum := "131a8d6ce26acfbd6cbf0df67c7537d67de7e99dfe1a4b03801bd65a791642dd", func := "livery/liverylaw09.HeapClean", spec := "heapClean", inPlace := ["math.Float64bits"], unfollowed := true, recurses := true, apart := false, narrowed := true }
def HeapCleanUptoSaid : Prop := heapCleanUptoRow.holds Try.pinned (OpenSpec.upto heapCleanSpec)

end Rows
end Go.Proofs.Yteopnfdhaeoodaa

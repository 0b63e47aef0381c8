/-
  No cell of these rows narrows 'for every input' (looked for: loops, veiled, ifaces, maps, wideKeys, modest, calm, conditions, laid).
  DERIVED. THE GIVEN ROWS OF THIS SEAT. 5 by the template 'for every input the law returns true; each argument reads behind the call as it read before'; 0 by the template 'total and deterministic' (their statements: YtogondadohdcoaaTotals.lean).
  GIVEN WITH THE SEED: the statements are not yours to turn. If you find one false, say at which input.
  Laid BY PROGRAM, IN A SANDBOX (cutbox-rows.mjs): the forced cells as the released guide's own fill.sh prints them over the translation bcb982c4e22d7c5a… (all of the seat's roots in one cut). By AI agents, Wed Nov 11 2026. No macro, syntax, notation, axiom, sorry.
-/
import Derived.Test.YtogondadohdcoaaChecked
import GoSem.Claim
import GoSem.ClaimJoined
import GoSem.ClaimMapViews
import Derived.JoinedTies
import Derived.KernelRfl
namespace Go.Proofs.Ytogondadohdcoaa
/- THE CELL 'sum', in the pinned program and in every row, IS THE sha256 OF THE DUMP (.gsa) THAT YtogondadohdcoaaProg.lean LOADS. Nothing in Lean hashes anything: it is a label: what it is worth is what the hold of that sum in a sandbox is worth. -/
noncomputable def Try.pinned : Pinned := { name := "ytogondadohdcoaa", sum := "bcb982c4e22d7c5a144db25d9169b607391221aa621269c201543bd8e2159f70", checked := Try.checked }
namespace Rows
def none {H : Type} : Left H := { results := [], args := [] }

/-- 'liverylaw12.NameNone': WHATEVER THE INPUT: true; the input reads as it did. -/
def nameNoneSpec : ChangeSpec := { name := "nameNone", fn := fun _ => fun
  | [d1, d2] => { results := [.lit (.bool true)], args := [d1, d2] }
  | _ => none }
def nameNoneRow : OpenClaim := { program := "ytogondadohdcoaa", sum := "bcb982c4e22d7c5a144db25d9169b607391221aa621269c201543bd8e2159f70", func := "livery/liverylaw12.NameNone", spec := "nameNone", inPlace := ["math.Float64bits", "math.Float64frombits"], unfollowed := true, recurses := true, apart := false }
def NameNoneSaid : Prop := nameNoneRow.holds Try.pinned (OpenSpec.ofChange nameNoneSpec)

/-- ITS FALSE NEIGHBOUR: 'it returns false'. Refute it at one input. -/
def nameNoneWrong : ChangeSpec := { name := "nameNone", fn := fun _ => fun
  | [d1, d2] => { results := [.lit (.bool false)], args := [d1, d2] }
  | _ => none }
def NameNoneWrongFalsely : Prop := nameNoneRow.holds Try.pinned (OpenSpec.ofChange nameNoneWrong)

/-- 'liverylaw12.NameMost': WHATEVER THE INPUT: true; the input reads as it did. -/
def nameMostSpec : ChangeSpec := { name := "nameMost", fn := fun _ => fun
  | [d] => { results := [.lit (.bool true)], args := [d] }
  | _ => none }
def nameMostRow : OpenClaim := { program := "ytogondadohdcoaa", sum := "bcb982c4e22d7c5a144db25d9169b607391221aa621269c201543bd8e2159f70", func := "livery/liverylaw12.NameMost", spec := "nameMost", inPlace := ["math.Float64bits", "math.Float64frombits"], unfollowed := true, recurses := true, apart := false }
def NameMostSaid : Prop := nameMostRow.holds Try.pinned (OpenSpec.ofChange nameMostSpec)

/-- ITS FALSE NEIGHBOUR: 'it returns false'. Refute it at one input. -/
def nameMostWrong : ChangeSpec := { name := "nameMost", fn := fun _ => fun
  | [d] => { results := [.lit (.bool false)], args := [d] }
  | _ => none }
def NameMostWrongFalsely : Prop := nameMostRow.holds Try.pinned (OpenSpec.ofChange nameMostWrong)

/-- 'liverylaw12.NameOne': WHATEVER THE INPUT: true; the input reads as it did. -/
def nameOneSpec : ChangeSpec := { name := "nameOne", fn := fun _ => fun
  | [d] => { results := [.lit (.bool true)], args := [d] }
  | _ => none }
def nameOneRow : OpenClaim := { program := "ytogondadohdcoaa", sum := "bcb982c4e22d7c5a144db25d9169b607391221aa621269c201543bd8e2159f70", func := "livery/liverylaw12.NameOne", spec := "nameOne", inPlace := ["math.Float64bits", "math.Float64frombits"], unfollowed := true, recurses := true, apart := false }
def NameOneSaid : Prop := nameOneRow.holds Try.pinned (OpenSpec.ofChange nameOneSpec)

/-- ITS FALSE NEIGHBOUR: 'it returns false'. Refute it at one input. -/
def nameOneWrong : ChangeSpec := { name := "nameOne", fn := fun _ => fun
  | [d] => { results := [.lit (.bool false)], args := [d] }
  | _ => none }
def NameOneWrongFalsely : Prop := nameOneRow.holds Try.pinned (OpenSpec.ofChange nameOneWrong)

/-- 'liverylaw12.NameStays': WHATEVER THE INPUT: true; the input reads as it did. -/
def nameStaysSpec : ChangeSpec := { name := "nameStays", fn := fun _ => fun
  | [d1, d2] => { results := [.lit (.bool true)], args := [d1, d2] }
  | _ => none }
def nameStaysRow : OpenClaim := { program := "ytogondadohdcoaa", sum := "bcb982c4e22d7c5a144db25d9169b607391221aa621269c201543bd8e2159f70", func := "livery/liverylaw12.NameStays", spec := "nameStays", inPlace := ["math.Float64bits", "math.Float64frombits"], unfollowed := true, recurses := true, apart := false }
def NameStaysSaid : Prop := nameStaysRow.holds Try.pinned (OpenSpec.ofChange nameStaysSpec)

/-- ITS FALSE NEIGHBOUR: 'it returns false'. Refute it at one input. -/
def nameStaysWrong : ChangeSpec := { name := "nameStays", fn := fun _ => fun
  | [d1, d2] => { results := [.lit (.bool false)], args := [d1, d2] }
  | _ => none }
def NameStaysWrongFalsely : Prop := nameStaysRow.holds Try.pinned (OpenSpec.ofChange nameStaysWrong)

/-- 'liverylaw12.NameAborts': WHATEVER THE INPUT: true; the input reads as it did. -/
def nameAbortsSpec : ChangeSpec := { name := "nameAborts", fn := fun _ => fun
  | [d] => { results := [.lit (.bool true)], args := [d] }
  | _ => none }
def nameAbortsRow : OpenClaim := { program := "ytogondadohdcoaa", sum := "bcb982c4e22d7c5a144db25d9169b607391221aa621269c201543bd8e2159f70", func := "livery/liverylaw12.NameAborts", spec := "nameAborts", inPlace := ["math.Float64bits", "math.Float64frombits"], unfollowed := true, recurses := true, apart := false }
def NameAbortsSaid : Prop := nameAbortsRow.holds Try.pinned (OpenSpec.ofChange nameAbortsSpec)

/-- ITS FALSE NEIGHBOUR: 'it returns false'. Refute it at one input. -/
def nameAbortsWrong : ChangeSpec := { name := "nameAborts", fn := fun _ => fun
  | [d] => { results := [.lit (.bool false)], args := [d] }
  | _ => none }
def NameAbortsWrongFalsely : Prop := nameAbortsRow.holds Try.pinned (OpenSpec.ofChange nameAbortsWrong)

/- THE SECOND FORM. 'bulk': how many values and letters a reading holds, each counted each time it is reached (what is shared counts as often as it is met; a slice's spare places count too). A statement '..UptoSaid' is the law's where the arguments, and the package variables that the reading takes, are together of bulk at most 1048576: NARROWER than '..Said'. Prove '..Said' where nothing that the law and all that it calls make is longer than what came in: it says more and counts as full. Else prove '..UptoSaid'. A law counts once. -/
mutual
def uptoBulk {H : Type} : DataW H → Nat
  | .lit (.string bytes) => bytes.length + 1
  | .lit _ => 1
  | .nil => 1
  | .ptr d => uptoBulk d + 1
  | .slice elems spare => uptoBulkAll elems + uptoBulkAll spare + 1
  | .agg parts => uptoBulkAll parts + 1
  | .iface _ d => uptoBulk d + 1
  | .map entries => uptoBulkEntries entries + 1
  | .held _ => 1
def uptoBulkAll {H : Type} : List (DataW H) → Nat
  | [] => 0
  | d :: r => uptoBulk d + uptoBulkAll r
def uptoBulkEntries {H : Type} : List (Lit × DataW H) → Nat
  | [] => 0
  | x :: r => uptoBulkEntry x + uptoBulkEntries r
def uptoBulkEntry {H : Type} : Lit × DataW H → Nat
  | (.string bytes, d) => bytes.length + uptoBulk d + 1
  | (_, d) => uptoBulk d + 1
 end
def uptoSmall : (H : Type) → List (DataW H) → Bool := fun _ ds => decide (uptoBulkAll ds ≤ 1048576)
def OpenSpec.upto (s : _root_.Go.ChangeSpec) : _root_.Go.OpenSpec := { _root_.Go.OpenSpec.ofChange s with cond := some uptoSmall }

/-- 'liverylaw12.NameNone', WHERE WHAT IT READS IS OF BULK AT MOST 1048576: true; the input reads as it did. -/
def nameNoneUptoRow : OpenClaim := { program := "ytogondadohdcoaa", sum := "bcb982c4e22d7c5a144db25d9169b607391221aa621269c201543bd8e2159f70", func := "livery/liverylaw12.NameNone", spec := "nameNone", inPlace := ["math.Float64bits", "math.Float64frombits"], unfollowed := true, recurses := true, apart := false, narrowed := true }
def NameNoneUptoSaid : Prop := nameNoneUptoRow.holds Try.pinned (OpenSpec.upto nameNoneSpec)

/-- 'liverylaw12.NameMost', WHERE WHAT IT READS IS OF BULK AT MOST 1048576: true; the input reads as it did. -/
def nameMostUptoRow : OpenClaim := { program := "ytogondadohdcoaa", sum := "bcb982c4e22d7c5a144db25d9169b607391221aa621269c201543bd8e2159f70", func := "livery/liverylaw12.NameMost", spec := "nameMost", inPlace := ["math.Float64bits", "math.Float64frombits"], unfollowed := true, recurses := true, apart := false, narrowed := true }
def NameMostUptoSaid : Prop := nameMostUptoRow.holds Try.pinned (OpenSpec.upto nameMostSpec)

/-- 'liverylaw12.NameOne', WHERE WHAT IT READS IS OF BULK AT MOST 1048576: true; the input reads as it did. -/
def nameOneUptoRow : OpenClaim := { program := "ytogondadohdcoaa", sum := "bcb982c4e22d7c5a144db25d9169b607391221aa621269c201543bd8e2159f70", func := "livery/liverylaw12.NameOne", spec := "nameOne", inPlace := ["math.Float64bits", "math.Float64frombits"], unfollowed := true, recurses := true, apart := false, narrowed := true }
def NameOneUptoSaid : Prop := nameOneUptoRow.holds Try.pinned (OpenSpec.upto nameOneSpec)

/-- 'liverylaw12.NameStays', WHERE WHAT IT READS IS OF BULK AT MOST 1048576: true; the input reads as it did. -/
def nameStaysUptoRow : OpenClaim := { program := "ytogondadohdcoaa", sum := "bcb982c4e22d7c5a144db25d9169b607391221aa621269c201543bd8e2159f70", func := "livery/liverylaw12.NameStays", spec := "nameStays", inPlace := ["math.Float64bits", "math.Float64frombits"], unfollowed := true, recurses := true, apart := false, narrowed := true }
def NameStaysUptoSaid : Prop := nameStaysUptoRow.holds Try.pinned (OpenSpec.upto nameStaysSpec)

/-- 'liverylaw12.NameAborts', WHERE WHAT IT READS IS OF BULK AT MOST 1048576: true; the input reads as it did. -/
def nameAbortsUptoRow : OpenClaim := { program := "ytogondadohdcoaa", sum := "bcb982c4e22d7c5a144db25d9169b607391221aa621269c201543bd8e2159f70", func := "livery/liverylaw12.NameAborts", spec := "nameAborts", inPlace := ["math.Float64bits", "math.Float64frombits"], unfollowed := true, recurses := true, apart := false, narrowed := true }
def NameAbortsUptoSaid : Prop := nameAbortsUptoRow.holds Try.pinned (OpenSpec.upto nameAbortsSpec)

end Rows
end Go.Proofs.Ytogondadohdcoaa

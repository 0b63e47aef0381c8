/-
  No cell of these rows narrows 'for every input' (looked for: loops, veiled, ifaces, maps, wideKeys, modest, calm, conditions, laid).
  DERIVED. THE GIVEN ROWS OF THIS SEAT. 7 by the template 'for every input the law returns true; each argument reads behind the call as it read before'; 0 by the template 'total and deterministic' (their statements: YtdgkfjbmlfmimaaGreatTotals.lean).
  GIVEN WITH THE SEED: the statements are not yours to turn. If you find one false, say at which input.
  Laid BY PROGRAM, IN A SANDBOX (cutbox-rows.mjs): the forced cells as the released guide's own fill.sh prints them over the translation 29ce58605e308a8e… (all of the seat's roots in one cut). By AI agents, Wed Nov 11 2026. No macro, syntax, notation, axiom, sorry.
-/
import Derived.Test.YtdgkfjbmlfmimaaGreatChecked
import GoSem.Claim
import GoSem.ClaimJoined
import GoSem.ClaimMapViews
import Derived.JoinedTies
import Derived.KernelRfl
namespace Go.Proofs.YtdgkfjbmlfmimaaGreat
/- THE CELL 'sum', in the pinned program and in every row, IS THE sha256 OF THE DUMP (.gsa) THAT YtdgkfjbmlfmimaaGreatProg.lean LOADS. Nothing in Lean hashes anything: it is a label: what it is worth is what the hold of that sum in a sandbox is worth. -/
noncomputable def Tryz.pinned : Pinned := { name := "ytdgkfjbmlfmimaagreat", sum := "29ce58605e308a8e7bdeea34f8397e01bbe0456f80f626e673f1bf0b0f416015", checked := Tryz.checked }
namespace Rows
def none {H : Type} : Left H := { results := [], args := [] }

/-- 'liverylaw15.SsiSkew': WHATEVER THE INPUT: true; the input reads as it did. -/
def ssiSkewSpec : ChangeSpec := { name := "ssiSkew", fn := fun _ => fun
  | [d1, d2, d3] => { results := [.lit (.bool true)], args := [d1, d2, d3] }
  | _ => none }
def ssiSkewRow : OpenClaim := { program := "ytdgkfjbmlfmimaagreat", sum := "29ce58605e308a8e7bdeea34f8397e01bbe0456f80f626e673f1bf0b0f416015", func := "livery/liverylaw15.SsiSkew", spec := "ssiSkew", unfollowed := true, recurses := true, plainKeys := false, apart := false }
def SsiSkewSaid : Prop := ssiSkewRow.holds Tryz.pinned (OpenSpec.ofChange ssiSkewSpec)

/-- ITS FALSE NEIGHBOUR: 'it returns false'. Refute it at one input. -/
def ssiSkewWrong : ChangeSpec := { name := "ssiSkew", fn := fun _ => fun
  | [d1, d2, d3] => { results := [.lit (.bool false)], args := [d1, d2, d3] }
  | _ => none }
def SsiSkewWrongFalsely : Prop := ssiSkewRow.holds Tryz.pinned (OpenSpec.ofChange ssiSkewWrong)

/-- 'liverylaw15.SsiCircles': WHATEVER THE INPUT: true; the input reads as it did. -/
def ssiCirclesSpec : ChangeSpec := { name := "ssiCircles", fn := fun _ => fun
  | [d1, d2] => { results := [.lit (.bool true)], args := [d1, d2] }
  | _ => none }
def ssiCirclesRow : OpenClaim := { program := "ytdgkfjbmlfmimaagreat", sum := "29ce58605e308a8e7bdeea34f8397e01bbe0456f80f626e673f1bf0b0f416015", func := "livery/liverylaw15.SsiCircles", spec := "ssiCircles", unfollowed := true, recurses := true, plainKeys := false, apart := false }
def SsiCirclesSaid : Prop := ssiCirclesRow.holds Tryz.pinned (OpenSpec.ofChange ssiCirclesSpec)

/-- ITS FALSE NEIGHBOUR: 'it returns false'. Refute it at one input. -/
def ssiCirclesWrong : ChangeSpec := { name := "ssiCircles", fn := fun _ => fun
  | [d1, d2] => { results := [.lit (.bool false)], args := [d1, d2] }
  | _ => none }
def SsiCirclesWrongFalsely : Prop := ssiCirclesRow.holds Tryz.pinned (OpenSpec.ofChange ssiCirclesWrong)

/-- 'liverylaw15.SsiNone': WHATEVER THE INPUT: true; the input reads as it did. -/
def ssiNoneSpec : ChangeSpec := { name := "ssiNone", fn := fun _ => fun
  | [d] => { results := [.lit (.bool true)], args := [d] }
  | _ => none }
def ssiNoneRow : OpenClaim := { program := "ytdgkfjbmlfmimaagreat", sum := "29ce58605e308a8e7bdeea34f8397e01bbe0456f80f626e673f1bf0b0f416015", func := "livery/liverylaw15.SsiNone", spec := "ssiNone", unfollowed := true, recurses := true, plainKeys := false, apart := false }
def SsiNoneSaid : Prop := ssiNoneRow.holds Tryz.pinned (OpenSpec.ofChange ssiNoneSpec)

/-- ITS FALSE NEIGHBOUR: 'it returns false'. Refute it at one input. -/
def ssiNoneWrong : ChangeSpec := { name := "ssiNone", fn := fun _ => fun
  | [d] => { results := [.lit (.bool false)], args := [d] }
  | _ => none }
def SsiNoneWrongFalsely : Prop := ssiNoneRow.holds Tryz.pinned (OpenSpec.ofChange ssiNoneWrong)

/-- 'liverylaw15.SsiSafe': WHATEVER THE INPUT: true; the input reads as it did. -/
def ssiSafeSpec : ChangeSpec := { name := "ssiSafe", fn := fun _ => fun
  | [d1, d2] => { results := [.lit (.bool true)], args := [d1, d2] }
  | _ => none }
def ssiSafeRow : OpenClaim := { program := "ytdgkfjbmlfmimaagreat", sum := "29ce58605e308a8e7bdeea34f8397e01bbe0456f80f626e673f1bf0b0f416015", func := "livery/liverylaw15.SsiSafe", spec := "ssiSafe", unfollowed := true, recurses := true, plainKeys := false, apart := false }
def SsiSafeSaid : Prop := ssiSafeRow.holds Tryz.pinned (OpenSpec.ofChange ssiSafeSpec)

/-- ITS FALSE NEIGHBOUR: 'it returns false'. Refute it at one input. -/
def ssiSafeWrong : ChangeSpec := { name := "ssiSafe", fn := fun _ => fun
  | [d1, d2] => { results := [.lit (.bool false)], args := [d1, d2] }
  | _ => none }
def SsiSafeWrongFalsely : Prop := ssiSafeRow.holds Tryz.pinned (OpenSpec.ofChange ssiSafeWrong)

/-- 'liverylaw15.SsiLate': WHATEVER THE INPUT: true; the input reads as it did. -/
def ssiLateSpec : ChangeSpec := { name := "ssiLate", fn := fun _ => fun
  | [d1, d2] => { results := [.lit (.bool true)], args := [d1, d2] }
  | _ => none }
def ssiLateRow : OpenClaim := { program := "ytdgkfjbmlfmimaagreat", sum := "29ce58605e308a8e7bdeea34f8397e01bbe0456f80f626e673f1bf0b0f416015", func := "livery/liverylaw15.SsiLate", spec := "ssiLate", unfollowed := true, recurses := true, plainKeys := false, apart := false }
def SsiLateSaid : Prop := ssiLateRow.holds Tryz.pinned (OpenSpec.ofChange ssiLateSpec)

/-- ITS FALSE NEIGHBOUR: 'it returns false'. Refute it at one input. -/
def ssiLateWrong : ChangeSpec := { name := "ssiLate", fn := fun _ => fun
  | [d1, d2] => { results := [.lit (.bool false)], args := [d1, d2] }
  | _ => none }
def SsiLateWrongFalsely : Prop := ssiLateRow.holds Tryz.pinned (OpenSpec.ofChange ssiLateWrong)

/-- 'liverylaw15.SsiAlone': WHATEVER THE INPUT: true; the input reads as it did. -/
def ssiAloneSpec : ChangeSpec := { name := "ssiAlone", fn := fun _ => fun
  | [d1, d2] => { results := [.lit (.bool true)], args := [d1, d2] }
  | _ => none }
def ssiAloneRow : OpenClaim := { program := "ytdgkfjbmlfmimaagreat", sum := "29ce58605e308a8e7bdeea34f8397e01bbe0456f80f626e673f1bf0b0f416015", func := "livery/liverylaw15.SsiAlone", spec := "ssiAlone", unfollowed := true, recurses := true, plainKeys := false, apart := false }
def SsiAloneSaid : Prop := ssiAloneRow.holds Tryz.pinned (OpenSpec.ofChange ssiAloneSpec)

/-- ITS FALSE NEIGHBOUR: 'it returns false'. Refute it at one input. -/
def ssiAloneWrong : ChangeSpec := { name := "ssiAlone", fn := fun _ => fun
  | [d1, d2] => { results := [.lit (.bool false)], args := [d1, d2] }
  | _ => none }
def SsiAloneWrongFalsely : Prop := ssiAloneRow.holds Tryz.pinned (OpenSpec.ofChange ssiAloneWrong)

/-- 'liverylaw15.SsiPlays': WHATEVER THE INPUT: true; the input reads as it did. -/
def ssiPlaysSpec : ChangeSpec := { name := "ssiPlays", fn := fun _ => fun
  | [d1, d2] => { results := [.lit (.bool true)], args := [d1, d2] }
  | _ => none }
def ssiPlaysRow : OpenClaim := { program := "ytdgkfjbmlfmimaagreat", sum := "29ce58605e308a8e7bdeea34f8397e01bbe0456f80f626e673f1bf0b0f416015", func := "livery/liverylaw15.SsiPlays", spec := "ssiPlays", unfollowed := true, recurses := true, plainKeys := false, apart := false }
def SsiPlaysSaid : Prop := ssiPlaysRow.holds Tryz.pinned (OpenSpec.ofChange ssiPlaysSpec)

/-- ITS FALSE NEIGHBOUR: 'it returns false'. Refute it at one input. -/
def ssiPlaysWrong : ChangeSpec := { name := "ssiPlays", fn := fun _ => fun
  | [d1, d2] => { results := [.lit (.bool false)], args := [d1, d2] }
  | _ => none }
def SsiPlaysWrongFalsely : Prop := ssiPlaysRow.holds Tryz.pinned (OpenSpec.ofChange ssiPlaysWrong)

/- THE SECOND FORM. 'bulk': how many values and letters a reading holds, each counted each time it is reached (what is shared counts as often as it is met; a slice's spare places count too). A statement '..UptoSaid' is the law's where the arguments, and the package variables that the reading takes, are together of bulk at most 1048576: NARROWER than '..Said'. Prove '..Said' where nothing that the law and all that it calls make is longer than what came in: it says more and counts as full. Else prove '..UptoSaid'. A law counts once. -/
mutual
def uptoBulk {H : Type} : DataW H → Nat
  | .lit (.string bytes) => bytes.length + 1
  | .lit _ => 1
  | .nil => 1
  | .ptr d => uptoBulk d + 1
  | .slice elems spare => uptoBulkAll elems + uptoBulkAll spare + 1
  | .agg parts => uptoBulkAll parts + 1
  | .iface _ d => uptoBulk d + 1
  | .map entries => uptoBulkEntries entries + 1
  | .held _ => 1
def uptoBulkAll {H : Type} : List (DataW H) → Nat
  | [] => 0
  | d :: r => uptoBulk d + uptoBulkAll r
def uptoBulkEntries {H : Type} : List (Lit × DataW H) → Nat
  | [] => 0
  | x :: r => uptoBulkEntry x + uptoBulkEntries r
def uptoBulkEntry {H : Type} : Lit × DataW H → Nat
  | (.string bytes, d) => bytes.length + uptoBulk d + 1
  | (_, d) => uptoBulk d + 1
 end
def uptoSmall : (H : Type) → List (DataW H) → Bool := fun _ ds => decide (uptoBulkAll ds ≤ 1048576)
def OpenSpec.upto (s : _root_.Go.ChangeSpec) : _root_.Go.OpenSpec := { _root_.Go.OpenSpec.ofChange s with cond := some uptoSmall }

/-- 'liverylaw15.SsiSkew', WHERE WHAT IT READS IS OF BULK AT MOST 1048576: true; the input reads as it did. -/
def ssiSkewUptoRow : OpenClaim := { program := "ytdgkfjbmlfmimaagreat", sum := "29ce58605e308a8e7bdeea34f8397e01bbe0456f80f626e673f1bf0b0f416015", func := "livery/liverylaw15.SsiSkew", spec := "ssiSkew", unfollowed := true, recurses := true, plainKeys := false, apart := false, narrowed := true }
def SsiSkewUptoSaid : Prop := ssiSkewUptoRow.holds Tryz.pinned (OpenSpec.upto ssiSkewSpec)

/-- 'liverylaw15.SsiCircles', WHERE WHAT IT READS IS OF BULK AT MOST 1048576: true; the input reads as it did. -/
def ssiCirclesUptoRow : OpenClaim := { program := "ytdgkfjbmlfmimaagreat", sum := "29ce58605e308a8e7bdeea34f8397e01bbe0456f80f626e673f1bf0b0f416015", func := "livery/liverylaw15.SsiCircles", spec := "ssiCircles", unfollowed := true, recurses := true, plainKeys := false, apart := false, narrowed := true }
def SsiCirclesUptoSaid : Prop := ssiCirclesUptoRow.holds Tryz.pinned (OpenSpec.upto ssiCirclesSpec)

/-- 'liverylaw15.SsiNone', WHERE WHAT IT READS IS OF BULK AT MOST 1048576: true; the input reads as it did. -/
def ssiNoneUptoRow : OpenClaim := { program := "ytdgkfjbmlfmimaagreat", sum := "29ce58605e308a8e7bdeea34f8397e01bbe0456f80f626e673f1bf0b0f416015", func := "livery/liverylaw15.SsiNone", spec := "ssiNone", unfollowed := true, recurses := true, plainKeys := false, apart := false, narrowed := true }
def SsiNoneUptoSaid : Prop := ssiNoneUptoRow.holds Tryz.pinned (OpenSpec.upto ssiNoneSpec)

/-- 'liverylaw15.SsiSafe', WHERE WHAT IT READS IS OF BULK AT MOST 1048576: true; the input reads as it did. -/
def ssiSafeUptoRow : OpenClaim := { program := "ytdgkfjbmlfmimaagreat", sum := "29ce58605e308a8e7bdeea34f8397e01bbe0456f80f626e673f1bf0b0f416015", func := "livery/liverylaw15.SsiSafe", spec := "ssiSafe", unfollowed := true, recurses := true, plainKeys := false, apart := false, narrowed := true }
def SsiSafeUptoSaid : Prop := ssiSafeUptoRow.holds Tryz.pinned (OpenSpec.upto ssiSafeSpec)

/-- 'liverylaw15.SsiLate', WHERE WHAT IT READS IS OF BULK AT MOST 1048576: true; the input reads as it did. -/
def ssiLateUptoRow : OpenClaim := { program := "ytdgkfjbmlfmimaagreat", sum := "29ce58605e308a8e7bdeea34f8397e01bbe0456f80f626e673f1bf0b0f416015", func := "livery/liverylaw15.SsiLate", spec := "ssiLate", unfollowed := true, recurses := true, plainKeys := false, apart := false, narrowed := true }
def SsiLateUptoSaid : Prop := ssiLateUptoRow.holds Tryz.pinned (OpenSpec.upto ssiLateSpec)

/-- 'liverylaw15.SsiAlone', WHERE WHAT IT READS IS OF BULK AT MOST 1048576: true; the input reads as it did. -/
def ssiAloneUptoRow : OpenClaim := { program := "ytdgkfjbmlfmimaagreat", sum := "29ce58605e308a8e7bdeea34f8397e01bbe0456f80f626e673f1bf0b0f416015", func := "livery/liverylaw15.SsiAlone", spec := "ssiAlone", unfollowed := true, recurses := true, plainKeys := false, apart := false, narrowed := true }
def SsiAloneUptoSaid : Prop := ssiAloneUptoRow.holds Tryz.pinned (OpenSpec.upto ssiAloneSpec)

/-- 'liverylaw15.SsiPlays', WHERE WHAT IT READS IS OF BULK AT MOST 1048576: true; the input reads as it did. -/
def ssiPlaysUptoRow : OpenClaim := { program := "ytdgkfjbmlfmimaagreat", sum := "29ce58605e308a8e7bdeea34f8397e01bbe0456f80f626e673f1bf0b0f416015", func := "livery/liverylaw15.SsiPlays", spec := "ssiPlays", unfollowed := true, recurses := true, plainKeys := false, apart := false, narrowed := true }
def SsiPlaysUptoSaid : Prop := ssiPlaysUptoRow.holds Tryz.pinned (OpenSpec.upto ssiPlaysSpec)

end Rows
end Go.Proofs.YtdgkfjbmlfmimaaGreat

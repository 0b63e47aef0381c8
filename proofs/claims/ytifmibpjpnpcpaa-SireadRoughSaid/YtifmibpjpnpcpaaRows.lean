/-
  No cell of these rows narrows 'for every input' (looked for: loops, veiled, ifaces, maps, wideKeys, modest, calm, conditions, laid).
  DERIVED. THE GIVEN ROWS OF THIS SEAT. 3 by the template 'for every input the law returns true; each argument reads behind the call as it read before'; 0 by the template 'total and deterministic' (their statements: YtifmibpjpnpcpaaTotals.lean).
  GIVEN WITH THE SEED: the statements are not yours to turn. If you find one false, say at which input.
  Laid BY PROGRAM, IN A SANDBOX (cutbox-rows.mjs): the forced cells as the released guide's own fill.sh prints them over the translation 37cbb7a3b917ab96… (all of the seat's roots in one cut). By AI agents, Wed Nov 11 2026. No macro, syntax, notation, axiom, sorry.
-/
import Derived.Test.YtifmibpjpnpcpaaChecked
import GoSem.Claim
import GoSem.ClaimJoined
import GoSem.ClaimMapViews
import Derived.JoinedTies
import Derived.KernelRfl
namespace Go.Proofs.Ytifmibpjpnpcpaa
/- THE CELL 'sum', in the pinned program and in every row, IS THE sha256 OF THE DUMP (.gsa) THAT YtifmibpjpnpcpaaProg.lean LOADS. Nothing in Lean hashes anything: it is a label: what it is worth is what the hold of that sum in a sandbox is worth. -/
noncomputable def Try.pinned : Pinned := { name := "ytifmibpjpnpcpaa", sum := "37cbb7a3b917ab96610739f4851e2512ffea0ea7512bfb6ce3b0e733d34055ad", checked := Try.checked }
namespace Rows
def none {H : Type} : Left H := { results := [], args := [] }

/-- 'liverylaw13.SireadRough': WHATEVER THE INPUT: true; the input reads as it did. -/
def sireadRoughSpec : ChangeSpec := { name := "sireadRough", fn := fun _ => fun
  | [d1, d2, d3] => { results := [.lit (.bool true)], args := [d1, d2, d3] }
  | _ => none }
def sireadRoughRow : OpenClaim := { program := "ytifmibpjpnpcpaa", sum := "37cbb7a3b917ab96610739f4851e2512ffea0ea7512bfb6ce3b0e733d34055ad", func := "livery/liverylaw13.SireadRough", spec := "sireadRough", unfollowed := true, recurses := true, plainKeys := false, apart := false }
def SireadRoughSaid : Prop := sireadRoughRow.holds Try.pinned (OpenSpec.ofChange sireadRoughSpec)

/-- ITS FALSE NEIGHBOUR: 'it returns false'. Refute it at one input. -/
def sireadRoughWrong : ChangeSpec := { name := "sireadRough", fn := fun _ => fun
  | [d1, d2, d3] => { results := [.lit (.bool false)], args := [d1, d2, d3] }
  | _ => none }
def SireadRoughWrongFalsely : Prop := sireadRoughRow.holds Try.pinned (OpenSpec.ofChange sireadRoughWrong)

/-- 'liverylaw13.SireadFew': WHATEVER THE INPUT: true; the input reads as it did. -/
def sireadFewSpec : ChangeSpec := { name := "sireadFew", fn := fun _ => fun
  | [d1, d2, d3] => { results := [.lit (.bool true)], args := [d1, d2, d3] }
  | _ => none }
def sireadFewRow : OpenClaim := { program := "ytifmibpjpnpcpaa", sum := "37cbb7a3b917ab96610739f4851e2512ffea0ea7512bfb6ce3b0e733d34055ad", func := "livery/liverylaw13.SireadFew", spec := "sireadFew", unfollowed := true, recurses := true, plainKeys := false, apart := false }
def SireadFewSaid : Prop := sireadFewRow.holds Try.pinned (OpenSpec.ofChange sireadFewSpec)

/-- ITS FALSE NEIGHBOUR: 'it returns false'. Refute it at one input. -/
def sireadFewWrong : ChangeSpec := { name := "sireadFew", fn := fun _ => fun
  | [d1, d2, d3] => { results := [.lit (.bool false)], args := [d1, d2, d3] }
  | _ => none }
def SireadFewWrongFalsely : Prop := sireadFewRow.holds Try.pinned (OpenSpec.ofChange sireadFewWrong)

/-- 'liverylaw13.SireadNone': WHATEVER THE INPUT: true; the input reads as it did. -/
def sireadNoneSpec : ChangeSpec := { name := "sireadNone", fn := fun _ => fun
  | [d] => { results := [.lit (.bool true)], args := [d] }
  | _ => none }
def sireadNoneRow : OpenClaim := { program := "ytifmibpjpnpcpaa", sum := "37cbb7a3b917ab96610739f4851e2512ffea0ea7512bfb6ce3b0e733d34055ad", func := "livery/liverylaw13.SireadNone", spec := "sireadNone", unfollowed := true, recurses := true, plainKeys := false, apart := false }
def SireadNoneSaid : Prop := sireadNoneRow.holds Try.pinned (OpenSpec.ofChange sireadNoneSpec)

/-- ITS FALSE NEIGHBOUR: 'it returns false'. Refute it at one input. -/
def sireadNoneWrong : ChangeSpec := { name := "sireadNone", fn := fun _ => fun
  | [d] => { results := [.lit (.bool false)], args := [d] }
  | _ => none }
def SireadNoneWrongFalsely : Prop := sireadNoneRow.holds Try.pinned (OpenSpec.ofChange sireadNoneWrong)

/- THE SECOND FORM. 'bulk': how many values and letters a reading holds, each counted each time it is reached (what is shared counts as often as it is met; a slice's spare places count too). A statement '..UptoSaid' is the law's where the arguments, and the package variables that the reading takes, are together of bulk at most 1048576: NARROWER than '..Said'. Prove '..Said' where nothing that the law and all that it calls make is longer than what came in: it says more and counts as full. Else prove '..UptoSaid'. A law counts once. -/
mutual
def uptoBulk {H : Type} : DataW H → Nat
  | .lit (.string bytes) => bytes.length + 1
  | .lit _ => 1
  | .nil => 1
  | .ptr d => uptoBulk d + 1
  | .slice elems spare => uptoBulkAll elems + uptoBulkAll spare + 1
  | .agg parts => uptoBulkAll parts + 1
  | .iface _ d => uptoBulk d + 1
  | .map entries => uptoBulkEntries entries + 1
  | .held _ => 1
def uptoBulkAll {H : Type} : List (DataW H) → Nat
  | [] => 0
  | d :: r => uptoBulk d + uptoBulkAll r
def uptoBulkEntries {H : Type} : List (Lit × DataW H) → Nat
  | [] => 0
  | x :: r => uptoBulkEntry x + uptoBulkEntries r
def uptoBulkEntry {H : Type} : Lit × DataW H → Nat
  | (.string bytes, d) => bytes.length + uptoBulk d + 1
  | (_, d) => uptoBulk d + 1
 end
def uptoSmall : (H : Type) → List (DataW H) → Bool := fun _ ds => decide (uptoBulkAll ds ≤ 1048576)
def OpenSpec.upto (s : _root_.Go.ChangeSpec) : _root_.Go.OpenSpec := { _root_.Go.OpenSpec.ofChange s with cond := some uptoSmall }

/-- 'liverylaw13.SireadRough', WHERE WHAT IT READS IS OF BULK AT MOST 1048576: true; the input reads as it did. -/
def sireadRoughUptoRow : OpenClaim := { program := "ytifmibpjpnpcpaa", sum := "37cbb7a3b917ab96610739f4851e2512ffea0ea7512bfb6ce3b0e733d34055ad", func := "livery/liverylaw13.SireadRough", spec := "sireadRough", unfollowed := true, recurses := true, plainKeys := false, apart := false, narrowed := true }
def SireadRoughUptoSaid : Prop := sireadRoughUptoRow.holds Try.pinned (OpenSpec.upto sireadRoughSpec)

/-- 'liverylaw13.SireadFew', WHERE WHAT IT READS IS OF BULK AT MOST 1048576: true; the input reads as it did. -/
def sireadFewUptoRow : OpenClaim := { program := "ytifmibpjpnpcpaa", sum := "37cbb7a3b917ab96610739f4851e2512ffea0ea7512bfb6ce3b0e733d34055ad", func := "livery/liverylaw13.SireadFew", spec := "sireadFew", unfollowed := true, recurses := true, plainKeys := false, apart := false, narrowed := true }
def SireadFewUptoSaid : Prop := sireadFewUptoRow.holds Try.pinned (OpenSpec.upto sireadFewSpec)

/-- 'liverylaw13.SireadNone', WHERE WHAT IT READS IS OF BULK AT MOST 1048576: true; the input reads as it did. -/
def sireadNoneUptoRow : OpenClaim := { program := "ytifmibpjpnpcpaa", sum := "37cbb7a3b917ab96610739f4851e2512ffea0ea7512bfb6ce3b0e733d34055ad", func := "livery/liverylaw13.SireadNone", spec := "sireadNone", unfollowed := true, recurses := true, plainKeys := false, apart := false, narrowed := true }
def SireadNoneUptoSaid : Prop := sireadNoneUptoRow.holds Try.pinned (OpenSpec.upto sireadNoneSpec)

end Rows
end Go.Proofs.Ytifmibpjpnpcpaa

/- Three integers, opened. -/
import Derived.Test.YtdgkfjbmlfmimaaGreatS15z
set_option linter.unusedSimpArgs false
set_option linter.unusedVariables false
namespace Go.Lift.E14
open Go Go.Proofs Go.RowKit Go.ChangeShapes
set_option maxRecDepth 100000
theorem open_3i {w : World} {r : Reach} {b0 : Nat} {v : Value} (hv : Value.okWide Tryz.prog w r b0 70 v) : ∃ t : T3, v = .agg #[.int .i64 t.a, .int .i64 t.b, .int .i64 t.c] := by
 obtain ⟨cs, rfl, hl, hc⟩ := agg_of (ts := [3, 3, 3]) (Or.inr ⟨_, _, Tryz.underlying70⟩) (by kernel_rfl) (by kernel_rfl) hv
 obtain ⟨x0, x1, x2, rfl⟩ : ∃ a b c, cs = [a, b, c] := by
  match cs, hl with
  | [a, b, c], _ => exact ⟨a, b, c, rfl⟩
 obtain ⟨_, e0, o0⟩ := hc 0 3 rfl
 obtain ⟨_, e1, o1⟩ := hc 1 3 rfl
 obtain ⟨_, e2, o2⟩ := hc 2 3 rfl
 cases e0; cases e1; cases e2
 obtain ⟨k, rfl, h0⟩ := cell_int Tryz.underlying3 o0
 obtain ⟨n, rfl, h1⟩ := cell_int Tryz.underlying3 o1
 obtain ⟨f, rfl, h2⟩ := cell_int Tryz.underlying3 o2
 exact ⟨⟨k, n, f⟩, rfl⟩
end Go.Lift.E14

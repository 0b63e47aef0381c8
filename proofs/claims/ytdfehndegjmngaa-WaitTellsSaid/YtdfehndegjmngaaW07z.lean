/- Edges, opened. -/
import Derived.Test.YtdfehndegjmngaaW07a
import Derived.OpenShut
set_option linter.unusedSimpArgs false
set_option linter.unusedVariables false
namespace Go.Lift
open Go Go.Proofs Go.RowKit Go.ChangeShapes
set_option maxRecDepth 100000
section
variable {H : Type} {enc : TypeId × Value → H} {w : World} {base : Nat} {spare : Nat → Bool} {held : Bool}
theorem c07i : Try.prog.cellsOf 3 = 1 := by kernel_rfl
theorem elem_edge {cs : List Value} {n : Nat} {y : DataW H × List MemPlace} (hl : cs.length = 2) (h : DataW.trod enc Try.prog w base spare held n 31 cs = some y) : ∃ t : Edge, cs = encE2 t ∧ ((Lit.int .i64 t.1).wf = true ∧ (Lit.int .i64 t.2).wf = true) := by
  obtain ⟨a, b, rfl⟩ := list2 hl
  obtain ⟨xs, m, _, _, _, hl, hf⟩ := DataW.trod_array Try.underlying31 h
  have h0 := hf 0 (by decide)
  have h1 := hf 1 (by decide)
  simp only [c07i] at h0 h1
  rw [List.getElem?_eq_getElem (by omega)] at h0 h1
  obtain ⟨x0, e0, g0⟩ := elem_int Try.underlying3 h0
  obtain ⟨x1, e1, g1⟩ := elem_int Try.underlying3 h1
  simp at e0 e1
  subst e0 e1
  exact ⟨(x0, x1), rfl, g0, g1⟩
end
end Go.Lift

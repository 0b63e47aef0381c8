/- Edges: steps, opened. -/
import Derived.Test.YtfkamdkocmkkpaaW14i
import Derived.Test.YtfkamdkocmkkpaaLvR
set_option linter.unusedSimpArgs false
set_option linter.unusedVariables false
namespace Go.Lift
open Go Go.Proofs Go.RowKit Go.ChangeShapes
set_option maxRecDepth 100000
section
variable {H : Type} {enc : TypeId × Value → H} {w : World} {base : Nat} {spare : Nat → Bool} {held : Bool}
theorem c14i : Try.prog.cellsOf 3 = 1 := by kernel_rfl
theorem c14b : Try.prog.cellsOf 4 = 1 := by kernel_rfl
theorem elem_stepE {cs : List Value} {n : Nat} {y : DataW H × List MemPlace} (hl : cs.length = 4) (h : DataW.trod enc Try.prog w base spare held n 29 cs = some y) : ∃ t : StepE, cs = encStE t ∧ True := by
  obtain ⟨a, b, c, d, rfl⟩ := list4 hl
  obtain ⟨m, hm⟩ := elem_fld Try.underlying29 h
  obtain ⟨_, h0⟩ := hm 0 3 0 rfl
  obtain ⟨_, h1⟩ := hm 1 3 1 rfl
  obtain ⟨_, h2⟩ := hm 2 3 2 rfl
  obtain ⟨_, h3⟩ := hm 3 4 3 rfl
  simp only [c14i] at h0 h1 h2
  simp only [c14b] at h3
  obtain ⟨x0, e0, _⟩ := elem_int Try.underlying3 h0
  obtain ⟨x1, e1, _⟩ := elem_int Try.underlying3 h1
  obtain ⟨x2, e2, _⟩ := elem_int Try.underlying3 h2
  obtain ⟨x3, e3⟩ := elem_bool Try.underlying4 h3
  simp at e0 e1 e2 e3
  subst e0 e1 e2 e3
  exact ⟨⟨x0, x1, x2, x3⟩, rfl, trivial⟩
end
end Go.Lift

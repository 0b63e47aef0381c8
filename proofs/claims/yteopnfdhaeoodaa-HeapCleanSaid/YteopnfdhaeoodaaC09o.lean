/- The steps of HeapClean, opened. -/
import Derived.Test.YteopnfdhaeoodaaC09z
set_option linter.unusedSimpArgs false
set_option linter.unusedVariables false
namespace Go.Lift
open Go Go.Proofs Go.RowKit Go.ChangeShapes
set_option maxRecDepth 100000
section
variable {H : Type} {enc : TypeId × Value → H} {w : World} {base : Nat} {spare : Nat → Bool} {held : Bool}
theorem c3 : Try.prog.cellsOf 3 = 1 := by kernel_rfl
theorem c2 : Try.prog.cellsOf 2 = 1 := by kernel_rfl
theorem c4 : Try.prog.cellsOf 4 = 1 := by kernel_rfl
theorem c9 : Try.prog.cellsOf 9 = 1 := by kernel_rfl
theorem c75 : Try.prog.cellsOf 75 = 1 := by kernel_rfl
theorem c30 : Try.prog.cellsOf 30 = 1 := by kernel_rfl
theorem elem_val {cs : List Value} {n : Nat} {y : DataW H × List MemPlace} (hl : cs.length = 4) (h : DataW.trod enc Try.prog w base spare held n 77 cs = some y) : ∃ v : Val, cs = encV v ∧ True := by
  obtain ⟨a, b, c, d, rfl⟩ := list4 hl
  obtain ⟨m, hm⟩ := elem_fld Try.underlying77 h
  obtain ⟨_, h0⟩ := hm 0 3 0 rfl
  obtain ⟨_, h1⟩ := hm 1 2 1 rfl
  obtain ⟨_, h2⟩ := hm 2 75 2 rfl
  obtain ⟨_, h3⟩ := hm 3 9 3 rfl
  simp only [c3] at h0
  simp only [c2] at h1
  simp only [c75] at h2
  simp only [c9] at h3
  obtain ⟨x0, e0, _⟩ := elem_int Try.underlying3 h0
  obtain ⟨x1, e1, _⟩ := elem_int Try.underlying2 h1
  obtain ⟨x2, e2, _⟩ := elem_flt Try.underlying75 h2
  obtain ⟨x3, e3, _⟩ := elem_str Try.underlying9 h3
  simp at e0 e1 e2 e3
  subst e0 e1 e2 e3
  exact ⟨⟨x0, x1, x2, x3⟩, rfl, trivial⟩
theorem elem_step {cs : List Value} {n : Nat} {y : DataW H × List MemPlace} (hl : cs.length = 5) (h : DataW.trod enc Try.prog w base spare held n 58 cs = some y) : ∃ t : StepA, cs = encS t ∧ RowIn w.heap t.sl t.vs := by
  obtain ⟨a, b, c, d, e, rfl⟩ := list5 hl
  obtain ⟨m, hm⟩ := elem_fld Try.underlying58 h
  obtain ⟨_, h0⟩ := hm 0 3 0 rfl
  obtain ⟨_, h1⟩ := hm 1 3 1 rfl
  obtain ⟨_, h2⟩ := hm 2 3 2 rfl
  obtain ⟨_, h3⟩ := hm 3 4 3 rfl
  obtain ⟨_, h4⟩ := hm 4 30 4 rfl
  simp only [c3] at h0 h1 h2
  simp only [c4] at h3
  simp only [c30] at h4
  obtain ⟨x0, e0, _⟩ := elem_int Try.underlying3 h0
  obtain ⟨x1, e1, _⟩ := elem_int Try.underlying3 h1
  obtain ⟨x2, e2, _⟩ := elem_int Try.underlying3 h2
  obtain ⟨x3, e3⟩ := elem_bool Try.underlying4 h3
  obtain ⟨s, vs, e4, hr, _, _, _⟩ := open_list Try.underlying30 (sz := 4) (by kernel_rfl) (by decide) encV_len (G := fun _ => True) (fun cs n y hl h => elem_val hl h) h4
  simp at e0 e1 e2 e3 e4
  subst e0 e1 e2 e3 e4
  exact ⟨⟨x0, x1, x2, x3, s, vs⟩, rfl, hr⟩
end
end Go.Lift

/- Names: steps, opened. -/
import Derived.Test.YtogondadohdcoaaW12r
import Derived.Test.YtogondadohdcoaaLvR
set_option linter.unusedSimpArgs false
set_option linter.unusedVariables false
namespace Go.Lift
open Go Go.Proofs Go.RowKit Go.ChangeShapes
set_option maxRecDepth 100000
section
variable {H : Type} {enc : TypeId × Value → H} {w : World} {base : Nat} {spare : Nat → Bool} {held : Bool}
theorem c12i : Try.prog.cellsOf 3 = 1 := by kernel_rfl
theorem c12l : Try.prog.cellsOf 2 = 1 := by kernel_rfl
theorem c12b : Try.prog.cellsOf 4 = 1 := by kernel_rfl
theorem c12s : Try.prog.cellsOf 9 = 1 := by kernel_rfl
theorem c12f : Try.prog.cellsOf 81 = 1 := by kernel_rfl
theorem c12v : Try.prog.cellsOf 83 = 4 := by kernel_rfl
theorem c12t : Try.prog.cellsOf 28 = 3 := by kernel_rfl
theorem c12c : Try.prog.cellsOf 26 = 1 := by kernel_rfl
theorem elem_val12 {cs : List Value} {n : Nat} {y : DataW H × List MemPlace} (hl : cs.length = 4) (h : DataW.trod enc Try.prog w base spare held n 83 cs = some y) : ∃ (k m : Int) (f : Nat) (s : ByteArray), cs = [.int .i64 k, .int .i64 m, .float .f64 f, .string s] := by
  obtain ⟨a, b, c, d, rfl⟩ := list4 hl
  obtain ⟨m, hm⟩ := elem_fld Try.underlying83 h
  obtain ⟨_, h0⟩ := hm 0 3 0 rfl
  obtain ⟨_, h1⟩ := hm 1 2 1 rfl
  obtain ⟨_, h2⟩ := hm 2 81 2 rfl
  obtain ⟨_, h3⟩ := hm 3 9 3 rfl
  simp only [c12i] at h0
  simp only [c12l] at h1
  simp only [c12f] at h2
  simp only [c12s] at h3
  obtain ⟨x0, e0, _⟩ := elem_int Try.underlying3 h0
  obtain ⟨x1, e1, _⟩ := elem_int Try.underlying2 h1
  obtain ⟨x2, e2, _⟩ := elem_flt Try.underlying81 h2
  obtain ⟨x3, e3, _⟩ := elem_str Try.underlying9 h3
  simp at e0 e1 e2 e3
  subst e0 e1 e2 e3
  exact ⟨x0, x1, x2, x3, rfl⟩
theorem elem_col12 {cs : List Value} {n : Nat} {y : DataW H × List MemPlace} (hl : cs.length = 7) (h : DataW.trod enc Try.prog w base spare held n 85 cs = some y) : ∃ c : ColM, cs = encC c ∧ True := by
  obtain ⟨m, hm⟩ := elem_fld Try.underlying85 h
  obtain ⟨_, h0⟩ := hm 0 9 0 rfl
  obtain ⟨_, h1⟩ := hm 1 3 1 rfl
  obtain ⟨_, h2⟩ := hm 2 4 2 rfl
  obtain ⟨_, h3⟩ := hm 3 83 3 rfl
  simp only [c12s] at h0
  simp only [c12i] at h1
  simp only [c12b] at h2
  simp only [c12v] at h3
  obtain ⟨x0, e0, _⟩ := elem_str Try.underlying9 h0
  obtain ⟨x1, e1, _⟩ := elem_int Try.underlying3 h1
  obtain ⟨x2, e2⟩ := elem_bool Try.underlying4 h2
  obtain ⟨k, m, f, s, e3⟩ := elem_val12 (by simp [hl]) h3
  refine ⟨⟨x0, x1, x2, k, m, f, s⟩, ?_, trivial⟩
  match cs, hl with
  | [a, b, c, d, e, f, g], _ =>
    simp at e0 e1 e2 e3
    obtain ⟨e3, e4, e5, e6⟩ := e3
    subst e0 e1 e2 e3 e4 e5 e6
    rfl
theorem elem_stN {cs : List Value} {n : Nat} {y : DataW H × List MemPlace} (hl : cs.length = 5) (h : DataW.trod enc Try.prog w base spare held n 51 cs = some y) : ∃ t : StN, cs = encSt t ∧ Reads 7 encC w.heap t.t.s t.t.cl := by
  obtain ⟨a, b, c, d, e, rfl⟩ := list5 hl
  obtain ⟨m, hm⟩ := elem_fld Try.underlying51 h
  obtain ⟨_, h0⟩ := hm 0 3 0 rfl
  obtain ⟨_, h1⟩ := hm 1 3 1 rfl
  obtain ⟨_, h2⟩ := hm 2 28 2 rfl
  simp only [c12i] at h0 h1
  simp only [c12t] at h2
  obtain ⟨x0, e0, _⟩ := elem_int Try.underlying3 h0
  obtain ⟨x1, e1, _⟩ := elem_int Try.underlying3 h1
  obtain ⟨m2, hm2⟩ := elem_fld Try.underlying28 h2
  obtain ⟨_, g0⟩ := hm2 0 9 0 rfl
  obtain ⟨_, g1⟩ := hm2 1 26 1 rfl
  obtain ⟨_, g2⟩ := hm2 2 3 2 rfl
  simp only [c12s] at g0
  simp only [c12c] at g1
  simp only [c12i] at g2
  obtain ⟨y0, f0, _⟩ := elem_str Try.underlying9 g0
  obtain ⟨s, vs, f1, hr, _, _, _⟩ := open_list Try.underlying26 (sz := 7) (by kernel_rfl) (by decide) encC_len (G := fun _ => True) (fun cs n y hl h => elem_col12 hl h) g1
  obtain ⟨y2, f2, _⟩ := elem_int Try.underlying3 g2
  simp at e0 e1 f0 f1 f2
  subst e0 e1 f0 f1 f2
  exact ⟨⟨x0, x1, ⟨y0, s, vs, y2⟩⟩, rfl, hr⟩
end
end Go.Lift

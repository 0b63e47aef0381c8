/- Steps of an index, opened; three small numbers, opened. -/
import Derived.Test.YtmlcjckocgnjfaaGreatDoorI11z
import Derived.Test.YtmlcjckocgnjfaaGreatDoorI11h
import Derived.Test.YtmlcjckocgnjfaaGreatDoorLvR
set_option linter.unusedSimpArgs false
set_option linter.unusedVariables false
namespace Go.Lift
open Go Go.Proofs Go.RowKit Go.ChangeShapes
set_option maxRecDepth 100000
theorem wf_f64 {n : Nat} (h : (Lit.float .f64 n).wf = true) : n < allD := by
  unfold Lit.wf at h
  exact of_decide_eq_true h
theorem has8 {n : Int} (h : IntKind.i8.has n) : -128 ≤ n ∧ n < 128 := by
  unfold IntKind.has at h
  have h1 : IntKind.i8.min = -128 := rfl
  have h2 : IntKind.i8.max = 127 := rfl
  omega
section
variable {H : Type} {enc : TypeId × Value → H} {w : World} {base : Nat} {spare : Nat → Bool} {held : Bool}
theorem c11i : Tryz.prog.cellsOf 3 = 1 := by kernel_rfl
theorem c11l : Tryz.prog.cellsOf 2 = 1 := by kernel_rfl
theorem c11s : Tryz.prog.cellsOf 9 = 1 := by kernel_rfl
theorem c11f : Tryz.prog.cellsOf 32 = 1 := by kernel_rfl
theorem c11v : Tryz.prog.cellsOf 34 = 4 := by kernel_rfl
theorem elem_val11 {cs : List Value} {n : Nat} {y : DataW H × List MemPlace} (hl : cs.length = 4) (h : DataW.trod enc Tryz.prog w base spare held n 34 cs = some y) : ∃ v : V4, cs = (cells4 v).toList ∧ VOk v := by
  obtain ⟨a, b, c, d, rfl⟩ := list4 hl
  obtain ⟨m, hm⟩ := elem_fld Tryz.underlying34 h
  obtain ⟨_, h0⟩ := hm 0 3 0 rfl
  obtain ⟨_, h1⟩ := hm 1 2 1 rfl
  obtain ⟨_, h2⟩ := hm 2 32 2 rfl
  obtain ⟨_, h3⟩ := hm 3 9 3 rfl
  simp only [c11i] at h0
  simp only [c11l] at h1
  simp only [c11f] at h2
  simp only [c11s] at h3
  obtain ⟨x0, e0, _⟩ := elem_int Tryz.underlying3 h0
  obtain ⟨x1, e1, w1⟩ := elem_int Tryz.underlying2 h1
  obtain ⟨x2, e2, w2⟩ := elem_flt Tryz.underlying32 h2
  obtain ⟨x3, e3, _⟩ := elem_str Tryz.underlying9 h3
  simp at e0 e1 e2 e3
  subst e0 e1 e2 e3
  exact ⟨⟨x0, x1, x2, x3⟩, rfl, ⟨wf_f64 w2, by have := wf_i64 w1; exact ⟨by simp only; omega, by simp only; omega⟩⟩⟩
theorem list10 {α : Type} {l : List α} (h : l.length = 10) : ∃ a b c d e f g i j k, l = [a, b, c, d, e, f, g, i, j, k] := by
  match l, h with
  | [a, b, c, d, e, f, g, i, j, k], _ => exact ⟨a, b, c, d, e, f, g, i, j, k, rfl⟩
theorem elem_stI {cs : List Value} {n : Nat} {y : DataW H × List MemPlace} (hl : cs.length = 10) (h : DataW.trod enc Tryz.prog w base spare held n 36 cs = some y) : ∃ s : StepI, cs = encS s ∧ ((VOk s.v ∧ VOk s.w) ∧ -9223372036854775808 ≤ s.tid ∧ s.tid < 9223372036854775808) := by
  obtain ⟨a, b, c, d, e, f, g, i, j, k, rfl⟩ := list10 hl
  obtain ⟨m, hm⟩ := elem_fld Tryz.underlying36 h
  obtain ⟨_, h0⟩ := hm 0 3 0 rfl
  obtain ⟨_, h1⟩ := hm 1 3 1 rfl
  obtain ⟨_, h2⟩ := hm 2 34 2 rfl
  obtain ⟨_, h3⟩ := hm 3 34 6 rfl
  simp only [c11i] at h0 h1
  simp only [c11v] at h2 h3
  obtain ⟨x0, e0, _⟩ := elem_int Tryz.underlying3 h0
  obtain ⟨x1, e1, w1⟩ := elem_int Tryz.underlying3 h1
  obtain ⟨v, e2, o2⟩ := elem_val11 (by simp) h2
  obtain ⟨w', e3, o3⟩ := elem_val11 (by simp) h3
  simp [cells4] at e0 e1 e2 e3
  obtain ⟨p0, p1, p2, p3⟩ := e2
  obtain ⟨q0, q1, q2, q3⟩ := e3
  subst e0 e1 p0 p1 p2 p3 q0 q1 q2 q3
  exact ⟨⟨x0, x1, v, w'⟩, rfl, ⟨o2, o3⟩, by have := wf_i64 w1; exact ⟨by simp only; omega, by simp only; omega⟩⟩
end
end Go.Lift

/- Things that were read: steps, opened. -/
import Derived.Test.YtifmibpjpnpcpaaW13q
import Derived.Test.YtifmibpjpnpcpaaLvR
set_option linter.unusedSimpArgs false
set_option linter.unusedVariables false
namespace Go.Lift
open Go Go.Proofs Go.RowKit Go.ChangeShapes
set_option maxRecDepth 100000
section
variable {H : Type} {enc : TypeId × Value → H} {w : World} {base : Nat} {spare : Nat → Bool} {held : Bool}
theorem list13 {cs : List Value} (h : cs.length = 13) : ∃ a b c d e f g i j k l m n, cs = [a, b, c, d, e, f, g, i, j, k, l, m, n] := by
  match cs, h with
  | [a, b, c, d, e, f, g, i, j, k, l, m, n], _ => exact ⟨a, b, c, d, e, f, g, i, j, k, l, m, n, rfl⟩
theorem c13i : Try.prog.cellsOf 3 = 1 := by kernel_rfl
theorem c13s : Try.prog.cellsOf 9 = 1 := by kernel_rfl
theorem c13t : Try.prog.cellsOf 28 = 5 := by kernel_rfl
theorem elem_thingM {cs : List Value} {n : Nat} {y : DataW H × List MemPlace} (hl : cs.length = 5) (h : DataW.trod enc Try.prog w base spare held n 28 cs = some y) : ∃ t : ThingM, cs = encT t := by
  obtain ⟨a, b, c, d, e, rfl⟩ := list5 hl
  obtain ⟨m, hm⟩ := elem_fld Try.underlying28 h
  obtain ⟨_, h0⟩ := hm 0 3 0 rfl
  obtain ⟨_, h1⟩ := hm 1 9 1 rfl
  obtain ⟨_, h2⟩ := hm 2 3 2 rfl
  obtain ⟨_, h3⟩ := hm 3 9 3 rfl
  obtain ⟨_, h4⟩ := hm 4 3 4 rfl
  simp only [c13i] at h0 h2 h4
  simp only [c13s] at h1 h3
  obtain ⟨x0, e0, _⟩ := elem_int Try.underlying3 h0
  obtain ⟨x1, e1, _⟩ := elem_str Try.underlying9 h1
  obtain ⟨x2, e2, _⟩ := elem_int Try.underlying3 h2
  obtain ⟨x3, e3, _⟩ := elem_str Try.underlying9 h3
  obtain ⟨x4, e4, _⟩ := elem_int Try.underlying3 h4
  simp at e0 e1 e2 e3 e4
  subst e0 e1 e2 e3 e4
  exact ⟨⟨x0, x1, x2, x3, x4⟩, rfl⟩
theorem elem_stepS {cs : List Value} {n : Nat} {y : DataW H × List MemPlace} (hl : cs.length = 13) (h : DataW.trod enc Try.prog w base spare held n 42 cs = some y) : ∃ t : StepS, cs = encStep t ∧ True := by
  obtain ⟨a, b, c, d, e, f, g, i, j, k, l, m, n, rfl⟩ := list13 hl
  obtain ⟨mm, hm⟩ := elem_fld Try.underlying42 h
  obtain ⟨_, h0⟩ := hm 0 3 0 rfl
  obtain ⟨_, h1⟩ := hm 1 3 1 rfl
  obtain ⟨_, h2⟩ := hm 2 3 2 rfl
  obtain ⟨_, h3⟩ := hm 3 28 3 rfl
  obtain ⟨_, h4⟩ := hm 4 28 8 rfl
  simp only [c13i] at h0 h1 h2
  simp only [c13t] at h3 h4
  obtain ⟨x0, e0, _⟩ := elem_int Try.underlying3 h0
  obtain ⟨x1, e1, _⟩ := elem_int Try.underlying3 h1
  obtain ⟨x2, e2, _⟩ := elem_int Try.underlying3 h2
  obtain ⟨x3, e3⟩ := elem_thingM rfl h3
  obtain ⟨x4, e4⟩ := elem_thingM rfl h4
  simp at e0 e1 e2 e3 e4
  obtain ⟨rfl, rfl, rfl, rfl, rfl⟩ := e3
  obtain ⟨rfl, rfl, rfl, rfl, rfl⟩ := e4
  subst e0 e1 e2
  exact ⟨⟨x0, x1, x2, x3, x4⟩, rfl, trivial⟩
theorem open_stepS {r : Reach} {b0 : Nat} {v : Value} {d : DataW H} {ps : List MemPlace} (hv : Value.okWide Try.prog w r b0 42 v) (hd : DataW.Trod enc Try.prog w base spare held 42 v d ps) :
    ∃ t : StepS, v = .agg (encStep t).toArray := by
  obtain ⟨cs, rfl, hsz⟩ := Go.WideShapes.okWide_struct Try.underlying42 hv
  obtain ⟨fuel, hf⟩ := hd
  have hc : Try.prog.cellsOf 42 = 13 := by kernel_rfl
  rw [hc] at hsz
  obtain ⟨t, ht, _⟩ := elem_stepS (cs := cs.toList) (by simpa using hsz) hf
  refine ⟨t, ?_⟩
  congr 1
  apply Array.toList_inj.1
  rw [ht]
end
end Go.Lift

/- Steps, opened. -/
import Derived.Test.YtempffmkbpglfaaL10u
set_option linter.unusedSimpArgs false
set_option linter.unusedVariables false
namespace Go.Lift
open Go Go.Proofs Go.RowKit Go.ChangeShapes
set_option maxRecDepth 100000
section
variable {H : Type} {enc : TypeId × Value → H} {w : World} {base : Nat} {spare : Nat → Bool} {held : Bool}
theorem c10i : Try.prog.cellsOf 3 = 1 := by kernel_rfl
theorem c10s : Try.prog.cellsOf 9 = 1 := by kernel_rfl
theorem elem_stepL {cs : List Value} {n : Nat} {y : DataW H × List MemPlace} (hl : cs.length = 3) (h : DataW.trod enc Try.prog w base spare held n 40 cs = some y) : ∃ t : StepL, cs = encT t ∧ True := by
  obtain ⟨a, b, c, rfl⟩ := list3 hl
  obtain ⟨m, hm⟩ := elem_fld Try.underlying40 h
  obtain ⟨_, h0⟩ := hm 0 3 0 rfl
  obtain ⟨_, h1⟩ := hm 1 9 1 rfl
  obtain ⟨_, h2⟩ := hm 2 9 2 rfl
  simp only [c10i] at h0
  simp only [c10s] at h1 h2
  obtain ⟨x0, e0, _⟩ := elem_int Try.underlying3 h0
  obtain ⟨x1, e1, _⟩ := elem_str Try.underlying9 h1
  obtain ⟨x2, e2, _⟩ := elem_str Try.underlying9 h2
  simp at e0 e1 e2
  subst e0 e1 e2
  exact ⟨⟨x0, x1, x2⟩, rfl, trivial⟩
theorem open_stepV {r : Reach} {b0 : Nat} {v : Value} {d : DataW H} {ps : List MemPlace} (hv : Value.okWide Try.prog w r b0 40 v) (hd : DataW.Trod enc Try.prog w base spare held 40 v d ps) :
    ∃ t : StepL, v = .agg #[.int .i64 t.kind, .string t.key, .string t.to] := by
  obtain ⟨cs, rfl, hsz⟩ := Go.WideShapes.okWide_struct Try.underlying40 hv
  obtain ⟨fuel, hf⟩ := hd
  have hc : Try.prog.cellsOf 40 = 3 := by kernel_rfl
  rw [hc] at hsz
  obtain ⟨t, ht, _⟩ := elem_stepL (cs := cs.toList) (by simpa using hsz) hf
  refine ⟨t, ?_⟩
  congr 1
  apply Array.toList_inj.1
  rw [ht]
end
end Go.Lift

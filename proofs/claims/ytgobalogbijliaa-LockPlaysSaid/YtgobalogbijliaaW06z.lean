/- Locks: steps, opened. -/
import Derived.Test.YtgobalogbijliaaW06i
import Derived.Test.YtgobalogbijliaaLvR
set_option linter.unusedSimpArgs false
set_option linter.unusedVariables false
namespace Go.Lift
open Go Go.Proofs Go.RowKit Go.ChangeShapes
set_option maxRecDepth 100000
structure StepK where
  kind : Int
  holder : Int
  mode : Int
  name : ByteArray
abbrev encK (t : StepK) : List Value := [.int .i64 t.kind, .int .i64 t.holder, .int .i64 t.mode, .string t.name]
theorem encK_len (t : StepK) : (encK t).length = 4 := rfl
section
variable {H : Type} {enc : TypeId × Value → H} {w : World} {base : Nat} {spare : Nat → Bool} {held : Bool}
theorem c06i : Try.prog.cellsOf 3 = 1 := by kernel_rfl
theorem c06s : Try.prog.cellsOf 9 = 1 := by kernel_rfl
theorem elem_stepK {cs : List Value} {n : Nat} {y : DataW H × List MemPlace} (hl : cs.length = 4) (h : DataW.trod enc Try.prog w base spare held n 32 cs = some y) : ∃ t : StepK, cs = encK t ∧ True := by
  obtain ⟨a, b, c, d, rfl⟩ := list4 hl
  obtain ⟨m, hm⟩ := elem_fld Try.underlying32 h
  obtain ⟨_, h0⟩ := hm 0 3 0 rfl
  obtain ⟨_, h1⟩ := hm 1 3 1 rfl
  obtain ⟨_, h2⟩ := hm 2 3 2 rfl
  obtain ⟨_, h3⟩ := hm 3 9 3 rfl
  simp only [c06i] at h0 h1 h2
  simp only [c06s] at h3
  obtain ⟨x0, e0, _⟩ := elem_int Try.underlying3 h0
  obtain ⟨x1, e1, _⟩ := elem_int Try.underlying3 h1
  obtain ⟨x2, e2, _⟩ := elem_int Try.underlying3 h2
  obtain ⟨x3, e3, _⟩ := elem_str Try.underlying9 h3
  simp at e0 e1 e2 e3
  subst e0 e1 e2 e3
  exact ⟨⟨x0, x1, x2, x3⟩, rfl, trivial⟩
theorem open_stepK {r : Reach} {b0 : Nat} {v : Value} {d : DataW H} {ps : List MemPlace} (hv : Value.okWide Try.prog w r b0 32 v) (hd : DataW.Trod enc Try.prog w base spare held 32 v d ps) :
    ∃ t : StepK, v = .agg #[.int .i64 t.kind, .int .i64 t.holder, .int .i64 t.mode, .string t.name] := by
  obtain ⟨cs, rfl, hsz⟩ := Go.WideShapes.okWide_struct Try.underlying32 hv
  obtain ⟨fuel, hf⟩ := hd
  have hc : Try.prog.cellsOf 32 = 4 := by kernel_rfl
  rw [hc] at hsz
  obtain ⟨t, ht, _⟩ := elem_stepK (cs := cs.toList) (by simpa using hsz) hf
  refine ⟨t, ?_⟩
  congr 1
  apply Array.toList_inj.1
  rw [ht]
end
end Go.Lift

/- Parts of a slice of strings, read. -/
import Derived.Test.YtempffmkbpglfaaL10h
set_option linter.unusedSimpArgs false
set_option linter.unusedVariables false
namespace Go.Lift
open Go Go.Proofs
section
variable {T : TypeId} {lo : Nat} {h : Hp} {s : Sl} {xs : List ByteArray}
theorem Own.dropR (ho : Own T 1 encB lo h s xs) {c : Nat} (hc : c < xs.length) : Reads 1 encB h ⟨slAd s.a c s.c 1, s.n - c, s.c - c⟩ (xs.drop c) := by
  have hn := ho.1
  have hV := ho.toV encB_len
  have hfl : (xs.flatMap encB).length = xs.length := by rw [flatB]; simp
  have hne : s.a ≠ none := by
    intro e
    have := (ho.2.1 e).1
    subst this
    simp at hc
  refine ⟨by simp; omega, fun e => ?_, ?_⟩
  · exfalso
    cases hsa : s.a with
    | none => exact hne hsa
    | some a =>
      simp only [hsa, slAd] at e
      split at e <;> simp at e
  · have := hV.cellsV hne (o := c) (n := s.n - c) (by rw [hfl]; omega) (by omega)
    rw [flatB, ← List.map_drop, List.take_of_length_le (by simp; omega), ← flatB] at this
    simpa using this
theorem Own.takeR (ho : Own T 1 encB lo h s xs) {c : Nat} (hc : c ≤ xs.length) : Own T 1 encB lo h ⟨s.a, c, s.c⟩ (xs.take c) := by
  have hV := ho.toV encB_len
  have hfl : (xs.flatMap encB).length = xs.length := by rw [flatB]; simp
  have := hV.takeV (i := c) (by rw [hfl]; exact hc)
  refine Own.ofV encB_len ?_
  rw [flatMap_take encB_len, Nat.mul_one]
  exact this
end
end Go.Lift

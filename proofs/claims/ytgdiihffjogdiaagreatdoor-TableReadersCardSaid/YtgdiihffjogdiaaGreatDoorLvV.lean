/- Parts of slices of one cell an element, put one behind the other. -/
import Derived.Test.YtgdiihffjogdiaaGreatDoorLvS
set_option linter.unusedSimpArgs false
set_option linter.unusedVariables false
namespace Go.Lift
open Go
section
variable {α : Type} {T : TypeId} {enc : α → List Value} {lo : Nat} {g : Hp} {s : Sl} {xs : List α}
theorem own_ltG {sz : Nat} (ho : Own T sz enc lo g s xs) : ∀ b ∈ sBlk s, lo ≤ b ∧ b < g.size := by
  intro b hb
  refine ⟨ho.blk b hb, ?_⟩
  obtain ⟨a, ha, hab⟩ := mem_sBlk.1 hb
  obtain ⟨b', c', q1, _, q3, _⟩ := ho.2.2 a ha
  have := blk_lt q3
  rw [q1] at hab
  simp at hab
  omega
variable {P : Program} {bytes : Nat} (hen : ∀ x, (enc x).length = 1) (hone : ∀ x, ∀ v ∈ enc x, oneCell v = true) (hz : (zc P T).size = 1) (hby : bytes ≤ 1024)
include hen hone hz hby
end
end Go.Lift

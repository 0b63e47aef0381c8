/- Parts of slices, and what is put behind them, for cells of any number. -/
import Derived.Test.YtgdiihffjogdiaaGreatDoorLvX
import Derived.Test.YtgdiihffjogdiaaGreatDoorLvV
set_option linter.unusedSimpArgs false
set_option linter.unusedVariables false
namespace Go.Lift
open Go
section
variable {α : Type} {T : TypeId} {sz : Nat} {enc : α → List Value} {g : Hp}
theorem bytes_le36 {bytes n : Nat} (hby : bytes ≤ 1024) (hn : n ≤ 2 ^ 36) : n * bytes ≤ 2 ^ 47 := by
  have := Nat.mul_le_mul hn hby
  have e : 2 ^ 36 * 1024 ≤ 2 ^ 47 := by decide
  omega
variable {P : Program} {bytes : Nat} (hen : ∀ x, (enc x).length = sz) (hone : ∀ x, ∀ v ∈ enc x, oneCell v = true) (hz : (zc P T).size = sz) (hby : bytes ≤ 1024)
include hen hone hz hby
/-- A cell's element, put behind one's own. -/
theorem oneG {lo' bk : Nat} {k : α} {l1 : Sl} {ys : List α} {K : Sl → Hp → Prop} (h1 : Own T sz enc lo' g l1 ys) (hb : Blk g bk (enc k).toArray T) (hly : ys.length ≤ 2 ^ 30) (hlo : lo' ≤ g.size)
    (H : ∀ s' g', Own T sz enc lo' g' s' (ys ++ [k]) → Ext (sBlk l1) g g' → (∀ b ∈ sBlk s', b ∈ sBlk l1 ∨ g.size ≤ b) → K s' g') :
    ∃ cs2 : List Value, cellsAt g (some ⟨bk, 0, none⟩) (1 * sz) cs2 ∧ appS P T bytes sz g ⟨l1.a, l1.n, l1.c⟩ 1 cs2 K := by
  have hn1 := h1.1
  refine ⟨enc k, ?_, ?_⟩
  · have := cellsAt_blk hb (o := 0) (n := 1 * sz) (by simp [hen])
    rw [List.drop_zero, List.take_of_length_le (by simp [hen])] at this
    exact this
  · exact app_own (ys := [k]) h1 hz hen (fun x _ => hone x) (by simp) rfl (bytes_le36 hby (by simp only; omega)) (by simp only; omega) hlo fun l2 g2 h2 he2 hn2 hb2 => H l2 g2 h2 he2 hb2
end
section
variable {α : Type} {T : TypeId} {sz : Nat} {enc : α → List Value} {lo : Nat} {g : Hp} {s : Sl} {xs : List α}
end
end Go.Lift

/- Doubles: the canonical ones, and their bits in order. -/
import Derived.Test.YtgmnomkhmdeapaaDoorK03a
import GoSem.Core.Float
set_option linter.unusedSimpArgs false
set_option linter.unusedVariables false
namespace Go.Lift
open Ieee
def nonD : Nat := 9221120237041090560
def allD : Nat := 18446744073709551616
def canonF (f : Nat) : Nat := if (FloatKind.format .f64).order f f != some .eq then 9221120237041090560 else if (FloatKind.format .f64).order f 0 == some .eq then 0 else f
def isF (f : Nat) : Bool := f == canonF f
def bitsF (f : Nat) : Nat := if sgnD ≤ canonF f then allD - 1 - canonF f else canonF f + sgnD
def fromF (u : Nat) : Nat := if sgnD ≤ u then u - sgnD else allD - 1 - u
def rankF (f : Nat) : Int := if nanD f = true then 1 else 0
def cmpF (a b : Nat) : Int := if rankF a ≠ rankF b then rankF a - rankF b else if rankF a = 1 then 0
  else if (FloatKind.format .f64).order a b == some .lt then -1 else if (FloatKind.format .f64).order a b == some .gt then 1 else 0
theorem fmt64 : FloatKind.format .f64 = double := rfl
theorem order_self (f : Nat) : ((FloatKind.format .f64).order f f != some .eq) = nanD f := by
  rw [fmt64]
  cases h : nanD f with
  | true => rw [order_nan (Or.inl h)]; rfl
  | false =>
    rw [order_double h h]
    have : compare (svD f) (svD f) = .eq := by simp [compare, compareOfLessAndEq]
    rw [this]
    rfl
theorem svD_zero {f : Nat} : svD f = 0 ↔ f % sgnD = 0 := by
  unfold svD
  have := valD_zero (r := f % sgnD)
  split <;> omega
theorem order_zero {f : Nat} (h : nanD f = false) : ((FloatKind.format .f64).order f 0 == some .eq) = decide (f % sgnD = 0) := by
  rw [fmt64, order_double h (by decide)]
  have h0 : svD 0 = 0 := svD_zero.2 rfl
  rw [h0, Bool.eq_iff_iff, decide_eq_true_eq, ← svD_zero]
  simp only [compare, compareOfLessAndEq]
  split
  · simp; omega
  · split
    · simpa
    · rename_i h1 h2
      constructor
      · intro e; cases e
      · intro e; exact absurd e h2
theorem canonF_eq (f : Nat) : canonF f = if nanD f = true then nonD else if f % sgnD = 0 then 0 else f := by
  unfold canonF
  rw [order_self]
  cases h : nanD f with
  | true => rfl
  | false =>
    rw [order_zero h]
    simp
theorem nanD_non : nanD nonD = true := by decide
theorem canonF_lt {f : Nat} (h : f < allD) : canonF f < allD := by
  rw [canonF_eq]
  split
  · decide
  · split
    · decide
    · exact h
theorem isF_iff {f : Nat} : isF f = true ↔ (nanD f = true → f = nonD) ∧ (f % sgnD = 0 → f = 0) := by
  unfold isF
  rw [beq_iff_eq, canonF_eq]
  cases h : nanD f with
  | true =>
    rw [if_pos rfl]
    constructor
    · intro e
      refine ⟨fun _ => e, fun h0 => ?_⟩
      subst e
      exact absurd h0 (by decide)
    · intro e
      exact e.1 rfl
  | false =>
    rw [if_neg (by decide)]
    split
    · rename_i h0
      constructor
      · intro e; exact ⟨fun h => (by cases h), fun _ => e⟩
      · intro e; exact e.2 h0
    · rename_i h0
      exact ⟨fun _ => ⟨fun h => (by cases h), fun h => absurd h h0⟩, fun _ => rfl⟩
theorem isF_canon {f : Nat} (h : isF f = true) : canonF f = f := by
  unfold isF at h
  rw [beq_iff_eq] at h
  exact h.symm
theorem bitsF_is {f : Nat} (h : isF f = true) : bitsF f = if sgnD ≤ f then allD - 1 - f else f + sgnD := by
  unfold bitsF
  rw [isF_canon h]
theorem bitsF_lt {f : Nat} (h : f < allD) : bitsF f < allD := by
  unfold bitsF
  have := canonF_lt h
  unfold allD sgnD at *
  split <;> omega
theorem fromF_lt {u : Nat} (h : u < allD) : fromF u < allD := by
  unfold fromF
  unfold allD sgnD at *
  split <;> omega
theorem from_bits {f : Nat} (hf : f < allD) (h : isF f = true) : fromF (bitsF f) = f := by
  rw [bitsF_is h]
  unfold fromF
  unfold allD sgnD at *
  split <;> split <;> omega
theorem bits_from {u : Nat} (hu : u < allD) (h : isF (fromF u) = true) : bitsF (fromF u) = u := by
  rw [bitsF_is h]
  unfold fromF
  unfold allD sgnD at *
  split <;> split <;> omega
theorem nan_lt {f : Nat} (hf : f < allD) (h : nanD f = false) : bitsF f < bitsF nonD := by
  have hn : bitsF nonD = nonD + sgnD := by rw [bitsF_is (by decide)]; rfl
  rw [hn]
  unfold bitsF
  rw [canonF_eq, h]
  simp only [Bool.false_eq_true, if_false]
  unfold nanD at h
  simp only [decide_eq_false_iff_not, Nat.not_lt] at h
  by_cases h0 : f % sgnD = 0
  · rw [if_pos h0]
    decide
  · rw [if_neg h0]
    unfold allD sgnD nonD infD at *
    split <;> omega
theorem negD_iff {f : Nat} (hf : f < allD) : negD f = true ↔ sgnD ≤ f := by
  unfold negD
  unfold allD sgnD at *
  rw [beq_iff_eq]
  omega
theorem num_part {a b : Nat} (ha : a < allD) (hb : b < allD) (h1 : isF a = true) (h2 : isF b = true) (n1 : nanD a = false) (n2 : nanD b = false) : svD a < svD b ↔ bitsF a < bitsF b := by
  have z1 := (isF_iff.1 h1).2
  have z2 := (isF_iff.1 h2).2
  rw [bitsF_is h1, bitsF_is h2]
  unfold svD
  have m1 : sgnD ≤ a → 0 < valD (a % sgnD) := fun hs => by
    have : valD (a % sgnD) ≠ 0 := fun e => by
      have := z1 (valD_zero.1 e)
      unfold sgnD at hs
      omega
    omega
  have m2 : sgnD ≤ b → 0 < valD (b % sgnD) := fun hs => by
    have : valD (b % sgnD) ≠ 0 := fun e => by
      have := z2 (valD_zero.1 e)
      unfold sgnD at hs
      omega
    omega
  have v1 := valD_iff (r := a % sgnD) (q := b % sgnD)
  have v2 := valD_iff (r := b % sgnD) (q := a % sgnD)
  by_cases s1 : sgnD ≤ a
  · rw [if_pos ((negD_iff ha).2 s1), if_pos s1]
    have := m1 s1
    by_cases s2 : sgnD ≤ b
    · rw [if_pos ((negD_iff hb).2 s2), if_pos s2]
      have e1 : a % sgnD = a - sgnD := by unfold allD sgnD at *; omega
      have e2 : b % sgnD = b - sgnD := by unfold allD sgnD at *; omega
      have w1 := valD_iff (r := b - sgnD) (q := a - sgnD)
      clear m1 m2 v1 v2 z1 z2 this
      rw [e1, e2]
      clear e1 e2
      generalize valD (a - sgnD) = p at w1 ⊢
      generalize valD (b - sgnD) = q at w1 ⊢
      unfold allD sgnD at *
      omega
    · rw [if_neg (fun h => s2 ((negD_iff hb).1 h)), if_neg s2]
      generalize valD (a % sgnD) = p at this ⊢
      generalize valD (b % sgnD) = q
      clear m1 m2 v1 v2 z1 z2
      unfold allD sgnD at *
      omega
  · rw [if_neg (fun h => s1 ((negD_iff ha).1 h)), if_neg s1]
    by_cases s2 : sgnD ≤ b
    · rw [if_pos ((negD_iff hb).2 s2), if_pos s2]
      have := m2 s2
      generalize valD (a % sgnD) = p
      generalize valD (b % sgnD) = q at this ⊢
      clear m1 m2 v1 v2 z1 z2
      unfold allD sgnD at *
      omega
    · rw [if_neg (fun h => s2 ((negD_iff hb).1 h)), if_neg s2]
      have e1 : a % sgnD = a := Nat.mod_eq_of_lt (by omega)
      have e2 : b % sgnD = b := Nat.mod_eq_of_lt (by omega)
      have w1 := valD_iff (r := a) (q := b)
      rw [e1, e2]
      omega
/-- The order of doubles is that of their bits. -/
theorem cmpF_tri {a b : Nat} (ha : a < allD) (hb : b < allD) (h1 : isF a = true) (h2 : isF b = true) : (cmpF a b = -1 ∧ bitsF a < bitsF b) ∨ (cmpF a b = 0 ∧ a = b) ∨ (cmpF a b = 1 ∧ bitsF b < bitsF a) := by
  unfold cmpF rankF
  cases n1 : nanD a with
  | true =>
    have e1 := (isF_iff.1 h1).1 n1
    cases n2 : nanD b with
    | true =>
      have e2 := (isF_iff.1 h2).1 n2
      right; left
      exact ⟨by simp, by rw [e1, e2]⟩
    | false =>
      right; right
      exact ⟨by simp, by rw [e1]; exact nan_lt hb n2⟩
  | false =>
    cases n2 : nanD b with
    | true =>
      have e2 := (isF_iff.1 h2).1 n2
      left
      exact ⟨by simp, by rw [e2]; exact nan_lt ha n1⟩
    | false =>
      have hp := num_part ha hb h1 h2 n1 n2
      have hq := num_part hb ha h2 h1 n2 n1
      rw [fmt64, order_double n1 n2]
      simp only [Bool.false_eq_true, if_false, ne_eq, not_true_eq_false]
      rcases Int.lt_trichotomy (svD a) (svD b) with g | g | g
      · left
        refine ⟨?_, hp.1 g⟩
        have : compare (svD a) (svD b) = .lt := by simp [compare, compareOfLessAndEq, g]
        rw [this]
        rfl
      · right; left
        have : compare (svD a) (svD b) = .eq := by simp [compare, compareOfLessAndEq, g]
        rw [this]
        refine ⟨rfl, ?_⟩
        have e : bitsF a = bitsF b := by
          have h3 : ¬ bitsF a < bitsF b := fun h => by have := hp.2 h; omega
          have h4 : ¬ bitsF b < bitsF a := fun h => by have := hq.2 h; omega
          omega
        rw [← from_bits ha h1, e, from_bits hb h2]
      · right; right
        refine ⟨?_, hq.1 g⟩
        have : compare (svD a) (svD b) = .gt := by
          simp only [compare, compareOfLessAndEq]
          rw [if_neg (by omega), if_neg (by omega)]
        rw [this]
        rfl
end Go.Lift

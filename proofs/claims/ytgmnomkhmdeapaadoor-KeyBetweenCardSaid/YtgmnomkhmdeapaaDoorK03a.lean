/- Doubles in their order: what the model's order of two words is, said of their bits. -/
import Derived.Laws.Sem
import Derived.Laws.FloatBits
set_option linter.unusedSimpArgs false
set_option linter.unusedVariables false
namespace Go.Lift
open Ieee
def binD : Nat := 4503599627370496
def sgnD : Nat := 9223372036854775808
def infD : Nat := 9218868437227405312
/-- The magnitude of a rung, in units of the least one. -/
def valD (r : Nat) : Nat := if r < binD then r else (binD + r % binD) * 2 ^ (r / binD - 1)
def exD (r : Nat) : Nat := if r < binD then 0 else r / binD - 1
def maD (r : Nat) : Nat := if r < binD then r else binD + r % binD
theorem valD_eq (r : Nat) : valD r = maD r * 2 ^ exD r := by
  unfold valD maD exD
  split
  · simp
  · rfl
theorem maD_pos {r : Nat} (h : 0 < r) : 0 < maD r := by
  unfold maD binD
  split <;> omega
theorem valD_lt {r : Nat} : valD r < 2 ^ (52 + r / binD) := by
  unfold valD
  split
  · rename_i h
    have : r / binD = 0 := Nat.div_eq_of_lt h
    rw [this]
    exact h
  · rename_i h
    have h1 : 1 ≤ r / binD := (Nat.one_le_div_iff (by decide)).2 (by omega)
    have h2 : r % binD < binD := Nat.mod_lt _ (by decide)
    have h3 : 52 + r / binD = 53 + (r / binD - 1) := by omega
    rw [h3, Nat.pow_add]
    refine Nat.mul_lt_mul_of_pos_right ?_ (Nat.two_pow_pos _)
    unfold binD at *
    omega
theorem valD_ge {r : Nat} (h : binD ≤ r) : 2 ^ (52 + (r / binD - 1)) ≤ valD r := by
  unfold valD
  rw [if_neg (by omega), Nat.pow_add]
  refine Nat.mul_le_mul_right _ ?_
  unfold binD
  omega
theorem valD_mono {r q : Nat} (h : r < q) : valD r < valD q := by
  by_cases hq : q < binD
  · unfold valD
    rw [if_pos hq, if_pos (by omega)]
    exact h
  · have hq1 : 1 ≤ q / binD := (Nat.one_le_div_iff (by decide)).2 (by omega)
    have hd : r / binD ≤ q / binD := Nat.div_le_div_right (by omega)
    rcases Nat.lt_or_ge (r / binD) (q / binD) with g | g
    · refine Nat.lt_of_lt_of_le (valD_lt (r := r)) (Nat.le_trans ?_ (valD_ge (by omega)))
      exact Nat.pow_le_pow_right (by decide) (by omega)
    · have he : r / binD = q / binD := by omega
      have hr : ¬ r < binD := fun hr => by rw [Nat.div_eq_of_lt hr] at he; omega
      unfold valD
      rw [if_neg hr, if_neg hq, he]
      refine Nat.mul_lt_mul_of_pos_right ?_ (Nat.two_pow_pos _)
      have h1 := Nat.div_add_mod r binD
      have h2 := Nat.div_add_mod q binD
      rw [he] at h1
      omega
theorem valD_iff {r q : Nat} : valD r < valD q ↔ r < q := by
  constructor
  · intro h
    apply Classical.byContradiction
    intro hn
    rcases Nat.lt_or_ge q r with g | g
    · have := valD_mono g
      omega
    · have : r = q := by omega
      subst this
      omega
  · exact valD_mono
theorem valD_inj {r q : Nat} (h : valD r = valD q) : r = q := by
  rcases Nat.lt_trichotomy r q with g | g | g
  · have := valD_mono g; omega
  · exact g
  · have := valD_mono g; omega
theorem valD_zero {r : Nat} : valD r = 0 ↔ r = 0 := by
  constructor
  · intro h
    have : valD r = valD 0 := by rw [h]; rfl
    exact valD_inj this
  · rintro rfl; rfl
def nanD (x : Nat) : Bool := decide (infD < x % sgnD)
def negD (x : Nat) : Bool := x / sgnD % 2 == 1
/-- A word's value with its sign, in units of the least one. -/
def svD (x : Nat) : Int := if negD x = true then -(valD (x % sgnD) : Int) else valD (x % sgnD)
theorem exp_double : double.binade = binD ∧ double.signWeight = sgnD ∧ double.infRung = infD := by decide
theorem read_double (x : Nat) : double.read x = (if x % sgnD < infD then .number (negD x) (maD (x % sgnD)) (double.leastPlace + (exD (x % sgnD) : Nat)) else if x % sgnD = infD then .infinity (negD x) else .nan (negD x) (x % sgnD - infD)) := by
  unfold Format.read
  rw [exp_double.1, exp_double.2.1, exp_double.2.2]
  simp only
  unfold maD exD negD
  by_cases h : x % sgnD < binD
  · rw [if_pos h, if_pos (by unfold binD infD at *; omega), if_pos h, if_pos h]
    simp
  · rw [if_neg h, if_neg h, if_neg h]
theorem cmp_mul (a b c : Int) (hc : 0 < c) : compare (a * c) (b * c) = compare a b := by
  have h1 : (a * c < b * c) ↔ a < b := ⟨fun h => Int.lt_of_mul_lt_mul_right h (by omega), fun h => Int.mul_lt_mul_of_pos_right h hc⟩
  have h2 : (a * c = b * c) ↔ a = b := ⟨fun h => Int.eq_of_mul_eq_mul_right (by omega) h, fun h => by rw [h]⟩
  simp only [compare, compareOfLessAndEq, h1, h2]
theorem signed_mul (s : Bool) (m e b : Nat) (h : b ≤ e) : signed s m (((e : Int) - (b : Int)).toNat) * (2 ^ b : Nat) = if s = true then -((m * 2 ^ e : Nat) : Int) else ((m * 2 ^ e : Nat) : Int) := by
  have h1 : ((e : Int) - (b : Int)).toNat = e - b := by omega
  rw [h1]
  have h2 : m * 2 ^ (e - b) * 2 ^ b = m * 2 ^ e := by rw [Nat.mul_assoc, ← Nat.pow_add, Nat.sub_add_cancel h]
  unfold signed
  cases s
  · simp only [Nat.shiftLeft_eq, Bool.false_eq_true, if_false]
    rw [← h2]
    push_cast
    rfl
  · simp only [Nat.shiftLeft_eq, if_true]
    rw [← h2]
    push_cast
    rw [Int.neg_mul]
theorem order_double {x y : Nat} (hx : nanD x = false) (hy : nanD y = false) : double.order x y = some (compare (svD x) (svD y)) := by
  unfold Format.order
  rw [read_double, read_double]
  unfold nanD at hx hy
  simp only [decide_eq_false_iff_not, Nat.not_lt] at hx hy
  have hpos : ∀ {r : Nat}, r < infD → valD r < valD infD := fun h => valD_mono h
  have sv_inf : ∀ {x : Nat}, x % sgnD = infD → svD x = if negD x = true then -(valD infD : Int) else valD infD := by
    intro x h
    unfold svD
    rw [h]
  by_cases h1 : x % sgnD < infD
  · rw [if_pos h1]
    by_cases h2 : y % sgnD < infD
    · rw [if_pos h2]
      simp only [Datum.order]
      congr 1
      have hmin : ∀ a b : Nat, min (double.leastPlace + (a : Nat)) (double.leastPlace + (b : Nat)) = double.leastPlace + ((min a b : Nat) : Int) := by
        intro a b
        omega
      rw [hmin]
      have hs : ∀ a b : Nat, (double.leastPlace + (a : Int) - (double.leastPlace + (b : Int))) = (a : Int) - (b : Int) := by intro a b; omega
      rw [hs, hs]
      rw [← cmp_mul _ _ ((2 ^ (min (exD (x % sgnD)) (exD (y % sgnD))) : Nat) : Int) (by have := Nat.two_pow_pos (min (exD (x % sgnD)) (exD (y % sgnD))); omega)]
      rw [signed_mul _ _ _ _ (Nat.min_le_left _ _), signed_mul _ _ _ _ (Nat.min_le_right _ _), ← valD_eq, ← valD_eq]
      rfl
    · have hyi : y % sgnD = infD := by omega
      rw [if_neg h2, if_pos hyi]
      simp only [Datum.order]
      rw [sv_inf hyi]
      have := hpos h1
      congr 1
      unfold svD
      cases negD y <;> cases negD x <;> simp only [if_true, if_false, Bool.false_eq_true] <;> symm
      · exact Int.compare_eq_lt.2 (by omega)
      · exact Int.compare_eq_lt.2 (by omega)
      · exact Int.compare_eq_gt.2 (by omega)
      · exact Int.compare_eq_gt.2 (by omega)
  · have hxi : x % sgnD = infD := by omega
    rw [if_neg h1, if_pos hxi, sv_inf hxi]
    by_cases h2 : y % sgnD < infD
    · rw [if_pos h2]
      simp only [Datum.order]
      have := hpos h2
      congr 1
      unfold svD
      cases negD y <;> cases negD x <;> simp only [if_true, if_false, Bool.false_eq_true] <;> symm
      · exact Int.compare_eq_gt.2 (by omega)
      · exact Int.compare_eq_lt.2 (by omega)
      · exact Int.compare_eq_gt.2 (by omega)
      · exact Int.compare_eq_lt.2 (by omega)
    · have hyi : y % sgnD = infD := by omega
      rw [if_neg h2, if_pos hyi, sv_inf hyi]
      simp only [Datum.order]
      have hp : 0 < valD infD := by
        have := valD_mono (r := 0) (q := infD) (by decide)
        omega
      congr 1
      cases negD y <;> cases negD x <;> simp only [if_true, if_false, Bool.false_eq_true] <;> symm
      · exact Int.compare_eq_eq.2 rfl
      · exact Int.compare_eq_lt.2 (by omega)
      · exact Int.compare_eq_gt.2 (by omega)
      · exact Int.compare_eq_eq.2 rfl
theorem order_nan {x y : Nat} (h : nanD x = true ∨ nanD y = true) : double.order x y = none := by
  unfold Format.order
  rw [read_double, read_double]
  unfold nanD at h
  simp only [decide_eq_true_eq] at h
  rcases h with h | h
  · rw [if_neg (by omega), if_neg (by omega)]
    rfl
  · rw [if_neg (c := y % sgnD < infD) (by omega), if_neg (c := y % sgnD = infD) (by omega)]
    split
    · rfl
    · split <;> rfl
end Go.Lift

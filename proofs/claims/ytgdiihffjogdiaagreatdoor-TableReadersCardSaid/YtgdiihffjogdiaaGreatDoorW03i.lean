/- Doubles in their order: what the model's order of two words is, said of their bits. -/
import Derived.Laws.Sem
import Derived.Laws.FloatBits
import Derived.Test.YtgdiihffjogdiaaGreatDoorW06a
import GoSem.Core.Float
import Derived.Test.YtgdiihffjogdiaaGreatDoorLvD
import Derived.Test.YtgdiihffjogdiaaGreatDoorLf
import Derived.Test.YtgdiihffjogdiaaGreatDoorSh
import Derived.Test.YtgdiihffjogdiaaGreatDoorLvZ
import Derived.Test.YtgdiihffjogdiaaGreatDoorL10u
import Derived.Lib.IndexLaws
set_option linter.unusedSimpArgs false
set_option linter.unusedVariables false
namespace Go.Lift.X
open Ieee
def binD : Nat := 4503599627370496
def sgnD : Nat := 9223372036854775808
def infD : Nat := 9218868437227405312
/-- The magnitude of a rung, in units of the least one. -/
def valD (r : Nat) : Nat := if r < binD then r else (binD + r % binD) * 2 ^ (r / binD - 1)
def exD (r : Nat) : Nat := if r < binD then 0 else r / binD - 1
def maD (r : Nat) : Nat := if r < binD then r else binD + r % binD
theorem valD_eq (r : Nat) : valD r = maD r * 2 ^ exD r := by
  unfold valD maD exD
  split
  · simp
  · rfl
theorem valD_lt {r : Nat} : valD r < 2 ^ (52 + r / binD) := by
  unfold valD
  split
  · rename_i h
    have : r / binD = 0 := Nat.div_eq_of_lt h
    rw [this]
    exact h
  · rename_i h
    have h1 : 1 ≤ r / binD := (Nat.one_le_div_iff (by decide)).2 (by omega)
    have h2 : r % binD < binD := Nat.mod_lt _ (by decide)
    have h3 : 52 + r / binD = 53 + (r / binD - 1) := by omega
    rw [h3, Nat.pow_add]
    refine Nat.mul_lt_mul_of_pos_right ?_ (Nat.two_pow_pos _)
    unfold binD at *
    omega
theorem valD_ge {r : Nat} (h : binD ≤ r) : 2 ^ (52 + (r / binD - 1)) ≤ valD r := by
  unfold valD
  rw [if_neg (by omega), Nat.pow_add]
  refine Nat.mul_le_mul_right _ ?_
  unfold binD
  omega
theorem valD_mono {r q : Nat} (h : r < q) : valD r < valD q := by
  by_cases hq : q < binD
  · unfold valD
    rw [if_pos hq, if_pos (by omega)]
    exact h
  · have hq1 : 1 ≤ q / binD := (Nat.one_le_div_iff (by decide)).2 (by omega)
    have hd : r / binD ≤ q / binD := Nat.div_le_div_right (by omega)
    rcases Nat.lt_or_ge (r / binD) (q / binD) with g | g
    · refine Nat.lt_of_lt_of_le (valD_lt (r := r)) (Nat.le_trans ?_ (valD_ge (by omega)))
      exact Nat.pow_le_pow_right (by decide) (by omega)
    · have he : r / binD = q / binD := by omega
      have hr : ¬ r < binD := fun hr => by rw [Nat.div_eq_of_lt hr] at he; omega
      unfold valD
      rw [if_neg hr, if_neg hq, he]
      refine Nat.mul_lt_mul_of_pos_right ?_ (Nat.two_pow_pos _)
      have h1 := Nat.div_add_mod r binD
      have h2 := Nat.div_add_mod q binD
      rw [he] at h1
      omega
theorem valD_iff {r q : Nat} : valD r < valD q ↔ r < q := by
  constructor
  · intro h
    apply Classical.byContradiction
    intro hn
    rcases Nat.lt_or_ge q r with g | g
    · have := valD_mono g
      omega
    · have : r = q := by omega
      subst this
      omega
  · exact valD_mono
theorem valD_inj {r q : Nat} (h : valD r = valD q) : r = q := by
  rcases Nat.lt_trichotomy r q with g | g | g
  · have := valD_mono g; omega
  · exact g
  · have := valD_mono g; omega
theorem valD_zero {r : Nat} : valD r = 0 ↔ r = 0 := by
  constructor
  · intro h
    have : valD r = valD 0 := by rw [h]; rfl
    exact valD_inj this
  · rintro rfl; rfl
def nanD (x : Nat) : Bool := decide (infD < x % sgnD)
def negD (x : Nat) : Bool := x / sgnD % 2 == 1
/-- A word's value with its sign, in units of the least one. -/
def svD (x : Nat) : Int := if negD x = true then -(valD (x % sgnD) : Int) else valD (x % sgnD)
theorem exp_double : double.binade = binD ∧ double.signWeight = sgnD ∧ double.infRung = infD := by decide
theorem read_double (x : Nat) : double.read x = (if x % sgnD < infD then .number (negD x) (maD (x % sgnD)) (double.leastPlace + (exD (x % sgnD) : Nat)) else if x % sgnD = infD then .infinity (negD x) else .nan (negD x) (x % sgnD - infD)) := by
  unfold Format.read
  rw [exp_double.1, exp_double.2.1, exp_double.2.2]
  simp only
  unfold maD exD negD
  by_cases h : x % sgnD < binD
  · rw [if_pos h, if_pos (by unfold binD infD at *; omega), if_pos h, if_pos h]
    simp
  · rw [if_neg h, if_neg h, if_neg h]
theorem cmp_mul (a b c : Int) (hc : 0 < c) : compare (a * c) (b * c) = compare a b := by
  have h1 : (a * c < b * c) ↔ a < b := ⟨fun h => Int.lt_of_mul_lt_mul_right h (by omega), fun h => Int.mul_lt_mul_of_pos_right h hc⟩
  have h2 : (a * c = b * c) ↔ a = b := ⟨fun h => Int.eq_of_mul_eq_mul_right (by omega) h, fun h => by rw [h]⟩
  simp only [compare, compareOfLessAndEq, h1, h2]
theorem signed_mul (s : Bool) (m e b : Nat) (h : b ≤ e) : signed s m (((e : Int) - (b : Int)).toNat) * (2 ^ b : Nat) = if s = true then -((m * 2 ^ e : Nat) : Int) else ((m * 2 ^ e : Nat) : Int) := by
  have h1 : ((e : Int) - (b : Int)).toNat = e - b := by omega
  rw [h1]
  have h2 : m * 2 ^ (e - b) * 2 ^ b = m * 2 ^ e := by rw [Nat.mul_assoc, ← Nat.pow_add, Nat.sub_add_cancel h]
  unfold signed
  cases s
  · simp only [Nat.shiftLeft_eq, Bool.false_eq_true, if_false]
    rw [← h2]
    push_cast
    rfl
  · simp only [Nat.shiftLeft_eq, if_true]
    rw [← h2]
    push_cast
    rw [Int.neg_mul]
theorem order_double {x y : Nat} (hx : nanD x = false) (hy : nanD y = false) : double.order x y = some (compare (svD x) (svD y)) := by
  unfold Format.order
  rw [read_double, read_double]
  unfold nanD at hx hy
  simp only [decide_eq_false_iff_not, Nat.not_lt] at hx hy
  have hpos : ∀ {r : Nat}, r < infD → valD r < valD infD := fun h => valD_mono h
  have sv_inf : ∀ {x : Nat}, x % sgnD = infD → svD x = if negD x = true then -(valD infD : Int) else valD infD := by
    intro x h
    unfold svD
    rw [h]
  by_cases h1 : x % sgnD < infD
  · rw [if_pos h1]
    by_cases h2 : y % sgnD < infD
    · rw [if_pos h2]
      simp only [Datum.order]
      congr 1
      have hmin : ∀ a b : Nat, min (double.leastPlace + (a : Nat)) (double.leastPlace + (b : Nat)) = double.leastPlace + ((min a b : Nat) : Int) := by
        intro a b
        omega
      rw [hmin]
      have hs : ∀ a b : Nat, (double.leastPlace + (a : Int) - (double.leastPlace + (b : Int))) = (a : Int) - (b : Int) := by intro a b; omega
      rw [hs, hs]
      rw [← cmp_mul _ _ ((2 ^ (min (exD (x % sgnD)) (exD (y % sgnD))) : Nat) : Int) (by have := Nat.two_pow_pos (min (exD (x % sgnD)) (exD (y % sgnD))); omega)]
      rw [signed_mul _ _ _ _ (Nat.min_le_left _ _), signed_mul _ _ _ _ (Nat.min_le_right _ _), ← valD_eq, ← valD_eq]
      rfl
    · have hyi : y % sgnD = infD := by omega
      rw [if_neg h2, if_pos hyi]
      simp only [Datum.order]
      rw [sv_inf hyi]
      have := hpos h1
      congr 1
      unfold svD
      cases negD y <;> cases negD x <;> simp only [if_true, if_false, Bool.false_eq_true] <;> symm
      · exact Int.compare_eq_lt.2 (by omega)
      · exact Int.compare_eq_lt.2 (by omega)
      · exact Int.compare_eq_gt.2 (by omega)
      · exact Int.compare_eq_gt.2 (by omega)
  · have hxi : x % sgnD = infD := by omega
    rw [if_neg h1, if_pos hxi, sv_inf hxi]
    by_cases h2 : y % sgnD < infD
    · rw [if_pos h2]
      simp only [Datum.order]
      have := hpos h2
      congr 1
      unfold svD
      cases negD y <;> cases negD x <;> simp only [if_true, if_false, Bool.false_eq_true] <;> symm
      · exact Int.compare_eq_gt.2 (by omega)
      · exact Int.compare_eq_lt.2 (by omega)
      · exact Int.compare_eq_gt.2 (by omega)
      · exact Int.compare_eq_lt.2 (by omega)
    · have hyi : y % sgnD = infD := by omega
      rw [if_neg h2, if_pos hyi, sv_inf hyi]
      simp only [Datum.order]
      have hp : 0 < valD infD := by
        have := valD_mono (r := 0) (q := infD) (by decide)
        omega
      congr 1
      cases negD y <;> cases negD x <;> simp only [if_true, if_false, Bool.false_eq_true] <;> symm
      · exact Int.compare_eq_eq.2 rfl
      · exact Int.compare_eq_lt.2 (by omega)
      · exact Int.compare_eq_gt.2 (by omega)
      · exact Int.compare_eq_eq.2 rfl
theorem order_nan {x y : Nat} (h : nanD x = true ∨ nanD y = true) : double.order x y = none := by
  unfold Format.order
  rw [read_double, read_double]
  unfold nanD at h
  simp only [decide_eq_true_eq] at h
  rcases h with h | h
  · rw [if_neg (by omega), if_neg (by omega)]
    rfl
  · rw [if_neg (c := y % sgnD < infD) (by omega), if_neg (c := y % sgnD = infD) (by omega)]
    split
    · rfl
    · split <;> rfl
end Go.Lift.X
namespace Go.Lift.X
/-- Two texts part at a byte, and the first one has the lower one there. -/
inductive PartL : List UInt8 → List UInt8 → Prop where
  | here {c d : UInt8} {x y : List UInt8} : c < d → PartL (c :: x) (d :: y)
  | next {c : UInt8} {x y : List UInt8} : PartL x y → PartL (c :: x) (c :: y)
theorem PartL.app {x y : List UInt8} (h : PartL x y) (u v : List UInt8) : PartL (x ++ u) (y ++ v) := by
  induction h with
  | here h => exact .here h
  | next _ ih => exact .next ih
theorem PartL.pre {x y : List UInt8} (h : PartL x y) (p : List UInt8) : PartL (p ++ x) (p ++ y) := by
  induction p with
  | nil => exact h
  | cons c p ih => exact .next ih
theorem PartL.lt {x y : List UInt8} (h : PartL x y) : x < y := by
  induction h with
  | here h => exact List.cons_lt_cons_iff.2 (Or.inl h)
  | next _ ih => exact List.cons_lt_cons_iff.2 (Or.inr ⟨rfl, ih⟩)
theorem PartL.ne {x y : List UInt8} (h : PartL x y) : x ≠ y := by
  intro e
  subst e
  have := h.lt
  exact List.lt_irrefl _ this
/-- The k bytes of a number, the highest first. -/
def beL : Nat → Nat → List UInt8
  | 0, _ => []
  | k + 1, u => UInt8.ofNat (u / 256 ^ k % 256) :: beL k u
theorem beL_len (k u : Nat) : (beL k u).length = k := by
  induction k with
  | zero => rfl
  | succ k ih => simp [beL, ih]
theorem beL_mod (k u : Nat) : beL k (u % 256 ^ k) = beL k u := by
  have gen : ∀ k m, k ≤ m → beL k (u % 256 ^ m) = beL k u := by
    intro k
    induction k with
    | zero => intro m _; rfl
    | succ k ih =>
      intro m hm
      unfold beL
      rw [ih m (by omega)]
      congr 2
      have h1 : 256 ^ m = 256 ^ k * 256 ^ (m - k) := by rw [← Nat.pow_add]; congr 1; omega
      rw [h1, Nat.mod_mul_right_div_self]
      obtain ⟨j, hj⟩ : ∃ j, m - k = j + 1 := ⟨m - k - 1, by omega⟩
      rw [hj, Nat.pow_succ, Nat.mod_mul_left_mod]
  exact gen k k (Nat.le_refl _)
theorem ofNat_lt {a b : Nat} (hb : b < 256) (h : a < b) : UInt8.ofNat a < UInt8.ofNat b := by
  rw [UInt8.lt_iff_toNat_lt, UInt8.toNat_ofNat', UInt8.toNat_ofNat']
  omega
theorem beL_part {k u w : Nat} (hu : u < 256 ^ k) (hw : w < 256 ^ k) (h : u < w) : PartL (beL k u) (beL k w) := by
  induction k generalizing u w with
  | zero => simp at hu hw; omega
  | succ k ih =>
    unfold beL
    have hp : 0 < 256 ^ k := Nat.pow_pos (by decide)
    rw [Nat.pow_succ] at hu hw
    have hu2 : u / 256 ^ k < 256 := (Nat.div_lt_iff_lt_mul hp).2 (by rw [Nat.mul_comm]; exact hu)
    have hw2 : w / 256 ^ k < 256 := (Nat.div_lt_iff_lt_mul hp).2 (by rw [Nat.mul_comm]; exact hw)
    rw [Nat.mod_eq_of_lt hu2, Nat.mod_eq_of_lt hw2]
    have hle : u / 256 ^ k ≤ w / 256 ^ k := Nat.div_le_div_right (by omega)
    rcases Nat.lt_or_ge (u / 256 ^ k) (w / 256 ^ k) with g | g
    · exact .here (ofNat_lt hw2 g)
    · have he : u / 256 ^ k = w / 256 ^ k := by omega
      rw [he]
      refine .next ?_
      rw [← beL_mod k u, ← beL_mod k w]
      refine ih (Nat.mod_lt _ hp) (Nat.mod_lt _ hp) ?_
      have h1 := Nat.div_add_mod u (256 ^ k)
      have h2 := Nat.div_add_mod w (256 ^ k)
      rw [he] at h1
      omega
/-- The number of bytes. -/
def numL (l : List UInt8) : Nat := l.foldl (fun u c => u * 256 + c.toNat) 0
theorem numL_foldl (l : List UInt8) (a : Nat) : l.foldl (fun u c => u * 256 + c.toNat) a = a * 256 ^ l.length + numL l := by
  unfold numL
  induction l generalizing a with
  | nil => simp
  | cons c l ih =>
    rw [List.foldl_cons, List.foldl_cons, ih, ih (0 * 256 + c.toNat), List.length_cons, Nat.pow_succ]
    rw [Nat.add_mul, Nat.zero_mul, Nat.zero_add, Nat.mul_assoc, Nat.mul_comm 256, Nat.add_assoc]
theorem numL_cons (c : UInt8) (l : List UInt8) : numL (c :: l) = c.toNat * 256 ^ l.length + numL l := by
  show (c :: l).foldl _ 0 = _
  rw [List.foldl_cons, numL_foldl]
  simp
theorem numL_lt (l : List UInt8) : numL l < 256 ^ l.length := by
  induction l with
  | nil => simp [numL]
  | cons c l ih =>
    rw [numL_cons, List.length_cons, Nat.pow_succ]
    have hc : c.toNat ≤ 255 := by have := c.toNat_lt; omega
    have := Nat.mul_le_mul_right (256 ^ l.length) hc
    omega
theorem num_beL {k u : Nat} (hu : u < 256 ^ k) : numL (beL k u) = u := by
  induction k generalizing u with
  | zero => simp at hu; subst hu; rfl
  | succ k ih =>
    unfold beL
    have hp : 0 < 256 ^ k := Nat.pow_pos (by decide)
    rw [Nat.pow_succ] at hu
    have hu2 : u / 256 ^ k < 256 := (Nat.div_lt_iff_lt_mul hp).2 (by rw [Nat.mul_comm]; exact hu)
    rw [numL_cons, beL_len, ← beL_mod k u, ih (Nat.mod_lt _ hp), UInt8.toNat_ofNat', Nat.mod_eq_of_lt hu2, Nat.mod_eq_of_lt (by omega)]
    have := Nat.div_add_mod u (256 ^ k)
    rw [Nat.mul_comm] at this
    exact this
/-! texts -/
def escL (l : List UInt8) : List UInt8 := l.flatMap fun c => if c = 0 then [0, 255] else [c]
def endL2 : List UInt8 := [0, 1]
theorem escL_cons (c : UInt8) (l : List UInt8) : escL (c :: l) = (if c = 0 then [0, 255] else [c]) ++ escL l := rfl
theorem zero_lt8 {c : UInt8} (h : c ≠ 0) : (0 : UInt8) < c := by
  rw [UInt8.lt_iff_toNat_lt]
  have : c.toNat ≠ 0 := fun e => h (UInt8.toNat_inj.1 (by rw [e]; rfl))
  show 0 < c.toNat
  omega
theorem esc_part {s t : List UInt8} (h : s < t) : PartL (escL s ++ endL2) (escL t ++ endL2) := by
  induction t generalizing s with
  | nil => cases s <;> simp at h
  | cons b t ih =>
    cases s with
    | nil =>
      rw [escL_cons]
      by_cases hb : b = 0
      · subst hb
        exact .next (.here (by decide))
      · rw [if_neg hb]
        exact .here (zero_lt8 hb)
    | cons a s =>
      rw [escL_cons, escL_cons]
      rcases List.cons_lt_cons_iff.1 h with g | ⟨rfl, g⟩
      · have hb : b ≠ 0 := fun e => by subst e; rw [UInt8.lt_iff_toNat_lt] at g; simp at g
        rw [if_neg hb]
        by_cases ha : a = 0
        · subst ha
          exact .here (zero_lt8 hb)
        · rw [if_neg ha]
          exact .here g
      · rw [List.append_assoc, List.append_assoc]
        exact (ih g).pre _
end Go.Lift.X
namespace Go.Lift.X
open Ieee
def nonD : Nat := 9221120237041090560
def allD : Nat := 18446744073709551616
def canonF (f : Nat) : Nat := if (FloatKind.format .f64).order f f != some .eq then 9221120237041090560 else if (FloatKind.format .f64).order f 0 == some .eq then 0 else f
def isF (f : Nat) : Bool := f == canonF f
def bitsF (f : Nat) : Nat := if sgnD ≤ canonF f then allD - 1 - canonF f else canonF f + sgnD
def fromF (u : Nat) : Nat := if sgnD ≤ u then u - sgnD else allD - 1 - u
def rankF (f : Nat) : Int := if nanD f = true then 1 else 0
def cmpF (a b : Nat) : Int := if rankF a ≠ rankF b then rankF a - rankF b else if rankF a = 1 then 0
  else if (FloatKind.format .f64).order a b == some .lt then -1 else if (FloatKind.format .f64).order a b == some .gt then 1 else 0
theorem fmt64 : FloatKind.format .f64 = double := rfl
theorem order_self (f : Nat) : ((FloatKind.format .f64).order f f != some .eq) = nanD f := by
  rw [fmt64]
  cases h : nanD f with
  | true => rw [order_nan (Or.inl h)]; rfl
  | false =>
    rw [order_double h h]
    have : compare (svD f) (svD f) = .eq := by simp [compare, compareOfLessAndEq]
    rw [this]
    rfl
theorem svD_zero {f : Nat} : svD f = 0 ↔ f % sgnD = 0 := by
  unfold svD
  have := valD_zero (r := f % sgnD)
  split <;> omega
theorem order_zero {f : Nat} (h : nanD f = false) : ((FloatKind.format .f64).order f 0 == some .eq) = decide (f % sgnD = 0) := by
  rw [fmt64, order_double h (by decide)]
  have h0 : svD 0 = 0 := svD_zero.2 rfl
  rw [h0, Bool.eq_iff_iff, decide_eq_true_eq, ← svD_zero]
  simp only [compare, compareOfLessAndEq]
  split
  · simp; omega
  · split
    · simpa
    · rename_i h1 h2
      constructor
      · intro e; cases e
      · intro e; exact absurd e h2
theorem canonF_eq (f : Nat) : canonF f = if nanD f = true then nonD else if f % sgnD = 0 then 0 else f := by
  unfold canonF
  rw [order_self]
  cases h : nanD f with
  | true => rfl
  | false =>
    rw [order_zero h]
    simp
theorem canonF_lt {f : Nat} (h : f < allD) : canonF f < allD := by
  rw [canonF_eq]
  split
  · decide
  · split
    · decide
    · exact h
theorem isF_iff {f : Nat} : isF f = true ↔ (nanD f = true → f = nonD) ∧ (f % sgnD = 0 → f = 0) := by
  unfold isF
  rw [beq_iff_eq, canonF_eq]
  cases h : nanD f with
  | true =>
    rw [if_pos rfl]
    constructor
    · intro e
      refine ⟨fun _ => e, fun h0 => ?_⟩
      subst e
      exact absurd h0 (by decide)
    · intro e
      exact e.1 rfl
  | false =>
    rw [if_neg (by decide)]
    split
    · rename_i h0
      constructor
      · intro e; exact ⟨fun h => (by cases h), fun _ => e⟩
      · intro e; exact e.2 h0
    · rename_i h0
      exact ⟨fun _ => ⟨fun h => (by cases h), fun h => absurd h h0⟩, fun _ => rfl⟩
theorem isF_canon {f : Nat} (h : isF f = true) : canonF f = f := by
  unfold isF at h
  rw [beq_iff_eq] at h
  exact h.symm
theorem bitsF_is {f : Nat} (h : isF f = true) : bitsF f = if sgnD ≤ f then allD - 1 - f else f + sgnD := by
  unfold bitsF
  rw [isF_canon h]
theorem bitsF_lt {f : Nat} (h : f < allD) : bitsF f < allD := by
  unfold bitsF
  have := canonF_lt h
  unfold allD sgnD at *
  split <;> omega
theorem from_bits {f : Nat} (hf : f < allD) (h : isF f = true) : fromF (bitsF f) = f := by
  rw [bitsF_is h]
  unfold fromF
  unfold allD sgnD at *
  split <;> split <;> omega
theorem nan_lt {f : Nat} (hf : f < allD) (h : nanD f = false) : bitsF f < bitsF nonD := by
  have hn : bitsF nonD = nonD + sgnD := by rw [bitsF_is (by decide)]; rfl
  rw [hn]
  unfold bitsF
  rw [canonF_eq, h]
  simp only [Bool.false_eq_true, if_false]
  unfold nanD at h
  simp only [decide_eq_false_iff_not, Nat.not_lt] at h
  by_cases h0 : f % sgnD = 0
  · rw [if_pos h0]
    decide
  · rw [if_neg h0]
    unfold allD sgnD nonD infD at *
    split <;> omega
theorem negD_iff {f : Nat} (hf : f < allD) : negD f = true ↔ sgnD ≤ f := by
  unfold negD
  unfold allD sgnD at *
  rw [beq_iff_eq]
  omega
theorem num_part {a b : Nat} (ha : a < allD) (hb : b < allD) (h1 : isF a = true) (h2 : isF b = true) (n1 : nanD a = false) (n2 : nanD b = false) : svD a < svD b ↔ bitsF a < bitsF b := by
  have z1 := (isF_iff.1 h1).2
  have z2 := (isF_iff.1 h2).2
  rw [bitsF_is h1, bitsF_is h2]
  unfold svD
  have m1 : sgnD ≤ a → 0 < valD (a % sgnD) := fun hs => by
    have : valD (a % sgnD) ≠ 0 := fun e => by
      have := z1 (valD_zero.1 e)
      unfold sgnD at hs
      omega
    omega
  have m2 : sgnD ≤ b → 0 < valD (b % sgnD) := fun hs => by
    have : valD (b % sgnD) ≠ 0 := fun e => by
      have := z2 (valD_zero.1 e)
      unfold sgnD at hs
      omega
    omega
  have v1 := valD_iff (r := a % sgnD) (q := b % sgnD)
  have v2 := valD_iff (r := b % sgnD) (q := a % sgnD)
  by_cases s1 : sgnD ≤ a
  · rw [if_pos ((negD_iff ha).2 s1), if_pos s1]
    have := m1 s1
    by_cases s2 : sgnD ≤ b
    · rw [if_pos ((negD_iff hb).2 s2), if_pos s2]
      have e1 : a % sgnD = a - sgnD := by unfold allD sgnD at *; omega
      have e2 : b % sgnD = b - sgnD := by unfold allD sgnD at *; omega
      have w1 := valD_iff (r := b - sgnD) (q := a - sgnD)
      clear m1 m2 v1 v2 z1 z2 this
      rw [e1, e2]
      clear e1 e2
      generalize valD (a - sgnD) = p at w1 ⊢
      generalize valD (b - sgnD) = q at w1 ⊢
      unfold allD sgnD at *
      omega
    · rw [if_neg (fun h => s2 ((negD_iff hb).1 h)), if_neg s2]
      generalize valD (a % sgnD) = p at this ⊢
      generalize valD (b % sgnD) = q
      clear m1 m2 v1 v2 z1 z2
      unfold allD sgnD at *
      omega
  · rw [if_neg (fun h => s1 ((negD_iff ha).1 h)), if_neg s1]
    by_cases s2 : sgnD ≤ b
    · rw [if_pos ((negD_iff hb).2 s2), if_pos s2]
      have := m2 s2
      generalize valD (a % sgnD) = p
      generalize valD (b % sgnD) = q at this ⊢
      clear m1 m2 v1 v2 z1 z2
      unfold allD sgnD at *
      omega
    · rw [if_neg (fun h => s2 ((negD_iff hb).1 h)), if_neg s2]
      have e1 : a % sgnD = a := Nat.mod_eq_of_lt (by omega)
      have e2 : b % sgnD = b := Nat.mod_eq_of_lt (by omega)
      have w1 := valD_iff (r := a) (q := b)
      rw [e1, e2]
      omega
/-- The order of doubles is that of their bits. -/
theorem cmpF_tri {a b : Nat} (ha : a < allD) (hb : b < allD) (h1 : isF a = true) (h2 : isF b = true) : (cmpF a b = -1 ∧ bitsF a < bitsF b) ∨ (cmpF a b = 0 ∧ a = b) ∨ (cmpF a b = 1 ∧ bitsF b < bitsF a) := by
  unfold cmpF rankF
  cases n1 : nanD a with
  | true =>
    have e1 := (isF_iff.1 h1).1 n1
    cases n2 : nanD b with
    | true =>
      have e2 := (isF_iff.1 h2).1 n2
      right; left
      exact ⟨by simp, by rw [e1, e2]⟩
    | false =>
      right; right
      exact ⟨by simp, by rw [e1]; exact nan_lt hb n2⟩
  | false =>
    cases n2 : nanD b with
    | true =>
      have e2 := (isF_iff.1 h2).1 n2
      left
      exact ⟨by simp, by rw [e2]; exact nan_lt ha n1⟩
    | false =>
      have hp := num_part ha hb h1 h2 n1 n2
      have hq := num_part hb ha h2 h1 n2 n1
      rw [fmt64, order_double n1 n2]
      simp only [Bool.false_eq_true, if_false, ne_eq, not_true_eq_false]
      rcases Int.lt_trichotomy (svD a) (svD b) with g | g | g
      · left
        refine ⟨?_, hp.1 g⟩
        have : compare (svD a) (svD b) = .lt := by simp [compare, compareOfLessAndEq, g]
        rw [this]
        rfl
      · right; left
        have : compare (svD a) (svD b) = .eq := by simp [compare, compareOfLessAndEq, g]
        rw [this]
        refine ⟨rfl, ?_⟩
        have e : bitsF a = bitsF b := by
          have h3 : ¬ bitsF a < bitsF b := fun h => by have := hp.2 h; omega
          have h4 : ¬ bitsF b < bitsF a := fun h => by have := hq.2 h; omega
          omega
        rw [← from_bits ha h1, e, from_bits hb h2]
      · right; right
        refine ⟨?_, hq.1 g⟩
        have : compare (svD a) (svD b) = .gt := by
          simp only [compare, compareOfLessAndEq]
          rw [if_neg (by omega), if_neg (by omega)]
        rw [this]
        rfl
end Go.Lift.X
namespace Go.Lift.X
open Go
theorem wrapU64 {x : Int} (h1 : 0 ≤ x) (h2 : x < 18446744073709551616) : IntKind.wrap .u64 x = x := by
  simp only [IntKind.wrap, IntKind.bits, IntKind.signed]
  simp
  omega
theorem ofI (x : Nat) (h : x < 18446744073709551616) : (BitVec.ofInt 64 (x : Int)).toNat = x := by
  rw [BitVec.toNat_ofInt]
  omega
theorem and63 (u : Nat) (h : u < 18446744073709551616) : (iAnd .u64 u 9223372036854775808 != 0) = decide (9223372036854775808 ≤ u) := by
  have e : iAnd .u64 u 9223372036854775808 = ((u &&& 9223372036854775808 : Nat) : Int) := by
    unfold iAnd
    show IntKind.wrap .u64 (((BitVec.ofInt 64 (u : Int)) &&& (BitVec.ofInt 64 ((9223372036854775808 : Nat) : Int))).toNat : Int) = _
    rw [BitVec.toNat_and, ofI u h, ofI _ (by decide)]
    refine wrapU64 (by omega) ?_
    have := Nat.and_le_left (n := u) (m := 9223372036854775808)
    omega
  rw [e]
  have h2 : u &&& 9223372036854775808 = (u.testBit 63).toNat * 9223372036854775808 := by
    apply Nat.eq_of_testBit_eq
    intro i
    rw [Nat.testBit_and]
    have hp : Nat.testBit 9223372036854775808 i = decide (63 = i) := Nat.testBit_two_pow (n := 63) (m := i)
    rw [hp]
    by_cases hi : 63 = i
    · subst hi
      cases hb : u.testBit 63 with
      | true => show true = Nat.testBit (1 * 9223372036854775808) 63; decide
      | false => show false = Nat.testBit (0 * 9223372036854775808) 63; decide
    · simp only [hi, decide_false, Bool.and_false]
      cases hb : u.testBit 63 with
      | true =>
        show false = Nat.testBit (1 * 9223372036854775808) i
        rw [Nat.one_mul, hp]
        simp [hi]
      | false => show false = Nat.testBit (0 * 9223372036854775808) i; simp
  have h3 : u.testBit 63 = decide (u / 9223372036854775808 % 2 = 1) := Nat.testBit_eq_decide_div_mod_eq
  rw [h2, h3]
  by_cases hu : 9223372036854775808 ≤ u
  · have : u / 9223372036854775808 % 2 = 1 := by omega
    simp [hu, this]
  · have : ¬ u / 9223372036854775808 % 2 = 1 := by omega
    simp [hu, this]
theorem or63 (u : Nat) (h : u < 9223372036854775808) : iOr .u64 u 9223372036854775808 = ((u + 9223372036854775808 : Nat) : Int) := by
  unfold iOr
  show IntKind.wrap .u64 (((BitVec.ofInt 64 (u : Int)) ||| (BitVec.ofInt 64 ((9223372036854775808 : Nat) : Int))).toNat : Int) = _
  rw [BitVec.toNat_or, ofI u (by omega), ofI _ (by decide)]
  have := Nat.two_pow_add_eq_or_of_lt (i := 63) (b := u) (by simpa using h) 1
  have e : u ||| 9223372036854775808 = u + 9223372036854775808 := by
    rw [Nat.or_comm]
    have h2 : 9223372036854775808 ||| u = 2 ^ 63 * 1 ||| u := rfl
    rw [h2, ← this]
    omega
  rw [e]
  exact wrapU64 (by omega) (by omega)
theorem andNot63 (u : Nat) (h : u < 18446744073709551616) (h2 : 9223372036854775808 ≤ u) : iAndNot .u64 u 9223372036854775808 = ((u - 9223372036854775808 : Nat) : Int) := by
  unfold iAndNot
  show IntKind.wrap .u64 (((BitVec.ofInt 64 (u : Int)) &&& ~~~(BitVec.ofInt 64 ((9223372036854775808 : Nat) : Int))).toNat : Int) = _
  rw [BitVec.toNat_and, BitVec.toNat_not, ofI u h, ofI _ (by decide)]
  have e : u &&& (2 ^ 64 - 1 - 9223372036854775808) = u % 9223372036854775808 := Nat.and_two_pow_sub_one_eq_mod u 63
  rw [e]
  have : u % 9223372036854775808 = u - 9223372036854775808 := by omega
  rw [this]
  exact wrapU64 (by omega) (by omega)
theorem xorAll (u : Nat) (h : u < 18446744073709551616) : iXor .u64 (IntKind.max .u64) u = ((18446744073709551615 - u : Nat) : Int) := by
  unfold iXor
  show IntKind.wrap .u64 (((BitVec.ofInt 64 ((18446744073709551615 : Nat) : Int)) ^^^ (BitVec.ofInt 64 (u : Int))).toNat : Int) = _
  have e : (BitVec.ofInt 64 ((18446744073709551615 : Nat) : Int)) = BitVec.allOnes 64 := by decide
  rw [e, BitVec.allOnes_xor, BitVec.toNat_not, ofI u h]
  exact wrapU64 (by omega) (by omega)
theorem xor63n (u : Nat) (h : u < 18446744073709551616) : u ^^^ 9223372036854775808 = if 9223372036854775808 ≤ u then u - 9223372036854775808 else u + 9223372036854775808 := by
  have base : ∀ v : Nat, v < 9223372036854775808 → v ^^^ 9223372036854775808 = v + 9223372036854775808 := by
    intro v hv
    have h1 := Nat.two_pow_add_eq_or_of_lt (i := 63) (b := v) (by simpa using hv) 1
    have e : v + 9223372036854775808 = v ||| 9223372036854775808 := by
      rw [Nat.or_comm]
      have h2 : 9223372036854775808 ||| v = 2 ^ 63 * 1 ||| v := rfl
      rw [h2, ← h1]
      omega
    rw [e]
    apply Nat.eq_of_testBit_eq
    intro i
    rw [Nat.testBit_xor, Nat.testBit_or]
    have hp : Nat.testBit 9223372036854775808 i = decide (63 = i) := Nat.testBit_two_pow (n := 63) (m := i)
    rw [hp]
    by_cases hi : 63 = i
    · subst hi
      have : v.testBit 63 = false := Nat.testBit_lt_two_pow (by simpa using hv)
      rw [this]
      rfl
    · simp [hi]
  split
  · rename_i hu
    have h1 := base (u - 9223372036854775808) (by omega)
    have h2 : u - 9223372036854775808 + 9223372036854775808 = u := by omega
    rw [h2] at h1
    have h3 : u ^^^ 9223372036854775808 = (u - 9223372036854775808) ^^^ 9223372036854775808 ^^^ 9223372036854775808 := by rw [h1]
    rw [h3, Nat.xor_assoc, Nat.xor_self, Nat.xor_zero]
  · exact base u (by omega)
theorem xor63 (u : Nat) (h : u < 18446744073709551616) : iXor .u64 u 9223372036854775808 = ((if 9223372036854775808 ≤ u then u - 9223372036854775808 else u + 9223372036854775808 : Nat) : Int) := by
  unfold iXor
  show IntKind.wrap .u64 (((BitVec.ofInt 64 (u : Int)) ^^^ (BitVec.ofInt 64 ((9223372036854775808 : Nat) : Int))).toNat : Int) = _
  rw [BitVec.toNat_xor, ofI u h, ofI _ (by decide), xor63n u h]
  split
  · exact wrapU64 (by omega) (by omega)
  · exact wrapU64 (by omega) (by omega)
theorem or8 (a c : Nat) (hc : c < 256) : (a * 256) ||| c = a * 256 + c := by
  have := Nat.two_pow_add_eq_or_of_lt (i := 8) (b := c) (by simpa using hc) a
  have e : 2 ^ 8 * a = a * 256 := by omega
  rw [e] at this
  exact this.symm
theorem shl8u (a : Nat) (h : a * 256 < 18446744073709551616) : iShl .u64 a 8 = ((a * 256 : Nat) : Int) := by
  unfold iShl
  have e : (a : Int) * 2 ^ (min (8 : Int).toNat IntKind.u64.bits) = ((a * 256 : Nat) : Int) := by
    have : min (8 : Int).toNat IntKind.u64.bits = 8 := rfl
    rw [this]
    omega
  rw [e]
  exact wrapU64 (by omega) (by omega)
theorem step8u (a c : Nat) (h : a * 256 < 18446744073709551616) (hc : c < 256) : iOr .u64 (iShl .u64 a 8) (c : Int) = ((a * 256 + c : Nat) : Int) := by
  rw [shl8u a h]
  unfold iOr
  show IntKind.wrap .u64 (((BitVec.ofInt 64 ((a * 256 : Nat) : Int)) ||| (BitVec.ofInt 64 (c : Int))).toNat : Int) = _
  rw [BitVec.toNat_or, ofI _ h, ofI c (by omega), or8 a c hc]
  exact wrapU64 (by omega) (by omega)
theorem step8i (a c : Nat) (h : a < 256) (hc : c < 256) : iOr .i64 (iShl .i64 a 8) (c : Int) = ((a * 256 + c : Nat) : Int) := by
  have e : iShl .i64 a 8 = ((a * 256 : Nat) : Int) := by
    unfold iShl
    have e : (a : Int) * 2 ^ (min (8 : Int).toNat IntKind.i64.bits) = ((a * 256 : Nat) : Int) := by
      have : min (8 : Int).toNat IntKind.i64.bits = 8 := rfl
      rw [this]
      omega
    rw [e]
    simp only [IntKind.wrap, IntKind.bits, IntKind.signed]
    simp
    omega
  rw [e]
  unfold iOr
  show IntKind.wrap .i64 (((BitVec.ofInt 64 ((a * 256 : Nat) : Int)) ||| (BitVec.ofInt 64 (c : Int))).toNat : Int) = _
  rw [BitVec.toNat_or, ofI _ (by omega), ofI c (by omega), or8 a c hc]
  simp only [IntKind.wrap, IntKind.bits, IntKind.signed]
  simp
  omega
theorem shr_u (u k : Nat) (hk : k ≤ 64) : iShr .u64 u (k : Int) = ((u / 2 ^ k : Nat) : Int) := by
  unfold iShr
  have : min (k : Int).toNat IntKind.u64.bits = k := by
    show min (k : Int).toNat 64 = k
    rw [Int.toNat_natCast]
    exact Nat.min_eq_left hk
  rw [this]
  have e : ((2 : Int) ^ k) = ((2 ^ k : Nat) : Int) := by push_cast; rfl
  rw [e, Int.fdiv_eq_ediv_of_nonneg _ (Int.natCast_nonneg _)]
  exact (Int.natCast_ediv u (2 ^ k)).symm
theorem wrapU8 (u : Nat) : IntKind.wrap .u8 (u : Int) = ((u % 256 : Nat) : Int) := by
  simp only [IntKind.wrap, IntKind.bits, IntKind.signed]
  simp
end Go.Lift.X
namespace Go.Lift.X
open Go Go.Proofs Go.RowKit
set_option maxRecDepth 100000
theorem kept_below {B : Nat} {w w' : World} (h : Below B w w') : Kept w w' := ⟨h.os, h.output, h.tape, fun f => f.elim⟩
structure Lo (B : Nat) (h h' : Hp) : Prop where
  sz : h.size ≤ h'.size
  old : ∀ k, k < B → h'[k]? = h[k]?
theorem Lo.trans {B : Nat} {a b c : Hp} (h1 : Lo B a b) (h2 : Lo B b c) : Lo B a c := ⟨Nat.le_trans h1.sz h2.sz, fun k hk => by rw [h2.old k hk, h1.old k hk]⟩
theorem Lo.ext {h h' : Hp} (hl : Lo h.size h h') : Ext [] h h' := ⟨hl.sz, fun b hb _ => hl.old b hb⟩
theorem lo_ext {B : Nat} {h h' : Hp} (he : Ext [] h h') (hB : B ≤ h.size) : Lo B h h' := ⟨he.sz, fun k hk => he.old k (by omega) (by simp)⟩
section
variable {h : Hp} {Q : List Value → Hp → Prop}
theorem fn_below {f : FuncId} {fn : Func} {c : Code} {args : Array Value} {B : Nat} {vs : List Value} (hf : PP.funcs[f]? = some fn) (hb : fn.body = some c) (hn : (fn.name == "runtime.NumGoroutine") = false)
    (hc : ∀ w : World, w.heap = h → Calls PP f args w fun e w' => e = .returned (packR vs) ∧ Below B w w') (hQ : ∀ h', Lo B h h' → Q vs h') : Fn PP f args h Q := by
  refine fn_of_calls hf hb hn fun w hw => ?_
  refine (hc w hw).mono fun e w' ⟨he, hbl⟩ => ⟨vs, he, kept_below hbl, hQ _ ⟨by rw [← hw]; exact hbl.size, fun k hk => by rw [← hw]; exact hbl.block k hk⟩⟩
theorem rd_cell {w : World} (hw : w.heap = h) {b : Nat} {cs : Array Value} {T : TypeId} (hb : Blk h b cs T) {i : Nat} {v : Value} (hv : cs[i]? = some v) : w.cell? ⟨b, i, none⟩ = some v := by
  unfold World.cell?
  rw [hw]
  unfold Blk at hb
  simp only [hb]
  exact hv
theorem Join_s {b n : Nat} {xs : List ByteArray} {T : TypeId} (hb : Blk h b (xs.map Value.string).toArray T) (hn : n = xs.length) (hl : (Lib.join (xs.map (·.data.toList)) []).length ≤ 2 ^ 40) (hl2 : xs.length ≤ 2 ^ 20)
    (hQ : ∀ h', Ext [] h h' → Q [.string ⟨(xs.map (·.data.toList)).flatten.toArray⟩] h') : S_strings_Join ⟨some ⟨b, 0, none⟩, n, n⟩ (ByteArray.mk #[]) h Q := by
  subst hn
  have hj : Lib.join (xs.map (·.data.toList)) [] = (xs.map (·.data.toList)).flatten := by
    unfold Lib.join
    generalize xs.map (·.data.toList) = l
    unfold List.intercalate
    induction l with
    | nil => rfl
    | cons a l ih =>
      cases l with
      | nil => rfl
      | cons c l => simpa [List.intersperse] using ih
  refine fn_below (B := h.size) Tryz.func179 (c := bodyOf Tryz.f179) (by kernel_rfl) (by kernel_rfl) (vs := [.string ⟨(xs.map (·.data.toList)).flatten.toArray⟩]) (fun w hw => ?_) fun h' e => hQ h' e.ext
  have := Tryz.strings_Join b 0 xs.length xs (ByteArray.mk #[]) w (fun j x hx => ?_) (by rw [hw]; exact blk_lt hb) (by omega) (Nat.le_refl _) (by show (Lib.join (xs.map (·.data.toList)) []).length ≤ _; omega)
  · refine this.mono fun e w' ⟨he, hbl⟩ => ⟨?_, by rw [hw] at hbl; exact hbl⟩
    rw [he]
    show Ending.returned (.string ⟨(Lib.join (xs.map (·.data.toList)) []).toArray⟩) = _
    rw [hj]
    rfl
  · rw [Nat.zero_add]
    exact rd_cell hw hb (by simp [hx])
theorem IndexByte_s (s : ByteArray) (hQ : Q [.int .i64 (Lib.indexByte s.data.toList 0)] h) : S_strings_IndexByte s 0 h Q := by
  refine fn_of_calls Tryz.func251 (c := bodyOf Tryz.f251) (by kernel_rfl) (by kernel_rfl) fun w hw => ?_
  refine (Tryz.strings_IndexByte s 0 w).mono fun e w' ⟨he, hwe⟩ => ⟨[.int .i64 (Lib.indexByte s.data.toList 0)], ?_, ?_, ?_⟩
  · rw [he]; rfl
  · rw [hwe]; exact Kept.refl _
  · rw [hwe, hw]; exact hQ
def BuH (h : Hp) (B b : Nat) (l : List UInt8) : Prop := ∀ w : World, w.heap = h → Lib.IsBuilder 281 5 B b (Lib.byteCells l) w
end
end Go.Lift.X
namespace Go.Lift.X
open Go Go.Proofs Go.RowKit
set_option maxRecDepth 100000
theorem index_cons_ne {c : UInt8} (hc : c ≠ 0) (t : List UInt8) : Lib.index (c :: t) [0] = if Lib.index t [0] == -1 then -1 else Lib.index t [0] + 1 := by
  rw [Lib.index]
  have : [(0 : UInt8)].isPrefixOf (c :: t) = false := by
    simp [List.isPrefixOf]
    exact fun e => hc e.symm
  rw [this]
  rfl
theorem index_found : ∀ {t : List UInt8}, 0 < t.count 0 → ∃ i : Nat, Lib.index t [0] = i
  | [], h => by simp at h
  | c :: t, h => by
    by_cases hc : c = 0
    · subst hc
      exact ⟨0, by rw [Lib.index]; simp [List.isPrefixOf]⟩
    · rw [List.count_cons_of_ne (by simpa using hc)] at h
      obtain ⟨i, hi⟩ := index_found h
      refine ⟨i + 1, ?_⟩
      rw [index_cons_ne hc, hi, if_neg (by simp)]
      omega
theorem replaceK_esc : ∀ (s : List UInt8), Lib.replaceK [0] [0, 255] (s.count 0) s = escL s
  | [] => rfl
  | c :: t => by
    rw [escL_cons]
    have ih := replaceK_esc t
    by_cases hc : c = 0
    · subst hc
      rw [List.count_cons_self, if_pos rfl, ← ih]
      have hi : Lib.index (0 :: t) [0] = ((0 : Nat) : Int) := by rw [Lib.index]; simp [List.isPrefixOf]
      rw [Lib.replaceK_hit _ _ _ _ 0 hi]
      rfl
    · rw [List.count_cons_of_ne (by simpa using hc), if_neg hc, ← ih]
      cases hk : t.count 0 with
      | zero => rfl
      | succ k =>
        obtain ⟨i, hi⟩ := index_found (t := t) (by omega)
        have hi2 : Lib.index (c :: t) [0] = ((i + 1 : Nat) : Int) := by
          rw [index_cons_ne hc, hi, if_neg (by simp)]
          omega
        rw [Lib.replaceK_hit _ _ _ _ (i + 1) hi2, Lib.replaceK_hit _ _ _ _ i hi]
        rfl
theorem replaceAll_esc (s : List UInt8) : Lib.replaceAll s [0] [0, 255] = escL s := by
  unfold Lib.replaceAll Lib.replace
  rw [if_neg (by decide)]
  unfold Lib.replaceNum
  rw [if_pos (Or.inl (by decide)), Lib.count_one]
  exact replaceK_esc s
theorem isB_heap {T e : TypeId} {B b : Nat} {bs : List Value} {w w2 : World} (hh : w2.heap = w.heap) (h : Lib.IsBuilder T e B b bs w) : Lib.IsBuilder T e B b bs w2 := by
  unfold Lib.IsBuilder Lib.BuilderAt World.ownsRow at *
  rw [hh]
  exact h
section
variable {h : Hp} {Q : List Value → Hp → Prop}
def GM (h : Hp) : Prop := ∃ m : Int, rd h ⟨1, 0, none⟩ = some (.int .i64 m)
theorem GM.ext {h h' : Hp} (hg : GM h) (he : Ext [] h h') : GM h' := by
  obtain ⟨m, hm⟩ := hg
  exact ⟨m, rd_ext0 he hm⟩
theorem rd_world {w : World} {a : Addr} : w.cell? a = rd w.heap a := by
  unfold World.cell? rd
  rfl
theorem ReplaceAll_s (s : ByteArray) (hg : GM h) (hl : s.size ≤ 256) (hQ : ∀ h', Ext [] h h' → Q [.string ⟨(escL (btl s)).toArray⟩] h') : S_strings_ReplaceAll s (ByteArray.mk #[0]) (ByteArray.mk #[0, 255]) h Q := by
  obtain ⟨m, hm⟩ := hg
  refine fn_below (B := h.size) Tryz.func178 (c := bodyOf Tryz.f178) (by kernel_rfl) (by kernel_rfl) (vs := [.string ⟨(escL (btl s)).toArray⟩]) (fun w hw => ?_) fun h' e => hQ h' e.ext
  have hcount : Lib.countB s (ByteArray.mk #[0]) ≤ s.size := Lib.countB_le (ByteArray.mk #[0]) (by decide) s.size s (Nat.le_refl _)
  have := Tryz.strings_ReplaceAll s (ByteArray.mk #[0]) (ByteArray.mk #[0, 255]) m w (by omega) (by rw [rd_world, hw]; exact hm) (by decide) (by
    have h2 : (ByteArray.mk #[0, 255]).size = 2 := rfl
    rw [h2]
    omega)
  refine this.mono fun e w' ⟨he, hbl⟩ => ⟨?_, by rw [hw] at hbl; exact hbl⟩
  rw [he]
  show Ending.returned (.string ⟨(Lib.replaceAll s.data.toList [0] [0, 255]).toArray⟩) = _
  rw [replaceAll_esc]
  rfl
theorem BuH.new {b : Nat} (hb : Blk h b #[.pointer none, .slice none 0 0] T_strings_Builder) : BuH h b b [] := by
  intro w hw
  refine Or.inl ⟨Nat.le_refl _, .slice none 0 0, by rw [hw]; exact hb, ⟨rfl, Or.inl ⟨rfl, rfl⟩⟩, by simp [Value.ownBlock]⟩
theorem WriteString_s {B b : Nat} {l : List UInt8} (hB : BuH h B b l) (hBh : B ≤ h.size) (s : ByteArray) (hl : l.length + s.size ≤ 2 ^ 46)
    (hQ : ∀ h', Lo B h h' → BuH h' B b (l ++ btl s) → Q [.int .i64 s.size, .nilIface] h') : S_strings_Builder_WriteString (some ⟨b, 0, none⟩) s h Q := by
  refine fn_of_calls Tryz.func213 (c := bodyOf Tryz.f213) (by kernel_rfl) (by kernel_rfl) fun w hw => ?_
  refine (Tryz.Builder_WriteString B b (Lib.byteCells l) s w (hB w hw) (by simp [Lib.byteCells]; omega) (by rw [hw]; exact hBh)).mono fun e w' ⟨he, hat, hbl⟩ => ⟨[.int .i64 s.size, .nilIface], ?_, kept_below hbl, ?_⟩
  · rw [he]; rfl
  · refine hQ w'.heap ⟨by rw [← hw]; exact hbl.size, fun k hk => by rw [← hw]; exact hbl.block k hk⟩ fun w2 h2 => isB_heap h2 (Or.inr ?_)
    have e1 : Lib.byteCells (l ++ btl s) = Lib.byteCells l ++ Lib.strCells s := by unfold Lib.byteCells Lib.strCells btl; rw [List.map_append]
    rw [e1]
    exact hat
theorem WriteByte_s {B b : Nat} {l : List UInt8} (hB : BuH h B b l) (hBh : B ≤ h.size) (hl : l.length ≤ 2 ^ 46)
    (hQ : ∀ h', Lo B h h' → BuH h' B b (l ++ [0]) → Q [.nilIface] h') : S_strings_Builder_WriteByte (some ⟨b, 0, none⟩) 0 h Q := by
  refine fn_of_calls Tryz.func252 (c := bodyOf Tryz.f252) (by kernel_rfl) (by kernel_rfl) fun w hw => ?_
  refine (Tryz.Builder_WriteByte B b (Lib.byteCells l) 0 w (hB w hw) (by simp [Lib.byteCells]; omega) (by rw [hw]; exact hBh)).mono fun e w' ⟨he, hat, hbl⟩ => ⟨[.nilIface], ?_, kept_below hbl, ?_⟩
  · rw [he]; rfl
  · refine hQ w'.heap ⟨by rw [← hw]; exact hbl.size, fun k hk => by rw [← hw]; exact hbl.block k hk⟩ fun w2 h2 => isB_heap h2 (Or.inr ?_)
    have e1 : Lib.byteCells (l ++ [0]) = Lib.byteCells l ++ [.int .u8 0] := by unfold Lib.byteCells; rw [List.map_append]; rfl
    rw [e1]
    exact hat
theorem String_s {B b : Nat} {l : List UInt8} (hB : BuH h B b l) (hBh : B ≤ h.size) (hQ : ∀ h', Lo B h h' → Q [.string ⟨l.toArray⟩] h') : S_strings_Builder_String (some ⟨b, 0, none⟩) h Q := by
  refine fn_below (B := B) Tryz.func214 (c := bodyOf Tryz.f214) (by kernel_rfl) (by kernel_rfl) (vs := [.string ⟨l.toArray⟩]) (fun w hw => ?_) hQ
  exact Tryz.Builder_String_any B b l w (hB w hw) (by rw [hw]; exact hBh)
end
end Go.Lift.X
namespace Go.Lift.X
open Go Go.Proofs Go.RowKit
set_option maxRecDepth 100000
def bareV (n : Int) (f : Nat) (s : ByteArray) (bn bf bs : Bool) : Bool := (bn || n == 0) && ((bf || f == 0) && (bs || s.toList == sE.toList))
def goodV (k n : Int) (f : Nat) (s : ByteArray) : Bool :=
  if k = 0 then bareV n f s false false false
  else if k = 1 then bareV n f s true false false && (n == 0 || n == 1)
  else if k = 2 then bareV n f s true false false
  else if k = 3 then bareV n f s false true false && f == canonF f
  else if k = 4 then bareV n f s false false true && decide ((s.size : Int) ≤ 256)
  else false
abbrev evF (f : Nat) : Value := .func (.func f) #[] #[]
section
variable {h : Hp} {Q : List Value → Hp → Prop}
theorem Float64bits_s {x : Nat} (hQ : Q [.int .u64 x] h) : S_math_Float64bits x h Q := by
  refine fn_extern (P := PP) (f := 96) (fn := Tryz.f96) Tryz.func96 (by kernel_rfl) (by kernel_rfl) (by kernel_rfl) (e := Extern.MathFloatBits.float64bits) (by kernel_rfl) ?_
  exact ⟨[.int .u64 x], rfl, hQ⟩
theorem Float64from_s {x : Int} (hQ : Q [.float .f64 x.toNat] h) : S_math_Float64frombits x h Q := by
  refine fn_extern (P := PP) (f := 143) (fn := Tryz.f143) Tryz.func143 (by kernel_rfl) (by kernel_rfl) (by kernel_rfl) (e := Extern.MathFloatBits.float64frombits) (by kernel_rfl) ?_
  exact ⟨[.float .f64 x.toNat], rfl, hQ⟩
theorem bare_s (k n : Int) (f : Nat) (s : ByteArray) (bn bf bs : Bool) (hQ : ∀ h', Ext [] h h' → Q [.bool (bareV n f s bn bf bs)] h') : S_value_own_bare k n f s bn bf bs h Q := by
  refine O_value_own_bare _ _ _ _ _ _ _ ?_
  delta F_value_own_bare rI rB rS rP rM rL vI vB vS vP vM vL vC vA ad nb gb wi bl bz tn isn sib pu oc
  refine newI fun h1 s1 b1 e1 => ?_
  have hq := hQ h1 e1
  unfold bareV at hq
  have tail : ∀ (b : Bool), b = true → Q [.bool (b && (bs || s.toList == sE.toList))] h1 → (if bs = true then Q [.bool true] h1 else (∃ s2 : ByteArray, rd h1 (Addr.add (Addr.mk (Array.size h) 0 none) 3) = some (Value.string s2) ∧ Q [(Value.bool ((ByteArray.toList s2) == (ByteArray.toList (ByteArray.mk #[]))))] h1)) := by
    intro b hb hq
    subst hb
    rw [Bool.true_and] at hq
    cases bs with
    | true => rw [if_pos rfl]; exact hq
    | false => rw [if_neg (by decide)]; exact ⟨s, by simp [rd_blk b1], hq⟩
  have mid : Q [.bool ((bf || f == 0) && (bs || s.toList == sE.toList))] h1 → (if bf = true then (if bs = true then Q [.bool true] h1 else (∃ s2 : ByteArray, rd h1 (Addr.add (Addr.mk (Array.size h) 0 none) 3) = some (Value.string s2) ∧ Q [(Value.bool ((ByteArray.toList s2) == (ByteArray.toList (ByteArray.mk #[]))))] h1)) else
      (∃ x3 : Nat, rd h1 (Addr.add (Addr.mk (Array.size h) 0 none) 2) = some (Value.float .f64 x3) ∧
        S_math_Float64bits x3 h1 fun (vs4 : List Value) (h5 : Hp) =>
        ∃ n6 : Int, vs4 = [(Value.int .u64 n6)] ∧
        (if (n6 == (0 : Int)) = true then ((if bs = true then (Q [(Value.bool true)] h5) else
              (∃ s7 : ByteArray, rd h5 (Addr.add (Addr.mk (Array.size h) 0 none) 3) = some (Value.string s7) ∧
                Q [(Value.bool ((ByteArray.toList s7) == (ByteArray.toList (ByteArray.mk #[]))))] h5))) else
          (Q [(Value.bool false)] h5)))) := by
    intro hq
    cases bf with
    | true => rw [if_pos rfl]; exact tail true rfl hq
    | false =>
      rw [if_neg (by decide)]
      refine ⟨f, by simp [rd_blk b1], Float64bits_s ⟨_, rfl, ?_⟩⟩
      by_cases h0 : f = 0
      · rw [if_pos (by simp [h0])]
        exact tail (false || f == 0) (by simp [h0]) hq
      · rw [if_neg (by simp; omega)]
        have e : (false || f == 0) = false := by simp [h0]
        rw [e, Bool.false_and] at hq
        exact hq
  cases bn with
  | true =>
    rw [if_pos rfl]
    exact mid (by rw [Bool.true_or, Bool.true_and] at hq; exact hq)
  | false =>
    rw [if_neg (by decide)]
    refine ⟨n, by simp [rd_blk b1], ?_⟩
    by_cases h0 : n = 0
    · rw [if_pos (by simp [h0])]
      have e : (false || n == 0) = true := by simp [h0]
      rw [e, Bool.true_and] at hq
      exact mid hq
    · rw [if_neg (by simp [h0])]
      have e : (false || n == 0) = false := by simp [h0]
      rw [e, Bool.false_and] at hq
      exact hq
theorem Canon_s (f : Nat) (hQ : Q [.float .f64 (canonF f)] h) : S_float_Canon f h Q := by
  refine O_float_Canon _ ?_
  delta F_float_Canon rI rB rS rP rM rL vI vB vS vP vM vL vC vA ad nb gb wi bl bz tn isn sib pu oc
  unfold canonF at hQ
  split
  · rename_i h1
    rw [if_pos h1] at hQ
    exact Float64from_s ⟨_, rfl, hQ⟩
  · rename_i h1
    rw [if_neg h1] at hQ
    split
    · rename_i h2
      rw [if_pos h2] at hQ
      exact hQ
    · rename_i h2
      rw [if_neg h2] at hQ
      exact hQ
theorem Is_s (f : Nat) (hQ : Q [.bool (f == canonF f)] h) : S_float_Is f h Q := by
  refine O_float_Is _ ?_
  delta F_float_Is rI rB rS rP rM rL vI vB vS vP vM vL vC vA ad nb gb wi bl bz tn isn sib pu oc
  refine Float64bits_s ⟨_, rfl, Canon_s f ⟨_, rfl, Float64bits_s ⟨_, rfl, ?_⟩⟩⟩
  have e : (((f : Nat) : Int) == ((canonF f : Nat) : Int)) = (f == canonF f) := by rw [Bool.eq_iff_iff]; simp; omega
  rw [e]
  exact hQ
theorem rd4O {v : Nat} {k n : Int} {f : Nat} {s : ByteArray} {T : TypeId} {K : Int → Int → Nat → ByteArray → Prop} (hb : Blk h v #[.int .i64 k, .int .i64 n, .float .f64 f, .string s] T) (H : K k n f s) :
    ∃ n1 : Int, rd h (Addr.add (Addr.mk v 0 none) 0) = some (Value.int .i64 n1) ∧ ∃ n2 : Int, rd h (Addr.add (Addr.mk v 0 none) 1) = some (Value.int .i64 n2) ∧ ∃ x3 : Nat, rd h (Addr.add (Addr.mk v 0 none) 2) = some (Value.float .f64 x3) ∧ ∃ s4 : ByteArray, rd h (Addr.add (Addr.mk v 0 none) 3) = some (Value.string s4) ∧ K n1 n2 x3 s4 := by
  have r : ∀ i, rd h (Addr.add (Addr.mk v 0 none) i) = (#[.int .i64 k, .int .i64 n, .float .f64 f, .string s] : Array Value)[i]? := fun i => by rw [addr_mk, rd_blk hb, Nat.zero_add]
  exact ⟨_, r 0, _, r 1, _, r 2, _, r 3, H⟩
theorem null_s (k n : Int) (f : Nat) (s : ByteArray) (hQ : ∀ h', Ext [] h h' → Q [.bool (bareV n f s false false false)] h') : S_value_own_null k n f s h Q := by
  refine O_value_own_null _ _ _ _ ?_
  delta F_value_own_null rI rB rS rP rM rL vI vB vS vP vM vL vC vA ad nb gb wi bl bz tn isn sib pu oc
  refine newI fun h1 s1 b1 e1 => rd4O b1 (bare_s _ _ _ _ _ _ _ fun h2 e2 => ⟨_, rfl, hQ h2 (e1.trans0 e2)⟩)
theorem int_s (k n : Int) (f : Nat) (s : ByteArray) (hQ : ∀ h', Ext [] h h' → Q [.bool (bareV n f s true false false)] h') : S_value_own_int k n f s h Q := by
  refine O_value_own_int _ _ _ _ ?_
  delta F_value_own_int rI rB rS rP rM rL vI vB vS vP vM vL vC vA ad nb gb wi bl bz tn isn sib pu oc
  refine newI fun h1 s1 b1 e1 => rd4O b1 (bare_s _ _ _ _ _ _ _ fun h2 e2 => ⟨_, rfl, hQ h2 (e1.trans0 e2)⟩)
theorem bool_s (k n : Int) (f : Nat) (s : ByteArray) (hQ : ∀ h', Ext [] h h' → Q [.bool (bareV n f s true false false && (n == 0 || n == 1))] h') : S_value_own_bool k n f s h Q := by
  refine O_value_own_bool _ _ _ _ ?_
  delta F_value_own_bool rI rB rS rP rM rL vI vB vS vP vM vL vC vA ad nb gb wi bl bz tn isn sib pu oc
  refine newI fun h1 s1 b1 e1 => rd4O b1 (bare_s _ _ _ _ _ _ _ fun h2 e2 => ⟨_, rfl, ?_⟩)
  have hq := hQ h2 (e1.trans0 e2)
  have b2 := e2.get b1 (by simp)
  split
  · rename_i h1
    rw [h1, Bool.true_and] at hq
    refine ⟨n, by simp [rd_blk b2], ?_⟩
    split
    · rename_i h2
      rw [h2] at hq
      exact hq
    · rename_i h2
      rw [Bool.not_eq_true] at h2
      rw [h2, Bool.false_or] at hq
      exact ⟨n, by simp [rd_blk b2], hq⟩
  · rename_i h1
    rw [Bool.not_eq_true] at h1
    rw [h1] at hq
    exact hq
theorem float_s (k n : Int) (f : Nat) (s : ByteArray) (hQ : ∀ h', Ext [] h h' → Q [.bool (bareV n f s false true false && f == canonF f)] h') : S_value_own_float k n f s h Q := by
  refine O_value_own_float _ _ _ _ ?_
  delta F_value_own_float rI rB rS rP rM rL vI vB vS vP vM vL vC vA ad nb gb wi bl bz tn isn sib pu oc
  refine newI fun h1 s1 b1 e1 => rd4O b1 (bare_s _ _ _ _ _ _ _ fun h2 e2 => ⟨_, rfl, ?_⟩)
  have hq := hQ h2 (e1.trans0 e2)
  have b2 := e2.get b1 (by simp)
  split
  · rename_i h1
    rw [h1, Bool.true_and] at hq
    exact ⟨f, by simp [rd_blk b2], Is_s f ⟨_, rfl, hq⟩⟩
  · rename_i h1
    rw [Bool.not_eq_true] at h1
    rw [h1] at hq
    exact hq
theorem text_s (k n : Int) (f : Nat) (s : ByteArray) (hQ : ∀ h', Ext [] h h' → Q [.bool (bareV n f s false false true && decide ((s.size : Int) ≤ 256))] h') : S_value_own_text k n f s h Q := by
  refine O_value_own_text _ _ _ _ ?_
  delta F_value_own_text rI rB rS rP rM rL vI vB vS vP vM vL vC vA ad nb gb wi bl bz tn isn sib pu oc
  refine newI fun h1 s1 b1 e1 => rd4O b1 (bare_s _ _ _ _ _ _ _ fun h2 e2 => ⟨_, rfl, ?_⟩)
  have hq := hQ h2 (e1.trans0 e2)
  have b2 := e2.get b1 (by simp)
  split
  · rename_i h1
    rw [h1, Bool.true_and] at hq
    exact ⟨s, by simp [rd_blk b2], hq⟩
  · rename_i h1
    rw [Bool.not_eq_true] at h1
    rw [h1] at hq
    exact hq
theorem putF {g : Hp} {m : Nat} {T : List (Int × Nat)} (hm : IsMap encI evF g m T) (k : Int) (f : Nat) {K : Hp → Prop} (H : ∀ g', g'.size = g.size → Ext [m] g g' → IsMap encI evF g' m (aput T k f) → K g') :
    ∃ (m3 : Nat) (es4 : Array MapEntry) (c5 : Nat), (some m) = some m3 ∧ g[m3]? = some (.map es4 c5) ∧ KeysLike (Value.int .i64 k) es4 ∧ wth (Array.setIfInBounds g m3 (mput (Value.int .i64 k) (Value.func (.func f) #[] #[]) es4 c5)) K := by
  obtain ⟨es, c, h1, h2, h3⟩ := hm.put k f
  exact ⟨m, es, c, rfl, h1, h2, setI h1 fun g' z k' e => H g' z e (h3 g' k')⟩
theorem GoodV_s (k n : Int) (f : Nat) (s : ByteArray) (hQ : ∀ h', Ext [] h h' → Q [.bool (goodV k n f s)] h') : S_value_Good k n f s h Q := by
  refine O_value_Good _ _ _ _ ?_
  delta F_value_Good rI rB rS rP rM rL vI vB vS vP vM vL vC vA ad nb gb wi bl bz tn isn sib pu oc
  refine newI fun h1 s1 b1 e1 => newI fun h2 s2 b2 e2 => ?_
  have m2 : IsMap encI evF h2 h1.size [] := ⟨#[], 0, b2, rfl, Born.nil 0⟩
  refine putF m2 0 205 fun h3 z3 e3 m3 => putF m3 1 206 fun h4 z4 e4 m4 => putF m4 2 207 fun h5 z5 e5 m5 => putF m5 3 208 fun h6 z6 e6 m6 => putF m6 4 209 fun h7 z7 e7 m7 => ?_
  have e27 : Ext [h1.size] h2 h7 := (((e3.trans e4 fun b hb _ => hb).trans e5 fun b hb _ => hb).trans e6 fun b hb _ => hb).trans e7 fun b hb _ => hb
  have e07 : Ext [] h h7 := (e1.trans0 e2).trans e27 fun b hb hlt => by simp at hb; omega
  have b7 := e27.get (e2.get b1 (by simp)) (by simp; omega)
  have m7' : IsMap encI evF h7 h1.size [(0, 205), (1, 206), (2, 207), (3, 208), (4, 209)] := m7
  refine ⟨k, by simp [rd_blk b7], ?_⟩
  obtain ⟨es, c1, c2⟩ := m7'.mapAt
  refine ⟨es, c1, keysLike_ents (ek := encI) c2 k, ?_⟩
  have hg := mgetD_ents (ek := encI) c2 k Value.nilFunc
  have hQ7 : ∀ h', Ext [] h7 h' → Q [.bool (goodV k n f s)] h' := fun h' e => hQ h' (e07.trans0 e)
  unfold goodV at hQ7
  by_cases h0 : k = 0
  · subst h0
    refine Or.inl ⟨205, #[], hg, ?_⟩
    refine rd4O b7 ?_
    refine null_s 0 n f s fun h' e => ⟨_, rfl, ?_⟩
    simpa using hQ7 h' e
  by_cases h1 : k = 1
  · subst h1
    refine Or.inl ⟨206, #[], hg, ?_⟩
    refine rd4O b7 ?_
    refine bool_s 1 n f s fun h' e => ⟨_, rfl, ?_⟩
    simpa using hQ7 h' e
  by_cases h2 : k = 2
  · subst h2
    refine Or.inl ⟨207, #[], hg, ?_⟩
    refine rd4O b7 ?_
    refine int_s 2 n f s fun h' e => ⟨_, rfl, ?_⟩
    simpa using hQ7 h' e
  by_cases h3 : k = 3
  · subst h3
    refine Or.inl ⟨208, #[], hg, ?_⟩
    refine rd4O b7 ?_
    refine float_s 3 n f s fun h' e => ⟨_, rfl, ?_⟩
    simpa using hQ7 h' e
  by_cases h4 : k = 4
  · subst h4
    refine Or.inl ⟨209, #[], hg, ?_⟩
    refine rd4O b7 ?_
    refine text_s 4 n f s fun h' e => ⟨_, rfl, ?_⟩
    simpa using hQ7 h' e
  refine Or.inr ⟨?_, ?_⟩
  · rw [hg]
    simp [afind, h0, h1, h2, h3, h4]
  · simpa [h0, h1, h2, h3, h4] using hQ7 h7 (Ext.refl _ _)
end
end Go.Lift.X
namespace Go.Lift.X
open Go Go.Proofs Go.RowKit
set_option maxRecDepth 100000
structure V4 where
  k : Int
  n : Int
  f : Nat
  s : ByteArray
def goodX (v : V4) : Bool := goodV v.k v.n v.f v.s
def cmpV (a b : V4) : Int :=
  if a.k < b.k then -1 else if a.k > b.k then 1 else if a.n < b.n then -1 else if a.n > b.n then 1
  else if cmpF a.f b.f ≠ 0 then cmpF a.f b.f else if sLt a.s b.s = true then -1 else if sLt b.s a.s = true then 1 else 0
theorem beL_get : ∀ (k u j : Nat), j < k → (beL k u)[j]? = some (UInt8.ofNat (u / 256 ^ (k - 1 - j) % 256))
  | 0, u, j, h => by omega
  | k + 1, u, 0, h => by simp [beL]
  | k + 1, u, j + 1, h => by
    unfold beL
    rw [List.getElem?_cons_succ, beL_get k u j (by omega)]
    congr 5
    omega
theorem getD_of {α : Type} {l : List α} {j : Nat} {d x : α} (h : l[j]? = some x) : l.getD j d = x := by
  rw [List.getD_eq_getElem?_getD, h]
  rfl
section
variable {h : Hp} {Q : List Value → Hp → Prop}
theorem Bits_s (f : Nat) (hf : f < allD) (hQ : Q [.int .u64 (bitsF f : Nat)] h) : S_float_Bits f h Q := by
  refine O_float_Bits _ ?_
  delta F_float_Bits rI rB rS rP rM rL vI vB vS vP vM vL vC vA ad nb gb wi bl bz tn isn sib pu oc
  refine Canon_s f ⟨_, rfl, Float64bits_s ⟨_, rfl, ?_⟩⟩
  have hc := canonF_lt hf
  unfold bitsF at hQ
  unfold allD sgnD at *
  rw [and63 _ hc]
  by_cases hs : 9223372036854775808 ≤ canonF f
  · rw [if_pos (by simpa using hs), xorAll _ hc]
    rw [if_pos hs] at hQ
    have e : 18446744073709551615 - canonF f = 18446744073709551616 - 1 - canonF f := by omega
    rw [e]
    exact hQ
  · rw [if_neg (by simpa using hs), or63 _ (by omega)]
    rw [if_neg hs] at hQ
    exact hQ
theorem From_s (u : Nat) (hu : u < allD) (hQ : Q [.float .f64 (if isF (fromF u) = true then fromF u else 0), .bool (isF (fromF u))] h) : S_float_From (u : Int) h Q := by
  refine O_float_From _ ?_
  delta F_float_From rI rB rS rP rM rL vI vB vS vP vM vL vC vA ad nb gb wi bl bz tn isn sib pu oc
  intro J hJ
  have key : J [.int .u64 (fromF u : Nat)] h := by
    refine hJ _ _ (Float64from_s ⟨_, rfl, Is_s _ ⟨_, rfl, ?_⟩⟩)
    rw [Int.toNat_natCast]
    show if (!isF (fromF u)) = true then _ else _
    cases hi : isF (fromF u) with
    | false =>
      rw [if_pos (by rfl)]
      rw [hi] at hQ
      exact hQ
    | true =>
      rw [if_neg (by decide)]
      rw [hi] at hQ
      exact hQ
  unfold allD at hu
  rw [and63 _ hu]
  unfold fromF at key
  unfold allD sgnD at key
  by_cases hs : 9223372036854775808 ≤ u
  · rw [if_pos (by simpa using hs), andNot63 _ hu hs]
    rw [if_pos hs] at key
    exact key
  · rw [if_neg (by simpa using hs), xorAll _ hu]
    rw [if_neg hs] at key
    have e : 18446744073709551615 - u = 18446744073709551616 - 1 - u := by omega
    rw [e]
    exact key
end
end Go.Lift.X
namespace Go.Lift.X
open Go Go.Proofs Go.RowKit
set_option maxRecDepth 100000
theorem ofBtl_size (l : List UInt8) : (ofBtl l).size = l.length := by unfold ofBtl; show l.toArray.size = l.length; simp
theorem size_btl (s : ByteArray) : s.size = (btl s).length := by unfold btl; rw [Array.length_toList]; rfl
def uN (n : Int) : Nat := (n + 9223372036854775808).toNat
def payL (v : V4) : List UInt8 :=
  if v.k = 1 then [UInt8.ofNat v.n.toNat] else if v.k = 2 then beL 8 (uN v.n) else if v.k = 3 then beL 8 (bitsF v.f) else if v.k = 4 then escL (btl v.s) ++ endL2 else []
def encX (v : V4) : List UInt8 := UInt8.ofNat v.k.toNat :: payL v
structure VOk (v : V4) : Prop where
  f : v.f < allD
  n : -9223372036854775808 ≤ v.n ∧ v.n < 9223372036854775808
def ofP (v : V4) : ByteArray × Int := if goodX v = true then (ofBtl (encX v), 0) else (sE, 11)
def entryP (v : V4) (n : Int) : ByteArray × Int := if goodX v = true then (if n < 0 ∨ n > 65535 then (sE, 1) else (ofBtl (encX v ++ beL 2 n.toNat), 0)) else (sE, 11)
def afterP (v : V4) : ByteArray × Int := if goodX v = true then (ofBtl (encX v ++ beL 2 65535 ++ [0]), 0) else (sE, 11)
theorem good_k {v : V4} (h : goodX v = true) : 0 ≤ v.k ∧ v.k ≤ 4 := by
  unfold goodX goodV at h
  by_cases h0 : v.k = 0
  · omega
  by_cases h1 : v.k = 1
  · omega
  by_cases h2 : v.k = 2
  · omega
  by_cases h3 : v.k = 3
  · omega
  by_cases h4 : v.k = 4
  · omega
  simp [h0, h1, h2, h3, h4] at h
theorem escL_len (l : List UInt8) : (escL l).length ≤ 2 * l.length := by
  induction l with
  | nil => simp [escL]
  | cons c l ih =>
    rw [escL_cons, List.length_append, List.length_cons]
    split <;> simp <;> omega
theorem good_s {v : V4} (h : goodX v = true) (h4 : v.k = 4) : v.s.size ≤ 256 := by
  unfold goodX goodV at h
  simp [h4] at h
  omega
theorem good_n {v : V4} (h : goodX v = true) (h1 : v.k = 1) : v.n = 0 ∨ v.n = 1 := by
  unfold goodX goodV at h
  simp [h1] at h
  exact h.2
theorem payL_len {v : V4} (h : goodX v = true) : (payL v).length ≤ 600 := by
  unfold payL
  split
  · simp
  split
  · rw [beL_len]; omega
  split
  · rw [beL_len]; omega
  split
  · rename_i h4
    have := escL_len (btl v.s)
    have h2 := good_s h h4
    rw [size_btl] at h2
    rw [List.length_append]
    show _ + 2 ≤ _
    omega
  · simp
theorem encX_len {v : V4} (h : goodX v = true) : (encX v).length ≤ 601 := by
  have := payL_len h
  unfold encX
  rw [List.length_cons]
  omega
section
variable {h : Hp} {Q : List Value → Hp → Prop}
theorem bytesI {b : Nat} {cs : Array Value} {T : TypeId} {l : List UInt8} {n : Nat} (hb : Blk h b cs T) (hc : ∀ i (hi : i < l.length), cs[i]? = some (.int .u8 (l[i].toNat : Int))) (hn : n = l.length) : bytesAt h (some ⟨b, 0, none⟩) n (ofBtl l) := by
  refine ⟨by rw [ofBtl_size, hn], fun i hi => ?_⟩
  rw [addr_mk, rd_blk hb, Nat.zero_add, hc i (by omega)]
  have : (ofBtl l).data.toList.getD i 0 = l[i]'(by omega) := getD_of (by simp [ofBtl])
  rw [this]
theorem u8_nat {n : Nat} (hn : n < 256) : ((UInt8.ofNat n).toNat : Int) = n := by
  rw [UInt8.toNat_ofNat']
  omega
theorem loop8 {X : List Value → Hp → Prop} (n : Nat) (I : Nat → Hp → Prop) (hend : ∀ g, I n g → X [.int .i64 (n : Int)] g)
    (hstep : ∀ i g, i < n → I i g → (∀ g', I (i + 1) g' → X [.int .i64 ((i + 1 : Nat) : Int)] g') → X [.int .i64 (i : Int)] g) (g : Hp) (h0 : I 0 g) : X [.int .i64 (0 : Int)] g := by
  have key : ∀ d i g, d + i = n → I i g → X [.int .i64 (i : Int)] g := by
    intro d
    induction d with
    | zero =>
      intro i g hi hI
      have : i = n := by omega
      subst this
      exact hend g hI
    | succ d ih =>
      intro i g hi hI
      exact hstep i g (by omega) hI fun g' hI' => ih (i + 1) g' (by omega) hI'
  exact key n 0 g (by omega) h0
theorem pow_shift : ∀ i, i < 8 → (2 : Nat) ^ (56 - 8 * i) = 256 ^ (8 - 1 - i) := by decide
theorem beL8 {u : Nat} {i : Nat} (hi : i < (beL 8 u).length) : (((beL 8 u)[i]).toNat : Int) = ((u / 256 ^ (8 - 1 - i) % 256 : Nat) : Int) := by
  have h8 : i < 8 := by rw [beL_len] at hi; exact hi
  have := beL_get 8 u i h8
  rw [List.getElem?_eq_getElem hi] at this
  rw [Option.some.inj this]
  exact u8_nat (Nat.mod_lt _ (by decide))
theorem cells8 : (mkCells (zc PP T_uint8) (Int.toNat (8 : Int) * 1)).size = 8 := by kernel_rfl
theorem eight_s (u : Nat) (hQ : ∀ h', Ext [] h h' → Q [.string (ofBtl (beL 8 u))] h') : S_key_eight (u : Int) h Q := by
  refine O_key_eight _ ?_
  delta F_key_eight rI rB rS rP rM rL vI vB vS vP vM vL vC vA ad nb gb wi bl bz tn isn sib pu oc
  refine ⟨by decide, newI fun h1 s1 b1 e1 => ?_⟩
  intro X hX
  refine loop8 8 (fun i g => Ext [] h g ∧ ∃ c, Blk g h.size c T_uint8 ∧ c.size = 8 ∧ ∀ j, j < i → c[j]? = some (.int .u8 ((u / 256 ^ (8 - 1 - j) % 256 : Nat) : Int))) ?_ ?_ h1 ⟨e1, _, b1, cells8, fun j hj => by omega⟩
  · rintro g ⟨eg, c, hb, hc, hj⟩
    refine hX _ _ ?_
    rw [if_neg (by decide)]
    refine ⟨ofBtl (beL 8 u), bytesI hb (fun i hi => ?_) (by rw [beL_len]; rfl), hQ g eg⟩
    rw [hj i (by rw [beL_len] at hi; exact hi), beL8 hi]
  · rintro i g hi ⟨eg, c, hb, hc, hj⟩ next
    refine hX _ _ ?_
    rw [if_pos (by simp; omega)]
    have w1 : IntKind.wrap .i64 ((8 : Int) * (i : Int)) = 8 * (i : Int) := wrap64 (by omega) (by omega)
    have w2 : IntKind.wrap .i64 ((56 : Int) - 8 * (i : Int)) = ((56 - 8 * i : Nat) : Int) := by rw [wrap64 (by omega) (by omega)]; omega
    rw [w1, w2, shr_u u _ (by omega), pow_shift i hi, wrapU8]
    refine ⟨by omega, ?_⟩
    simp only [nilW_some, Int.toNat_natCast, addr_mk, Nat.zero_add, Nat.mul_one]
    refine ⟨by omega, by show (i : Int) < ((Int.toNat 8 : Nat) : Int); omega, ?_⟩
    refine st_blk hb (by omega) fun g2 s2 b2 e2 => ?_
    rw [wrap64 (by omega) (by omega)]
    have := next g2 ⟨eg.trans e2 fun b hb hlt => by simp at hb; omega, _, b2, by rw [putAt_size]; exact hc, fun j hj2 => ?_⟩
    · simpa using this
    · rw [putAt_get0 _ _ _ _ (by simp; omega)]
      by_cases e : j = i
      · subst e
        rw [if_pos (by simp)]
        simp
      · rw [if_neg (by simp; omega)]
        exact hj j (by omega)
theorem joined_s {b n : Nat} {ls : List (List UInt8)} {T : TypeId} (hb : Blk h b (ls.map fun l => Value.string (ofBtl l)).toArray T) (hn : n = ls.length) (hl : ls.flatten.length ≤ 2 ^ 40) (hl2 : ls.length ≤ 2 ^ 20)
    (hQ : ∀ h', Ext [] h h' → Q [.string (ofBtl ls.flatten)] h') : S_key_joined ⟨some ⟨b, 0, none⟩, n, n⟩ h Q := by
  refine O_key_joined _ ?_
  delta F_key_joined rI rB rS rP rM rL vI vB vS vP vM vL vC vA ad nb gb wi bl bz tn isn sib pu oc
  have e1 : (ls.map ofBtl).map (·.data.toList) = ls := by
    rw [List.map_map]
    conv => rhs; rw [← List.map_id ls]
    refine List.map_congr_left fun l _ => ?_
    simp [ofBtl]
  have e2 : (ls.map fun l => Value.string (ofBtl l)) = (ls.map ofBtl).map Value.string := by rw [List.map_map]; rfl
  have hj : ∀ ls : List (List UInt8), (Lib.join ls []).length = ls.flatten.length := by
    intro ls
    unfold Lib.join List.intercalate
    induction ls with
    | nil => rfl
    | cons a l ih =>
      cases l with
      | nil => rfl
      | cons c l => simpa [List.intersperse] using ih
  refine Join_s (xs := ls.map ofBtl) (by rw [← e2]; exact hb) (by rw [List.length_map]; exact hn) (by rw [e1, hj]; exact hl) (by rw [List.length_map]; exact hl2) fun h1 e => ⟨_, rfl, ?_⟩
  rw [e1]
  exact hQ h1 e
theorem wrapu64n {n : Int} (h1 : -9223372036854775808 ≤ n) (h2 : n < 9223372036854775808) : iXor .u64 (IntKind.wrap .u64 n) 9223372036854775808 = (uN n : Int) := by
  have hw : ∃ m : Nat, m < 18446744073709551616 ∧ IntKind.wrap .u64 n = (m : Int) ∧ (m : Int) = if n < 0 then n + 18446744073709551616 else n := by
    refine ⟨(if n < 0 then n + 18446744073709551616 else n).toNat, by split <;> omega, ?_, by split <;> omega⟩
    simp only [IntKind.wrap, IntKind.bits, IntKind.signed]
    simp
    split <;> omega
  obtain ⟨m, hm, e1, e2⟩ := hw
  rw [e1, xor63 m hm]
  unfold uN
  split <;> split at e2 <;> omega
theorem uN_lt {n : Int} (h2 : n < 9223372036854775808) : uN n < allD := by
  unfold uN allD
  omega
theorem rd4V {b : Nat} {v : V4} {T : TypeId} (hb : Blk h b #[.int .i64 v.k, .int .i64 v.n, .float .f64 v.f, .string v.s] T) : rd h (Addr.add (Addr.mk b 0 none) 0) = some (.int .i64 v.k) ∧ rd h (Addr.add (Addr.mk b 0 none) 1) = some (.int .i64 v.n) ∧ rd h (Addr.add (Addr.mk b 0 none) 2) = some (.float .f64 v.f) ∧ rd h (Addr.add (Addr.mk b 0 none) 3) = some (.string v.s) := by
  have r : ∀ i, rd h (Addr.add (Addr.mk b 0 none) i) = (#[.int .i64 v.k, .int .i64 v.n, .float .f64 v.f, .string v.s] : Array Value)[i]? := fun i => by rw [addr_mk, rd_blk hb, Nat.zero_add]
  exact ⟨r 0, r 1, r 2, r 3⟩
theorem byte1 {b : Nat} {k : Int} {T : TypeId} (hk : 0 ≤ k ∧ k < 256) (hb : Blk h b #[.int .u8 (IntKind.wrap .u8 k)] T) : bytesAt h (some ⟨b, 0, none⟩) 1 (ofBtl [UInt8.ofNat k.toNat]) := by
  refine bytesI hb (fun i hi => ?_) rfl
  have h0 : i = 0 := by simpa using hi
  subst h0
  have e : IntKind.wrap .u8 k = ((k.toNat % 256 : Nat) : Int) := by
    rw [← wrapU8]
    congr 1
    omega
  rw [e]
  show some (Value.int .u8 _) = some (Value.int .u8 ((UInt8.ofNat k.toNat).toNat : Int))
  rw [UInt8.toNat_ofNat']
theorem KOf_s (v : V4) (hv : VOk v) (hg : GM h) (hQ : ∀ h', Ext [] h h' → Q [.string (ofP v).1, .int .i64 (ofP v).2] h') : S_key_Of v.k v.n v.f v.s h Q := by
  refine O_key_Of _ _ _ _ ?_
  delta F_key_Of rI rB rS rP rM rL vI vB vS vP vM vL vC vA ad nb gb wi bl bz tn isn sib pu oc
  refine newI fun h1 s1 b1 e1 => ?_
  obtain ⟨r0, r1, r2, r3⟩ := rd4V b1
  refine ⟨_, r0, _, r1, _, r2, _, r3, GoodV_s _ _ _ _ fun h2 e2 => ⟨_, rfl, ?_⟩⟩
  unfold ofP at hQ
  rw [show goodV v.k v.n v.f v.s = goodX v from rfl]
  cases hgd : goodX v with
  | false =>
    rw [if_pos (by rfl)]
    rw [hgd] at hQ
    exact hQ h2 (e1.trans0 e2)
  | true =>
    rw [if_neg (by decide)]
    rw [hgd, if_pos rfl] at hQ
    have hk := good_k hgd
    have hel := encX_len hgd
    have b2 := e2.get b1 (by simp)
    refine ⟨v.k, (rd4V b2).1, newI fun h3 s3 b3 e3 => ?_⟩
    refine ⟨_, byte1 (by omega) b3, v.k, (rd4V (e3.get b2 (by simp))).1, ?_⟩
    have b3' := e3.get b2 (by simp)
    have e13 := (e1.trans0 e2).trans0 e3
    unfold encX payL at hQ hel
    by_cases k1 : v.k = 1
    · rw [if_pos (by simp [k1])]
      rw [if_pos k1] at hQ hel
      refine ⟨v.n, (rd4V b3').2.1, newI fun h4 s4 b4 e4 => ?_⟩
      have hn := good_n hgd k1
      refine ⟨_, byte1 (by omega) b4, newI fun h5 s5 b5 e5 => ?_⟩
      refine joined_s (ls := [[UInt8.ofNat v.k.toNat], [UInt8.ofNat v.n.toNat]]) b5 rfl (by simp) (by simp) fun h6 e6 => ⟨_, rfl, ?_⟩
      exact hQ h6 (((e13.trans0 e4).trans0 e5).trans0 e6)
    rw [if_neg (by simp [k1])]
    rw [if_neg k1] at hQ hel
    by_cases k2 : v.k = 2
    · rw [if_pos (by simp [k2])]
      rw [if_pos k2] at hQ hel
      refine ⟨v.n, (rd4V b3').2.1, ?_⟩
      rw [wrapu64n hv.n.1 hv.n.2]
      refine eight_s _ fun h4 e4 => ⟨_, rfl, newI fun h5 s5 b5 e5 => ?_⟩
      refine joined_s (ls := [[UInt8.ofNat v.k.toNat], beL 8 (uN v.n)]) b5 rfl (by simp [beL_len]) (by simp) fun h6 e6 => ⟨_, rfl, ?_⟩
      have := hQ h6 (((e13.trans0 e4).trans0 e5).trans0 e6)
      simpa using this
    rw [if_neg (by simp [k2])]
    rw [if_neg k2] at hQ hel
    by_cases k3 : v.k = 3
    · rw [if_pos (by simp [k3])]
      rw [if_pos k3] at hQ hel
      refine ⟨v.f, (rd4V b3').2.2.1, Bits_s _ hv.f ⟨_, rfl, ?_⟩⟩
      refine eight_s _ fun h4 e4 => ⟨_, rfl, newI fun h5 s5 b5 e5 => ?_⟩
      refine joined_s (ls := [[UInt8.ofNat v.k.toNat], beL 8 (bitsF v.f)]) b5 rfl (by simp [beL_len]) (by simp) fun h6 e6 => ⟨_, rfl, ?_⟩
      have := hQ h6 (((e13.trans0 e4).trans0 e5).trans0 e6)
      simpa using this
    rw [if_neg (by simp [k3])]
    rw [if_neg k3] at hQ hel
    by_cases k4 : v.k = 4
    · rw [if_pos (by simp [k4])]
      rw [if_pos k4] at hQ hel
      refine ⟨v.s, (rd4V b3').2.2.2, ReplaceAll_s _ (hg.ext e13) (good_s hgd k4) fun h4 e4 => ⟨_, rfl, newI fun h5 s5 b5 e5 => ?_⟩⟩
      refine joined_s (ls := [[UInt8.ofNat v.k.toNat], escL (btl v.s), endL2]) b5 rfl (by simp at hel ⊢; omega) (by simp) fun h6 e6 => ⟨_, rfl, ?_⟩
      have := hQ h6 (((e13.trans0 e4).trans0 e5).trans0 e6)
      simpa using this
    rw [if_neg (by simp [k4])]
    rw [if_neg k4] at hQ
    exact hQ h3 e13
theorem Entry_s (v : V4) (hv : VOk v) (hg : GM h) (n : Int) (hQ : ∀ h', Ext [] h h' → Q [.string (entryP v n).1, .int .i64 (entryP v n).2] h') : S_key_Entry v.k v.n v.f v.s n h Q := by
  refine O_key_Entry _ _ _ _ _ ?_
  delta F_key_Entry rI rB rS rP rM rL vI vB vS vP vM vL vC vA ad nb gb wi bl bz tn isn sib pu oc
  refine newI fun h1 s1 b1 e1 => ?_
  obtain ⟨r0, r1, r2, r3⟩ := rd4V b1
  refine ⟨_, r0, _, r1, _, r2, _, r3, KOf_s v hv (hg.ext e1) fun h2 e2 => ⟨_, _, rfl, ?_⟩⟩
  have e12 := e1.trans0 e2
  cases hgd : goodX v with
  | false =>
    have ho : ofP v = (sE, 11) := by unfold ofP; rw [if_neg (by simp [hgd])]
    have hen : entryP v n = (sE, 11) := by unfold entryP; rw [if_neg (by simp [hgd])]
    rw [hen] at hQ
    rw [ho, if_pos (by rfl)]
    exact hQ h2 e12
  | true =>
    have ho : ofP v = (ofBtl (encX v), 0) := by unfold ofP; rw [if_pos hgd]
    unfold entryP at hQ
    rw [if_pos hgd] at hQ
    rw [ho, if_neg (by simp)]
    intro J hJ
    have key : J [.bool (decide (n < 0 ∨ n > 65535))] h2 := by
      refine hJ _ _ ?_
      by_cases hn : n < 0 ∨ n > 65535
      · rw [if_pos (by simpa using hn)]
        rw [if_pos hn] at hQ
        exact hQ h2 e12
      · rw [if_neg (by simpa using hn)]
        rw [if_neg hn] at hQ
        refine ⟨by omega, newI fun h3 s3 b3 e3 => ?_⟩
        obtain ⟨m, rfl⟩ : ∃ m : Nat, n = (m : Int) := ⟨n.toNat, by omega⟩
        have hm : m ≤ 65535 := by omega
        have hsh : iShr .i64 (m : Int) 8 = ((m / 256 : Nat) : Int) := by
          unfold iShr
          have : (2 : Int) ^ (min (8 : Int).toNat IntKind.i64.bits) = 256 := rfl
          rw [this, Int.fdiv_eq_ediv_of_nonneg _ (by omega)]
          rfl
        rw [hsh, wrapU8, wrapU8] at b3
        rw [Int.toNat_natCast] at hQ
        refine ⟨ofBtl (beL 2 m), bytesI b3 (fun i hi => ?_) rfl, newI fun h4 s4 b4 e4 => ?_⟩
        · have h2 : i < 2 := by rw [beL_len] at hi; exact hi
          have hg := beL_get 2 m i h2
          rw [List.getElem?_eq_getElem hi] at hg
          rw [Option.some.inj hg, UInt8.toNat_ofNat', Nat.mod_mod]
          rcases (by omega : i = 0 ∨ i = 1) with rfl | rfl
          · rfl
          · show some (Value.int .u8 _) = some (Value.int .u8 ((m / 256 ^ 0 % 256 : Nat) : Int))
            simp
        · have hel := encX_len hgd
          refine joined_s (ls := [encX v, beL 2 m]) b4 rfl (by simp [beL_len]; omega) (by simp) fun h5 e5 => ⟨_, rfl, ?_⟩
          have := hQ h5 ((e12.trans0 e3).trans0 e4 |>.trans0 e5)
          simpa using this
    by_cases hn : n < 0
    · rw [if_pos (by simpa using hn)]
      rw [decide_eq_true (Or.inl hn)] at key
      exact key
    · rw [if_neg (by simpa using hn)]
      have e : decide (n < 0 ∨ n > 65535) = decide (n > 65535) := by simp [hn]
      rw [e] at key
      exact key
theorem Least_s (v : V4) (hv : VOk v) (hg : GM h) (hQ : ∀ h', Ext [] h h' → Q [.string (entryP v 0).1, .int .i64 (entryP v 0).2] h') : S_key_Least v.k v.n v.f v.s h Q := by
  refine O_key_Least _ _ _ _ ?_
  delta F_key_Least rI rB rS rP rM rL vI vB vS vP vM vL vC vA ad nb gb wi bl bz tn isn sib pu oc
  refine newI fun h1 s1 b1 e1 => ?_
  obtain ⟨r0, r1, r2, r3⟩ := rd4V b1
  exact ⟨_, r0, _, r1, _, r2, _, r3, Entry_s v hv (hg.ext e1) 0 fun h2 e2 => ⟨_, _, rfl, hQ h2 (e1.trans0 e2)⟩⟩
theorem After_s (v : V4) (hv : VOk v) (hg : GM h) (hQ : ∀ h', Ext [] h h' → Q [.string (afterP v).1, .int .i64 (afterP v).2] h') : S_key_After v.k v.n v.f v.s h Q := by
  refine O_key_After _ _ _ _ ?_
  delta F_key_After rI rB rS rP rM rL vI vB vS vP vM vL vC vA ad nb gb wi bl bz tn isn sib pu oc
  refine newI fun h1 s1 b1 e1 => ?_
  obtain ⟨r0, r1, r2, r3⟩ := rd4V b1
  refine ⟨_, r0, _, r1, _, r2, _, r3, Entry_s v hv (hg.ext e1) 65535 fun h2 e2 => ⟨_, _, rfl, ?_⟩⟩
  cases hgd : goodX v with
  | false =>
    have hen : entryP v 65535 = (sE, 11) := by unfold entryP; rw [if_neg (by simp [hgd])]
    have ha : afterP v = (sE, 11) := by unfold afterP; rw [if_neg (by simp [hgd])]
    rw [ha] at hQ
    rw [hen, if_pos (by rfl)]
    exact hQ h2 (e1.trans0 e2)
  | true =>
    have hen : entryP v 65535 = (ofBtl (encX v ++ beL 2 65535), 0) := by unfold entryP; rw [if_pos hgd, if_neg (by omega)]; rfl
    unfold afterP at hQ
    rw [if_pos hgd] at hQ
    rw [hen, if_neg (by simp)]
    refine newI fun h3 s3 b3 e3 => ?_
    have hel := encX_len hgd
    refine joined_s (ls := [encX v ++ beL 2 65535, [0]]) b3 rfl (by simp [beL_len]; omega) (by simp) fun h4 e4 => ⟨_, rfl, ?_⟩
    have := hQ h4 ((e1.trans0 e2).trans0 e3 |>.trans0 e4)
    simpa using this
end
end Go.Lift.X
namespace Go.Lift.X
open Go Go.Proofs
def textL : List UInt8 → Option (List UInt8 × List UInt8)
  | [] => none
  | [_] => none
  | c :: d :: r => if c = 0 then (if d = 1 then some ([], r) else if d = 255 then (textL r).map fun p => (0 :: p.1, p.2) else none)
    else (textL (d :: r)).map fun p => (c :: p.1, p.2)
theorem textL_ne {c : UInt8} (hc : c ≠ 0) (r : List UInt8) : textL (c :: r) = (textL r).map fun p => (c :: p.1, p.2) := by
  cases r with
  | nil => simp [textL]
  | cons d r => rw [textL, if_neg hc]
theorem textL_pre : ∀ (p : List UInt8) (r : List UInt8), (∀ c ∈ p, c ≠ 0) → textL (p ++ r) = (textL r).map fun q => (p ++ q.1, q.2)
  | [], r, _ => by simp
  | c :: p, r, h => by
    rw [List.cons_append, textL_ne (h c (List.mem_cons_self ..)), textL_pre p r fun d hd => h d (List.mem_cons_of_mem _ hd), Option.map_map]
    rfl
theorem textL_none {p : List UInt8} (h : ∀ c ∈ p, c ≠ 0) : textL p = none := by
  have := textL_pre p [] h
  rw [List.append_nil] at this
  rw [this]
  rfl
def pickL (o : Option (V4 × List UInt8)) : Option (V4 × List UInt8) := match o with | none => none | some p => if goodX p.1 = true then some p else none
def rawL (c : UInt8) (r : List UInt8) : Option (V4 × List UInt8) :=
  if c = 0 then some (⟨0, 0, 0, sE⟩, r)
  else if c = 1 then (match r with | [] => none | b :: r' => some (⟨1, (b.toNat : Int), 0, sE⟩, r'))
  else if c = 2 then (if r.length < 8 then none else some (⟨2, (numL (r.take 8) : Int) - 9223372036854775808, 0, sE⟩, r.drop 8))
  else if c = 3 then (if r.length < 8 then none else if isF (fromF (numL (r.take 8))) = true then some (⟨3, 0, fromF (numL (r.take 8)), sE⟩, r.drop 8) else none)
  else if c = 4 then (textL r).map (fun p => (⟨4, 0, 0, ofBtl p.1⟩, p.2))
  else none
def firstL : List UInt8 → Option (V4 × List UInt8)
  | [] => none
  | c :: r => pickL (rawL c r)
theorem num8_lt {r : List UInt8} (h : ¬ r.length < 8) : numL (r.take 8) < allD := by
  have := numL_lt (r.take 8)
  rw [List.length_take, Nat.min_eq_left (by omega)] at this
  exact this
theorem bare_of {v : V4} (hg : goodX v = true) : (v.k ≠ 1 → v.k ≠ 2 → v.n = 0) ∧ (v.k ≠ 3 → v.f = 0) ∧ (v.k ≠ 4 → v.s = sE) ∧ (v.k = 3 → isF v.f = true) := by
  have hs : ∀ {s : ByteArray}, s.toList = [] → s = sE := fun e => toList_inj (e.trans (by simp [sE]))
  unfold goodX goodV at hg
  obtain ⟨k, n, f, s⟩ := v
  have hk : 0 ≤ k ∧ k ≤ 4 := good_k (v := ⟨k, n, f, s⟩) (by unfold goodX goodV; exact hg)
  rcases (by omega : k = 0 ∨ k = 1 ∨ k = 2 ∨ k = 3 ∨ k = 4) with rfl | rfl | rfl | rfl | rfl
  · simp [bareV] at hg
    exact ⟨fun _ _ => hg.1, fun _ => hg.2.1, fun _ => hs hg.2.2, fun h => by cases h⟩
  · simp [bareV] at hg
    exact ⟨fun h => absurd rfl h, fun _ => hg.1.1, fun _ => hs hg.1.2, fun h => by cases h⟩
  · simp [bareV] at hg
    exact ⟨fun _ h => absurd rfl h, fun _ => hg.1, fun _ => hs hg.2, fun h => by cases h⟩
  · simp [bareV] at hg
    exact ⟨fun _ _ => hg.1.1, fun h => absurd rfl h, fun _ => hs hg.1.2, fun _ => by unfold isF; rw [beq_iff_eq]; exact hg.2⟩
  · simp [bareV] at hg
    exact ⟨fun _ _ => hg.1.1, fun _ => hg.1.2, fun h => absurd rfl h, fun h => by cases h⟩
end Go.Lift.X
namespace Go.Lift.X
open Go Go.Proofs Go.RowKit
set_option maxRecDepth 100000
theorem strIx_btl {s : ByteArray} {i : Nat} (hi : i < (btl s).length) : strIx s (i : Int) = ((btl s)[i].toNat : Int) := by
  unfold strIx
  rw [Int.toNat_natCast]
  have : s.data.toList.getD i 0 = (btl s)[i] := getD_of (List.getElem?_eq_getElem hi)
  rw [this]
section
variable {h : Hp} {Q : List Value → Hp → Prop}
end
end Go.Lift.X
namespace Go.Lift.X
open Go Go.Proofs Go.RowKit
set_option maxRecDepth 100000
theorem ex_drop (l : List UInt8) (a : Nat) : (ofBtl l).extract a (ofBtl l).size = ofBtl (l.drop a) := by
  refine btl_inj ?_
  rw [btl_ofBtl]
  unfold btl
  rw [Lib.extract_to_end]
  show (btl (ofBtl l)).drop a = _
  rw [btl_ofBtl]
theorem ex_mid (l : List UInt8) (a b : Nat) : (ofBtl l).extract a b = ofBtl ((l.drop a).take (b - a)) := by
  refine btl_inj ?_
  rw [btl_ofBtl]
  unfold btl
  rw [Lib.extract_data]
  show ((btl (ofBtl l)).drop a).take (b - a) = _
  rw [btl_ofBtl]
theorem tl_ofBtl (l : List UInt8) : (ofBtl l).toList = l := by rw [ByteArray.toList_eq]; exact btl_ofBtl l
theorem numL_snoc (l : List UInt8) (c : UInt8) : numL (l ++ [c]) = numL l * 256 + c.toNat := by unfold numL; rw [List.foldl_append]; rfl
theorem numL_take {l : List UInt8} {i : Nat} (hi : i < l.length) : numL (l.take (i + 1)) = numL (l.take i) * 256 + (l[i]).toNat := by
  rw [List.take_add_one, List.getElem?_eq_getElem hi, Option.toList_some, numL_snoc]
theorem strIxL {l : List UInt8} {i : Nat} (hi : i < l.length) : strIx (ofBtl l) (i : Int) = ((l[i]).toNat : Int) := by
  have h : i < (btl (ofBtl l)).length := by rw [btl_ofBtl]; exact hi
  rw [strIx_btl h]
  congr 2
theorem idx_split : ∀ (s : List UInt8), (Lib.indexByte s 0 = -1 ∧ ∀ c ∈ s, c ≠ 0) ∨ ∃ p r : List UInt8, s = p ++ 0 :: r ∧ (∀ c ∈ p, c ≠ 0) ∧ Lib.indexByte s 0 = (p.length : Int)
  | [] => Or.inl ⟨rfl, fun c h => by cases h⟩
  | c :: s => by
    by_cases hc : c = 0
    · exact Or.inr ⟨[], s, by rw [hc]; rfl, fun c h => (by cases h), by rw [Lib.indexByte, if_pos (by rw [hc]; rfl)]; rfl⟩
    · rcases idx_split s with ⟨h1, h2⟩ | ⟨p, r, h1, h2, h3⟩
      · refine Or.inl ⟨by rw [Lib.indexByte, if_neg (by simpa using hc), h1]; rfl, fun d hd => ?_⟩
        rcases List.mem_cons.1 hd with rfl | hd
        · exact hc
        · exact h2 d hd
      · refine Or.inr ⟨c :: p, r, by rw [h1]; rfl, fun d hd => ?_, ?_⟩
        · rcases List.mem_cons.1 hd with rfl | hd
          · exact hc
          · exact h2 d hd
        · rw [Lib.indexByte, if_neg (by simpa using hc), h3, if_neg (by simp)]
          simp
def resT (o : Option (List UInt8 × List UInt8)) : List Value := match o with | none => [.string sE, .string sE, .bool false] | some p => [.string (ofBtl p.1), .string (ofBtl p.2), .bool true]
section
variable {h : Hp} {Q : List Value → Hp → Prop}
theorem wide_s (l : List UInt8) (hQ : Q (if l.length < 8 then [.int .u64 0, .string sE, .bool false] else [.int .u64 (numL (l.take 8) : Nat), .string (ofBtl (l.drop 8)), .bool true]) h) : S_key_wide (ofBtl l) h Q := by
  refine O_key_wide _ ?_
  delta F_key_wide rI rB rS rP rM rL vI vB vS vP vM vL vC vA ad nb gb wi bl bz tn isn sib pu oc
  by_cases hl : l.length < 8
  · rw [if_pos (by rw [ofBtl_size]; simp; omega)]
    rw [if_pos hl] at hQ
    exact hQ
  · rw [if_neg (by rw [ofBtl_size]; simp; omega)]
    rw [if_neg hl] at hQ
    intro X hX
    have key : ∀ d i, d + i = 8 → X [.int .u64 (numL (l.take i) : Nat), .int .i64 (i : Int)] h := by
      intro d
      induction d with
      | zero =>
        intro i hi
        have : i = 8 := by omega
        subst this
        refine hX _ _ _ ?_
        rw [if_neg (by decide)]
        refine ⟨⟨by decide, by rw [ofBtl_size]; omega⟩, ?_⟩
        have := ex_drop l 8
        rw [show Int.toNat (8 : Int) = 8 from rfl, this]
        exact hQ
      | succ d ih =>
        intro i hi
        refine hX _ _ _ ?_
        rw [if_pos (by simp; omega)]
        have hil : i < l.length := by omega
        refine ⟨by decide, by omega, by rw [ofBtl_size]; omega, ?_⟩
        have hn := numL_lt (l.take i)
        rw [List.length_take, Nat.min_eq_left (by omega)] at hn
        have h7 : 256 ^ i ≤ 256 ^ 7 := Nat.pow_le_pow_right (by decide) (by omega)
        have hc := (l[i]).toNat_lt
        rw [strIxL hil, wrapU64 (by omega) (by omega), step8u _ _ (by omega) (by omega), ← numL_take hil, wrap64 (by omega) (by omega)]
        exact ih (i + 1) (by omega)
    exact key 8 0 rfl
theorem text0_s (l : List UInt8) (hl : l.length ≤ 2 ^ 40) (hQ : ∀ h', Ext [] h h' → Q (resT (textL l)) h') : S_key_text (ofBtl l) h Q := by
  refine O_key_text _ ?_
  delta F_key_text rI rB rS rP rM rL vI vB vS vP vM vL vC vA ad nb gb wi bl bz tn isn sib pu oc
  refine newI fun h1 s1 b1 e1 => ?_
  intro X hX
  have l1 : Lo h.size h h1 := lo_ext e1 (Nat.le_refl _)
  have hq : ∀ g, Lo h.size h g → Q (resT (textL l)) g := fun g hg => hQ g hg.ext
  have key : ∀ (n : Nat) (s a : List UInt8) (g : Hp), s.length ≤ n → a.length + s.length ≤ 2 ^ 40 → Lo h.size h g → BuH g h.size h.size a →
      (textL s).map (fun p => (a ++ p.1, p.2)) = textL l → X [.string (ofBtl s)] g := by
    intro n
    induction n with
    | zero =>
      intro s a g hs hal hg hB he
      have : s = [] := List.length_eq_zero_iff.1 (by omega)
      subst this
      refine hX _ _ (IndexByte_s _ ⟨_, rfl, ?_⟩)
      intro J hJ
      have hi : Lib.indexByte (ofBtl []).data.toList 0 = -1 := rfl
      rw [hi, if_pos (by decide)]
      refine hJ _ _ ?_
      rw [if_pos rfl]
      have := hq g hg
      rw [← he] at this
      exact this
    | succ n ih =>
      intro s a g hs hal hg hB he
      refine hX _ _ (IndexByte_s _ ⟨_, rfl, ?_⟩)
      have hd : (ofBtl s).data.toList = s := btl_ofBtl s
      rw [hd]
      rcases idx_split s with ⟨h1, h2⟩ | ⟨p, r, h1, h2, h3⟩
      · rw [h1]
        intro J hJ
        rw [if_pos (by decide)]
        refine hJ _ _ ?_
        rw [if_pos rfl]
        have := hq g hg
        rw [← he, textL_none h2] at this
        exact this
      · rw [h3]
        intro J hJ
        rw [if_neg (by simp)]
        subst h1
        have hpl : (p ++ 0 :: r).length = p.length + 1 + r.length := by simp; omega
        rw [textL_pre _ _ h2] at he
        have w1 : IntKind.wrap .i64 ((p.length : Int) + 1) = ((p.length + 1 : Nat) : Int) := by rw [wrap64 (by omega) (by omega)]; rfl
        have w2 : IntKind.wrap .i64 ((p.length : Int) + 2) = ((p.length + 2 : Nat) : Int) := by rw [wrap64 (by omega) (by omega)]; rfl
        rw [w1]
        cases r with
        | nil =>
          have e : (((p.length + 1 : Nat) : Int) == ((ofBtl (p ++ 0 :: [])).size : Int)) = true := by rw [ofBtl_size, hpl]; simp
          rw [e]
          refine hJ _ _ ?_
          rw [if_pos rfl]
          have := hq g hg
          rw [← he] at this
          exact this
        | cons d r =>
          rw [List.length_cons] at hpl
          have e : (((p.length + 1 : Nat) : Int) == ((ofBtl (p ++ 0 :: d :: r)).size : Int)) = false := by
            rw [ofBtl_size, hpl]
            simp
            omega
          rw [e]
          refine hJ _ _ ?_
          rw [if_neg (by decide)]
          have x0 : (ofBtl (p ++ 0 :: d :: r)).extract 0 (Int.toNat (p.length : Int)) = ofBtl p := by
            rw [ex_mid, Int.toNat_natCast, List.drop_zero, Nat.sub_zero, List.take_append_of_le_length (Nat.le_refl _), List.take_length]
          have x1 : (ofBtl (p ++ 0 :: d :: r)).extract (Int.toNat (p.length : Int)) (Int.toNat ((p.length + 2 : Nat) : Int)) = ofBtl [0, d] := by
            rw [ex_mid, Int.toNat_natCast, Int.toNat_natCast, List.drop_append_of_le_length (Nat.le_refl _), List.drop_length, Nat.add_sub_cancel_left]
            rfl
          have x2 : (ofBtl (p ++ 0 :: d :: r)).extract (Int.toNat ((p.length + 2 : Nat) : Int)) (ofBtl (p ++ 0 :: d :: r)).size = ofBtl r := by
            rw [ex_drop, Int.toNat_natCast, List.drop_append, List.drop_of_length_le (by omega), Nat.add_sub_cancel_left]
            rfl
          rw [w2, x0, x1, x2]
          refine ⟨⟨by omega, by rw [ofBtl_size]; omega⟩, WriteString_s hB hg.sz (ofBtl p) (by rw [ofBtl_size]; omega) fun g2 lo2 B2 => ⟨_, _, rfl, ⟨by omega, by omega, by rw [ofBtl_size]; omega⟩, ?_⟩⟩
          rw [btl_ofBtl] at B2
          have hg2 := hg.trans lo2
          rw [tl_ofBtl]
          have t1 : (ByteArray.mk #[0, 1]).toList = [0, 1] := tl_ofBtl [0, 1]
          have t2 : (ByteArray.mk #[0, 255]).toList = [0, 255] := tl_ofBtl [0, 255]
          rw [t1, t2]
          rw [textL, if_pos rfl] at he
          by_cases d1 : d = 1
          · rw [if_pos (by rw [d1]; rfl)]
            rw [if_pos d1] at he
            refine ⟨⟨by omega, by rw [ofBtl_size]; omega⟩, String_s B2 hg2.sz fun g3 lo3 => ⟨_, rfl, ?_⟩⟩
            have := hq g3 (hg2.trans lo3)
            rw [← he] at this
            simpa [resT, ofBtl] using this
          · rw [if_neg (by simpa using d1)]
            rw [if_neg d1] at he
            by_cases d2 : d = 255
            · rw [if_pos (by rw [d2]; rfl)]
              rw [if_pos d2] at he
              refine WriteByte_s B2 hg2.sz (by rw [List.length_append]; omega) fun g3 lo3 B3 => ⟨_, rfl, ⟨by omega, by rw [ofBtl_size]; omega⟩, ?_⟩
              refine ih r (a ++ p ++ [0]) g3 (by omega) (by simp; omega) (hg2.trans lo3) B3 ?_
              rw [← he]
              rw [Option.map_map, Option.map_map]
              congr 1
              funext q
              simp
            · rw [if_neg (by simpa using d2)]
              rw [if_neg d2] at he
              have := hq g2 hg2
              rw [← he] at this
              exact this
  exact key l.length l [] h1 (Nat.le_refl _) (by simpa using hl) l1 (BuH.new b1) (by simp)
end
end Go.Lift.X
namespace Go.Lift.X
open Go Go.Proofs Go.RowKit
set_option maxRecDepth 100000
def cells4 (v : V4) : Array Value := #[.int .i64 v.k, .int .i64 v.n, .float .f64 v.f, .string v.s]
def agg4 (v : V4) : Value := .agg (cells4 v)
def zV : V4 := ⟨0, 0, 0, sE⟩
section
variable {h : Hp} {Q : List Value → Hp → Prop}
theorem rdV {b : Nat} {v : V4} {T : TypeId} {K : Int → Int → Nat → ByteArray → Prop} (hb : Blk h b (cells4 v) T) (H : K v.k v.n v.f v.s) :
    ∃ n3 : Int, rd h (Addr.add (Addr.mk b 0 none) 0) = some (.int .i64 n3) ∧ ∃ n4 : Int, rd h (Addr.add (Addr.mk b 0 none) 1) = some (.int .i64 n4) ∧ ∃ x5 : Nat, rd h (Addr.add (Addr.mk b 0 none) 2) = some (.float .f64 x5) ∧ ∃ s6 : ByteArray, rd h (Addr.add (Addr.mk b 0 none) 3) = some (.string s6) ∧ K n3 n4 x5 s6 := by
  obtain ⟨r0, r1, r2, r3⟩ := rd4V hb
  exact ⟨_, r0, _, r1, _, r2, _, r3, H⟩
theorem put4 {b : Nat} {c : Array Value} {T : TypeId} (hb : Blk h b c T) (hc : c.size = 4) (v : V4) {K : Hp → Prop} (H : ∀ g, g.size = h.size → Blk g b (cells4 v) T → Ext [b] h g → K g) :
    stOk h (Addr.mk b 0 none) 4 ∧ wth (wrs h (Addr.mk b 0 none) 0 [.int .i64 v.k, .int .i64 v.n, .float .f64 v.f, .string v.s]) K := by
  refine st_blk hb (by omega) fun g s bg e => H g s ?_ e
  have : putAt c 0 [.int .i64 v.k, .int .i64 v.n, .float .f64 v.f, .string v.s] = cells4 v := by
    obtain ⟨l⟩ := c
    simp only [List.size_toArray] at hc
    obtain ⟨x, y, z, w, rfl⟩ := list4 hc
    simp [cells4]
  rwa [this] at bg
theorem outV {b : Nat} {c : Array Value} {T : TypeId} (hb : Blk h b c T) (hc : c.size = 4) (v : V4) {K : Int → Int → Nat → ByteArray → Hp → Prop} (H : ∀ g, Ext [b] h g → K v.k v.n v.f v.s g) :
    stOk h (Addr.mk b 0 none) 4 ∧ wth (wrs h (Addr.mk b 0 none) 0 [.int .i64 v.k, .int .i64 v.n, .float .f64 v.f, .string v.s]) fun g =>
    ∃ n3 : Int, rd g (Addr.add (Addr.mk b 0 none) 0) = some (.int .i64 n3) ∧ ∃ n4 : Int, rd g (Addr.add (Addr.mk b 0 none) 1) = some (.int .i64 n4) ∧ ∃ x5 : Nat, rd g (Addr.add (Addr.mk b 0 none) 2) = some (.float .f64 x5) ∧ ∃ s6 : ByteArray, rd g (Addr.add (Addr.mk b 0 none) 3) = some (.string s6) ∧ K n3 n4 x5 s6 g :=
  put4 hb hc v fun g _ bg e => rdV bg (K := fun a b c d => K a b c d g) (H g e)
def resF (o : Option (V4 × List UInt8)) : List Value := match o with | none => [agg4 zV, .string sE, .bool false] | some p => [agg4 p.1, .string (ofBtl p.2), .bool true]
theorem cons_size {c : UInt8} {l : List UInt8} : ((ofBtl (c :: l)).toList == (ByteArray.mk #[]).toList) = false := by
  rw [tl_ofBtl]
  have : (ByteArray.mk #[]).toList = [] := tl_ofBtl []
  rw [this]
  rfl
theorem nil_size : ((ofBtl []).toList == (ByteArray.mk #[]).toList) = true := by
  have : (ByteArray.mk #[]).toList = [] := tl_ofBtl []
  rw [tl_ofBtl, this]
  rfl
theorem pick_no {v : V4} {r : List UInt8} (h : goodX v = false) : pickL (some (v, r)) = none := by unfold pickL; simp [h]
theorem pick_yes {v : V4} {r : List UInt8} (h : goodX v = true) : pickL (some (v, r)) = some (v, r) := by unfold pickL; simp [h]
theorem strIx0 {c : UInt8} {l : List UInt8} : strIx (ofBtl (c :: l)) (0 : Int) = (c.toNat : Int) := strIxL (l := c :: l) (i := 0) (by simp)
theorem drop1 {c : UInt8} {l : List UInt8} : (ofBtl (c :: l)).extract (Int.toNat (1 : Int)) (ofBtl (c :: l)).size = ofBtl l := ex_drop (c :: l) 1
theorem xorN {u : Nat} (hu : u < 18446744073709551616) : IntKind.wrap .i64 (iXor .u64 (u : Int) 9223372036854775808) = (u : Int) - 9223372036854775808 := by
  rw [xor63 _ hu]
  simp only [IntKind.wrap, IntKind.bits, IntKind.signed]
  split <;> simp <;> split <;> omega
theorem u8_iff {c : UInt8} {k : Nat} (hk : k < 256) : c = UInt8.ofNat k ↔ c.toNat = k := by
  constructor
  · rintro rfl
    rw [UInt8.toNat_ofNat']
    omega
  · intro e
    rw [← e, UInt8.ofNat_toNat]
theorem good_five {v : V4} (hk : 4 < v.k) : goodX v = false := by
  cases h : goodX v with
  | false => rfl
  | true => have := good_k h; omega
theorem first_s (l : List UInt8) (hl : l.length ≤ 2 ^ 40) (hQ : ∀ h', Ext [] h h' → Q (resF (firstL l)) h') : S_key_first (ofBtl l) h Q := by
  refine O_key_first _ ?_
  delta F_key_first rI rB rS rP rM rL vI vB vS vP vM vL vC vA ad nb gb wi bl bz tn isn sib pu oc
  refine newI fun h1 s1 b1 e1 => ?_
  cases l with
  | nil =>
    rw [if_pos nil_size]
    exact outV b1 rfl zV fun g e => hQ g (e1.trans e fun b hb hlt => by simp at hb; omega)
  | cons c l =>
    rw [if_neg (by rw [cons_size]; decide)]
    have hcl := c.toNat_lt
    have hll : l.length ≤ 2 ^ 40 := by rw [List.length_cons] at hl; omega
    refine ⟨by decide, by rw [ofBtl_size, List.length_cons]; omega, ⟨by decide, by rw [ofBtl_size, List.length_cons]; omega⟩, ?_⟩
    rw [strIx0, wrap64 (by omega) (by omega), drop1]
    refine st_blk b1 (by simp) fun h2 s2 b2 e2 => ?_
    have b2' : Blk h2 h.size (cells4 ⟨(c.toNat : Int), 0, 0, sE⟩) T_api_Value := by
      simpa [cells4] using b2
    clear b2
    have e02 : Ext [] h h2 := e1.trans e2 fun b hb hlt => by simp at hb; omega
    refine ⟨(c.toNat : Int), (rd4V b2').1, ?_⟩
    intro J hJ
    have hq : ∀ g, Ext [] h g → Q (resF (pickL (rawL c l))) g := hQ
    have bad : rawL c l = none → ∀ (g : Hp) (v : V4) (r : ByteArray), Ext [] h g → Blk g h.size (cells4 v) T_api_Value → J [.string r, .bool false] g := by
      intro hr g v r eg bg
      refine hJ _ _ _ ?_
      intro K hK
      rw [if_pos (by rfl)]
      refine hK _ _ ?_
      rw [if_pos rfl]
      refine outV bg rfl zV fun g2 e => ?_
      have := hq g2 (eg.trans e fun b hb hlt => by simp at hb; omega)
      rw [hr] at this
      exact this
    have ok : ∀ (g : Hp) (v : V4) (r : List UInt8), (rawL c l = some (v, r) ∨ rawL c l = none ∧ goodX v = false) → Ext [] h g → Blk g h.size (cells4 v) T_api_Value → J [.string (ofBtl r), .bool true] g := by
      intro g v r hr eg bg
      refine hJ _ _ _ ?_
      intro K hK
      rw [if_neg (by decide)]
      refine rdV bg (K := fun a b c d => S_value_Good a b c d g _) ?_
      refine GoodV_s _ _ _ _ fun g2 e2 => ⟨_, rfl, ?_⟩
      refine hK _ _ ?_
      have bg2 := e2.get bg (by simp)
      have eg2 := eg.trans0 e2
      show if (!goodX v) = true then _ else _
      cases hgd : goodX v with
      | false =>
        rw [if_pos (by rfl)]
        refine outV bg2 rfl zV fun g3 e => ?_
        have := hq g3 (eg2.trans e fun b hb hlt => by simp at hb; omega)
        rcases hr with hr | ⟨hr, _⟩
        · rw [hr, pick_no hgd] at this
          exact this
        · rw [hr] at this
          exact this
      | true =>
        rw [if_neg (by decide)]
        refine rdV bg2 (K := fun a b c d => stOk g2 _ 4 ∧ wth (wrs g2 _ 0 [.int .i64 a, .int .i64 b, .float .f64 c, .string d]) _) ?_
        refine outV bg2 rfl v fun g3 e => ?_
        have := hq g3 (eg2.trans e fun b hb hlt => by simp at hb; omega)
        rcases hr with hr | ⟨hr, hb⟩
        · rw [hr, pick_yes hgd] at this
          exact this
        · rw [hgd] at hb
          cases hb
    have hi : ∀ (k : Nat) (z : Int), z = (k : Int) → k < 256 → (((c.toNat : Int) == z) = true ↔ c = UInt8.ofNat k) := fun k z hz hk => by rw [u8_iff hk, hz, beq_iff_eq]; omega
    by_cases c0 : c = 0
    · rw [if_pos ((hi 0 0 rfl (by decide)).2 c0)]
      subst c0
      exact ok h2 _ l (Or.inl rfl) e02 b2'
    rw [if_neg (fun e => c0 ((hi 0 0 rfl (by decide)).1 e))]
    by_cases c1 : c = 1
    · rw [if_pos ((hi 1 1 rfl (by decide)).2 c1)]
      subst c1
      cases l with
      | nil =>
        rw [if_pos nil_size]
        exact outV b2' rfl zV fun g e => hQ g (e02.trans e fun b hb hlt => by simp at hb; omega)
      | cons d l =>
        have hdl := d.toNat_lt
        rw [if_neg (by rw [cons_size]; decide)]
        refine ⟨by decide, by rw [ofBtl_size, List.length_cons]; omega, ⟨by decide, by rw [ofBtl_size, List.length_cons]; omega⟩, ?_⟩
        rw [strIx0, wrap64 (by omega) (by omega), drop1]
        refine st_blk b2' (by simp [cells4]) fun h3 s3 b3 e3 => ?_
        refine ok h3 ⟨1, (d.toNat : Int), 0, sE⟩ l (Or.inl rfl) (e02.trans e3 fun b hb hlt => by simp at hb; omega) ?_
        simpa [cells4] using b3
    rw [if_neg (fun e => c1 ((hi 1 1 rfl (by decide)).1 e))]
    by_cases c2 : c = 2
    · rw [if_pos ((hi 2 2 rfl (by decide)).2 c2)]
      subst c2
      refine wide_s l ?_
      by_cases h8 : l.length < 8
      · rw [if_pos h8]
        refine ⟨_, _, _, rfl, ?_⟩
        refine st_blk b2' (by simp [cells4]) fun h3 s3 b3 e3 => ?_
        refine bad ?_ h3 ⟨2, IntKind.wrap .i64 (iXor .u64 (0 : Int) (9223372036854775808 : Int)), 0, sE⟩ _ (e02.trans e3 fun b hb hlt => by simp at hb; omega) (by simpa [cells4] using b3)
        show (if l.length < 8 then none else _) = none
        rw [if_pos h8]
      · rw [if_neg h8]
        refine ⟨_, _, _, rfl, ?_⟩
        rw [xorN (num8_lt h8)]
        refine st_blk b2' (by simp [cells4]) fun h3 s3 b3 e3 => ?_
        refine ok h3 ⟨2, (numL (l.take 8) : Int) - 9223372036854775808, 0, sE⟩ (l.drop 8) (Or.inl ?_) (e02.trans e3 fun b hb hlt => by simp at hb; omega) (by simpa [cells4] using b3)
        show (if l.length < 8 then none else _) = _
        rw [if_neg h8]
    rw [if_neg (fun e => c2 ((hi 2 2 rfl (by decide)).1 e))]
    by_cases c3 : c = 3
    · rw [if_pos ((hi 3 3 rfl (by decide)).2 c3)]
      subst c3
      refine wide_s l ?_
      by_cases h8 : l.length < 8
      · rw [if_pos h8]
        refine ⟨_, _, _, rfl, ?_⟩
        refine From_s 0 (by decide) ⟨_, _, rfl, ?_⟩
        rw [if_neg (by decide)]
        refine st_blk b2' (by simp [cells4]) fun h3 s3 b3 e3 => ?_
        refine bad ?_ h3 ⟨3, 0, if isF (fromF 0) = true then fromF 0 else 0, sE⟩ _ (e02.trans e3 fun b hb hlt => by simp at hb; omega) (by simpa [cells4] using b3)
        show (if l.length < 8 then none else _) = none
        rw [if_pos h8]
      · rw [if_neg h8]
        refine ⟨_, _, _, rfl, ?_⟩
        refine From_s _ (num8_lt h8) ⟨_, _, rfl, ?_⟩
        rw [if_pos rfl]
        refine st_blk b2' (by simp [cells4]) fun h3 s3 b3 e3 => ?_
        have hr : rawL 3 l = if isF (fromF (numL (l.take 8))) = true then some (⟨3, 0, fromF (numL (l.take 8)), sE⟩, l.drop 8) else none := by
          show (if l.length < 8 then none else _) = _
          rw [if_neg h8]
        cases hf : isF (fromF (numL (l.take 8))) with
        | false =>
          rw [hf] at b3
          refine bad (by rw [hr, hf]; rfl) h3 ⟨3, 0, 0, sE⟩ _ (e02.trans e3 fun b hb hlt => by simp at hb; omega) (by simpa [cells4] using b3)
        | true =>
          rw [hf] at b3
          refine ok h3 ⟨3, 0, fromF (numL (l.take 8)), sE⟩ (l.drop 8) (Or.inl (by rw [hr, hf]; rfl)) (e02.trans e3 fun b hb hlt => by simp at hb; omega) (by simpa [cells4] using b3)
    rw [if_neg (fun e => c3 ((hi 3 3 rfl (by decide)).1 e))]
    by_cases c4 : c = 4
    · rw [if_pos ((hi 4 4 rfl (by decide)).2 c4)]
      subst c4
      refine text0_s l hll fun h3 e3 => ?_
      have b3 := e3.get b2' (by simp)
      have e03 := e02.trans0 e3
      have hr : rawL 4 l = (textL l).map fun p => (⟨4, 0, 0, ofBtl p.1⟩, p.2) := rfl
      cases hx : textL l with
      | none =>
        refine ⟨_, _, _, rfl, ?_⟩
        refine st_blk b3 (by simp [cells4]) fun h4 s4 b4 e4 => ?_
        exact bad (by rw [hr, hx]; rfl) h4 ⟨4, 0, 0, sE⟩ _ (e03.trans e4 fun b hb hlt => by simp at hb; omega) (by simpa [cells4] using b4)
      | some p =>
        refine ⟨_, _, _, rfl, ?_⟩
        refine st_blk b3 (by simp [cells4]) fun h4 s4 b4 e4 => ?_
        exact ok h4 ⟨4, 0, 0, ofBtl p.1⟩ p.2 (Or.inl (by rw [hr, hx]; rfl)) (e03.trans e4 fun b hb hlt => by simp at hb; omega) (by simpa [cells4] using b4)
    rw [if_neg (fun e => c4 ((hi 4 4 rfl (by decide)).1 e))]
    refine ok h2 _ l (Or.inr ⟨by unfold rawL; rw [if_neg c0, if_neg c1, if_neg c2, if_neg c3, if_neg c4], good_five ?_⟩) e02 b2'
    show 4 < (c.toNat : Int)
    have a0 : c.toNat ≠ 0 := fun e => c0 ((u8_iff (by decide)).2 e)
    have a1 : c.toNat ≠ 1 := fun e => c1 ((u8_iff (by decide)).2 e)
    have a2 : c.toNat ≠ 2 := fun e => c2 ((u8_iff (by decide)).2 e)
    have a3 : c.toNat ≠ 3 := fun e => c3 ((u8_iff (by decide)).2 e)
    have a4 : c.toNat ≠ 4 := fun e => c4 ((u8_iff (by decide)).2 e)
    omega
end
end Go.Lift.X
namespace Go.Lift.X
open Go Go.Proofs Go.RowKit
set_option maxRecDepth 100000
def twoL (r : List UInt8) : Int := ((r.getD 0 0).toNat * 256 + (r.getD 1 0).toNat : Nat)
def splitP (l : List UInt8) : V4 × Int × Int := match firstL l with | none => (zV, 0, 11) | some p => if p.2.length = 2 then (p.1, twoL p.2, 0) else (zV, 0, 11)
theorem strIxD {l : List UInt8} {i : Nat} (hi : i < l.length) : strIx (ofBtl l) (i : Int) = (((l.getD i 0).toNat : Nat) : Int) := by
  rw [strIxL hi, getD_of (List.getElem?_eq_getElem hi)]
section
variable {h : Hp} {Q : List Value → Hp → Prop}
theorem Split_s (l : List UInt8) (hl : l.length ≤ 2 ^ 40) (hQ : ∀ h', Ext [] h h' → Q [agg4 (splitP l).1, .int .i64 (splitP l).2.1, .int .i64 (splitP l).2.2] h') : S_key_Split (ofBtl l) h Q := by
  refine O_key_Split _ ?_
  delta F_key_Split rI rB rS rP rM rL vI vB vS vP vM vL vC vA ad nb gb wi bl bz tn isn sib pu oc
  refine newI fun h1 s1 b1 e1 => ?_
  refine first_s l hl fun h3 e3 => ?_
  have b3 : Blk h3 h.size (cells4 zV) T_api_Value := e3.get b1 (by simp)
  have e03 := e1.trans0 e3
  unfold splitP at hQ
  cases hf : firstL l with
  | none =>
    rw [hf] at hQ
    refine ⟨_, _, _, _, _, _, rfl, ?_⟩
    refine put4 b3 rfl zV fun h5 s5 b5 e5 => ?_
    have e05 : Ext [] h h5 := e03.trans e5 fun b hb hlt => by simp at hb; omega
    intro J hJ
    rw [if_pos (by rfl)]
    refine hJ _ _ ?_
    rw [if_pos rfl]
    exact outV b5 rfl zV fun g e => hQ g (e05.trans e fun b hb hlt => by simp at hb; omega)
  | some p =>
    rw [hf] at hQ
    refine ⟨_, _, _, _, _, _, rfl, ?_⟩
    refine put4 b3 rfl p.1 fun h5 s5 b5 e5 => ?_
    have e05 : Ext [] h h5 := e03.trans e5 fun b hb hlt => by simp at hb; omega
    intro J hJ
    rw [if_neg (by decide)]
    refine hJ _ _ ?_
    rw [ofBtl_size]
    by_cases hr : p.2.length = 2
    · rw [if_neg (by simp [hr])]
      have hQ' : ∀ h', Ext [] h h' → Q [agg4 p.1, .int .i64 (twoL p.2), .int .i64 0] h' := by
        intro h' e
        have := hQ h' e
        simp only [hr, if_true] at this
        exact this
      refine rdV b5 (K := fun a b c d => ixOk _ _ (shOk _ (ixOk _ _ (stOk h5 _ 4 ∧ wth (wrs h5 _ 0 [.int .i64 a, .int .i64 b, .float .f64 c, .string d]) _)))) ?_
      refine ⟨by decide, by omega, by decide, by decide, by omega, ?_⟩
      refine outV b5 rfl p.1 fun g e => ?_
      have i0 := strIxD (l := p.2) (i := 0) (by omega)
      have i1 := strIxD (l := p.2) (i := 1) (by omega)
      have c0 := (p.2.getD 0 0).toNat_lt
      have c1 := (p.2.getD 1 0).toNat_lt
      have i0' : strIx (ofBtl p.2) 0 = (((p.2.getD 0 0).toNat : Nat) : Int) := i0
      have i1' : strIx (ofBtl p.2) 1 = (((p.2.getD 1 0).toNat : Nat) : Int) := i1
      rw [i0', i1', wrap64 (by omega) (by omega), wrap64 (by omega) (by omega), step8i _ _ (by omega) (by omega)]
      exact hQ' g (e05.trans e fun b hb hlt => by simp at hb; omega)
    · rw [if_pos (by simp; omega)]
      have hQ' : ∀ h', Ext [] h h' → Q [agg4 zV, .int .i64 0, .int .i64 11] h' := by
        intro h' e
        have := hQ h' e
        simp only [hr, if_false] at this
        exact this
      exact outV b5 rfl zV fun g e => hQ' g (e05.trans e fun b hb hlt => by simp at hb; omega)
end
end Go.Lift.X
namespace Go.Lift.X
open Go Go.Proofs
theorem bl_part {x y : List UInt8} (h : PartL x y) : Op.bytesLess x y = true := by
  induction h with
  | here h => simp [Op.bytesLess, h]
  | next _ ih => simp [Op.bytesLess, ih]
theorem bl_npart {x y : List UInt8} (h : PartL x y) : Op.bytesLess y x = false := by
  cases e : Op.bytesLess y x with
  | false => rfl
  | true => have := bl_trans _ _ _ (bl_part h) e; rw [bl_irrefl] at this; cases this
theorem blL_lt : ∀ {x y : List UInt8}, Op.bytesLess x y = true → x < y
  | _, [], h => by simp [Op.bytesLess] at h
  | [], _ :: _, _ => List.nil_lt_cons _ _
  | a :: x, b :: y, h => by
    simp only [Op.bytesLess, Bool.or_eq_true, Bool.and_eq_true, decide_eq_true_eq, beq_iff_eq] at h
    rcases h with h | ⟨rfl, h⟩
    · exact List.cons_lt_cons_iff.2 (Or.inl h)
    · exact List.cons_lt_cons_iff.2 (Or.inr ⟨rfl, blL_lt h⟩)
theorem sLtL_btl {s t : ByteArray} (h : sLt s t = true) : btl s < btl t := by
  unfold sLt at h
  rw [ByteArray.toList_eq, ByteArray.toList_eq] at h
  exact blL_lt h
theorem ofNat_lt8 {m n : Int} (h0 : 0 ≤ m) (h : m < n) (hn : n < 256) : UInt8.ofNat m.toNat < UInt8.ofNat n.toNat := ofNat_lt (by omega) (by omega)
theorem cmpF_self {f : Nat} : cmpF f f = 0 := by
  unfold cmpF
  rw [if_neg (by simp)]
  split
  · rfl
  · rename_i h
    have hn : nanD f = false := by
      cases e : nanD f with
      | false => rfl
      | true => exact absurd (by unfold rankF; rw [if_pos e]) h
    have := order_self f
    rw [hn] at this
    have he : (FloatKind.format .f64).order f f = some .eq := by simpa using this
    rw [he]
    rfl
theorem cmpV_self (a : V4) : cmpV a a = 0 := by
  unfold cmpV
  rw [if_neg (by omega), if_neg (by omega), if_neg (by omega), if_neg (by omega), cmpF_self, if_neg (by simp), if_neg (by rw [sLt_irrefl]; simp), if_neg (by rw [sLt_irrefl]; simp)]
theorem enc_tri {a b : V4} (ha : VOk a) (hb : VOk b) (ga : goodX a = true) (gb : goodX b = true) :
    (cmpV a b < 0 ∧ PartL (encX a) (encX b)) ∨ (cmpV a b = 0 ∧ a = b) ∨ (0 < cmpV a b ∧ PartL (encX b) (encX a)) := by
  have ka := good_k ga
  have kb := good_k gb
  have ba := bare_of ga
  have bb := bare_of gb
  have fa := ha.f
  have fb := hb.f
  have na := ha.n
  have nb := hb.n
  have oa := fun h => good_n (v := a) ga h
  have ob := fun h => good_n (v := b) gb h
  obtain ⟨k, n, f, s⟩ := a
  obtain ⟨l, m, g, t⟩ := b
  simp only at ka kb ba bb fa fb na nb oa ob
  by_cases k1 : k < l
  · refine Or.inl ⟨?_, ?_⟩
    · unfold cmpV
      rw [if_pos k1]
      decide
    · unfold encX
      exact .here (ofNat_lt8 (m := k) (n := l) ka.1 k1 (by omega))
  by_cases k2 : k > l
  · refine Or.inr (Or.inr ⟨?_, ?_⟩)
    · unfold cmpV
      rw [if_neg k1, if_pos k2]
      decide
    · unfold encX
      exact .here (ofNat_lt8 (m := l) (n := k) kb.1 k2 (by omega))
  have : k = l := by omega
  subst this
  have hc : cmpV ⟨k, n, f, s⟩ ⟨k, m, g, t⟩ = if n < m then -1 else if n > m then 1 else if cmpF f g ≠ 0 then cmpF f g else if sLt s t = true then -1 else if sLt t s = true then 1 else 0 := by
    unfold cmpV
    rw [if_neg k1, if_neg k2]
  rw [hc]
  have nx : ∀ {x y : V4}, x.k = y.k → PartL (payL x) (payL y) → PartL (encX x) (encX y) := fun hk h => by unfold encX; rw [hk]; exact .next h
  rcases (by omega : k = 0 ∨ k = 1 ∨ k = 2 ∨ k = 3 ∨ k = 4) with rfl | rfl | rfl | rfl | rfl
  · obtain rfl : n = 0 := ba.1 (by decide) (by decide)
    obtain rfl : m = 0 := bb.1 (by decide) (by decide)
    obtain rfl : f = 0 := ba.2.1 (by decide)
    obtain rfl : g = 0 := bb.2.1 (by decide)
    obtain rfl : s = sE := ba.2.2.1 (by decide)
    obtain rfl : t = sE := bb.2.2.1 (by decide)
    refine Or.inr (Or.inl ⟨?_, rfl⟩)
    rw [← hc]
    exact cmpV_self _
  · obtain rfl : f = 0 := ba.2.1 (by decide)
    obtain rfl : g = 0 := bb.2.1 (by decide)
    obtain rfl : s = sE := ba.2.2.1 (by decide)
    obtain rfl : t = sE := bb.2.2.1 (by decide)
    have o1 := oa rfl
    have o2 := ob rfl
    by_cases n1 : n < m
    · refine Or.inl ⟨by rw [if_pos n1]; decide, nx rfl ?_⟩
      exact .here (ofNat_lt8 (m := n) (n := m) (by omega) n1 (by omega))
    by_cases n2 : n > m
    · refine Or.inr (Or.inr ⟨by rw [if_neg n1, if_pos n2]; decide, nx rfl ?_⟩)
      exact .here (ofNat_lt8 (m := m) (n := n) (by omega) n2 (by omega))
    have : n = m := by omega
    subst this
    refine Or.inr (Or.inl ⟨?_, rfl⟩)
    rw [← hc]
    exact cmpV_self _
  · obtain rfl : f = 0 := ba.2.1 (by decide)
    obtain rfl : g = 0 := bb.2.1 (by decide)
    obtain rfl : s = sE := ba.2.2.1 (by decide)
    obtain rfl : t = sE := bb.2.2.1 (by decide)
    have l1 : uN n < 256 ^ 8 := uN_lt na.2
    have l2 : uN m < 256 ^ 8 := uN_lt nb.2
    by_cases n1 : n < m
    · refine Or.inl ⟨by rw [if_pos n1]; decide, nx rfl ?_⟩
      exact beL_part (u := uN n) (w := uN m) l1 l2 (by unfold uN; omega)
    by_cases n2 : n > m
    · refine Or.inr (Or.inr ⟨by rw [if_neg n1, if_pos n2]; decide, nx rfl ?_⟩)
      exact beL_part (u := uN m) (w := uN n) l2 l1 (by unfold uN; omega)
    have : n = m := by omega
    subst this
    refine Or.inr (Or.inl ⟨?_, rfl⟩)
    rw [← hc]
    exact cmpV_self _
  · obtain rfl : n = 0 := ba.1 (by decide) (by decide)
    obtain rfl : m = 0 := bb.1 (by decide) (by decide)
    obtain rfl : s = sE := ba.2.2.1 (by decide)
    obtain rfl : t = sE := bb.2.2.1 (by decide)
    have i1 := ba.2.2.2 rfl
    have i2 := bb.2.2.2 rfl
    have l1 : bitsF f < 256 ^ 8 := bitsF_lt fa
    have l2 : bitsF g < 256 ^ 8 := bitsF_lt fb
    rw [if_neg (by omega), if_neg (by omega)]
    rcases cmpF_tri fa fb i1 i2 with ⟨h1, h2⟩ | ⟨h1, h2⟩ | ⟨h1, h2⟩
    · refine Or.inl ⟨by rw [h1]; decide, nx rfl ?_⟩
      exact beL_part l1 l2 h2
    · subst h2
      refine Or.inr (Or.inl ⟨?_, rfl⟩)
      rw [h1, if_neg (by simp), if_neg (by rw [sLt_irrefl]; simp), if_neg (by rw [sLt_irrefl]; simp)]
    · refine Or.inr (Or.inr ⟨by rw [h1]; decide, nx rfl ?_⟩)
      exact beL_part l2 l1 h2
  · obtain rfl : n = 0 := ba.1 (by decide) (by decide)
    obtain rfl : m = 0 := bb.1 (by decide) (by decide)
    obtain rfl : f = 0 := ba.2.1 (by decide)
    obtain rfl : g = 0 := bb.2.1 (by decide)
    rw [if_neg (by omega), if_neg (by omega), cmpF_self, if_neg (by simp)]
    rcases sLt_total s t with rfl | h | h
    · refine Or.inr (Or.inl ⟨?_, rfl⟩)
      rw [if_neg (by rw [sLt_irrefl]; simp), if_neg (by rw [sLt_irrefl]; simp)]
    · refine Or.inl ⟨by rw [if_pos h]; decide, nx rfl ?_⟩
      exact esc_part (sLtL_btl h)
    · refine Or.inr (Or.inr ⟨by rw [if_neg (by rw [sLt_asymm h]; simp), if_pos h]; decide, nx rfl ?_⟩)
      exact esc_part (sLtL_btl h)
end Go.Lift.X

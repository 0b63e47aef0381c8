/- Bits of numbers. -/
import Derived.Test.YtgmnomkhmdeapaaDoorLvC
set_option linter.unusedSimpArgs false
set_option linter.unusedVariables false
namespace Go.Lift
open Go
theorem wrapU64 {x : Int} (h1 : 0 ≤ x) (h2 : x < 18446744073709551616) : IntKind.wrap .u64 x = x := by
  simp only [IntKind.wrap, IntKind.bits, IntKind.signed]
  simp
  omega
theorem ofI (x : Nat) (h : x < 18446744073709551616) : (BitVec.ofInt 64 (x : Int)).toNat = x := by
  rw [BitVec.toNat_ofInt]
  omega
theorem and63 (u : Nat) (h : u < 18446744073709551616) : (iAnd .u64 u 9223372036854775808 != 0) = decide (9223372036854775808 ≤ u) := by
  have e : iAnd .u64 u 9223372036854775808 = ((u &&& 9223372036854775808 : Nat) : Int) := by
    unfold iAnd
    show IntKind.wrap .u64 (((BitVec.ofInt 64 (u : Int)) &&& (BitVec.ofInt 64 ((9223372036854775808 : Nat) : Int))).toNat : Int) = _
    rw [BitVec.toNat_and, ofI u h, ofI _ (by decide)]
    refine wrapU64 (by omega) ?_
    have := Nat.and_le_left (n := u) (m := 9223372036854775808)
    omega
  rw [e]
  have h2 : u &&& 9223372036854775808 = (u.testBit 63).toNat * 9223372036854775808 := by
    apply Nat.eq_of_testBit_eq
    intro i
    rw [Nat.testBit_and]
    have hp : Nat.testBit 9223372036854775808 i = decide (63 = i) := Nat.testBit_two_pow (n := 63) (m := i)
    rw [hp]
    by_cases hi : 63 = i
    · subst hi
      cases hb : u.testBit 63 with
      | true => show true = Nat.testBit (1 * 9223372036854775808) 63; decide
      | false => show false = Nat.testBit (0 * 9223372036854775808) 63; decide
    · simp only [hi, decide_false, Bool.and_false]
      cases hb : u.testBit 63 with
      | true =>
        show false = Nat.testBit (1 * 9223372036854775808) i
        rw [Nat.one_mul, hp]
        simp [hi]
      | false => show false = Nat.testBit (0 * 9223372036854775808) i; simp
  have h3 : u.testBit 63 = decide (u / 9223372036854775808 % 2 = 1) := Nat.testBit_eq_decide_div_mod_eq
  rw [h2, h3]
  by_cases hu : 9223372036854775808 ≤ u
  · have : u / 9223372036854775808 % 2 = 1 := by omega
    simp [hu, this]
  · have : ¬ u / 9223372036854775808 % 2 = 1 := by omega
    simp [hu, this]
theorem or63 (u : Nat) (h : u < 9223372036854775808) : iOr .u64 u 9223372036854775808 = ((u + 9223372036854775808 : Nat) : Int) := by
  unfold iOr
  show IntKind.wrap .u64 (((BitVec.ofInt 64 (u : Int)) ||| (BitVec.ofInt 64 ((9223372036854775808 : Nat) : Int))).toNat : Int) = _
  rw [BitVec.toNat_or, ofI u (by omega), ofI _ (by decide)]
  have := Nat.two_pow_add_eq_or_of_lt (i := 63) (b := u) (by simpa using h) 1
  have e : u ||| 9223372036854775808 = u + 9223372036854775808 := by
    rw [Nat.or_comm]
    have h2 : 9223372036854775808 ||| u = 2 ^ 63 * 1 ||| u := rfl
    rw [h2, ← this]
    omega
  rw [e]
  exact wrapU64 (by omega) (by omega)
theorem andNot63 (u : Nat) (h : u < 18446744073709551616) (h2 : 9223372036854775808 ≤ u) : iAndNot .u64 u 9223372036854775808 = ((u - 9223372036854775808 : Nat) : Int) := by
  unfold iAndNot
  show IntKind.wrap .u64 (((BitVec.ofInt 64 (u : Int)) &&& ~~~(BitVec.ofInt 64 ((9223372036854775808 : Nat) : Int))).toNat : Int) = _
  rw [BitVec.toNat_and, BitVec.toNat_not, ofI u h, ofI _ (by decide)]
  have e : u &&& (2 ^ 64 - 1 - 9223372036854775808) = u % 9223372036854775808 := Nat.and_two_pow_sub_one_eq_mod u 63
  rw [e]
  have : u % 9223372036854775808 = u - 9223372036854775808 := by omega
  rw [this]
  exact wrapU64 (by omega) (by omega)
theorem xorAll (u : Nat) (h : u < 18446744073709551616) : iXor .u64 (IntKind.max .u64) u = ((18446744073709551615 - u : Nat) : Int) := by
  unfold iXor
  show IntKind.wrap .u64 (((BitVec.ofInt 64 ((18446744073709551615 : Nat) : Int)) ^^^ (BitVec.ofInt 64 (u : Int))).toNat : Int) = _
  have e : (BitVec.ofInt 64 ((18446744073709551615 : Nat) : Int)) = BitVec.allOnes 64 := by decide
  rw [e, BitVec.allOnes_xor, BitVec.toNat_not, ofI u h]
  exact wrapU64 (by omega) (by omega)
theorem xor63n (u : Nat) (h : u < 18446744073709551616) : u ^^^ 9223372036854775808 = if 9223372036854775808 ≤ u then u - 9223372036854775808 else u + 9223372036854775808 := by
  have base : ∀ v : Nat, v < 9223372036854775808 → v ^^^ 9223372036854775808 = v + 9223372036854775808 := by
    intro v hv
    have h1 := Nat.two_pow_add_eq_or_of_lt (i := 63) (b := v) (by simpa using hv) 1
    have e : v + 9223372036854775808 = v ||| 9223372036854775808 := by
      rw [Nat.or_comm]
      have h2 : 9223372036854775808 ||| v = 2 ^ 63 * 1 ||| v := rfl
      rw [h2, ← h1]
      omega
    rw [e]
    apply Nat.eq_of_testBit_eq
    intro i
    rw [Nat.testBit_xor, Nat.testBit_or]
    have hp : Nat.testBit 9223372036854775808 i = decide (63 = i) := Nat.testBit_two_pow (n := 63) (m := i)
    rw [hp]
    by_cases hi : 63 = i
    · subst hi
      have : v.testBit 63 = false := Nat.testBit_lt_two_pow (by simpa using hv)
      rw [this]
      rfl
    · simp [hi]
  split
  · rename_i hu
    have h1 := base (u - 9223372036854775808) (by omega)
    have h2 : u - 9223372036854775808 + 9223372036854775808 = u := by omega
    rw [h2] at h1
    have h3 : u ^^^ 9223372036854775808 = (u - 9223372036854775808) ^^^ 9223372036854775808 ^^^ 9223372036854775808 := by rw [h1]
    rw [h3, Nat.xor_assoc, Nat.xor_self, Nat.xor_zero]
  · exact base u (by omega)
theorem xor63 (u : Nat) (h : u < 18446744073709551616) : iXor .u64 u 9223372036854775808 = ((if 9223372036854775808 ≤ u then u - 9223372036854775808 else u + 9223372036854775808 : Nat) : Int) := by
  unfold iXor
  show IntKind.wrap .u64 (((BitVec.ofInt 64 (u : Int)) ^^^ (BitVec.ofInt 64 ((9223372036854775808 : Nat) : Int))).toNat : Int) = _
  rw [BitVec.toNat_xor, ofI u h, ofI _ (by decide), xor63n u h]
  split
  · exact wrapU64 (by omega) (by omega)
  · exact wrapU64 (by omega) (by omega)
theorem or8 (a c : Nat) (hc : c < 256) : (a * 256) ||| c = a * 256 + c := by
  have := Nat.two_pow_add_eq_or_of_lt (i := 8) (b := c) (by simpa using hc) a
  have e : 2 ^ 8 * a = a * 256 := by omega
  rw [e] at this
  exact this.symm
theorem shl8u (a : Nat) (h : a * 256 < 18446744073709551616) : iShl .u64 a 8 = ((a * 256 : Nat) : Int) := by
  unfold iShl
  have e : (a : Int) * 2 ^ (min (8 : Int).toNat IntKind.u64.bits) = ((a * 256 : Nat) : Int) := by
    have : min (8 : Int).toNat IntKind.u64.bits = 8 := rfl
    rw [this]
    omega
  rw [e]
  exact wrapU64 (by omega) (by omega)
theorem step8u (a c : Nat) (h : a * 256 < 18446744073709551616) (hc : c < 256) : iOr .u64 (iShl .u64 a 8) (c : Int) = ((a * 256 + c : Nat) : Int) := by
  rw [shl8u a h]
  unfold iOr
  show IntKind.wrap .u64 (((BitVec.ofInt 64 ((a * 256 : Nat) : Int)) ||| (BitVec.ofInt 64 (c : Int))).toNat : Int) = _
  rw [BitVec.toNat_or, ofI _ h, ofI c (by omega), or8 a c hc]
  exact wrapU64 (by omega) (by omega)
theorem step8i (a c : Nat) (h : a < 256) (hc : c < 256) : iOr .i64 (iShl .i64 a 8) (c : Int) = ((a * 256 + c : Nat) : Int) := by
  have e : iShl .i64 a 8 = ((a * 256 : Nat) : Int) := by
    unfold iShl
    have e : (a : Int) * 2 ^ (min (8 : Int).toNat IntKind.i64.bits) = ((a * 256 : Nat) : Int) := by
      have : min (8 : Int).toNat IntKind.i64.bits = 8 := rfl
      rw [this]
      omega
    rw [e]
    simp only [IntKind.wrap, IntKind.bits, IntKind.signed]
    simp
    omega
  rw [e]
  unfold iOr
  show IntKind.wrap .i64 (((BitVec.ofInt 64 ((a * 256 : Nat) : Int)) ||| (BitVec.ofInt 64 (c : Int))).toNat : Int) = _
  rw [BitVec.toNat_or, ofI _ (by omega), ofI c (by omega), or8 a c hc]
  simp only [IntKind.wrap, IntKind.bits, IntKind.signed]
  simp
  omega
theorem shr_u (u k : Nat) (hk : k ≤ 64) : iShr .u64 u (k : Int) = ((u / 2 ^ k : Nat) : Int) := by
  unfold iShr
  have : min (k : Int).toNat IntKind.u64.bits = k := by
    show min (k : Int).toNat 64 = k
    rw [Int.toNat_natCast]
    exact Nat.min_eq_left hk
  rw [this]
  have e : ((2 : Int) ^ k) = ((2 ^ k : Nat) : Int) := by push_cast; rfl
  rw [e, Int.fdiv_eq_ediv_of_nonneg _ (Int.natCast_nonneg _)]
  exact (Int.natCast_ediv u (2 ^ k)).symm
theorem wrapU8 (u : Nat) : IntKind.wrap .u8 (u : Int) = ((u % 256 : Nat) : Int) := by
  simp only [IntKind.wrap, IntKind.bits, IntKind.signed]
  simp
end Go.Lift

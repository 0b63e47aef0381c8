/- Locks: which modes bar which. -/
import Derived.Test.YtgobalogbijliaaW06k
set_option linter.unusedSimpArgs false
set_option linter.unusedVariables false
namespace Go.Lift
open Go Go.Proofs
set_option maxRecDepth 100000
theorem wrapNat {a : Nat} (ha : a < 2 ^ 63) : IntKind.wrap .i64 (a : Int) = (a : Int) := wrap64 (by omega) (by omega)
theorem iAnd_nat {a b : Nat} (ha : a < 2 ^ 63) (hb : b < 2 ^ 63) : iAnd .i64 (a : Int) (b : Int) = ((a &&& b : Nat) : Int) := by
  have h1 : a &&& b < 2 ^ 63 := Nat.and_lt_two_pow _ hb
  have h2 : (BitVec.ofInt (IntKind.bits .i64) (a : Int) &&& BitVec.ofInt (IntKind.bits .i64) (b : Int)).toNat = a &&& b := by
    rw [BitVec.toNat_and, BitVec.ofInt_natCast, BitVec.ofInt_natCast, BitVec.toNat_ofNat, BitVec.toNat_ofNat]
    show (a % 2 ^ 64) &&& (b % 2 ^ 64) = a &&& b
    rw [Nat.mod_eq_of_lt (by omega), Nat.mod_eq_of_lt (by omega)]
  unfold iAnd
  rw [h2, wrapNat h1]
theorem iOr_nat {a b : Nat} (ha : a < 2 ^ 63) (hb : b < 2 ^ 63) : iOr .i64 (a : Int) (b : Int) = ((a ||| b : Nat) : Int) := by
  have h1 : a ||| b < 2 ^ 63 := Nat.or_lt_two_pow ha hb
  have h2 : (BitVec.ofInt (IntKind.bits .i64) (a : Int) ||| BitVec.ofInt (IntKind.bits .i64) (b : Int)).toNat = a ||| b := by
    rw [BitVec.toNat_or, BitVec.ofInt_natCast, BitVec.ofInt_natCast, BitVec.toNat_ofNat, BitVec.toNat_ofNat]
    show (a % 2 ^ 64) ||| (b % 2 ^ 64) = a ||| b
    rw [Nat.mod_eq_of_lt (by omega), Nat.mod_eq_of_lt (by omega)]
  unfold iOr
  rw [h2, wrapNat h1]
def isM (m : Int) : Bool := decide (1 ≤ m) && decide (m ≤ 8)
theorem isM_iff {m : Int} : isM m = true ↔ 1 ≤ m ∧ m ≤ 8 := by simp [isM]
def withM (m : Int) : Nat := if isM m then [0, 256, 384, 480, 496, 472, 504, 508, 510].getD m.toNat 0 else 0
def bitM (m : Int) : Nat := 2 ^ m.toNat
def anyM (set : Nat) (m : Int) : Bool := (set &&& withM m) != 0
def barsM (a b : Int) : Bool := isM b && anyM (bitM b) a
theorem modes8 {m : Int} (hm : isM m = true) : m = 1 ∨ m = 2 ∨ m = 3 ∨ m = 4 ∨ m = 5 ∨ m = 6 ∨ m = 7 ∨ m = 8 := by
  have := isM_iff.1 hm
  omega
theorem withM_lt (m : Int) : withM m < 512 := by
  cases hm : isM m with
  | false => simp [withM, hm]
  | true => rcases modes8 hm with rfl | rfl | rfl | rfl | rfl | rfl | rfl | rfl <;> decide
theorem bitM_lt {m : Int} (hm : isM m = true) : bitM m < 512 := by
  rcases modes8 hm with rfl | rfl | rfl | rfl | rfl | rfl | rfl | rfl <;> decide
theorem bitM_pos (m : Int) : 0 < bitM m := Nat.two_pow_pos _
theorem iShl_bit {m : Int} (hm : isM m = true) : iShl .i64 (1 : Int) m = (bitM m : Int) := by
  rcases modes8 hm with rfl | rfl | rfl | rfl | rfl | rfl | rfl | rfl <;> rfl
section
variable {h : Hp} {Q : List Value → Hp → Prop}
theorem isM_s (m : Int) (hQ : Q [.bool (isM m)] h) : S_mode_is m h Q := by
  refine O_mode_is _ ?_
  unfold F_mode_is
  by_cases h1 : 1 ≤ m
  · rw [if_pos (by simpa using h1)]
    simpa [isM, h1] using hQ
  · rw [if_neg (by simpa using h1)]
    simpa [isM, h1] using hQ
theorem With_s (m : Int) (hQ : ∀ h', Ext [] h h' → Q [.int .i64 (withM m)] h') : S_mode_With m h Q := by
  refine O_mode_With _ ?_
  unfold F_mode_With
  refine isM_s m ⟨_, rfl, ?_⟩
  cases hm : isM m with
  | false =>
    rw [if_pos (by decide)]
    have := hQ h (Ext.refl _ _)
    simpa [withM, hm] using this
  | true =>
    rw [if_neg (by decide)]
    refine O_mode_bars ?_
    unfold F_mode_bars
    refine varI rfl rfl fun h1 s1 b1 e1 => ?_
    refine ⟨0, by simp [rd_blk b1], 256, by simp [rd_blk b1], 384, by simp [rd_blk b1], 480, by simp [rd_blk b1], 496, by simp [rd_blk b1], 472, by simp [rd_blk b1], 504, by simp [rd_blk b1], 508, by simp [rd_blk b1], 510, by simp [rd_blk b1], ?_⟩
    refine ⟨_, _, _, _, _, _, _, _, _, rfl, ?_⟩
    have hq := hQ h1 e1
    rcases modes8 hm with rfl | rfl | rfl | rfl | rfl | rfl | rfl | rfl <;> exact ⟨by decide, by decide, _, rfl, hq⟩
theorem Any_s {set : Nat} (hs : set < 512) (m : Int) (hQ : ∀ h', Ext [] h h' → Q [.bool (anyM set m)] h') : S_mode_Any set m h Q := by
  refine O_mode_Any _ _ ?_
  unfold F_mode_Any
  refine With_s m fun h1 e1 => ⟨_, rfl, ?_⟩
  have := withM_lt m
  rw [iAnd_nat (by omega) (by omega)]
  have hb : (((set &&& withM m : Nat) : Int) != 0) = anyM set m := by
    unfold anyM
    rw [Bool.eq_iff_iff]
    simp
  rw [hb]
  exact hQ h1 e1
theorem Bars_s (a b : Int) (hQ : ∀ h', Ext [] h h' → Q [.bool (barsM a b)] h') : S_mode_Bars a b h Q := by
  refine O_mode_Bars _ _ ?_
  unfold F_mode_Bars
  refine isM_s b ⟨_, rfl, ?_⟩
  cases hm : isM b with
  | false =>
    rw [if_neg (by decide)]
    have := hQ h (Ext.refl _ _)
    simpa [barsM, hm] using this
  | true =>
    rw [if_pos (by decide)]
    have := isM_iff.1 hm
    refine ⟨by omega, ?_⟩
    rw [iShl_bit hm]
    refine Any_s (bitM_lt hm) a fun h1 e1 => ⟨_, rfl, ?_⟩
    have := hQ h1 e1
    simpa [barsM, hm] using this
end
end Go.Lift

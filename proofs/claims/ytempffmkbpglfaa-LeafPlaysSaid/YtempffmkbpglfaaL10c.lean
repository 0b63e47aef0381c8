/- Comparing strings; a binary search among strings in order. -/
import Derived.Test.YtempffmkbpglfaaL10b
import Derived.Test.YtempffmkbpglfaaL10s
set_option linter.unusedSimpArgs false
set_option linter.unusedVariables false
namespace Go.Lift
open Go Go.Proofs
set_option maxRecDepth 100000
abbrev encB (s : ByteArray) : List Value := [.string s]
theorem encB_len (s : ByteArray) : (encB s).length = 1 := rfl
theorem encB_one (s : ByteArray) : ∀ v ∈ encB s, oneCell v = true := by intro v hv; simp at hv; subst hv; rfl
section
variable {h : Hp} {Q : List Value → Hp → Prop}
theorem cmpNaN_s {x : ByteArray} (hQ : Q [.bool false] h) : S_cmp_isNaN_string x h Q := by
  refine O_cmp_isNaN_string _ ?_
  unfold F_cmp_isNaN_string
  simpa using hQ
theorem slNaN_s {x : ByteArray} (hQ : Q [.bool false] h) : S_slices_isNaN_string x h Q := by
  refine O_slices_isNaN_string _ ?_
  unfold F_slices_isNaN_string
  simpa using hQ
theorem Less_s {x y : ByteArray} (hQ : Q [.bool (sLt x y)] h) : S_cmp_Less_string x y h Q := by
  refine O_cmp_Less_string _ _ ?_
  unfold F_cmp_Less_string
  refine cmpNaN_s ⟨_, rfl, ?_⟩
  rw [if_neg (by decide)]
  exact hQ
theorem wrapu64 {x : Int} (h1 : 0 ≤ x) (h2 : x < 18446744073709551616) : IntKind.wrap .u64 x = x := by
  unfold IntKind.wrap IntKind.bits IntKind.signed
  simp only [Bool.false_and, Bool.false_eq_true, if_false]
  omega
theorem half (i j : Nat) (hb : i + j < 2 ^ 60) : IntKind.wrap .i64 (iShr .u64 (IntKind.wrap .u64 (IntKind.wrap .i64 ((i : Int) + (j : Int)))) 1) = (((i + j) / 2 : Nat) : Int) := by
  rw [wrap64 (x := (i : Int) + (j : Int)) (by omega) (by omega), wrapu64 (by omega) (by omega)]
  have : iShr .u64 ((i : Int) + (j : Int)) 1 = (((i + j) / 2 : Nat) : Int) := by
    unfold iShr
    have e : (2 : Int) ^ (min (Int.toNat 1) (IntKind.bits .u64)) = 2 := by decide
    rw [e, Int.fdiv_eq_ediv_of_nonneg _ (by decide)]
    omega
  rw [this, wrap64 (by omega) (by omega)]
theorem rdB {h : Hp} {s : Sl} {xs : List ByteArray} (hs : Reads 1 encB h s xs) {i : Nat} (hi : i < xs.length) : ∃ a, s.a = some a ∧ rd h (Addr.add a (i * 1)) = some (.string xs[i]) := by
  obtain ⟨a, h1, h2⟩ := hs.rd encB_len hi
  exact ⟨a, h1, h2 0 (by omega)⟩
theorem BinarySearch_s {s : Sl} {xs : List ByteArray} {k : ByteArray} (hs : Reads 1 encB h s xs) (hl : xs.length < 2 ^ 50) (hmono : ∀ a b (_ : a < b) (hb : b < xs.length), sLt xs[b] k = true → sLt (xs[a]'(by omega)) k = true)
    (hQ : ∀ i b, i ≤ xs.length → (∀ a (ha : a < xs.length), a < i → sLt xs[a] k = true) → (∀ a (ha : a < xs.length), i ≤ a → sLt xs[a] k = false) → (b = true ↔ ∃ hi : i < xs.length, xs[i].toList = k.toList) → Q [.int .i64 (i : Nat), .bool b] h) :
    S_slices_BinarySearch_sstring_string s k h Q := by
  refine O_slices_BinarySearch_sstring_string _ _ ?_
  unfold F_slices_BinarySearch_sstring_string
  have hn := hs.1
  intro X hX
  have key : ∀ d (i j : Nat), j - i ≤ d → i ≤ j → j ≤ xs.length → (∀ a (ha : a < xs.length), a < i → sLt xs[a] k = true) → (∀ a (ha : a < xs.length), j ≤ a → sLt xs[a] k = false) → X [.int .i64 (i : Int), .int .i64 (j : Int)] h := by
    intro d
    induction d with
    | zero =>
      intro i j hd hij hj hlo hhi
      have : i = j := by omega
      subst this
      refine hX _ _ _ ?_
      rw [if_neg (by simp)]
      by_cases hil : i < xs.length
      · rw [if_pos (by simp; omega)]
        obtain ⟨a, g1, g2⟩ := rdB hs hil
        rw [g1]
        simp only [nilW_some, Int.toNat_natCast]
        refine ⟨by omega, by omega, xs[i], g2, ?_⟩
        by_cases e : xs[i].toList = k.toList
        · rw [if_pos (by simp [e])]
          exact hQ i true hj hlo hhi ⟨fun _ => ⟨hil, e⟩, fun _ => rfl⟩
        · rw [if_neg (by simp [e])]
          refine ⟨by omega, by omega, xs[i], g2, ?_⟩
          refine slNaN_s ⟨_, rfl, ?_⟩
          rw [if_neg (by decide)]
          exact hQ i false hj hlo hhi ⟨fun h => (by cases h), fun ⟨_, h⟩ => absurd h e⟩
      · rw [if_neg (by simp; omega)]
        exact hQ i false hj hlo hhi ⟨fun h => (by cases h), fun ⟨h, _⟩ => absurd h hil⟩
    | succ d ih =>
      intro i j hd hij hj hlo hhi
      by_cases hlt : i < j
      · refine hX _ _ _ ?_
        rw [if_pos (by simp; omega)]
        have hm : (i + j) / 2 < xs.length := by omega
        refine ⟨by decide, ?_⟩
        rw [half i j (by omega)]
        obtain ⟨a, g1, g2⟩ := rdB hs hm
        rw [g1]
        simp only [nilW_some, Int.toNat_natCast]
        refine ⟨by omega, by omega, _, g2, ?_⟩
        refine Less_s ⟨_, rfl, ?_⟩
        cases hb : sLt xs[(i + j) / 2] k with
        | true =>
          rw [if_pos (by decide), wrap64 (by omega) (by omega)]
          have := ih ((i + j) / 2 + 1) j (by omega) (by omega) hj (fun a ha h1 => by
            rcases (by omega : a < (i + j) / 2 ∨ a = (i + j) / 2) with g | g
            · exact hmono a _ g hm hb
            · subst g; exact hb) hhi
          simpa using this
        | false =>
          rw [if_neg (by decide)]
          exact ih i ((i + j) / 2) (by omega) (by omega) (by omega) hlo fun a ha h1 => by
            rcases (by omega : (i + j) / 2 < a ∨ a = (i + j) / 2) with g | g
            · cases hb2 : sLt xs[a] k with
              | false => rfl
              | true => have := hmono _ a g ha hb2; rw [hb] at this; cases this
            · subst g; exact hb
      · exact ih i j (by omega) hij hj hlo hhi
  have := key xs.length 0 xs.length (by omega) (by omega) (Nat.le_refl _) (fun a ha h => by omega) (fun a ha h => by omega)
  rw [← hn] at this
  simpa using this
end
end Go.Lift

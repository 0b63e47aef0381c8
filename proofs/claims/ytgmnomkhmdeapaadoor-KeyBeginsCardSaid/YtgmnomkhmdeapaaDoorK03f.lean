/- Keys stand in the order of their values. -/
import Derived.Test.YtgmnomkhmdeapaaDoorK03e
set_option linter.unusedSimpArgs false
set_option linter.unusedVariables false
namespace Go.Lift
open Go Go.Proofs
theorem bl_part {x y : List UInt8} (h : PartL x y) : Op.bytesLess x y = true := by
  induction h with
  | here h => simp [Op.bytesLess, h]
  | next _ ih => simp [Op.bytesLess, ih]
theorem bl_npart {x y : List UInt8} (h : PartL x y) : Op.bytesLess y x = false := by
  cases e : Op.bytesLess y x with
  | false => rfl
  | true => have := bl_trans _ _ _ (bl_part h) e; rw [bl_irrefl] at this; cases this
theorem blL_lt : ∀ {x y : List UInt8}, Op.bytesLess x y = true → x < y
  | _, [], h => by simp [Op.bytesLess] at h
  | [], _ :: _, _ => List.nil_lt_cons _ _
  | a :: x, b :: y, h => by
    simp only [Op.bytesLess, Bool.or_eq_true, Bool.and_eq_true, decide_eq_true_eq, beq_iff_eq] at h
    rcases h with h | ⟨rfl, h⟩
    · exact List.cons_lt_cons_iff.2 (Or.inl h)
    · exact List.cons_lt_cons_iff.2 (Or.inr ⟨rfl, blL_lt h⟩)
theorem sLtL_btl {s t : ByteArray} (h : sLt s t = true) : btl s < btl t := by
  unfold sLt at h
  rw [ByteArray.toList_eq, ByteArray.toList_eq] at h
  exact blL_lt h
theorem ofNat_lt8 {m n : Int} (h0 : 0 ≤ m) (h : m < n) (hn : n < 256) : UInt8.ofNat m.toNat < UInt8.ofNat n.toNat := ofNat_lt (by omega) (by omega)
theorem cmpF_self {f : Nat} : cmpF f f = 0 := by
  unfold cmpF
  rw [if_neg (by simp)]
  split
  · rfl
  · rename_i h
    have hn : nanD f = false := by
      cases e : nanD f with
      | false => rfl
      | true => exact absurd (by unfold rankF; rw [if_pos e]) h
    have := order_self f
    rw [hn] at this
    have he : (FloatKind.format .f64).order f f = some .eq := by simpa using this
    rw [he]
    rfl
theorem cmpV_self (a : V4) : cmpV a a = 0 := by
  unfold cmpV
  rw [if_neg (by omega), if_neg (by omega), if_neg (by omega), if_neg (by omega), cmpF_self, if_neg (by simp), if_neg (by rw [sLt_irrefl]; simp), if_neg (by rw [sLt_irrefl]; simp)]
theorem enc_tri {a b : V4} (ha : VOk a) (hb : VOk b) (ga : goodX a = true) (gb : goodX b = true) :
    (cmpV a b < 0 ∧ PartL (encX a) (encX b)) ∨ (cmpV a b = 0 ∧ a = b) ∨ (0 < cmpV a b ∧ PartL (encX b) (encX a)) := by
  have ka := good_k ga
  have kb := good_k gb
  have ba := bare_of ga
  have bb := bare_of gb
  have fa := ha.f
  have fb := hb.f
  have na := ha.n
  have nb := hb.n
  have oa := fun h => good_n (v := a) ga h
  have ob := fun h => good_n (v := b) gb h
  obtain ⟨k, n, f, s⟩ := a
  obtain ⟨l, m, g, t⟩ := b
  simp only at ka kb ba bb fa fb na nb oa ob
  by_cases k1 : k < l
  · refine Or.inl ⟨?_, ?_⟩
    · unfold cmpV
      rw [if_pos k1]
      decide
    · unfold encX
      exact .here (ofNat_lt8 (m := k) (n := l) ka.1 k1 (by omega))
  by_cases k2 : k > l
  · refine Or.inr (Or.inr ⟨?_, ?_⟩)
    · unfold cmpV
      rw [if_neg k1, if_pos k2]
      decide
    · unfold encX
      exact .here (ofNat_lt8 (m := l) (n := k) kb.1 k2 (by omega))
  have : k = l := by omega
  subst this
  have hc : cmpV ⟨k, n, f, s⟩ ⟨k, m, g, t⟩ = if n < m then -1 else if n > m then 1 else if cmpF f g ≠ 0 then cmpF f g else if sLt s t = true then -1 else if sLt t s = true then 1 else 0 := by
    unfold cmpV
    rw [if_neg k1, if_neg k2]
  rw [hc]
  have nx : ∀ {x y : V4}, x.k = y.k → PartL (payL x) (payL y) → PartL (encX x) (encX y) := fun hk h => by unfold encX; rw [hk]; exact .next h
  rcases (by omega : k = 0 ∨ k = 1 ∨ k = 2 ∨ k = 3 ∨ k = 4) with rfl | rfl | rfl | rfl | rfl
  · obtain rfl : n = 0 := ba.1 (by decide) (by decide)
    obtain rfl : m = 0 := bb.1 (by decide) (by decide)
    obtain rfl : f = 0 := ba.2.1 (by decide)
    obtain rfl : g = 0 := bb.2.1 (by decide)
    obtain rfl : s = sE := ba.2.2.1 (by decide)
    obtain rfl : t = sE := bb.2.2.1 (by decide)
    refine Or.inr (Or.inl ⟨?_, rfl⟩)
    rw [← hc]
    exact cmpV_self _
  · obtain rfl : f = 0 := ba.2.1 (by decide)
    obtain rfl : g = 0 := bb.2.1 (by decide)
    obtain rfl : s = sE := ba.2.2.1 (by decide)
    obtain rfl : t = sE := bb.2.2.1 (by decide)
    have o1 := oa rfl
    have o2 := ob rfl
    by_cases n1 : n < m
    · refine Or.inl ⟨by rw [if_pos n1]; decide, nx rfl ?_⟩
      exact .here (ofNat_lt8 (m := n) (n := m) (by omega) n1 (by omega))
    by_cases n2 : n > m
    · refine Or.inr (Or.inr ⟨by rw [if_neg n1, if_pos n2]; decide, nx rfl ?_⟩)
      exact .here (ofNat_lt8 (m := m) (n := n) (by omega) n2 (by omega))
    have : n = m := by omega
    subst this
    refine Or.inr (Or.inl ⟨?_, rfl⟩)
    rw [← hc]
    exact cmpV_self _
  · obtain rfl : f = 0 := ba.2.1 (by decide)
    obtain rfl : g = 0 := bb.2.1 (by decide)
    obtain rfl : s = sE := ba.2.2.1 (by decide)
    obtain rfl : t = sE := bb.2.2.1 (by decide)
    have l1 : uN n < 256 ^ 8 := uN_lt na.2
    have l2 : uN m < 256 ^ 8 := uN_lt nb.2
    by_cases n1 : n < m
    · refine Or.inl ⟨by rw [if_pos n1]; decide, nx rfl ?_⟩
      exact beL_part (u := uN n) (w := uN m) l1 l2 (by unfold uN; omega)
    by_cases n2 : n > m
    · refine Or.inr (Or.inr ⟨by rw [if_neg n1, if_pos n2]; decide, nx rfl ?_⟩)
      exact beL_part (u := uN m) (w := uN n) l2 l1 (by unfold uN; omega)
    have : n = m := by omega
    subst this
    refine Or.inr (Or.inl ⟨?_, rfl⟩)
    rw [← hc]
    exact cmpV_self _
  · obtain rfl : n = 0 := ba.1 (by decide) (by decide)
    obtain rfl : m = 0 := bb.1 (by decide) (by decide)
    obtain rfl : s = sE := ba.2.2.1 (by decide)
    obtain rfl : t = sE := bb.2.2.1 (by decide)
    have i1 := ba.2.2.2 rfl
    have i2 := bb.2.2.2 rfl
    have l1 : bitsF f < 256 ^ 8 := bitsF_lt fa
    have l2 : bitsF g < 256 ^ 8 := bitsF_lt fb
    rw [if_neg (by omega), if_neg (by omega)]
    rcases cmpF_tri fa fb i1 i2 with ⟨h1, h2⟩ | ⟨h1, h2⟩ | ⟨h1, h2⟩
    · refine Or.inl ⟨by rw [h1]; decide, nx rfl ?_⟩
      exact beL_part l1 l2 h2
    · subst h2
      refine Or.inr (Or.inl ⟨?_, rfl⟩)
      rw [h1, if_neg (by simp), if_neg (by rw [sLt_irrefl]; simp), if_neg (by rw [sLt_irrefl]; simp)]
    · refine Or.inr (Or.inr ⟨by rw [h1]; decide, nx rfl ?_⟩)
      exact beL_part l2 l1 h2
  · obtain rfl : n = 0 := ba.1 (by decide) (by decide)
    obtain rfl : m = 0 := bb.1 (by decide) (by decide)
    obtain rfl : f = 0 := ba.2.1 (by decide)
    obtain rfl : g = 0 := bb.2.1 (by decide)
    rw [if_neg (by omega), if_neg (by omega), cmpF_self, if_neg (by simp)]
    rcases sLt_total s t with rfl | h | h
    · refine Or.inr (Or.inl ⟨?_, rfl⟩)
      rw [if_neg (by rw [sLt_irrefl]; simp), if_neg (by rw [sLt_irrefl]; simp)]
    · refine Or.inl ⟨by rw [if_pos h]; decide, nx rfl ?_⟩
      exact esc_part (sLtL_btl h)
    · refine Or.inr (Or.inr ⟨by rw [if_neg (by rw [sLt_asymm h]; simp), if_pos h]; decide, nx rfl ?_⟩)
      exact esc_part (sLtL_btl h)
end Go.Lift

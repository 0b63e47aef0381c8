/- What all the laws of keys call. -/
import Derived.Test.YtgmnomkhmdeapaaDoorW03l
import Derived.Test.YtgmnomkhmdeapaaDoorK03f
set_option linter.unusedSimpArgs false
set_option linter.unusedVariables false
namespace Go.Lift
open Go Go.Proofs Go.RowKit
set_option maxRecDepth 100000
theorem two_be {n : Nat} (hn : n ≤ 65535) : twoL (beL 2 n) = (n : Int) := by
  have h := num_beL (k := 2) (u := n) (by omega)
  have hl := beL_len 2 n
  unfold twoL
  generalize hb : beL 2 n = b at h hl ⊢
  obtain ⟨x, y, rfl⟩ : ∃ x y, b = [x, y] := by
    cases b with
    | nil => cases hl
    | cons x b => cases b with
      | nil => cases hl
      | cons y b => cases b with
        | nil => exact ⟨x, y, rfl⟩
        | cons z b => simp at hl
  rw [numL_cons, numL_cons] at h
  have h0 : numL [] = 0 := rfl
  rw [h0] at h
  simp at h ⊢
  omega
theorem splitP_of {v : V4} (hv : VOk v) (hg : goodX v = true) {n : Nat} (hn : n ≤ 65535) : splitP (encX v ++ beL 2 n) = (v, (n : Int), 0) := by
  unfold splitP
  rw [firstL_of hv hg]
  simp only
  rw [if_pos (beL_len 2 n), two_be hn]
theorem entryP_good {v : V4} (hg : goodX v = true) {n : Nat} (hn : n ≤ 65535) : entryP v n = (ofBtl (encX v ++ beL 2 n), 0) := by
  unfold entryP
  rw [if_pos hg, if_neg (by omega), Int.toNat_natCast]
theorem ofP_good {v : V4} (hg : goodX v = true) : ofP v = (ofBtl (encX v), 0) := by
  unfold ofP
  rw [if_pos hg]
theorem afterP_good {v : V4} (hg : goodX v = true) : afterP v = (ofBtl (encX v ++ beL 2 65535 ++ [0]), 0) := by
  unfold afterP
  rw [if_pos hg]
section
variable {h : Hp} {Q : List Value → Hp → Prop}
theorem rdVe {S : List Nat} {g : Hp} {b : Nat} {v : V4} {T : TypeId} {K : Int → Int → Nat → ByteArray → Prop} (hb : Blk h b (cells4 v) T) (he : Ext S h g) (hn : b ∉ S) (H : K v.k v.n v.f v.s) :
    ∃ n3 : Int, rd g (Addr.add (Addr.mk b 0 none) 0) = some (.int .i64 n3) ∧ ∃ n4 : Int, rd g (Addr.add (Addr.mk b 0 none) 1) = some (.int .i64 n4) ∧ ∃ x5 : Nat, rd g (Addr.add (Addr.mk b 0 none) 2) = some (.float .f64 x5) ∧ ∃ s6 : ByteArray, rd g (Addr.add (Addr.mk b 0 none) 3) = some (.string s6) ∧ K n3 n4 x5 s6 :=
  rdV (he.get hb hn) H
theorem Large_s (v : V4) (hQ : ∀ h', Ext [] h h' → Q [.bool (decide ((v.s.size : Int) > 2000))] h') : S_liverykeep_LargeValue v.k v.n v.f v.s h Q := by
  refine O_liverykeep_LargeValue _ _ _ _ ?_
  unfold F_liverykeep_LargeValue
  refine newI fun h1 s1 b1 e1 => ?_
  have b1' : Blk h1 h.size (cells4 v) T_api_Value := b1
  exact ⟨v.s, (rd4V b1').2.2.2, hQ h1 e1⟩
theorem Keep_s (v : V4) (hQ : ∀ h', Ext [] h h' → Q [.bool true] h') : S_liverykeep_Value v.k v.n v.f v.s v.k v.n v.f v.s h Q := by
  refine O_liverykeep_Value _ _ _ _ _ _ _ _ ?_
  unfold F_liverykeep_Value
  refine newI fun h1 s1 b1 e1 => newI fun h2 s2 b2 e2 => ?_
  have c1 : Blk h2 h.size (cells4 v) T_api_Value := e2.get b1 (by simp)
  have c2 : Blk h2 h1.size (cells4 v) T_api_Value := b2
  obtain ⟨a0, a1, a2, a3⟩ := rd4V c1
  obtain ⟨d0, d1, d2, d3⟩ := rd4V c2
  refine ⟨_, a0, _, d0, ?_⟩
  rw [if_pos (by simp)]
  refine ⟨_, a1, _, d1, ?_⟩
  rw [if_pos (by simp)]
  refine ⟨_, a2, _, d2, Float64bits_s ⟨_, rfl, d2, Float64bits_s ⟨_, rfl, ?_⟩⟩⟩
  rw [if_pos (by simp)]
  refine ⟨_, a3, _, d3, ?_⟩
  have := hQ h2 (e1.trans0 e2)
  simpa using this
def vOne : V4 := ⟨2, 1, 0, sE⟩
def vA : V4 := ⟨4, 0, 0, ofBtl [97]⟩
theorem vOne_ok : VOk vOne := ⟨by decide, by decide, by decide⟩
theorem vA_ok : VOk vA := ⟨(by decide : 0 < allD), (by decide : (-9223372036854775808 : Int) ≤ 0), (by decide : (0 : Int) < 9223372036854775808)⟩
theorem vOne_good : goodX vOne = true := by
  unfold goodX goodV vOne
  simp [bareV]
theorem vA_good : goodX vA = true := by
  unfold goodX goodV vA
  simp [bareV, ofBtl_size]
theorem wakes_s (hg : GM h) (hQ : ∀ h', Ext [] h h' → Q [.bool true] h') : S_liverylaw03_wakes h Q := by
  refine O_liverylaw03_wakes ?_
  unfold F_liverylaw03_wakes
  refine Of_s vOne vOne_ok hg fun h2 e2 => ⟨_, _, rfl, ?_⟩
  rw [ofP_good vOne_good]
  refine Entry_s vA vA_ok (hg.ext e2) 258 fun h6 e6 => ⟨_, _, rfl, ?_⟩
  have en : entryP vA 258 = (ofBtl (encX vA ++ beL 2 258), 0) := entryP_good vA_good (n := 258) (by decide)
  have hs : splitP (encX vA ++ beL 2 258) = (vA, 258, 0) := splitP_of vA_ok vA_good (n := 258) (by decide)
  rw [en]
  have hel := encX_len vA_good
  refine Split_s (encX vA ++ beL 2 258) (by rw [List.length_append, beL_len]; omega) fun h10 e10 => ?_
  rw [hs]
  refine ⟨_, _, _, _, _, _, rfl, ?_⟩
  refine newI fun h17 s17 b17 e17 => put4 b17 rfl vA fun h18 s18 b18 e18 => ?_
  rw [if_pos (by rfl), if_pos (by rfl), if_pos (by rfl)]
  have hx : encX vOne = [2, 128, 0, 0, 0, 0, 0, 0, 1] := by decide +kernel
  have t1 : (ByteArray.mk #[2, 128, 0, 0, 0, 0, 0, 0, 1]).toList = [2, 128, 0, 0, 0, 0, 0, 0, 1] := tl_ofBtl [2, 128, 0, 0, 0, 0, 0, 0, 1]
  have t2 : (ByteArray.mk #[97]).toList = [97] := tl_ofBtl [97]
  rw [if_pos (by rw [tl_ofBtl, hx, t1]; rfl)]
  refine ⟨ofBtl [97], (rd4V b18).2.2.2, ?_⟩
  rw [if_pos (by rw [tl_ofBtl, t2]; rfl)]
  exact hQ h18 ((((e2.trans0 e6).trans0 e10).trans0 e17).trans e18 fun b hb hlt => by
    simp at hb
    have := ((e2.trans0 e6).trans0 e10).sz
    omega)
end
end Go.Lift

/- KeyOrder, KeyBetween: true, whatever the input. -/
import Derived.Test.YtgmnomkhmdeapaaDoorW03n
set_option linter.unusedSimpArgs false
set_option linter.unusedVariables false
namespace Go.Lift
open Go Go.Proofs Go.RowKit
set_option maxRecDepth 100000
theorem beL_inj {m n : Nat} (hm : m ≤ 65535) (hn : n ≤ 65535) (h : beL 2 m = beL 2 n) : m = n := by
  rw [← num_beL (k := 2) (u := m) (by omega), ← num_beL (k := 2) (u := n) (by omega), h]
theorem bl_prefix : ∀ (x : List UInt8) (c : UInt8) (t : List UInt8), Op.bytesLess x (x ++ c :: t) = true
  | [], _, _ => rfl
  | a :: x, c, t => by simp [Op.bytesLess, bl_prefix x c t]
section
variable {a b : V4} (ha : VOk a) (hb : VOk b) (ga : goodX a = true) (gb : goodX b = true)
include ha hb ga gb
theorem ord_lt : Op.bytesLess (encX a) (encX b) = decide (cmpV a b < 0) := by
  rcases enc_tri ha hb ga gb with ⟨h1, h2⟩ | ⟨h1, h2⟩ | ⟨h1, h2⟩
  · rw [bl_part h2, decide_eq_true h1]
  · rw [h2, bl_irrefl, decide_eq_false (by rw [h2] at h1; omega)]
  · rw [bl_npart h2, decide_eq_false (by omega)]
theorem ord_eq : (encX a == encX b) = (cmpV a b == 0) := by
  rcases enc_tri ha hb ga gb with ⟨h1, h2⟩ | ⟨h1, h2⟩ | ⟨h1, h2⟩
  · have := h2.ne
    have e : (cmpV a b == 0) = false := by simp; omega
    rw [e]
    simpa using this
  · rw [h2] at h1 ⊢
    rw [h1]
    simp
  · have := h2.ne.symm
    have e : (cmpV a b == 0) = false := by simp; omega
    rw [e]
    simpa using this
theorem ent_lt {m n : Nat} (hm : m ≤ 65535) (hn : n ≤ 65535) : Op.bytesLess (encX a ++ beL 2 m) (encX b ++ beL 2 n) = if cmpV a b < 0 then true else if cmpV a b = 0 then decide (m < n) else false := by
  rcases enc_tri ha hb ga gb with ⟨h1, h2⟩ | ⟨h1, h2⟩ | ⟨h1, h2⟩
  · rw [if_pos h1, bl_part (h2.app _ _)]
  · rw [if_neg (by omega), if_pos h1, h2]
    by_cases hmn : m < n
    · rw [decide_eq_true hmn, bl_part ((beL_part (k := 2) (by omega) (by omega) hmn).pre _)]
    · rw [decide_eq_false hmn]
      by_cases e : m = n
      · rw [e, bl_irrefl]
      · rw [bl_npart ((beL_part (k := 2) (by omega) (by omega) (by omega)).pre _)]
  · rw [if_neg (by omega), if_neg (by omega), bl_npart (h2.app _ _)]
theorem ent_eq {m n : Nat} (hm : m ≤ 65535) (hn : n ≤ 65535) : (encX a ++ beL 2 m == encX b ++ beL 2 n) = if cmpV a b = 0 then decide (m = n) else false := by
  rcases enc_tri ha hb ga gb with ⟨h1, h2⟩ | ⟨h1, h2⟩ | ⟨h1, h2⟩
  · rw [if_neg (by omega)]
    simpa using (h2.app (beL 2 m) (beL 2 n)).ne
  · rw [if_pos h1, h2]
    by_cases e : m = n
    · rw [e]; simp
    · rw [decide_eq_false e]
      simp
      exact fun h => e (beL_inj hm hn h)
  · rw [if_neg (by omega)]
    simpa using (h2.app (beL 2 n) (beL 2 m)).ne.symm
theorem aft_lt {n : Nat} (hn : n ≤ 65535) (hc : cmpV a b = 0) : Op.bytesLess (encX b ++ beL 2 n) (encX a ++ beL 2 65535 ++ [0]) = true := by
  rcases enc_tri ha hb ga gb with ⟨h1, h2⟩ | ⟨h1, h2⟩ | ⟨h1, h2⟩
  · omega
  · rw [h2]
    by_cases e : n = 65535
    · rw [e]
      exact bl_prefix _ _ _
    · rw [List.append_assoc]
      exact bl_part (PartL.pre (by
        have := (beL_part (k := 2) (u := n) (w := 65535) (by omega) (by omega) (by omega)).app [] [0]
        rwa [List.append_nil] at this) _)
  · omega
theorem aft_nlt {n : Nat} (hc : cmpV a b < 0) : Op.bytesLess (encX b ++ beL 2 n) (encX a ++ beL 2 65535 ++ [0]) = false := by
  rcases enc_tri ha hb ga gb with ⟨h1, h2⟩ | ⟨h1, h2⟩ | ⟨h1, h2⟩
  · rw [List.append_assoc]
    exact bl_npart (h2.app _ _)
  · omega
  · omega
end
section
variable {h : Hp} {Q : List Value → Hp → Prop}
theorem KeyOrder_s (a b : V4) (ha : VOk a) (hb : VOk b) (m n : Nat) (hm : m ≤ 65535) (hn : n ≤ 65535) (hg : GM h) (hQ : ∀ h', Ext [] h h' → Q [.bool true] h') : F_liverylaw03_KeyOrder a.k a.n a.f a.s b.k b.n b.f b.s (m : Int) (n : Int) h Q := by
  unfold F_liverylaw03_KeyOrder
  refine newI fun h1 s1 b1' e1 => newI fun h2 s2 b2' e2 => newI fun h3 s3 b3 e3 => ?_
  have b1 : Blk h1 h.size (cells4 a) T_api_Value := b1'
  have b2 : Blk h2 h1.size (cells4 b) T_api_Value := b2'
  refine ⟨by decide, by decide, (m : Int), by simp [rd_blk b3], by decide, by decide, (n : Int), by simp [rd_blk b3], ?_⟩
  have e03 := (e1.trans0 e2).trans0 e3
  have a3 := e3.get (e2.get b1 (by simp)) (by simp)
  have d3 := e3.get b2 (by simp)
  intro J hJ
  have wk : ∀ g, Ext [] h g → J [.bool true] g := fun g eg => by
    refine hJ _ _ ?_
    rw [if_pos rfl]
    exact wakes_s (hg.ext eg) fun h' e => ⟨_, rfl, hQ h' (eg.trans0 e)⟩
  refine rdV a3 ?_
  refine GoodR_s a fun h4 e4 => ⟨_, rfl, ?_⟩
  have e04 := e03.trans0 e4
  cases ga : goodX a with
  | false => rw [if_pos (by rfl)]; exact wk h4 e04
  | true =>
    rw [if_neg (by decide)]
    have a4 := e4.get a3 (by simp)
    have d4 := e4.get d3 (by simp)
    refine rdV d4 ?_
    refine GoodR_s b fun h5 e5 => ⟨_, rfl, ?_⟩
    have e05 := e04.trans0 e5
    cases gb : goodX b with
    | false => exact wk h5 e05
    | true =>
      refine hJ _ _ ?_
      rw [if_neg (by decide)]
      have a5 := e5.get a4 (by simp)
      have d5 := e5.get d4 (by simp)
      refine rdV a5 ?_
      refine Of_s a ha (hg.ext e05) fun h6 e6 => ⟨_, _, rfl, ?_⟩
      have e06 := e05.trans0 e6
      have a6 := e6.get a5 (by simp)
      have d6 := e6.get d5 (by simp)
      refine rdV d6 ?_
      refine Of_s b hb (hg.ext e06) fun h7 e7 => ⟨_, _, rfl, ?_⟩
      have e07 := e06.trans0 e7
      have a7 := e7.get a6 (by simp)
      have d7 := e7.get d6 (by simp)
      refine rdV a7 ?_
      rw [wrap64 (by omega) (by omega)]
      refine Entry_s a ha (hg.ext e07) m fun h8 e8 => ⟨_, _, rfl, ?_⟩
      have e08 := e07.trans0 e8
      have a8 := e8.get a7 (by simp)
      have d8 := e8.get d7 (by simp)
      refine rdV d8 ?_
      rw [wrap64 (by omega) (by omega)]
      refine Entry_s b hb (hg.ext e08) n fun h9 e9 => ⟨_, _, rfl, ?_⟩
      have e09 := e08.trans0 e9
      have a9 := e9.get a8 (by simp)
      have d9 := e9.get d8 (by simp)
      rw [ofP_good ga, ofP_good gb, entryP_good ga hm, entryP_good gb hn]
      intro K hK
      rw [if_neg (by simp), if_neg (by simp), if_neg (by simp)]
      refine hK _ _ ?_
      rw [if_neg (by simp)]
      refine rdV a9 ?_
      refine rdV d9 ?_
      refine CmpV_s a b fun h10 e10 => ⟨_, rfl, ?_⟩
      have e010 := e09.trans0 e10
      simp only [tl_ofBtl]
      rw [ord_lt ha hb ga gb, ord_eq ha hb ga gb, ent_lt ha hb ga gb hm hn, ent_eq ha hb ga gb hm hn]
      intro L hL
      rw [if_neg (by simp)]
      refine hL _ _ ?_
      rw [if_neg (by simp)]
      have w : S_liverylaw03_wakes h10 fun vs61 h62 => ∃ b63 : Bool, vs61 = [(Value.bool b63)] ∧ Q [(Value.bool b63)] h62 := wakes_s (hg.ext e010) fun h' e => ⟨_, rfl, hQ h' (e010.trans0 e)⟩
      by_cases c1 : cmpV a b < 0
      · have c0 : ¬ cmpV a b = 0 := by omega
        rw [if_pos (by simpa using c1), if_pos c1, if_pos (by rfl), if_neg (by simp [c0]), if_neg c0, if_pos (by rfl)]
        exact w
      · rw [if_neg (by simpa using c1), if_neg c1]
        by_cases c2 : cmpV a b = 0
        · rw [if_pos (by simp [c2]), if_pos c2, if_pos (by simp), if_pos (by simp [c2]), if_pos c2, if_pos (by
            by_cases e : m = n
            · simp [e]
            · have : ((m : Int) == (n : Int)) = false := by simp; omega
              rw [this, decide_eq_false e]
              rfl)]
          exact w
        · rw [if_neg (by simp [c2]), if_neg c2, if_pos (by rfl), if_neg (by simp [c2]), if_neg c2, if_pos (by rfl)]
          exact w
theorem KeyBetween_s (a b : V4) (ha : VOk a) (hb : VOk b) (n : Nat) (hn : n ≤ 65535) (hg : GM h) (hQ : ∀ h', Ext [] h h' → Q [.bool true] h') : F_liverylaw03_KeyBetween a.k a.n a.f a.s b.k b.n b.f b.s (n : Int) h Q := by
  unfold F_liverylaw03_KeyBetween
  refine newI fun h1 s1 b1' e1 => newI fun h2 s2 b2' e2 => ?_
  have b1 : Blk h1 h.size (cells4 a) T_api_Value := b1'
  have d3 : Blk h2 h1.size (cells4 b) T_api_Value := b2'
  have e03 := e1.trans0 e2
  have a3 := e2.get b1 (by simp)
  intro J hJ
  have wk : ∀ g, Ext [] h g → J [.bool true] g := fun g eg => by
    refine hJ _ _ ?_
    rw [if_pos rfl]
    exact wakes_s (hg.ext eg) fun h' e => ⟨_, rfl, hQ h' (eg.trans0 e)⟩
  refine rdV a3 ?_
  refine GoodR_s a fun h4 e4 => ⟨_, rfl, ?_⟩
  have e04 := e03.trans0 e4
  cases ga : goodX a with
  | false => rw [if_pos (by rfl)]; exact wk h4 e04
  | true =>
    rw [if_neg (by decide)]
    have a4 := e4.get a3 (by simp)
    have d4 := e4.get d3 (by simp)
    refine rdV d4 ?_
    refine GoodR_s b fun h5 e5 => ⟨_, rfl, ?_⟩
    have e05 := e04.trans0 e5
    cases gb : goodX b with
    | false => exact wk h5 e05
    | true =>
      refine hJ _ _ ?_
      rw [if_neg (by decide)]
      have a5 := e5.get a4 (by simp)
      have d5 := e5.get d4 (by simp)
      refine rdV a5 ?_
      refine Least_s a ha (hg.ext e05) fun h6 e6 => ⟨_, _, rfl, ?_⟩
      have e06 := e05.trans0 e6
      have a6 := e6.get a5 (by simp)
      have d6 := e6.get d5 (by simp)
      refine rdV a6 ?_
      refine After_s a ha (hg.ext e06) fun h7 e7 => ⟨_, _, rfl, ?_⟩
      have e07 := e06.trans0 e7
      have a7 := e7.get a6 (by simp)
      have d7 := e7.get d6 (by simp)
      refine rdV a7 ?_
      rw [wrap64 (by omega) (by omega)]
      refine Entry_s a ha (hg.ext e07) n fun h8 e8 => ⟨_, _, rfl, ?_⟩
      have e08 := e07.trans0 e8
      have a8 := e8.get a7 (by simp)
      have d8 := e8.get d7 (by simp)
      refine rdV d8 ?_
      refine Entry_s b hb (hg.ext e08) n fun h9 e9 => ⟨_, _, rfl, ?_⟩
      have e09 := e08.trans0 e9
      have a9 := e9.get a8 (by simp)
      have d9 := e9.get d8 (by simp)
      have en0 : entryP a 0 = (ofBtl (encX a ++ beL 2 0), 0) := entryP_good ga (n := 0) (by decide)
      rw [en0, entryP_good ga hn, entryP_good gb hn, afterP_good ga]
      intro K hK
      simp only [tl_ofBtl] at hK ⊢
      rw [ent_lt ha hb ga gb (m := 0) (by omega) hn, ent_eq ha hb ga gb (m := 0) (by omega) hn] at hK
      rw [ent_lt ha ha ga ga (m := 0) (by omega) hn, ent_eq ha ha ga ga (m := 0) (by omega) hn, aft_lt ha ha ga ga hn (cmpV_self a), cmpV_self]
      rw [if_neg (by simp), if_neg (by simp), if_neg (by simp), if_neg (by simp), if_pos (by
        simp only [Int.lt_irrefl, if_false, if_true]
        by_cases e : n = 0
        · simp [e]
        · have : 0 < n := by omega
          simp [this])]
      refine hK _ _ ?_
      rw [if_neg (by simp)]
      by_cases c1 : cmpV a b < 0
      · rw [if_pos c1, if_pos (by simp)]
        refine rdV a9 ?_
        refine rdV d9 ?_
        refine CmpV_s a b fun h10 e10 => ⟨_, rfl, ?_⟩
        have e010 := e09.trans0 e10
        rw [aft_nlt ha hb ga gb c1]
        have : (cmpV a b == 0) = false := by simp; omega
        rw [this, if_pos (by rfl)]
        exact wakes_s (hg.ext e010) fun h' e => ⟨_, rfl, hQ h' (e010.trans0 e)⟩
      · rw [if_neg c1]
        by_cases c2 : cmpV a b = 0
        · rw [if_pos c2, if_pos c2, if_pos (by
            by_cases e : n = 0
            · simp [e]
            · have : 0 < n := by omega
              simp [this])]
          refine rdV a9 ?_
          refine rdV d9 ?_
          refine CmpV_s a b fun h10 e10 => ⟨_, rfl, ?_⟩
          have e010 := e09.trans0 e10
          rw [aft_lt ha hb ga gb hn c2, c2, if_pos (by rfl)]
          exact wakes_s (hg.ext e010) fun h' e => ⟨_, rfl, hQ h' (e010.trans0 e)⟩
        · rw [if_neg c2, if_neg c2, if_neg (by simp)]
          refine rdV a9 ?_
          refine rdV d9 ?_
          refine CmpV_s a b fun h10 e10 => ⟨_, rfl, ?_⟩
          have e010 := e09.trans0 e10
          have : (cmpV a b == 0) = false := by simp; omega
          rw [this, if_pos (by rfl)]
          exact wakes_s (hg.ext e010) fun h' e => ⟨_, rfl, hQ h' (e010.trans0 e)⟩
end
end Go.Lift

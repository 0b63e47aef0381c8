/- Keys are made, by the reference. -/
import Derived.Test.YtgmnomkhmdeapaaDoorW03e
set_option linter.unusedSimpArgs false
set_option linter.unusedVariables false
namespace Go.Lift
open Go Go.Proofs Go.RowKit
set_option maxRecDepth 100000
theorem strIx_btl {s : ByteArray} {i : Nat} (hi : i < (btl s).length) : strIx s (i : Int) = ((btl s)[i].toNat : Int) := by
  unfold strIx
  rw [Int.toNat_natCast]
  have : s.data.toList.getD i 0 = (btl s)[i] := getD_of (List.getElem?_eq_getElem hi)
  rw [this]
theorem escL_app (a b : List UInt8) : escL (a ++ b) = escL a ++ escL b := by unfold escL; rw [List.flatMap_append]
section
variable {h : Hp} {Q : List Value → Hp → Prop}
theorem cat_ok {a b : ByteArray} {p : Prop} (hl : a.size + b.size ≤ 2 ^ 40) (hp : p) : catOk a b p := by
  refine ⟨?_, hp⟩
  show ((a.size + b.size : Nat) : Int) ≤ 9223372036854775807
  omega
theorem OfR_s (v : V4) (hv : VOk v) (hQ : ∀ h', Ext [] h h' → Q [.string (ofP v).1, .int .i64 (ofP v).2] h') : S_liveryref03_Of v.k v.n v.f v.s h Q := by
  refine O_liveryref03_Of _ _ _ _ ?_
  unfold F_liveryref03_Of
  refine newI fun h1 s1 b1 e1 => ?_
  obtain ⟨r0, r1, r2, r3⟩ := rd4V b1
  refine ⟨_, r0, _, r1, _, r2, _, r3, GoodR_s v fun h2 e2 => ⟨_, rfl, ?_⟩⟩
  unfold ofP at hQ
  cases hgd : goodX v with
  | false =>
    rw [if_pos (by rfl)]
    rw [hgd] at hQ
    exact hQ h2 (e1.trans0 e2)
  | true =>
    rw [if_neg (by decide)]
    rw [hgd, if_pos rfl] at hQ
    have hk := good_k hgd
    have hel := encX_len hgd
    have b2 := e2.get b1 (by simp)
    refine ⟨v.k, (rd4V b2).1, newI fun h3 s3 b3 e3 => ?_⟩
    refine ⟨_, byte1 (by omega) b3, v.k, (rd4V (e3.get b2 (by simp))).1, ?_⟩
    have b3' := e3.get b2 (by simp)
    have e13 := (e1.trans0 e2).trans0 e3
    unfold encX payL at hQ hel
    have cat : ∀ {l : List UInt8} {g : Hp}, l.length ≤ 2 ^ 30 → Q [.string (ofBtl (UInt8.ofNat v.k.toNat :: l)), .int .i64 0] g → catOk (ofBtl [UInt8.ofNat v.k.toNat]) (ofBtl l) (Q [.string (ofBtl [UInt8.ofNat v.k.toNat] ++ ofBtl l), .int .i64 0] g) := by
      intro l g hl hq
      refine cat_ok (by rw [ofBtl_size, ofBtl_size]; simp only [List.length_cons, List.length_nil]; omega) ?_
      rw [ofBtl_app]
      exact hq
    by_cases k1 : v.k = 1
    · rw [if_pos (by simp [k1])]
      rw [if_pos k1] at hQ hel
      refine ⟨v.n, (rd4V b3').2.1, newI fun h4 s4 b4 e4 => ?_⟩
      have hn := good_n hgd k1
      exact ⟨_, byte1 (by omega) b4, cat (by simp) (hQ h4 (e13.trans0 e4))⟩
    rw [if_neg (by simp [k1])]
    rw [if_neg k1] at hQ hel
    by_cases k2 : v.k = 2
    · rw [if_pos (by simp [k2])]
      rw [if_pos k2] at hQ hel
      refine ⟨v.n, (rd4V b3').2.1, ?_⟩
      rw [wrapu64n hv.n.1 hv.n.2]
      exact EightR_s _ (uN_lt hv.n.2) fun h4 e4 => ⟨_, rfl, cat (by rw [beL_len]; omega) (hQ h4 (e13.trans0 e4))⟩
    rw [if_neg (by simp [k2])]
    rw [if_neg k2] at hQ hel
    by_cases k3 : v.k = 3
    · rw [if_pos (by simp [k3])]
      rw [if_pos k3] at hQ hel
      refine ⟨v.f, (rd4V b3').2.2.1, BitsR_s _ hv.f ⟨_, rfl, ?_⟩⟩
      exact EightR_s _ (bitsF_lt hv.f) fun h4 e4 => ⟨_, rfl, cat (by rw [beL_len]; omega) (hQ h4 (e13.trans0 e4))⟩
    rw [if_neg (by simp [k3])]
    rw [if_neg k3] at hQ hel
    by_cases k4 : v.k = 4
    · rw [if_pos (by simp [k4])]
      rw [if_pos k4] at hQ hel
      have hsz := good_s hgd k4
      rw [size_btl] at hsz
      intro X hX
      have key : ∀ d i g, d + i = (btl v.s).length → Ext [] h3 g → X [.string (ofBtl (UInt8.ofNat v.k.toNat :: escL ((btl v.s).take i))), .int .i64 (i : Int)] g := by
        intro d
        induction d with
        | zero =>
          intro i g hi eg
          refine hX _ _ _ ?_
          refine ⟨v.s, (rd4V (eg.get b3' (by simp))).2.2.2, ?_⟩
          rw [if_neg (by rw [size_btl]; simp; omega), List.take_of_length_le (by omega)]
          have hle := escL_len (btl v.s)
          have e5 : (ByteArray.mk #[0, 1]) = ofBtl endL2 := rfl
          rw [e5]
          refine cat_ok (by rw [ofBtl_size, ofBtl_size]; simp only [List.length_cons]; show _ + 1 + 2 ≤ _; omega) ?_
          rw [ofBtl_app]
          exact hQ g (e13.trans0 eg)
        | succ d ih =>
          intro i g hi eg
          have hil : i < (btl v.s).length := by omega
          refine hX _ _ _ ?_
          refine ⟨v.s, (rd4V (eg.get b3' (by simp))).2.2.2, ?_⟩
          rw [if_pos (by rw [size_btl]; simp; omega)]
          intro J hJ
          have kJ : ∀ g2 l, l = UInt8.ofNat v.k.toNat :: escL ((btl v.s).take (i + 1)) → Ext [] h3 g2 → J [.string (ofBtl l)] g2 := by
            intro g2 l hl e2
            refine hJ _ _ ?_
            rw [wrap64 (by omega) (by omega), hl]
            have := ih (i + 1) g2 (by omega) e2
            simpa using this
          have ht : (btl v.s).take (i + 1) = (btl v.s).take i ++ [(btl v.s)[i]] := by rw [List.take_add_one, List.getElem?_eq_getElem hil]; rfl
          rw [ht, escL_app] at kJ
          refine ⟨v.s, (rd4V (eg.get b3' (by simp))).2.2.2, by omega, by rw [size_btl]; omega, newI fun g2 s2 b2 e2 => ?_⟩
          have hs := strIx_btl hil
          have hesc := escL_len ((btl v.s).take i)
          rw [List.length_take] at hesc
          refine ⟨ofBtl [(btl v.s)[i]], bytesI b2 (fun j hj => ?_) rfl, ?_⟩
          · have h0 : j = 0 := by simpa using hj
            subst h0
            rw [hs]
            rfl
          · have eg2 := eg.trans0 e2
            refine cat_ok (by rw [ofBtl_size, ofBtl_size]; simp only [List.length_cons, List.length_nil]; omega) ⟨v.s, (rd4V (eg2.get b3' (by simp))).2.2.2, by omega, by rw [size_btl]; omega, ?_⟩
            rw [ofBtl_app, hs]
            by_cases hz : (btl v.s)[i] = 0
            · rw [if_pos (by rw [hz]; rfl)]
              have e5 : (ByteArray.mk #[255]) = ofBtl [255] := rfl
              rw [e5]
              refine cat_ok (by rw [ofBtl_size, ofBtl_size]; simp only [List.length_cons, List.length_nil, List.length_append]; omega) ?_
              rw [ofBtl_app]
              refine kJ g2 _ ?_ eg2
              rw [hz]
              simp [escL]
            · rw [if_neg (by
                simp only [beq_iff_eq]
                intro hh
                refine hz (UInt8.toNat_inj.1 ?_)
                show _ = 0
                omega)]
              refine kJ g2 _ ?_ eg2
              simp [escL, hz]
      have := key (btl v.s).length 0 h3 (by omega) (Ext.refl _ _)
      simpa [escL] using this
    rw [if_neg (by simp [k4])]
    rw [if_neg k4] at hQ
    exact hQ h3 e13
theorem EntryR_s (v : V4) (hv : VOk v) (n : Int) (hn64 : -9223372036854775808 ≤ n ∧ n < 9223372036854775808) (hQ : ∀ h', Ext [] h h' → Q [.string (entryP v n).1, .int .i64 (entryP v n).2] h') : S_liveryref03_Entry v.k v.n v.f v.s n h Q := by
  refine O_liveryref03_Entry _ _ _ _ _ ?_
  unfold F_liveryref03_Entry
  refine newI fun h1 s1 b1 e1 => ?_
  obtain ⟨r0, r1, r2, r3⟩ := rd4V b1
  refine ⟨_, r0, _, r1, _, r2, _, r3, OfR_s v hv fun h2 e2 => ⟨_, _, rfl, ?_⟩⟩
  have e12 := e1.trans0 e2
  cases hgd : goodX v with
  | false =>
    have ho : ofP v = (sE, 11) := by unfold ofP; rw [if_neg (by simp [hgd])]
    have hen : entryP v n = (sE, 11) := by unfold entryP; rw [if_neg (by simp [hgd])]
    rw [hen] at hQ
    rw [ho, if_pos (by rfl)]
    exact hQ h2 e12
  | true =>
    have ho : ofP v = (ofBtl (encX v), 0) := by unfold ofP; rw [if_pos hgd]
    unfold entryP at hQ
    rw [if_pos hgd] at hQ
    rw [ho, if_neg (by simp)]
    intro J hJ
    have key : J [.bool (decide (n < 0 ∨ n > 65535))] h2 := by
      refine hJ _ _ ?_
      by_cases hn : n < 0 ∨ n > 65535
      · rw [if_pos (by simpa using hn)]
        rw [if_pos hn] at hQ
        exact hQ h2 e12
      · rw [if_neg (by simpa using hn)]
        rw [if_neg hn] at hQ
        refine ⟨by omega, by omega, newI fun h3 s3 b3 e3 => ?_⟩
        obtain ⟨m, rfl⟩ : ∃ m : Nat, n = (m : Int) := ⟨n.toNat, by omega⟩
        have hm : m ≤ 65535 := by omega
        have ht : Int.tdiv (m : Int) 256 = ((m / 256 : Nat) : Int) := by rw [Int.tdiv_eq_ediv_of_nonneg (Int.natCast_nonneg _)]; rfl
        have hr : Int.tmod (m : Int) 256 = ((m % 256 : Nat) : Int) := by rw [Int.tmod_eq_emod_of_nonneg (Int.natCast_nonneg _)]; rfl
        rw [ht, hr, wrap64 (by omega) (by omega), wrapU8, wrapU8, Nat.mod_mod] at b3
        rw [Int.toNat_natCast] at hQ
        refine ⟨ofBtl (beL 2 m), bytesI b3 (fun i hi => ?_) rfl, ?_⟩
        · have h2 : i < 2 := by rw [beL_len] at hi; exact hi
          have hg := beL_get 2 m i h2
          rw [List.getElem?_eq_getElem hi] at hg
          rw [Option.some.inj hg, UInt8.toNat_ofNat', Nat.mod_mod]
          rcases (by omega : i = 0 ∨ i = 1) with rfl | rfl
          · rfl
          · show some (Value.int .u8 _) = some (Value.int .u8 ((m / 256 ^ 0 % 256 : Nat) : Int))
            simp
        · have hel := encX_len hgd
          refine cat_ok (by rw [ofBtl_size, ofBtl_size, beL_len]; omega) ?_
          rw [ofBtl_app]
          exact hQ h3 (e12.trans0 e3)
    by_cases hn : n < 0
    · rw [if_pos (by simpa using hn)]
      rw [decide_eq_true (Or.inl hn)] at key
      exact key
    · rw [if_neg (by simpa using hn)]
      have e : decide (n < 0 ∨ n > 65535) = decide (n > 65535) := by simp [hn]
      rw [e] at key
      exact key
theorem LeastR_s (v : V4) (hv : VOk v) (hQ : ∀ h', Ext [] h h' → Q [.string (entryP v 0).1, .int .i64 (entryP v 0).2] h') : S_liveryref03_Least v.k v.n v.f v.s h Q := by
  refine O_liveryref03_Least _ _ _ _ ?_
  unfold F_liveryref03_Least
  refine newI fun h1 s1 b1 e1 => ?_
  obtain ⟨r0, r1, r2, r3⟩ := rd4V b1
  exact ⟨_, r0, _, r1, _, r2, _, r3, EntryR_s v hv 0 (by omega) fun h2 e2 => ⟨_, _, rfl, hQ h2 (e1.trans0 e2)⟩⟩
theorem AfterR_s (v : V4) (hv : VOk v) (hQ : ∀ h', Ext [] h h' → Q [.string (afterP v).1, .int .i64 (afterP v).2] h') : S_liveryref03_After v.k v.n v.f v.s h Q := by
  refine O_liveryref03_After _ _ _ _ ?_
  unfold F_liveryref03_After
  refine newI fun h1 s1 b1 e1 => ?_
  obtain ⟨r0, r1, r2, r3⟩ := rd4V b1
  refine ⟨_, r0, _, r1, _, r2, _, r3, EntryR_s v hv 65535 (by omega) fun h2 e2 => ⟨_, _, rfl, ?_⟩⟩
  cases hgd : goodX v with
  | false =>
    have hen : entryP v 65535 = (sE, 11) := by unfold entryP; rw [if_neg (by simp [hgd])]
    have ha : afterP v = (sE, 11) := by unfold afterP; rw [if_neg (by simp [hgd])]
    rw [ha] at hQ
    rw [hen, if_pos (by rfl)]
    exact hQ h2 (e1.trans0 e2)
  | true =>
    have hen : entryP v 65535 = (ofBtl (encX v ++ beL 2 65535), 0) := by unfold entryP; rw [if_pos hgd, if_neg (by omega)]; rfl
    unfold afterP at hQ
    rw [if_pos hgd] at hQ
    rw [hen, if_neg (by simp)]
    have hel := encX_len hgd
    have e5 : (ByteArray.mk #[0]) = ofBtl [0] := rfl
    rw [e5]
    refine cat_ok (by rw [ofBtl_size, ofBtl_size]; simp only [List.length_append, beL_len, List.length_cons, List.length_nil]; omega) ?_
    rw [ofBtl_app]
    exact hQ h2 (e1.trans0 e2)
end
end Go.Lift

/- The reference's keys, made. -/
import Derived.Test.YtmlcjckocgnjfaaGreatDoorW03i
set_option linter.unusedSimpArgs false
set_option linter.unusedVariables false
namespace Go.Lift
open Go Go.Proofs Go.RowKit
set_option maxRecDepth 100000
section
variable {h : Hp} {Q : List Value → Hp → Prop}
theorem BitsR_s (f : Nat) (hf : f < allD) (hQ : Q [.int .u64 (bitsF f : Nat)] h) : S_liveryref01_Bits f h Q := by
  refine O_liveryref01_Bits _ ?_
  unfold F_liveryref01_Bits
  refine CanonR_s f ⟨_, rfl, Float64bits_s ⟨_, rfl, ?_⟩⟩
  have hc := canonF_lt hf
  unfold bitsF at hQ
  unfold allD sgnD at *
  by_cases hs : 9223372036854775808 ≤ canonF f
  · rw [if_pos (by simp; omega), xorAll _ hc]
    rw [if_pos hs] at hQ
    have e : 18446744073709551615 - canonF f = 18446744073709551616 - 1 - canonF f := by omega
    rw [e]
    exact hQ
  · rw [if_neg (by simp; omega), wrapU64 (by omega) (by omega)]
    rw [if_neg hs] at hQ
    exact hQ
theorem FromR_s (u : Nat) (hu : u < allD) (hQ : ∀ h', Ext [] h h' → Q [.agg #[.float .f64 (if isF (fromF u) = true then fromF u else 0), .bool (isF (fromF u))]] h') : S_liveryref01_From (u : Int) h Q := by
  refine O_liveryref01_From _ ?_
  unfold F_liveryref01_From
  refine newI fun h1 s1 b1 e1 => ?_
  intro J hJ
  have key : J [.float .f64 (fromF u)] h1 := by
    refine hJ _ _ ?_
    intro K hK
    have kF : isF (fromF u) = false → K [.bool true] h1 := fun hi => by
      refine hK _ _ ?_
      rw [if_pos rfl]
      refine st_blk b1 (by simp) fun h2 s2 b2 e2 => ?_
      refine ⟨0, by simp [rd_blk b2], false, by simp [rd_blk b2], ?_⟩
      have := hQ h2 (e1.trans e2 fun b hb hlt => by simp at hb; omega)
      rw [hi] at this
      exact this
    refine IsR_s _ ⟨_, rfl, ?_⟩
    cases hi : isF (fromF u) with
    | false =>
      rw [if_pos (by rfl)]
      exact kF hi
    | true =>
      rw [if_neg (by decide)]
      refine BitsR_s _ (fromF_lt hu) ⟨_, rfl, ?_⟩
      rw [bits_from hu hi]
      have e : (((u : Nat) : Int) != ((u : Nat) : Int)) = false := by simp
      rw [e]
      refine hK _ _ ?_
      rw [if_neg (by decide)]
      refine st_blk b1 (by simp) fun h2 s2 b2 e2 => ?_
      refine ⟨fromF u, by simp [rd_blk b2], true, by simp [rd_blk b2], ?_⟩
      have := hQ h2 (e1.trans e2 fun b hb hlt => by simp at hb; omega)
      rw [hi] at this
      exact this
  unfold fromF at key
  unfold allD at *
  unfold sgnD at key
  by_cases hs : 9223372036854775808 ≤ u
  · rw [if_pos (by simp; omega), wrapU64 (by omega) (by omega)]
    rw [if_pos hs] at key
    refine Float64from_s ⟨_, rfl, ?_⟩
    have e : ((u : Int) - 9223372036854775808).toNat = u - 9223372036854775808 := by omega
    rw [e]
    exact key
  · rw [if_neg (by simp; omega), xorAll _ hu]
    rw [if_neg hs] at key
    refine Float64from_s ⟨_, rfl, ?_⟩
    rw [Int.toNat_natCast]
    have e : 18446744073709551615 - u = 18446744073709551616 - 1 - u := by omega
    rw [e]
    exact key
theorem EightR_s (u : Nat) (hu : u < allD) (hQ : ∀ h', Ext [] h h' → Q [.string (ofBtl (beL 8 u))] h') : S_liveryref02_Eight (u : Int) h Q := by
  refine O_liveryref02_Eight _ ?_
  unfold F_liveryref02_Eight
  refine ⟨by decide, newI fun h1 s1 b1 e1 => ?_⟩
  intro X hX
  have key : ∀ (d : Nat) (g : Hp) (c : Array Value), d ≤ 8 → Ext [] h g → Blk g h.size c T_uint8 → c.size = 8 → (∀ j, d ≤ j → j < 8 → c[j]? = some (.int .u8 ((u / 256 ^ (8 - 1 - j) % 256 : Nat) : Int))) → X [.int .u64 ((u / 256 ^ (8 - d) : Nat) : Int), .int .i64 ((d : Int) - 1)] g := by
    intro d
    induction d with
    | zero =>
      intro g c _ eg hb hc hj
      refine hX _ _ _ ?_
      rw [if_neg (by simp)]
      refine ⟨ofBtl (beL 8 u), bytesI hb (fun i hi => ?_) (by rw [beL_len]; rfl), hQ g eg⟩
      rw [hj i (by omega) (by rw [beL_len] at hi; exact hi), beL8 hi]
    | succ d ih =>
      intro g c hd eg hb hc hj
      refine hX _ _ _ ?_
      have ed : ((d + 1 : Nat) : Int) - 1 = (d : Int) := by omega
      rw [ed, if_pos (by simp)]
      refine ⟨by omega, ?_⟩
      have ek : 8 - (d + 1) = 8 - 1 - d := by omega
      rw [ek]
      have hm : Int.tmod ((u / 256 ^ (8 - 1 - d) : Nat) : Int) 256 = ((u / 256 ^ (8 - 1 - d) % 256 : Nat) : Int) := by
        rw [Int.tmod_eq_emod_of_nonneg (Int.natCast_nonneg _)]
        rfl
      have ht : Int.tdiv ((u / 256 ^ (8 - 1 - d) : Nat) : Int) 256 = ((u / 256 ^ (8 - d) : Nat) : Int) := by
        rw [Int.tdiv_eq_ediv_of_nonneg (Int.natCast_nonneg _)]
        have e3 : 8 - d = (8 - 1 - d) + 1 := by omega
        rw [e3, Nat.pow_succ, ← Nat.div_div_eq_div_mul]
        rfl
      have hmod : (u / 256 ^ (8 - 1 - d) % 256) % 256 = u / 256 ^ (8 - 1 - d) % 256 := Nat.mod_mod _ _
      rw [hm, ht, wrapU8, hmod]
      simp only [nilW_some, Int.toNat_natCast, addr_mk, Nat.zero_add, Nat.mul_one]
      refine ⟨by omega, by show (d : Int) < ((Int.toNat 8 : Nat) : Int); omega, ?_⟩
      refine st_blk hb (by omega) fun g2 s2 b2 e2 => ?_
      have hle : u / 256 ^ (8 - d) ≤ u := Nat.div_le_self _ _
      unfold allD at hu
      refine ⟨by omega, ?_⟩
      rw [wrapU64 (Int.natCast_nonneg _) (Int.lt_of_le_of_lt (Int.ofNat_le.2 hle) (by omega)), wrap64 (by omega) (by omega)]
      refine ih g2 _ (by omega) (eg.trans e2 fun b hb hlt => by simp at hb; omega) b2 (by rw [putAt_size]; exact hc) fun j hj1 hj2 => ?_
      rw [putAt_get0 _ _ _ _ (by simp; omega)]
      by_cases e : j = d
      · subst e
        rw [if_pos (by simp)]
        simp
      · rw [if_neg (by simp; omega)]
        exact hj j (by omega) hj2
  have := key 8 h1 _ (Nat.le_refl _) e1 b1 cells8 (fun j h1 h2 => by omega)
  simpa using this
theorem KOfR_s (v : V4) (hv : VOk v) (hQ : ∀ h', Ext [] h h' → Q [.string (ofP v).1, .int .i64 (ofP v).2] h') : S_liveryref03_Of v.k v.n v.f v.s h Q := by
  refine O_liveryref03_Of _ _ _ _ ?_
  unfold F_liveryref03_Of
  refine newI fun h1 s1 b1 e1 => ?_
  obtain ⟨r0, r1, r2, r3⟩ := rd4V b1
  refine ⟨_, r0, _, r1, _, r2, _, r3, GoodR_s v fun h2 e2 => ⟨_, rfl, ?_⟩⟩
  unfold ofP at hQ
  cases hgd : goodX v with
  | false =>
    rw [if_pos (by rfl)]
    rw [hgd] at hQ
    exact hQ h2 (e1.trans0 e2)
  | true =>
    rw [if_neg (by decide)]
    rw [hgd, if_pos rfl] at hQ
    have hk := good_k hgd
    have hel := encX_len hgd
    have b2 := e2.get b1 (by simp)
    refine ⟨v.k, (rd4V b2).1, newI fun h3 s3 b3 e3 => ?_⟩
    refine ⟨_, byte1 (by omega) b3, v.k, (rd4V (e3.get b2 (by simp))).1, ?_⟩
    have b3' := e3.get b2 (by simp)
    have e13 := (e1.trans0 e2).trans0 e3
    unfold encX payL at hQ hel
    have cat : ∀ {l : List UInt8} {g : Hp}, l.length ≤ 2 ^ 30 → Q [.string (ofBtl (UInt8.ofNat v.k.toNat :: l)), .int .i64 0] g → catOk (ofBtl [UInt8.ofNat v.k.toNat]) (ofBtl l) (Q [.string (ofBtl [UInt8.ofNat v.k.toNat] ++ ofBtl l), .int .i64 0] g) := by
      intro l g hl hq
      refine cat_ok (by rw [ofBtl_size, ofBtl_size]; simp only [List.length_cons, List.length_nil]; omega) ?_
      rw [ofBtl_app]
      exact hq
    by_cases k1 : v.k = 1
    · rw [if_pos (by simp [k1])]
      rw [if_pos k1] at hQ hel
      refine ⟨v.n, (rd4V b3').2.1, newI fun h4 s4 b4 e4 => ?_⟩
      have hn := good_n hgd k1
      exact ⟨_, byte1 (by omega) b4, cat (by simp) (hQ h4 (e13.trans0 e4))⟩
    rw [if_neg (by simp [k1])]
    rw [if_neg k1] at hQ hel
    by_cases k2 : v.k = 2
    · rw [if_pos (by simp [k2])]
      rw [if_pos k2] at hQ hel
      refine ⟨v.n, (rd4V b3').2.1, ?_⟩
      rw [wrapu64n hv.n.1 hv.n.2]
      exact EightR_s _ (uN_lt hv.n.2) fun h4 e4 => ⟨_, rfl, cat (by rw [beL_len]; omega) (hQ h4 (e13.trans0 e4))⟩
    rw [if_neg (by simp [k2])]
    rw [if_neg k2] at hQ hel
    by_cases k3 : v.k = 3
    · rw [if_pos (by simp [k3])]
      rw [if_pos k3] at hQ hel
      refine ⟨v.f, (rd4V b3').2.2.1, BitsR_s _ hv.f ⟨_, rfl, ?_⟩⟩
      exact EightR_s _ (bitsF_lt hv.f) fun h4 e4 => ⟨_, rfl, cat (by rw [beL_len]; omega) (hQ h4 (e13.trans0 e4))⟩
    rw [if_neg (by simp [k3])]
    rw [if_neg k3] at hQ hel
    by_cases k4 : v.k = 4
    · rw [if_pos (by simp [k4])]
      rw [if_pos k4] at hQ hel
      have hsz := good_s hgd k4
      rw [size_btl] at hsz
      intro X hX
      have key : ∀ d i g, d + i = (btl v.s).length → Ext [] h3 g → X [.string (ofBtl (UInt8.ofNat v.k.toNat :: escL ((btl v.s).take i))), .int .i64 (i : Int)] g := by
        intro d
        induction d with
        | zero =>
          intro i g hi eg
          refine hX _ _ _ ?_
          refine ⟨v.s, (rd4V (eg.get b3' (by simp))).2.2.2, ?_⟩
          rw [if_neg (by rw [size_btl]; simp; omega), List.take_of_length_le (by omega)]
          have hle := escL_len (btl v.s)
          have e5 : (ByteArray.mk #[0, 1]) = ofBtl endL2 := rfl
          rw [e5]
          refine cat_ok (by rw [ofBtl_size, ofBtl_size]; simp only [List.length_cons]; show _ + 1 + 2 ≤ _; omega) ?_
          rw [ofBtl_app]
          exact hQ g (e13.trans0 eg)
        | succ d ih =>
          intro i g hi eg
          have hil : i < (btl v.s).length := by omega
          refine hX _ _ _ ?_
          refine ⟨v.s, (rd4V (eg.get b3' (by simp))).2.2.2, ?_⟩
          rw [if_pos (by rw [size_btl]; simp; omega)]
          intro J hJ
          have kJ : ∀ g2 l, l = UInt8.ofNat v.k.toNat :: escL ((btl v.s).take (i + 1)) → Ext [] h3 g2 → J [.string (ofBtl l)] g2 := by
            intro g2 l hl e2
            refine hJ _ _ ?_
            rw [wrap64 (by omega) (by omega), hl]
            have := ih (i + 1) g2 (by omega) e2
            simpa using this
          have ht : (btl v.s).take (i + 1) = (btl v.s).take i ++ [(btl v.s)[i]] := by rw [List.take_add_one, List.getElem?_eq_getElem hil]; rfl
          rw [ht, escL_app] at kJ
          refine ⟨v.s, (rd4V (eg.get b3' (by simp))).2.2.2, by omega, by rw [size_btl]; omega, newI fun g2 s2 b2 e2 => ?_⟩
          have hs := strIx_btl hil
          have hesc := escL_len ((btl v.s).take i)
          rw [List.length_take] at hesc
          refine ⟨ofBtl [(btl v.s)[i]], bytesI b2 (fun j hj => ?_) rfl, ?_⟩
          · have h0 : j = 0 := by simpa using hj
            subst h0
            rw [hs]
            rfl
          · have eg2 := eg.trans0 e2
            refine cat_ok (by rw [ofBtl_size, ofBtl_size]; simp only [List.length_cons, List.length_nil]; omega) ⟨v.s, (rd4V (eg2.get b3' (by simp))).2.2.2, by omega, by rw [size_btl]; omega, ?_⟩
            rw [ofBtl_app, hs]
            by_cases hz : (btl v.s)[i] = 0
            · rw [if_pos (by rw [hz]; rfl)]
              have e5 : (ByteArray.mk #[255]) = ofBtl [255] := rfl
              rw [e5]
              refine cat_ok (by rw [ofBtl_size, ofBtl_size]; simp only [List.length_cons, List.length_nil, List.length_append]; omega) ?_
              rw [ofBtl_app]
              refine kJ g2 _ ?_ eg2
              rw [hz]
              simp [escL]
            · rw [if_neg (by
                simp only [beq_iff_eq]
                intro hh
                refine hz (UInt8.toNat_inj.1 ?_)
                show _ = 0
                omega)]
              refine kJ g2 _ ?_ eg2
              simp [escL, hz]
      have := key (btl v.s).length 0 h3 (by omega) (Ext.refl _ _)
      simpa [escL] using this
    rw [if_neg (by simp [k4])]
    rw [if_neg k4] at hQ
    exact hQ h3 e13
theorem EntryR_s (v : V4) (hv : VOk v) (n : Int) (hn64 : -9223372036854775808 ≤ n ∧ n < 9223372036854775808) (hQ : ∀ h', Ext [] h h' → Q [.string (entryP v n).1, .int .i64 (entryP v n).2] h') : S_liveryref03_Entry v.k v.n v.f v.s n h Q := by
  refine O_liveryref03_Entry _ _ _ _ _ ?_
  unfold F_liveryref03_Entry
  refine newI fun h1 s1 b1 e1 => ?_
  obtain ⟨r0, r1, r2, r3⟩ := rd4V b1
  refine ⟨_, r0, _, r1, _, r2, _, r3, KOfR_s v hv fun h2 e2 => ⟨_, _, rfl, ?_⟩⟩
  have e12 := e1.trans0 e2
  cases hgd : goodX v with
  | false =>
    have ho : ofP v = (sE, 11) := by unfold ofP; rw [if_neg (by simp [hgd])]
    have hen : entryP v n = (sE, 11) := by unfold entryP; rw [if_neg (by simp [hgd])]
    rw [hen] at hQ
    rw [ho, if_pos (by rfl)]
    exact hQ h2 e12
  | true =>
    have ho : ofP v = (ofBtl (encX v), 0) := by unfold ofP; rw [if_pos hgd]
    unfold entryP at hQ
    rw [if_pos hgd] at hQ
    rw [ho, if_neg (by simp)]
    intro J hJ
    have key : J [.bool (decide (n < 0 ∨ n > 65535))] h2 := by
      refine hJ _ _ ?_
      by_cases hn : n < 0 ∨ n > 65535
      · rw [if_pos (by simpa using hn)]
        rw [if_pos hn] at hQ
        exact hQ h2 e12
      · rw [if_neg (by simpa using hn)]
        rw [if_neg hn] at hQ
        refine ⟨by omega, by omega, newI fun h3 s3 b3 e3 => ?_⟩
        obtain ⟨m, rfl⟩ : ∃ m : Nat, n = (m : Int) := ⟨n.toNat, by omega⟩
        have hm : m ≤ 65535 := by omega
        have ht : Int.tdiv (m : Int) 256 = ((m / 256 : Nat) : Int) := by rw [Int.tdiv_eq_ediv_of_nonneg (Int.natCast_nonneg _)]; rfl
        have hr : Int.tmod (m : Int) 256 = ((m % 256 : Nat) : Int) := by rw [Int.tmod_eq_emod_of_nonneg (Int.natCast_nonneg _)]; rfl
        rw [ht, hr, wrap64 (by omega) (by omega), wrapU8, wrapU8, Nat.mod_mod] at b3
        rw [Int.toNat_natCast] at hQ
        refine ⟨ofBtl (beL 2 m), bytesI b3 (fun i hi => ?_) rfl, ?_⟩
        · have h2 : i < 2 := by rw [beL_len] at hi; exact hi
          have hg := beL_get 2 m i h2
          rw [List.getElem?_eq_getElem hi] at hg
          rw [Option.some.inj hg, UInt8.toNat_ofNat', Nat.mod_mod]
          rcases (by omega : i = 0 ∨ i = 1) with rfl | rfl
          · rfl
          · show some (Value.int .u8 _) = some (Value.int .u8 ((m / 256 ^ 0 % 256 : Nat) : Int))
            simp
        · have hel := encX_len hgd
          refine cat_ok (by rw [ofBtl_size, ofBtl_size, beL_len]; omega) ?_
          rw [ofBtl_app]
          exact hQ h3 (e12.trans0 e3)
    by_cases hn : n < 0
    · rw [if_pos (by simpa using hn)]
      rw [decide_eq_true (Or.inl hn)] at key
      exact key
    · rw [if_neg (by simpa using hn)]
      have e : decide (n < 0 ∨ n > 65535) = decide (n > 65535) := by simp [hn]
      rw [e] at key
      exact key
theorem LeastR_s (v : V4) (hv : VOk v) (hQ : ∀ h', Ext [] h h' → Q [.string (entryP v 0).1, .int .i64 (entryP v 0).2] h') : S_liveryref03_Least v.k v.n v.f v.s h Q := by
  refine O_liveryref03_Least _ _ _ _ ?_
  unfold F_liveryref03_Least
  refine newI fun h1 s1 b1 e1 => ?_
  obtain ⟨r0, r1, r2, r3⟩ := rd4V b1
  exact ⟨_, r0, _, r1, _, r2, _, r3, EntryR_s v hv 0 (by omega) fun h2 e2 => ⟨_, _, rfl, hQ h2 (e1.trans0 e2)⟩⟩
theorem AfterR_s (v : V4) (hv : VOk v) (hQ : ∀ h', Ext [] h h' → Q [.string (afterP v).1, .int .i64 (afterP v).2] h') : S_liveryref03_After v.k v.n v.f v.s h Q := by
  refine O_liveryref03_After _ _ _ _ ?_
  unfold F_liveryref03_After
  refine newI fun h1 s1 b1 e1 => ?_
  obtain ⟨r0, r1, r2, r3⟩ := rd4V b1
  refine ⟨_, r0, _, r1, _, r2, _, r3, EntryR_s v hv 65535 (by omega) fun h2 e2 => ⟨_, _, rfl, ?_⟩⟩
  cases hgd : goodX v with
  | false =>
    have hen : entryP v 65535 = (sE, 11) := by unfold entryP; rw [if_neg (by simp [hgd])]
    have ha : afterP v = (sE, 11) := by unfold afterP; rw [if_neg (by simp [hgd])]
    rw [ha] at hQ
    rw [hen, if_pos (by rfl)]
    exact hQ h2 (e1.trans0 e2)
  | true =>
    have hen : entryP v 65535 = (ofBtl (encX v ++ beL 2 65535), 0) := by unfold entryP; rw [if_pos hgd, if_neg (by omega)]; rfl
    unfold afterP at hQ
    rw [if_pos hgd] at hQ
    rw [hen, if_neg (by simp)]
    have hel := encX_len hgd
    have e5 : (ByteArray.mk #[0]) = ofBtl [0] := rfl
    rw [e5]
    refine cat_ok (by rw [ofBtl_size, ofBtl_size]; simp only [List.length_append, beL_len, List.length_cons, List.length_nil]; omega) ?_
    rw [ofBtl_app]
    exact hQ h2 (e1.trans0 e2)
end
end Go.Lift
namespace Go.Lift
open Go Go.Proofs Go.RowKit
set_option maxRecDepth 100000
def cells5 (v : V4) (n : Int) : Array Value := #[.int .i64 v.k, .int .i64 v.n, .float .f64 v.f, .string v.s, .int .i64 n]
def agg5 (v : V4) (n : Int) : Value := .agg (cells5 v n)
def encY (c : UInt8) : List Value := [.int .u8 (c.toNat : Int)]
theorem encY_len (c : UInt8) : (encY c).length = 1 := rfl
def readT (l : List UInt8) : V4 × Nat := match textL l with | none => (zV, 0) | some p => (⟨0, 0, 0, ofBtl p.1⟩, l.length - p.2.length)
def readL (l : List UInt8) : V4 × Nat := match firstL l with | none => (zV, 0) | some p => (p.1, l.length - p.2.length)
section
variable {h : Hp} {Q : List Value → Hp → Prop}
theorem rd5R {b : Nat} {v : V4} {n : Int} {T : TypeId} (hb : Blk h b (cells5 v n) T) : rd h (Addr.add (Addr.mk b 0 none) 0) = some (.int .i64 v.k) ∧ rd h (Addr.add (Addr.mk b 0 none) 1) = some (.int .i64 v.n) ∧ rd h (Addr.add (Addr.mk b 0 none) 2) = some (.float .f64 v.f) ∧ rd h (Addr.add (Addr.mk b 0 none) 3) = some (.string v.s) ∧ rd h (Addr.add (Addr.mk b 0 none) 4) = some (.int .i64 n) := by
  have r : ∀ i, rd h (Addr.add (Addr.mk b 0 none) i) = (cells5 v n)[i]? := fun i => by rw [addr_mk, rd_blk hb, Nat.zero_add]
  exact ⟨r 0, r 1, r 2, r 3, r 4⟩
theorem put5 {b : Nat} {c : Array Value} {T : TypeId} (hb : Blk h b c T) (hc : c.size = 5) (v : V4) (n : Int) {K : Hp → Prop} (H : ∀ g, g.size = h.size → Blk g b (cells5 v n) T → Ext [b] h g → K g) :
    stOk h (Addr.mk b 0 none) 5 ∧ wth (wrs h (Addr.mk b 0 none) 0 [.int .i64 v.k, .int .i64 v.n, .float .f64 v.f, .string v.s, .int .i64 n]) K := by
  refine st_blk hb (by omega) fun g s bg e => H g s ?_ e
  have : putAt c 0 [.int .i64 v.k, .int .i64 v.n, .float .f64 v.f, .string v.s, .int .i64 n] = cells5 v n := by
    obtain ⟨l⟩ := c
    simp only [List.size_toArray] at hc
    obtain ⟨x, y, z, w, u, rfl⟩ := list5 hc
    simp [cells5]
  rwa [this] at bg
theorem outR {b : Nat} {c : Array Value} {T : TypeId} (hb : Blk h b c T) (hc : c.size = 5) (v : V4) (n : Int) {K : Int → Int → Nat → ByteArray → Int → Hp → Prop} (H : ∀ g, Ext [b] h g → K v.k v.n v.f v.s n g) :
    stOk h (Addr.mk b 0 none) 5 ∧ wth (wrs h (Addr.mk b 0 none) 0 [.int .i64 v.k, .int .i64 v.n, .float .f64 v.f, .string v.s, .int .i64 n]) fun g =>
    ∃ n3 : Int, rd g (Addr.add (Addr.mk b 0 none) 0) = some (.int .i64 n3) ∧ ∃ n4 : Int, rd g (Addr.add (Addr.mk b 0 none) 1) = some (.int .i64 n4) ∧ ∃ x5 : Nat, rd g (Addr.add (Addr.mk b 0 none) 2) = some (.float .f64 x5) ∧ ∃ s6 : ByteArray, rd g (Addr.add (Addr.mk b 0 none) 3) = some (.string s6) ∧ ∃ n7 : Int, rd g (Addr.add (Addr.mk b 0 none) 4) = some (.int .i64 n7) ∧ K n3 n4 x5 s6 n7 g :=
  put5 hb hc v n fun g _ bg e => by
    obtain ⟨r0, r1, r2, r3, r4⟩ := rd5R bg
    exact ⟨_, r0, _, r1, _, r2, _, r3, _, r4, H g e⟩
theorem NumberR_s (l : List UInt8) (h8 : l.length ≤ 8) (hQ : Q [.int .u64 (numL l : Nat)] h) : S_liveryref02_Number (ofBtl l) h Q := by
  refine O_liveryref02_Number _ ?_
  unfold F_liveryref02_Number
  intro X hX
  have key : ∀ d i, d + i = l.length → X [.int .u64 (numL (l.take i) : Nat), .int .i64 (i : Int)] h := by
    intro d
    induction d with
    | zero =>
      intro i hi
      refine hX _ _ _ ?_
      rw [if_neg (by rw [ofBtl_size]; simp; omega), List.take_of_length_le (by omega)]
      exact hQ
    | succ d ih =>
      intro i hi
      refine hX _ _ _ ?_
      rw [if_pos (by rw [ofBtl_size]; simp; omega)]
      have hil : i < l.length := by omega
      refine ⟨by omega, by rw [ofBtl_size]; omega, ?_⟩
      have hn := numL_lt (l.take i)
      rw [List.length_take, Nat.min_eq_left (by omega)] at hn
      have h7 : 256 ^ i ≤ 256 ^ 7 := Nat.pow_le_pow_right (by decide) (by omega)
      have hc := (l[i]).toNat_lt
      rw [strIxL hil, wrapU64 (x := ((numL (l.take i) : Nat) : Int) * 256) (by omega) (by omega), wrapU64 (x := ((l[i]).toNat : Int)) (by omega) (by omega), wrapU64 (by omega) (by omega), wrap64 (by omega) (by omega)]
      have e : ((numL (l.take i) : Nat) : Int) * 256 + ((l[i]).toNat : Int) = ((numL (l.take (i + 1)) : Nat) : Int) := by rw [numL_take hil]; omega
      rw [e]
      exact ih (i + 1) (by omega)
  exact key l.length 0 (by omega)
theorem ownB {lo : Nat} {s : Sl} {a : List UInt8} (ho : Own T_uint8 1 encY lo h s a) : bytesAt h s.a s.n (ofBtl a) := by
  have hs := ho.sl.reads
  have hn := hs.1
  cases hsa : s.a with
  | none =>
    have := hs.2.1 hsa
    subst this
    rfl
  | some ad =>
    refine ⟨by rw [ofBtl_size, hn], fun i hi => ?_⟩
    obtain ⟨ad2, h1, h2⟩ := hs.rd encY_len (i := i) (by omega)
    rw [hsa] at h1
    cases h1
    have := h2 0 (by decide)
    rw [Nat.mul_one, Nat.add_zero] at this
    rw [this]
    have e : (ofBtl a).data.toList.getD i 0 = a[i]'(by omega) := getD_of (by
      show (btl (ofBtl a))[i]? = _
      rw [btl_ofBtl]
      exact List.getElem?_eq_getElem (by omega))
    rw [e]
    rfl
theorem textR_s (l : List UInt8) (hl : l.length ≤ 2 ^ 30) (hQ : ∀ h', Ext [] h h' → Q [agg5 (readT l).1 ((readT l).2 : Nat)] h') : S_liveryref03_text (ofBtl l) h Q := by
  refine O_liveryref03_text _ ?_
  unfold F_liveryref03_text
  refine newI fun h1 s1 b1 e1 => ?_
  intro X hX
  have key : ∀ (n : Nat) (i : Nat) (a : List UInt8) (sl : Sl) (g : Hp), l.length - i ≤ n → i ≤ l.length → a.length ≤ i → Ext [] h g → Blk g h.size (cells5 zV 0) T_liveryref02_Read →
      Own T_uint8 1 encY (h.size + 1) g sl a → (textL (l.drop i)).map (fun p => (a ++ p.1, p.2)) = textL l → X [.slice sl.a sl.n sl.c, .int .i64 (i : Int)] g := by
    intro n
    induction n with
    | zero =>
      intro i a sl g hn hi ha eg bg ho he
      refine hX _ _ _ ?_
      have : i = l.length := by omega
      subst this
      rw [if_neg (by rw [ofBtl_size]; simp)]
      refine outR bg rfl zV 0 fun g2 e => ?_
      have := hQ g2 (eg.trans e fun b hb hlt => by simp at hb; omega)
      unfold readT at this
      rw [← he, List.drop_length] at this
      exact this
    | succ n ih =>
      intro i a sl g hn hi ha eg bg ho he
      refine hX _ _ _ ?_
      have none_ : textL (l.drop i) = none → ∀ g2, Ext [] h g2 → Q [agg5 zV 0] g2 := by
        intro hno g2 e2
        have := hQ g2 e2
        unfold readT at this
        rw [← he, hno] at this
        exact this
      by_cases hil : i < l.length
      · rw [if_pos (by rw [ofBtl_size]; simp; omega)]
        intro J hJ
        have hd : l.drop i = l[i] :: l.drop (i + 1) := List.drop_eq_getElem_cons hil
        have hic : ((l.drop i).length) = l.length - i := List.length_drop
        refine ⟨by omega, by rw [ofBtl_size]; omega, ?_⟩
        have hsz : h.size < g.size := blk_lt bg
        have next : ∀ (j : Nat) (b : UInt8) (s2 : Sl) (g2 : Hp), i ≤ j → j < l.length → (textL (l.drop (j + 1))).map (fun p => (a ++ [b] ++ p.1, p.2)) = textL l →
            Own T_uint8 1 encY (h.size + 1) g2 s2 (a ++ [b]) → Ext (sBlk sl) g g2 → J [.slice s2.a s2.n s2.c, .int .i64 (j : Int)] g2 := by
          intro j b s2 g2 hij hjl he2 ho2 e2
          refine hJ _ _ _ ?_
          rw [wrap64 (by omega) (by omega)]
          have hb : ∀ x ∈ sBlk sl, h.size + 1 ≤ x := ho.blk
          exact ih (j + 1) (a ++ [b]) s2 g2 (by omega) (by omega) (by simp; omega) (eg.trans e2 fun x hx hlt => by have := hb x hx; omega) (e2.get bg fun hx => by have := hb _ hx; omega) ho2 he2
        have w1 : IntKind.wrap .i64 ((i : Int) + 1) = ((i + 1 : Nat) : Int) := by rw [wrap64 (by omega) (by omega)]; rfl
        have w2 : IntKind.wrap .i64 ((i : Int) + 2) = ((i + 2 : Nat) : Int) := by rw [wrap64 (by omega) (by omega)]; rfl
        rw [strIxL hil]
        by_cases hc : l[i] = 0
        · rw [if_neg (by rw [hc]; decide), w1]
          by_cases hend : i + 1 = l.length
          · rw [if_pos (by rw [ofBtl_size, hend]; simp)]
            refine outR bg rfl zV 0 fun g2 e => ?_
            refine none_ ?_ g2 (eg.trans e fun b hb hlt => by simp at hb; omega)
            rw [hd, hend, List.drop_length]
            rfl
          · rw [if_neg (by rw [ofBtl_size]; simp; omega)]
            have hil2 : i + 1 < l.length := by omega
            have hd2 : l.drop (i + 1) = l[i + 1] :: l.drop (i + 2) := List.drop_eq_getElem_cons hil2
            have ht : textL (l.drop i) = if l[i + 1] = 1 then some ([], l.drop (i + 2)) else if l[i + 1] = 255 then (textL (l.drop (i + 2))).map fun p => (0 :: p.1, p.2) else none := by
              rw [hd, hd2, hc, textL, if_pos rfl]
            refine ⟨by omega, by rw [ofBtl_size]; omega, ?_⟩
            rw [strIxL hil2]
            by_cases d1 : l[i + 1] = 1
            · rw [if_pos (by rw [d1]; rfl), w2]
              refine ⟨ofBtl a, ownB ho, ?_⟩
              refine outR bg rfl ⟨0, 0, 0, ofBtl a⟩ ((i + 2 : Nat) : Int) fun g2 e => ?_
              have := hQ g2 (eg.trans e fun b hb hlt => by simp at hb; omega)
              unfold readT at this
              rw [← he, ht, if_pos d1] at this
              simp only [Option.map_some, List.append_nil, List.length_drop] at this
              have e2 : l.length - (l.length - (i + 2)) = i + 2 := by omega
              rw [e2] at this
              exact this
            · rw [if_neg (by
                simp only [beq_iff_eq]
                intro e
                refine d1 (UInt8.toNat_inj.1 ?_)
                show _ = 1
                omega)]
              refine ⟨by omega, by rw [ofBtl_size]; omega, ?_⟩
              by_cases d2 : l[i + 1] = 255
              · rw [if_neg (by rw [d2]; decide)]
                refine app1 (x := 0) ho rfl (by kernel_rfl) encY_len (fun x v hv => by simp [encY] at hv; subst hv; rfl) (by omega) (by decide) (by omega) fun s2 g2 ho2 e2 _ => ?_
                refine next (i + 1) 0 s2 g2 (by omega) (by omega) ?_ ho2 e2
                rw [← he, ht, if_neg d1, if_pos d2, Option.map_map]
                congr 1
                funext q
                simp
              · rw [if_pos (by
                  simp only [bne_iff_ne, ne_eq]
                  intro e
                  refine d2 (UInt8.toNat_inj.1 ?_)
                  show _ = 255
                  omega)]
                refine outR bg rfl zV 0 fun g2 e => ?_
                refine none_ ?_ g2 (eg.trans e fun b hb hlt => by simp at hb; omega)
                rw [ht, if_neg d1, if_neg d2]
        · rw [if_pos (by
            simp only [bne_iff_ne, ne_eq]
            intro e
            refine hc (UInt8.toNat_inj.1 ?_)
            show _ = 0
            omega)]
          refine ⟨by omega, by rw [ofBtl_size]; omega, ?_⟩
          refine app1 (x := l[i]) ho rfl (by kernel_rfl) encY_len (fun x v hv => by simp [encY] at hv; subst hv; rfl) (by omega) (by decide) (by omega) fun s2 g2 ho2 e2 _ => ?_
          refine next i l[i] s2 g2 (by omega) (by omega) ?_ ho2 e2
          rw [← he, hd, textL_ne hc, Option.map_map]
          congr 1
          funext q
          simp
      · have : i = l.length := by omega
        subst this
        rw [if_neg (by rw [ofBtl_size]; simp)]
        refine outR bg rfl zV 0 fun g2 e => ?_
        exact none_ (by rw [List.drop_length]; rfl) g2 (eg.trans e fun b hb hlt => by simp at hb; omega)
  refine key l.length 0 [] ⟨none, 0, 0⟩ h1 (by omega) (by omega) (by simp) e1 b1 ⟨rfl, fun _ => ⟨rfl, rfl⟩, fun a ha => by cases ha⟩ ?_
  rw [List.drop_zero]
  simp
end
end Go.Lift
namespace Go.Lift
open Go Go.Proofs Go.RowKit
set_option maxRecDepth 100000
section
variable {h : Hp} {Q : List Value → Hp → Prop}
theorem addr_add0 {b i : Nat} : Addr.add (Addr.add (Addr.mk b 0 none) 0) i = Addr.add (Addr.mk b 0 none) i := by
  simp [Addr.add]
theorem strIx1 {c d : UInt8} {l : List UInt8} : strIx (ofBtl (c :: d :: l)) (1 : Int) = (d.toNat : Int) := strIxL (l := c :: d :: l) (i := 1) (by simp)
theorem read_s (l : List UInt8) (hl : l.length ≤ 2 ^ 30) (hQ : ∀ h', Ext [] h h' → Q [agg5 (readL l).1 ((readL l).2 : Nat)] h') : S_liveryref03_read (ofBtl l) h Q := by
  refine O_liveryref03_read _ ?_
  unfold F_liveryref03_read
  refine newI fun h1 s1 b1 e1 => ?_
  have none_ : firstL l = none → ∀ (g : Hp), Ext [] h g → Q [agg5 zV 0] g := fun hno g eg => by
    have := hQ g eg
    unfold readL at this
    rw [hno] at this
    exact this
  cases l with
  | nil =>
    rw [if_pos nil_size]
    exact outR b1 rfl zV 0 fun g e => none_ rfl g (e1.trans e fun b hb hlt => by simp at hb; omega)
  | cons c l =>
    rw [if_neg (by rw [cons_size]; decide)]
    have hcl := c.toNat_lt
    have hll : l.length ≤ 2 ^ 30 := by rw [List.length_cons] at hl; omega
    have hlen : (c :: l).length = l.length + 1 := List.length_cons
    refine ⟨by decide, by rw [ofBtl_size]; omega, newI fun h8 s8 b8 e8 => ?_⟩
    rw [strIx0, wrap64 (by omega) (by omega)]
    refine put4 b8 rfl ⟨(c.toNat : Int), 0, 0, sE⟩ fun h9 s9 b9 e9 => ?_
    have b19 : Blk h9 h.size (cells5 zV 0) T_liveryref02_Read := e9.get (e8.get b1 (by simp)) (by simp; omega)
    have e09 : Ext [] h h9 := (e1.trans0 e8).trans e9 fun b hb hlt => by simp at hb; omega
    have hs1 : h1.size = h.size + 1 := s1
    have hs0 : h9.size = h.size + 2 := by omega
    refine ⟨(c.toNat : Int), (rd4V b9).1, ?_⟩
    intro J hJ
    have bad : pickL (rawL c l) = none → ∀ (g : Hp), Ext [h1.size] h9 g → ∀ {K : Hp → Prop}, (∀ g2, Q [agg5 zV 0] g2 → K g2) →
        stOk g (Addr.mk (Array.size h) 0 none) 5 ∧ wth (wrs g (Addr.mk (Array.size h) 0 none) 0 [(Value.int .i64 (0 : Int)), (Value.int .i64 (0 : Int)), (Value.float .f64 0), (Value.string (ByteArray.mk #[])), (Value.int .i64 (0 : Int))]) K := by
      intro hr g eg K hK
      refine put5 (eg.get b19 (by simp; omega)) rfl zV 0 fun g2 s2 b2 e2 => hK g2 ?_
      refine none_ hr g2 ((e09.trans eg fun b hb hlt => by simp at hb; omega).trans e2 fun b hb hlt => by simp at hb; omega)
    have badR : pickL (rawL c l) = none → ∀ (g : Hp), Ext [h1.size] h9 g →
        stOk g (Addr.mk (Array.size h) 0 none) 5 ∧ wth (wrs g (Addr.mk (Array.size h) 0 none) 0 [(Value.int .i64 (0 : Int)), (Value.int .i64 (0 : Int)), (Value.float .f64 0), (Value.string (ByteArray.mk #[])), (Value.int .i64 (0 : Int))]) fun h37 =>
          ∃ n38 : Int, rd h37 (Addr.add (Addr.mk (Array.size h) 0 none) 0) = some (Value.int .i64 n38) ∧ ∃ n39 : Int, rd h37 (Addr.add (Addr.mk (Array.size h) 0 none) 1) = some (Value.int .i64 n39) ∧ ∃ x40 : Nat, rd h37 (Addr.add (Addr.mk (Array.size h) 0 none) 2) = some (Value.float .f64 x40) ∧ ∃ s41 : ByteArray, rd h37 (Addr.add (Addr.mk (Array.size h) 0 none) 3) = some (Value.string s41) ∧ ∃ n42 : Int, rd h37 (Addr.add (Addr.mk (Array.size h) 0 none) 4) = some (Value.int .i64 n42) ∧ Q [(Value.agg #[(Value.int .i64 n38), (Value.int .i64 n39), (Value.float .f64 x40), (Value.string s41), (Value.int .i64 n42)])] h37 := by
      intro hr g eg
      refine outR (eg.get b19 (by simp; omega)) rfl zV 0 fun g2 e2 => ?_
      exact none_ hr g2 ((e09.trans eg fun b hb hlt => by simp at hb; omega).trans e2 fun b hb hlt => by simp at hb; omega)
    have fin : ∀ (g : Hp) (v : V4) (n : Nat), ((∃ r, rawL c l = some (v, r) ∧ n = (c :: l).length - r.length) ∨ rawL c l = none ∧ goodX v = false) → Ext [h1.size] h9 g → Blk g h1.size (cells4 v) T_api_Value → J [.int .i64 (n : Int)] g := by
      intro g v n hr eg bg
      refine hJ _ _ ?_
      refine rdV bg (K := fun a b c d => S_liveryref02_Good a b c d g _) ?_
      refine GoodR_s v fun g2 e2 => ⟨_, rfl, ?_⟩
      have bg2 := e2.get bg (by simp)
      have eg2 := eg.trans0 e2
      cases hgd : goodX v with
      | false =>
        rw [if_pos (by rfl)]
        refine badR ?_ g2 eg2
        rcases hr with ⟨r, hr, _⟩ | ⟨hr, _⟩
        · rw [hr, pick_no hgd]
        · rw [hr]; rfl
      | true =>
        rw [if_neg (by decide)]
        refine rdV bg2 (K := fun a b c d => stOk g2 _ 5 ∧ wth (wrs g2 _ 0 [.int .i64 a, .int .i64 b, .float .f64 c, .string d, _]) _) ?_
        refine outR (eg2.get b19 (by simp; omega)) rfl v n fun g3 e3 => ?_
        have := hQ g3 ((e09.trans eg2 fun b hb hlt => by simp at hb; omega).trans e3 fun b hb hlt => by simp at hb; omega)
        rcases hr with ⟨r, hr, hn⟩ | ⟨_, hb⟩
        · unfold readL at this
          rw [firstL, hr, pick_yes hgd] at this
          subst hn
          exact this
        · rw [hgd] at hb
          cases hb
    have hi : ∀ (k : Nat) (z : Int), z = (k : Int) → k < 256 → (((c.toNat : Int) == z) = true ↔ c = UInt8.ofNat k) := fun k z hz hk => by rw [u8_iff hk, hz, beq_iff_eq]; omega
    by_cases c1 : c = 1
    · rw [if_pos ((hi 1 1 rfl (by decide)).2 c1)]
      subst c1
      cases l with
      | nil =>
        rw [if_pos (by rw [ofBtl_size]; rfl)]
        exact badR rfl h9 (Ext.refl _ _)
      | cons d l =>
        have hdl := d.toNat_lt
        rw [if_neg (by rw [ofBtl_size]; simp; omega)]
        refine ⟨by decide, by rw [ofBtl_size]; simp; omega, ?_⟩
        rw [strIx1, wrap64 (by omega) (by omega)]
        refine st_blk b9 (by simp [cells4]) fun h3 s3 b3 e3 => ?_
        refine fin h3 ⟨1, (d.toNat : Int), 0, sE⟩ 2 (Or.inl ⟨l, rfl, by simp only [List.length_cons]; omega⟩) e3 ?_
        simpa [cells4] using b3
    rw [if_neg (fun e => c1 ((hi 1 1 rfl (by decide)).1 e))]
    have x9 : ¬ l.length < 8 → (ofBtl (c :: l)).extract (Int.toNat (1 : Int)) (Int.toNat (9 : Int)) = ofBtl (l.take 8) := fun _ => by rw [ex_mid]; rfl
    by_cases c2 : c = 2
    · rw [if_pos ((hi 2 2 rfl (by decide)).2 c2)]
      subst c2
      by_cases h8 : l.length < 8
      · rw [if_pos (by rw [ofBtl_size]; simp; omega)]
        refine badR ?_ h9 (Ext.refl _ _)
        have : rawL 2 l = none := by
          show (if l.length < 8 then none else _) = none
          rw [if_pos h8]
        rw [this]
        rfl
      · rw [if_neg (by rw [ofBtl_size]; simp; omega)]
        refine ⟨⟨by decide, by decide, by rw [ofBtl_size]; omega⟩, ?_⟩
        rw [x9 h8]
        refine NumberR_s _ (by rw [List.length_take]; omega) ⟨_, rfl, ?_⟩
        rw [xorN (num8_lt h8)]
        refine st_blk b9 (by simp [cells4]) fun h3 s3 b3 e3 => ?_
        refine fin h3 ⟨2, (numL (l.take 8) : Int) - 9223372036854775808, 0, sE⟩ 9 (Or.inl ⟨l.drop 8, ?_, by simp only [List.length_cons, List.length_drop]; omega⟩) e3 (by simpa [cells4] using b3)
        show (if l.length < 8 then none else _) = _
        rw [if_neg h8]
    rw [if_neg (fun e => c2 ((hi 2 2 rfl (by decide)).1 e))]
    by_cases c3 : c = 3
    · rw [if_pos ((hi 3 3 rfl (by decide)).2 c3)]
      subst c3
      by_cases h8 : l.length < 8
      · rw [if_pos (by rw [ofBtl_size]; simp; omega)]
        refine badR ?_ h9 (Ext.refl _ _)
        have : rawL 3 l = none := by
          show (if l.length < 8 then none else _) = none
          rw [if_pos h8]
        rw [this]
        rfl
      · rw [if_neg (by rw [ofBtl_size]; simp; omega)]
        refine ⟨⟨by decide, by decide, by rw [ofBtl_size]; omega⟩, ?_⟩
        rw [x9 h8]
        have hr : rawL 3 l = if isF (fromF (numL (l.take 8))) = true then some (⟨3, 0, fromF (numL (l.take 8)), sE⟩, l.drop 8) else none := by
          show (if l.length < 8 then none else _) = _
          rw [if_neg h8]
        refine NumberR_s _ (by rw [List.length_take]; omega) ⟨_, rfl, ?_⟩
        refine FromR_s _ (num8_lt h8) fun h3 e3 => ⟨_, _, rfl, ?_⟩
        refine newI fun h4 s4 b4 e4 => ?_
        refine st_blk b4 (by simp) fun h5 s5 b5 e5 => ?_
        have e95 : Ext [] h9 h5 := (e3.trans0 e4).trans e5 fun b hb hlt => by simp at hb; have := e3.sz; omega
        refine ⟨isF (fromF (numL (l.take 8))), by simp [rd_blk b5], ?_⟩
        cases hf : isF (fromF (numL (l.take 8))) with
        | false =>
          rw [if_pos (by rfl)]
          exact badR (by rw [hr, hf]; rfl) h5 (e95.mono (by simp))
        | true =>
          rw [if_neg (by decide)]
          rw [hf] at b5
          refine ⟨fromF (numL (l.take 8)), by simp [rd_blk b5], ?_⟩
          refine st_blk (e95.get b9 (by simp)) (by simp [cells4]) fun h6 s6 b6 e6 => ?_
          refine fin h6 ⟨3, 0, fromF (numL (l.take 8)), sE⟩ 9 (Or.inl ⟨l.drop 8, by rw [hr, hf]; rfl, by simp only [List.length_cons, List.length_drop]; omega⟩) (e95.mono (by simp) |>.trans e6 fun b hb _ => hb) (by simpa [cells4] using b6)
    rw [if_neg (fun e => c3 ((hi 3 3 rfl (by decide)).1 e))]
    by_cases c4 : c = 4
    · rw [if_pos ((hi 4 4 rfl (by decide)).2 c4)]
      subst c4
      refine ⟨⟨by decide, by rw [ofBtl_size]; omega⟩, ?_⟩
      rw [drop1]
      have hr : rawL 4 l = (textL l).map fun p => (⟨4, 0, 0, ofBtl p.1⟩, p.2) := rfl
      refine textR_s l hll fun h3 e3 => ⟨_, _, _, _, _, rfl, ?_⟩
      refine newI fun h4 s4 b4 e4 => ?_
      refine put5 b4 rfl (readT l).1 ((readT l).2 : Nat) fun h5 s5 b5 e5 => ?_
      have e95 : Ext [] h9 h5 := (e3.trans0 e4).trans e5 fun b hb hlt => by simp at hb; have := e3.sz; omega
      refine ⟨((readT l).2 : Nat), (rd5R b5).2.2.2.2, ?_⟩
      have hle3 := e3.sz
      cases hx : textL l with
      | none =>
        have hrt : readT l = (zV, 0) := by unfold readT; rw [hx]
        rw [hrt, if_pos (by rfl)]
        exact badR (by rw [hr, hx]; rfl) h5 (e95.mono (by simp))
      | some p =>
        have hp := textL_len (t := p.1) (r := p.2) hx
        have hrt : readT l = (⟨0, 0, 0, ofBtl p.1⟩, l.length - p.2.length) := by unfold readT; rw [hx]
        rw [hrt] at b5 ⊢
        rw [if_neg (by simp; omega)]
        refine ⟨ofBtl p.1, by rw [addr_add0]; exact (rd5R b5).2.2.2.1, ((l.length - p.2.length : Nat) : Int), (rd5R b5).2.2.2.2, ?_⟩
        refine st_blk (e95.get b9 (by simp)) (by simp [cells4]) fun h6 s6 b6 e6 => ?_
        have b56 := e6.get b5 (by simp; omega)
        refine ⟨(rd5R b56).2.2.2.2, ?_⟩
        have w : IntKind.wrap .i64 ((1 : Int) + ((l.length - p.2.length : Nat) : Int)) = ((1 + (l.length - p.2.length) : Nat) : Int) := by rw [wrap64 (by omega) (by omega)]; omega
        rw [w]
        refine fin h6 ⟨4, 0, 0, ofBtl p.1⟩ _ (Or.inl ⟨p.2, by rw [hr, hx]; rfl, by rw [hlen]; omega⟩) (e95.mono (by simp) |>.trans e6 fun b hb _ => hb) (by simpa [cells4] using b6)
    rw [if_neg (fun e => c4 ((hi 4 4 rfl (by decide)).1 e))]
    by_cases c0 : c = 0
    · subst c0
      exact fin h9 ⟨0, 0, 0, sE⟩ 1 (Or.inl ⟨l, rfl, by simp only [List.length_cons]; omega⟩) (Ext.refl _ _) b9
    refine fin h9 ⟨(c.toNat : Int), 0, 0, sE⟩ 1 (Or.inr ⟨by unfold rawL; rw [if_neg c0, if_neg c1, if_neg c2, if_neg c3, if_neg c4], good_five ?_⟩) (Ext.refl _ _) b9
    show 4 < (c.toNat : Int)
    have a0 : c.toNat ≠ 0 := fun e => c0 ((u8_iff (by decide)).2 e)
    have a1 : c.toNat ≠ 1 := fun e => c1 ((u8_iff (by decide)).2 e)
    have a2 : c.toNat ≠ 2 := fun e => c2 ((u8_iff (by decide)).2 e)
    have a3 : c.toNat ≠ 3 := fun e => c3 ((u8_iff (by decide)).2 e)
    have a4 : c.toNat ≠ 4 := fun e => c4 ((u8_iff (by decide)).2 e)
    omega
end
end Go.Lift
namespace Go.Lift
open Go Go.Proofs Go.RowKit
set_option maxRecDepth 100000
section
variable {h : Hp} {Q : List Value → Hp → Prop}
theorem getD_app (a b : List UInt8) (i : Nat) : (a ++ b).getD (a.length + i) 0 = b.getD i 0 := by
  rw [List.getD_eq_getElem?_getD, List.getD_eq_getElem?_getD, List.getElem?_append_right (by omega), Nat.add_sub_cancel_left]
theorem readL_none {l : List UInt8} (h : firstL l = none) : readL l = (zV, 0) := by unfold readL; rw [h]
theorem readL_some {l : List UInt8} {p : V4 × List UInt8} (h : firstL l = some p) : readL l = (p.1, l.length - p.2.length) := by unfold readL; rw [h]
theorem SplitR_s (l : List UInt8) (hl : l.length ≤ 2 ^ 30) (hQ : ∀ h', Ext [] h h' → Q [agg5 (splitP l).1 (splitP l).2.1, .int .i64 (splitP l).2.2] h') : S_liveryref03_Split (ofBtl l) h Q := by
  refine O_liveryref03_Split _ ?_
  unfold F_liveryref03_Split
  refine newI fun h1 s1 b1 e1 => ?_
  refine read_s l hl fun h3 e3 => ⟨_, _, _, _, _, rfl, ?_⟩
  have b3 : Blk h3 h.size (cells5 zV 0) T_liveryref03_Got := e3.get b1 (by simp)
  have hlt := blk_lt b3
  refine newI fun h4 s4 b4 e4 => ?_
  refine put5 b4 rfl (readL l).1 ((readL l).2 : Nat) fun h5 s5 b5 e5 => ?_
  have e05 : Ext [] h h5 := ((e1.trans0 e3).trans0 e4).trans e5 fun b hb hlt => by simp at hb; omega
  have b35 := e5.get (e4.get b3 (by simp)) (by simp; omega)
  intro J hJ
  obtain ⟨r0, r1, r2, r3, r4⟩ := rd5R b5
  refine ⟨_, r4, ?_⟩
  unfold splitP at hQ
  have bad : (∀ h', Ext [] h h' → Q [agg5 zV 0, .int .i64 11] h') → J [.bool true] h5 := fun hq => by
    refine hJ _ _ ?_
    rw [if_pos rfl]
    exact outR b35 rfl zV 0 fun g e => hq g (e05.trans e fun b hb hlt => by simp at hb; omega)
  cases hf : firstL l with
  | none =>
    rw [hf] at hQ
    rw [readL_none hf, if_pos (by rfl)]
    exact bad hQ
  | some p =>
    rw [hf] at hQ
    have hpl := firstL_len (r := p.2) (v := p.1) hf
    rw [readL_some hf, if_neg (by simp; omega)]
    refine ⟨_, by rw [r4, readL_some hf], ?_⟩
    have w2 : IntKind.wrap .i64 (((l.length - p.2.length : Nat) : Int) + 2) = ((l.length - p.2.length + 2 : Nat) : Int) := by rw [wrap64 (by omega) (by omega)]; omega
    rw [ofBtl_size, w2]
    by_cases hr : p.2.length = 2
    · have e : (((l.length - p.2.length + 2 : Nat) : Int) != (l.length : Int)) = false := by simp; omega
      rw [e]
      refine hJ _ _ ?_
      rw [if_neg (by decide)]
      have hq : ∀ h', Ext [] h h' → Q [agg5 p.1 (twoL p.2), .int .i64 0] h' := fun h' e => by
        have := hQ h' e
        simp only [hr, if_true] at this
        exact this
      rw [readL_some hf] at r0 r1 r2 r3 r4
      refine ⟨_, by rw [addr_add0]; exact r0, _, by rw [addr_add0]; exact r1, _, by rw [addr_add0]; exact r2, _, by rw [addr_add0]; exact r3, _, r4, ?_⟩
      have hll := firstL_enc (r := p.2) (v := p.1) hf
      have hel : l.length = (encX p.1).length + p.2.length := by rw [← List.length_append, ← hll]
      have es : l.length - p.2.length = (encX p.1).length := by omega
      simp only [es] at r4 ⊢
      have w1 : IntKind.wrap .i64 (((encX p.1).length : Int) + 1) = (((encX p.1).length + 1 : Nat) : Int) := by rw [wrap64 (by omega) (by omega)]; rfl
      refine ⟨by omega, by rw [ofBtl_size]; omega, _, r4, ?_⟩
      rw [w1]
      refine ⟨by omega, by rw [ofBtl_size]; omega, ?_⟩
      have i0 : strIx (ofBtl l) (((encX p.1).length : Nat) : Int) = (((p.2.getD 0 0).toNat : Nat) : Int) := by
        have := getD_app (encX p.1) p.2 0
        rw [← hll, Nat.add_zero] at this
        rw [strIxD (by omega), this]
      have i1 : strIx (ofBtl l) (((encX p.1).length + 1 : Nat) : Int) = (((p.2.getD 1 0).toNat : Nat) : Int) := by
        have := getD_app (encX p.1) p.2 1
        rw [← hll] at this
        rw [strIxD (by omega), this]
      have c0 := (p.2.getD 0 0).toNat_lt
      have c1 := (p.2.getD 1 0).toNat_lt
      rw [i0, i1, wrap64 (x := (((p.2.getD 0 0).toNat : Nat) : Int)) (by omega) (by omega), wrap64 (x := (((p.2.getD 1 0).toNat : Nat) : Int)) (by omega) (by omega), wrap64 (x := (((p.2.getD 0 0).toNat : Nat) : Int) * 256) (by omega) (by omega), wrap64 (by omega) (by omega)]
      have et : (((p.2.getD 0 0).toNat : Nat) : Int) * 256 + (((p.2.getD 1 0).toNat : Nat) : Int) = twoL p.2 := by unfold twoL; omega
      rw [et]
      exact outR b35 rfl p.1 (twoL p.2) fun g e => hq g (e05.trans e fun b hb hlt => by simp at hb; omega)
    · have e : (((l.length - p.2.length + 2 : Nat) : Int) != (l.length : Int)) = true := by simp; omega
      rw [e]
      refine bad fun h' e => ?_
      have := hQ h' e
      simp only [hr, if_false] at this
      exact this
end
end Go.Lift

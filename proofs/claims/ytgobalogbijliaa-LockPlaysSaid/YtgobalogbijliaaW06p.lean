/- Locks: LockApart. -/
import Derived.Test.YtgobalogbijliaaW06o
set_option linter.unusedSimpArgs false
set_option linter.unusedVariables false
namespace Go.Lift
open Go Go.Proofs
set_option maxRecDepth 100000
theorem iShr_nat {a : Nat} {m : Int} (hm : isM m = true) : iShr .i64 (a : Int) (IntKind.wrap .u64 m) = ((a / 2 ^ m.toNat : Nat) : Int) := by
  have hk : ∀ k : Nat, Int.fdiv (a : Int) (2 ^ k) = ((a / 2 ^ k : Nat) : Int) := by
    intro k
    have h2 : (2 : Int) ^ k = ((2 ^ k : Nat) : Int) := by rw [Int.natCast_pow]; rfl
    rw [h2, Int.fdiv_eq_ediv_of_nonneg _ (Int.natCast_nonneg _), ← Int.natCast_ediv]
  unfold iShr
  have hw : IntKind.wrap .u64 m = m := by rcases modes8 hm with rfl | rfl | rfl | rfl | rfl | rfl | rfl | rfl <;> rfl
  have h1 := isM_iff.1 hm
  rw [hw, hk, Nat.min_eq_left]
  show m.toNat ≤ 64
  omega
section
variable {h : Hp} {Q : List Value → Hp → Prop}
theorem In05_s {set : Nat} (hs : set < 512) (m : Int) (hQ : Q [.bool (inR set m)] h) : S_liveryref05_In set m h Q := by
  refine O_liveryref05_In _ _ ?_
  unfold F_liveryref05_In
  by_cases h1 : 1 ≤ m
  · rw [if_pos (by simpa using h1)]
    by_cases h2 : m ≤ 8
    · rw [if_pos (by simpa using h2)]
      have hm : isM m = true := isM_iff.2 ⟨h1, h2⟩
      have hd : set / 2 ^ m.toNat ≤ set := Nat.div_le_self _ _
      rw [iShr_nat hm, show (1 : Int) = ((1 : Nat) : Int) from rfl, iAnd_nat (by omega) (by omega)]
      refine ⟨?_, ?_⟩
      · rcases modes8 hm with rfl | rfl | rfl | rfl | rfl | rfl | rfl | rfl <;> decide
      have : (((set / 2 ^ m.toNat &&& 1 : Nat) : Int) == ((1 : Nat) : Int)) = inR set m := by
        unfold inR
        rw [hm, Bool.true_and, Nat.testBit_eq_decide_div_mod_eq, Nat.and_one_is_mod, Bool.eq_iff_iff]
        simp only [beq_iff_eq, decide_eq_true_eq]
        omega
      rw [this]
      exact hQ
    · rw [if_neg (by simpa using h2)]
      have : inR set m = false := by unfold inR isM; simp [h2]
      rw [this] at hQ
      exact hQ
  · rw [if_neg (by simpa using h1)]
    have : inR set m = false := by unfold inR isM; simp [h1]
    rw [this] at hQ
    exact hQ
theorem any_take {p : Nat → Bool} {i : Nat} (hi : i < 8) (hp : p i = true) : (List.range 8).any p = true := List.any_eq_true.2 ⟨i, List.mem_range.2 hi, hp⟩
theorem any_all {p : Nat → Bool} (hp : ∀ i, i < 8 → p i = false) : (List.range 8).any p = false := by
  rw [Bool.eq_false_iff]
  intro g
  rw [List.any_eq_true] at g
  obtain ⟨i, hi, h⟩ := g
  rw [hp i (List.mem_range.1 hi)] at h
  cases h
theorem Any05_s {set : Nat} (hs : set < 512) (m : Int) (hQ : ∀ h', Ext [] h h' → Q [.bool (anyR set m)] h') : S_liveryref05_Any set m h Q := by
  refine O_liveryref05_Any _ _ ?_
  unfold F_liveryref05_Any
  intro X hX
  have key : ∀ (d i : Nat) g, d + i = 8 → Ext [] h g → (∀ j, j < i → (inR set ((j : Int) + 1) && barsR m ((j : Int) + 1)) = false) → X [.int .i64 ((i : Int) + 1)] g := by
    intro d
    induction d with
    | zero =>
      intro i g hi eg hall
      refine hX _ _ ?_
      rw [if_neg (by simp; omega)]
      have : anyR set m = false := any_all fun j hj => hall j (by omega)
      have hq := hQ g eg
      rw [this] at hq
      exact hq
    | succ d ih =>
      intro i g hi eg hall
      refine hX _ _ ?_
      rw [if_pos (by simp; omega)]
      intro J hJ
      have go : ∀ b g', b = (inR set ((i : Int) + 1) && barsR m ((i : Int) + 1)) → Ext [] g g' → J [.bool b] g' := by
        intro b g' hb eg'
        refine hJ _ _ ?_
        cases b with
        | true =>
          rw [if_pos rfl]
          have : anyR set m = true := any_take (i := i) (by omega) hb.symm
          have hq := hQ g' (eg.trans0 eg')
          rw [this] at hq
          exact hq
        | false =>
          rw [if_neg (by decide), wrap64 (by omega) (by omega)]
          have := ih (i + 1) g' (by omega) (eg.trans0 eg') fun j hj => by
            by_cases e : j = i
            · subst e; exact hb.symm
            · exact hall j (by omega)
          simpa using this
      refine In05_s hs _ ⟨_, rfl, ?_⟩
      cases hin : inR set ((i : Int) + 1) with
      | true =>
        rw [if_pos rfl]
        refine Bars05_s _ _ fun g' eg' => ⟨_, rfl, ?_⟩
        exact go _ g' (by rw [hin, Bool.true_and]) eg'
      | false =>
        rw [if_neg (by decide)]
        exact go _ g (by rw [hin, Bool.false_and]) (Ext.refl _ _)
  have := key 8 0 h (by omega) (Ext.refl _ _) (fun j hj => by omega)
  simpa using this
theorem BarsL_s {a b : Nat} (ha : a < 512) (hb : b < 512) (hQ : ∀ h', Ext [] h h' → Q [.bool (barsL a b)] h') : S_liverylaw06_bars a b h Q := by
  refine O_liverylaw06_bars _ _ ?_
  unfold F_liverylaw06_bars
  intro X hX
  have key : ∀ (d i : Nat) g, d + i = 8 → Ext [] h g → (∀ j, j < i → (inR a ((j : Int) + 1) && anyR b ((j : Int) + 1)) = false) → X [.int .i64 ((i : Int) + 1)] g := by
    intro d
    induction d with
    | zero =>
      intro i g hi eg hall
      refine hX _ _ ?_
      rw [if_neg (by simp; omega)]
      have : barsL a b = false := any_all fun j hj => hall j (by omega)
      have hq := hQ g eg
      rw [this] at hq
      exact hq
    | succ d ih =>
      intro i g hi eg hall
      refine hX _ _ ?_
      rw [if_pos (by simp; omega)]
      intro J hJ
      have go : ∀ b2 g', b2 = (inR a ((i : Int) + 1) && anyR b ((i : Int) + 1)) → Ext [] g g' → J [.bool b2] g' := by
        intro b2 g' hb eg'
        refine hJ _ _ ?_
        cases b2 with
        | true =>
          rw [if_pos rfl]
          have : barsL a b = true := any_take (i := i) (by omega) hb.symm
          have hq := hQ g' (eg.trans0 eg')
          rw [this] at hq
          exact hq
        | false =>
          rw [if_neg (by decide), wrap64 (by omega) (by omega)]
          have := ih (i + 1) g' (by omega) (eg.trans0 eg') fun j hj => by
            by_cases e : j = i
            · subst e; exact hb.symm
            · exact hall j (by omega)
          simpa using this
      refine In05_s ha _ ⟨_, rfl, ?_⟩
      cases hin : inR a ((i : Int) + 1) with
      | true =>
        rw [if_pos rfl]
        refine Any05_s hb _ fun g' eg' => ⟨_, rfl, ?_⟩
        exact go _ g' (by rw [hin, Bool.true_and]) eg'
      | false =>
        rw [if_neg (by decide)]
        exact go _ g (by rw [hin, Bool.false_and]) (Ext.refl _ _)
  have := key 8 0 h (by omega) (Ext.refl _ _) (fun j hj => by omega)
  simpa using this
theorem rdB {h : Hp} {s : Sl} {xs : List ByteArray} (hs : Reads 1 encB h s xs) {i : Nat} (hi : i < xs.length) : ∃ a, s.a = some a ∧ rd h (Addr.add a (i * 1)) = some (.string xs[i]) := by
  obtain ⟨a, h1, h2⟩ := hs.rd encB_len hi
  exact ⟨a, h1, by simpa using h2 0 (by omega)⟩
theorem LockApart_s {s : Sl} {xs : List StepK} (hs : Reads 4 encK h s xs) (hl : xs.length ≤ 9223372036854775807) (hQ : ∀ h', Ext [] h h' → Q [.bool true] h') : F_liverylaw06_LockApart s h Q := by
  unfold F_liverylaw06_LockApart
  refine new_L (G := fun _ => False) (fun b hb => hb.elim) fun h1 t hv1 e1 => ⟨_, rfl, ?_⟩
  intro J hJ
  rw [if_neg (by simp)]
  refine fair_s (hs.ext0 e1) hl ⟨_, rfl, hJ _ _ ?_⟩
  have hsn := hs.1
  cases hfair : fairK xs with
  | false =>
    rw [if_pos (by decide)]
    intro J2 hJ2
    rw [if_pos (by simp)]
    exact wakes_s fun h2 e2 => ⟨_, rfl, hJ2 _ _ (hQ h2 (e1.trans0 e2))⟩
  | true =>
    rw [if_neg (by decide)]
    have hx150 : xs.length ≤ 150 := by
      unfold fairK at hfair
      rw [Bool.and_eq_true, decide_eq_true_eq] at hfair
      exact hfair.2
    intro X hX
    have key : ∀ (d i : Nat) g T, d + i = xs.length → Ext [] h g → Lk h.size (fun _ => False) g t T → TA T → T.length ≤ i → X [.int .i64 (i : Int)] g := by
      intro d
      induction d with
      | zero =>
        intro i g T hi eg hv hTA hTl
        refine hX _ _ ?_
        rw [if_neg (by simp; omega)]
        exact wakes_s fun h2 e2 => ⟨_, rfl, hQ h2 (eg.trans0 e2)⟩
      | succ d ih =>
        intro i g T hi eg hv hTA hTl
        refine hX _ _ ?_
        rw [if_pos (by simp; omega)]
        have hil : i < xs.length := by omega
        obtain ⟨a, w1, w2, w3, w4, w5⟩ := rdK (hs.ext0 eg) hil
        rw [w1]
        simp only [nilW_some, Int.toNat_natCast]
        refine ⟨by omega, by omega, _, w2, _, w3, _, w4, _, w5, ?_⟩
        refine varI rfl rfl fun g1 s1 b1 f1 => ?_
        refine ⟨xs[i].holder, by simp [rd_blk b1], ?_⟩
        refine Mod8_s _ fun v hv0 hv7 => ⟨_, rfl, xs[i].kind, by simp [rd_blk b1], ?_⟩
        have eg1 := eg.trans0 f1
        have hv1' : Lk h.size (fun b => b = g.size) g1 t T := hv.mv f1 (by simp) fun b hb => by subst hb; exact ⟨Or.inr (Nat.le_refl _), by omega⟩
        intro J2 hJ2
        have go : ∀ g2 T2 S2, Lk h.size (fun b => b = g.size) g2 t T2 → TA T2 → T2.length ≤ i + 1 → Ext S2 g1 g2 → (∀ b ∈ S2, h.size ≤ b ∧ ¬ (b = g.size)) → J2 [] g2 := by
          intro g2 T2 S2 hv2 hTA2 hTl2 e2 hS2
          refine hJ2 _ ?_
          have eg2 := ext_lo eg1 e2 fun b hb => (hS2 b hb).1
          have hok2 := hv2.ok
          refine names_L hv2 (by omega) fun g3 s3 hv3 e3 ho3 => ⟨s3, rfl, ?_⟩
          have hn3 := ho3.1
          have hNl : (namesT T2).length ≤ 151 := by unfold namesT; rw [sortS_len, List.length_map]; omega
          intro Y hY
          have fin : ∀ g4, Ext [] g3 g4 → (∀ Z : List Value → Hp → Prop, (∀ n59 : Int, ∀ h60 : Hp, ((if (decide (n59 ≤ (8 : Int))) = true then
                                    (S_lock_Table_Waits (some ⟨t, 0, none⟩) n59 h60 fun (vs61 : List Value) (h62 : Hp) =>
                                      ∃ s63 : ByteArray, ∃ n64 : Int, ∃ b65 : Bool, vs61 = [(Value.string s63), (Value.int .i64 n64), (Value.bool b65)] ∧
                                      ∀ J66 : List Value → Hp → Prop, (∀ b67 : Bool, ∀ h68 : Hp, ((if b67 = true then
                                            (Q [(Value.bool false)] h68) else
                                            (Z [(Value.int .i64 (IntKind.wrap .i64 (n59 + (1 : Int))))] h68))) → J66 [(Value.bool b67)] h68) →
                                      (if b65 = true then (S_lock_Table_Modes (some ⟨t, 0, none⟩) n59 s63 h62 fun (vs69 : List Value) (h70 : Hp) =>
                                          ∃ n71 : Int, vs69 = [(Value.int .i64 n71)] ∧
                                          S_liveryref05_In n71 n64 h70 fun (vs72 : List Value) (h73 : Hp) =>
                                          ∃ b74 : Bool, vs72 = [(Value.bool b74)] ∧
                                          (if b74 = true then (J66 [(Value.bool true)] h73) else
                                            (S_lock_Table_For (some ⟨t, 0, none⟩) n59 h73 fun (vs75 : List Value) (h76 : Hp) =>
                                              ∃ l77 : Sl, vs75 = [(Value.slice l77.a l77.n l77.c)] ∧
                                              J66 [(Value.bool ((l77.n : Int) == (0 : Int)))] h76))) else
                                        (J66 [(Value.bool false)] h62))) else
                                    (X [(Value.int .i64 (IntKind.wrap .i64 ((i : Int) + (1 : Int))))] h60))) → Z [(Value.int .i64 n59)] h60) →
                              Z [(Value.int .i64 (1 : Int))] g4) := by
            intro g4 e4 Z hZ
            have key3 : ∀ (d k : Nat) g5, d + k = 9 → 1 ≤ k → Ext [] g4 g5 → Z [.int .i64 (k : Int)] g5 := by
              intro d
              induction d with
              | zero =>
                intro k g5 hk hk1 e5
                refine hZ _ _ ?_
                rw [if_neg (by simp; omega), wrap64 (by omega) (by omega)]
                have := ih (i + 1) g5 T2 (by omega) (((eg2.trans0 e3).trans0 e4).trans0 e5) (((hv3.e0 e4).e0 e5).less fun b hb => hb.elim) hTA2 hTl2
                simpa using this
              | succ d ih3 =>
                intro k g5 hk hk1 e5
                refine hZ _ _ ?_
                rw [if_pos (by simp; omega)]
                have hv5 := (hv3.e0 e4).e0 e5
                refine waits_L hv5 k fun g6 hv6 e6 => ?_
                have nxt : ∀ (J66 : List Value → Hp → Prop) g7, (∀ b67 : Bool, ∀ h68 : Hp, ((if b67 = true then (Q [(Value.bool false)] h68) else (Z [(Value.int .i64 (IntKind.wrap .i64 ((k : Int) + (1 : Int))))] h68))) → J66 [(Value.bool b67)] h68) → Ext [] g6 g7 → J66 [.bool false] g7 := by
                  intro J66 g7 hJ66 e7
                  refine hJ66 _ _ ?_
                  rw [if_neg (by decide), wrap64 (by omega) (by omega)]
                  have := ih3 (k + 1) g7 (by omega) (by omega) ((e5.trans0 e6).trans0 e7)
                  simpa using this
                cases hw : waitsT T2 k with
                | none =>
                  refine ⟨_, _, _, rfl, ?_⟩
                  intro J66 hJ66
                  rw [if_neg (by decide)]
                  exact nxt J66 g6 hJ66 (Ext.refl _ _)
                | some p =>
                  obtain ⟨n, m⟩ := p
                  refine ⟨_, _, _, rfl, ?_⟩
                  intro J66 hJ66
                  rw [if_pos rfl]
                  obtain ⟨hA, hB⟩ := hTA2.waits hok2 hw
                  refine modes_L hv6 k n ⟨_, rfl, ?_⟩
                  refine In05_s (modes_lt hok2 k n) m ⟨_, rfl, ?_⟩
                  rw [hA, if_neg (by decide)]
                  refine for_L hv6 k fun g7 s7 hv7 e7 ho7 => ⟨s7, rfl, ?_⟩
                  have hn7 := ho7.1
                  have hpos : 0 < (forT T2 (k : Int)).length := List.length_pos_iff.2 hB
                  have : ((s7.n : Int) == (0 : Int)) = false := by
                    rw [beq_eq_false_iff_ne]
                    omega
                  rw [this]
                  exact nxt J66 g7 hJ66 e7
            have := key3 8 1 g4 (by omega) (by omega) (Ext.refl _ _)
            simpa using this
          have key2 : ∀ (d j : Nat) g4, d + j = (namesT T2).length → Ext [] g3 g4 → Y [.int .i64 (j : Int)] g4 := by
            intro d
            induction d with
            | zero =>
              intro j g4 hj e4
              refine hY _ _ ?_
              rw [if_neg (by simp; omega)]
              exact fin g4 e4
            | succ d ih2 =>
              intro j g4 hj e4
              refine hY _ _ ?_
              rw [if_pos (by simp; omega)]
              have hjl : j < (namesT T2).length := by omega
              intro Z hZ
              have keyA : ∀ (d a : Nat) g5, d + a = 9 → 1 ≤ a → Ext [] g4 g5 → Z [.int .i64 (a : Int)] g5 := by
                intro d
                induction d with
                | zero =>
                  intro a g5 ha ha1 e5
                  refine hZ _ _ ?_
                  rw [if_neg (by simp; omega), wrap64 (by omega) (by omega)]
                  have := ih2 (j + 1) g5 (by omega) (e4.trans0 e5)
                  simpa using this
                | succ d ihA =>
                  intro a g5 ha ha1 e5
                  refine hZ _ _ ?_
                  rw [if_pos (by simp; omega)]
                  intro U hU
                  have keyB : ∀ (d b : Nat) g6, d + b = 9 → 1 ≤ b → Ext [] g5 g6 → U [.int .i64 (b : Int)] g6 := by
                    intro d
                    induction d with
                    | zero =>
                      intro b g6 hb hb1 e6
                      refine hU _ _ ?_
                      rw [if_neg (by simp; omega), wrap64 (by omega) (by omega)]
                      have := ihA (a + 1) g6 (by omega) (by omega) (e5.trans0 e6)
                      simpa using this
                    | succ d ihB =>
                      intro b g6 hb hb1 e6
                      refine hU _ _ ?_
                      rw [if_pos (by simp; omega)]
                      intro J7 hJ7
                      have nxt : ∀ g7, Ext [] g6 g7 → J7 [.bool false] g7 := by
                        intro g7 e7
                        refine hJ7 _ _ ?_
                        rw [if_neg (by decide), wrap64 (by omega) (by omega)]
                        have := ihB (b + 1) g7 (by omega) (by omega) (e6.trans0 e7)
                        simpa using this
                      by_cases hab : (a : Int) = (b : Int)
                      · rw [if_neg (by simpa using hab)]
                        exact nxt g6 (Ext.refl _ _)
                      · rw [if_pos (by simpa using hab)]
                        have e36 := ((e4.trans0 e5).trans0 e6)
                        have hv6 := hv3.e0 e36
                        obtain ⟨ad, u1, u2⟩ := rdB (ho3.ext0 e36).sl.reads hjl
                        rw [u1]
                        simp only [nilW_some, Int.toNat_natCast]
                        refine ⟨by omega, by omega, _, u2, by omega, by omega, _, u2, ?_⟩
                        refine modes_L hv6 a _ ⟨_, rfl, u2, ?_⟩
                        refine modes_L hv6 b _ ⟨_, rfl, ?_⟩
                        refine BarsL_s (modes_lt hok2 _ _) (modes_lt hok2 _ _) fun g7 e7 => ⟨_, rfl, ?_⟩
                        rw [hTA2.apart _ hab]
                        exact nxt g7 e7
                  have := keyB 8 1 g5 (by omega) (by omega) (Ext.refl _ _)
                  simpa using this
              have := keyA 8 1 g4 (by omega) (by omega) (Ext.refl _ _)
              simpa using this
          have := key2 (namesT T2).length 0 g3 (by omega) (Ext.refl _ _)
          simpa using this
        by_cases hk0 : xs[i].kind = 0
        · rw [if_pos (by simpa using hk0)]
          refine ⟨xs[i].name, by simp [rd_blk b1], xs[i].mode, by simp [rd_blk b1], ?_⟩
          rw [wrap64 (by omega) (by omega)]
          refine take_L hv1' (1 + v) _ _ fun g2 S2 hv2 e2 hS2 => ⟨_, rfl, ?_⟩
          exact go g2 _ S2 hv2 (hTA.take hv1'.ok _ _ _) (by have := (takeT_ok hv1'.ok (1 + v) xs[i].name xs[i].mode).2; omega) e2 hS2
        · rw [if_neg (by simpa using hk0)]
          rw [wrap64 (by omega) (by omega)]
          refine release_L hv1' (1 + v) (by omega) fun g2 s2 S2 hv2 ho2 hs2 e2 hS2 => ⟨_, rfl, ?_⟩
          exact go g2 _ S2 hv2 (hTA.release hv1'.ok _) (by have := (releaseT_ok hv1'.ok (1 + v)).2; omega) e2 hS2
    have := key xs.length 0 h1 [] (by omega) e1 hv1 (fun n => QA.nil) (by simp)
    simpa using this
end
end Go.Lift

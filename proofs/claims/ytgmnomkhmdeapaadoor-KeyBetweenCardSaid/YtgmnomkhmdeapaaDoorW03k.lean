/- Keys are read, by the reference: the value at the front. -/
import Derived.Test.YtgmnomkhmdeapaaDoorW03j
set_option linter.unusedSimpArgs false
set_option linter.unusedVariables false
namespace Go.Lift
open Go Go.Proofs Go.RowKit
set_option maxRecDepth 100000
section
variable {h : Hp} {Q : List Value → Hp → Prop}
theorem addr_add0 {b i : Nat} : Addr.add (Addr.add (Addr.mk b 0 none) 0) i = Addr.add (Addr.mk b 0 none) i := by
  simp [Addr.add]
theorem strIx1 {c d : UInt8} {l : List UInt8} : strIx (ofBtl (c :: d :: l)) (1 : Int) = (d.toNat : Int) := strIxL (l := c :: d :: l) (i := 1) (by simp)
theorem read_s (l : List UInt8) (hl : l.length ≤ 2 ^ 30) (hQ : ∀ h', Ext [] h h' → Q [agg5 (readL l).1 ((readL l).2 : Nat)] h') : S_liveryref03_read (ofBtl l) h Q := by
  refine O_liveryref03_read _ ?_
  unfold F_liveryref03_read
  refine newI fun h1 s1 b1 e1 => ?_
  have none_ : firstL l = none → ∀ (g : Hp), Ext [] h g → Q [agg5 zV 0] g := fun hno g eg => by
    have := hQ g eg
    unfold readL at this
    rw [hno] at this
    exact this
  cases l with
  | nil =>
    rw [if_pos nil_size]
    exact outR b1 rfl zV 0 fun g e => none_ rfl g (e1.trans e fun b hb hlt => by simp at hb; omega)
  | cons c l =>
    rw [if_neg (by rw [cons_size]; decide)]
    have hcl := c.toNat_lt
    have hll : l.length ≤ 2 ^ 30 := by rw [List.length_cons] at hl; omega
    have hlen : (c :: l).length = l.length + 1 := List.length_cons
    refine ⟨by decide, by rw [ofBtl_size]; omega, newI fun h8 s8 b8 e8 => ?_⟩
    rw [strIx0, wrap64 (by omega) (by omega)]
    refine put4 b8 rfl ⟨(c.toNat : Int), 0, 0, sE⟩ fun h9 s9 b9 e9 => ?_
    have b19 : Blk h9 h.size (cells5 zV 0) T_liveryref02_Read := e9.get (e8.get b1 (by simp)) (by simp; omega)
    have e09 : Ext [] h h9 := (e1.trans0 e8).trans e9 fun b hb hlt => by simp at hb; omega
    have hs1 : h1.size = h.size + 1 := s1
    have hs0 : h9.size = h.size + 2 := by omega
    refine ⟨(c.toNat : Int), (rd4V b9).1, ?_⟩
    intro J hJ
    have bad : pickL (rawL c l) = none → ∀ (g : Hp), Ext [h1.size] h9 g → ∀ {K : Hp → Prop}, (∀ g2, Q [agg5 zV 0] g2 → K g2) →
        stOk g (Addr.mk (Array.size h) 0 none) 5 ∧ wth (wrs g (Addr.mk (Array.size h) 0 none) 0 [(Value.int .i64 (0 : Int)), (Value.int .i64 (0 : Int)), (Value.float .f64 0), (Value.string (ByteArray.mk #[])), (Value.int .i64 (0 : Int))]) K := by
      intro hr g eg K hK
      refine put5 (eg.get b19 (by simp; omega)) rfl zV 0 fun g2 s2 b2 e2 => hK g2 ?_
      refine none_ hr g2 ((e09.trans eg fun b hb hlt => by simp at hb; omega).trans e2 fun b hb hlt => by simp at hb; omega)
    have badR : pickL (rawL c l) = none → ∀ (g : Hp), Ext [h1.size] h9 g →
        stOk g (Addr.mk (Array.size h) 0 none) 5 ∧ wth (wrs g (Addr.mk (Array.size h) 0 none) 0 [(Value.int .i64 (0 : Int)), (Value.int .i64 (0 : Int)), (Value.float .f64 0), (Value.string (ByteArray.mk #[])), (Value.int .i64 (0 : Int))]) fun h37 =>
          ∃ n38 : Int, rd h37 (Addr.add (Addr.mk (Array.size h) 0 none) 0) = some (Value.int .i64 n38) ∧ ∃ n39 : Int, rd h37 (Addr.add (Addr.mk (Array.size h) 0 none) 1) = some (Value.int .i64 n39) ∧ ∃ x40 : Nat, rd h37 (Addr.add (Addr.mk (Array.size h) 0 none) 2) = some (Value.float .f64 x40) ∧ ∃ s41 : ByteArray, rd h37 (Addr.add (Addr.mk (Array.size h) 0 none) 3) = some (Value.string s41) ∧ ∃ n42 : Int, rd h37 (Addr.add (Addr.mk (Array.size h) 0 none) 4) = some (Value.int .i64 n42) ∧ Q [(Value.agg #[(Value.int .i64 n38), (Value.int .i64 n39), (Value.float .f64 x40), (Value.string s41), (Value.int .i64 n42)])] h37 := by
      intro hr g eg
      refine outR (eg.get b19 (by simp; omega)) rfl zV 0 fun g2 e2 => ?_
      exact none_ hr g2 ((e09.trans eg fun b hb hlt => by simp at hb; omega).trans e2 fun b hb hlt => by simp at hb; omega)
    have fin : ∀ (g : Hp) (v : V4) (n : Nat), ((∃ r, rawL c l = some (v, r) ∧ n = (c :: l).length - r.length) ∨ rawL c l = none ∧ goodX v = false) → Ext [h1.size] h9 g → Blk g h1.size (cells4 v) T_api_Value → J [.int .i64 (n : Int)] g := by
      intro g v n hr eg bg
      refine hJ _ _ ?_
      refine rdV bg (K := fun a b c d => S_liveryref02_Good a b c d g _) ?_
      refine GoodR_s v fun g2 e2 => ⟨_, rfl, ?_⟩
      have bg2 := e2.get bg (by simp)
      have eg2 := eg.trans0 e2
      cases hgd : goodX v with
      | false =>
        rw [if_pos (by rfl)]
        refine badR ?_ g2 eg2
        rcases hr with ⟨r, hr, _⟩ | ⟨hr, _⟩
        · rw [hr, pick_no hgd]
        · rw [hr]; rfl
      | true =>
        rw [if_neg (by decide)]
        refine rdV bg2 (K := fun a b c d => stOk g2 _ 5 ∧ wth (wrs g2 _ 0 [.int .i64 a, .int .i64 b, .float .f64 c, .string d, _]) _) ?_
        refine outR (eg2.get b19 (by simp; omega)) rfl v n fun g3 e3 => ?_
        have := hQ g3 ((e09.trans eg2 fun b hb hlt => by simp at hb; omega).trans e3 fun b hb hlt => by simp at hb; omega)
        rcases hr with ⟨r, hr, hn⟩ | ⟨_, hb⟩
        · unfold readL at this
          rw [firstL, hr, pick_yes hgd] at this
          subst hn
          exact this
        · rw [hgd] at hb
          cases hb
    have hi : ∀ (k : Nat) (z : Int), z = (k : Int) → k < 256 → (((c.toNat : Int) == z) = true ↔ c = UInt8.ofNat k) := fun k z hz hk => by rw [u8_iff hk, hz, beq_iff_eq]; omega
    by_cases c1 : c = 1
    · rw [if_pos ((hi 1 1 rfl (by decide)).2 c1)]
      subst c1
      cases l with
      | nil =>
        rw [if_pos (by rw [ofBtl_size]; rfl)]
        exact badR rfl h9 (Ext.refl _ _)
      | cons d l =>
        have hdl := d.toNat_lt
        rw [if_neg (by rw [ofBtl_size]; simp; omega)]
        refine ⟨by decide, by rw [ofBtl_size]; simp; omega, ?_⟩
        rw [strIx1, wrap64 (by omega) (by omega)]
        refine st_blk b9 (by simp [cells4]) fun h3 s3 b3 e3 => ?_
        refine fin h3 ⟨1, (d.toNat : Int), 0, sE⟩ 2 (Or.inl ⟨l, rfl, by simp only [List.length_cons]; omega⟩) e3 ?_
        simpa [cells4] using b3
    rw [if_neg (fun e => c1 ((hi 1 1 rfl (by decide)).1 e))]
    have x9 : ¬ l.length < 8 → (ofBtl (c :: l)).extract (Int.toNat (1 : Int)) (Int.toNat (9 : Int)) = ofBtl (l.take 8) := fun _ => by rw [ex_mid]; rfl
    by_cases c2 : c = 2
    · rw [if_pos ((hi 2 2 rfl (by decide)).2 c2)]
      subst c2
      by_cases h8 : l.length < 8
      · rw [if_pos (by rw [ofBtl_size]; simp; omega)]
        refine badR ?_ h9 (Ext.refl _ _)
        have : rawL 2 l = none := by
          show (if l.length < 8 then none else _) = none
          rw [if_pos h8]
        rw [this]
        rfl
      · rw [if_neg (by rw [ofBtl_size]; simp; omega)]
        refine ⟨⟨by decide, by decide, by rw [ofBtl_size]; omega⟩, ?_⟩
        rw [x9 h8]
        refine NumberR_s _ (by rw [List.length_take]; omega) ⟨_, rfl, ?_⟩
        rw [xorN (num8_lt h8)]
        refine st_blk b9 (by simp [cells4]) fun h3 s3 b3 e3 => ?_
        refine fin h3 ⟨2, (numL (l.take 8) : Int) - 9223372036854775808, 0, sE⟩ 9 (Or.inl ⟨l.drop 8, ?_, by simp only [List.length_cons, List.length_drop]; omega⟩) e3 (by simpa [cells4] using b3)
        show (if l.length < 8 then none else _) = _
        rw [if_neg h8]
    rw [if_neg (fun e => c2 ((hi 2 2 rfl (by decide)).1 e))]
    by_cases c3 : c = 3
    · rw [if_pos ((hi 3 3 rfl (by decide)).2 c3)]
      subst c3
      by_cases h8 : l.length < 8
      · rw [if_pos (by rw [ofBtl_size]; simp; omega)]
        refine badR ?_ h9 (Ext.refl _ _)
        have : rawL 3 l = none := by
          show (if l.length < 8 then none else _) = none
          rw [if_pos h8]
        rw [this]
        rfl
      · rw [if_neg (by rw [ofBtl_size]; simp; omega)]
        refine ⟨⟨by decide, by decide, by rw [ofBtl_size]; omega⟩, ?_⟩
        rw [x9 h8]
        have hr : rawL 3 l = if isF (fromF (numL (l.take 8))) = true then some (⟨3, 0, fromF (numL (l.take 8)), sE⟩, l.drop 8) else none := by
          show (if l.length < 8 then none else _) = _
          rw [if_neg h8]
        refine NumberR_s _ (by rw [List.length_take]; omega) ⟨_, rfl, ?_⟩
        refine FromR_s _ (num8_lt h8) fun h3 e3 => ⟨_, _, rfl, ?_⟩
        refine newI fun h4 s4 b4 e4 => ?_
        refine st_blk b4 (by simp) fun h5 s5 b5 e5 => ?_
        have e95 : Ext [] h9 h5 := (e3.trans0 e4).trans e5 fun b hb hlt => by simp at hb; have := e3.sz; omega
        refine ⟨isF (fromF (numL (l.take 8))), by simp [rd_blk b5], ?_⟩
        cases hf : isF (fromF (numL (l.take 8))) with
        | false =>
          rw [if_pos (by rfl)]
          exact badR (by rw [hr, hf]; rfl) h5 (e95.mono (by simp))
        | true =>
          rw [if_neg (by decide)]
          rw [hf] at b5
          refine ⟨fromF (numL (l.take 8)), by simp [rd_blk b5], ?_⟩
          refine st_blk (e95.get b9 (by simp)) (by simp [cells4]) fun h6 s6 b6 e6 => ?_
          refine fin h6 ⟨3, 0, fromF (numL (l.take 8)), sE⟩ 9 (Or.inl ⟨l.drop 8, by rw [hr, hf]; rfl, by simp only [List.length_cons, List.length_drop]; omega⟩) (e95.mono (by simp) |>.trans e6 fun b hb _ => hb) (by simpa [cells4] using b6)
    rw [if_neg (fun e => c3 ((hi 3 3 rfl (by decide)).1 e))]
    by_cases c4 : c = 4
    · rw [if_pos ((hi 4 4 rfl (by decide)).2 c4)]
      subst c4
      refine ⟨⟨by decide, by rw [ofBtl_size]; omega⟩, ?_⟩
      rw [drop1]
      have hr : rawL 4 l = (textL l).map fun p => (⟨4, 0, 0, ofBtl p.1⟩, p.2) := rfl
      refine textR_s l hll fun h3 e3 => ⟨_, _, _, _, _, rfl, ?_⟩
      refine newI fun h4 s4 b4 e4 => ?_
      refine put5 b4 rfl (readT l).1 ((readT l).2 : Nat) fun h5 s5 b5 e5 => ?_
      have e95 : Ext [] h9 h5 := (e3.trans0 e4).trans e5 fun b hb hlt => by simp at hb; have := e3.sz; omega
      refine ⟨((readT l).2 : Nat), (rd5R b5).2.2.2.2, ?_⟩
      have hle3 := e3.sz
      cases hx : textL l with
      | none =>
        have hrt : readT l = (zV, 0) := by unfold readT; rw [hx]
        rw [hrt, if_pos (by rfl)]
        exact badR (by rw [hr, hx]; rfl) h5 (e95.mono (by simp))
      | some p =>
        have hp := textL_len (t := p.1) (r := p.2) hx
        have hrt : readT l = (⟨0, 0, 0, ofBtl p.1⟩, l.length - p.2.length) := by unfold readT; rw [hx]
        rw [hrt] at b5 ⊢
        rw [if_neg (by simp; omega)]
        refine ⟨ofBtl p.1, by rw [addr_add0]; exact (rd5R b5).2.2.2.1, ((l.length - p.2.length : Nat) : Int), (rd5R b5).2.2.2.2, ?_⟩
        refine st_blk (e95.get b9 (by simp)) (by simp [cells4]) fun h6 s6 b6 e6 => ?_
        have b56 := e6.get b5 (by simp; omega)
        refine ⟨(rd5R b56).2.2.2.2, ?_⟩
        have w : IntKind.wrap .i64 ((1 : Int) + ((l.length - p.2.length : Nat) : Int)) = ((1 + (l.length - p.2.length) : Nat) : Int) := by rw [wrap64 (by omega) (by omega)]; omega
        rw [w]
        refine fin h6 ⟨4, 0, 0, ofBtl p.1⟩ _ (Or.inl ⟨p.2, by rw [hr, hx]; rfl, by rw [hlen]; omega⟩) (e95.mono (by simp) |>.trans e6 fun b hb _ => hb) (by simpa [cells4] using b6)
    rw [if_neg (fun e => c4 ((hi 4 4 rfl (by decide)).1 e))]
    by_cases c0 : c = 0
    · subst c0
      exact fin h9 ⟨0, 0, 0, sE⟩ 1 (Or.inl ⟨l, rfl, by simp only [List.length_cons]; omega⟩) (Ext.refl _ _) b9
    refine fin h9 ⟨(c.toNat : Int), 0, 0, sE⟩ 1 (Or.inr ⟨by unfold rawL; rw [if_neg c0, if_neg c1, if_neg c2, if_neg c3, if_neg c4], good_five ?_⟩) (Ext.refl _ _) b9
    show 4 < (c.toNat : Int)
    have a0 : c.toNat ≠ 0 := fun e => c0 ((u8_iff (by decide)).2 e)
    have a1 : c.toNat ≠ 1 := fun e => c1 ((u8_iff (by decide)).2 e)
    have a2 : c.toNat ≠ 2 := fun e => c2 ((u8_iff (by decide)).2 e)
    have a3 : c.toNat ≠ 3 := fun e => c3 ((u8_iff (by decide)).2 e)
    have a4 : c.toNat ≠ 4 := fun e => c4 ((u8_iff (by decide)).2 e)
    omega
end
end Go.Lift

/- Keys are read, by the program: the value at the front. -/
import Derived.Test.YtgmnomkhmdeapaaDoorW03g
set_option linter.unusedSimpArgs false
set_option linter.unusedVariables false
namespace Go.Lift
open Go Go.Proofs Go.RowKit
set_option maxRecDepth 100000
def cells4 (v : V4) : Array Value := #[.int .i64 v.k, .int .i64 v.n, .float .f64 v.f, .string v.s]
def agg4 (v : V4) : Value := .agg (cells4 v)
def zV : V4 := ⟨0, 0, 0, sE⟩
section
variable {h : Hp} {Q : List Value → Hp → Prop}
theorem rdV {b : Nat} {v : V4} {T : TypeId} {K : Int → Int → Nat → ByteArray → Prop} (hb : Blk h b (cells4 v) T) (H : K v.k v.n v.f v.s) :
    ∃ n3 : Int, rd h (Addr.add (Addr.mk b 0 none) 0) = some (.int .i64 n3) ∧ ∃ n4 : Int, rd h (Addr.add (Addr.mk b 0 none) 1) = some (.int .i64 n4) ∧ ∃ x5 : Nat, rd h (Addr.add (Addr.mk b 0 none) 2) = some (.float .f64 x5) ∧ ∃ s6 : ByteArray, rd h (Addr.add (Addr.mk b 0 none) 3) = some (.string s6) ∧ K n3 n4 x5 s6 := by
  obtain ⟨r0, r1, r2, r3⟩ := rd4V hb
  exact ⟨_, r0, _, r1, _, r2, _, r3, H⟩
theorem put4 {b : Nat} {c : Array Value} {T : TypeId} (hb : Blk h b c T) (hc : c.size = 4) (v : V4) {K : Hp → Prop} (H : ∀ g, g.size = h.size → Blk g b (cells4 v) T → Ext [b] h g → K g) :
    stOk h (Addr.mk b 0 none) 4 ∧ wth (wrs h (Addr.mk b 0 none) 0 [.int .i64 v.k, .int .i64 v.n, .float .f64 v.f, .string v.s]) K := by
  refine st_blk hb (by omega) fun g s bg e => H g s ?_ e
  have : putAt c 0 [.int .i64 v.k, .int .i64 v.n, .float .f64 v.f, .string v.s] = cells4 v := by
    obtain ⟨l⟩ := c
    simp only [List.size_toArray] at hc
    obtain ⟨x, y, z, w, rfl⟩ := list4 hc
    simp [cells4]
  rwa [this] at bg
theorem outV {b : Nat} {c : Array Value} {T : TypeId} (hb : Blk h b c T) (hc : c.size = 4) (v : V4) {K : Int → Int → Nat → ByteArray → Hp → Prop} (H : ∀ g, Ext [b] h g → K v.k v.n v.f v.s g) :
    stOk h (Addr.mk b 0 none) 4 ∧ wth (wrs h (Addr.mk b 0 none) 0 [.int .i64 v.k, .int .i64 v.n, .float .f64 v.f, .string v.s]) fun g =>
    ∃ n3 : Int, rd g (Addr.add (Addr.mk b 0 none) 0) = some (.int .i64 n3) ∧ ∃ n4 : Int, rd g (Addr.add (Addr.mk b 0 none) 1) = some (.int .i64 n4) ∧ ∃ x5 : Nat, rd g (Addr.add (Addr.mk b 0 none) 2) = some (.float .f64 x5) ∧ ∃ s6 : ByteArray, rd g (Addr.add (Addr.mk b 0 none) 3) = some (.string s6) ∧ K n3 n4 x5 s6 g :=
  put4 hb hc v fun g _ bg e => rdV bg (K := fun a b c d => K a b c d g) (H g e)
def resF (o : Option (V4 × List UInt8)) : List Value := match o with | none => [agg4 zV, .string sE, .bool false] | some p => [agg4 p.1, .string (ofBtl p.2), .bool true]
theorem cons_size {c : UInt8} {l : List UInt8} : ((ofBtl (c :: l)).toList == (ByteArray.mk #[]).toList) = false := by
  rw [tl_ofBtl]
  have : (ByteArray.mk #[]).toList = [] := tl_ofBtl []
  rw [this]
  rfl
theorem nil_size : ((ofBtl []).toList == (ByteArray.mk #[]).toList) = true := by
  have : (ByteArray.mk #[]).toList = [] := tl_ofBtl []
  rw [tl_ofBtl, this]
  rfl
theorem pick_no {v : V4} {r : List UInt8} (h : goodX v = false) : pickL (some (v, r)) = none := by unfold pickL; simp [h]
theorem pick_yes {v : V4} {r : List UInt8} (h : goodX v = true) : pickL (some (v, r)) = some (v, r) := by unfold pickL; simp [h]
theorem strIx0 {c : UInt8} {l : List UInt8} : strIx (ofBtl (c :: l)) (0 : Int) = (c.toNat : Int) := strIxL (l := c :: l) (i := 0) (by simp)
theorem drop1 {c : UInt8} {l : List UInt8} : (ofBtl (c :: l)).extract (Int.toNat (1 : Int)) (ofBtl (c :: l)).size = ofBtl l := ex_drop (c :: l) 1
theorem xorN {u : Nat} (hu : u < 18446744073709551616) : IntKind.wrap .i64 (iXor .u64 (u : Int) 9223372036854775808) = (u : Int) - 9223372036854775808 := by
  rw [xor63 _ hu]
  simp only [IntKind.wrap, IntKind.bits, IntKind.signed]
  split <;> simp <;> split <;> omega
theorem u8_iff {c : UInt8} {k : Nat} (hk : k < 256) : c = UInt8.ofNat k ↔ c.toNat = k := by
  constructor
  · rintro rfl
    rw [UInt8.toNat_ofNat']
    omega
  · intro e
    rw [← e, UInt8.ofNat_toNat]
theorem good_five {v : V4} (hk : 4 < v.k) : goodX v = false := by
  cases h : goodX v with
  | false => rfl
  | true => have := good_k h; omega
theorem first_s (l : List UInt8) (hl : l.length ≤ 2 ^ 40) (hQ : ∀ h', Ext [] h h' → Q (resF (firstL l)) h') : S_key_first (ofBtl l) h Q := by
  refine O_key_first _ ?_
  unfold F_key_first
  refine newI fun h1 s1 b1 e1 => ?_
  cases l with
  | nil =>
    rw [if_pos nil_size]
    exact outV b1 rfl zV fun g e => hQ g (e1.trans e fun b hb hlt => by simp at hb; omega)
  | cons c l =>
    rw [if_neg (by rw [cons_size]; decide)]
    have hcl := c.toNat_lt
    have hll : l.length ≤ 2 ^ 40 := by rw [List.length_cons] at hl; omega
    refine ⟨by decide, by rw [ofBtl_size, List.length_cons]; omega, ⟨by decide, by rw [ofBtl_size, List.length_cons]; omega⟩, ?_⟩
    rw [strIx0, wrap64 (by omega) (by omega), drop1]
    refine st_blk b1 (by simp) fun h2 s2 b2 e2 => ?_
    have b2' : Blk h2 h.size (cells4 ⟨(c.toNat : Int), 0, 0, sE⟩) T_api_Value := by
      simpa [cells4] using b2
    clear b2
    have e02 : Ext [] h h2 := e1.trans e2 fun b hb hlt => by simp at hb; omega
    refine ⟨(c.toNat : Int), (rd4V b2').1, ?_⟩
    intro J hJ
    have hq : ∀ g, Ext [] h g → Q (resF (pickL (rawL c l))) g := hQ
    have bad : rawL c l = none → ∀ (g : Hp) (v : V4) (r : ByteArray), Ext [] h g → Blk g h.size (cells4 v) T_api_Value → J [.string r, .bool false] g := by
      intro hr g v r eg bg
      refine hJ _ _ _ ?_
      intro K hK
      rw [if_pos (by rfl)]
      refine hK _ _ ?_
      rw [if_pos rfl]
      refine outV bg rfl zV fun g2 e => ?_
      have := hq g2 (eg.trans e fun b hb hlt => by simp at hb; omega)
      rw [hr] at this
      exact this
    have ok : ∀ (g : Hp) (v : V4) (r : List UInt8), (rawL c l = some (v, r) ∨ rawL c l = none ∧ goodX v = false) → Ext [] h g → Blk g h.size (cells4 v) T_api_Value → J [.string (ofBtl r), .bool true] g := by
      intro g v r hr eg bg
      refine hJ _ _ _ ?_
      intro K hK
      rw [if_neg (by decide)]
      refine rdV bg (K := fun a b c d => S_value_Good a b c d g _) ?_
      refine GoodV_s _ _ _ _ fun g2 e2 => ⟨_, rfl, ?_⟩
      refine hK _ _ ?_
      have bg2 := e2.get bg (by simp)
      have eg2 := eg.trans0 e2
      show if (!goodX v) = true then _ else _
      cases hgd : goodX v with
      | false =>
        rw [if_pos (by rfl)]
        refine outV bg2 rfl zV fun g3 e => ?_
        have := hq g3 (eg2.trans e fun b hb hlt => by simp at hb; omega)
        rcases hr with hr | ⟨hr, _⟩
        · rw [hr, pick_no hgd] at this
          exact this
        · rw [hr] at this
          exact this
      | true =>
        rw [if_neg (by decide)]
        refine rdV bg2 (K := fun a b c d => stOk g2 _ 4 ∧ wth (wrs g2 _ 0 [.int .i64 a, .int .i64 b, .float .f64 c, .string d]) _) ?_
        refine outV bg2 rfl v fun g3 e => ?_
        have := hq g3 (eg2.trans e fun b hb hlt => by simp at hb; omega)
        rcases hr with hr | ⟨hr, hb⟩
        · rw [hr, pick_yes hgd] at this
          exact this
        · rw [hgd] at hb
          cases hb
    have hi : ∀ (k : Nat) (z : Int), z = (k : Int) → k < 256 → (((c.toNat : Int) == z) = true ↔ c = UInt8.ofNat k) := fun k z hz hk => by rw [u8_iff hk, hz, beq_iff_eq]; omega
    by_cases c0 : c = 0
    · rw [if_pos ((hi 0 0 rfl (by decide)).2 c0)]
      subst c0
      exact ok h2 _ l (Or.inl rfl) e02 b2'
    rw [if_neg (fun e => c0 ((hi 0 0 rfl (by decide)).1 e))]
    by_cases c1 : c = 1
    · rw [if_pos ((hi 1 1 rfl (by decide)).2 c1)]
      subst c1
      cases l with
      | nil =>
        rw [if_pos nil_size]
        exact outV b2' rfl zV fun g e => hQ g (e02.trans e fun b hb hlt => by simp at hb; omega)
      | cons d l =>
        have hdl := d.toNat_lt
        rw [if_neg (by rw [cons_size]; decide)]
        refine ⟨by decide, by rw [ofBtl_size, List.length_cons]; omega, ⟨by decide, by rw [ofBtl_size, List.length_cons]; omega⟩, ?_⟩
        rw [strIx0, wrap64 (by omega) (by omega), drop1]
        refine st_blk b2' (by simp [cells4]) fun h3 s3 b3 e3 => ?_
        refine ok h3 ⟨1, (d.toNat : Int), 0, sE⟩ l (Or.inl rfl) (e02.trans e3 fun b hb hlt => by simp at hb; omega) ?_
        simpa [cells4] using b3
    rw [if_neg (fun e => c1 ((hi 1 1 rfl (by decide)).1 e))]
    by_cases c2 : c = 2
    · rw [if_pos ((hi 2 2 rfl (by decide)).2 c2)]
      subst c2
      refine wide_s l ?_
      by_cases h8 : l.length < 8
      · rw [if_pos h8]
        refine ⟨_, _, _, rfl, ?_⟩
        refine st_blk b2' (by simp [cells4]) fun h3 s3 b3 e3 => ?_
        refine bad ?_ h3 ⟨2, IntKind.wrap .i64 (iXor .u64 (0 : Int) (9223372036854775808 : Int)), 0, sE⟩ _ (e02.trans e3 fun b hb hlt => by simp at hb; omega) (by simpa [cells4] using b3)
        show (if l.length < 8 then none else _) = none
        rw [if_pos h8]
      · rw [if_neg h8]
        refine ⟨_, _, _, rfl, ?_⟩
        rw [xorN (num8_lt h8)]
        refine st_blk b2' (by simp [cells4]) fun h3 s3 b3 e3 => ?_
        refine ok h3 ⟨2, (numL (l.take 8) : Int) - 9223372036854775808, 0, sE⟩ (l.drop 8) (Or.inl ?_) (e02.trans e3 fun b hb hlt => by simp at hb; omega) (by simpa [cells4] using b3)
        show (if l.length < 8 then none else _) = _
        rw [if_neg h8]
    rw [if_neg (fun e => c2 ((hi 2 2 rfl (by decide)).1 e))]
    by_cases c3 : c = 3
    · rw [if_pos ((hi 3 3 rfl (by decide)).2 c3)]
      subst c3
      refine wide_s l ?_
      by_cases h8 : l.length < 8
      · rw [if_pos h8]
        refine ⟨_, _, _, rfl, ?_⟩
        refine From_s 0 (by decide) ⟨_, _, rfl, ?_⟩
        rw [if_neg (by decide)]
        refine st_blk b2' (by simp [cells4]) fun h3 s3 b3 e3 => ?_
        refine bad ?_ h3 ⟨3, 0, if isF (fromF 0) = true then fromF 0 else 0, sE⟩ _ (e02.trans e3 fun b hb hlt => by simp at hb; omega) (by simpa [cells4] using b3)
        show (if l.length < 8 then none else _) = none
        rw [if_pos h8]
      · rw [if_neg h8]
        refine ⟨_, _, _, rfl, ?_⟩
        refine From_s _ (num8_lt h8) ⟨_, _, rfl, ?_⟩
        rw [if_pos rfl]
        refine st_blk b2' (by simp [cells4]) fun h3 s3 b3 e3 => ?_
        have hr : rawL 3 l = if isF (fromF (numL (l.take 8))) = true then some (⟨3, 0, fromF (numL (l.take 8)), sE⟩, l.drop 8) else none := by
          show (if l.length < 8 then none else _) = _
          rw [if_neg h8]
        cases hf : isF (fromF (numL (l.take 8))) with
        | false =>
          rw [hf] at b3
          refine bad (by rw [hr, hf]; rfl) h3 ⟨3, 0, 0, sE⟩ _ (e02.trans e3 fun b hb hlt => by simp at hb; omega) (by simpa [cells4] using b3)
        | true =>
          rw [hf] at b3
          refine ok h3 ⟨3, 0, fromF (numL (l.take 8)), sE⟩ (l.drop 8) (Or.inl (by rw [hr, hf]; rfl)) (e02.trans e3 fun b hb hlt => by simp at hb; omega) (by simpa [cells4] using b3)
    rw [if_neg (fun e => c3 ((hi 3 3 rfl (by decide)).1 e))]
    by_cases c4 : c = 4
    · rw [if_pos ((hi 4 4 rfl (by decide)).2 c4)]
      subst c4
      refine text0_s l hll fun h3 e3 => ?_
      have b3 := e3.get b2' (by simp)
      have e03 := e02.trans0 e3
      have hr : rawL 4 l = (textL l).map fun p => (⟨4, 0, 0, ofBtl p.1⟩, p.2) := rfl
      cases hx : textL l with
      | none =>
        refine ⟨_, _, _, rfl, ?_⟩
        refine st_blk b3 (by simp [cells4]) fun h4 s4 b4 e4 => ?_
        exact bad (by rw [hr, hx]; rfl) h4 ⟨4, 0, 0, sE⟩ _ (e03.trans e4 fun b hb hlt => by simp at hb; omega) (by simpa [cells4] using b4)
      | some p =>
        refine ⟨_, _, _, rfl, ?_⟩
        refine st_blk b3 (by simp [cells4]) fun h4 s4 b4 e4 => ?_
        exact ok h4 ⟨4, 0, 0, ofBtl p.1⟩ p.2 (Or.inl (by rw [hr, hx]; rfl)) (e03.trans e4 fun b hb hlt => by simp at hb; omega) (by simpa [cells4] using b4)
    rw [if_neg (fun e => c4 ((hi 4 4 rfl (by decide)).1 e))]
    refine ok h2 _ l (Or.inr ⟨by unfold rawL; rw [if_neg c0, if_neg c1, if_neg c2, if_neg c3, if_neg c4], good_five ?_⟩) e02 b2'
    show 4 < (c.toNat : Int)
    have a0 : c.toNat ≠ 0 := fun e => c0 ((u8_iff (by decide)).2 e)
    have a1 : c.toNat ≠ 1 := fun e => c1 ((u8_iff (by decide)).2 e)
    have a2 : c.toNat ≠ 2 := fun e => c2 ((u8_iff (by decide)).2 e)
    have a3 : c.toNat ≠ 3 := fun e => c3 ((u8_iff (by decide)).2 e)
    have a4 : c.toNat ≠ 4 := fun e => c4 ((u8_iff (by decide)).2 e)
    omega
end
end Go.Lift

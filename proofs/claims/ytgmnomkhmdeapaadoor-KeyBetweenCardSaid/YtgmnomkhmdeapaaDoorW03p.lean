/- KeyBegins: true, whatever the input. -/
import Derived.Test.YtgmnomkhmdeapaaDoorW03o
set_option linter.unusedSimpArgs false
set_option linter.unusedVariables false
namespace Go.Lift
open Go Go.Proofs Go.RowKit
set_option maxRecDepth 100000
theorem bl_pre (p x y : List UInt8) : Op.bytesLess (p ++ x) (p ++ y) = Op.bytesLess x y := by
  induction p with
  | nil => rfl
  | cons c p ih => simp [Op.bytesLess, ih]
theorem ne_take {l m : List UInt8} (h : ¬ l <+: m) : (m.take l.length == l) = false := by
  simp only [beq_eq_false_iff_ne, ne_eq]
  intro e
  exact h (e ▸ List.take_prefix _ _)
def sel4 (a b : V4) (i : Nat) : V4 := if i = 0 then a else b
def cellsP (a b : V4) : Array Value := #[.int .i64 a.k, .int .i64 a.n, .float .f64 a.f, .string a.s, .int .i64 b.k, .int .i64 b.n, .float .f64 b.f, .string b.s]
section
variable {h : Hp} {Q : List Value → Hp → Prop}
theorem rdA {b : Nat} {u v : V4} {T : TypeId} {i : Nat} {z : Int} {K : Int → Int → Nat → ByteArray → Prop} (hb : Blk h b (cellsP u v) T) (hz : z = (i : Int)) (hi : i < 2) (H : K (sel4 u v i).k (sel4 u v i).n (sel4 u v i).f (sel4 u v i).s) :
    ∃ n3 : Int, rd h (Addr.add (Addr.add (Addr.mk b 0 none) (Int.toNat z * 4)) 0) = some (.int .i64 n3) ∧ ∃ n4 : Int, rd h (Addr.add (Addr.add (Addr.mk b 0 none) (Int.toNat z * 4)) 1) = some (.int .i64 n4) ∧ ∃ x5 : Nat, rd h (Addr.add (Addr.add (Addr.mk b 0 none) (Int.toNat z * 4)) 2) = some (.float .f64 x5) ∧ ∃ s6 : ByteArray, rd h (Addr.add (Addr.add (Addr.mk b 0 none) (Int.toNat z * 4)) 3) = some (.string s6) ∧ K n3 n4 x5 s6 := by
  have r : ∀ j, rd h (Addr.add (Addr.add (Addr.mk b 0 none) (Int.toNat z * 4)) j) = (cellsP u v)[i * 4 + j]? := fun j => by rw [hz, Int.toNat_natCast, addr_mk, addr_mk, rd_blk hb, Nat.zero_add]
  rcases (by omega : i = 0 ∨ i = 1) with rfl | rfl
  · exact ⟨_, r 0, _, r 1, _, r 2, _, r 3, H⟩
  · exact ⟨_, r 0, _, r 1, _, r 2, _, r 3, H⟩
theorem rdS {b : Nat} {c : Array Value} {T : TypeId} {i : Nat} {z : Int} {s : ByteArray} (hb : Blk h b c T) (hz : z = (i : Int)) (hc : c[i]? = some (.string s)) : rd h (Addr.add (Addr.mk b 0 none) (Int.toNat z * 1)) = some (.string s) := by
  rw [hz, Int.toNat_natCast, addr_mk, rd_blk hb, Nat.zero_add, Nat.mul_one, hc]
theorem encX_ne {v : V4} : ((ofBtl (encX v)).toList == (ByteArray.mk #[]).toList) = false := by
  unfold encX
  exact cons_size
theorem KeyBegins_s (a0 a1 b0 b1 : V4) (ha0 : VOk a0) (ha1 : VOk a1) (hb0 : VOk b0) (hb1 : VOk b1) (hg : GM h) (hQ : ∀ h', Ext [] h h' → Q [.bool true] h') :
    F_liverylaw03_KeyBegins a0.k a0.n a0.f a0.s a1.k a1.n a1.f a1.s b0.k b0.n b0.f b0.s b1.k b1.n b1.f b1.s h Q := by
  unfold F_liverylaw03_KeyBegins
  refine newI fun h1 s1 p1 e1 => newI fun h2 s2 p2 e2 => newI fun h3 s3 p3 e3 => newI fun h4 s4 p4 e4 => ?_
  have q1 : Blk h4 h.size (cellsP a0 a1) T_2_api_Value := e4.get (e3.get (e2.get p1 (by simp)) (by simp)) (by simp)
  have q2 : Blk h4 h1.size (cellsP b0 b1) T_2_api_Value := e4.get (e3.get p2 (by simp)) (by simp)
  have q3 := e4.get p3 (by simp)
  have e04 := ((e1.trans0 e2).trans0 e3).trans0 e4
  intro X hX
  have oka : ∀ i, VOk (sel4 a0 a1 i) := fun i => by unfold sel4; split <;> assumption
  have okb : ∀ i, VOk (sel4 b0 b1 i) := fun i => by unfold sel4; split <;> assumption
  have key : ∀ (d i : Nat) (g : Hp) (c e : Array Value), d + i = 2 → Ext [] h g → Blk g h.size (cellsP a0 a1) T_2_api_Value → Blk g h1.size (cellsP b0 b1) T_2_api_Value → Blk g h2.size c T_2_string → Blk g h3.size e T_2_string → c.size = 2 → e.size = 2 →
      (∀ j, j < i → goodX (sel4 a0 a1 j) = true ∧ goodX (sel4 b0 b1 j) = true ∧ c[j]? = some (.string (ofBtl (encX (sel4 a0 a1 j)))) ∧ e[j]? = some (.string (ofBtl (encX (sel4 b0 b1 j))))) → X [.int .i64 (i : Int)] g := by
    intro d
    induction d with
    | zero =>
      intro i g c e hi eg r1 r2 r3 r4 hc he hd
      have : i = 2 := by omega
      subst this
      obtain ⟨ga0, gb0, x0, y0⟩ := hd 0 (by omega)
      obtain ⟨ga1, gb1, x1, y1⟩ := hd 1 (by omega)
      have ga0 : goodX a0 = true := ga0
      have gb0 : goodX b0 = true := gb0
      have ga1 : goodX a1 = true := ga1
      have gb1 : goodX b1 = true := gb1
      have x0 : c[0]? = some (.string (ofBtl (encX a0))) := x0
      have y0 : e[0]? = some (.string (ofBtl (encX b0))) := y0
      have x1 : c[1]? = some (.string (ofBtl (encX a1))) := x1
      have y1 : e[1]? = some (.string (ofBtl (encX b1))) := y1
      have la0 := encX_len ga0
      have la1 := encX_len ga1
      have lb0 := encX_len gb0
      have lb1 := encX_len gb1
      refine hX _ _ ?_
      rw [if_neg (by decide)]
      refine ⟨by decide, by decide, rdA r1 (i := 0) rfl (by omega) ⟨by decide, by decide, rdA r2 (i := 0) rfl (by omega) ?_⟩⟩
      refine CmpV_s a0 b0 fun g1 f1 => ⟨_, rfl, ?_⟩
      have eg1 := eg.trans0 f1
      have r1' := f1.get r1 (by simp)
      have r2' := f1.get r2 (by simp)
      have r3' := f1.get r3 (by simp)
      have r4' := f1.get r4 (by simp)
      intro J hJ
      have go : (cmpV a0 b0 = 0 → Op.bytesLess (encX a0 ++ encX a1) (encX b0 ++ encX b1) = decide (cmpV a1 b1 < 0)) → (cmpV a0 b0 ≠ 0 → Op.bytesLess (encX a0 ++ encX a1) (encX b0 ++ encX b1) = decide (cmpV a0 b0 < 0)) → J [.bool false] g1 := by
        intro g0 gn
        refine hJ _ _ ?_
        rw [if_neg (by decide)]
        intro K hK
        have fin : ∀ (n : Int) (g2 : Hp), Ext [] g1 g2 → Op.bytesLess (encX a0 ++ encX a1) (encX b0 ++ encX b1) = decide (n < 0) → K [.int .i64 n] g2 := by
          intro n g2 f2 hn
          refine hK _ _ ?_
          refine ⟨by decide, by decide, ofBtl (encX a0), rdS (f2.get r3' (by simp)) (i := 0) rfl x0, by decide, by decide, ofBtl (encX a1), rdS (f2.get r3' (by simp)) (i := 1) rfl x1, ?_⟩
          refine cat_ok (by rw [ofBtl_size, ofBtl_size]; omega) ?_
          refine ⟨by decide, by decide, ofBtl (encX b0), rdS (f2.get r4' (by simp)) (i := 0) rfl y0, by decide, by decide, ofBtl (encX b1), rdS (f2.get r4' (by simp)) (i := 1) rfl y1, ?_⟩
          refine cat_ok (by rw [ofBtl_size, ofBtl_size]; omega) ?_
          rw [ofBtl_app, ofBtl_app, tl_ofBtl, tl_ofBtl, hn, if_pos (by simp)]
          exact wakes_s (hg.ext (eg1.trans0 f2)) fun h' e => ⟨_, rfl, hQ h' ((eg1.trans0 f2).trans0 e)⟩
        by_cases hc0 : cmpV a0 b0 = 0
        · rw [if_pos (by simp [hc0])]
          refine ⟨by decide, by decide, rdA r1' (i := 1) rfl (by omega) ⟨by decide, by decide, rdA r2' (i := 1) rfl (by omega) ?_⟩⟩
          refine CmpV_s a1 b1 fun g2 f2 => ⟨_, rfl, ?_⟩
          exact fin _ g2 f2 (g0 hc0)
        · rw [if_neg (by simp [hc0])]
          exact fin _ g1 (Ext.refl _ _) (gn hc0)
      have rx : rd g1 (Addr.add (Addr.mk h2.size 0 none) (Int.toNat 0 * 1)) = some (.string (ofBtl (encX a0))) := rdS r3' (i := 0) rfl x0
      have ry : rd g1 (Addr.add (Addr.mk h3.size 0 none) (Int.toNat 0 * 1)) = some (.string (ofBtl (encX b0))) := rdS r4' (i := 0) rfl y0
      have tri := enc_tri ha0 hb0 ga0 gb0
      have apart : cmpV a0 b0 ≠ 0 → ¬ encX a0 <+: encX b0 ∧ ¬ encX b0 <+: encX a0 := by
        intro hne
        rcases tri with ⟨_, h2⟩ | ⟨h1, _⟩ | ⟨_, h2⟩
        · exact h2.npre
        · exact absurd h1 hne
        · exact ⟨h2.npre.2, h2.npre.1⟩
      have go' : J [.bool false] g1 := by
        refine go ?_ ?_
        · intro h0
          rcases tri with ⟨h1, _⟩ | ⟨_, h2⟩ | ⟨h1, _⟩
          · omega
          · rw [h2, bl_pre]
            exact ord_lt ha1 hb1 ga1 gb1
          · omega
        · intro h0
          rcases tri with ⟨h1, h2⟩ | ⟨h1, _⟩ | ⟨h1, h2⟩
          · rw [bl_part (h2.app _ _), decide_eq_true h1]
          · omega
          · rw [bl_npart (h2.app _ _), decide_eq_false (by omega)]
      have ext : ∀ (l m : List UInt8), ((ofBtl m).extract 0 (Int.toNat ((ofBtl l).size : Int))).toList = m.take l.length := fun l m => by
        rw [ofBtl_size, Int.toNat_natCast, ex_mid, tl_ofBtl, List.drop_zero, Nat.sub_zero]
      have second : cmpV a0 b0 ≠ 0 → ixOk 0 2 (∃ s94 : ByteArray, rd g1 (Addr.add (Addr.mk (Array.size h3) 0 none) (Int.toNat (0 : Int) * 1)) = some (Value.string s94) ∧
          ixOk (0 : Int) 2 (∃ s95 : ByteArray, rd g1 (Addr.add (Addr.mk (Array.size h2) 0 none) (Int.toNat (0 : Int) * 1)) = some (Value.string s95) ∧
            (if (decide ((ByteArray.size s94 : Int) ≤ (ByteArray.size s95 : Int))) = true then (ixOk (0 : Int) 2 (∃ s96 : ByteArray, rd g1 (Addr.add (Addr.mk (Array.size h2) 0 none) (Int.toNat (0 : Int) * 1)) = some (Value.string s96) ∧
                  ixOk (0 : Int) 2 (∃ s97 : ByteArray, rd g1 (Addr.add (Addr.mk (Array.size h3) 0 none) (Int.toNat (0 : Int) * 1)) = some (Value.string s97) ∧
                    (0 ≤ (ByteArray.size s97 : Int) ∧ (ByteArray.size s97 : Int) ≤ ((ByteArray.size s96) : Nat)) ∧ ixOk (0 : Int) 2 (∃ s98 : ByteArray, rd g1 (Addr.add (Addr.mk (Array.size h3) 0 none) (Int.toNat (0 : Int) * 1)) = some (Value.string s98) ∧
                      J [(Value.bool ((ByteArray.toList (ByteArray.extract s96 0 (Int.toNat (ByteArray.size s97 : Int)))) == (ByteArray.toList s98)))] g1)))) else
              (J [(Value.bool false)] g1)))) := by
        intro hne
        refine ⟨by decide, by decide, _, ry, by decide, by decide, _, rx, ?_⟩
        by_cases hl : (encX b0).length ≤ (encX a0).length
        · rw [if_pos (by rw [ofBtl_size, ofBtl_size]; simp; omega)]
          refine ⟨by decide, by decide, _, rx, by decide, by decide, _, ry, ⟨by omega, by rw [ofBtl_size, ofBtl_size]; omega⟩, by decide, by decide, _, ry, ?_⟩
          rw [ext, tl_ofBtl, ne_take (apart hne).2]
          exact go'
        · rw [if_neg (by rw [ofBtl_size, ofBtl_size]; simp; omega)]
          exact go'
      by_cases hc0 : cmpV a0 b0 = 0
      · rw [if_neg (by simp [hc0])]
        exact go'
      · rw [if_pos (by simp [hc0])]
        refine ⟨by decide, by decide, _, rx, by decide, by decide, _, ry, ?_⟩
        by_cases hl : (encX a0).length ≤ (encX b0).length
        · rw [if_pos (by rw [ofBtl_size, ofBtl_size]; simp; omega)]
          refine ⟨by decide, by decide, _, ry, by decide, by decide, _, rx, ⟨by omega, by rw [ofBtl_size, ofBtl_size]; omega⟩, by decide, by decide, _, rx, ?_⟩
          rw [ext, tl_ofBtl, if_neg (by rw [ne_take (apart hc0).1]; simp)]
          exact second hc0
        · rw [if_neg (by rw [ofBtl_size, ofBtl_size]; simp; omega)]
          exact second hc0
    | succ d ih =>
      intro i g c e hi eg r1 r2 r3 r4 hc he hd
      have hi2 : i < 2 := by omega
      refine hX _ _ ?_
      rw [if_pos (by simp; omega)]
      intro J hJ
      have wk : ∀ g1, Ext [] g g1 → J [.bool true] g1 := fun g1 f1 => by
        refine hJ _ _ ?_
        rw [if_pos rfl]
        exact wakes_s (hg.ext (eg.trans0 f1)) fun h' e => ⟨_, rfl, hQ h' ((eg.trans0 f1).trans0 e)⟩
      have ix : (0 : Int) ≤ (i : Int) ∧ (i : Int) < ((2 : Nat) : Int) := by omega
      refine ⟨ix.1, ix.2, rdA r1 (i := i) rfl hi2 ?_⟩
      refine GoodR_s (sel4 a0 a1 i) fun g1 f1 => ⟨_, rfl, ?_⟩
      cases ga : goodX (sel4 a0 a1 i) with
      | false => rw [if_pos (by rfl)]; exact wk g1 f1
      | true =>
        rw [if_neg (by decide)]
        refine ⟨ix.1, ix.2, rdA (f1.get r2 (by simp)) (i := i) rfl hi2 ?_⟩
        refine GoodR_s (sel4 b0 b1 i) fun g2 f2 => ⟨_, rfl, ?_⟩
        have f02 := f1.trans0 f2
        cases gb : goodX (sel4 b0 b1 i) with
        | false => exact wk g2 f02
        | true =>
          refine hJ _ _ ?_
          rw [if_neg (by decide)]
          refine ⟨ix.1, ix.2, rdA (f02.get r1 (by simp)) (i := i) rfl hi2 ?_⟩
          refine Of_s _ (oka i) (hg.ext (eg.trans0 f02)) fun g3 f3 => ⟨_, _, rfl, ?_⟩
          have f03 := f02.trans0 f3
          refine ⟨ix.1, ix.2, rdA (f03.get r2 (by simp)) (i := i) rfl hi2 ?_⟩
          refine Of_s _ (okb i) (hg.ext (eg.trans0 f03)) fun g4 f4 => ⟨_, _, rfl, ?_⟩
          have f04 := f03.trans0 f4
          rw [ofP_good ga, ofP_good gb]
          intro K hK
          rw [if_neg (by simp), if_neg (by simp), if_neg (by rw [encX_ne]; simp)]
          rw [encX_ne]
          refine hK _ _ ?_
          rw [if_neg (by decide)]
          have c1 := f04.get r3 (by simp)
          have c2 := f04.get r4 (by simp)
          simp only [Int.toNat_natCast, addr_mk, Nat.zero_add, Nat.mul_one]
          refine ⟨ix.1, ix.2, ?_⟩
          refine st_blk c1 (by omega) fun g5 s5 c5 f5 => ?_
          refine ⟨ix.1, ix.2, ?_⟩
          refine st_blk (f5.get c2 (by simp; omega)) (by omega) fun g6 s6 c6 f6 => ?_
          rw [wrap64 (by omega) (by omega)]
          have z1 : h1.size = h.size + 1 := s1
          have z2 : h2.size = h1.size + 1 := s2
          have z3 : h3.size = h2.size + 1 := s3
          have n1 : ∀ {b : Nat} {cc : Array Value} {T : TypeId}, b < h2.size → Blk g b cc T → Blk g6 b cc T := fun hb hbk => f6.get (f5.get (f04.get hbk (by simp)) (by simp; omega)) (by simp; omega)
          refine ih (i + 1) g6 _ _ (by omega) (((eg.trans0 f04).trans f5 fun b hb hlt => by simp at hb; omega).trans f6 fun b hb hlt => by simp at hb; omega) (n1 (by omega) r1) (n1 (by omega) r2) (f6.get c5 (by simp; omega)) c6 (by rw [putAt_size]; exact hc) (by rw [putAt_size]; exact he) ?_
          intro j hj
          rw [putAt_get0 _ _ _ _ (by simp; omega), putAt_get0 _ _ _ _ (by simp; omega)]
          by_cases hji : j = i
          · subst hji
            refine ⟨ga, gb, ?_, ?_⟩ <;> (rw [if_pos (by simp)]; simp)
          · rw [if_neg (by simp; omega), if_neg (by simp; omega)]
            exact hd j (by omega)
  exact key 2 0 h4 _ _ rfl e04 q1 q2 q3 p4 rfl rfl fun j hj => by omega
end
end Go.Lift

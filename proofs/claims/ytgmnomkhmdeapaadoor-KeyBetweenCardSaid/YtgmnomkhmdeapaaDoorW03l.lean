/- Keys are read, by the reference: a key's value; an entry's. -/
import Derived.Test.YtgmnomkhmdeapaaDoorW03k
set_option linter.unusedSimpArgs false
set_option linter.unusedVariables false
namespace Go.Lift
open Go Go.Proofs Go.RowKit
set_option maxRecDepth 100000
section
variable {h : Hp} {Q : List Value → Hp → Prop}
theorem getD_app (a b : List UInt8) (i : Nat) : (a ++ b).getD (a.length + i) 0 = b.getD i 0 := by
  rw [List.getD_eq_getElem?_getD, List.getD_eq_getElem?_getD, List.getElem?_append_right (by omega), Nat.add_sub_cancel_left]
theorem readL_none {l : List UInt8} (h : firstL l = none) : readL l = (zV, 0) := by unfold readL; rw [h]
theorem readL_some {l : List UInt8} {p : V4 × List UInt8} (h : firstL l = some p) : readL l = (p.1, l.length - p.2.length) := by unfold readL; rw [h]
theorem ValueR_s (l : List UInt8) (hl : l.length ≤ 2 ^ 30) (hQ : ∀ h', Ext [] h h' → Q [agg4 (valP l).1, .int .i64 (valP l).2] h') : S_liveryref03_Value (ofBtl l) h Q := by
  refine O_liveryref03_Value _ ?_
  unfold F_liveryref03_Value
  refine newI fun h1 s1 b1 e1 => ?_
  refine read_s l hl fun h3 e3 => ⟨_, _, _, _, _, rfl, ?_⟩
  have b3 : Blk h3 h.size (cells4 zV) T_api_Value := e3.get b1 (by simp)
  have hlt := blk_lt b3
  refine newI fun h4 s4 b4 e4 => ?_
  refine put5 b4 rfl (readL l).1 ((readL l).2 : Nat) fun h5 s5 b5 e5 => ?_
  have e05 : Ext [] h h5 := ((e1.trans0 e3).trans0 e4).trans e5 fun b hb hlt => by simp at hb; omega
  have b35 := e5.get (e4.get b3 (by simp)) (by simp; omega)
  intro J hJ
  obtain ⟨r0, r1, r2, r3, r4⟩ := rd5R b5
  refine ⟨_, r4, ?_⟩
  unfold valP at hQ
  have bad : (∀ h', Ext [] h h' → Q [agg4 zV, .int .i64 11] h') → J [.bool true] h5 := fun hq => by
    refine hJ _ _ ?_
    rw [if_pos rfl]
    exact outV b35 rfl zV fun g e => hq g (e05.trans e fun b hb hlt => by simp at hb; omega)
  cases hf : firstL l with
  | none =>
    rw [hf] at hQ
    rw [readL_none hf, if_pos (by rfl)]
    exact bad hQ
  | some p =>
    rw [hf] at hQ
    have hpl := firstL_len (r := p.2) (v := p.1) hf
    rw [readL_some hf, if_neg (by simp; omega)]
    refine ⟨_, by rw [r4, readL_some hf], ?_⟩
    rw [ofBtl_size]
    by_cases hr : p.2.length = 0
    · have e : (((l.length - p.2.length : Nat) : Int) != (l.length : Int)) = false := by rw [hr]; simp
      rw [e]
      refine hJ _ _ ?_
      rw [if_neg (by decide)]
      have hq : ∀ h', Ext [] h h' → Q [agg4 p.1, .int .i64 0] h' := fun h' e => by
        have := hQ h' e
        simp only [hr, if_true] at this
        exact this
      rw [readL_some hf] at r0 r1 r2 r3
      refine ⟨_, by rw [addr_add0]; exact r0, _, by rw [addr_add0]; exact r1, _, by rw [addr_add0]; exact r2, _, by rw [addr_add0]; exact r3, ?_⟩
      exact outV b35 rfl p.1 fun g e => hq g (e05.trans e fun b hb hlt => by simp at hb; omega)
    · have e : (((l.length - p.2.length : Nat) : Int) != (l.length : Int)) = true := by simp; omega
      rw [e]
      refine bad fun h' e => ?_
      have := hQ h' e
      simp only [hr, if_false] at this
      exact this
theorem SplitR_s (l : List UInt8) (hl : l.length ≤ 2 ^ 30) (hQ : ∀ h', Ext [] h h' → Q [agg5 (splitP l).1 (splitP l).2.1, .int .i64 (splitP l).2.2] h') : S_liveryref03_Split (ofBtl l) h Q := by
  refine O_liveryref03_Split _ ?_
  unfold F_liveryref03_Split
  refine newI fun h1 s1 b1 e1 => ?_
  refine read_s l hl fun h3 e3 => ⟨_, _, _, _, _, rfl, ?_⟩
  have b3 : Blk h3 h.size (cells5 zV 0) T_liveryref03_Got := e3.get b1 (by simp)
  have hlt := blk_lt b3
  refine newI fun h4 s4 b4 e4 => ?_
  refine put5 b4 rfl (readL l).1 ((readL l).2 : Nat) fun h5 s5 b5 e5 => ?_
  have e05 : Ext [] h h5 := ((e1.trans0 e3).trans0 e4).trans e5 fun b hb hlt => by simp at hb; omega
  have b35 := e5.get (e4.get b3 (by simp)) (by simp; omega)
  intro J hJ
  obtain ⟨r0, r1, r2, r3, r4⟩ := rd5R b5
  refine ⟨_, r4, ?_⟩
  unfold splitP at hQ
  have bad : (∀ h', Ext [] h h' → Q [agg5 zV 0, .int .i64 11] h') → J [.bool true] h5 := fun hq => by
    refine hJ _ _ ?_
    rw [if_pos rfl]
    exact outR b35 rfl zV 0 fun g e => hq g (e05.trans e fun b hb hlt => by simp at hb; omega)
  cases hf : firstL l with
  | none =>
    rw [hf] at hQ
    rw [readL_none hf, if_pos (by rfl)]
    exact bad hQ
  | some p =>
    rw [hf] at hQ
    have hpl := firstL_len (r := p.2) (v := p.1) hf
    rw [readL_some hf, if_neg (by simp; omega)]
    refine ⟨_, by rw [r4, readL_some hf], ?_⟩
    have w2 : IntKind.wrap .i64 (((l.length - p.2.length : Nat) : Int) + 2) = ((l.length - p.2.length + 2 : Nat) : Int) := by rw [wrap64 (by omega) (by omega)]; omega
    rw [ofBtl_size, w2]
    by_cases hr : p.2.length = 2
    · have e : (((l.length - p.2.length + 2 : Nat) : Int) != (l.length : Int)) = false := by simp; omega
      rw [e]
      refine hJ _ _ ?_
      rw [if_neg (by decide)]
      have hq : ∀ h', Ext [] h h' → Q [agg5 p.1 (twoL p.2), .int .i64 0] h' := fun h' e => by
        have := hQ h' e
        simp only [hr, if_true] at this
        exact this
      rw [readL_some hf] at r0 r1 r2 r3 r4
      refine ⟨_, by rw [addr_add0]; exact r0, _, by rw [addr_add0]; exact r1, _, by rw [addr_add0]; exact r2, _, by rw [addr_add0]; exact r3, _, r4, ?_⟩
      have hll := firstL_enc (r := p.2) (v := p.1) hf
      have hel : l.length = (encX p.1).length + p.2.length := by rw [← List.length_append, ← hll]
      have es : l.length - p.2.length = (encX p.1).length := by omega
      simp only [es] at r4 ⊢
      have w1 : IntKind.wrap .i64 (((encX p.1).length : Int) + 1) = (((encX p.1).length + 1 : Nat) : Int) := by rw [wrap64 (by omega) (by omega)]; rfl
      refine ⟨by omega, by rw [ofBtl_size]; omega, _, r4, ?_⟩
      rw [w1]
      refine ⟨by omega, by rw [ofBtl_size]; omega, ?_⟩
      have i0 : strIx (ofBtl l) (((encX p.1).length : Nat) : Int) = (((p.2.getD 0 0).toNat : Nat) : Int) := by
        have := getD_app (encX p.1) p.2 0
        rw [← hll, Nat.add_zero] at this
        rw [strIxD (by omega), this]
      have i1 : strIx (ofBtl l) (((encX p.1).length + 1 : Nat) : Int) = (((p.2.getD 1 0).toNat : Nat) : Int) := by
        have := getD_app (encX p.1) p.2 1
        rw [← hll] at this
        rw [strIxD (by omega), this]
      have c0 := (p.2.getD 0 0).toNat_lt
      have c1 := (p.2.getD 1 0).toNat_lt
      rw [i0, i1, wrap64 (x := (((p.2.getD 0 0).toNat : Nat) : Int)) (by omega) (by omega), wrap64 (x := (((p.2.getD 1 0).toNat : Nat) : Int)) (by omega) (by omega), wrap64 (x := (((p.2.getD 0 0).toNat : Nat) : Int) * 256) (by omega) (by omega), wrap64 (by omega) (by omega)]
      have et : (((p.2.getD 0 0).toNat : Nat) : Int) * 256 + (((p.2.getD 1 0).toNat : Nat) : Int) = twoL p.2 := by unfold twoL; omega
      rw [et]
      exact outR b35 rfl p.1 (twoL p.2) fun g e => hq g (e05.trans e fun b hb hlt => by simp at hb; omega)
    · have e : (((l.length - p.2.length + 2 : Nat) : Int) != (l.length : Int)) = true := by simp; omega
      rw [e]
      refine bad fun h' e => ?_
      have := hQ h' e
      simp only [hr, if_false] at this
      exact this
end
end Go.Lift

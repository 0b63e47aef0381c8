/- Keys are read, by the program: a key's value; an entry's. -/
import Derived.Test.YtgmnomkhmdeapaaDoorW03h
set_option linter.unusedSimpArgs false
set_option linter.unusedVariables false
namespace Go.Lift
open Go Go.Proofs Go.RowKit
set_option maxRecDepth 100000
def valP (l : List UInt8) : V4 × Int := match firstL l with | none => (zV, 11) | some p => if p.2.length = 0 then (p.1, 0) else (zV, 11)
def twoL (r : List UInt8) : Int := ((r.getD 0 0).toNat * 256 + (r.getD 1 0).toNat : Nat)
def splitP (l : List UInt8) : V4 × Int × Int := match firstL l with | none => (zV, 0, 11) | some p => if p.2.length = 2 then (p.1, twoL p.2, 0) else (zV, 0, 11)
theorem len_zero {r : List UInt8} : ((ofBtl r).toList == (ByteArray.mk #[]).toList) = decide (r.length = 0) := by
  cases r with
  | nil => exact nil_size
  | cons c r => rw [cons_size]; rfl
theorem strIxD {l : List UInt8} {i : Nat} (hi : i < l.length) : strIx (ofBtl l) (i : Int) = (((l.getD i 0).toNat : Nat) : Int) := by
  rw [strIxL hi, getD_of (List.getElem?_eq_getElem hi)]
section
variable {h : Hp} {Q : List Value → Hp → Prop}
theorem Value_s (l : List UInt8) (hl : l.length ≤ 2 ^ 40) (hQ : ∀ h', Ext [] h h' → Q [agg4 (valP l).1, .int .i64 (valP l).2] h') : S_key_Value (ofBtl l) h Q := by
  refine O_key_Value _ ?_
  unfold F_key_Value
  refine newI fun h1 s1 b1 e1 => ?_
  refine first_s l hl fun h3 e3 => ?_
  have b3 := e3.get b1 (by simp)
  have e03 := e1.trans0 e3
  unfold valP at hQ
  have main : ∀ (v : V4) (r : List UInt8) (ok : Bool) (K : V4 × Int), (K = if ok = true ∧ r.length = 0 then (v, 0) else (zV, 11)) → (∀ h', Ext [] h h' → Q [agg4 K.1, .int .i64 K.2] h') →
      wth (Array.push h3 (Obj.cells (cells4 zV) T_api_Value)) fun h10 =>
      stOk h10 (Addr.mk (Array.size h3) 0 none) 4 ∧ wth (wrs h10 (Addr.mk (Array.size h3) 0 none) 0 [(Value.int .i64 v.k), (Value.int .i64 v.n), (Value.float .f64 v.f), (Value.string v.s)]) fun h11 =>
      ∀ J12 : List Value → Hp → Prop, (∀ b13 : Bool, ∀ h14 : Hp, ((if b13 = true then
        (stOk h14 (Addr.mk (Array.size h) 0 none) 4 ∧ wth (wrs h14 (Addr.mk (Array.size h) 0 none) 0 [(Value.int .i64 (0 : Int)), (Value.int .i64 (0 : Int)), (Value.float .f64 0), (Value.string (ByteArray.mk #[]))]) fun h15 =>
          ∃ n16 : Int, rd h15 (Addr.add (Addr.mk (Array.size h) 0 none) 0) = some (Value.int .i64 n16) ∧ ∃ n17 : Int, rd h15 (Addr.add (Addr.mk (Array.size h) 0 none) 1) = some (Value.int .i64 n17) ∧ ∃ x18 : Nat, rd h15 (Addr.add (Addr.mk (Array.size h) 0 none) 2) = some (Value.float .f64 x18) ∧ ∃ s19 : ByteArray, rd h15 (Addr.add (Addr.mk (Array.size h) 0 none) 3) = some (Value.string s19) ∧ Q [(Value.agg #[(Value.int .i64 n16), (Value.int .i64 n17), (Value.float .f64 x18), (Value.string s19)]), (Value.int .i64 (11 : Int))] h15) else
        (∃ n20 : Int, rd h14 (Addr.add (Addr.mk (Array.size h3) 0 none) 0) = some (Value.int .i64 n20) ∧ ∃ n21 : Int, rd h14 (Addr.add (Addr.mk (Array.size h3) 0 none) 1) = some (Value.int .i64 n21) ∧ ∃ x22 : Nat, rd h14 (Addr.add (Addr.mk (Array.size h3) 0 none) 2) = some (Value.float .f64 x22) ∧ ∃ s23 : ByteArray, rd h14 (Addr.add (Addr.mk (Array.size h3) 0 none) 3) = some (Value.string s23) ∧ stOk h14 (Addr.mk (Array.size h) 0 none) 4 ∧ wth (wrs h14 (Addr.mk (Array.size h) 0 none) 0 [(Value.int .i64 n20), (Value.int .i64 n21), (Value.float .f64 x22), (Value.string s23)]) fun h24 =>
          ∃ n25 : Int, rd h24 (Addr.add (Addr.mk (Array.size h) 0 none) 0) = some (Value.int .i64 n25) ∧ ∃ n26 : Int, rd h24 (Addr.add (Addr.mk (Array.size h) 0 none) 1) = some (Value.int .i64 n26) ∧ ∃ x27 : Nat, rd h24 (Addr.add (Addr.mk (Array.size h) 0 none) 2) = some (Value.float .f64 x27) ∧ ∃ s28 : ByteArray, rd h24 (Addr.add (Addr.mk (Array.size h) 0 none) 3) = some (Value.string s28) ∧ Q [(Value.agg #[(Value.int .i64 n25), (Value.int .i64 n26), (Value.float .f64 x27), (Value.string s28)]), (Value.int .i64 (0 : Int))] h24))) → J12 [(Value.bool b13)] h14) →
      (if (!ok) = true then (J12 [(Value.bool true)] h11) else
        (J12 [(Value.bool (!((ByteArray.toList (ofBtl r)) == (ByteArray.toList (ByteArray.mk #[])))))] h11)) := by
    intro v r ok K hK hq
    refine newI fun h4 s4 b4 e4 => put4 b4 rfl v fun h5 s5 b5 e5 => ?_
    have hlt := blk_lt b1
    have hlt3 := blk_lt b3
    have c5 : Blk h5 h.size (cells4 zV) T_api_Value := e5.get (e4.get b3 (by simp)) (by simp; omega)
    have e05 : Ext [] h h5 := (e03.trans0 e4).trans e5 fun b hb hlt => by simp at hb; have := e03.sz; omega
    intro J hJ
    have no : ¬ (ok = true ∧ r.length = 0) → J [.bool true] h5 := fun hno => by
      refine hJ _ _ ?_
      rw [if_pos rfl]
      rw [if_neg hno] at hK
      subst hK
      exact outV c5 rfl zV fun g e => hq g (e05.trans e fun b hb hlt => by simp at hb; omega)
    cases ok with
    | false =>
      rw [if_pos (by rfl)]
      exact no (by simp)
    | true =>
      rw [if_neg (by decide), len_zero]
      by_cases hr : r.length = 0
      · rw [decide_eq_true hr]
        refine hJ _ _ ?_
        rw [if_neg (by decide)]
        rw [if_pos ⟨rfl, hr⟩] at hK
        subst hK
        refine rdV b5 (K := fun a b c d => stOk h5 _ 4 ∧ wth (wrs h5 _ 0 [.int .i64 a, .int .i64 b, .float .f64 c, .string d]) _) ?_
        exact outV c5 rfl v fun g e => hq g (e05.trans e fun b hb hlt => by simp at hb; omega)
      · rw [decide_eq_false hr]
        exact no (by simp [hr])
  cases hf : firstL l with
  | none =>
    rw [hf] at hQ
    exact ⟨_, _, _, _, _, _, rfl, main zV [] false _ (by rw [if_neg (by simp)]) hQ⟩
  | some p =>
    rw [hf] at hQ
    exact ⟨_, _, _, _, _, _, rfl, main p.1 p.2 true _ (by simp) hQ⟩
theorem Split_s (l : List UInt8) (hl : l.length ≤ 2 ^ 40) (hQ : ∀ h', Ext [] h h' → Q [agg4 (splitP l).1, .int .i64 (splitP l).2.1, .int .i64 (splitP l).2.2] h') : S_key_Split (ofBtl l) h Q := by
  refine O_key_Split _ ?_
  unfold F_key_Split
  refine newI fun h1 s1 b1 e1 => ?_
  refine first_s l hl fun h3 e3 => ?_
  have b3 : Blk h3 h.size (cells4 zV) T_api_Value := e3.get b1 (by simp)
  have e03 := e1.trans0 e3
  unfold splitP at hQ
  cases hf : firstL l with
  | none =>
    rw [hf] at hQ
    refine ⟨_, _, _, _, _, _, rfl, ?_⟩
    refine put4 b3 rfl zV fun h5 s5 b5 e5 => ?_
    have e05 : Ext [] h h5 := e03.trans e5 fun b hb hlt => by simp at hb; omega
    intro J hJ
    rw [if_pos (by rfl)]
    refine hJ _ _ ?_
    rw [if_pos rfl]
    exact outV b5 rfl zV fun g e => hQ g (e05.trans e fun b hb hlt => by simp at hb; omega)
  | some p =>
    rw [hf] at hQ
    refine ⟨_, _, _, _, _, _, rfl, ?_⟩
    refine put4 b3 rfl p.1 fun h5 s5 b5 e5 => ?_
    have e05 : Ext [] h h5 := e03.trans e5 fun b hb hlt => by simp at hb; omega
    intro J hJ
    rw [if_neg (by decide)]
    refine hJ _ _ ?_
    rw [ofBtl_size]
    by_cases hr : p.2.length = 2
    · rw [if_neg (by simp [hr])]
      have hQ' : ∀ h', Ext [] h h' → Q [agg4 p.1, .int .i64 (twoL p.2), .int .i64 0] h' := by
        intro h' e
        have := hQ h' e
        simp only [hr, if_true] at this
        exact this
      refine rdV b5 (K := fun a b c d => ixOk _ _ (shOk _ (ixOk _ _ (stOk h5 _ 4 ∧ wth (wrs h5 _ 0 [.int .i64 a, .int .i64 b, .float .f64 c, .string d]) _)))) ?_
      refine ⟨by decide, by omega, by decide, by decide, by omega, ?_⟩
      refine outV b5 rfl p.1 fun g e => ?_
      have i0 := strIxD (l := p.2) (i := 0) (by omega)
      have i1 := strIxD (l := p.2) (i := 1) (by omega)
      have c0 := (p.2.getD 0 0).toNat_lt
      have c1 := (p.2.getD 1 0).toNat_lt
      have i0' : strIx (ofBtl p.2) 0 = (((p.2.getD 0 0).toNat : Nat) : Int) := i0
      have i1' : strIx (ofBtl p.2) 1 = (((p.2.getD 1 0).toNat : Nat) : Int) := i1
      rw [i0', i1', wrap64 (by omega) (by omega), wrap64 (by omega) (by omega), step8i _ _ (by omega) (by omega)]
      exact hQ' g (e05.trans e fun b hb hlt => by simp at hb; omega)
    · rw [if_pos (by simp; omega)]
      have hQ' : ∀ h', Ext [] h h' → Q [agg4 zV, .int .i64 0, .int .i64 11] h' := by
        intro h' e
        have := hQ h' e
        simp only [hr, if_false] at this
        exact this
      exact outV b5 rfl zV fun g e => hQ' g (e05.trans e fun b hb hlt => by simp at hb; omega)
end
end Go.Lift

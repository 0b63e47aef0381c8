/- Keys are read, by the program: eight bytes, a text. -/
import Derived.Test.YtgmnomkhmdeapaaDoorK03e
import Derived.Test.YtgmnomkhmdeapaaDoorW03f
set_option linter.unusedSimpArgs false
set_option linter.unusedVariables false
namespace Go.Lift
open Go Go.Proofs Go.RowKit
set_option maxRecDepth 100000
theorem ex_drop (l : List UInt8) (a : Nat) : (ofBtl l).extract a (ofBtl l).size = ofBtl (l.drop a) := by
  refine btl_inj ?_
  rw [btl_ofBtl]
  unfold btl
  rw [Lib.extract_to_end]
  show (btl (ofBtl l)).drop a = _
  rw [btl_ofBtl]
theorem ex_mid (l : List UInt8) (a b : Nat) : (ofBtl l).extract a b = ofBtl ((l.drop a).take (b - a)) := by
  refine btl_inj ?_
  rw [btl_ofBtl]
  unfold btl
  rw [Lib.extract_data]
  show ((btl (ofBtl l)).drop a).take (b - a) = _
  rw [btl_ofBtl]
theorem tl_ofBtl (l : List UInt8) : (ofBtl l).toList = l := by rw [ByteArray.toList_eq]; exact btl_ofBtl l
theorem numL_snoc (l : List UInt8) (c : UInt8) : numL (l ++ [c]) = numL l * 256 + c.toNat := by unfold numL; rw [List.foldl_append]; rfl
theorem numL_take {l : List UInt8} {i : Nat} (hi : i < l.length) : numL (l.take (i + 1)) = numL (l.take i) * 256 + (l[i]).toNat := by
  rw [List.take_add_one, List.getElem?_eq_getElem hi, Option.toList_some, numL_snoc]
theorem strIxL {l : List UInt8} {i : Nat} (hi : i < l.length) : strIx (ofBtl l) (i : Int) = ((l[i]).toNat : Int) := by
  have h : i < (btl (ofBtl l)).length := by rw [btl_ofBtl]; exact hi
  rw [strIx_btl h]
  congr 2
theorem idx_split : ∀ (s : List UInt8), (Lib.indexByte s 0 = -1 ∧ ∀ c ∈ s, c ≠ 0) ∨ ∃ p r : List UInt8, s = p ++ 0 :: r ∧ (∀ c ∈ p, c ≠ 0) ∧ Lib.indexByte s 0 = (p.length : Int)
  | [] => Or.inl ⟨rfl, fun c h => by cases h⟩
  | c :: s => by
    by_cases hc : c = 0
    · exact Or.inr ⟨[], s, by rw [hc]; rfl, fun c h => (by cases h), by rw [Lib.indexByte, if_pos (by rw [hc]; rfl)]; rfl⟩
    · rcases idx_split s with ⟨h1, h2⟩ | ⟨p, r, h1, h2, h3⟩
      · refine Or.inl ⟨by rw [Lib.indexByte, if_neg (by simpa using hc), h1]; rfl, fun d hd => ?_⟩
        rcases List.mem_cons.1 hd with rfl | hd
        · exact hc
        · exact h2 d hd
      · refine Or.inr ⟨c :: p, r, by rw [h1]; rfl, fun d hd => ?_, ?_⟩
        · rcases List.mem_cons.1 hd with rfl | hd
          · exact hc
          · exact h2 d hd
        · rw [Lib.indexByte, if_neg (by simpa using hc), h3, if_neg (by simp)]
          simp
def resT (o : Option (List UInt8 × List UInt8)) : List Value := match o with | none => [.string sE, .string sE, .bool false] | some p => [.string (ofBtl p.1), .string (ofBtl p.2), .bool true]
section
variable {h : Hp} {Q : List Value → Hp → Prop}
theorem wide_s (l : List UInt8) (hQ : Q (if l.length < 8 then [.int .u64 0, .string sE, .bool false] else [.int .u64 (numL (l.take 8) : Nat), .string (ofBtl (l.drop 8)), .bool true]) h) : S_key_wide (ofBtl l) h Q := by
  refine O_key_wide _ ?_
  unfold F_key_wide
  by_cases hl : l.length < 8
  · rw [if_pos (by rw [ofBtl_size]; simp; omega)]
    rw [if_pos hl] at hQ
    exact hQ
  · rw [if_neg (by rw [ofBtl_size]; simp; omega)]
    rw [if_neg hl] at hQ
    intro X hX
    have key : ∀ d i, d + i = 8 → X [.int .u64 (numL (l.take i) : Nat), .int .i64 (i : Int)] h := by
      intro d
      induction d with
      | zero =>
        intro i hi
        have : i = 8 := by omega
        subst this
        refine hX _ _ _ ?_
        rw [if_neg (by decide)]
        refine ⟨⟨by decide, by rw [ofBtl_size]; omega⟩, ?_⟩
        have := ex_drop l 8
        rw [show Int.toNat (8 : Int) = 8 from rfl, this]
        exact hQ
      | succ d ih =>
        intro i hi
        refine hX _ _ _ ?_
        rw [if_pos (by simp; omega)]
        have hil : i < l.length := by omega
        refine ⟨by decide, by omega, by rw [ofBtl_size]; omega, ?_⟩
        have hn := numL_lt (l.take i)
        rw [List.length_take, Nat.min_eq_left (by omega)] at hn
        have h7 : 256 ^ i ≤ 256 ^ 7 := Nat.pow_le_pow_right (by decide) (by omega)
        have hc := (l[i]).toNat_lt
        rw [strIxL hil, wrapU64 (by omega) (by omega), step8u _ _ (by omega) (by omega), ← numL_take hil, wrap64 (by omega) (by omega)]
        exact ih (i + 1) (by omega)
    exact key 8 0 rfl
theorem text0_s (l : List UInt8) (hl : l.length ≤ 2 ^ 40) (hQ : ∀ h', Ext [] h h' → Q (resT (textL l)) h') : S_key_text (ofBtl l) h Q := by
  refine O_key_text _ ?_
  unfold F_key_text
  refine newI fun h1 s1 b1 e1 => ?_
  intro X hX
  have l1 : Lo h.size h h1 := lo_ext e1 (Nat.le_refl _)
  have hq : ∀ g, Lo h.size h g → Q (resT (textL l)) g := fun g hg => hQ g hg.ext
  have key : ∀ (n : Nat) (s a : List UInt8) (g : Hp), s.length ≤ n → a.length + s.length ≤ 2 ^ 40 → Lo h.size h g → BuH g h.size h.size a →
      (textL s).map (fun p => (a ++ p.1, p.2)) = textL l → X [.string (ofBtl s)] g := by
    intro n
    induction n with
    | zero =>
      intro s a g hs hal hg hB he
      have : s = [] := List.length_eq_zero_iff.1 (by omega)
      subst this
      refine hX _ _ (IndexByte_s _ ⟨_, rfl, ?_⟩)
      intro J hJ
      have hi : Lib.indexByte (ofBtl []).data.toList 0 = -1 := rfl
      rw [hi, if_pos (by decide)]
      refine hJ _ _ ?_
      rw [if_pos rfl]
      have := hq g hg
      rw [← he] at this
      exact this
    | succ n ih =>
      intro s a g hs hal hg hB he
      refine hX _ _ (IndexByte_s _ ⟨_, rfl, ?_⟩)
      have hd : (ofBtl s).data.toList = s := btl_ofBtl s
      rw [hd]
      rcases idx_split s with ⟨h1, h2⟩ | ⟨p, r, h1, h2, h3⟩
      · rw [h1]
        intro J hJ
        rw [if_pos (by decide)]
        refine hJ _ _ ?_
        rw [if_pos rfl]
        have := hq g hg
        rw [← he, textL_none h2] at this
        exact this
      · rw [h3]
        intro J hJ
        rw [if_neg (by simp)]
        subst h1
        have hpl : (p ++ 0 :: r).length = p.length + 1 + r.length := by simp; omega
        rw [textL_pre _ _ h2] at he
        have w1 : IntKind.wrap .i64 ((p.length : Int) + 1) = ((p.length + 1 : Nat) : Int) := by rw [wrap64 (by omega) (by omega)]; rfl
        have w2 : IntKind.wrap .i64 ((p.length : Int) + 2) = ((p.length + 2 : Nat) : Int) := by rw [wrap64 (by omega) (by omega)]; rfl
        rw [w1]
        cases r with
        | nil =>
          have e : (((p.length + 1 : Nat) : Int) == ((ofBtl (p ++ 0 :: [])).size : Int)) = true := by rw [ofBtl_size, hpl]; simp
          rw [e]
          refine hJ _ _ ?_
          rw [if_pos rfl]
          have := hq g hg
          rw [← he] at this
          exact this
        | cons d r =>
          rw [List.length_cons] at hpl
          have e : (((p.length + 1 : Nat) : Int) == ((ofBtl (p ++ 0 :: d :: r)).size : Int)) = false := by
            rw [ofBtl_size, hpl]
            simp
            omega
          rw [e]
          refine hJ _ _ ?_
          rw [if_neg (by decide)]
          have x0 : (ofBtl (p ++ 0 :: d :: r)).extract 0 (Int.toNat (p.length : Int)) = ofBtl p := by
            rw [ex_mid, Int.toNat_natCast, List.drop_zero, Nat.sub_zero, List.take_append_of_le_length (Nat.le_refl _), List.take_length]
          have x1 : (ofBtl (p ++ 0 :: d :: r)).extract (Int.toNat (p.length : Int)) (Int.toNat ((p.length + 2 : Nat) : Int)) = ofBtl [0, d] := by
            rw [ex_mid, Int.toNat_natCast, Int.toNat_natCast, List.drop_append_of_le_length (Nat.le_refl _), List.drop_length, Nat.add_sub_cancel_left]
            rfl
          have x2 : (ofBtl (p ++ 0 :: d :: r)).extract (Int.toNat ((p.length + 2 : Nat) : Int)) (ofBtl (p ++ 0 :: d :: r)).size = ofBtl r := by
            rw [ex_drop, Int.toNat_natCast, List.drop_append, List.drop_of_length_le (by omega), Nat.add_sub_cancel_left]
            rfl
          rw [w2, x0, x1, x2]
          refine ⟨⟨by omega, by rw [ofBtl_size]; omega⟩, WriteString_s hB hg.sz (ofBtl p) (by rw [ofBtl_size]; omega) fun g2 lo2 B2 => ⟨_, _, rfl, ⟨by omega, by omega, by rw [ofBtl_size]; omega⟩, ?_⟩⟩
          rw [btl_ofBtl] at B2
          have hg2 := hg.trans lo2
          rw [tl_ofBtl]
          have t1 : (ByteArray.mk #[0, 1]).toList = [0, 1] := tl_ofBtl [0, 1]
          have t2 : (ByteArray.mk #[0, 255]).toList = [0, 255] := tl_ofBtl [0, 255]
          rw [t1, t2]
          rw [textL, if_pos rfl] at he
          by_cases d1 : d = 1
          · rw [if_pos (by rw [d1]; rfl)]
            rw [if_pos d1] at he
            refine ⟨⟨by omega, by rw [ofBtl_size]; omega⟩, String_s B2 hg2.sz fun g3 lo3 => ⟨_, rfl, ?_⟩⟩
            have := hq g3 (hg2.trans lo3)
            rw [← he] at this
            simpa [resT, ofBtl] using this
          · rw [if_neg (by simpa using d1)]
            rw [if_neg d1] at he
            by_cases d2 : d = 255
            · rw [if_pos (by rw [d2]; rfl)]
              rw [if_pos d2] at he
              refine WriteByte_s B2 hg2.sz (by rw [List.length_append]; omega) fun g3 lo3 B3 => ⟨_, rfl, ⟨by omega, by rw [ofBtl_size]; omega⟩, ?_⟩
              refine ih r (a ++ p ++ [0]) g3 (by omega) (by simp; omega) (hg2.trans lo3) B3 ?_
              rw [← he]
              rw [Option.map_map, Option.map_map]
              congr 1
              funext q
              simp
            · rw [if_neg (by simpa using d2)]
              rw [if_neg d2] at he
              have := hq g2 hg2
              rw [← he] at this
              exact this
  exact key l.length l [] h1 (Nat.le_refl _) (by simpa using hl) l1 (BuH.new b1) (by simp)
end
end Go.Lift

/- An index: what is found by a value, and between two; no index. -/
import Derived.Test.YtmlcjckocgnjfaaDoorI11b
set_option linter.unusedSimpArgs false
set_option linter.unusedVariables false
namespace Go.Lift
open Go Go.Proofs Go.RowKit
set_option maxRecDepth 100000
/-- The keys between any two are few and short. -/
def KM (M : LeafM) : Prop := ∀ a b : ByteArray, (∀ k ∈ (M.rng a b).1, k.size ≤ 2 ^ 40) ∧ (M.rng a b).1.length ≤ 2 ^ 29
def findP (M : LeafM) (v : V4) : List Int × List Int := if goodX v = true then (tidsL (M.rng (entryP v 0).1 (afterP v).1).1, (M.rng (entryP v 0).1 (afterP v).1).2) else ([], [])
def rangeP (M : LeafM) (v w : V4) : List Int × List Int := if goodX v = true ∧ goodX w = true then (tidsL (M.rng (entryP v 0).1 (entryP w 0).1).1, (M.rng (entryP v 0).1 (entryP w 0).1).2) else ([], [])
theorem entry_err {v : V4} : (entryP v 0).2 = if goodX v = true then 0 else 11 := by
  unfold entryP
  split
  · rw [if_neg (by omega)]
  · rfl
theorem after_err {v : V4} : (afterP v).2 = if goodX v = true then 0 else 11 := by
  unfold afterP
  split <;> rfl
section
variable {lo n : Nat} {G : Nat → Prop} {h : Hp} {x : Nat} {M : LeafM} {Q : List Value → Hp → Prop}
theorem Find_i (hx : Ix lo G h x M) (ok : OkM M n) (hn : n < 2 ^ 15) (km : KM M) (v : V4) (hv : VOk v) (hg : GM h)
    (hQ : ∀ h' st sn, Ix lo G h' x M → Ext [] h h' → Own T_int 1 encIL h.size h' st (findP M v).1 → Own T_int 1 encIL h.size h' sn (findP M v).2 → Q [.slice st.a st.n st.c, .slice sn.a sn.n sn.c] h') : S_index_Index_Find (some ⟨x, 0, none⟩) v.k v.n v.f v.s h Q := by
  refine O_index_Index_Find _ _ _ _ _ ?_
  unfold F_index_Index_Find
  refine newI fun h1 s1 b1' e1 => ?_
  have b1 : Blk h1 h.size (cells4 v) T_api_Value := b1'
  refine rdV b1 ?_
  refine Least_s v hv (hg.ext e1) fun h7 e7 => ⟨_, _, rfl, ?_⟩
  refine rdV (e7.get b1 (by simp)) ?_
  refine After_s v hv ((hg.ext e1).ext e7) fun h15 e15 => ⟨_, _, rfl, ?_⟩
  have e015 := (e1.trans0 e7).trans0 e15
  intro J hJ
  rw [if_neg (by simp), entry_err, after_err]
  unfold findP at hQ
  cases hgd : goodX v with
  | false =>
    rw [hgd] at hQ
    have k : J [.bool true] h15 := by
      refine hJ _ _ ?_
      rw [if_pos rfl]
      exact hQ h15 ⟨none, 0, 0⟩ ⟨none, 0, 0⟩ (hx.e0 e015) e015 (Own.nil _ _) (Own.nil _ _)
    simpa using k
  | true =>
    rw [hgd] at hQ
    have k : J [.bool false] h15 := by
      refine hJ _ _ ?_
      rw [if_neg (by decide)]
      have hz := e015.sz
      refine between_s (hx.e0 e015) ok hn _ _ (km _ _).1 (km _ _).2 fun h' st sn hx' e' ot on => ⟨st, sn, rfl, ?_⟩
      exact hQ h' st sn hx' (e015.trans0 e') (ot.mono hz) (on.mono hz)
    simpa using k
theorem Range_i (hx : Ix lo G h x M) (ok : OkM M n) (hn : n < 2 ^ 15) (km : KM M) (v w : V4) (hv : VOk v) (hw : VOk w) (hg : GM h)
    (hQ : ∀ h' st sn, Ix lo G h' x M → Ext [] h h' → Own T_int 1 encIL h.size h' st (rangeP M v w).1 → Own T_int 1 encIL h.size h' sn (rangeP M v w).2 → Q [.slice st.a st.n st.c, .slice sn.a sn.n sn.c] h') : S_index_Index_Range (some ⟨x, 0, none⟩) v.k v.n v.f v.s w.k w.n w.f w.s h Q := by
  refine O_index_Index_Range _ _ _ _ _ _ _ _ _ ?_
  unfold F_index_Index_Range
  refine newI fun h1 s1 b1' e1 => newI fun h2 s2 b2' e2 => ?_
  have b1 : Blk h2 h.size (cells4 v) T_api_Value := e2.get b1' (by simp)
  have b2 : Blk h2 h1.size (cells4 w) T_api_Value := b2'
  have e02 := e1.trans0 e2
  refine rdV b1 ?_
  refine Least_s v hv (hg.ext e02) fun h7 e7 => ⟨_, _, rfl, ?_⟩
  refine rdV (e7.get b2 (by simp)) ?_
  refine Least_s w hw ((hg.ext e02).ext e7) fun h15 e15 => ⟨_, _, rfl, ?_⟩
  have e015 := (e02.trans0 e7).trans0 e15
  intro J hJ
  rw [if_neg (by simp), entry_err, entry_err]
  unfold rangeP at hQ
  have bad : ¬ (goodX v = true ∧ goodX w = true) → J [.bool true] h15 := fun hno => by
    refine hJ _ _ ?_
    rw [if_pos rfl]
    rw [if_neg hno] at hQ
    exact hQ h15 ⟨none, 0, 0⟩ ⟨none, 0, 0⟩ (hx.e0 e015) e015 (Own.nil _ _) (Own.nil _ _)
  cases hgd : goodX v with
  | false =>
    have k := bad (by simp [hgd])
    simpa using k
  | true =>
    cases hgw : goodX w with
    | false =>
      have k := bad (by simp [hgw])
      simpa using k
    | true =>
      rw [if_pos ⟨hgd, hgw⟩] at hQ
      have k : J [.bool false] h15 := by
        refine hJ _ _ ?_
        rw [if_neg (by decide)]
        have hz := e015.sz
        refine between_s (hx.e0 e015) ok hn _ _ (km _ _).1 (km _ _).2 fun h' st sn hx' e' ot on => ⟨st, sn, rfl, ?_⟩
        exact hQ h' st sn hx' (e015.trans0 e') (ot.mono hz) (on.mono hz)
      simpa using k
/-! No index. -/
theorem AddN_i (v : V4) (t : Int) (hQ : ∀ h', Ext [] h h' → Q (didV (noDid 1)) h') : S_index_Index_Add none v.k v.n v.f v.s t h Q := by
  refine O_index_Index_Add _ _ _ _ _ _ ?_
  unfold F_index_Index_Add
  refine newI fun h1 s1 b1' e1 => newI fun h2 s2 b2 e2 => ?_
  rw [if_pos (by rfl)]
  refine st_blk b2 (by simp) fun h3 s3 b3 e3 => ?_
  exact ⟨0, by simp [rd_blk b3], 0, by simp [rd_blk b3], hQ h3 ((e1.trans0 e2).trans e3 fun b hb hlt => by simp at hb; omega)⟩
theorem DropN_i (v : V4) (t : Int) (hQ : ∀ h', Ext [] h h' → Q (didV (noDid 1)) h') : S_index_Index_Drop none v.k v.n v.f v.s t h Q := by
  refine O_index_Index_Drop _ _ _ _ _ _ ?_
  unfold F_index_Index_Drop
  refine newI fun h1 s1 b1' e1 => newI fun h2 s2 b2 e2 => ?_
  rw [if_pos (by rfl)]
  refine st_blk b2 (by simp) fun h3 s3 b3 e3 => ?_
  exact ⟨0, by simp [rd_blk b3], 0, by simp [rd_blk b3], hQ h3 ((e1.trans0 e2).trans e3 fun b hb hlt => by simp at hb; omega)⟩
theorem FindN_i (v : V4) (hv : VOk v) (hg : GM h) (hQ : ∀ h', Ext [] h h' → Q [.slice none 0 0, .slice none 0 0] h') : S_index_Index_Find none v.k v.n v.f v.s h Q := by
  refine O_index_Index_Find _ _ _ _ _ ?_
  unfold F_index_Index_Find
  refine newI fun h1 s1 b1' e1 => ?_
  have b1 : Blk h1 h.size (cells4 v) T_api_Value := b1'
  refine rdV b1 ?_
  refine Least_s v hv (hg.ext e1) fun h7 e7 => ⟨_, _, rfl, ?_⟩
  refine rdV (e7.get b1 (by simp)) ?_
  refine After_s v hv ((hg.ext e1).ext e7) fun h15 e15 => ⟨_, _, rfl, ?_⟩
  intro J hJ
  rw [if_pos (by rfl)]
  refine hJ _ _ ?_
  rw [if_pos rfl]
  exact hQ h15 ((e1.trans0 e7).trans0 e15)
theorem RangeN_i (v w : V4) (hv : VOk v) (hw : VOk w) (hg : GM h) (hQ : ∀ h', Ext [] h h' → Q [.slice none 0 0, .slice none 0 0] h') : S_index_Index_Range none v.k v.n v.f v.s w.k w.n w.f w.s h Q := by
  refine O_index_Index_Range _ _ _ _ _ _ _ _ _ ?_
  unfold F_index_Index_Range
  refine newI fun h1 s1 b1' e1 => newI fun h2 s2 b2' e2 => ?_
  have b1 : Blk h2 h.size (cells4 v) T_api_Value := e2.get b1' (by simp)
  have b2 : Blk h2 h1.size (cells4 w) T_api_Value := b2'
  have e02 := e1.trans0 e2
  refine rdV b1 ?_
  refine Least_s v hv (hg.ext e02) fun h7 e7 => ⟨_, _, rfl, ?_⟩
  refine rdV (e7.get b2 (by simp)) ?_
  refine Least_s w hw ((hg.ext e02).ext e7) fun h15 e15 => ⟨_, _, rfl, ?_⟩
  intro J hJ
  rw [if_pos (by rfl)]
  refine hJ _ _ ?_
  rw [if_pos rfl]
  exact hQ h15 ((e02.trans0 e7).trans0 e15)
theorem HasN_i (v : V4) (hv : VOk v) (t : Int) (hg : GM h) (hQ : ∀ h', Ext [] h h' → Q [.bool false] h') : S_index_Index_Has none v.k v.n v.f v.s t h Q := by
  refine O_index_Index_Has _ _ _ _ _ _ ?_
  unfold F_index_Index_Has
  refine newI fun h1 s1 b1' e1 => ?_
  have b1 : Blk h1 h.size (cells4 v) T_api_Value := b1'
  refine rdV b1 ?_
  refine Entry_s v hv (hg.ext e1) t fun h3 e3 => ⟨_, _, rfl, ?_⟩
  rw [if_neg (by decide)]
  exact hQ h3 (e1.trans0 e3)
theorem LenN_i (hQ : Q [.int .i64 0] h) : S_index_Index_Len none h Q := by
  refine O_index_Index_Len _ ?_
  unfold F_index_Index_Len
  rw [if_pos (by rfl)]
  exact hQ
theorem LeavesN_i (hQ : Q [.slice none 0 0] h) : S_index_Index_Leaves none h Q := by
  refine O_index_Index_Leaves _ ?_
  unfold F_index_Index_Leaves
  rw [if_pos (by rfl)]
  exact hQ
theorem Large_i (v : V4) (hQ : ∀ h', Ext [] h h' → Q [.bool (decide ((v.s.size : Int) > 2000))] h') : S_liverykeep_LargeValue v.k v.n v.f v.s h Q := by
  refine O_liverykeep_LargeValue _ _ _ _ ?_
  unfold F_liverykeep_LargeValue
  refine newI fun h1 s1 b1 e1 => ?_
  have b1' : Blk h1 h.size (cells4 v) T_api_Value := b1
  exact ⟨v.s, (rd4V b1').2.2.2, hQ h1 e1⟩
end
end Go.Lift

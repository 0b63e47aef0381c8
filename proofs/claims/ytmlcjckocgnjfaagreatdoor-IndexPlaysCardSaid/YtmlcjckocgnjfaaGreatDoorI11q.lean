/- The reference's index: what it tells. -/
import Derived.Test.YtmlcjckocgnjfaaGreatDoorI11o
set_option linter.unusedSimpArgs false
set_option linter.unusedVariables false
namespace Go.Lift
open Go Go.Proofs Go.RowKit
set_option maxRecDepth 100000
/-- Keys that are entries, and short. -/
def KE (M : LeafM) : Prop := ∀ k ∈ ksM M, k.size ≤ 1000 ∧ ∃ i, entP k = some i
theorem InI.ke {M : LeafM} {L : List StepI} (hi : InI M L) : KE M := fun k hk => by
  obtain ⟨s, hs, rfl⟩ := List.mem_map.1 (hi.perm.subset hk)
  have g := hi.good s hs
  refine ⟨?_, _, entP_key g⟩
  rw [keyI_of g, ofBtl_size, List.length_append, beL_len]
  have := encX_len g.good
  omega
theorem rng_ke {M : LeafM} (hk : KE M) (a b : ByteArray) : ∀ k ∈ (M.rng a b).1, k.size ≤ 1000 ∧ ∃ i, entP k = some i := fun k h => hk k ((rng_sub M a b).subset h)
/-- Nothing lies between a value and one that is not above it. -/
theorem rng_none {M : LeafM} {v w : V4} (hv : VOk v) (hw : VOk w) (gv : goodX v = true) (gw : goodX w = true) (hc : 0 ≤ cmpV v w) : M.rng (entryP v 0).1 (entryP w 0).1 = ([], []) := by
  have he : emptyR (entryP v 0).1 (entryP w 0).1 = true := by
    unfold emptyR
    rw [from_ne gw, Bool.not_false, Bool.true_and]
    have h := lt_from (s := ⟨0, 0, w, w⟩) ⟨hw, gw, by simp, by simp⟩ hv gv
    have e : keyI (⟨0, 0, w, w⟩ : StepI) = (entryP w 0).1 := rfl
    rw [e] at h
    have an := cmpV_anti hw hv gw gv
    by_cases h0 : cmpV w v < 0
    · rw [h]
      simp [h0]
    · have h1 : ¬ 0 < cmpV v w := fun k => h0 (an.1.2 k)
      have h2 : v = w := (cmpV_anti hv hw gv gw).2.1 (by omega)
      subst h2
      simp
  unfold LeafM.rng
  rw [if_pos he]
section
variable {lo n : Nat} {sv : Nat → Prop} {h h' : Hp} {x q : Nat} {M M' : LeafM} {Q : List Value → Hp → Prop}
theorem hasRB {v : V4} {t : Int} (hb : Bo lo sv h x q M M') (ok : OkM M n) (hn : n < 2 ^ 15) (hv : VOk v) (ht : -9223372036854775808 ≤ t ∧ t < 9223372036854775808)
    (hQ : ∀ h', Ext [] h h' → Q [.bool (decide ((entryP v t).2 = 0) && hasK (M.l[atL M.l (entryP v t).1]'(atL_lt ok.ne _)).keys (entryP v t).1)] h') : S_liveryref11_Index_Has (some ⟨q, 0, none⟩) v.k v.n v.f v.s t h Q := by
  refine O_liveryref11_Index_Has _ _ _ _ _ _ ?_
  unfold F_liveryref11_Index_Has
  refine newI fun h1 s1 b1' e1 => ?_
  have b1 : Blk h1 h.size (cells4 v) T_api_Value := b1'
  refine rdV b1 ?_
  refine EntryR_s v hv t ht fun h3 e3 => ⟨_, _, rfl, ?_⟩
  have e03 := e1.trans0 e3
  have hq := hQ h3 e03
  by_cases he : (entryP v t).2 = 0
  · rw [if_pos (by simp [he])]
    rw [decide_eq_true he] at hq
    obtain ⟨r, ls, R, hr, bq, hl, n1, n2, n3, hx⟩ := hb.e0 e03
    rw [nilW_some]
    refine ⟨some ⟨r, 0, none⟩, by simp [rd_blk bq], ?_⟩
    have hlen := ok.len
    have hor := ok.ord
    exact HasR_s hr ok.wf ok.ne _ (by omega) (fun o ho => by have := (hor o ho).2; omega) ⟨_, rfl, hq⟩
  · rw [if_neg (by simpa using he)]
    rw [decide_eq_false he] at hq
    exact hq
theorem span_s (hb : Bo lo sv h x q M M') (ok : OkM M n) (hn : n < 2 ^ 15) (hk : KE M) (a b : ByteArray) (hlk : (M.rng a b).1.length ≤ 2 ^ 29)
    (hQ : ∀ h' st sn, Ext [] h h' → Own T_int 1 encIL h.size h' st (tidsL (M.rng a b).1) → Own T_int 1 encIL h.size h' sn (M.rng a b).2 → Q [aggS st sn] h') : S_liveryref11_Index_span (some ⟨q, 0, none⟩) a b h Q := by
  refine O_liveryref11_Index_span _ _ _ ?_
  unfold F_liveryref11_Index_span
  refine newI fun h1 s1 b1 e1 => ?_
  have hb1 := hb.e0 e1
  obtain ⟨r, ls, R, hr, bq, hl, n1, n2, n3, hx⟩ := hb1
  rw [nilW_some]
  refine ⟨some ⟨r, 0, none⟩, by simp [rd_blk bq], ?_⟩
  refine RangeR_s hr ok hn a b fun h5 sk sn e5 ok5 on5 => ⟨sk, sn, rfl, ?_⟩
  have b5 := e5.get b1 (by simp)
  refine newI fun h8 s8 b8 e8 => st_blk b8 (by simp) fun h9 s9 b9 e9 => ?_
  have b9' : Blk h9 h5.size #[.slice sk.a sk.n sk.c, .slice sn.a sn.n sn.c] T_liveryref10_Span := b9
  refine ⟨sn, by rw [addr_mk, rd_blk b9']; rfl, ?_⟩
  have e59 : Ext [] h5 h9 := e8.trans e9 fun b hb hlt => by simp at hb; omega
  refine newI fun h11 s11 b11 e11 => st_blk b11 (by simp) fun h12 s12 b12 e12 => ?_
  have b12' : Blk h12 h9.size #[.slice none 0 0, .slice sn.a sn.n sn.c] T_liveryref11_Span := b12
  have e912 : Ext [] h9 h12 := e11.trans e12 fun b hb hlt => by simp at hb; omega
  have e512 := e59.trans0 e912
  have hz1 := e1.sz
  have hz5 := e5.sz
  have hz9 := e59.sz
  have ok12 := ok5.ext0 e512
  have on12 := on5.ext0 e512
  have ks_lt := own_ltG ok5
  have ns_lt := own_ltG on5
  have b12k := e912.get b9' (by simp)
  have b12o := e512.get b5 (by simp)
  have hskn := ok5.1
  have hke := rng_ke hk a b
  intro X hX
  have key : ∀ d i g s, d + i = (M.rng a b).1.length → Ext [h9.size] h12 g → Blk g h9.size #[.slice s.a s.n s.c, .slice sn.a sn.n sn.c] T_liveryref11_Span → Own T_int 1 encIL h12.size g s (tidsL ((M.rng a b).1.take i)) → X [.int .i64 (i : Int)] g := by
    intro d
    induction d with
    | zero =>
      intro i g s hi eg bg og
      refine hX (i : Int) g ?_
      have bk := eg.get b12k (by simp; omega)
      refine ⟨sk, by rw [addr_mk, rd_blk bk]; rfl, ?_⟩
      rw [if_neg (by simp; omega)]
      rw [List.take_of_length_le (by omega)] at og
      refine ⟨s, by rw [addr_mk, rd_blk bg]; rfl, sn, by rw [addr_mk, rd_blk bg]; rfl, ?_⟩
      have bo := eg.get b12o (by simp; omega)
      refine st_blk bo (by simp) fun g3 z3 c3 d3 => ?_
      have c3' : Blk g3 h.size #[.slice s.a s.n s.c, .slice sn.a sn.n sn.c] T_liveryref11_Span := c3
      refine ⟨s, by rw [addr_mk, rd_blk c3']; rfl, sn, by rw [addr_mk, rd_blk c3']; rfl, ?_⟩
      have hlt := og.blk
      refine hQ g3 s sn ?_ ?_ ?_
      · refine ((((e1.trans0 e5).trans0 e512).trans eg fun b hb hlt => by simp at hb; omega)).trans d3 fun b hb hlt => by simp at hb; omega
      · refine (og.ext d3 fun ad ha hm => ?_).mono (by have := e512.sz; omega)
        have := hlt _ (mem_sBlk.2 ⟨ad, ha, rfl⟩)
        have := e512.sz
        simp at hm
        omega
      · refine ((on12.ext eg fun ad ha hm => ?_).ext d3 fun ad ha hm => ?_).mono (by omega)
        · have := ns_lt _ (mem_sBlk.2 ⟨ad, ha, rfl⟩)
          simp at hm
          omega
        · have := ns_lt _ (mem_sBlk.2 ⟨ad, ha, rfl⟩)
          simp at hm
          omega
    | succ d ih =>
      intro i g s hi eg bg og
      have hil : i < (M.rng a b).1.length := by omega
      refine hX (i : Int) g ?_
      have bk := eg.get b12k (by simp; omega)
      refine ⟨sk, by rw [addr_mk, rd_blk bk]; rfl, ?_⟩
      rw [if_pos (by simp; omega)]
      refine ⟨sk, by rw [addr_mk, rd_blk bk]; rfl, ?_⟩
      have okg := ok12.ext eg fun ad ha hm => by
        have := ks_lt _ (mem_sBlk.2 ⟨ad, ha, rfl⟩)
        simp at hm
        omega
      obtain ⟨ka, u1, u2⟩ := rdB okg.sl.reads (i := i) hil
      rw [u1, nilW_some, Int.toNat_natCast]
      refine ⟨by omega, by omega, _, u2, ?_⟩
      obtain ⟨hsz, t, ht⟩ := hke _ (List.getElem_mem hil)
      have hlb : (btl (M.rng a b).1[i]).length ≤ 2 ^ 30 := by rw [← size_btl]; omega
      have htid : tidsL ((M.rng a b).1.take (i + 1)) = tidsL ((M.rng a b).1.take i) ++ [t] := by
        unfold tidsL
        rw [List.take_add_one, List.getElem?_eq_getElem hil, Option.toList_some, List.filterMap_append]
        simp [ht]
      have hsp : (splitP (btl (M.rng a b).1[i])).2.1 = t := by
        unfold entP at ht
        split at ht
        · exact Option.some.inj ht
        · cases ht
      conv => arg 1; rw [show (M.rng a b).1[i] = ofBtl (btl (M.rng a b).1[i]) from (ofBtl_btl _).symm]
      refine SplitR_s _ hlb fun g2 f2 => ⟨_, _, _, _, _, _, rfl, ?_⟩
      refine newI fun g3 z3 b3 f3 => put5 b3 rfl (splitP (btl (M.rng a b).1[i])).1 (splitP (btl (M.rng a b).1[i])).2.1 fun g4 z4 b4 f4 => ?_
      have f24 : Ext [] g2 g4 := f3.trans f4 fun b hb hlt => by simp at hb; omega
      have f04 : Ext [] g g4 := f2.trans0 f24
      have bg4 := f04.get bg (by simp)
      refine ⟨s, by rw [addr_mk, rd_blk bg4]; rfl, ?_⟩
      refine ⟨_, by rw [addr_mk, rd_blk b4]; rfl, ?_⟩
      refine newI fun g5 z5 b5 f5 => ?_
      have og5 := (og.ext0 f04).ext0 f5
      have hgz := eg.sz
      have hz05 := (f04.trans0 f5).sz
      have hln : (tidsL ((M.rng a b).1.take i)).length ≤ 2 ^ 30 := by
        unfold tidsL
        have := List.length_filterMap_le entP ((M.rng a b).1.take i)
        rw [List.length_take] at this
        omega
      rw [hsp] at b5
      refine oneG (k := t) encIL_len encIL_one zcInt (by decide) og5 b5 hln (by omega) fun s6 g6 o6 d6 hb6 => ?_
      have sub5 := og5.blk
      have e912z := e912.sz
      have hb9 := blk_lt b12'
      have bg6 := d6.get (f5.get bg4 (by simp)) (fun hm => by have := sub5 _ hm; omega)
      refine st_blk bg6 (by simp) fun g7 z7 c7 d7 => ?_
      have c7' : Blk g7 h9.size #[.slice s6.a s6.n s6.c, .slice sn.a sn.n sn.c] T_liveryref11_Span := c7
      rw [wrap64 (by omega) (by omega)]
      refine ih (i + 1) g7 s6 (by omega) ?_ c7' ?_
      · exact (((eg.trans0 f04).trans0 f5).trans d6 fun b hb hlt => by have := sub5 b hb; omega).trans d7 fun b hb _ => hb
      · rw [htid]
        refine o6.ext d7 fun ad ha hm => ?_
        have := o6.blk _ (mem_sBlk.2 ⟨ad, ha, rfl⟩)
        simp at hm
        omega
  exact key (M.rng a b).1.length 0 h12 ⟨none, 0, 0⟩ (by omega) (Ext.refl _ _) b12' (by rw [List.take_zero]; exact Own.nil _ _)
/-- Nothing is told. -/
theorem noSpan {b : Nat} {c : Array Value} {T : TypeId} {V : Value → Hp → Prop} {s t : Sl} (hb : Blk h b c T) (hc : c.size = 2) (H : ∀ g, Ext [b] h g → V (aggS s t) g) :
    stOk h (Addr.mk b 0 none) 2 ∧ wth (wrs h (Addr.mk b 0 none) 0 [(Value.slice s.a s.n s.c), (Value.slice t.a t.n t.c)]) fun h22 =>
    ∃ l23 : Sl, rd h22 (Addr.add (Addr.mk b 0 none) 0) = some (Value.slice l23.a l23.n l23.c) ∧ ∃ l24 : Sl, rd h22 (Addr.add (Addr.mk b 0 none) 1) = some (Value.slice l24.a l24.n l24.c) ∧ V (Value.agg #[(Value.slice l23.a l23.n l23.c), (Value.slice l24.a l24.n l24.c)]) h22 := by
  refine st_blk hb (by omega) fun g z bg e => ?_
  have hp : putAt c 0 [(Value.slice s.a s.n s.c), (Value.slice t.a t.n t.c)] = #[(Value.slice s.a s.n s.c), (Value.slice t.a t.n t.c)] := by
    obtain ⟨l⟩ := c
    simp only [List.size_toArray] at hc
    obtain ⟨x, y, rfl⟩ : ∃ x y, l = [x, y] := by
      match l, hc with
      | [x, y], _ => exact ⟨x, y, rfl⟩
    simp [putAt]
  rw [hp] at bg
  exact ⟨s, by rw [addr_mk, rd_blk bg]; rfl, t, by rw [addr_mk, rd_blk bg]; rfl, H g e⟩
theorem findRB {v : V4} (hb : Bo lo sv h x q M M') (ok : OkM M n) (hn : n < 2 ^ 15) (hk : KE M) (km : KM M) (hv : VOk v)
    (hQ : ∀ h' st sn, Ext [] h h' → Own T_int 1 encIL h.size h' st (findP M v).1 → Own T_int 1 encIL h.size h' sn (findP M v).2 → Q [aggS st sn] h') : S_liveryref11_Index_Find (some ⟨q, 0, none⟩) v.k v.n v.f v.s h Q := by
  refine O_liveryref11_Index_Find _ _ _ _ _ ?_
  unfold F_liveryref11_Index_Find
  refine newI fun h1 s1 b1' e1 => newI fun h2 s2 b2 e2 => ?_
  have b1 : Blk h2 h.size (cells4 v) T_api_Value := e2.get b1' (by simp)
  have e02 := e1.trans0 e2
  refine rdV b1 ?_
  refine LeastR_s v hv fun h7 e7 => ⟨_, _, rfl, ?_⟩
  refine rdV (e7.get b1 (by simp)) ?_
  refine AfterR_s v hv fun h15 e15 => ⟨_, _, rfl, ?_⟩
  have e215 := e7.trans0 e15
  have e015 := e02.trans0 e215
  have b215 := e215.get b2 (by simp)
  intro J hJ
  rw [entry_err, after_err]
  unfold findP at hQ
  cases hgd : goodX v with
  | false =>
    rw [hgd] at hQ
    rw [if_pos (by simp)]
    refine hJ _ _ ?_
    rw [if_pos rfl]
    refine noSpan (s := ⟨none, 0, 0⟩) (t := ⟨none, 0, 0⟩) (V := fun u g => Q [u] g) b215 rfl fun g eg => ?_
    exact hQ g ⟨none, 0, 0⟩ ⟨none, 0, 0⟩ (e015.trans eg fun b hb hlt => by simp at hb; omega) (Own.nil _ _) (Own.nil _ _)
  | true =>
    rw [hgd] at hQ
    rw [if_neg (by simp)]
    have hz := e015.sz
    have k : J [.bool false] h15 := by
      refine hJ _ _ ?_
      rw [if_neg (by decide)]
      refine span_s (hb.e0 e015) ok hn hk _ _ (km _ _).2 fun h' st sn e' ot on => ⟨st, sn, rfl, ?_⟩
      have ts := own_ltG ot
      have ns := own_ltG on
      have hb2 := blk_lt b215
      refine noSpan (s := st) (t := sn) (V := fun u g => Q [u] g) (e'.get b215 (by simp)) rfl fun g eg => ?_
      refine hQ g st sn ((e015.trans0 e').trans eg fun b hb hlt => by simp at hb; omega) ((ot.ext eg fun ad ha hm => ?_).mono hz) ((on.ext eg fun ad ha hm => ?_).mono hz)
      · have := ts _ (mem_sBlk.2 ⟨ad, ha, rfl⟩)
        simp at hm
        omega
      · have := ns _ (mem_sBlk.2 ⟨ad, ha, rfl⟩)
        simp at hm
        omega
    simpa using k
theorem rangeRB {v w : V4} (hb : Bo lo sv h x q M M') (ok : OkM M n) (hn : n < 2 ^ 15) (hk : KE M) (km : KM M) (hv : VOk v) (hw : VOk w)
    (hQ : ∀ h' st sn, Ext [] h h' → Own T_int 1 encIL h.size h' st (rangeP M v w).1 → Own T_int 1 encIL h.size h' sn (rangeP M v w).2 → Q [aggS st sn] h') : S_liveryref11_Index_Range (some ⟨q, 0, none⟩) v.k v.n v.f v.s w.k w.n w.f w.s h Q := by
  refine O_liveryref11_Index_Range _ _ _ _ _ _ _ _ _ ?_
  unfold F_liveryref11_Index_Range
  refine newI fun h1 s1 b1' e1 => newI fun h2 s2 b2' e2 => newI fun h3 s3 b3 e3 => ?_
  have b1 : Blk h3 h.size (cells4 v) T_api_Value := e3.get (e2.get b1' (by simp)) (by simp)
  have b2 : Blk h3 h1.size (cells4 w) T_api_Value := e3.get b2' (by simp)
  have e03 := (e1.trans0 e2).trans0 e3
  refine rdV b1 ?_
  refine LeastR_s v hv fun h7 e7 => ⟨_, _, rfl, ?_⟩
  refine rdV (e7.get b2 (by simp)) ?_
  refine LeastR_s w hw fun h15 e15 => ⟨_, _, rfl, ?_⟩
  have e315 := e7.trans0 e15
  have e015 := e03.trans0 e315
  have b315 := e315.get b3 (by simp)
  intro J hJ
  rw [entry_err, entry_err]
  have bad : rangeP M v w = ([], []) → ∀ g0, Ext [] h15 g0 → J [.bool true] g0 := fun hno g0 eg0 => by
    refine hJ _ _ ?_
    rw [if_pos rfl]
    rw [hno] at hQ
    refine noSpan (s := ⟨none, 0, 0⟩) (t := ⟨none, 0, 0⟩) (V := fun u g => Q [u] g) (eg0.get b315 (by simp)) rfl fun g eg => ?_
    exact hQ g ⟨none, 0, 0⟩ ⟨none, 0, 0⟩ ((e015.trans0 eg0).trans eg fun b hb hlt => by simp at hb; omega) (Own.nil _ _) (Own.nil _ _)
  cases hgd : goodX v with
  | false =>
    rw [if_pos (by simp)]
    exact bad (by unfold rangeP; rw [if_neg (by simp [hgd])]) h15 (Ext.refl _ _)
  | true =>
    rw [if_neg (by simp)]
    cases hgw : goodX w with
    | false =>
      rw [if_pos (by simp)]
      exact bad (by unfold rangeP; rw [if_neg (by simp [hgw])]) h15 (Ext.refl _ _)
    | true =>
      rw [if_neg (by simp)]
      refine rdV (e315.get b1 (by simp)) ?_
      refine rdV (e315.get b2 (by simp)) ?_
      refine CmpV_s v w fun h17 e17 => ⟨_, rfl, ?_⟩
      by_cases hc : 0 ≤ cmpV v w
      · rw [show (decide (cmpV v w ≥ 0)) = true by simpa using hc]
        refine bad ?_ h17 e17
        unfold rangeP
        rw [if_pos ⟨hgd, hgw⟩, rng_none hv hw hgd hgw hc]
        rfl
      · rw [show (decide (cmpV v w ≥ 0)) = false by simpa using hc]
        refine hJ _ _ ?_
        rw [if_neg (by decide)]
        unfold rangeP at hQ
        rw [if_pos ⟨hgd, hgw⟩] at hQ
        have e017 := e015.trans0 e17
        have hz := e017.sz
        refine span_s (hb.e0 e017) ok hn hk _ _ (km _ _).2 fun h' st sn e' ot on => ⟨st, sn, rfl, ?_⟩
        have ts := own_ltG ot
        have ns := own_ltG on
        have hb2 := blk_lt (e17.get b315 (by simp))
        refine noSpan (s := st) (t := sn) (V := fun u g => Q [u] g) ((e17.trans0 e').get b315 (by simp)) rfl fun g eg => ?_
        refine hQ g st sn ((e017.trans0 e').trans eg fun b hb hlt => by simp at hb; omega) ((ot.ext eg fun ad ha hm => ?_).mono hz) ((on.ext eg fun ad ha hm => ?_).mono hz)
        · have := ts _ (mem_sBlk.2 ⟨ad, ha, rfl⟩)
          simp at hm
          omega
        · have := ns _ (mem_sBlk.2 ⟨ad, ha, rfl⟩)
          simp at hm
          omega
theorem NewB {fan : Int} (hf : 2 ≤ fan ∧ fan ≤ 64) {x : Nat} (hx : Ix lo (fun _ => False) h x ⟨fan, 2, [⟨1, ByteArray.mk #[], []⟩]⟩)
    (hQ : ∀ h' q, Bo lo (fun _ => False) h' x q ⟨fan, 2, [⟨1, ByteArray.mk #[], []⟩]⟩ ⟨fan, 2, [⟨1, ByteArray.mk #[], []⟩]⟩ → Ext [] h h' → Q [.pointer (some ⟨q, 0, none⟩), .int .i64 0] h') : S_liveryref11_New fan h Q := by
  refine O_liveryref11_New _ ?_
  unfold F_liveryref11_New
  refine NewR_s hf hx.le fun h1 r ls R hr e1 hF => ⟨_, _, rfl, ?_⟩
  rw [if_neg (by decide)]
  refine newI fun h2 s2 b2 e2 => ?_
  have hz := e1.sz
  refine hQ h2 h1.size ⟨r, ls, R, hr.ext0 e2, b2, by have := hx.le; omega, fun g => ?_, fun g => g, fun b g => g.elim, hx.grow (e1.trans0 e2) fun b hb => ?_⟩ (e1.trans0 e2)
  · have := rfp_lt hr g
    omega
  · rcases hb with g | g | g
    · exact ⟨Or.inr (hF b g), by have := rfp_lt hr g; omega⟩
    · exact ⟨Or.inr (by omega), by omega⟩
    · exact g.elim
end
end Go.Lift

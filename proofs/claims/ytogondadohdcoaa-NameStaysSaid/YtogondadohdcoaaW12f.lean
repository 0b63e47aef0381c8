/- Names: may one do something; how many others there may be. -/
import Derived.Test.YtogondadohdcoaaW12e
set_option linter.unusedSimpArgs false
set_option linter.unusedVariables false
namespace Go.Lift
open Go Go.Proofs Go.RowKit Go.Shelf
set_option maxRecDepth 100000
section
variable {h h' : Hp} {cb t mb : Nat} {C : NC} {L : LM} {Q : List Value → Hp → Prop}
theorem IndexI_s {f : Nat} {cs : Array Value} {p : Int → Bool} {s : Sl} {xs : List Int} (hs : Reads 1 encIL h s xs) (hl : xs.length ≤ 2 ^ 30)
    (hf : ∀ w g K, Ext [] h g → (∀ g', Ext [] g g' → K [.bool (p w)] g') → Fn PP f ((#[] ++ #[.int .i64 w]) ++ cs) g K)
    (hQ : ∀ h', Ext [] h h' → Q [.int .i64 (idxP p xs 0)] h') : S_slices_IndexFunc_sint_int s f cs h Q := by
  refine O_slices_IndexFunc_sint_int _ _ _ ?_
  unfold F_slices_IndexFunc_sint_int
  have hn := hs.1
  intro X hX
  have key : ∀ d i g, d + i = xs.length → Ext [] h g → idxP p xs 0 = idxP p (xs.drop i) i → X [.int .i64 (i : Int)] g := by
    intro d
    induction d with
    | zero =>
      intro i g hi eg ha
      refine hX _ _ ?_
      rw [if_neg (by simp; omega)]
      have := hQ g eg
      rw [ha, List.drop_of_length_le (by omega)] at this
      exact this
    | succ d ih =>
      intro i g hi eg ha
      refine hX _ _ ?_
      rw [if_pos (by simp; omega)]
      obtain ⟨a, u1, u2⟩ := (hs.ext0 eg).rd encIL_len (i := i) (by omega)
      have u2 := u2 0 (by omega)
      rw [u1]
      simp only [nilW_some, Int.toNat_natCast]
      refine ⟨by omega, by omega, _, by simpa using u2, ?_⟩
      have hd : xs.drop i = xs[i] :: xs.drop (i + 1) := List.drop_eq_getElem_cons (by omega)
      refine hf _ g _ eg fun g3 e3 => ⟨_, rfl, ?_⟩
      generalize xs[i]'(by omega) = v at hd
      rw [hd, idxP_cons] at ha
      by_cases hv : p v = true
      · rw [if_pos hv]
        rw [if_pos hv] at ha
        have := hQ g3 (eg.trans0 e3)
        rw [ha] at this
        exact this
      · rw [if_neg hv]
        rw [if_neg hv] at ha
        rw [wrap64 (by omega) (by omega)]
        have := ih (i + 1) g3 (by omega) (eg.trans0 e3) ha
        simpa using this
  exact key xs.length 0 h (by omega) (Ext.refl _ _) (by simp)
theorem IndexV_s {f : Nat} {cs : Array Value} {p : VW → Bool} {s : Sl} {xs : List VW} (hs : Reads 5 encVW h s xs) (hl : xs.length ≤ 2 ^ 30)
    (hf : ∀ (w : VW) g K, Ext [] h g → (∀ g', Ext [] g g' → K [.bool (p w)] g') → Fn PP f ((#[] ++ #[.agg #[.int .i64 w.xmin, .int .i64 w.xmax, .string w.t.name, .slice w.t.s.a w.t.s.n w.t.s.c, .int .i64 w.t.rel]]) ++ cs) g K)
    (hQ : ∀ h', Ext [] h h' → Q [.int .i64 (idxP p xs 0)] h') : S_slices_IndexFunc_sname_version_name_version s f cs h Q := by
  refine O_slices_IndexFunc_sname_version_name_version _ _ _ ?_
  unfold F_slices_IndexFunc_sname_version_name_version
  have hn := hs.1
  intro X hX
  have key : ∀ d i g, d + i = xs.length → Ext [] h g → idxP p xs 0 = idxP p (xs.drop i) i → X [.int .i64 (i : Int)] g := by
    intro d
    induction d with
    | zero =>
      intro i g hi eg ha
      refine hX _ _ ?_
      rw [if_neg (by simp; omega)]
      have := hQ g eg
      rw [ha, List.drop_of_length_le (by omega)] at this
      exact this
    | succ d ih =>
      intro i g hi eg ha
      refine hX _ _ ?_
      rw [if_pos (by simp; omega)]
      obtain ⟨a, u1, u2⟩ := rdV (hs.ext0 eg) (i := i) (by omega)
      rw [u1]
      simp only [nilW_some, Int.toNat_natCast]
      refine ⟨by omega, by omega, u2 _ ?_⟩
      have hd : xs.drop i = xs[i] :: xs.drop (i + 1) := List.drop_eq_getElem_cons (by omega)
      refine hf _ g _ eg fun g3 e3 => ⟨_, rfl, ?_⟩
      generalize xs[i]'(by omega) = v at hd
      rw [hd, idxP_cons] at ha
      by_cases hv : p v = true
      · rw [if_pos hv]
        rw [if_pos hv] at ha
        have := hQ g3 (eg.trans0 e3)
        rw [ha] at this
        exact this
      · rw [if_neg hv]
        rw [if_neg hv] at ha
        rw [wrap64 (by omega) (by omega)]
        have := ih (i + 1) g3 (by omega) (eg.trans0 e3) ha
        simpa using this
  exact key xs.length 0 h (by omega) (Ext.refl _ _) (by simp)
theorem may1 {b : Nat} (hC : ClAt h cb L) (hb : Blk h b #[.pointer (some ⟨cb, 0, none⟩)] T_pclog_Log) (w : Int) (hQ : ∀ h', Ext [] h h' → Q [.bool (decide ((txL L w).state = 1))] h') : Fn PP 29 ((#[] ++ #[.int .i64 w]) ++ #[.pointer (some ⟨b, 0, none⟩)]) h Q := by
  refine O_name_Names_May_1 w ⟨b, 0, none⟩ ?_
  unfold F_name_Names_May_1
  refine ⟨_, by rw [rd_blk hb]; rfl, State_s hC w fun h1 e1 => ⟨_, rfl, ?_⟩⟩
  have e : ((txL L w).state == 1) = decide ((txL L w).state = 1) := by rw [Bool.eq_iff_iff]; simp
  rw [e]
  exact hQ h1 e1
theorem unseen_len {N : NM} {x : Int} {k : ByteArray} : (unseenN L N x k).length ≤ 2 * (vsN N k).length := by
  unfold unseenN sortI
  rw [List.length_mergeSort]
  have := (foldV_nd (L := L) (x := x) (vsN N k) [] (by simp)).2
  unfold metsV
  simpa using this
theorem May_s (hC : ClAt h cb L) (hN : NmS h t mb C) (x : Int) (k : ByteArray) (hl : (lC C k).length ≤ 2 ^ 20)
    (hQ : ∀ h', Ext [] h h' → Q [.int .i64 (mayN L (mN C) x k).1, .int .i64 (mayN L (mN C) x k).2] h') : S_name_Names_May (some ⟨t, 0, none⟩) (some ⟨cb, 0, none⟩) x k h Q := by
  refine O_name_Names_May _ _ _ _ ?_
  unfold F_name_Names_May
  refine newI fun h1 s1 b1 e1 => ?_
  rw [if_neg (by simp)]
  refine ⟨_, by rw [rd_blk b1]; rfl, Unseen_s (hC.ext0 e1) (hN.ext0 e1) x k hl fun h2 s e2 o2 => ⟨s, rfl, ?_⟩⟩
  have hlen : (unseenN L (mN C) x k).length ≤ 2 ^ 21 := by
    have h1 := unseen_len (L := L) (N := mN C) (x := x) (k := k)
    have h2 := congrArg List.length (lC_m C k)
    rw [List.length_map] at h2
    omega
  unfold mayN at hQ
  generalize unseenN L (mN C) x k = l at o2 hQ hlen
  have hr := o2.sl.reads
  have hC2 := hC.ext0 (e1.trans0 e2)
  have b2 : Blk h2 h.size #[.pointer (some ⟨cb, 0, none⟩)] T_pclog_Log := e2.get b1 (by simp)
  refine IndexI_s (p := fun w => decide ((txL L w).state = 1)) hr (by omega) (fun w g K eg hK => may1 (hC2.ext0 eg) (eg.get b2 (by simp)) w hK) fun h3 e3 => ⟨_, rfl, ?_⟩
  have e13 := (e1.trans0 e2).trans0 e3
  have hr3 := hr.ext0 e3
  have hn := hr.1
  have hq := hQ h3 e13
  rcases idxP_find (fun w => decide ((txL L w).state = 1)) l 0 with ⟨q1, q2, _⟩ | ⟨j, q1, _, hj, q2⟩
  · rw [q1, if_neg (by decide)]
    rw [q2] at hq
    cases l with
    | nil =>
      rw [if_neg (by simp [hn])]
      exact hq
    | cons w l =>
      rw [if_pos (by rw [hn]; simp)]
      obtain ⟨a, u1, u2⟩ := hr3.rd encIL_len (i := 0) (by simp)
      have u2 := u2 0 (by omega)
      rw [u1]
      simp only [nilW_some]
      refine ⟨by omega, by rw [hn]; simp, w, by simpa using u2, hq⟩
  · rw [q1, Nat.zero_add, if_pos (by simp)]
    rw [q2] at hq
    obtain ⟨a, u1, u2⟩ := hr3.rd encIL_len (i := j) hj
    have u2 := u2 0 (by omega)
    rw [u1]
    simp only [nilW_some, Int.toNat_natCast]
    exact ⟨by omega, by omega, _, by simpa using u2, hq⟩
theorem others1 {b b' : Nat} {x : Int} (hC : ClAt h cb L) (hb : Blk h b #[.pointer (some ⟨cb, 0, none⟩)] T_pclog_Log) (hb' : Blk h b' #[.int .i64 x] T_int) (v : VW) (hQ : ∀ h', Ext [] h h' → Q [.bool (goneP L x v.m)] h') :
    Fn PP 51 ((#[] ++ #[.agg #[.int .i64 v.xmin, .int .i64 v.xmax, .string v.t.name, .slice v.t.s.a v.t.s.n v.t.s.c, .int .i64 v.t.rel]]) ++ #[.pointer (some ⟨b, 0, none⟩), .pointer (some ⟨b', 0, none⟩)]) h Q := by
  refine O_name_Names_others_1 v.xmin v.xmax v.t.name v.t.s v.t.rel ⟨b, 0, none⟩ ⟨b', 0, none⟩ ?_
  unfold F_name_Names_others_1
  refine newI fun h1 s1 b1 e1 => ?_
  have hC1 := hC.ext0 e1
  intro J hJ
  have key : ∀ g, Ext [] h1 g → J [.bool (decide (v.xmax ≠ 0 ∧ (txL L v.xmax).state = 2) && seesL L x v.xmax)] g := by
    intro g eg
    have bg := eg.get b1 (by simp)
    refine hJ _ _ ⟨_, by rw [rd_blk (eg.get (e1.get hb (by simp)) (by simp))]; rfl, v.xmin, by simp [rd_blk bg], State_s (hC1.ext0 eg) v.xmin fun g1 e2 => ⟨_, rfl, ?_⟩⟩
    have := hQ g1 ((e1.trans0 eg).trans0 e2)
    unfold goneP at this
    by_cases h3 : (txL L v.xmin).state = 3
    · rw [if_neg (by simp [h3])]
      rw [decide_eq_false (by simp [VW.m, h3])] at this
      exact this
    · rw [if_pos (by simp [h3])]
      rw [decide_eq_true (by simp [VW.m, h3])] at this
      exact this
  refine ⟨v.xmax, by simp [rd_blk b1], ?_⟩
  by_cases h0 : v.xmax = 0
  · rw [if_neg (by simp [h0])]
    have := key h1 (Ext.refl _ _)
    rw [decide_eq_false (by simp [h0])] at this
    exact this
  · rw [if_pos (by simp [h0])]
    refine ⟨_, by rw [rd_blk (e1.get hb (by simp))]; rfl, v.xmax, by simp [rd_blk b1], State_s hC1 v.xmax fun h2 e2 => ⟨_, rfl, ?_⟩⟩
    have hk := key h2 e2
    by_cases h2' : (txL L v.xmax).state = 2
    · rw [if_pos (by simp [h2'])]
      refine ⟨_, by rw [rd_blk (e2.get (e1.get hb (by simp)) (by simp))]; rfl, x, by rw [rd_blk (e2.get (e1.get hb' (by simp)) (by simp))]; rfl, v.xmax, by simp [rd_blk (e2.get b1 (by simp))], Sees_s (hC1.ext0 e2) x v.xmax ⟨_, rfl, ?_⟩⟩
      rw [decide_eq_true ⟨h0, h2'⟩, Bool.true_and] at hk
      exact hk
    · rw [if_neg (by simp [h2'])]
      rw [decide_eq_false (by simp [h2'])] at hk
      exact hk
theorem afind_of_mem {K V : Type} [DecidableEq K] {T : List (K × V)} (hn : (T.map Prod.fst).Nodup) {n : K} {q : V} (hm : (n, q) ∈ T) : afind T n = some q := by
  induction T with
  | nil => cases hm
  | cons p T ih =>
    obtain ⟨a, u⟩ := p
    rw [List.map_cons, List.nodup_cons] at hn
    simp only [afind]
    rcases List.mem_cons.1 hm with g | g
    · cases g; simp
    · have : n ≠ a := fun e => hn.1 (e ▸ List.mem_map.2 ⟨_, g, rfl⟩)
      rw [if_neg this]
      exact ih hn.2 g
theorem any_map_m (l : List VW) (q : VM → Bool) : (l.map VW.m).any q = l.any fun v => q v.m := by rw [List.any_map]; rfl
theorem others_s (hC : ClAt h cb L) (hN : NmS h t mb C) (x : Int) (k : ByteArray) (hl : ∀ k, (lC C k).length ≤ 2 ^ 20) (hlC : C.length ≤ 2 ^ 20)
    (hQ : ∀ h', Ext [] h h' → Q [.int .i64 (othersN L (mN C) x k : Nat)] h') : S_name_Names_others (some ⟨t, 0, none⟩) (some ⟨cb, 0, none⟩) x k h Q := by
  refine O_name_Names_others _ _ _ _ ?_
  unfold F_name_Names_others
  refine newI fun h1 s1 b1 e1 => newI fun h2 s2 b2 e2 => ?_
  simp only [nilW_some]
  have e12 := e1.trans0 e2
  have hN2 := hN.ext0 e12
  have hC2 := hC.ext0 e12
  have b1' := e2.get b1 (by simp)
  refine ⟨some mb, hN2.ptr, ?_⟩
  obtain ⟨io, hio, hR⟩ := rangeO_start (r := some mb) (h := h2) (T := amap CN.s C) (ek := ekS) (ev := evS) hN2.outer
  refine ⟨io, hio, newI fun h3 s3 b3 e3 => ?_⟩
  have hmb := hN2.outer.lt
  have hkeys : (mN C).map Prod.fst = (amap CN.s C).map Prod.fst := by rw [keys_amap, keys_amap]
  unfold othersN at hQ
  rw [hkeys] at hQ
  intro X hX
  refine rangeV (ek := ekS) (ev := evS) (T := amap CN.s C) (r := some mb) (A := Int) (va := fun n => [.int .i64 n]) hX
    (fun done n g => Ext [] h2 g ∧ h3.size ≤ g.size ∧ n = (((done.map Prod.fst).filter fun j => decide (j ≠ k) && (vsN (mN C) j).any (goneP L x)).length : Nat)) ?_ ?_ h3 [] 0 ⟨e3, Nat.le_refl _, rfl⟩ (hR b3 e3)
  · rintro done n g ⟨eg, zg, rfl⟩ hp
    have := hQ g (e12.trans0 eg)
    rw [← ((hp.map Prod.fst).filter _).length_eq] at this
    exact this
  · rintro done p n g e g' ⟨eg, zg, hn⟩ ⟨rest, hp⟩ hk hv f1 sz1 hr1 next
    obtain ⟨j, s⟩ := p
    have hmem : (j, s) ∈ amap CN.s C := hp.mem_iff.1 (by simp)
    obtain ⟨⟨j', c⟩, hc, hjc⟩ := List.mem_map.1 hmem
    simp only [Prod.mk.injEq] at hjc
    obtain ⟨rfl, rfl⟩ := hjc
    have hf := afind_of_mem hN.nd hc
    have hlc : lC C j' = c.l := by unfold lC; rw [hf]
    have hplen := hp.length_eq
    have hlen : done.length ≤ 2 ^ 20 := by
      simp only [List.length_append, List.length_cons, List.length_nil, amap, List.length_map] at hplen
      omega
    have hnl : ((done.map Prod.fst).filter fun j => decide (j ≠ k) && (vsN (mN C) j).any (goneP L x)).length ≤ done.length := Nat.le_trans (List.length_filter_le _ _) (by simp)
    have eg' : Ext [] h2 g' := eg.trans f1 fun b hb hlt => by simp at hb; omega
    refine ⟨j', hk, c.s, hv, ?_⟩
    intro J hJ
    have hvs : vsN (mN C) j' = c.l.map VW.m := by rw [← lC_m, hlc]
    have keyJ : ∀ g2, Ext [] h2 g2 → h3.size ≤ g2.size → RangeO ekS evS g2 h2.size (some mb) (amap CN.s C) (done ++ [(j', c.s)]) → J [.bool (decide (j' ≠ k) && (vsN (mN C) j').any (goneP L x))] g2 := by
      intro g2 e2' z2' hr2
      refine hJ _ _ ?_
      by_cases hp : (decide (j' ≠ k) && (vsN (mN C) j').any (goneP L x)) = true
      · rw [if_pos hp, wrap64 (by omega) (by omega)]
        have := next (n + 1) g2 ⟨e2', z2', by rw [List.map_append, List.filter_append, List.length_append, hn]; simp only [List.map_cons, List.map_nil, List.filter_cons, hp, if_true, List.filter_nil, List.length_cons, List.length_nil]; omega⟩ hr2
        simpa using this
      · rw [if_neg hp]
        have := next n g2 ⟨e2', z2', by rw [List.map_append, List.filter_append, List.length_append, hn]; simp only [List.map_cons, List.map_nil, List.filter_cons, hp, List.filter_nil, List.length_nil]; simp⟩ hr2
        exact this
    have ek : (j'.toList == k.toList) = decide (j' = k) := by rw [Bool.eq_iff_iff]; simp only [beq_iff_eq, decide_eq_true_eq]; exact ⟨fun e => toList_inj e, fun e => by rw [e]⟩
    rw [ek]
    by_cases hjk : j' = k
    · rw [if_neg (by simp [hjk])]
      have := keyJ g' eg' (by omega) hr1
      rw [decide_eq_false (by simp [hjk])] at this
      exact this
    · rw [if_pos (by simp [hjk])]
      refine O_slices_ContainsFunc_sname_version_name_version _ _ _ ?_
      unfold F_slices_ContainsFunc_sname_version_name_version
      have hrd : Reads 5 encVW g' c.s c.l := ((hN2.inner j' c hf).sl.reads).ext0 eg'
      refine IndexV_s (p := fun v => goneP L x v.m) hrd (by have := hl j'; rw [hlc] at this; omega) (fun w g2 K e2' hK => others1 (hC2.ext0 (eg'.trans0 e2')) (e2'.get (eg'.get b1' (by simp)) (by simp)) (e2'.get (eg'.get b2 (by simp)) (by simp)) w hK) fun g2 e2' => ⟨_, rfl, _, rfl, ?_⟩
      have := keyJ g2 (eg'.trans0 e2') (by have := e2'.sz; omega) (hr1.ext e2' (by simp) (by simp))
      rw [decide_eq_true hjk, Bool.true_and, hvs, any_map_m] at this
      rcases idxP_find (fun v : VW => goneP L x v.m) c.l 0 with ⟨q1, _, q2⟩ | ⟨i, q1, q2, _⟩
      · rw [q1]
        rw [q2] at this
        exact this
      · rw [q1]
        rw [q2] at this
        have e0 : decide ((((0 + i : Nat)) : Int) ≥ 0) = true := by simp
        rw [e0]
        exact this
end
end Go.Lift

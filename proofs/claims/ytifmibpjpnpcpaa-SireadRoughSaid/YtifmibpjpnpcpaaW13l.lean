/- Things that were read: owners, copies, rough ones, indexes, drops, folds. -/
import Derived.Test.YtifmibpjpnpcpaaW13k
set_option linter.unusedSimpArgs false
set_option linter.unusedVariables false
namespace Go.Lift
open Go Go.Proofs Go.RowKit Go.Shelf
set_option maxRecDepth 100000
section
variable {G : Nat → Prop} {h : Hp} {t m : Nat} {S : SM} {o : Int} {Q : List Value → Hp → Prop}
theorem owners1_s {b : Nat} (y x : ThingM) (hb : Blk h b (encT x).toArray T_siread_Thing) (hQ : ∀ h', Ext [] h h' → Q [.bool (ownP x y)] h') : Fn PP 23 ((#[] ++ #[ekT y]) ++ #[.pointer (some ⟨b, 0, none⟩)]) h Q := by
  refine O_siread_Table_Owners_1 _ _ _ _ _ _ ?_
  unfold F_siread_Table_Owners_1
  refine newI fun h1 s1 b1 e1 => ?_
  have b1' : Blk h1 h.size (encT y).toArray T_siread_Thing := b1
  have hb1 := e1.get hb (by simp)
  refine rd5I b1' ?_
  refine rd5I hb1 ?_
  rw [beqT y x]
  unfold ownP at hQ
  by_cases e : y = x
  · rw [if_pos (by simpa using e)]
    have := hQ h1 e1
    simpa [e] using this
  · rw [if_neg (by simpa using e)]
    simp only [e, decide_false, Bool.false_or] at hQ
    refine rd5I hb1 ?_
    refine fine_s x fun h2 e2 => ⟨_, rfl, ?_⟩
    have b2 := e2.get b1' (by simp)
    have hb2 := e2.get hb1 (by simp)
    have e12 := e1.trans0 e2
    cases hf : fineT x with
    | false =>
      rw [if_neg (by decide)]
      have := hQ h2 e12
      simpa [hf] using this
    | true =>
      rw [if_pos rfl]
      refine rd5I b2 ?_
      refine rd5I hb2 ?_
      refine rel_s x fun h3 e3 => ⟨_, _, _, _, _, rfl, ?_⟩
      have b3 := e3.get b2 (by simp)
      have r : ∀ i, rd h3 (Addr.add (Addr.mk h.size 0 none) i) = (encT y).toArray[i]? := fun i => by rw [addr_mk, rd_blk b3, Nat.zero_add]
      refine ⟨r 0, r 1, r 2, r 3, r 4, ?_⟩
      have := hQ h3 (e12.trans0 e3)
      rw [hf, Bool.true_and, ← beqT] at this
      exact this
theorem rough1_s {b : Nat} (y : ThingM) {r : Int} (hb : Blk h b #[.int .i64 r] T_int) (hQ : ∀ h', Ext [] h h' → Q [.bool (decide (y.kind ≥ 2) && decide (y.rel = r))] h') : Fn PP 26 ((#[] ++ #[ekT y]) ++ #[.pointer (some ⟨b, 0, none⟩)]) h Q := by
  refine O_siread_Table_Rough_1 _ _ _ _ _ _ ?_
  unfold F_siread_Table_Rough_1
  refine newI fun h1 s1 b1 e1 => ?_
  have b1' : Blk h1 h.size (encT y).toArray T_siread_Thing := b1
  have hb1 := e1.get hb (by simp)
  refine ⟨_, (rdT0 b1').1, ?_⟩
  by_cases hk : y.kind ≥ 2
  · rw [if_pos (by simpa using hk)]
    refine ⟨_, (rdT0 b1').2, r, by rw [rd_blk hb1]; rfl, ?_⟩
    have := hQ h1 e1
    rw [decEq]
    simpa [hk] using this
  · rw [if_neg (by simpa using hk)]
    have := hQ h1 e1
    simpa [hk] using this
theorem copy1_s {b : Nat} (y x : ThingM) (hb : Blk h b (encT x).toArray T_siread_Thing) (hQ : ∀ h', Ext [] h h' → Q [.bool (decide (y = x))] h') : Fn PP 38 ((#[] ++ #[ekT y]) ++ #[.pointer (some ⟨b, 0, none⟩)]) h Q := by
  refine O_siread_Table_Copy_1 _ _ _ _ _ _ ?_
  unfold F_siread_Table_Copy_1
  refine newI fun h1 s1 b1 e1 => ?_
  have b1' : Blk h1 h.size (encT y).toArray T_siread_Thing := b1
  have hb1 := e1.get hb (by simp)
  refine rd5I b1' ?_
  refine rd5I hb1 ?_
  rw [beqT y x]
  exact hQ h1 e1
theorem btlInj {a b : ByteArray} (e : a.toList = b.toList) : a = b := by
  have : ∀ s : ByteArray, s.toList = s.data.toList := fun s => ByteArray.toList_eq s
  rw [this, this] at e
  cases a
  cases b
  simp only at e
  congr 1
  exact Array.toList_inj.1 e
theorem btlEq (a b : ByteArray) : (a.toList == b.toList) = decide (a = b) := by
  rw [Bool.eq_iff_iff, beq_iff_eq, decide_eq_true_eq]
  constructor
  · intro e
    exact btlInj e
  · rintro rfl; rfl
theorem index1_s {b b' : Nat} (y : ThingM) {r : Int} {i : ByteArray} (hb : Blk h b #[.int .i64 r] T_int) (hb' : Blk h b' #[.string i] T_string) (hQ : ∀ h', Ext [] h h' → Q [.bool (decide (y.kind = 3) && decide (y.rel = r) && decide (y.index = i))] h') : Fn PP 39 ((#[] ++ #[ekT y]) ++ #[.pointer (some ⟨b, 0, none⟩), .pointer (some ⟨b', 0, none⟩)]) h Q := by
  refine O_siread_Table_Index_1 _ _ _ _ _ _ _ ?_
  unfold F_siread_Table_Index_1
  refine newI fun h1 s1 b1 e1 => ?_
  have b1' : Blk h1 h.size (encT y).toArray T_siread_Thing := b1
  have hb1 := e1.get hb (by simp)
  have hb2 := e1.get hb' (by simp)
  have := hQ h1 e1
  refine ⟨_, (rdT0 b1').1, ?_⟩
  by_cases hk : y.kind = 3
  · rw [if_pos (by simpa using hk)]
    refine ⟨_, (rdT0 b1').2, r, by rw [rd_blk hb1]; rfl, ?_⟩
    by_cases hr : y.rel = r
    · rw [if_pos (by simpa using hr)]
      refine ⟨y.index, by rw [addr_mk, rd_blk b1']; rfl, i, by rw [rd_blk hb2]; rfl, ?_⟩
      rw [btlEq]
      simpa [hk, hr] using this
    · rw [if_neg (by simpa using hr)]
      simpa [hk, hr] using this
  · rw [if_neg (by simpa using hk)]
    simpa [hk] using this
theorem drop1_s (y : ThingM) (hQ : ∀ h', Ext [] h h' → Q [.bool true] h') : Fn PP 40 ((#[] ++ #[ekT y]) ++ #[]) h Q := by
  refine O_siread_Table_Drop_1 _ _ _ _ _ ?_
  unfold F_siread_Table_Drop_1
  exact newI fun h1 s1 b1 e1 => hQ h1 e1
theorem Owners_s {N : Nat} (hS : Sv G h t S) (hok : SOk N S) (x : ThingM) (hQ : ∀ h' s, Ext [] h h' → Own T_int 1 encIL h.size h' s (ownersS S (ownP x)) → Q [.slice s.a s.n s.c] h') : S_siread_Table_Owners (some ⟨t, 0, none⟩) x.kind x.name x.rel x.index x.n h Q := by
  refine O_siread_Table_Owners _ _ _ _ _ _ ?_
  unfold F_siread_Table_Owners
  refine newI fun h1 s1 b1 e1 => ?_
  have b1' : Blk h1 h.size (encT x).toArray T_siread_Thing := b1
  rw [if_neg (by simp)]
  refine ownersV_s (hS.ext0 e1) hok (ownP x) (fun y g K e hK => owners1_s y x (e.get b1' (by simp)) hK) fun h2 s e2 ho => ⟨s, rfl, ?_⟩
  exact hQ h2 s (e1.trans0 e2) (ho.mono (by omega))
/-- The owners that were found, and the view beside them. -/
theorem own_gx {h h' : Hp} {s : Sl} {xs : List Int} {T : TypeId} {lo : Nat} (ho : Own T 1 encIL lo h' s xs) (hlo : h.size ≤ lo) : ∀ b ∈ sBlk s, GX G h h' b := fun b hb => by
  have := own_ltG ho b hb
  exact Or.inr ⟨by omega, this.2⟩
theorem Copy_s {N : Nat} (hS : Sv G h t S) (hok : SOk N S) (hN : N + 201 ≤ 2 ^ 20) (a b : ThingM) (hQ : ∀ h', Sv G h' t (copyS S a b) → KG G h h' → Q [] h') : S_siread_Table_Copy (some ⟨t, 0, none⟩) a.kind a.name a.rel a.index a.n b.kind b.name b.rel b.index b.n h Q := by
  refine O_siread_Table_Copy _ _ _ _ _ _ _ _ _ _ _ ?_
  unfold F_siread_Table_Copy
  refine newI fun h1 s1 b1 e1 => ?_
  refine newI fun h2 s2 b2 e2 => ?_
  have e12 := e1.trans0 e2
  have b1' : Blk h2 h.size (encT a).toArray T_siread_Thing := e2.get b1 (by simp)
  have b2' : Blk h2 h1.size (encT b).toArray T_siread_Thing := b2
  rw [if_neg (by simp)]
  refine ownersV_s (hS.ext0 e12) hok (fun y => decide (y = a)) (fun y g K e hK => copy1_s y a (e.get b1' (by simp)) hK) fun h3 s e3 ho => ⟨s, rfl, ?_⟩
  have e13 := e12.trans0 e3
  have b3 := e3.get b2' (by simp)
  have hS3 := hS.more e13
  have hl := ownersS_len hok fun y => decide (y = a)
  have z3 := e3.sz
  have hGo : ∀ b ∈ sBlk s, GX G h h3 b := own_gx ho (by omega)
  have hGb : GX G h h3 h1.size := Or.inr ⟨by omega, by have := blk_lt b3; omega⟩
  have hn := ho.1
  intro X hX
  refine takes_s (l := ownersS S fun y => decide (y = a)) hS3 hok (by omega) (fun o ho => (ownersS_mem hok _ ho).1) b (fun g hSg hkg => ?_) fun i hi g hkg hst => ?_
  · refine hX _ _ ?_
    rw [if_neg (by simp [hn])]
    exact hQ g (hSg.anti gx_l) ((kg_ext0 e13 hS.1).trans (hkg.anti gx_l))
  · refine hX _ _ ?_
    rw [if_pos (by simp; omega)]
    obtain ⟨ad, ha, hrd⟩ := rdI (ho.kg hkg hGo).sl.reads hi
    rw [ha]
    simp only [nilW_some]
    refine ⟨by omega, by omega, ?_⟩
    rw [Int.toNat_natCast]
    refine ⟨_, hrd, ?_⟩
    refine rd5I (hkg.get b3 hGb) ?_
    exact hst
theorem Rough_s {N : Nat} (hS : Sv G h t S) (hok : SOk N S) (hN : N + 201 ≤ 2 ^ 20) (r r2 : Int) (hQ : ∀ h', Sv G h' t (roughS S r r2) → KG G h h' → Q [] h') : S_siread_Table_Rough (some ⟨t, 0, none⟩) r r2 h Q := by
  refine O_siread_Table_Rough _ _ _ ?_
  unfold F_siread_Table_Rough
  refine newI fun h1 s1 b1 e1 => ?_
  rw [if_neg (by simp)]
  refine ownersV_s (hS.ext0 e1) hok (fun y => decide (y.kind ≥ 2) && decide (y.rel = r)) (fun y g K e hK => rough1_s y (e.get b1 (by simp)) hK) fun h3 s e3 ho => ⟨s, rfl, ?_⟩
  have e13 := e1.trans0 e3
  have hS3 := hS.more e13
  have hl := ownersS_len hok fun y => decide (y.kind ≥ 2) && decide (y.rel = r)
  have hGo : ∀ b ∈ sBlk s, GX G h h3 b := own_gx ho (by omega)
  have hn := ho.1
  intro X hX
  refine takes_s (l := ownersS S fun y => decide (y.kind ≥ 2) && decide (y.rel = r)) hS3 hok (by omega) (fun o ho => (ownersS_mem hok _ ho).1) ⟨2, sE, r2, sE, 0⟩ (fun g hSg hkg => ?_) fun i hi g hkg hst => ?_
  · refine hX _ _ ?_
    rw [if_neg (by simp [hn])]
    exact hQ g (hSg.anti gx_l) ((kg_ext0 e13 hS.1).trans (hkg.anti gx_l))
  · refine hX _ _ ?_
    rw [if_pos (by simp; omega)]
    obtain ⟨ad, ha, hrd⟩ := rdI (ho.kg hkg hGo).sl.reads hi
    rw [ha]
    simp only [nilW_some]
    refine ⟨by omega, by omega, ?_⟩
    rw [Int.toNat_natCast]
    exact ⟨_, hrd, hst⟩
theorem Index_s {N : Nat} (hS : Sv G h t S) (hok : SOk N S) (hN : N + 201 ≤ 2 ^ 20) (r : Int) (ix : ByteArray) (hQ : ∀ h', Sv G h' t (indexS S r ix) → KG G h h' → Q [] h') : S_siread_Table_Index (some ⟨t, 0, none⟩) r ix h Q := by
  refine O_siread_Table_Index _ _ _ ?_
  unfold F_siread_Table_Index
  refine newI fun h1 s1 b1 e1 => ?_
  refine newI fun h2 s2 b2 e2 => ?_
  have e12 := e1.trans0 e2
  have b1' := e2.get b1 (by simp)
  rw [if_neg (by simp)]
  refine ownersV_s (hS.ext0 e12) hok (fun y => decide (y.kind = 3) && decide (y.rel = r) && decide (y.index = ix)) (fun y g K e hK => index1_s y (e.get b1' (by simp)) (e.get b2 (by simp)) hK) fun h3 s e3 ho => ⟨s, rfl, ?_⟩
  have e13 := e12.trans0 e3
  have b3 := e3.get b1' (by simp)
  have hS3 := hS.more e13
  have hl := ownersS_len hok fun y => decide (y.kind = 3) && decide (y.rel = r) && decide (y.index = ix)
  have hGo : ∀ b ∈ sBlk s, GX G h h3 b := own_gx ho (by omega)
  have hGb : GX G h h3 h.size := Or.inr ⟨by omega, by have := blk_lt b3; omega⟩
  have hn := ho.1
  intro X hX
  refine takes_s (l := ownersS S fun y => decide (y.kind = 3) && decide (y.rel = r) && decide (y.index = ix)) hS3 hok (by omega) (fun o ho => (ownersS_mem hok _ ho).1) ⟨2, sE, r, sE, 0⟩ (fun g hSg hkg => ?_) fun i hi g hkg hst => ?_
  · refine hX _ _ ?_
    rw [if_neg (by simp [hn])]
    exact hQ g (hSg.anti gx_l) ((kg_ext0 e13 hS.1).trans (hkg.anti gx_l))
  · refine hX _ _ ?_
    rw [if_pos (by simp; omega)]
    obtain ⟨ad, ha, hrd⟩ := rdI (ho.kg hkg hGo).sl.reads hi
    rw [ha]
    simp only [nilW_some]
    refine ⟨by omega, by omega, ?_⟩
    rw [Int.toNat_natCast]
    exact ⟨_, hrd, r, by rw [rd_blk (hkg.get b3 hGb)]; rfl, hst⟩
theorem Sv.del (hS : Sv G h t S) (o : Int) : ∃ mb, rd h (Addr.add ⟨t, 0, none⟩ 2) = some (.map (some mb)) ∧ ∃ es c, h[mb]? = some (.map es c) ∧ KeysLike (.int .i64 o) es ∧ ∀ h1, Ext [mb] h h1 → h1[mb]? = some (mdel (.int .i64 o) es c) → Sv G h1 t { S with m := adel S.m o } ∧ KG G h h1 := by
  obtain ⟨g1, mb, C, g2, g3, g4⟩ := hS
  obtain ⟨es, c, p1, p2, p3⟩ := g2.outer.del o
  refine ⟨mb, by rw [addr_mk, rd_blk g2.blk]; rfl, es, c, p1, p2, fun h1 he hb => ?_⟩
  have hm := p3 h1 hb
  have hz := he.sz
  have hne := g2.t_ne
  have hfa : ∀ o', afind (adel C o) o' = if o' = o then none else afind C o' := fun o' => afind_adel g2.nd o o'
  have hsub : ∀ o' c', afind (adel C o) o' = some c' → afind C o' = some c' := fun o' c' hf => by
    rw [hfa] at hf
    split at hf
    · cases hf
    · exact hf
  refine ⟨⟨fun b hb => by have := g1 b hb; omega, mb, adel C o, ⟨he.get g2.blk (by simp; exact hne.1.symm), ?_, (adel_nodup g2.nd o).1, fun o' c' hf => ?_, fun o' c' hf => g2.tnd o' c' (hsub _ _ hf), fun o' c' hf => Nat.zero_le _, fun o1 o2 c1 c2 h1 h2 hn => g2.sep o1 o2 c1 c2 (hsub _ _ h1) (hsub _ _ h2) hn, fun o' c' hf => g2.smb o' c' (hsub _ _ hf), Nat.zero_le _, Nat.zero_le _⟩, ?_, ?_⟩, kg_ext he g1 fun b hb => ?_⟩
  · rw [← adel_amap]
    exact hm
  · exact (g2.inner o' c' (hsub _ _ hf)).ext he (by simp; exact g2.smb o' c' (hsub _ _ hf))
  · show amap CM.l (adel C o) = _
    rw [← adel_amap, show amap CM.l C = S.m from g3]
  · intro b hb
    rcases hb with hb | hb | ⟨o', c2, hc2, rfl⟩
    · exact g4 b (Or.inl hb)
    · exact g4 b (Or.inr (Or.inl hb))
    · exact g4 _ (Or.inr (Or.inr ⟨o', c2, hsub _ _ hc2, rfl⟩))
  · simp at hb
    subst hb
    exact g4 _ (Or.inr (Or.inl rfl))
theorem Sv.setCsn (hS : Sv G h t S) (v : Int) {K : Hp → Prop} (H : ∀ h', Sv G h' t { S with csn := v } → KG G h h' → K h') :
    stOk h (Addr.add ⟨t, 0, none⟩ 4) 1 ∧ wth (wrs h (Addr.add ⟨t, 0, none⟩ 4) 0 [.int .i64 v]) K := by
  obtain ⟨g1, mb, C, g2, g3, g4⟩ := hS
  rw [addr_mk]
  refine st_blk g2.blk (by simp) fun h1 s1 b1 e1 => H h1 ⟨fun b hb => by have := g1 b hb; omega, mb, C, g2.setT b1 e1, g3, g4⟩ (kg_ext e1 g1 fun b hb => ?_)
  simp at hb
  subst hb
  exact g4 _ (Or.inl rfl)
theorem Drop_s {N : Nat} (hS : Sv G h t S) (hok : SOk N S) (hN : N ≤ 2 ^ 20) (o : Int) (hQ : ∀ h', Sv G h' t (dropS S o) → KG G h h' → Q [] h') : S_siread_Table_Drop (some ⟨t, 0, none⟩) o h Q := by
  refine O_siread_Table_Drop _ _ ?_
  unfold F_siread_Table_Drop
  rw [if_neg (by simp)]
  refine loseV_s hS hok hN (fun _ => true) (fun y g K _ hK => drop1_s y hK) fun h2 hS2 hk2 => ⟨rfl, ?_⟩
  simp only [nilW_some]
  obtain ⟨mb, r1, es, c, p1, p2, p3⟩ := hS2.del o
  refine ⟨_, r1, mb, es, c, rfl, p1, p2, setI p1 fun h3 s3 b3 e3 => ?_⟩
  obtain ⟨hS3, hk3⟩ := p3 h3 e3 b3
  have hd : dropS S o = { loseS S o (fun _ => true) with m := adel (loseS S o fun _ => true).m o, csn := if o = 0 then 0 else (loseS S o fun _ => true).csn } := rfl
  by_cases e : o = 0
  · rw [if_pos (by simpa using e)]
    refine hS3.setCsn 0 fun h4 hS4 hk4 => hQ h4 ?_ ((hk2.trans hk3).trans hk4)
    rw [hd, if_pos e]
    exact hS4
  · rw [if_neg (by simpa using e)]
    refine hQ h3 ?_ (hk2.trans hk3)
    rw [hd, if_neg e]
    exact hS3
theorem mxI_max (a b : Int) : mxI a b = max a b := by unfold mxI; split <;> omega
theorem Fold_s {N : Nat} (hS : Sv G h t S) (hok : SOk N S) (hN : N ≤ 2 ^ 20) (o csn : Int) (hQ : ∀ h', Sv G h' t (foldS S o csn) → KG G h h' → Q [] h') : S_siread_Table_Fold (some ⟨t, 0, none⟩) o csn h Q := by
  refine O_siread_Table_Fold _ _ _ ?_
  unfold F_siread_Table_Fold
  intro J hJ
  rw [if_neg (by simp)]
  refine one_s o ⟨_, rfl, ?_⟩
  refine hJ _ _ ?_
  by_cases ho : o < 1 ∨ o > 200
  · rw [if_pos (by simp; omega)]
    refine hQ h ?_ (.refl _ _)
    unfold foldS
    rw [if_pos ho]
    exact hS
  · rw [if_neg (by simp; omega)]
    refine OfV_s hS hok hN fun h1 s e1 hos => ⟨s, rfl, ?_⟩
    have hS1 := hS.more e1
    have hk1 := kg_ext0 e1 hS.1
    have hGo : ∀ b ∈ sBlk s, GX G h h1 b := fun b hb => by
      have := own_ltG hos b hb
      exact Or.inr ⟨by omega, this.2⟩
    refine Drop_s hS1 hok hN o fun h2 hS2 hk2 => ⟨rfl, ?_⟩
    have hos2 := hos.kg hk2 hGo
    have hn := hos.1
    obtain ⟨d1, d2, d3, d4, d5, d6, d7⟩ := dropS_ok hok (o := o) (by omega)
    have hl : (ofS S o).length = (thgs S.m o).length := sortC_len
    have hb2 := hok.bnd
    intro X hX
    simp only [nilW_some] at hX
    refine loopI (ofS S o).length (fun i g => Sv (GX G h h1) g t (((ofS S o).take i).foldl (fun S x => takeS S 0 x) (dropS S o)) ∧ KG (GX G h h1) h2 g) (fun g hI => ?_) (fun i g hi hI hnext => ?_) h2 ⟨hS2, .refl _ _⟩
    · refine hX _ _ ?_
      rw [if_neg (by simp [hn])]
      obtain ⟨hSg, hkg⟩ := hI
      rw [List.take_of_length_le (Nat.le_refl _)] at hSg
      refine ⟨_, hSg.fld.2.2.2, ?_⟩
      refine hSg.setCsn _ fun h3 hS3 hk3 => hQ h3 ?_ (((hk1.trans (hk2.anti gx_l)).trans (hkg.anti gx_l)).trans (hk3.anti gx_l))
      rw [mxI_max] at hS3
      unfold foldS
      rw [if_neg ho]
      exact hS3.anti gx_l
    · refine hX _ _ ?_
      rw [if_pos (by simp; omega)]
      obtain ⟨hSg, hkg⟩ := hI
      obtain ⟨a, ha, hrd⟩ := rdT (hos2.kg hkg hGo).sl.reads hi
      rw [ha]
      simp only [nilW_some]
      refine ⟨by omega, by omega, ?_⟩
      rw [Int.toNat_natCast]
      refine hrd _ ?_
      refine cellT (x := (ofS S o)[i]) rfl fun g2 e3 z3 b3 => ?_
      refine rd5I b3 ?_
      obtain ⟨ok1, _⟩ := foldTakes_ok ((ofS S o).take i) (d1.up (Nat.le_refl _))
      refine take_s (hSg.ext0 e3) ok1 (by rw [List.length_take]; omega) (by omega) _ fun g3 hS3 hk3 => ⟨rfl, ?_⟩
      rw [wrap64 (by omega) (by omega)]
      refine hnext g3 ⟨?_, (hkg.trans (kg_ext0 e3 hSg.1)).trans hk3⟩
      rw [List.take_add_one, List.getElem?_eq_getElem hi, List.foldl_append]
      exact hS3
end
end Go.Lift

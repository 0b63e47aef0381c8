/- slices.Insert of one element, slices.Delete of one: strings, and pointers to leaves. -/
import Derived.Test.YtmlcjckocgnjfaaGreatDoorL10a
set_option linter.unusedSimpArgs false
set_option linter.unusedVariables false
namespace Go.Lift
open Go Go.Proofs
set_option maxRecDepth 100000
section
variable {h : Hp} {Q : List Value → Hp → Prop}
theorem overlaps_str_s {b1 b2 o1 o2 n1 c1 n2 c2 : Nat} {x1 x2 : Array Value} {T1 T2 : TypeId} (h1 : Blk h b1 x1 T1) (h2 : Blk h b2 x2 T2) (hne : b1 ≠ b2) (hQ : Q [.bool false] h) :
    S_slices_overlaps_string ⟨some ⟨b1, o1, none⟩, n1, c1⟩ ⟨some ⟨b2, o2, none⟩, n2, c2⟩ h Q := by
  refine fn_extern Tryz.func66 (by kernel_rfl) (by kernel_rfl) (by kernel_rfl) (e := Extern.SlicesOverlaps.overlaps Tryz.f66.params Tryz.f66.resultTypes) (by kernel_rfl) (overlaps_sem (P := PP) (t := 83) (e := T_string) (sz := 1) (by kernel_rfl) (by kernel_rfl) (by kernel_rfl) h1 h2 hne ?_)
  exact ⟨[.bool false], rfl, hQ⟩
theorem zc_str : (zc PP T_string).size = 1 := by kernel_rfl
theorem zo_str : (zc PP T_string).toList.all oneCell = true := by kernel_rfl
theorem zeros_len_str (k : Nat) : (Builtin.zeroCells (zc PP T_string) k).toList.length = k := by rw [Array.length_toList, zeroCells_size, zc_str]; omega
theorem zeros_one_str (k : Nat) : ∀ v ∈ (Builtin.zeroCells (zc PP T_string) k).toList, oneCell v = true := by
  intro v hv
  simp only [Builtin.zeroCells, Array.toList_map, List.mem_map] at hv
  obtain ⟨i, _, rfl⟩ := hv
  have h1 := zc_str
  have h2 := zo_str
  rw [List.all_eq_true] at h2
  have : i % (zc PP T_string).size < (zc PP T_string).size := by rw [h1]; exact Nat.mod_lt _ (by decide)
  rw [getElem!_pos (zc PP T_string) _ this]
  exact h2 _ (Array.getElem_mem_toList _)
theorem Insert1_str_s {lo : Nat} {s v : Sl} {vs : List Value} {x : Value} {i bv : Nat} (ho : Own T_string 1 enV lo h s vs) (hva : v.a = some ⟨bv, 0, none⟩) (hvn : v.n = 1) (hvb : Blk h bv #[x] T_string) (hvx : oneCell x = true) (hbs : bv ∉ sBlk s)
    (hone : ∀ u ∈ vs, oneCell u = true) (hi : i ≤ vs.length) (hl : vs.length < 2 ^ 36) (hlo : lo ≤ h.size)
    (hQ : ∀ h' s', Own T_string 1 enV lo h' s' (vs.take i ++ [x] ++ vs.drop i) → Ext (sBlk s) h h' → (∀ b ∈ sBlk s', b ∈ sBlk s ∨ h.size ≤ b) → Q [.slice s'.a s'.n s'.c] h') : S_slices_Insert_sstring_string s (i : Int) v h Q := by
  refine O_slices_Insert_sstring_string _ _ _ ?_
  unfold F_slices_Insert_sstring_string
  have hn := ho.1
  have hcv : ∀ g, Ext [] h g → cellsAt g v.a 1 [x] := by
    intro g e
    have := cellsAt_blk (e.get hvb (by simp)) (o := 0) (n := 1) (by simp)
    rw [hva]
    simpa using this
  refine ⟨by omega, ?_⟩
  rw [hvn, if_neg (by decide)]
  by_cases hin : i = vs.length
  · rw [if_pos (by simp; omega)]
    refine ⟨[x], by simpa using hcv h (Ext.refl _ _), ?_⟩
    refine app_own (ys := [x]) ho zc_str enV_len ?_ rfl rfl (show (s.n + 1) * 16 ≤ 2 ^ 47 by omega) (show s.n + 1 ≤ 2 ^ 47 by omega) hlo fun s' h' ho' he' hn' hb' => ?_
    · intro y hy u hu
      simp at hy hu; subst hu; subst hy; exact hvx
    · refine hQ h' s' ?_ he' hb'
      rw [hin, List.take_length, List.drop_length, List.append_nil]
      exact ho'
  · rw [if_neg (by simp; omega)]
    have hne : s.a ≠ none := by
      intro e
      have := (ho.2.1 e).1
      subst this
      simp at hi hin
      exact hin hi
    rw [wrap64 (x := (s.n : Int) + ((1 : Nat) : Int)) (by omega) (by omega), wrap64 (x := (s.n : Int) + ((1 : Nat) : Int) - (i : Int)) (by omega) (by omega), wrap64 (x := (i : Int) + ((1 : Nat) : Int)) (by omega) (by omega)]
    have k1 : Int.toNat ((s.n : Int) + ((1 : Nat) : Int) - (i : Int)) = s.n + 1 - i := by omega
    have k2 : Int.toNat ((s.n : Int) + ((1 : Nat) : Int)) = s.n + 1 := by omega
    have k3 : Int.toNat ((i : Int) + ((1 : Nat) : Int)) = i + 1 := by omega
    simp only [k1, k2, k3, Int.toNat_natCast, slAd0, Nat.sub_zero, Nat.mul_one]
    by_cases hroom : s.n + 1 ≤ s.c
    · rw [if_neg (by simp; omega)]
      obtain ⟨js, hjl, hom⟩ := ho.moreV hne (k := 1) (by omega)
      obtain ⟨b, cs, g1, g2, g3, g4, g5, g6, g7⟩ := ownV_open ho hne
      rw [← g7] at hom
      have hLl : (vs ++ js).length = s.n + 1 := by simp; omega
      have hbb : b ∈ sBlk s := by simp [sBlk, g1]
      refine ⟨by omega, by omega, ?_⟩
      rw [hva]
      have e1 : slAd s.a (i + 1) s.c 1 = some ⟨b, i + 1, none⟩ := by rw [g1]; exact slAd_at (by omega)
      rw [e1]
      refine overlaps_str_s hvb g3 (fun e => hbs (e ▸ hbb)) ⟨_, rfl, ?_⟩
      rw [if_pos (by decide), ← e1]
      have m1 : Nat.min (s.n + 1 - i) (s.n + 1 - (i + 1)) = s.n - i := by rw [show s.n + 1 - (i + 1) = s.n - i by omega]; exact Nat.min_eq_right (by omega)
      have m2 : Nat.min 1 (s.n + 1 - i) = 1 := Nat.min_eq_left (by omega)
      rw [m1, m2]
      refine ⟨by omega, by omega, vs.drop i, ?_, ?_⟩
      · have := hom.cellsV hne (o := i) (n := s.n - i) (by omega) (by omega)
        have e2 : ((vs ++ js).drop i).take (s.n - i) = vs.drop i := by
          rw [List.drop_append_of_le_length (by omega), List.take_left' (by simp; omega)]
        rw [e2] at this
        exact this
      · refine hom.cpV hne (o := i + 1) (by simp; omega) (by simp; omega) (by simp; omega) (fun u hu => hone u (List.mem_of_mem_drop hu)) fun h7 ho7 he7 => ?_
        refine ⟨by omega, [x], ?_, ?_⟩
        · have := cellsAt_blk (he7.get hvb hbs) (o := 0) (n := 1) (by simp)
          simpa using this
        · have f0 : ((vs ++ js).take (i + 1)).length = i + 1 := by simp; omega
          have f5 : (vs ++ js).drop (i + 1 + (vs.drop i).length) = [] := List.drop_eq_nil_of_le (by simp; omega)
          rw [f5, List.append_nil] at ho7
          have f1 : ((vs ++ js).take (i + 1) ++ vs.drop i).take i = vs.take i := by
            rw [List.take_append_of_le_length (by omega), List.take_take, Nat.min_eq_left (by omega), List.take_append_of_le_length (by omega)]
          have f2 : ((vs ++ js).take (i + 1) ++ vs.drop i).drop (i + 1) = vs.drop i := List.drop_left' f0
          refine ho7.cpV hne (o := i) (by simp; omega) rfl (by simp) (by intro u hu; simp at hu; subst hu; exact hvx) fun h9 ho9 he9 => ?_
          have f3 : ((vs ++ js).take (i + 1) ++ vs.drop i).drop (i + [x].length) = vs.drop i := f2
          rw [f1, f3] at ho9
          exact hQ h9 ⟨s.a, s.n + 1, s.c⟩ ho9 (he7.trans he9 fun b hb _ => hb) (fun b hb => Or.inl hb)
    · rw [if_pos (by simp; omega)]
      refine ⟨by have := (ownV_open ho hne); obtain ⟨_, _, _, _, _, h4, _⟩ := this; omega, ⟨by omega, by omega, by omega⟩, ?_⟩
      have hsc : vs.length ≤ s.c := by obtain ⟨_, _, _, _, _, h4, _⟩ := ownV_open ho hne; exact h4
      refine app_grow (ys := (Builtin.zeroCells (zc PP T_string) (s.n + 1 - i)).toList) (ho.takeV hi) zc_str enV_len ?_ (flatV _).symm (zeros_len_str _).symm (by simp only; omega) (by simp only; omega) hlo (by simp only; omega) fun s5 h5 ho5 he5 hn5 ha5 hc5 => ?_
      · intro y hy u hu
        simp at hu; subst hu
        exact zeros_one_str _ _ hy
      have hn5 : s5.n = s.n + 1 := by rw [hn5]; simp only; omega
      have hzl := zeros_len_str (s.n + 1 - i)
      generalize (Builtin.zeroCells (zc PP T_string) (s.n + 1 - i)).toList = zs at *
      have hl5 : (vs.take i ++ zs).length = s.n + 1 := by simp; omega
      have hne5 : s5.a ≠ none := by rw [ha5]; simp
      rw [hn5]
      have m1 : Nat.min 1 (s.n + 1 - i) = 1 := Nat.min_eq_left (by omega)
      have m2 : Nat.min (s.n - i) (s.n + 1 - (i + 1)) = s.n - i := by rw [show s.n + 1 - (i + 1) = s.n - i by omega]; exact Nat.min_self _
      rw [m1, m2]
      refine ⟨by omega, [x], hcv h5 he5, ?_⟩
      refine ho5.cpV hne5 (by rw [hl5]; simp; omega) rfl (by simp) (by intro u hu; simp at hu; subst hu; exact hvx) fun h7 ho7 he7 => ?_
      refine ⟨by omega, by omega, vs.drop i, ?_, ?_⟩
      · have e7 : Ext [] h h7 := he5.trans he7 (by intro b hb hlt; simp [sBlk, ha5] at hb; omega)
        have := (ho.ext0 e7).cellsV hne (o := i) (n := s.n - i) (by omega) (by omega)
        rwa [List.take_of_length_le (by simp; omega)] at this
      · refine ho7.cpV hne5 (by simp; omega) (by simp; omega) (by simp; omega) (fun u hu => hone u (List.mem_of_mem_drop hu)) fun h9 ho9 he9 => ?_
        have e9 : Ext [] h h9 := (he5.trans he7 (by intro b hb hlt; simp [sBlk, ha5] at hb; omega)).trans he9 (by intro b hb hlt; simp [sBlk, ha5] at hb; omega)
        have hti : (vs.take i).length = i := by simp; omega
        have hq := hQ h9 s5 ?_ (e9.mono (by simp)) (fun b hb => by right; simp [sBlk, ha5] at hb; omega)
        · rw [hn5] at hq; exact hq
        · have f1 : (vs.take i ++ zs).take i = vs.take i := List.take_left' hti
          have f2 : (vs.take i ++ [x]).length = i + 1 := by simp; omega
          rw [f1] at ho9
          have f3 : (vs.take i ++ [x] ++ (vs.take i ++ zs).drop (i + [x].length)).take (i + 1) = vs.take i ++ [x] := List.take_left' f2
          have f4 : (vs.take i ++ [x] ++ (vs.take i ++ zs).drop (i + [x].length)).drop (i + 1 + (vs.drop i).length) = [] := List.drop_eq_nil_of_le (by simp; omega)
          rw [f3, f4, List.append_nil] at ho9
          exact ho9
theorem Delete1_str_s {lo : Nat} {s : Sl} {vs : List Value} {i : Nat} (ho : Own T_string 1 enV lo h s vs) (hone : ∀ u ∈ vs, oneCell u = true) (hi : i < vs.length) (hl : vs.length < 2 ^ 36)
    (hQ : ∀ h' s', Own T_string 1 enV lo h' s' (vs.take i ++ vs.drop (i + 1)) → Ext (sBlk s) h h' → s'.a = s.a → Q [.slice s'.a s'.n s'.c] h') : S_slices_Delete_sstring_string s (i : Int) ((i + 1 : Nat) : Int) h Q := by
  refine O_slices_Delete_sstring_string _ _ _ ?_
  unfold F_slices_Delete_sstring_string
  have hn := ho.1
  have hne : s.a ≠ none := by
    intro e
    have := (ho.2.1 e).1
    subst this
    simp at hi
  obtain ⟨b, cs, g1, g2, g3, g4, g5, g6, g7⟩ := ownV_open ho hne
  refine ⟨by omega, ?_⟩
  rw [if_neg (by simp; omega)]
  simp only [Int.toNat_natCast, slAd0, Nat.sub_zero, Nat.mul_one]
  refine ⟨by omega, by omega, vs.drop (i + 1), ?_, ?_⟩
  · by_cases e : i + 1 = s.n
    · rw [show s.n - (i + 1) = 0 by omega, List.drop_eq_nil_of_le (by omega)]
      exact cellsAt_zero _ _
    · have := ho.cellsV hne (o := i + 1) (n := s.n - (i + 1)) (by omega) (by omega)
      rwa [List.take_of_length_le (by simp; omega)] at this
  · refine app_roomV (ho.takeV (Nat.le_of_lt hi)) hne (fun u hu => hone u (List.mem_of_mem_drop hu)) (by simp; omega) (by omega) (by omega) (by omega) fun h2 ho2 he2 => ?_
    have k1 : i + (s.n - (i + 1)) = s.n - 1 := by omega
    rw [k1] at ho2 ⊢
    simp only [Int.toNat_natCast]
    have k2 : s.n - (s.n - 1) = 1 := by omega
    rw [k2, if_neg (by decide)]
    have hz1 := zeros_len_str 1
    obtain ⟨b', w1, w2, w3, w4⟩ := ho2.overV hne (o := s.n - 1) (zs := (Builtin.zeroCells (zc PP T_string) 1).toList) (by simp; omega) (by simp only; omega)
    simp only at w1
    have e1 : slAd s.a (s.n - 1) s.c 1 = some ⟨b', s.n - 1, none⟩ := by rw [w1]; exact slAd_at (by omega)
    refine ⟨by omega, ⟨zo_str, fun a ha => ?_⟩, ?_⟩
    · rw [e1] at ha
      cases ha
      rw [zc_str]
      rw [hz1] at w2
      exact w2
    · rw [e1]
      exact hQ _ ⟨s.a, s.n - 1, s.c⟩ w3 (he2.trans w4 fun b hb _ => hb) rfl
end
section
variable {h : Hp} {Q : List Value → Hp → Prop}
theorem overlaps_ptr_s {b1 b2 o1 o2 n1 c1 n2 c2 : Nat} {x1 x2 : Array Value} {T1 T2 : TypeId} (h1 : Blk h b1 x1 T1) (h2 : Blk h b2 x2 T2) (hne : b1 ≠ b2) (hQ : Q [.bool false] h) :
    S_slices_overlaps_pleaf_one ⟨some ⟨b1, o1, none⟩, n1, c1⟩ ⟨some ⟨b2, o2, none⟩, n2, c2⟩ h Q := by
  refine fn_extern Tryz.func68 (by kernel_rfl) (by kernel_rfl) (by kernel_rfl) (e := Extern.SlicesOverlaps.overlaps Tryz.f68.params Tryz.f68.resultTypes) (by kernel_rfl) (overlaps_sem (P := PP) (t := 89) (e := T_pleaf_one) (sz := 1) (by kernel_rfl) (by kernel_rfl) (by kernel_rfl) h1 h2 hne ?_)
  exact ⟨[.bool false], rfl, hQ⟩
theorem zc_ptr : (zc PP T_pleaf_one).size = 1 := by kernel_rfl
theorem zo_ptr : (zc PP T_pleaf_one).toList.all oneCell = true := by kernel_rfl
theorem zeros_len_ptr (k : Nat) : (Builtin.zeroCells (zc PP T_pleaf_one) k).toList.length = k := by rw [Array.length_toList, zeroCells_size, zc_ptr]; omega
theorem zeros_one_ptr (k : Nat) : ∀ v ∈ (Builtin.zeroCells (zc PP T_pleaf_one) k).toList, oneCell v = true := by
  intro v hv
  simp only [Builtin.zeroCells, Array.toList_map, List.mem_map] at hv
  obtain ⟨i, _, rfl⟩ := hv
  have h1 := zc_ptr
  have h2 := zo_ptr
  rw [List.all_eq_true] at h2
  have : i % (zc PP T_pleaf_one).size < (zc PP T_pleaf_one).size := by rw [h1]; exact Nat.mod_lt _ (by decide)
  rw [getElem!_pos (zc PP T_pleaf_one) _ this]
  exact h2 _ (Array.getElem_mem_toList _)
theorem Insert1_ptr_s {lo : Nat} {s v : Sl} {vs : List Value} {x : Value} {i bv : Nat} (ho : Own T_pleaf_one 1 enV lo h s vs) (hva : v.a = some ⟨bv, 0, none⟩) (hvn : v.n = 1) (hvb : Blk h bv #[x] T_pleaf_one) (hvx : oneCell x = true) (hbs : bv ∉ sBlk s)
    (hone : ∀ u ∈ vs, oneCell u = true) (hi : i ≤ vs.length) (hl : vs.length < 2 ^ 36) (hlo : lo ≤ h.size)
    (hQ : ∀ h' s', Own T_pleaf_one 1 enV lo h' s' (vs.take i ++ [x] ++ vs.drop i) → Ext (sBlk s) h h' → (∀ b ∈ sBlk s', b ∈ sBlk s ∨ h.size ≤ b) → Q [.slice s'.a s'.n s'.c] h') : S_slices_Insert_spleaf_one_pleaf_one s (i : Int) v h Q := by
  refine O_slices_Insert_spleaf_one_pleaf_one _ _ _ ?_
  unfold F_slices_Insert_spleaf_one_pleaf_one
  have hn := ho.1
  have hcv : ∀ g, Ext [] h g → cellsAt g v.a 1 [x] := by
    intro g e
    have := cellsAt_blk (e.get hvb (by simp)) (o := 0) (n := 1) (by simp)
    rw [hva]
    simpa using this
  refine ⟨by omega, ?_⟩
  rw [hvn, if_neg (by decide)]
  by_cases hin : i = vs.length
  · rw [if_pos (by simp; omega)]
    refine ⟨[x], by simpa using hcv h (Ext.refl _ _), ?_⟩
    refine app_own (ys := [x]) ho zc_ptr enV_len ?_ rfl rfl (show (s.n + 1) * 8 ≤ 2 ^ 47 by omega) (show s.n + 1 ≤ 2 ^ 47 by omega) hlo fun s' h' ho' he' hn' hb' => ?_
    · intro y hy u hu
      simp at hy hu; subst hu; subst hy; exact hvx
    · refine hQ h' s' ?_ he' hb'
      rw [hin, List.take_length, List.drop_length, List.append_nil]
      exact ho'
  · rw [if_neg (by simp; omega)]
    have hne : s.a ≠ none := by
      intro e
      have := (ho.2.1 e).1
      subst this
      simp at hi hin
      exact hin hi
    rw [wrap64 (x := (s.n : Int) + ((1 : Nat) : Int)) (by omega) (by omega), wrap64 (x := (s.n : Int) + ((1 : Nat) : Int) - (i : Int)) (by omega) (by omega), wrap64 (x := (i : Int) + ((1 : Nat) : Int)) (by omega) (by omega)]
    have k1 : Int.toNat ((s.n : Int) + ((1 : Nat) : Int) - (i : Int)) = s.n + 1 - i := by omega
    have k2 : Int.toNat ((s.n : Int) + ((1 : Nat) : Int)) = s.n + 1 := by omega
    have k3 : Int.toNat ((i : Int) + ((1 : Nat) : Int)) = i + 1 := by omega
    simp only [k1, k2, k3, Int.toNat_natCast, slAd0, Nat.sub_zero, Nat.mul_one]
    by_cases hroom : s.n + 1 ≤ s.c
    · rw [if_neg (by simp; omega)]
      obtain ⟨js, hjl, hom⟩ := ho.moreV hne (k := 1) (by omega)
      obtain ⟨b, cs, g1, g2, g3, g4, g5, g6, g7⟩ := ownV_open ho hne
      rw [← g7] at hom
      have hLl : (vs ++ js).length = s.n + 1 := by simp; omega
      have hbb : b ∈ sBlk s := by simp [sBlk, g1]
      refine ⟨by omega, by omega, ?_⟩
      rw [hva]
      have e1 : slAd s.a (i + 1) s.c 1 = some ⟨b, i + 1, none⟩ := by rw [g1]; exact slAd_at (by omega)
      rw [e1]
      refine overlaps_ptr_s hvb g3 (fun e => hbs (e ▸ hbb)) ⟨_, rfl, ?_⟩
      rw [if_pos (by decide), ← e1]
      have m1 : Nat.min (s.n + 1 - i) (s.n + 1 - (i + 1)) = s.n - i := by rw [show s.n + 1 - (i + 1) = s.n - i by omega]; exact Nat.min_eq_right (by omega)
      have m2 : Nat.min 1 (s.n + 1 - i) = 1 := Nat.min_eq_left (by omega)
      rw [m1, m2]
      refine ⟨by omega, by omega, vs.drop i, ?_, ?_⟩
      · have := hom.cellsV hne (o := i) (n := s.n - i) (by omega) (by omega)
        have e2 : ((vs ++ js).drop i).take (s.n - i) = vs.drop i := by
          rw [List.drop_append_of_le_length (by omega), List.take_left' (by simp; omega)]
        rw [e2] at this
        exact this
      · refine hom.cpV hne (o := i + 1) (by simp; omega) (by simp; omega) (by simp; omega) (fun u hu => hone u (List.mem_of_mem_drop hu)) fun h7 ho7 he7 => ?_
        refine ⟨by omega, [x], ?_, ?_⟩
        · have := cellsAt_blk (he7.get hvb hbs) (o := 0) (n := 1) (by simp)
          simpa using this
        · have f0 : ((vs ++ js).take (i + 1)).length = i + 1 := by simp; omega
          have f5 : (vs ++ js).drop (i + 1 + (vs.drop i).length) = [] := List.drop_eq_nil_of_le (by simp; omega)
          rw [f5, List.append_nil] at ho7
          have f1 : ((vs ++ js).take (i + 1) ++ vs.drop i).take i = vs.take i := by
            rw [List.take_append_of_le_length (by omega), List.take_take, Nat.min_eq_left (by omega), List.take_append_of_le_length (by omega)]
          have f2 : ((vs ++ js).take (i + 1) ++ vs.drop i).drop (i + 1) = vs.drop i := List.drop_left' f0
          refine ho7.cpV hne (o := i) (by simp; omega) rfl (by simp) (by intro u hu; simp at hu; subst hu; exact hvx) fun h9 ho9 he9 => ?_
          have f3 : ((vs ++ js).take (i + 1) ++ vs.drop i).drop (i + [x].length) = vs.drop i := f2
          rw [f1, f3] at ho9
          exact hQ h9 ⟨s.a, s.n + 1, s.c⟩ ho9 (he7.trans he9 fun b hb _ => hb) (fun b hb => Or.inl hb)
    · rw [if_pos (by simp; omega)]
      refine ⟨by have := (ownV_open ho hne); obtain ⟨_, _, _, _, _, h4, _⟩ := this; omega, ⟨by omega, by omega, by omega⟩, ?_⟩
      have hsc : vs.length ≤ s.c := by obtain ⟨_, _, _, _, _, h4, _⟩ := ownV_open ho hne; exact h4
      refine app_grow (ys := (Builtin.zeroCells (zc PP T_pleaf_one) (s.n + 1 - i)).toList) (ho.takeV hi) zc_ptr enV_len ?_ (flatV _).symm (zeros_len_ptr _).symm (by simp only; omega) (by simp only; omega) hlo (by simp only; omega) fun s5 h5 ho5 he5 hn5 ha5 hc5 => ?_
      · intro y hy u hu
        simp at hu; subst hu
        exact zeros_one_ptr _ _ hy
      have hn5 : s5.n = s.n + 1 := by rw [hn5]; simp only; omega
      have hzl := zeros_len_ptr (s.n + 1 - i)
      generalize (Builtin.zeroCells (zc PP T_pleaf_one) (s.n + 1 - i)).toList = zs at *
      have hl5 : (vs.take i ++ zs).length = s.n + 1 := by simp; omega
      have hne5 : s5.a ≠ none := by rw [ha5]; simp
      rw [hn5]
      have m1 : Nat.min 1 (s.n + 1 - i) = 1 := Nat.min_eq_left (by omega)
      have m2 : Nat.min (s.n - i) (s.n + 1 - (i + 1)) = s.n - i := by rw [show s.n + 1 - (i + 1) = s.n - i by omega]; exact Nat.min_self _
      rw [m1, m2]
      refine ⟨by omega, [x], hcv h5 he5, ?_⟩
      refine ho5.cpV hne5 (by rw [hl5]; simp; omega) rfl (by simp) (by intro u hu; simp at hu; subst hu; exact hvx) fun h7 ho7 he7 => ?_
      refine ⟨by omega, by omega, vs.drop i, ?_, ?_⟩
      · have e7 : Ext [] h h7 := he5.trans he7 (by intro b hb hlt; simp [sBlk, ha5] at hb; omega)
        have := (ho.ext0 e7).cellsV hne (o := i) (n := s.n - i) (by omega) (by omega)
        rwa [List.take_of_length_le (by simp; omega)] at this
      · refine ho7.cpV hne5 (by simp; omega) (by simp; omega) (by simp; omega) (fun u hu => hone u (List.mem_of_mem_drop hu)) fun h9 ho9 he9 => ?_
        have e9 : Ext [] h h9 := (he5.trans he7 (by intro b hb hlt; simp [sBlk, ha5] at hb; omega)).trans he9 (by intro b hb hlt; simp [sBlk, ha5] at hb; omega)
        have hti : (vs.take i).length = i := by simp; omega
        have hq := hQ h9 s5 ?_ (e9.mono (by simp)) (fun b hb => by right; simp [sBlk, ha5] at hb; omega)
        · rw [hn5] at hq; exact hq
        · have f1 : (vs.take i ++ zs).take i = vs.take i := List.take_left' hti
          have f2 : (vs.take i ++ [x]).length = i + 1 := by simp; omega
          rw [f1] at ho9
          have f3 : (vs.take i ++ [x] ++ (vs.take i ++ zs).drop (i + [x].length)).take (i + 1) = vs.take i ++ [x] := List.take_left' f2
          have f4 : (vs.take i ++ [x] ++ (vs.take i ++ zs).drop (i + [x].length)).drop (i + 1 + (vs.drop i).length) = [] := List.drop_eq_nil_of_le (by simp; omega)
          rw [f3, f4, List.append_nil] at ho9
          exact ho9
theorem Delete1_ptr_s {lo : Nat} {s : Sl} {vs : List Value} {i : Nat} (ho : Own T_pleaf_one 1 enV lo h s vs) (hone : ∀ u ∈ vs, oneCell u = true) (hi : i < vs.length) (hl : vs.length < 2 ^ 36)
    (hQ : ∀ h' s', Own T_pleaf_one 1 enV lo h' s' (vs.take i ++ vs.drop (i + 1)) → Ext (sBlk s) h h' → s'.a = s.a → Q [.slice s'.a s'.n s'.c] h') : S_slices_Delete_spleaf_one_pleaf_one s (i : Int) ((i + 1 : Nat) : Int) h Q := by
  refine O_slices_Delete_spleaf_one_pleaf_one _ _ _ ?_
  unfold F_slices_Delete_spleaf_one_pleaf_one
  have hn := ho.1
  have hne : s.a ≠ none := by
    intro e
    have := (ho.2.1 e).1
    subst this
    simp at hi
  obtain ⟨b, cs, g1, g2, g3, g4, g5, g6, g7⟩ := ownV_open ho hne
  refine ⟨by omega, ?_⟩
  rw [if_neg (by simp; omega)]
  simp only [Int.toNat_natCast, slAd0, Nat.sub_zero, Nat.mul_one]
  refine ⟨by omega, by omega, vs.drop (i + 1), ?_, ?_⟩
  · by_cases e : i + 1 = s.n
    · rw [show s.n - (i + 1) = 0 by omega, List.drop_eq_nil_of_le (by omega)]
      exact cellsAt_zero _ _
    · have := ho.cellsV hne (o := i + 1) (n := s.n - (i + 1)) (by omega) (by omega)
      rwa [List.take_of_length_le (by simp; omega)] at this
  · refine app_roomV (ho.takeV (Nat.le_of_lt hi)) hne (fun u hu => hone u (List.mem_of_mem_drop hu)) (by simp; omega) (by omega) (by omega) (by omega) fun h2 ho2 he2 => ?_
    have k1 : i + (s.n - (i + 1)) = s.n - 1 := by omega
    rw [k1] at ho2 ⊢
    simp only [Int.toNat_natCast]
    have k2 : s.n - (s.n - 1) = 1 := by omega
    rw [k2, if_neg (by decide)]
    have hz1 := zeros_len_ptr 1
    obtain ⟨b', w1, w2, w3, w4⟩ := ho2.overV hne (o := s.n - 1) (zs := (Builtin.zeroCells (zc PP T_pleaf_one) 1).toList) (by simp; omega) (by simp only; omega)
    simp only at w1
    have e1 : slAd s.a (s.n - 1) s.c 1 = some ⟨b', s.n - 1, none⟩ := by rw [w1]; exact slAd_at (by omega)
    refine ⟨by omega, ⟨zo_ptr, fun a ha => ?_⟩, ?_⟩
    · rw [e1] at ha
      cases ha
      rw [zc_ptr]
      rw [hz1] at w2
      exact w2
    · rw [e1]
      exact hQ _ ⟨s.a, s.n - 1, s.c⟩ w3 (he2.trans w4 fun b hb _ => hb) rfl
end
end Go.Lift

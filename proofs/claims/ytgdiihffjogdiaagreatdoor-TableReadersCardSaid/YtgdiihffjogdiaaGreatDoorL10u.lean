/- slices.overlaps, slices.Insert of one element, slices.Delete of one, at one cell. -/
import Derived.Test.YtgdiihffjogdiaaGreatDoorW13m
import Derived.Test.YtgdiihffjogdiaaGreatDoorLvS
import Derived.Test.YtgdiihffjogdiaaGreatDoorLf
import Derived.Test.YtgdiihffjogdiaaGreatDoorL10s
set_option linter.unusedSimpArgs false
set_option linter.unusedVariables false
namespace Go.Lift.X
open Go Go.Proofs
set_option maxRecDepth 100000
theorem fn_extern {P : Program} {f : FuncId} {fn : Func} {args : Array Value} {h : Hp} {Q : List Value → Hp → Prop} {e : Array Value → Sem Value} (hf : P.funcs[f]? = some fn) (hname : (fn.name == "runtime.NumGoroutine") = false)
    (hb : fn.body = none) (hn : Extern.findNext fn = none) (he : Extern.find fn = some e) (H : semW P (e args) h fun v h' => ∃ vs, v = packR vs ∧ Q vs h') : Fn P f args h Q := by
  unfold Fn FnD callFunc
  simp only [semW_bind', semW_program, hf, hname, Bool.false_eq_true, if_false, hb, Option.isNone_none, if_true, semW_mark, hn, he, semW_pure]
  exact semW_mono _ (fun v h' hv => hv) _ H
theorem shp_blk {h : Hp} {b : Nat} {c : Array Value} {T : TypeId} {fz : Nat × Nat} (hb : h[b]? = some (.cells c T fz)) : shp h b = some (T, c.size) := by simp [shp, hb]
theorem frz_at {h : Hp} {b : Nat} {c : Array Value} {T : TypeId} (hb : Blk h b c T) (o : Nat) (sp) : frz h ⟨b, o, sp⟩ = false := by simp [frz, hb]
theorem overlaps_sem {P : Program} {params res : Array TypeId} {t e : TypeId} {sz : Nat} (hp : params[0]? = some t) (ht : P.underlying t = some (.slice e)) (hs : szOf P e = some sz) {h : Hp} {b1 b2 o1 o2 n1 c1 n2 c2 : Nat} {x1 x2 : Array Value} {T1 T2 : TypeId}
    (h1 : Blk h b1 x1 T1) (h2 : Blk h b2 x2 T2) (hne : b1 ≠ b2) {K : Value → Hp → Prop} (HK : K (.bool false) h) :
    semW P (Extern.SlicesOverlaps.overlaps params res #[.slice (some ⟨b1, o1, none⟩) n1 c1, .slice (some ⟨b2, o2, none⟩) n2 c2]) h K := by
  conv => arg 2; whnf
  simp only [hp, semW_bind', semW_underlying]
  refine ⟨_, ht, ?_⟩
  simp only [semW_bind', semW_sizeOf]
  refine ⟨sz, hs, ?_⟩
  split
  · exact HK
  · have hb : (b1 != b2) = true := by simpa using hne
    have hb' : (b1 == b2) = false := by simpa using hne
    simp only [semW_bind', semW_frozen, frz_at h1, frz_at h2, Bool.and_false, Bool.false_eq_true, if_false, hb, if_true]
    simp only [noView, viewAt, mayBeOne, stringish, semW_bind', semW_shape, shp_blk h1, shp_blk h2, Option.isSome_some, if_true, semW_pure, semW_frozen, frz_at h1, frz_at h2, Option.isSome_none, Bool.false_eq_true, if_false, Bool.and_false, Bool.false_and, Bool.or_false, hb']
    exact HK
end Go.Lift.X
namespace Go.Lift.X
open Go Go.Proofs
set_option maxRecDepth 100000
set_option maxHeartbeats 4000000
section
variable {h : Hp} {Q : List Value → Hp → Prop}
theorem overlaps_str_s {b1 b2 o1 o2 n1 c1 n2 c2 : Nat} {x1 x2 : Array Value} {T1 T2 : TypeId} (h1 : Blk h b1 x1 T1) (h2 : Blk h b2 x2 T2) (hne : b1 ≠ b2) (hQ : Q [.bool false] h) :
    S_slices_overlaps_string ⟨some ⟨b1, o1, none⟩, n1, c1⟩ ⟨some ⟨b2, o2, none⟩, n2, c2⟩ h Q := by
  refine fn_extern (P := PP) (f := 182) (fn := Tryz.f182) Tryz.func182 (by kernel_rfl) (by kernel_rfl) (by kernel_rfl) (e := Extern.SlicesOverlaps.overlaps Tryz.f182.params Tryz.f182.resultTypes) (by kernel_rfl) (overlaps_sem (P := PP) (t := 230) (e := T_string) (sz := 1) (by kernel_rfl) (by kernel_rfl) (by kernel_rfl) h1 h2 hne ?_)
  exact ⟨[.bool false], rfl, hQ⟩
theorem zc_str : (zc PP T_string).size = 1 := by kernel_rfl
theorem zo_str : (zc PP T_string).toList.all oneCell = true := by kernel_rfl
theorem zeros_len_str (k : Nat) : (Builtin.zeroCells (zc PP T_string) k).toList.length = k := by rw [Array.length_toList, zeroCells_size, zc_str]; omega
theorem zeros_one_str (k : Nat) : ∀ v ∈ (Builtin.zeroCells (zc PP T_string) k).toList, oneCell v = true := by
  intro v hv
  simp only [Builtin.zeroCells, Array.toList_map, List.mem_map] at hv
  obtain ⟨i, _, rfl⟩ := hv
  have h1 := zc_str
  have h2 := zo_str
  rw [List.all_eq_true] at h2
  have : i % (zc PP T_string).size < (zc PP T_string).size := by rw [h1]; exact Nat.mod_lt _ (by decide)
  rw [getElem!_pos (zc PP T_string) _ this]
  exact h2 _ (Array.getElem_mem_toList _)
theorem Insert1_str_s {lo : Nat} {s v : Sl} {vs : List Value} {x : Value} {i bv : Nat} (ho : Own T_string 1 enV lo h s vs) (hva : v.a = some ⟨bv, 0, none⟩) (hvn : v.n = 1) (hvb : Blk h bv #[x] T_string) (hvx : oneCell x = true) (hbs : bv ∉ sBlk s)
    (hone : ∀ u ∈ vs, oneCell u = true) (hi : i ≤ vs.length) (hl : vs.length < 2 ^ 36) (hlo : lo ≤ h.size)
    (hQ : ∀ h' s', Own T_string 1 enV lo h' s' (vs.take i ++ [x] ++ vs.drop i) → Ext (sBlk s) h h' → (∀ b ∈ sBlk s', b ∈ sBlk s ∨ h.size ≤ b) → Q [.slice s'.a s'.n s'.c] h') : S_slices_Insert_sstring_string s (i : Int) v h Q := by
  refine O_slices_Insert_sstring_string _ _ _ ?_
  delta F_slices_Insert_sstring_string rI rB rS rP rM rL vI vB vS vP vM vL vC vA ad nb gb wi bl bz tn isn sib pu oc
  have hn := ho.1
  have hcv : ∀ g, Ext [] h g → cellsAt g v.a 1 [x] := by
    intro g e
    have := cellsAt_blk (e.get hvb (by simp)) (o := 0) (n := 1) (by simp)
    rw [hva]
    simpa using this
  refine ⟨by omega, ?_⟩
  rw [hvn, if_neg (by decide)]
  by_cases hin : i = vs.length
  · rw [if_pos (by simp; omega)]
    refine ⟨[x], by simpa using hcv h (Ext.refl _ _), ?_⟩
    refine app_own (ys := [x]) ho zc_str enV_len ?_ rfl rfl (show (s.n + 1) * 16 ≤ 2 ^ 47 by omega) (show s.n + 1 ≤ 2 ^ 47 by omega) hlo fun s' h' ho' he' hn' hb' => ?_
    · intro y hy u hu
      simp at hy hu; subst hu; subst hy; exact hvx
    · refine hQ h' s' ?_ he' hb'
      rw [hin, List.take_length, List.drop_length, List.append_nil]
      exact ho'
  · rw [if_neg (by simp; omega)]
    have hne : s.a ≠ none := by
      intro e
      have := (ho.2.1 e).1
      subst this
      simp at hi hin
      exact hin hi
    rw [wrap64 (x := (s.n : Int) + ((1 : Nat) : Int)) (by omega) (by omega), wrap64 (x := (s.n : Int) + ((1 : Nat) : Int) - (i : Int)) (by omega) (by omega), wrap64 (x := (i : Int) + ((1 : Nat) : Int)) (by omega) (by omega)]
    have k1 : Int.toNat ((s.n : Int) + ((1 : Nat) : Int) - (i : Int)) = s.n + 1 - i := by omega
    have k2 : Int.toNat ((s.n : Int) + ((1 : Nat) : Int)) = s.n + 1 := by omega
    have k3 : Int.toNat ((i : Int) + ((1 : Nat) : Int)) = i + 1 := by omega
    simp only [k1, k2, k3, Int.toNat_natCast, slAd0, Nat.sub_zero, Nat.mul_one]
    by_cases hroom : s.n + 1 ≤ s.c
    · rw [if_neg (by simp; omega)]
      obtain ⟨js, hjl, hom⟩ := ho.moreV hne (k := 1) (by omega)
      obtain ⟨b, cs, g1, g2, g3, g4, g5, g6, g7⟩ := ownV_open ho hne
      rw [← g7] at hom
      have hLl : (vs ++ js).length = s.n + 1 := by simp; omega
      have hbb : b ∈ sBlk s := by simp [sBlk, g1]
      refine ⟨by omega, by omega, ?_⟩
      rw [hva]
      have e1 : slAd s.a (i + 1) s.c 1 = some ⟨b, i + 1, none⟩ := by rw [g1]; exact slAd_at (by omega)
      rw [e1]
      refine overlaps_str_s hvb g3 (fun e => hbs (e ▸ hbb)) ⟨_, rfl, ?_⟩
      rw [if_pos (by decide), ← e1]
      have m1 : Nat.min (s.n + 1 - i) (s.n + 1 - (i + 1)) = s.n - i := by rw [show s.n + 1 - (i + 1) = s.n - i by omega]; exact Nat.min_eq_right (by omega)
      have m2 : Nat.min 1 (s.n + 1 - i) = 1 := Nat.min_eq_left (by omega)
      rw [m1, m2]
      refine ⟨by omega, by omega, vs.drop i, ?_, ?_⟩
      · have := hom.cellsV hne (o := i) (n := s.n - i) (by omega) (by omega)
        have e2 : ((vs ++ js).drop i).take (s.n - i) = vs.drop i := by
          rw [List.drop_append_of_le_length (by omega), List.take_left' (by simp; omega)]
        rw [e2] at this
        exact this
      · refine hom.cpV hne (o := i + 1) (by simp; omega) (by simp; omega) (by simp; omega) (fun u hu => hone u (List.mem_of_mem_drop hu)) fun h7 ho7 he7 => ?_
        refine ⟨by omega, [x], ?_, ?_⟩
        · have := cellsAt_blk (he7.get hvb hbs) (o := 0) (n := 1) (by simp)
          simpa using this
        · have f0 : ((vs ++ js).take (i + 1)).length = i + 1 := by simp; omega
          have f5 : (vs ++ js).drop (i + 1 + (vs.drop i).length) = [] := List.drop_eq_nil_of_le (by simp; omega)
          rw [f5, List.append_nil] at ho7
          have f1 : ((vs ++ js).take (i + 1) ++ vs.drop i).take i = vs.take i := by
            rw [List.take_append_of_le_length (by omega), List.take_take, Nat.min_eq_left (by omega), List.take_append_of_le_length (by omega)]
          have f2 : ((vs ++ js).take (i + 1) ++ vs.drop i).drop (i + 1) = vs.drop i := List.drop_left' f0
          refine ho7.cpV hne (o := i) (by simp; omega) rfl (by simp) (by intro u hu; simp at hu; subst hu; exact hvx) fun h9 ho9 he9 => ?_
          have f3 : ((vs ++ js).take (i + 1) ++ vs.drop i).drop (i + [x].length) = vs.drop i := f2
          rw [f1, f3] at ho9
          exact hQ h9 ⟨s.a, s.n + 1, s.c⟩ ho9 (he7.trans he9 fun b hb _ => hb) (fun b hb => Or.inl hb)
    · rw [if_pos (by simp; omega)]
      refine ⟨by have := (ownV_open ho hne); obtain ⟨_, _, _, _, _, h4, _⟩ := this; omega, ⟨by omega, by omega, by omega⟩, ?_⟩
      have hsc : vs.length ≤ s.c := by obtain ⟨_, _, _, _, _, h4, _⟩ := ownV_open ho hne; exact h4
      refine app_grow (ys := (Builtin.zeroCells (zc PP T_string) (s.n + 1 - i)).toList) (ho.takeV hi) zc_str enV_len ?_ (flatV _).symm (zeros_len_str _).symm (by simp only; omega) (by simp only; omega) hlo (by simp only; omega) fun s5 h5 ho5 he5 hn5 ha5 hc5 => ?_
      · intro y hy u hu
        simp at hu; subst hu
        exact zeros_one_str _ _ hy
      have hn5 : s5.n = s.n + 1 := by rw [hn5]; simp only; omega
      have hzl := zeros_len_str (s.n + 1 - i)
      generalize (Builtin.zeroCells (zc PP T_string) (s.n + 1 - i)).toList = zs at *
      have hl5 : (vs.take i ++ zs).length = s.n + 1 := by simp; omega
      have hne5 : s5.a ≠ none := by rw [ha5]; simp
      rw [hn5]
      have m1 : Nat.min 1 (s.n + 1 - i) = 1 := Nat.min_eq_left (by omega)
      have m2 : Nat.min (s.n - i) (s.n + 1 - (i + 1)) = s.n - i := by rw [show s.n + 1 - (i + 1) = s.n - i by omega]; exact Nat.min_self _
      rw [m1, m2]
      refine ⟨by omega, [x], hcv h5 he5, ?_⟩
      refine ho5.cpV hne5 (by rw [hl5]; simp; omega) rfl (by simp) (by intro u hu; simp at hu; subst hu; exact hvx) fun h7 ho7 he7 => ?_
      refine ⟨by omega, by omega, vs.drop i, ?_, ?_⟩
      · have e7 : Ext [] h h7 := he5.trans he7 (by intro b hb hlt; simp [sBlk, ha5] at hb; omega)
        have := (ho.ext0 e7).cellsV hne (o := i) (n := s.n - i) (by omega) (by omega)
        rwa [List.take_of_length_le (by simp; omega)] at this
      · refine ho7.cpV hne5 (by simp; omega) (by simp; omega) (by simp; omega) (fun u hu => hone u (List.mem_of_mem_drop hu)) fun h9 ho9 he9 => ?_
        have e9 : Ext [] h h9 := (he5.trans he7 (by intro b hb hlt; simp [sBlk, ha5] at hb; omega)).trans he9 (by intro b hb hlt; simp [sBlk, ha5] at hb; omega)
        have hti : (vs.take i).length = i := by simp; omega
        have hq := hQ h9 s5 ?_ (e9.mono (by simp)) (fun b hb => by right; simp [sBlk, ha5] at hb; omega)
        · rw [hn5] at hq; exact hq
        · have f1 : (vs.take i ++ zs).take i = vs.take i := List.take_left' hti
          have f2 : (vs.take i ++ [x]).length = i + 1 := by simp; omega
          rw [f1] at ho9
          have f3 : (vs.take i ++ [x] ++ (vs.take i ++ zs).drop (i + [x].length)).take (i + 1) = vs.take i ++ [x] := List.take_left' f2
          have f4 : (vs.take i ++ [x] ++ (vs.take i ++ zs).drop (i + [x].length)).drop (i + 1 + (vs.drop i).length) = [] := List.drop_eq_nil_of_le (by simp; omega)
          rw [f3, f4, List.append_nil] at ho9
          exact ho9
end
section
variable {h : Hp} {Q : List Value → Hp → Prop}
theorem overlaps_ptr_s {b1 b2 o1 o2 n1 c1 n2 c2 : Nat} {x1 x2 : Array Value} {T1 T2 : TypeId} (h1 : Blk h b1 x1 T1) (h2 : Blk h b2 x2 T2) (hne : b1 ≠ b2) (hQ : Q [.bool false] h) :
    S_slices_overlaps_pleaf_one ⟨some ⟨b1, o1, none⟩, n1, c1⟩ ⟨some ⟨b2, o2, none⟩, n2, c2⟩ h Q := by
  refine fn_extern (P := PP) (f := 184) (fn := Tryz.f184) Tryz.func184 (by kernel_rfl) (by kernel_rfl) (by kernel_rfl) (e := Extern.SlicesOverlaps.overlaps Tryz.f184.params Tryz.f184.resultTypes) (by kernel_rfl) (overlaps_sem (P := PP) (t := 225) (e := T_pleaf_one) (sz := 1) (by kernel_rfl) (by kernel_rfl) (by kernel_rfl) h1 h2 hne ?_)
  exact ⟨[.bool false], rfl, hQ⟩
theorem zc_ptr : (zc PP T_pleaf_one).size = 1 := by kernel_rfl
theorem zo_ptr : (zc PP T_pleaf_one).toList.all oneCell = true := by kernel_rfl
theorem zeros_len_ptr (k : Nat) : (Builtin.zeroCells (zc PP T_pleaf_one) k).toList.length = k := by rw [Array.length_toList, zeroCells_size, zc_ptr]; omega
theorem zeros_one_ptr (k : Nat) : ∀ v ∈ (Builtin.zeroCells (zc PP T_pleaf_one) k).toList, oneCell v = true := by
  intro v hv
  simp only [Builtin.zeroCells, Array.toList_map, List.mem_map] at hv
  obtain ⟨i, _, rfl⟩ := hv
  have h1 := zc_ptr
  have h2 := zo_ptr
  rw [List.all_eq_true] at h2
  have : i % (zc PP T_pleaf_one).size < (zc PP T_pleaf_one).size := by rw [h1]; exact Nat.mod_lt _ (by decide)
  rw [getElem!_pos (zc PP T_pleaf_one) _ this]
  exact h2 _ (Array.getElem_mem_toList _)
theorem Insert1_ptr_s {lo : Nat} {s v : Sl} {vs : List Value} {x : Value} {i bv : Nat} (ho : Own T_pleaf_one 1 enV lo h s vs) (hva : v.a = some ⟨bv, 0, none⟩) (hvn : v.n = 1) (hvb : Blk h bv #[x] T_pleaf_one) (hvx : oneCell x = true) (hbs : bv ∉ sBlk s)
    (hone : ∀ u ∈ vs, oneCell u = true) (hi : i ≤ vs.length) (hl : vs.length < 2 ^ 36) (hlo : lo ≤ h.size)
    (hQ : ∀ h' s', Own T_pleaf_one 1 enV lo h' s' (vs.take i ++ [x] ++ vs.drop i) → Ext (sBlk s) h h' → (∀ b ∈ sBlk s', b ∈ sBlk s ∨ h.size ≤ b) → Q [.slice s'.a s'.n s'.c] h') : S_slices_Insert_spleaf_one_pleaf_one s (i : Int) v h Q := by
  refine O_slices_Insert_spleaf_one_pleaf_one _ _ _ ?_
  delta F_slices_Insert_spleaf_one_pleaf_one rI rB rS rP rM rL vI vB vS vP vM vL vC vA ad nb gb wi bl bz tn isn sib pu oc
  have hn := ho.1
  have hcv : ∀ g, Ext [] h g → cellsAt g v.a 1 [x] := by
    intro g e
    have := cellsAt_blk (e.get hvb (by simp)) (o := 0) (n := 1) (by simp)
    rw [hva]
    simpa using this
  refine ⟨by omega, ?_⟩
  rw [hvn, if_neg (by decide)]
  by_cases hin : i = vs.length
  · rw [if_pos (by simp; omega)]
    refine ⟨[x], by simpa using hcv h (Ext.refl _ _), ?_⟩
    refine app_own (ys := [x]) ho zc_ptr enV_len ?_ rfl rfl (show (s.n + 1) * 8 ≤ 2 ^ 47 by omega) (show s.n + 1 ≤ 2 ^ 47 by omega) hlo fun s' h' ho' he' hn' hb' => ?_
    · intro y hy u hu
      simp at hy hu; subst hu; subst hy; exact hvx
    · refine hQ h' s' ?_ he' hb'
      rw [hin, List.take_length, List.drop_length, List.append_nil]
      exact ho'
  · rw [if_neg (by simp; omega)]
    have hne : s.a ≠ none := by
      intro e
      have := (ho.2.1 e).1
      subst this
      simp at hi hin
      exact hin hi
    rw [wrap64 (x := (s.n : Int) + ((1 : Nat) : Int)) (by omega) (by omega), wrap64 (x := (s.n : Int) + ((1 : Nat) : Int) - (i : Int)) (by omega) (by omega), wrap64 (x := (i : Int) + ((1 : Nat) : Int)) (by omega) (by omega)]
    have k1 : Int.toNat ((s.n : Int) + ((1 : Nat) : Int) - (i : Int)) = s.n + 1 - i := by omega
    have k2 : Int.toNat ((s.n : Int) + ((1 : Nat) : Int)) = s.n + 1 := by omega
    have k3 : Int.toNat ((i : Int) + ((1 : Nat) : Int)) = i + 1 := by omega
    simp only [k1, k2, k3, Int.toNat_natCast, slAd0, Nat.sub_zero, Nat.mul_one]
    by_cases hroom : s.n + 1 ≤ s.c
    · rw [if_neg (by simp; omega)]
      obtain ⟨js, hjl, hom⟩ := ho.moreV hne (k := 1) (by omega)
      obtain ⟨b, cs, g1, g2, g3, g4, g5, g6, g7⟩ := ownV_open ho hne
      rw [← g7] at hom
      have hLl : (vs ++ js).length = s.n + 1 := by simp; omega
      have hbb : b ∈ sBlk s := by simp [sBlk, g1]
      refine ⟨by omega, by omega, ?_⟩
      rw [hva]
      have e1 : slAd s.a (i + 1) s.c 1 = some ⟨b, i + 1, none⟩ := by rw [g1]; exact slAd_at (by omega)
      rw [e1]
      refine overlaps_ptr_s hvb g3 (fun e => hbs (e ▸ hbb)) ⟨_, rfl, ?_⟩
      rw [if_pos (by decide), ← e1]
      have m1 : Nat.min (s.n + 1 - i) (s.n + 1 - (i + 1)) = s.n - i := by rw [show s.n + 1 - (i + 1) = s.n - i by omega]; exact Nat.min_eq_right (by omega)
      have m2 : Nat.min 1 (s.n + 1 - i) = 1 := Nat.min_eq_left (by omega)
      rw [m1, m2]
      refine ⟨by omega, by omega, vs.drop i, ?_, ?_⟩
      · have := hom.cellsV hne (o := i) (n := s.n - i) (by omega) (by omega)
        have e2 : ((vs ++ js).drop i).take (s.n - i) = vs.drop i := by
          rw [List.drop_append_of_le_length (by omega), List.take_left' (by simp; omega)]
        rw [e2] at this
        exact this
      · refine hom.cpV hne (o := i + 1) (by simp; omega) (by simp; omega) (by simp; omega) (fun u hu => hone u (List.mem_of_mem_drop hu)) fun h7 ho7 he7 => ?_
        refine ⟨by omega, [x], ?_, ?_⟩
        · have := cellsAt_blk (he7.get hvb hbs) (o := 0) (n := 1) (by simp)
          simpa using this
        · have f0 : ((vs ++ js).take (i + 1)).length = i + 1 := by simp; omega
          have f5 : (vs ++ js).drop (i + 1 + (vs.drop i).length) = [] := List.drop_eq_nil_of_le (by simp; omega)
          rw [f5, List.append_nil] at ho7
          have f1 : ((vs ++ js).take (i + 1) ++ vs.drop i).take i = vs.take i := by
            rw [List.take_append_of_le_length (by omega), List.take_take, Nat.min_eq_left (by omega), List.take_append_of_le_length (by omega)]
          have f2 : ((vs ++ js).take (i + 1) ++ vs.drop i).drop (i + 1) = vs.drop i := List.drop_left' f0
          refine ho7.cpV hne (o := i) (by simp; omega) rfl (by simp) (by intro u hu; simp at hu; subst hu; exact hvx) fun h9 ho9 he9 => ?_
          have f3 : ((vs ++ js).take (i + 1) ++ vs.drop i).drop (i + [x].length) = vs.drop i := f2
          rw [f1, f3] at ho9
          exact hQ h9 ⟨s.a, s.n + 1, s.c⟩ ho9 (he7.trans he9 fun b hb _ => hb) (fun b hb => Or.inl hb)
    · rw [if_pos (by simp; omega)]
      refine ⟨by have := (ownV_open ho hne); obtain ⟨_, _, _, _, _, h4, _⟩ := this; omega, ⟨by omega, by omega, by omega⟩, ?_⟩
      have hsc : vs.length ≤ s.c := by obtain ⟨_, _, _, _, _, h4, _⟩ := ownV_open ho hne; exact h4
      refine app_grow (ys := (Builtin.zeroCells (zc PP T_pleaf_one) (s.n + 1 - i)).toList) (ho.takeV hi) zc_ptr enV_len ?_ (flatV _).symm (zeros_len_ptr _).symm (by simp only; omega) (by simp only; omega) hlo (by simp only; omega) fun s5 h5 ho5 he5 hn5 ha5 hc5 => ?_
      · intro y hy u hu
        simp at hu; subst hu
        exact zeros_one_ptr _ _ hy
      have hn5 : s5.n = s.n + 1 := by rw [hn5]; simp only; omega
      have hzl := zeros_len_ptr (s.n + 1 - i)
      generalize (Builtin.zeroCells (zc PP T_pleaf_one) (s.n + 1 - i)).toList = zs at *
      have hl5 : (vs.take i ++ zs).length = s.n + 1 := by simp; omega
      have hne5 : s5.a ≠ none := by rw [ha5]; simp
      rw [hn5]
      have m1 : Nat.min 1 (s.n + 1 - i) = 1 := Nat.min_eq_left (by omega)
      have m2 : Nat.min (s.n - i) (s.n + 1 - (i + 1)) = s.n - i := by rw [show s.n + 1 - (i + 1) = s.n - i by omega]; exact Nat.min_self _
      rw [m1, m2]
      refine ⟨by omega, [x], hcv h5 he5, ?_⟩
      refine ho5.cpV hne5 (by rw [hl5]; simp; omega) rfl (by simp) (by intro u hu; simp at hu; subst hu; exact hvx) fun h7 ho7 he7 => ?_
      refine ⟨by omega, by omega, vs.drop i, ?_, ?_⟩
      · have e7 : Ext [] h h7 := he5.trans he7 (by intro b hb hlt; simp [sBlk, ha5] at hb; omega)
        have := (ho.ext0 e7).cellsV hne (o := i) (n := s.n - i) (by omega) (by omega)
        rwa [List.take_of_length_le (by simp; omega)] at this
      · refine ho7.cpV hne5 (by simp; omega) (by simp; omega) (by simp; omega) (fun u hu => hone u (List.mem_of_mem_drop hu)) fun h9 ho9 he9 => ?_
        have e9 : Ext [] h h9 := (he5.trans he7 (by intro b hb hlt; simp [sBlk, ha5] at hb; omega)).trans he9 (by intro b hb hlt; simp [sBlk, ha5] at hb; omega)
        have hti : (vs.take i).length = i := by simp; omega
        have hq := hQ h9 s5 ?_ (e9.mono (by simp)) (fun b hb => by right; simp [sBlk, ha5] at hb; omega)
        · rw [hn5] at hq; exact hq
        · have f1 : (vs.take i ++ zs).take i = vs.take i := List.take_left' hti
          have f2 : (vs.take i ++ [x]).length = i + 1 := by simp; omega
          rw [f1] at ho9
          have f3 : (vs.take i ++ [x] ++ (vs.take i ++ zs).drop (i + [x].length)).take (i + 1) = vs.take i ++ [x] := List.take_left' f2
          have f4 : (vs.take i ++ [x] ++ (vs.take i ++ zs).drop (i + [x].length)).drop (i + 1 + (vs.drop i).length) = [] := List.drop_eq_nil_of_le (by simp; omega)
          rw [f3, f4, List.append_nil] at ho9
          exact ho9
end
end Go.Lift.X
namespace Go.Lift.X
open Go Go.Proofs
set_option maxRecDepth 100000
abbrev encB (s : ByteArray) : List Value := [.string s]
theorem encB_len (s : ByteArray) : (encB s).length = 1 := rfl
theorem encB_one (s : ByteArray) : ∀ v ∈ encB s, oneCell v = true := by intro v hv; simp at hv; subst hv; rfl
section
variable {h : Hp} {Q : List Value → Hp → Prop}
theorem cmpNaN_s {x : ByteArray} (hQ : Q [.bool false] h) : S_cmp_isNaN_string x h Q := by
  refine O_cmp_isNaN_string _ ?_
  delta F_cmp_isNaN_string rI rB rS rP rM rL vI vB vS vP vM vL vC vA ad nb gb wi bl bz tn isn sib pu oc
  simpa using hQ
theorem slNaN_s {x : ByteArray} (hQ : Q [.bool false] h) : S_slices_isNaN_string x h Q := by
  refine O_slices_isNaN_string _ ?_
  delta F_slices_isNaN_string rI rB rS rP rM rL vI vB vS vP vM vL vC vA ad nb gb wi bl bz tn isn sib pu oc
  simpa using hQ
theorem Less_s {x y : ByteArray} (hQ : Q [.bool (sLt x y)] h) : S_cmp_Less_string x y h Q := by
  refine O_cmp_Less_string _ _ ?_
  delta F_cmp_Less_string rI rB rS rP rM rL vI vB vS vP vM vL vC vA ad nb gb wi bl bz tn isn sib pu oc
  refine cmpNaN_s ⟨_, rfl, ?_⟩
  rw [if_neg (by decide)]
  exact hQ
theorem wrapu64 {x : Int} (h1 : 0 ≤ x) (h2 : x < 18446744073709551616) : IntKind.wrap .u64 x = x := by
  unfold IntKind.wrap IntKind.bits IntKind.signed
  simp only [Bool.false_and, Bool.false_eq_true, if_false]
  omega
theorem half (i j : Nat) (hb : i + j < 2 ^ 60) : IntKind.wrap .i64 (iShr .u64 (IntKind.wrap .u64 (IntKind.wrap .i64 ((i : Int) + (j : Int)))) 1) = (((i + j) / 2 : Nat) : Int) := by
  rw [wrap64 (x := (i : Int) + (j : Int)) (by omega) (by omega), wrapu64 (by omega) (by omega)]
  have : iShr .u64 ((i : Int) + (j : Int)) 1 = (((i + j) / 2 : Nat) : Int) := by
    unfold iShr
    have e : (2 : Int) ^ (min (Int.toNat 1) (IntKind.bits .u64)) = 2 := by decide
    rw [e, Int.fdiv_eq_ediv_of_nonneg _ (by decide)]
    omega
  rw [this, wrap64 (by omega) (by omega)]
theorem rdB {h : Hp} {s : Sl} {xs : List ByteArray} (hs : Reads 1 encB h s xs) {i : Nat} (hi : i < xs.length) : ∃ a, s.a = some a ∧ rd h (Addr.add a (i * 1)) = some (.string xs[i]) := by
  obtain ⟨a, h1, h2⟩ := hs.rd encB_len hi
  exact ⟨a, h1, h2 0 (by omega)⟩
theorem BinarySearch_s {s : Sl} {xs : List ByteArray} {k : ByteArray} (hs : Reads 1 encB h s xs) (hl : xs.length < 2 ^ 50) (hmono : ∀ a b (_ : a < b) (hb : b < xs.length), sLt xs[b] k = true → sLt (xs[a]'(by omega)) k = true)
    (hQ : ∀ i b, i ≤ xs.length → (∀ a (ha : a < xs.length), a < i → sLt xs[a] k = true) → (∀ a (ha : a < xs.length), i ≤ a → sLt xs[a] k = false) → (b = true ↔ ∃ hi : i < xs.length, xs[i].toList = k.toList) → Q [.int .i64 (i : Nat), .bool b] h) :
    S_slices_BinarySearch_sstring_string s k h Q := by
  refine O_slices_BinarySearch_sstring_string _ _ ?_
  delta F_slices_BinarySearch_sstring_string rI rB rS rP rM rL vI vB vS vP vM vL vC vA ad nb gb wi bl bz tn isn sib pu oc
  have hn := hs.1
  intro X hX
  have key : ∀ d (i j : Nat), j - i ≤ d → i ≤ j → j ≤ xs.length → (∀ a (ha : a < xs.length), a < i → sLt xs[a] k = true) → (∀ a (ha : a < xs.length), j ≤ a → sLt xs[a] k = false) → X [.int .i64 (i : Int), .int .i64 (j : Int)] h := by
    intro d
    induction d with
    | zero =>
      intro i j hd hij hj hlo hhi
      have : i = j := by omega
      subst this
      refine hX _ _ _ ?_
      rw [if_neg (by simp)]
      by_cases hil : i < xs.length
      · rw [if_pos (by simp; omega)]
        obtain ⟨a, g1, g2⟩ := rdB hs hil
        rw [g1]
        simp only [nilW_some, Int.toNat_natCast]
        refine ⟨by omega, by omega, xs[i], g2, ?_⟩
        by_cases e : xs[i].toList = k.toList
        · rw [if_pos (by simp [e])]
          exact hQ i true hj hlo hhi ⟨fun _ => ⟨hil, e⟩, fun _ => rfl⟩
        · rw [if_neg (by simp [e])]
          refine ⟨by omega, by omega, xs[i], g2, ?_⟩
          refine slNaN_s ⟨_, rfl, ?_⟩
          rw [if_neg (by decide)]
          exact hQ i false hj hlo hhi ⟨fun h => (by cases h), fun ⟨_, h⟩ => absurd h e⟩
      · rw [if_neg (by simp; omega)]
        exact hQ i false hj hlo hhi ⟨fun h => (by cases h), fun ⟨h, _⟩ => absurd h hil⟩
    | succ d ih =>
      intro i j hd hij hj hlo hhi
      by_cases hlt : i < j
      · refine hX _ _ _ ?_
        rw [if_pos (by simp; omega)]
        have hm : (i + j) / 2 < xs.length := by omega
        refine ⟨by decide, ?_⟩
        rw [half i j (by omega)]
        obtain ⟨a, g1, g2⟩ := rdB hs hm
        rw [g1]
        simp only [nilW_some, Int.toNat_natCast]
        refine ⟨by omega, by omega, _, g2, ?_⟩
        refine Less_s ⟨_, rfl, ?_⟩
        cases hb : sLt xs[(i + j) / 2] k with
        | true =>
          rw [if_pos (by decide), wrap64 (by omega) (by omega)]
          have := ih ((i + j) / 2 + 1) j (by omega) (by omega) hj (fun a ha h1 => by
            rcases (by omega : a < (i + j) / 2 ∨ a = (i + j) / 2) with g | g
            · exact hmono a _ g hm hb
            · subst g; exact hb) hhi
          simpa using this
        | false =>
          rw [if_neg (by decide)]
          exact ih i ((i + j) / 2) (by omega) (by omega) (by omega) hlo fun a ha h1 => by
            rcases (by omega : (i + j) / 2 < a ∨ a = (i + j) / 2) with g | g
            · cases hb2 : sLt xs[a] k with
              | false => rfl
              | true => have := hmono _ a g ha hb2; rw [hb] at this; cases this
            · subst g; exact hb
      · exact ih i j (by omega) hij hj hlo hhi
  have := key xs.length 0 xs.length (by omega) (by omega) (Nat.le_refl _) (fun a ha h => by omega) (fun a ha h => by omega)
  rw [← hn] at this
  simpa using this
end
end Go.Lift.X
namespace Go.Lift.X
open Go Go.Proofs
set_option maxRecDepth 100000
theorem tw_len {α : Type} (p : α → Bool) : ∀ (l : List α) (n : Nat), (∀ j (hj : j < l.length), j < n → p l[j] = true) → n ≤ l.length → (∀ hn : n < l.length, p l[n] = false) → (l.takeWhile p).length = n
  | [], n, _, h2, _ => by simp at h2; simp [h2]
  | a :: l, 0, _, _, h3 => by
    have := h3 (by simp)
    simp only [List.getElem_cons_zero] at this
    simp [List.takeWhile_cons, this]
  | a :: l, n + 1, h1, h2, h3 => by
    have h0 := h1 0 (by simp) (by omega)
    simp only [List.getElem_cons_zero] at h0
    rw [List.takeWhile_cons, if_pos h0, List.length_cons]
    rw [tw_len p l n (fun j hj hn => by have := h1 (j + 1) (by simpa using hj) (by omega); simpa using this) (by simpa using h2) (fun hn => by have := h3 (by simpa using hn); simpa using this)]
structure OneM where
  n : Int
  bound : ByteArray
  keys : List ByteArray
structure LeafM where
  fan : Int
  next : Int
  l : List OneM
structure OneC where
  b : Nat
  ks : Sl
  m : OneM
abbrev encP (b : Nat) : List Value := [.pointer (some ⟨b, 0, none⟩)]
theorem encP_len (b : Nat) : (encP b).length = 1 := rfl
structure OneAt (lo : Nat) (h : Hp) (c : OneC) : Prop where
  blk : Blk h c.b #[.int .i64 c.m.n, .string c.m.bound, .slice c.ks.a c.ks.n c.ks.c] T_leaf_one
  le : lo ≤ c.b
  keys : Own T_string 1 encB lo h c.ks c.m.keys
structure LeafAt (lo : Nat) (h : Hp) (x : Nat) (M : LeafM) (ls : Sl) (C : List OneC) : Prop where
  blk : Blk h x #[.int .i64 M.fan, .slice ls.a ls.n ls.c, .int .i64 M.next] T_leaf_Leaves
  le : lo ≤ x
  ptrs : Own T_pleaf_one 1 encP lo h ls (C.map OneC.b)
  nd : (C.map OneC.b).Nodup
  ones : ∀ c ∈ C, OneAt lo h c
  sep : C.Pairwise fun c d => ∀ b ∈ sBlk c.ks, b ∉ sBlk d.ks
  mods : C.map OneC.m = M.l
theorem OneAt.ext0 {lo : Nat} {h h' : Hp} {c : OneC} (ho : OneAt lo h c) (he : Ext [] h h') : OneAt lo h' c := ⟨he.get ho.blk (by simp), ho.le, ho.keys.ext0 he⟩
theorem LeafAt.ext0 {lo : Nat} {h h' : Hp} {x : Nat} {M : LeafM} {ls : Sl} {C : List OneC} (hl : LeafAt lo h x M ls C) (he : Ext [] h h') : LeafAt lo h' x M ls C :=
  ⟨he.get hl.blk (by simp), hl.le, hl.ptrs.ext0 he, hl.nd, fun c hc => (hl.ones c hc).ext0 he, hl.sep, hl.mods⟩
def gtB (a b : ByteArray) : Bool := !(Op.bytesLess a.toList b.toList || a.toList == b.toList)
/-- Where a key's leaf stands. -/
def atL (l : List OneM) (k : ByteArray) : Nat := (l.tail.takeWhile fun o => !gtB o.bound k).length
theorem atL_lt {l : List OneM} (h : l ≠ []) (k : ByteArray) : atL l k < l.length := by
  cases l with
  | nil => exact absurd rfl h
  | cons o l =>
    unfold atL
    have := (List.takeWhile_sublist (l := l) (fun o : OneM => !gtB o.bound k)).length_le
    simp only [List.tail_cons, List.length_cons]
    omega
section
variable {lo : Nat} {h : Hp} {x : Nat} {M : LeafM} {ls : Sl} {C : List OneC} {Q : List Value → Hp → Prop}
theorem rdP (hl : LeafAt lo h x M ls C) {i : Nat} (hi : i < C.length) : ∃ a, ls.a = some a ∧ rd h (Addr.add a (i * 1)) = some (.pointer (some ⟨(C[i]).b, 0, none⟩)) := by
  obtain ⟨b, o, h1, h2⟩ := hl.ptrs.sl.rd encP_len (i := i) (by simpa using hi)
  exact ⟨_, h1, by rw [addr_mk]; simpa using h2 0 (by omega)⟩
theorem lens (hl : LeafAt lo h x M ls C) : ls.n = C.length ∧ C.length = M.l.length := by
  refine ⟨by have := hl.ptrs.1; simpa using this, by have := congrArg List.length hl.mods; simpa using this⟩
theorem atL_eq (hl : LeafAt lo h x M ls C) (k : ByteArray) {i : Nat} (hi : i ≤ C.length) (h1 : ∀ j (hj : j < C.length), 0 < j → j ≤ i → gtB (C[j]).m.bound k = false) (h2 : ∀ hj : i + 1 < C.length, gtB (C[i + 1]).m.bound k = true) (h3 : i = 0 ∨ i < C.length) :
    atL M.l k = i := by
  unfold atL
  rw [← hl.mods]
  have hl2 : (C.map OneC.m).tail.length = C.length - 1 := by simp
  refine tw_len _ _ i (fun j hj hji => ?_) (by rw [hl2]; omega) (fun hn => ?_)
  · have hj2 : j + 1 < C.length := by rw [hl2] at hj; omega
    have := h1 (j + 1) hj2 (by omega) (by omega)
    simp [this]
  · have hj2 : i + 1 < C.length := by rw [hl2] at hn; omega
    have := h2 hj2
    simp [this]
theorem at_s (hl : LeafAt lo h x M ls C) (k : ByteArray) (hlen : M.l.length < 2 ^ 40) (hQ : Q [.int .i64 (atL M.l k : Nat)] h) : S_leaf_Leaves_at (some ⟨x, 0, none⟩) k h Q := by
  refine O_leaf_Leaves_at _ _ ?_
  delta F_leaf_Leaves_at rI rB rS rP rM rL vI vB vS vP vM vL vC vA ad nb gb wi bl bz tn isn sib pu oc
  obtain ⟨n1, n2⟩ := lens hl
  simp only [nilW_some, addr_mk, rd_blk hl.blk]
  refine ⟨ls, rfl, ?_⟩
  intro J hJ X hX
  have key : ∀ d i, d + i = C.length → (∀ j (hj : j < C.length), 0 < j → j < i → gtB (C[j]).m.bound k = false) → X [.int .i64 ((i - 1 : Nat) : Int), .int .i64 (i : Int)] h := by
    intro d
    induction d with
    | zero =>
      intro i hi hall
      refine hX _ _ _ ?_
      rw [if_neg (by simp; omega)]
      refine hJ _ _ ?_
      rw [atL_eq hl k (i := i - 1) (by omega) (fun j hj h1 h2 => hall j hj h1 (by omega)) (fun hj => by omega) (by omega)] at hQ
      exact hQ
    | succ d ih =>
      intro i hi hall
      refine hX _ _ _ ?_
      rw [if_pos (by simp; omega)]
      obtain ⟨a, g1, g2⟩ := rdP hl (i := i) (by omega)
      rw [g1]
      simp only [nilW_some, Int.toNat_natCast]
      refine ⟨by omega, by omega, _, g2, ?_⟩
      intro J2 hJ2
      have ho := hl.ones (C[i]'(by omega)) (List.getElem_mem _)
      have next : (0 < i → gtB (C[i]'(by omega)).m.bound k = false) → J2 [.bool false] h := by
        intro hg
        refine hJ2 _ _ ?_
        rw [if_neg (by decide), wrap64 (by omega) (by omega)]
        have := ih (i + 1) (by omega) (fun j hj h1 h2 => by
          rcases (by omega : j < i ∨ j = i) with g | g
          · exact hall j hj h1 g
          · subst g; exact hg h1)
        simpa using this
      by_cases h0 : 0 < i
      · rw [if_pos (by simp; omega)]
        simp only [nilW_some, addr_mk, rd_blk ho.blk]
        refine ⟨_, rfl, ?_⟩
        cases hb : gtB (C[i]'(by omega)).m.bound k with
        | false =>
          have e : (!(Op.bytesLess (C[i]'(by omega)).m.bound.toList k.toList || (C[i]'(by omega)).m.bound.toList == k.toList)) = false := hb
          rw [e]
          exact next fun _ => hb
        | true =>
          have e : (!(Op.bytesLess (C[i]'(by omega)).m.bound.toList k.toList || (C[i]'(by omega)).m.bound.toList == k.toList)) = true := hb
          rw [e]
          refine hJ2 _ _ ?_
          rw [if_pos (by decide)]
          refine hJ _ _ ?_
          rw [atL_eq hl k (i := i - 1) (by omega) (fun j hj h1 h2 => hall j hj h1 (by omega)) (fun hj => by
            have e2 : i - 1 + 1 = i := by omega
            simp only [e2]; exact hb) (by omega)] at hQ
          exact hQ
      · rw [if_neg (by simp; omega)]
        exact next fun h => absurd h h0
  have := key C.length 0 (by omega) (by intro j hj h1 h2; omega)
  simpa using this
end
end Go.Lift.X
namespace Go.Lift.X
open Go Go.Proofs
set_option maxRecDepth 100000
theorem encIL_one (n : Int) : ∀ v ∈ encIL n, oneCell v = true := by intro v hv; simp at hv; subst hv; rfl
theorem zcInt : (zc PP T_int).size = 1 := by kernel_rfl
section
variable {lo : Nat} {h : Hp} {x : Nat} {M : LeafM} {ls : Sl} {C : List OneC} {Q : List Value → Hp → Prop}
theorem mod_at (hl : LeafAt lo h x M ls C) {i : Nat} (hi : i < C.length) : ∃ h2 : i < M.l.length, (C[i]).m = M.l[i] := by
  have h1 := (lens hl).2
  refine ⟨by omega, ?_⟩
  have e : (C.map OneC.m)[i]? = M.l[i]? := by rw [hl.mods]
  rw [List.getElem?_map, List.getElem?_eq_getElem hi, List.getElem?_eq_getElem (by omega)] at e
  simpa using e
theorem Clone10_s {s : Sl} {xs : List ByteArray} (hs : Reads 1 encB h s xs) (hb : s.n ≤ 2 ^ 20) (hQ : ∀ h' s', Own T_string 1 encB h.size h' s' xs → s'.n = s.n → Ext [] h h' → Q [.slice s'.a s'.n s'.c] h') : S_slices_Clone_sstring_string s h Q := by
  refine O_slices_Clone_sstring_string _ ?_
  delta F_slices_Clone_sstring_string rI rB rS rP rM rL vI vB vS vP vM vL vC vA ad nb gb wi bl bz tn isn sib pu oc
  split
  · rename_i e
    have e := Option.isNone_iff_eq_none.1 e
    have h1 := hs.2.1 e
    have h2 := hs.1
    subst h1
    exact hQ h ⟨none, 0, 0⟩ (Own.nil _ _) (by simpa using h2.symm) (Ext.refl _ _)
  · simp only [wthE]
    exact clone_body hs zc_str encB_len encB_one (by omega) (by omega) fun s' h' ho he hn => hQ h' s' ho hn he
theorem New10_s {fan : Int} (hf : 2 ≤ fan ∧ fan ≤ 64) (hQ : ∀ h' ls C, LeafAt h.size h' (h.size + 2) ⟨fan, 2, [⟨1, ByteArray.mk #[], []⟩]⟩ ls C → Ext [] h h' → Q [.pointer (some ⟨h.size + 2, 0, none⟩), .int .i64 0] h') : S_leaf_New fan h Q := by
  refine O_leaf_New _ ?_
  delta F_leaf_New rI rB rS rP rM rL vI vB vS vP vM vL vC vA ad nb gb wi bl bz tn isn sib pu oc
  intro J hJ
  rw [if_neg (by simp; omega)]
  refine hJ _ _ ?_
  rw [if_neg (by simp; omega)]
  refine newI fun h1 s1 b1 e1 => newI fun h2 s2 b2 e2 => newI fun h3 s3 b3 e3 => ?_
  have c1 := e3.get (e2.get b1 (by simp)) (by simp)
  have c2 := e3.get b2 (by simp)
  rw [show h2.size = h.size + 2 by omega] at b3 ⊢
  refine hQ h3 ⟨some ⟨h1.size, 0, none⟩, 1, 1⟩ [⟨h.size, ⟨none, 0, 0⟩, ⟨1, ByteArray.mk #[], []⟩⟩] ⟨b3, by omega, ?_, by simp, ?_, by simp, rfl⟩ ((e1.trans0 e2).trans0 e3)
  · refine ⟨rfl, fun e => (by cases e), fun a ha => ?_⟩
    cases ha
    exact ⟨h1.size, _, rfl, by omega, c2, Nat.le_refl _, by simp, by simp⟩
  · intro c hc
    simp at hc
    subst hc
    exact ⟨c1, Nat.le_refl _, Own.nil _ _⟩
def hasK (xs : List ByteArray) (k : ByteArray) : Bool := xs.any fun y => y.toList == k.toList
theorem hasK_iff {xs : List ByteArray} {k : ByteArray} : hasK xs k = true ↔ k ∈ xs := by
  unfold hasK
  rw [List.any_eq_true]
  constructor
  · rintro ⟨y, hy, he⟩
    rw [← toList_inj (eq_of_beq he)]
    exact hy
  · intro h
    exact ⟨k, h, by simp⟩
theorem found_iff {xs : List ByteArray} (ho : InOrder xs) {k : ByteArray} {i : Nat} (h1 : ∀ a (ha : a < xs.length), a < i → sLt xs[a] k = true) (h2 : ∀ a (ha : a < xs.length), i ≤ a → sLt xs[a] k = false) {b : Bool} (hb : b = true ↔ ∃ hi : i < xs.length, xs[i].toList = k.toList) :
    b = hasK xs k := by
  have key : b = true ↔ k ∈ xs := by
    rw [hb]
    constructor
    · rintro ⟨hi, he⟩
      rw [← toList_inj he]
      exact List.getElem_mem _
    · intro hm
      obtain ⟨j, hj, he⟩ := List.getElem_of_mem hm
      have hij : ¬ j < i := by intro g; have := h1 j hj g; rw [he, sLt_irrefl] at this; cases this
      rcases (by omega : i = j ∨ i < j) with g | g
      · subst g; exact ⟨hj, by rw [he]⟩
      · have h3 := List.pairwise_iff_getElem.1 ho i j (by omega) hj g
        rw [he] at h3
        have := h2 i (by omega) (Nat.le_refl _)
        rw [h3] at this; cases this
  have h3 : b = true ↔ hasK xs k = true := key.trans hasK_iff.symm
  cases b <;> cases hh : hasK xs k <;> simp_all
end
end Go.Lift.X
namespace Go.Lift.X
open Go Go.Proofs
set_option maxRecDepth 100000
section
variable {lo : Nat} {h : Hp} {x : Nat} {M : LeafM} {ls : Sl} {C : List OneC} {Q : List Value → Hp → Prop}
end
end Go.Lift.X
namespace Go.Lift.X
open Go Go.Proofs
set_option maxRecDepth 100000
theorem _root_.Go.Lift.Own.extT {α : Type} {T : TypeId} {sz : Nat} {enc : α → List Value} {S : List Nat} {lo : Nat} {h h' : Hp} {s : Sl} {xs : List α} (hs : Own T sz enc lo h s xs) (he : Ext S h h') (hS : Other T h S) : Own T sz enc lo h' s xs := by
  refine hs.ext he fun a ha hm => ?_
  obtain ⟨b, c, h1, _, h3, _⟩ := hs.2.2 a ha
  rw [h1] at hm
  exact hS b hm c _ h3
theorem other_blk {h : Hp} {b : Nat} {c : Array Value} {T T' : TypeId} (hb : Blk h b c T) (hT : T ≠ T') : ∀ c' fz, h[b]? ≠ some (.cells c' T' fz) := by
  intro c' fz e
  rw [hb] at e
  cases e
  exact hT rfl
section
variable {lo : Nat} {h h' : Hp} {x : Nat} {M : LeafM} {ls : Sl} {C : List OneC}
/-- What a leaf's memory is apart from. -/
theorem one_apart (ho : ∀ c ∈ C, OneAt lo h c) {i : Nat} (hi : i < C.length) {T : TypeId} (h1 : T_leaf_one ≠ T) (h2 : T_string ≠ T) : Other T h ((C[i]).b :: sBlk (C[i]).ks) := by
  have hc := ho _ (List.getElem_mem hi)
  intro b hb c fz
  rw [List.mem_cons] at hb
  rcases hb with rfl | hb
  · exact other_blk hc.blk h1 c fz
  · exact hc.keys.other h2 b hb c fz
theorem LeafAt.setOne (hl : LeafAt lo h x M ls C) {i : Nat} (hi : i < C.length) {ks : Sl} {keys : List ByteArray} (he : Ext ((C[i]).b :: sBlk (C[i]).ks) h h')
    (hb : Blk h' (C[i]).b #[.int .i64 (C[i]).m.n, .string (C[i]).m.bound, .slice ks.a ks.n ks.c] T_leaf_one) (hk : Own T_string 1 encB lo h' ks keys) (hs : ∀ b ∈ sBlk ks, b ∈ sBlk (C[i]).ks ∨ h.size ≤ b) :
    LeafAt lo h' x { M with l := M.l.set i { (C[i]).m with keys := keys } } ls (C.set i ⟨(C[i]).b, ks, { (C[i]).m with keys := keys }⟩) := by
  have hap := fun {T} => one_apart (T := T) hl.ones hi
  have hbs : (C.set i ⟨(C[i]).b, ks, { (C[i]).m with keys := keys }⟩).map OneC.b = C.map OneC.b := by
    rw [List.map_set]
    apply List.ext_getElem?
    intro j
    rw [List.getElem?_set]
    split
    · rename_i e; subst e
      rw [if_pos (by simpa using hi), List.getElem?_map, List.getElem?_eq_getElem hi]
      rfl
    · rfl
  have hpw := List.pairwise_iff_getElem.1 hl.sep
  have hndp := List.pairwise_iff_getElem.1 hl.nd
  have hother : ∀ j (hj : j < C.length), j ≠ i → OneAt lo h' C[j] := by
    intro j hj hji
    have hc := hl.ones _ (List.getElem_mem hj)
    have hne : (C[j]).b ≠ (C[i]).b := by
      rcases Nat.lt_or_gt_of_ne hji with g | g
      · have := hndp j i (by simpa using hj) (by simpa using hi) g; simpa using this
      · have := hndp i j (by simpa using hi) (by simpa using hj) g; simpa using Ne.symm this
    have hci := hl.ones _ (List.getElem_mem hi)
    refine ⟨he.get hc.blk ?_, hc.le, hc.keys.ext he fun a ha hm => ?_⟩
    · intro hm
      rw [List.mem_cons] at hm
      rcases hm with g | g
      · exact hne g
      · exact hci.keys.other (T' := T_leaf_one) (by decide) _ g _ _ hc.blk
    · rw [List.mem_cons] at hm
      have hin : a.block ∈ sBlk (C[j]).ks := mem_sBlk.2 ⟨a, ha, rfl⟩
      rcases hm with g | g
      · have := hc.keys.other (T' := T_leaf_one) (by decide) _ hin
        rw [g] at this
        exact this _ _ hci.blk
      · rcases Nat.lt_or_gt_of_ne hji with g2 | g2
        · exact hpw j i hj hi g2 _ hin g
        · exact hpw i j hi hj g2 _ g hin
  refine ⟨he.get hl.blk ?_, hl.le, ?_, by rw [hbs]; exact hl.nd, ?_, ?_, ?_⟩
  · intro hm
    exact hap (T := T_leaf_Leaves) (by decide) (by decide) _ hm _ _ hl.blk
  · rw [hbs]
    exact hl.ptrs.extT he (hap (by decide) (by decide))
  · intro c hc
    obtain ⟨j, hj, rfl⟩ := List.getElem_of_mem hc
    rw [List.getElem_set]
    have hj2 : j < C.length := by simpa using hj
    split
    · have hci := hl.ones _ (List.getElem_mem hi)
      exact ⟨hb, hci.le, hk⟩
    · rename_i e
      exact hother j hj2 fun e2 => e e2.symm
  · rw [List.pairwise_iff_getElem]
    intro j k hj hk2 hjk b hb1 hb2
    have hj2 : j < C.length := by simpa using hj
    have hk3 : k < C.length := by simpa using hk2
    rw [List.getElem_set] at hb1 hb2
    have fresh : ∀ m (hm : m < C.length), b ∈ sBlk (C[m]).ks → h.size ≤ b → False := by
      intro m hm hbm hsz
      obtain ⟨a, ha, hab⟩ := mem_sBlk.1 hbm
      obtain ⟨b', c', q1, _, q3, _⟩ := (hl.ones _ (List.getElem_mem hm)).keys.2.2 a ha
      have := blk_lt q3
      rw [q1] at hab
      simp at hab
      omega
    split at hb1
    · rename_i e
      rw [if_neg (by omega)] at hb2
      rcases hs b hb1 with g | g
      · subst e; exact hpw i k hi hk3 hjk b g hb2
      · exact fresh k hk3 hb2 g
    · split at hb2
      · rename_i e1 e2
        rcases hs b hb2 with g | g
        · subst e2; exact hpw j i hj2 hi hjk b hb1 g
        · exact fresh j hj2 hb1 g
      · exact hpw j k hj2 hk3 hjk b hb1 hb2
  · rw [List.map_set, hl.mods]
/-- What the list's own memory is apart from. -/
theorem list_apart (hl : LeafAt lo h x M ls C) {T : TypeId} (h1 : T_leaf_Leaves ≠ T) (h2 : T_pleaf_one ≠ T) : Other T h (x :: sBlk ls) := by
  intro b hb c fz
  rw [List.mem_cons] at hb
  rcases hb with rfl | hb
  · exact other_blk hl.blk h1 c fz
  · exact hl.ptrs.other h2 b hb c fz
theorem OneAt.extL (hl : LeafAt lo h x M ls C) {c : OneC} (hc : OneAt lo h c) (he : Ext (x :: sBlk ls) h h') : OneAt lo h' c := by
  refine ⟨he.get hc.blk fun hm => ?_, hc.le, hc.keys.extT he (list_apart hl (by decide) (by decide))⟩
  exact list_apart hl (T := T_leaf_one) (by decide) (by decide) _ hm _ _ hc.blk
/-- The list has one leaf more. -/
theorem LeafAt.more (hl : LeafAt lo h x M ls C) {ls' : Sl} {c : OneC} {nx : Int} {i : Nat} (he : Ext (x :: sBlk ls) h h') (hb : Blk h' x #[.int .i64 M.fan, .slice ls'.a ls'.n ls'.c, .int .i64 nx] T_leaf_Leaves)
    (hp : Own T_pleaf_one 1 encP lo h' ls' ((C.take i ++ [c] ++ C.drop i).map OneC.b)) (hc : OneAt lo h' c) (hcb : ∀ d ∈ C, d.b ≠ c.b) (hck : ∀ d ∈ C, ∀ b ∈ sBlk d.ks, b ∉ sBlk c.ks) :
    LeafAt lo h' x ⟨M.fan, nx, (C.take i ++ [c] ++ C.drop i).map OneC.m⟩ ls' (C.take i ++ [c] ++ C.drop i) := by
  have hperm : (C.take i ++ [c] ++ C.drop i).Perm (c :: C) := by
    have h1 : (C.take i ++ [c] ++ C.drop i).Perm ([c] ++ (C.take i ++ C.drop i)) := by
      rw [List.append_assoc]
      exact List.perm_append_comm_assoc _ _ _
    rw [List.take_append_drop] at h1
    exact h1
  refine ⟨hb, hl.le, hp, ?_, fun d hd => ?_, ?_, rfl⟩
  · rw [(hperm.map _).nodup_iff, List.map_cons, List.nodup_cons]
    refine ⟨fun hm => ?_, hl.nd⟩
    obtain ⟨d, hd, hdb⟩ := List.mem_map.1 hm
    exact hcb d hd hdb
  · rw [hperm.mem_iff, List.mem_cons] at hd
    rcases hd with rfl | hd
    · exact hc
    · exact (hl.ones d hd).extL hl he
  · refine (hperm.pairwise_iff ?_).2 ?_
    · intro a b hab q hq1 hq2
      exact hab q hq2 hq1
    · rw [List.pairwise_cons]
      exact ⟨fun d hd b hb1 hb2 => hck d hd b hb2 hb1, hl.sep⟩
end
end Go.Lift.X
namespace Go.Lift.X
open Go Go.Proofs
set_option maxRecDepth 100000
/-- How many keys come ahead of one. -/
def posK (xs : List ByteArray) (k : ByteArray) : Nat := (xs.takeWhile fun y => sLt y k).length
theorem posK_eq {xs : List ByteArray} {k : ByteArray} {i : Nat} (hi : i ≤ xs.length) (h1 : ∀ a (ha : a < xs.length), a < i → sLt xs[a] k = true) (h2 : ∀ a (ha : a < xs.length), i ≤ a → sLt xs[a] k = false) : posK xs k = i :=
  tw_len _ xs i (fun j hj hji => h1 j hj hji) hi fun hn => h2 i hn (Nat.le_refl _)
def putK (xs : List ByteArray) (k : ByteArray) : List ByteArray := xs.take (posK xs k) ++ [k] ++ xs.drop (posK xs k)
structure Did where
  leaf : Int
  mf : Int
  mt : Int
  err : Int
def LeafM.insAt (M : LeafM) (k : ByteArray) (o : OneM) : LeafM × Did :=
  if hasK o.keys k = true then (M, ⟨0, 0, 0, 62⟩)
  else if ((putK o.keys k).length : Int) ≤ M.fan then ({ M with l := M.l.set (atL M.l k) { o with keys := putK o.keys k } }, ⟨o.n, 0, 0, 0⟩)
  else
    let cut := ((putK o.keys k).length + 1) / 2
    let z : OneM := ⟨M.next, (putK o.keys k).getD cut (ByteArray.mk #[]), (putK o.keys k).drop cut⟩
    (⟨M.fan, M.next + 1, M.l.take (atL M.l k) ++ [{ o with keys := (putK o.keys k).take cut }, z] ++ M.l.drop (atL M.l k + 1)⟩, ⟨if posK o.keys k < cut then o.n else M.next, o.n, M.next, 0⟩)
def LeafM.ins (M : LeafM) (k : ByteArray) : LeafM × Did :=
  if k.size > 1024 then (M, ⟨0, 0, 0, 2⟩)
  else match M.l[atL M.l k]? with
    | none => (M, ⟨0, 0, 0, 0⟩)
    | some o => M.insAt k o
theorem ins_eq {M : LeafM} {k : ByteArray} (hk : ¬ k.size > 1024) (hlt : atL M.l k < M.l.length) : M.ins k = M.insAt k M.l[atL M.l k] := by
  unfold LeafM.ins
  rw [if_neg hk, List.getElem?_eq_getElem hlt]
section
variable {lo : Nat} {h : Hp} {x : Nat} {M : LeafM} {ls : Sl} {C : List OneC} {Q : List Value → Hp → Prop}
theorem flatB (xs : List ByteArray) : xs.flatMap encB = xs.map Value.string := by rw [List.map_eq_flatMap]
theorem putK_flat (xs : List ByteArray) (k : ByteArray) : (putK xs k).flatMap encB = (xs.flatMap encB).take (posK xs k) ++ [Value.string k] ++ (xs.flatMap encB).drop (posK xs k) := by
  simp [putK, flatB, List.map_take, List.map_drop]
end
end Go.Lift.X
namespace Go.Lift.X
open Go Go.Proofs
section
variable {T : TypeId} {lo : Nat} {h : Hp} {s : Sl} {xs : List ByteArray}
theorem _root_.Go.Lift.Own.dropR (ho : Own T 1 encB lo h s xs) {c : Nat} (hc : c < xs.length) : Reads 1 encB h ⟨slAd s.a c s.c 1, s.n - c, s.c - c⟩ (xs.drop c) := by
  have hn := ho.1
  have hV := ho.toV encB_len
  have hfl : (xs.flatMap encB).length = xs.length := by rw [flatB]; simp
  have hne : s.a ≠ none := by
    intro e
    have := (ho.2.1 e).1
    subst this
    simp at hc
  refine ⟨by simp; omega, fun e => ?_, ?_⟩
  · exfalso
    cases hsa : s.a with
    | none => exact hne hsa
    | some a =>
      simp only [hsa, slAd] at e
      split at e <;> simp at e
  · have := hV.cellsV hne (o := c) (n := s.n - c) (by rw [hfl]; omega) (by omega)
    rw [flatB, ← List.map_drop, List.take_of_length_le (by simp; omega), ← flatB] at this
    simpa using this
theorem _root_.Go.Lift.Own.takeR (ho : Own T 1 encB lo h s xs) {c : Nat} (hc : c ≤ xs.length) : Own T 1 encB lo h ⟨s.a, c, s.c⟩ (xs.take c) := by
  have hV := ho.toV encB_len
  have hfl : (xs.flatMap encB).length = xs.length := by rw [flatB]; simp
  have := hV.takeV (i := c) (by rw [hfl]; exact hc)
  refine Own.ofV encB_len ?_
  rw [flatMap_take encB_len, Nat.mul_one]
  exact this
end
end Go.Lift.X
namespace Go.Lift.X
open Go Go.Proofs
set_option maxRecDepth 100000
section
variable {lo : Nat} {h : Hp} {x : Nat} {M : LeafM} {ls : Sl} {C : List OneC} {Q : List Value → Hp → Prop}
theorem LeafAt.extO {S : List Nat} {h h' : Hp} (hl : LeafAt lo h x M ls C) (he : Ext S h h') (o1 : Other T_leaf_Leaves h S) (o2 : Other T_pleaf_one h S) (o3 : Other T_leaf_one h S) (o4 : Other T_string h S) : LeafAt lo h' x M ls C :=
  ⟨he.get hl.blk (fun hm => o1 _ hm _ _ hl.blk), hl.le, hl.ptrs.extT he o2, hl.nd, fun c hc => ⟨he.get (hl.ones c hc).blk (fun hm => o3 _ hm _ _ (hl.ones c hc).blk), (hl.ones c hc).le, (hl.ones c hc).keys.extT he o4⟩, hl.sep, hl.mods⟩
theorem own_lt {T : TypeId} {α : Type} {sz : Nat} {enc : α → List Value} {s : Sl} {xs : List α} (ho : Own T sz enc lo h s xs) : ∀ b ∈ sBlk s, b < h.size := by
  intro b hb
  obtain ⟨a, ha, hab⟩ := mem_sBlk.1 hb
  obtain ⟨b', c', q1, _, q3, _⟩ := ho.2.2 a ha
  have := blk_lt q3
  rw [q1] at hab
  simp at hab
  omega
/-- The blocks of leaves. -/
def Fp (x : Nat) (ls : Sl) (C : List OneC) (b : Nat) : Prop := b = x ∨ b ∈ sBlk ls ∨ ∃ c ∈ C, b = c.b ∨ b ∈ sBlk c.ks
theorem fp_set {x : Nat} {ls : Sl} {C : List OneC} {i : Nat} (hi : i < C.length) {s' : Sl} {m : OneM} {N : Nat} (hs : ∀ b ∈ sBlk s', b ∈ sBlk (C[i]).ks ∨ N ≤ b) {b : Nat} (hb : Fp x ls (C.set i ⟨(C[i]).b, s', m⟩) b) : Fp x ls C b ∨ N ≤ b := by
  rcases hb with g | g | ⟨c, hc, g⟩
  · exact Or.inl (Or.inl g)
  · exact Or.inl (Or.inr (Or.inl g))
  · rcases List.mem_or_eq_of_mem_set hc with h1 | h1
    · exact Or.inl (Or.inr (Or.inr ⟨c, h1, g⟩))
    · subst h1
      rcases g with g | g
      · exact Or.inl (Or.inr (Or.inr ⟨_, List.getElem_mem hi, Or.inl g⟩))
      · rcases hs b g with g2 | g2
        · exact Or.inl (Or.inr (Or.inr ⟨_, List.getElem_mem hi, Or.inr g2⟩))
        · exact Or.inr g2
theorem Insert10_s (hl : LeafAt lo h x M ls C) (k : ByteArray) (hlo : lo ≤ h.size) (hne : M.l ≠ []) (hlen : M.l.length < 2 ^ 30) (hord : ∀ o ∈ M.l, InOrder o.keys ∧ o.keys.length ≤ 2 ^ 10) (hf : 2 ≤ M.fan ∧ M.fan ≤ 64) (hnx : 0 ≤ M.next ∧ M.next < 2 ^ 40)
    (hQ : ∀ h' ls' C' S, LeafAt lo h' x (M.ins k).1 ls' C' → Ext S h h' → (∀ b ∈ S, lo ≤ b) → (∀ b ∈ S, Fp x ls C b ∨ h.size ≤ b) → (∀ b, Fp x ls' C' b → Fp x ls C b ∨ h.size ≤ b) → Q [.int .i64 (M.ins k).2.leaf, .agg #[.int .i64 (M.ins k).2.mf, .int .i64 (M.ins k).2.mt], .int .i64 (M.ins k).2.err] h') : S_leaf_Leaves_Insert (some ⟨x, 0, none⟩) k h Q := by
  refine O_leaf_Leaves_Insert _ _ ?_
  delta F_leaf_Leaves_Insert rI rB rS rP rM rL vI vB vS vP vM vL vC vA ad nb gb wi bl bz tn isn sib pu oc
  refine newI fun h1 s1 b1 e1 => ?_
  rw [if_neg (by simp)]
  have hl1 := hl.ext0 e1
  by_cases hk : k.size > 1024
  · rw [if_pos (by simp; omega)]
    refine st_blk b1 (by simp) fun h2 s2 b2 e2 => ?_
    have e12 : Ext [] h h2 := e1.trans e2 (by intro b hb hlt; simp at hb; omega)
    refine ⟨_, by simp [rd_blk b2]; rfl, _, by simp [rd_blk b2]; rfl, ?_⟩
    have := hQ h2 ls C [] (by unfold LeafM.ins; rw [if_pos hk]; exact hl.ext0 e12) e12 (by simp) (by simp) (fun b hb => Or.inl hb)
    unfold LeafM.ins at this
    rw [if_pos hk] at this
    exact this
  rw [if_neg (by simp; omega)]
  have hlt := atL_lt hne k
  obtain ⟨n1, n2⟩ := lens hl
  have hins := ins_eq hk hlt
  unfold LeafM.insAt at hins
  refine at_s hl1 k (by omega) ⟨_, rfl, ?_⟩
  simp only [nilW_some, addr_mk, rd_blk hl1.blk]
  refine ⟨ls, rfl, ?_⟩
  have hiC : atL M.l k < C.length := by omega
  obtain ⟨a, g1, g2⟩ := rdP hl1 (i := atL M.l k) hiC
  have hc := hl1.ones (C[atL M.l k]) (List.getElem_mem _)
  obtain ⟨_, hm⟩ := mod_at hl (i := atL M.l k) hiC
  rw [g1]
  simp only [nilW_some, Int.toNat_natCast]
  refine ⟨by omega, by omega, _, g2, ?_⟩
  simp only [nilW_some, addr_mk, rd_blk hc.blk]
  refine ⟨(C[atL M.l k]).ks, rfl, ?_⟩
  have hor := hord _ (List.getElem_mem hlt)
  have hkr := hc.keys.sl.reads
  rw [hm] at hkr
  refine BinarySearch_s hkr (by have := hor.2; omega) (hor.1.mono k) fun i b hi q1 q2 hb => ⟨_, _, rfl, ?_⟩
  have hbk := found_iff hor.1 q1 q2 hb
  have hpos := posK_eq hi q1 q2
  cases hh : hasK (M.l[atL M.l k]).keys k with
  | true =>
    rw [hbk, hh, if_pos rfl]
    rw [hh, if_pos rfl] at hins
    refine st_blk b1 (by simp) fun h2 s2 b2 e2 => ?_
    have e12 : Ext [] h h2 := e1.trans e2 (by intro b hb hlt; simp at hb; omega)
    refine ⟨_, by simp [rd_blk b2]; rfl, _, by simp [rd_blk b2]; rfl, ?_⟩
    have := hQ h2 ls C [] (by rw [hins]; exact hl.ext0 e12) e12 (by simp) (by simp) (fun b hb => Or.inl hb)
    rw [hins] at this
    exact this
  | false =>
    rw [hbk, hh, if_neg (by decide)]
    rw [hh, if_neg (by decide)] at hins
    simp only [nilW_some, addr_mk, rd_blk hc.blk]
    refine ⟨(C[atL M.l k]).ks, rfl, ?_⟩
    refine newI fun h2 s2 b2 e2 => ?_
    have hown := (hc.keys.ext0 e2).toV encB_len
    rw [hm] at hown
    have hfl : ((M.l[atL M.l k]).keys.flatMap encB).length = (M.l[atL M.l k]).keys.length := by rw [flatB]; simp
    refine Insert1_str_s hown rfl rfl b2 rfl (fun hbm => by have := own_lt hc.keys _ hbm; omega) (by rw [flatB]; intro u hu; obtain ⟨y, _, rfl⟩ := List.mem_map.1 hu; rfl) (by rw [hfl]; exact hi) (by rw [hfl]; have := hor.2; omega) (by omega) fun h3 s' ho3 he3 hb3 => ⟨s', rfl, ?_⟩
    have ho3' : Own T_string 1 encB lo h3 s' (putK (M.l[atL M.l k]).keys k) := by
      refine Own.ofV encB_len ?_
      rw [putK_flat, hpos]
      exact ho3
    have cb2 := e2.get hc.blk (by simp)
    have cb3 := he3.get cb2 (fun hm' => (hc.keys.ext0 e2).other (T' := T_leaf_one) (by decide) _ hm' _ _ cb2)
    refine st_blk cb3 (by simp) fun h4 s4 b4 e4 => ?_
    have e14 : Ext ((C[atL M.l k]).b :: sBlk (C[atL M.l k]).ks) h1 h4 := ((e2.mono (by simp)).trans he3 (fun b hb _ => List.mem_cons_of_mem _ hb)).trans e4 (fun b hb _ => by simp at hb; simp [hb])
    have hk4 := ho3'.extT e4 (fun b hb c fz => by simp at hb; subst hb; exact other_blk cb3 (by decide) c fz)
    have hl4 := hl1.setOne hiC e14 (by simpa using b4) hk4 (fun b hb => (hb3 b hb).imp id fun g => by have := e2.sz; omega)
    rw [hm] at hl4
    simp only [addr_mk, rd_blk b4]
    refine ⟨s', by simp, ?_⟩
    simp only [addr_mk, rd_blk hl4.blk]
    refine ⟨M.fan, by simp, ?_⟩
    have hsn := hk4.1
    by_cases hfan : ((putK (M.l[atL M.l k]).keys k).length : Int) ≤ M.fan
    · rw [if_pos (by simp; omega)]
      rw [if_pos hfan] at hins
      refine ⟨(C[atL M.l k]).m.n, by simp, ?_⟩
      have bm : Blk h4 h.size #[.int .i64 0, .int .i64 0] T_leaf_Move := e14.get b1 (fun hm' => one_apart (T := T_leaf_Move) hl1.ones hiC (by decide) (by decide) _ hm' _ _ b1)
      refine st_blk bm (by simp) fun h5 s5 b5 e5 => ?_
      refine ⟨_, by simp [rd_blk b5]; rfl, _, by simp [rd_blk b5]; rfl, ?_⟩
      have oth : ∀ T, T_leaf_Move ≠ T → Other T h4 [h.size] := fun T hT b hb c fz => by simp at hb; subst hb; exact other_blk bm hT c fz
      have hl5 := hl4.extO e5 (oth _ (by decide)) (oth _ (by decide)) (oth _ (by decide)) (oth _ (by decide))
      have hq := hQ h5 ls _ ((C[atL M.l k]).b :: sBlk (C[atL M.l k]).ks) (by rw [hins]; exact hl5) (((e1.mono (by simp)).trans e14 (fun b hb _ => hb)).trans e5 (by intro b hb hlt; simp at hb; omega)) (by
        intro b hb
        rw [List.mem_cons] at hb
        rcases hb with g | g
        · rw [g]; exact hc.le
        · exact hc.keys.blk b g) (by
        intro b hb
        rw [List.mem_cons] at hb
        exact Or.inl (Or.inr (Or.inr ⟨_, List.getElem_mem hiC, hb⟩))) (fun b hb => fp_set hiC (fun b hb => (hb3 b hb).imp id fun g => by have := e2.sz; omega) hb)
      rw [hins] at hq
      rw [hm]
      exact hq
    · rw [if_neg (by simp; omega)]
      rw [if_neg hfan] at hins
      refine ⟨s', by simp, ?_⟩
      refine ⟨by decide, ?_⟩
      refine ⟨M.next, by simp, ?_⟩
      have hKl : (putK (M.l[atL M.l k]).keys k).length ≤ 1025 := by
        have := hor.2
        simp only [putK, List.length_append, List.length_take, List.length_drop, List.length_cons, List.length_nil]
        omega
      have hcut : IntKind.wrap .i64 (Int.tdiv (IntKind.wrap .i64 ((s'.n : Int) + 1)) 2) = ((((putK (M.l[atL M.l k]).keys k).length + 1) / 2 : Nat) : Int) := by
        rw [wrap64 (x := (s'.n : Int) + 1) (by omega) (by omega), Int.tdiv_eq_ediv_of_nonneg (by omega), wrap64 (by omega) (by omega)]
        omega
      rw [hcut]
      refine ⟨s', by simp, ?_⟩
      have hcl : ((putK (M.l[atL M.l k]).keys k).length + 1) / 2 < (putK (M.l[atL M.l k]).keys k).length := by
        have h3 := hf.1
        omega
      generalize hcd : ((putK (M.l[atL M.l k]).keys k).length + 1) / 2 = cut at *
      obtain ⟨ak, w1, w2⟩ := rdB hk4.sl.reads (i := cut) hcl
      rw [w1]
      simp only [nilW_some, Int.toNat_natCast]
      refine ⟨by omega, by omega, _, w2, ?_⟩
      rw [← w1]
      refine ⟨s', by simp, by omega, ?_⟩
      refine Clone10_s (hk4.dropR hcl) (show s'.n - cut ≤ 2 ^ 20 by omega) fun h5 sz hoz hnz e5 => ⟨sz, rfl, rd_ext0 e5 w2, ?_, ?_, ?_⟩
      · have := e5.get b4 (by simp)
        rw [rd_blk this]; simp
      · rw [rd_blk (e5.get hl4.blk (by simp))]; simp
      refine newI fun h6 s6 b6 e6 => ?_
      have e46 := e5.trans0 e6
      have hl6 := hl4.ext0 e46
      have c6 := e46.get b4 (by simp)
      have hk6 := hk4.ext0 e46
      simp only [rd_blk c6]
      have hsc : s'.n ≤ s'.c := by
        obtain ⟨_, _, _, _, _, h4', _, h7'⟩ := ownV_open (hk4.toV encB_len) (by rw [w1]; simp)
        omega
      refine ⟨s', by simp, by omega, ?_⟩
      simp only [slAd0, Nat.sub_zero]
      refine Clone10_s (hk6.takeR (Nat.le_of_lt hcl)).sl.reads (show cut ≤ 2 ^ 20 by omega) fun h7 sy hoy hny e7 => ⟨sy, rfl, ?_⟩
      have c7 := e7.get c6 (by simp)
      refine st_blk c7 (by simp) fun h8 s8 b8 e8 => ?_
      have hiC2 : atL M.l k < (C.set (atL M.l k) ⟨(C[atL M.l k]).b, s', { M.l[atL M.l k] with keys := putK (M.l[atL M.l k]).keys k }⟩).length := by simpa using hiC
      have hget : (C.set (atL M.l k) ⟨(C[atL M.l k]).b, s', { M.l[atL M.l k] with keys := putK (M.l[atL M.l k]).keys k }⟩)[atL M.l k]'hiC2 = ⟨(C[atL M.l k]).b, s', { M.l[atL M.l k] with keys := putK (M.l[atL M.l k]).keys k }⟩ := by simp
      have e68 : Ext ((C[atL M.l k]).b :: sBlk s') h6 h8 := (e7.mono (by simp)).trans e8 (fun b hb _ => by simp at hb; simp [hb])
      have hoy8 : Own T_string 1 encB lo h8 sy ((putK (M.l[atL M.l k]).keys k).take cut) := (hoy.mono (by have := e1.sz; have := e14.sz; have := e46.sz; omega)).extT e8 (fun b hb c fz => by simp at hb; subst hb; exact other_blk c7 (by decide) c fz)
      have hl8 := hl6.setOne (i := atL M.l k) hiC2 (ks := sy) (keys := (putK (M.l[atL M.l k]).keys k).take cut) (by rw [hget]; exact e68) (by rw [hget]; simpa [hm] using b8) hoy8 (fun b hb => Or.inr (hoy.blk b hb))
      rw [hget] at hl8
      simp only [rd_blk hl8.blk]
      refine ⟨M.next, by simp, ?_⟩
      rw [wrap64 (x := M.next + 1) (by omega) (by omega)]
      refine st_blk hl8.blk (by simp) fun h9 s9 b9 e9 => ?_
      simp only [rd_blk b9]
      refine ⟨ls, by simp, ?_⟩
      refine newI fun h10 s10 b10 e10 => ?_
      have hx1 : x < h1.size := blk_lt hl1.blk
      have z14 := e14.sz
      have z46 := e46.sz
      have z45 := e5.sz
      have z12 := e1.sz
      have hC4 : ∀ d ∈ C.set (atL M.l k) ⟨(C[atL M.l k]).b, s', { M.l[atL M.l k] with keys := putK (M.l[atL M.l k]).keys k }⟩, d.b < h4.size ∧ ∀ b ∈ sBlk d.ks, b < h4.size := fun d hd => ⟨blk_lt (hl4.ones d hd).blk, own_lt (hl4.ones d hd).keys⟩
      have hozlt := own_lt hoz
      have hozlo := hoz.blk
      have hC8 : ∀ d ∈ (C.set (atL M.l k) ⟨(C[atL M.l k]).b, s', { M.l[atL M.l k] with keys := putK (M.l[atL M.l k]).keys k }⟩).set (atL M.l k) ⟨(C[atL M.l k]).b, sy, { M.l[atL M.l k] with keys := (putK (M.l[atL M.l k]).keys k).take cut }⟩, d.b < h4.size ∧ ∀ b ∈ sBlk d.ks, b < h4.size ∨ h6.size ≤ b := by
        intro d hd
        rcases List.mem_or_eq_of_mem_set hd with g | g
        · exact ⟨(hC4 d g).1, fun b hb => Or.inl ((hC4 d g).2 b hb)⟩
        · subst g
          exact ⟨by have := blk_lt b4; exact this, fun b hb => Or.inr (hoy.blk b hb)⟩
      have hFp8 : ∀ b, Fp x ls ((C.set (atL M.l k) ⟨(C[atL M.l k]).b, s', { M.l[atL M.l k] with keys := putK (M.l[atL M.l k]).keys k }⟩).set (atL M.l k) ⟨(C[atL M.l k]).b, sy, { M.l[atL M.l k] with keys := (putK (M.l[atL M.l k]).keys k).take cut }⟩) b → Fp x ls C b ∨ h.size ≤ b := by
        intro b hb
        have h1' := fp_set (N := h.size) hiC2 (s' := sy) (m := { M.l[atL M.l k] with keys := (putK (M.l[atL M.l k]).keys k).take cut }) (fun b hb => Or.inr (by have := hoy.blk b hb; have := e6.sz; omega)) (by rw [hget]; exact hb)
        rcases h1' with g | g
        · exact fp_set hiC (fun b hb => (hb3 b hb).imp id fun g => by have := e2.sz; omega) g
        · exact Or.inr g
      have hmods8 := hl8.mods
      have hlen8 : ((C.set (atL M.l k) ⟨(C[atL M.l k]).b, s', { M.l[atL M.l k] with keys := putK (M.l[atL M.l k]).keys k }⟩).set (atL M.l k) ⟨(C[atL M.l k]).b, sy, { M.l[atL M.l k] with keys := (putK (M.l[atL M.l k]).keys k).take cut }⟩).length = C.length := by simp
      generalize hC2 : (C.set (atL M.l k) ⟨(C[atL M.l k]).b, s', { M.l[atL M.l k] with keys := putK (M.l[atL M.l k]).keys k }⟩).set (atL M.l k) ⟨(C[atL M.l k]).b, sy, { M.l[atL M.l k] with keys := (putK (M.l[atL M.l k]).keys k).take cut }⟩ = C2 at *
      have hp10 := ((hl8.ptrs.extT e9 (fun b hb c fz => by simp at hb; subst hb; exact other_blk hl8.blk (by decide) c fz)).ext0 e10).toV encP_len
      have hflP : ((C2.map OneC.b).flatMap encP).length = C2.length := by
        rw [flatMap_length encP_len, List.length_map]; omega
      rw [wrap64 (x := ((atL M.l k : Nat) : Int) + 1) (by omega) (by omega)]
      have z68 := e68.sz
      have z89 := e9.sz
      have z910 := e10.sz
      refine Insert1_ptr_s (i := atL M.l k + 1) hp10 rfl rfl b10 rfl (fun hbm => by have := own_lt (hl8.ptrs) _ hbm; omega) (by intro u hu; obtain ⟨y, _, hy⟩ := List.mem_flatMap.1 hu; simp at hy; subst hy; rfl) (by rw [hflP]; omega) (by rw [hflP]; omega) (by omega) fun h11 s11 ho11 he11 hb11 => ⟨s11, rfl, ?_⟩
      have x10 := e10.get b9 (by simp)
      have x11 := he11.get x10 (fun hm' => (hl8.ptrs).other (T' := T_leaf_Leaves) (by decide) _ hm' _ _ hl8.blk)
      refine st_blk x11 (by simp) fun h12 s12 b12 e12 => ?_
      have e8_12 : Ext (x :: sBlk ls) h8 h12 := (((e9.mono (by simp)).trans0 e10).trans he11 (fun b hb _ => List.mem_cons_of_mem _ hb)).trans e12 (fun b hb _ => by simp at hb; simp [hb])
      have z12' := e8_12.sz
      have e58 : Ext ((C[atL M.l k]).b :: sBlk s') h5 h8 := (e6.mono (by simp)).trans e68 (fun b hb _ => hb)
      have one6 : Blk h6 h5.size #[.int .i64 M.next, .string ((putK (M.l[atL M.l k]).keys k)[cut]), .slice sz.a sz.n sz.c] T_leaf_one := b6
      have one8 : Blk h8 h5.size #[.int .i64 M.next, .string ((putK (M.l[atL M.l k]).keys k)[cut]), .slice sz.a sz.n sz.c] T_leaf_one := e68.get one6 (fun hm' => by
        rw [List.mem_cons] at hm'
        rcases hm' with g | g
        · have := blk_lt b4; omega
        · have := own_lt hk4 _ g; omega)
      have one12 := e8_12.get one8 (fun hm' => list_apart hl8 (T := T_leaf_one) (by decide) (by decide) _ hm' _ _ one8)
      have koz8 : Own T_string 1 encB lo h8 sz ((putK (M.l[atL M.l k]).keys k).drop cut) := ((hoz.mono (by omega)).ext0 e6).ext e68 (fun a ha hm' => by
        have hin : a.block ∈ sBlk sz := mem_sBlk.2 ⟨a, ha, rfl⟩
        have hb1 := hozlo _ hin
        rw [List.mem_cons] at hm'
        rcases hm' with g | g
        · have := blk_lt b4; omega
        · have := own_lt hk4 _ g; omega)
      have koz12 := koz8.extT e8_12 (list_apart hl8 (by decide) (by decide))
      have hl12 := hl8.more (i := atL M.l k + 1) (c := ⟨h5.size, sz, ⟨M.next, (putK (M.l[atL M.l k]).keys k)[cut], (putK (M.l[atL M.l k]).keys k).drop cut⟩⟩) (ls' := s11) (nx := M.next + 1) e8_12 (by simpa using b12) (Own.ofV encP_len (by
          have := ho11.extT e12 (fun b hb c fz => by simp at hb; subst hb; exact other_blk x11 (by decide) c fz)
          rw [List.map_append, List.map_append, List.flatMap_append, List.flatMap_append, List.map_take, List.map_drop, flatMap_take encP_len, Nat.mul_one, show ((C2.map OneC.b).drop (atL M.l k + 1)).flatMap encP = ((C2.map OneC.b).flatMap encP).drop (atL M.l k + 1) from by rw [show ∀ l : List Nat, l.flatMap encP = l.map fun b => Value.pointer (some ⟨b, 0, none⟩) from fun l => by rw [List.map_eq_flatMap], show ∀ l : List Nat, l.flatMap encP = l.map fun b => Value.pointer (some ⟨b, 0, none⟩) from fun l => by rw [List.map_eq_flatMap], List.map_drop]]
          exact this)) ⟨one12, (show lo ≤ h5.size by omega), koz12⟩ (fun d hd => by have := (hC8 d hd).1; simp only; omega) (fun d hd b hb1 hb2 => by
          have h1' := (hC8 d hd).2 b hb1
          have h2' := hozlt b hb2
          have h3' := hozlo b hb2
          have := e6.sz
          simp only at *
          omega)
      have y8 : Blk h8 (C[atL M.l k]).b #[.int .i64 (C[atL M.l k]).m.n, .string (C[atL M.l k]).m.bound, .slice sy.a sy.n sy.c] T_leaf_one := by simpa using b8
      have y12 := e8_12.get y8 (fun hm' => list_apart hl8 (T := T_leaf_one) (by decide) (by decide) _ hm' _ _ y8)
      have m4 : Blk h4 h.size #[.int .i64 0, .int .i64 0] T_leaf_Move := e14.get b1 (fun hm' => one_apart (T := T_leaf_Move) hl1.ones hiC (by decide) (by decide) _ hm' _ _ b1)
      have m6 := e46.get m4 (by simp)
      have m8 : Blk h8 h.size #[.int .i64 0, .int .i64 0] T_leaf_Move := e68.get m6 (fun hm' => by
        rw [List.mem_cons] at hm'
        rcases hm' with g | g
        · rw [← g] at c6; exact other_blk m6 (by decide) _ _ c6
        · exact hk6.other (T' := T_leaf_Move) (by decide) _ g _ _ m6)
      have m12 := e8_12.get m8 (fun hm' => list_apart hl8 (T := T_leaf_Move) (by decide) (by decide) _ hm' _ _ m8)
      have oth : ∀ T, T_leaf_Move ≠ T → ∀ g, Ext [h.size] h12 g → Blk g h.size #[.int .i64 (C[atL M.l k]).m.n, .int .i64 M.next] T_leaf_Move → Other T g [h.size] := fun T hT g _ hg b hb c fz => by simp at hb; subst hb; exact other_blk hg hT c fz
      have oth0 : ∀ T, T_leaf_Move ≠ T → Other T h12 [h.size] := fun T hT b hb c fz => by simp at hb; subst hb; exact other_blk m12 hT c fz
      have eAll : Ext (((C[atL M.l k]).b :: sBlk (C[atL M.l k]).ks) ++ ((C[atL M.l k]).b :: sBlk s') ++ (x :: sBlk ls)) h h12 := by
        refine (((e1.mono (by simp)).trans e14 (fun b hb _ => ?_)).trans0 e46).trans e68 (fun b hb _ => ?_) |>.trans e8_12 (fun b hb _ => ?_)
        · simp only [List.mem_append]; exact Or.inl (Or.inl hb)
        · simp only [List.mem_append]; exact Or.inl (Or.inr hb)
        · simp only [List.mem_append]; exact Or.inr hb
      have hSlo : ∀ b ∈ ((C[atL M.l k]).b :: sBlk (C[atL M.l k]).ks) ++ ((C[atL M.l k]).b :: sBlk s') ++ (x :: sBlk ls), lo ≤ b := by
        intro b hb
        simp only [List.mem_append, List.mem_cons] at hb
        rcases hb with ((g | g) | (g | g)) | (g | g)
        · rw [g]; exact hc.le
        · exact hc.keys.blk b g
        · rw [g]; exact hc.le
        · exact hk4.blk b g
        · rw [g]; exact hl.le
        · exact hl.ptrs.blk b g
      have hSfp : ∀ b ∈ ((C[atL M.l k]).b :: sBlk (C[atL M.l k]).ks) ++ ((C[atL M.l k]).b :: sBlk s') ++ (x :: sBlk ls), Fp x ls C b ∨ h.size ≤ b := by
        intro b hb
        simp only [List.mem_append, List.mem_cons] at hb
        rcases hb with (g | (g | g)) | (g | g)
        · exact Or.inl (Or.inr (Or.inr ⟨_, List.getElem_mem hiC, g⟩))
        · exact Or.inl (Or.inr (Or.inr ⟨_, List.getElem_mem hiC, Or.inl g⟩))
        · rcases hb3 b g with g2 | g2
          · exact Or.inl (Or.inr (Or.inr ⟨_, List.getElem_mem hiC, Or.inr g2⟩))
          · have := e2.sz; exact Or.inr (by omega)
        · exact Or.inl (Or.inl g)
        · exact Or.inl (Or.inr (Or.inl g))
      have hCfp : ∀ b, Fp x s11 (C2.take (atL M.l k + 1) ++ [(⟨h5.size, sz, ⟨M.next, (putK (M.l[atL M.l k]).keys k)[cut], (putK (M.l[atL M.l k]).keys k).drop cut⟩⟩ : OneC)] ++ C2.drop (atL M.l k + 1)) b → Fp x ls C b ∨ h.size ≤ b := by
        intro b hb
        rcases hb with g | g | ⟨c, hc', g⟩
        · exact Or.inl (Or.inl g)
        · rcases hb11 b g with g2 | g2
          · exact Or.inl (Or.inr (Or.inl g2))
          · exact Or.inr (by omega)
        · simp only [List.mem_append, List.mem_cons, List.not_mem_nil, or_false] at hc'
          rcases hc' with (hc' | hc') | hc'
          · exact hFp8 b (Or.inr (Or.inr ⟨c, List.mem_of_mem_take hc', g⟩))
          · subst hc'
            rcases g with g | g
            · exact Or.inr (by simp only at g; omega)
            · have := hozlo b g; exact Or.inr (by omega)
          · exact hFp8 b (Or.inr (Or.inr ⟨c, List.mem_of_mem_drop hc', g⟩))
      have hmod : (C2.take (atL M.l k + 1) ++ [(⟨h5.size, sz, ⟨M.next, (putK (M.l[atL M.l k]).keys k)[cut], (putK (M.l[atL M.l k]).keys k).drop cut⟩⟩ : OneC)] ++ C2.drop (atL M.l k + 1)).map OneC.m
          = M.l.take (atL M.l k) ++ [{ M.l[atL M.l k] with keys := (putK (M.l[atL M.l k]).keys k).take cut }, ⟨M.next, (putK (M.l[atL M.l k]).keys k).getD cut (ByteArray.mk #[]), (putK (M.l[atL M.l k]).keys k).drop cut⟩] ++ M.l.drop (atL M.l k + 1) := by
        rw [List.map_append, List.map_append, List.map_take, List.map_drop, hmods8]
        simp only [List.set_set]
        rw [List.take_set, List.drop_set_of_lt (by omega)]
        have hgd : (putK (M.l[atL M.l k]).keys k).getD cut (ByteArray.mk #[]) = (putK (M.l[atL M.l k]).keys k)[cut] := by rw [List.getD_eq_getElem?_getD, List.getElem?_eq_getElem hcl]; rfl
        rw [hgd]
        have htk : (M.l.take (atL M.l k + 1)).set (atL M.l k) { M.l[atL M.l k] with keys := (putK (M.l[atL M.l k]).keys k).take cut } = M.l.take (atL M.l k) ++ [{ M.l[atL M.l k] with keys := (putK (M.l[atL M.l k]).keys k).take cut }] := by
          rw [List.take_succ_eq_append_getElem hlt, List.set_append_right _ _ (by simp; omega)]
          congr 1
          rw [show atL M.l k - (M.l.take (atL M.l k)).length = 0 by simp; omega]
          rfl
        rw [htk]
        simp
      rw [hmod] at hl12
      have fin : ∀ h14, Ext [h.size] h12 h14 → Q [.int .i64 (if posK (M.l[atL M.l k]).keys k < cut then (M.l[atL M.l k]).n else M.next), .agg #[.int .i64 (M.l[atL M.l k]).n, .int .i64 M.next], .int .i64 0] h14 := by
        intro h14 e14'
        have hl14 := hl12.extO e14' (oth0 _ (by decide)) (oth0 _ (by decide)) (oth0 _ (by decide)) (oth0 _ (by decide))
        have hq := hQ h14 s11 _ _ (by rw [hins]; exact hl14) (eAll.trans e14' (by intro b hb hlt'; simp at hb; omega)) hSlo hSfp hCfp
        rw [hins] at hq
        exact hq
      simp only [nilW_some, addr_mk, rd_blk y12, rd_blk one12]
      refine ⟨(C[atL M.l k]).m.n, by simp, M.next, by simp, ?_⟩
      refine st_blk m12 (by simp) fun h13 s13 b13 e13 => ?_
      have y13 := e13.get y12 (fun hm' => oth0 _ (by decide) _ hm' _ _ y12)
      have o13 := e13.get one12 (fun hm' => oth0 _ (by decide) _ hm' _ _ one12)
      have b13' : Blk h13 h.size #[.int .i64 (C[atL M.l k]).m.n, .int .i64 M.next] T_leaf_Move := by simpa using b13
      by_cases hlt2 : i < cut
      · rw [if_pos (by simp; omega)]
        refine ⟨(C[atL M.l k]).m.n, by simp [rd_blk y13], (C[atL M.l k]).m.n, by simp [rd_blk b13'], M.next, by simp [rd_blk b13'], ?_⟩
        refine st_blk b13' (by simp) fun h14 s14 b14 e14' => ?_
        refine ⟨(C[atL M.l k]).m.n, by simp [rd_blk b14], M.next, by simp [rd_blk b14], ?_⟩
        have := fin h14 (e13.trans e14' (fun b hb _ => hb))
        rw [if_pos (by omega)] at this
        rw [hm]
        exact this
      · rw [if_neg (by simp; omega)]
        refine ⟨M.next, by simp [rd_blk o13], (C[atL M.l k]).m.n, by simp [rd_blk b13'], M.next, by simp [rd_blk b13'], ?_⟩
        refine st_blk b13' (by simp) fun h14 s14 b14 e14' => ?_
        refine ⟨(C[atL M.l k]).m.n, by simp [rd_blk b14], M.next, by simp [rd_blk b14], ?_⟩
        have := fin h14 (e13.trans e14' (fun b hb _ => hb))
        rw [if_neg (by omega)] at this
        rw [hm]
        exact this
end
end Go.Lift.X
namespace Go.Lift.X
open Go Go.Proofs
set_option maxRecDepth 100000
def cutK (xs : List ByteArray) (k : ByteArray) : List ByteArray := xs.take (posK xs k) ++ xs.drop (posK xs k + 1)
def LeafM.remAt (M : LeafM) (k : ByteArray) (o : OneM) : LeafM × Did :=
  if hasK o.keys k = false then (M, ⟨0, 0, 0, 60⟩)
  else if 0 < (cutK o.keys k).length ∨ M.l.length = 1 then ({ M with l := M.l.set (atL M.l k) { o with keys := cutK o.keys k } }, ⟨o.n, 0, 0, 0⟩)
  else (⟨M.fan, M.next, M.l.take (atL M.l k) ++ M.l.drop (atL M.l k + 1)⟩, ⟨o.n, o.n, ((M.l.take (atL M.l k) ++ M.l.drop (atL M.l k + 1)).getD (atL M.l k - 1) o).n, 0⟩)
def LeafM.rem (M : LeafM) (k : ByteArray) : LeafM × Did :=
  match M.l[atL M.l k]? with
  | none => (M, ⟨0, 0, 0, 0⟩)
  | some o => M.remAt k o
theorem rem_eq {M : LeafM} {k : ByteArray} (hlt : atL M.l k < M.l.length) : M.rem k = M.remAt k M.l[atL M.l k] := by
  unfold LeafM.rem
  rw [List.getElem?_eq_getElem hlt]
section
variable {lo : Nat} {h : Hp} {x : Nat} {M : LeafM} {ls : Sl} {C : List OneC} {Q : List Value → Hp → Prop}
end
end Go.Lift.X
namespace Go.Lift.X
open Go Go.Proofs
set_option maxRecDepth 100000
def inR (a b : ByteArray) (s : ByteArray) : Bool := !sLt s a && (b.toList == [] || sLt s b)
def lastL (l : List OneM) (b : ByteArray) : Nat := if b.toList == [] then l.length - 1 else atL l b
def emptyR (a b : ByteArray) : Bool := !(b.toList == []) && (sLt b a || b.toList == a.toList)
def partL (l : List OneM) (a b : ByteArray) : List OneM := (l.take (lastL l b + 1)).drop (atL l a)
def LeafM.rng (M : LeafM) (a b : ByteArray) : List ByteArray × List Int :=
  if emptyR a b = true then ([], []) else (((partL M.l a b).flatMap OneM.keys).filter (inR a b), (partL M.l a b).map OneM.n)
theorem tw_mono {α : Type} {p q : α → Bool} (hpq : ∀ x, p x = true → q x = true) : ∀ l : List α, (l.takeWhile p).length ≤ (l.takeWhile q).length
  | [] => by simp
  | a :: l => by
    cases hp : p a with
    | false => simp [List.takeWhile_cons, hp]
    | true => simp [List.takeWhile_cons, hp, hpq a hp, tw_mono hpq l]
theorem gtB_iff {a b : ByteArray} : gtB a b = true ↔ sLt b a = true := by
  have : gtB a b = !(sLt a b || a.toList == b.toList) := rfl
  rw [this]
  rcases sLt_total a b with h | h | h
  · subst h; simp [sLt_irrefl]
  · simp [h, sLt_asymm h]
  · have hne : a.toList ≠ b.toList := by intro e; rw [toList_inj e, sLt_irrefl] at h; cases h
    simp [h, sLt_asymm h, hne]
theorem atL_mono {l : List OneM} {a b : ByteArray} (h : sLt b a = false) : atL l a ≤ atL l b := by
  refine tw_mono (fun o ho => ?_) _
  rw [Bool.not_eq_true', ← Bool.not_eq_true, gtB_iff] at ho ⊢
  intro h2
  apply ho
  rcases sLt_total a b with e | e | e
  · subst e; exact h2
  · exact sLt_trans e h2
  · rw [h] at e; cases e
section
variable {lo : Nat} {h : Hp} {x : Nat} {M : LeafM} {ls : Sl} {C : List OneC} {Q : List Value → Hp → Prop}
theorem emptyB : (ByteArray.mk #[]).toList = [] := by rw [ByteArray.toList_eq]
theorem Range10_s (hl : LeafAt lo h x M ls C) (a b : ByteArray) (hne : M.l ≠ []) (hlen : M.l.length < 2 ^ 20) (hord : ∀ o ∈ M.l, o.keys.length ≤ 2 ^ 10)
    (hQ : ∀ h' sk sn, Ext [] h h' → Own T_string 1 encB h.size h' sk (M.rng a b).1 → Own T_int 1 encIL h.size h' sn (M.rng a b).2 → Q [.slice sk.a sk.n sk.c, .slice sn.a sn.n sn.c] h') : S_leaf_Leaves_Range (some ⟨x, 0, none⟩) a b h Q := by
  refine O_leaf_Leaves_Range _ _ _ ?_
  delta F_leaf_Leaves_Range rI rB rS rP rM rL vI vB vS vP vM vL vC vA ad nb gb wi bl bz tn isn sib pu oc
  rw [emptyB]
  intro J hJ
  rw [if_neg (by simp)]
  have hlt := atL_lt hne a
  have hlt2 := atL_lt hne b
  obtain ⟨n1, n2⟩ := lens hl
  have empty : emptyR a b = true → J [.bool true] h := by
    intro he
    refine hJ _ _ ?_
    rw [if_pos rfl]
    unfold LeafM.rng at hQ
    rw [if_pos he] at hQ
    exact hQ h ⟨none, 0, 0⟩ ⟨none, 0, 0⟩ (Ext.refl _ _) (Own.nil _ _) (Own.nil _ _)
  have full : emptyR a b = false → J [.bool false] h := by
    intro he
    refine hJ _ _ ?_
    rw [if_neg (by decide)]
    simp only [nilW_some, addr_mk, rd_blk hl.blk]
    refine ⟨ls, rfl, ?_⟩
    intro J6 hJ6
    unfold LeafM.rng at hQ
    rw [if_neg (by rw [he]; decide)] at hQ
    have main : ∀ last : Nat, last = lastL M.l b → atL M.l a ≤ last → last < C.length → J6 [.int .i64 (last : Int)] h := by
      intro last hla hal hlc
      refine hJ6 _ _ ?_
      simp only [nilW_some, addr_mk, rd_blk hl.blk]
      refine ⟨ls, rfl, ?_⟩
      refine at_s hl a (by omega) ⟨_, rfl, by simp [rd_blk hl.blk], ?_⟩
      rw [wrap64 (x := (last : Int) + 1) (by omega) (by omega)]
      have hcap : ls.n ≤ ls.c := by
        obtain ⟨a', w1, _⟩ := rdP hl (i := last) hlc
        obtain ⟨_, _, _, _, _, h4', _, h7'⟩ := ownV_open (hl.ptrs.toV encP_len) (by rw [w1]; simp)
        omega
      refine ⟨by omega, ?_⟩
      intro X hX
      have e1 : Int.toNat ((last : Int) + 1) = last + 1 := by omega
      simp only [e1, Int.toNat_natCast] at hX
      have key : ∀ d i g sk sn, d + i = last + 1 - atL M.l a → Ext [] h g → Own T_string 1 encB h.size g sk (((M.l.drop (atL M.l a)).take i).flatMap OneM.keys |>.filter (inR a b)) → Own T_int 1 encIL h.size g sn (((M.l.drop (atL M.l a)).take i).map OneM.n) →
          X [.slice sk.a sk.n sk.c, .slice sn.a sn.n sn.c, .int .i64 (i : Int)] g := by
        intro d
        induction d with
        | zero =>
          intro i g sk sn hi hE ok on
          refine hX sk sn _ _ ?_
          rw [if_neg (by simp; omega)]
          have hpart : (M.l.drop (atL M.l a)).take i = partL M.l a b := by
            unfold partL
            rw [List.drop_take, ← hla]
            congr 1
            omega
          rw [hpart] at ok on
          exact hQ g sk sn hE ok on
        | succ d ih =>
          intro i g sk sn hi hE ok on
          refine hX sk sn _ _ ?_
          rw [if_pos (by simp; omega)]
          have hlg := hl.ext0 hE
          have hjC : atL M.l a + i < C.length := by omega
          obtain ⟨bb, oo, w1, w2⟩ := hlg.ptrs.sl.rd encP_len (i := atL M.l a + i) (by simpa using hjC)
          have w3 := w2 0 (by omega)
          obtain ⟨a2, v1, v2⟩ : ∃ a', slAd ls.a (atL M.l a) ls.c 1 = some a' ∧ rd g (Addr.add a' (i * 1)) = some (.pointer (some ⟨(C[atL M.l a + i]).b, 0, none⟩)) := by
            unfold slAd
            rw [if_neg (by omega), w1]
            refine ⟨_, rfl, ?_⟩
            simp only [addr_mk]
            simp only [List.getElem_map] at w3
            rw [show oo + atL M.l a * 1 + i * 1 = oo + (atL M.l a + i) * 1 + 0 by omega]
            exact w3
          rw [v1]
          simp only [nilW_some, Int.toNat_natCast]
          refine ⟨by omega, by omega, _, v2, ?_⟩
          have hc := hlg.ones (C[atL M.l a + i]'hjC) (List.getElem_mem _)
          obtain ⟨hi2, hm⟩ := mod_at hl hjC
          simp only [nilW_some, addr_mk, rd_blk hc.blk]
          refine ⟨_, rfl, ?_⟩
          have hz := hE.sz
          have hdl : i < (M.l.drop (atL M.l a)).length := by simp; omega
          have hdg : (M.l.drop (atL M.l a))[i] = M.l[atL M.l a + i] := by simp
          have hti : (M.l.drop (atL M.l a)).take (i + 1) = (M.l.drop (atL M.l a)).take i ++ [M.l[atL M.l a + i]] := by
            rw [List.take_add_one, List.getElem?_eq_getElem hdl, Option.toList_some, hdg]
          refine app1 (x := (C[atL M.l a + i]'hjC).m.n) on rfl zcInt encIL_len encIL_one (by simp; omega) (by decide) hz fun sn' g1 on' he1 hb1 => ?_
          have hE1 : Ext [] h g1 := hE.trans he1 fun b hb hlt => by have := on.blk b hb; omega
          have hc1 : OneAt lo g1 (C[atL M.l a + i]'hjC) := ⟨hE1.get (hl.ones _ (List.getElem_mem _)).blk (by simp), hc.le, (hl.ones _ (List.getElem_mem _)).keys.ext0 hE1⟩
          simp only [rd_blk hc1.blk]
          refine ⟨(C[atL M.l a + i]'hjC).ks, rfl, ?_⟩
          have hkn := hc1.keys.1
          rw [hm] at hkn on'
          have ok1 : Own T_string 1 encB h.size g1 sk (((M.l.drop (atL M.l a)).take i).flatMap OneM.keys |>.filter (inR a b)) := ok.extT he1 (on.other (by decide))
          have hordi := hord _ (List.getElem_mem hi2)
          have hbig : ((((M.l.drop (atL M.l a)).take i).flatMap OneM.keys).filter (inR a b)).length ≤ 2 ^ 30 := by
            refine Nat.le_trans (List.length_filter_le _ _) ?_
            have : ∀ l : List OneM, (∀ o ∈ l, o.keys.length ≤ 2 ^ 10) → (l.flatMap OneM.keys).length ≤ l.length * 2 ^ 10 := by
              intro l
              induction l with
              | nil => intro _; simp
              | cons o l ih2 =>
                intro h2
                have h3 := ih2 fun o' ho' => h2 o' (List.mem_cons_of_mem _ ho')
                have h4 := h2 o (by simp)
                rw [List.flatMap_cons, List.length_append, List.length_cons, Nat.add_mul]
                omega
            have h2 := this ((M.l.drop (atL M.l a)).take i) (fun o ho => hord o (List.mem_of_mem_drop (List.mem_of_mem_take ho)))
            have h3 : ((M.l.drop (atL M.l a)).take i).length ≤ 2 ^ 20 := by simp; omega
            have := Nat.mul_le_mul_right (2 ^ 10) h3
            omega
          intro Z hZ
          have inner : ∀ d' j g' sk', d' + j = (M.l[atL M.l a + i]).keys.length → Ext [] h g' → Own T_int 1 encIL h.size g' sn' (((M.l.drop (atL M.l a)).take i).map OneM.n ++ [(M.l[atL M.l a + i]).n]) →
              Own T_string 1 encB h.size g' sk' ((((M.l.drop (atL M.l a)).take i).flatMap OneM.keys |>.filter (inR a b)) ++ ((M.l[atL M.l a + i]).keys.take j).filter (inR a b)) → Z [.slice sk'.a sk'.n sk'.c, .int .i64 (j : Int)] g' := by
            intro d'
            induction d' with
            | zero =>
              intro j g' sk' hj hE' on2 ok2
              refine hZ sk' _ _ ?_
              rw [if_neg (by simp; omega)]
              rw [wrap64 (by omega) (by omega)]
              have := ih (i + 1) g' sk' sn' (by omega) hE' (by
                rw [hti, List.flatMap_append, List.filter_append]
                rw [List.take_of_length_le (l := (M.l[atL M.l a + i]).keys) (by omega)] at ok2
                simpa using ok2) (by
                rw [hti, List.map_append]
                exact on2)
              simpa using this
            | succ d' ih' =>
              intro j g' sk' hj hE' on2 ok2
              refine hZ sk' _ _ ?_
              rw [if_pos (by simp; omega)]
              intro J2 hJ2
              have hjl : j < (M.l[atL M.l a + i]).keys.length := by omega
              have hkr := ((hl.ones _ (List.getElem_mem hjC)).keys.ext0 hE').sl.reads
              rw [hm] at hkr
              obtain ⟨ak, u1, u2⟩ := rdB hkr (i := j) hjl
              rw [u1]
              simp only [nilW_some, Int.toNat_natCast]
              refine ⟨by omega, by omega, _, u2, ?_⟩
              have htj : (M.l[atL M.l a + i]).keys.take (j + 1) = (M.l[atL M.l a + i]).keys.take j ++ [(M.l[atL M.l a + i]).keys[j]] := by
                rw [List.take_add_one, List.getElem?_eq_getElem hjl, Option.toList_some]
              intro J3 hJ3
              have go : ∀ v, v = inR a b (M.l[atL M.l a + i]).keys[j] → J3 [.bool v] g' := by
                intro v hv
                refine hJ3 _ _ ?_
                cases hb : inR a b (M.l[atL M.l a + i]).keys[j] with
                | true =>
                  rw [hv, hb, if_pos rfl]
                  refine app1 (x := (M.l[atL M.l a + i]).keys[j]) ok2 rfl zc_str encB_len encB_one (by
                    have h5 := List.length_filter_le (inR a b) ((M.l[atL M.l a + i]).keys.take j)
                    rw [List.length_append]
                    have h6 : ((M.l[atL M.l a + i]).keys.take j).length ≤ 2 ^ 10 := by simp; omega
                    omega) (by decide) hE'.sz fun sk2 g2 ok3 he3 hb3 => ?_
                  refine hJ2 _ _ ?_
                  have hE2 : Ext [] h g2 := hE'.trans he3 fun b hb hlt => by have := ok2.blk b hb; omega
                  rw [wrap64 (by omega) (by omega)]
                  have := ih' (j + 1) g2 sk2 (by omega) hE2 (on2.extT he3 (ok2.other (by decide))) (by
                    rw [htj, List.filter_append, ← List.append_assoc]
                    simpa [hb] using ok3)
                  simpa using this
                | false =>
                  rw [hv, hb, if_neg (by decide)]
                  refine hJ2 _ _ ?_
                  rw [wrap64 (by omega) (by omega)]
                  have := ih' (j + 1) g' sk' (by omega) hE' on2 (by
                    rw [htj, List.filter_append]
                    simpa [hb] using ok2)
                  simpa using this
              have hs1 : Op.bytesLess (M.l[atL M.l a + i]).keys[j].toList a.toList = sLt (M.l[atL M.l a + i]).keys[j] a := rfl
              have hs2 : Op.bytesLess (M.l[atL M.l a + i]).keys[j].toList b.toList = sLt (M.l[atL M.l a + i]).keys[j] b := rfl
              rw [hs1, hs2]
              unfold inR at go
              cases q1 : sLt (M.l[atL M.l a + i]).keys[j] a with
              | true =>
                rw [if_neg (by decide)]
                exact go _ (by rw [q1]; rfl)
              | false =>
                rw [if_pos (by decide)]
                cases q2 : b.toList == [] with
                | true =>
                  rw [if_pos rfl]
                  exact go _ (by rw [q1, q2]; rfl)
                | false =>
                  rw [if_neg (by decide)]
                  exact go _ (by rw [q1, q2]; rfl)
          have := inner _ 0 g1 sk (by omega) hE1 on' (by simpa using ok1)
          simpa using this
      have := key (last + 1 - atL M.l a) 0 h ⟨none, 0, 0⟩ ⟨none, 0, 0⟩ (by omega) (Ext.refl _ _) (by simpa using Own.nil _ _) (by simpa using Own.nil _ _)
      simpa using this
    cases hb0 : b.toList == [] with
    | true =>
      rw [if_neg (by decide)]
      rw [wrap64 (by omega) (by omega)]
      have e3 : ((ls.n : Int) - 1) = ((M.l.length - 1 : Nat) : Int) := by omega
      rw [e3]
      exact main _ (by unfold lastL; rw [hb0, if_pos rfl]) (by omega) (by omega)
    | false =>
      rw [if_pos (by decide)]
      refine at_s hl b (by omega) ⟨_, rfl, ?_⟩
      refine main _ (by unfold lastL; rw [hb0, if_neg (by decide)]) (atL_mono ?_) (by omega)
      unfold emptyR at he
      rw [hb0] at he
      cases h4 : sLt b a with
      | false => rfl
      | true => rw [h4] at he; cases he
  unfold emptyR at empty full
  cases hb0 : b.toList == [] with
  | true =>
    rw [if_neg (by decide)]
    exact full (by rw [hb0]; rfl)
  | false =>
    rw [if_pos (by decide)]
    have hs : (Op.bytesLess b.toList a.toList || b.toList == a.toList) = (sLt b a || b.toList == a.toList) := rfl
    rw [hs]
    cases h4 : (sLt b a || b.toList == a.toList) with
    | true => exact empty (by rw [hb0, h4]; rfl)
    | false => exact full (by rw [hb0, h4]; rfl)
end
end Go.Lift.X
namespace Go.Lift.X
open Go
def sb (l : List OneM) : List (Option ByteArray × OneM) := l.map fun p => (some p.bound, p)
def lb : List OneM → List (Option ByteArray × OneM)
  | [] => []
  | o :: l => (none, o) :: sb l
def lbOf : List OneM → OneM → Option ByteArray
  | [], _ => none
  | _ :: _, o => some o.bound
theorem lb_split (A : List OneM) (o : OneM) (B : List OneM) : lb (A ++ o :: B) = lb A ++ (lbOf A o, o) :: sb B := by
  cases A <;> simp [lb, sb, lbOf]
def leO (c : Option ByteArray) (k : ByteArray) : Prop := ∀ b, c = some b → sLt k b = false
def RB (a b : Option ByteArray × OneM) : Prop := ∃ bb, b.1 = some bb ∧ (∀ k ∈ a.2.keys, sLt k bb = true) ∧ ∀ ab, a.1 = some ab → sLt ab bb = true
def PB (a : Option ByteArray × OneM) : Prop := InOrder a.2.keys ∧ ∀ k ∈ a.2.keys, leO a.1 k
/-- Leaves in order: each leaf's keys are from its bound on, and below the next one's. -/
def WF (l : List OneM) : Prop := (lb l).Pairwise RB ∧ ∀ a ∈ lb l, PB a
theorem sLt_le {a b c : ByteArray} (h1 : sLt a b = true) (h2 : sLt c b = false) : sLt a c = true := by
  rcases sLt_total c b with e | e | e
  · subst e; exact h1
  · rw [e] at h2; cases h2
  · exact sLt_trans h1 e
structure WFs (A : List OneM) (o : OneM) (B : List OneM) : Prop where
  pa : (lb A).Pairwise RB
  qa : ∀ a ∈ lb A, PB a
  po : PB (lbOf A o, o)
  ao : ∀ a ∈ lb A, RB a (lbOf A o, o)
  ob : ∀ p ∈ B, RB (lbOf A o, o) (some p.bound, p)
  pb : (sb B).Pairwise RB
  qb : ∀ p ∈ B, PB (some p.bound, p)
  ab : ∀ a ∈ lb A, ∀ p ∈ B, RB a (some p.bound, p)
theorem mem_sb {B : List OneM} {x : Option ByteArray × OneM} : x ∈ sb B ↔ ∃ p ∈ B, x = (some p.bound, p) := by
  unfold sb
  rw [List.mem_map]
  constructor
  · rintro ⟨p, hp, rfl⟩; exact ⟨p, hp, rfl⟩
  · rintro ⟨p, hp, rfl⟩; exact ⟨p, hp, rfl⟩
theorem wf_split {A : List OneM} {o : OneM} {B : List OneM} : WF (A ++ o :: B) ↔ WFs A o B := by
  unfold WF
  rw [lb_split, List.pairwise_append, List.pairwise_cons]
  constructor
  · rintro ⟨⟨h1, ⟨h2, h3⟩, h4⟩, h5⟩
    exact ⟨h1, fun a ha => h5 a (List.mem_append_left _ ha), h5 _ (by simp), fun a ha => h4 a ha _ (by simp), fun p hp => h2 _ (mem_sb.2 ⟨p, hp, rfl⟩), h3,
      fun p hp => h5 _ (List.mem_append_right _ (List.mem_cons_of_mem _ (mem_sb.2 ⟨p, hp, rfl⟩))), fun a ha p hp => h4 a ha _ (List.mem_cons_of_mem _ (mem_sb.2 ⟨p, hp, rfl⟩))⟩
  · intro w
    refine ⟨⟨w.pa, ⟨fun x hx => ?_, w.pb⟩, fun a ha x hx => ?_⟩, fun x hx => ?_⟩
    · obtain ⟨p, hp, rfl⟩ := mem_sb.1 hx
      exact w.ob p hp
    · rcases List.mem_cons.1 hx with rfl | hx
      · exact w.ao a ha
      · obtain ⟨p, hp, rfl⟩ := mem_sb.1 hx
        exact w.ab a ha p hp
    · rcases List.mem_append.1 hx with hx | hx
      · exact w.qa x hx
      · rcases List.mem_cons.1 hx with rfl | hx
        · exact w.po
        · obtain ⟨p, hp, rfl⟩ := mem_sb.1 hx
          exact w.qb p hp
theorem wf_set {A : List OneM} {o : OneM} {B : List OneM} (w : WFs A o B) {K : List ByteArray} (h1 : InOrder K) (h2 : ∀ k ∈ K, leO (lbOf A o) k) (h3 : ∀ k ∈ K, ∀ p ∈ B, sLt k p.bound = true) : WFs A { o with keys := K } B := by
  have e : lbOf A { o with keys := K } = lbOf A o := by cases A <;> rfl
  refine ⟨w.pa, w.qa, ?_, ?_, ?_, w.pb, w.qb, w.ab⟩
  · rw [e]; exact ⟨h1, h2⟩
  · intro a ha
    obtain ⟨bb, g1, g2, g3⟩ := w.ao a ha
    exact ⟨bb, by rw [e]; exact g1, g2, g3⟩
  · intro p hp
    obtain ⟨bb, g1, g2, g3⟩ := w.ob p hp
    cases g1
    exact ⟨p.bound, rfl, fun k hk => h3 k hk p hp, by rw [e]; exact g3⟩
theorem wf_cut {A : List OneM} {o : OneM} {B : List OneM} (w : WFs A o B) {cut : Nat} (n : Int) (h0 : 0 < cut) (hc : cut < o.keys.length) : WF (A ++ { o with keys := o.keys.take cut } :: ⟨n, o.keys[cut], o.keys.drop cut⟩ :: B) := by
  have e : lbOf A { o with keys := o.keys.take cut } = lbOf A o := by cases A <;> rfl
  have hin := List.pairwise_iff_getElem.1 w.po.1
  simp only at hin
  have hcm : o.keys[cut] ∈ o.keys := List.getElem_mem _
  have h00 : sLt o.keys[0] o.keys[cut] = true := hin 0 cut (by omega) hc h0
  have hlow : ∀ c, lbOf A o = some c → sLt c o.keys[cut] = true := by
    intro c hc'
    have := w.po.2 o.keys[0] (List.getElem_mem _) c hc'
    rcases sLt_total c o.keys[0] with g | g | g
    · subst g; exact h00
    · exact sLt_trans g h00
    · rw [g] at this; cases this
  have htk : ∀ k ∈ o.keys.take cut, sLt k o.keys[cut] = true := by
    intro k hk
    obtain ⟨j, hj, rfl⟩ := List.getElem_of_mem hk
    rw [List.getElem_take]
    rw [List.length_take] at hj
    exact hin j cut (by omega) hc (by omega)
  have hdr : ∀ k ∈ o.keys.drop cut, sLt k o.keys[cut] = false := by
    intro k hk
    obtain ⟨j, hj, rfl⟩ := List.getElem_of_mem hk
    rw [List.getElem_drop]
    rw [List.length_drop] at hj
    rcases Nat.eq_zero_or_pos j with g | g
    · subst g; exact sLt_irrefl _
    · exact sLt_asymm (hin cut (cut + j) hc (by omega) (by omega))
  refine wf_split.2 ⟨w.pa, w.qa, ?_, ?_, ?_, ?_, ?_, ?_⟩
  · rw [e]
    exact ⟨w.po.1.sublist (List.take_sublist _ _), fun k hk => w.po.2 k (List.mem_of_mem_take hk)⟩
  · intro a ha
    obtain ⟨bb, g1, g2, g3⟩ := w.ao a ha
    exact ⟨bb, by rw [e]; exact g1, g2, g3⟩
  · intro p hp
    rcases List.mem_cons.1 hp with rfl | hp
    · exact ⟨_, rfl, htk, fun ab hab => hlow ab (by rw [e] at hab; exact hab)⟩
    · obtain ⟨bb, g1, g2, g3⟩ := w.ob p hp
      cases g1
      exact ⟨p.bound, rfl, fun k hk => g2 k (List.mem_of_mem_take hk), by rw [e]; exact g3⟩
  · unfold sb
    rw [List.map_cons, List.pairwise_cons]
    refine ⟨fun x hx => ?_, w.pb⟩
    obtain ⟨p, hp, rfl⟩ := mem_sb.1 hx
    obtain ⟨bb, g1, g2, g3⟩ := w.ob p hp
    cases g1
    exact ⟨p.bound, rfl, fun k hk => g2 k (List.mem_of_mem_drop hk), fun ab hab => by cases hab; exact g2 _ hcm⟩
  · intro p hp
    rcases List.mem_cons.1 hp with rfl | hp
    · exact ⟨w.po.1.sublist (List.drop_sublist _ _), fun k hk b hb => by cases hb; exact hdr k hk⟩
    · exact w.qb p hp
  · intro a ha p hp
    rcases List.mem_cons.1 hp with rfl | hp
    · obtain ⟨bb, g1, g2, g3⟩ := w.ao a ha
      have := hlow bb g1
      exact ⟨_, rfl, fun k hk => sLt_trans (g2 k hk) this, fun ab hab => sLt_trans (g3 ab hab) this⟩
    · exact w.ab a ha p hp
theorem wf_del {A : List OneM} {o : OneM} {B : List OneM} (w : WFs A o B) : WF (A ++ B) := by
  cases B with
  | nil => rw [List.append_nil]; exact ⟨w.pa, w.qa⟩
  | cons p B =>
    have h1 := w.pb
    unfold sb at h1
    rw [List.map_cons, List.pairwise_cons] at h1
    refine wf_split.2 ⟨w.pa, w.qa, ⟨(w.qb p (by simp)).1, ?_⟩, ?_, ?_, h1.2, fun q hq => w.qb q (List.mem_cons_of_mem _ hq), fun a ha q hq => w.ab a ha q (List.mem_cons_of_mem _ hq)⟩
    · intro k hk b hb
      cases A with
      | nil => cases hb
      | cons a A => exact (w.qb p (by simp)).2 k hk b hb
    · intro a ha
      cases A with
      | nil => cases ha
      | cons a' A => exact w.ab a ha p (by simp)
    · intro q hq
      obtain ⟨bb, g1, g2, g3⟩ := h1.1 _ (mem_sb.2 ⟨q, hq, rfl⟩)
      refine ⟨bb, g1, g2, fun ab hab => ?_⟩
      cases A with
      | nil => cases hab
      | cons a A => exact g3 ab hab
/-- The number of a key's leaf. -/
def ofN : OneM → List OneM → ByteArray → Int
  | o, [], _ => o.n
  | o, p :: B, q => if sLt q p.bound = true then o.n else ofN p B q
def ofL : List OneM → ByteArray → Int
  | [], _ => 0
  | o :: l, q => ofN o l q
theorem not_gtB {a b : ByteArray} : (!gtB a b) = !sLt b a := by
  congr 1
  cases h : gtB a b with
  | true => exact (gtB_iff.1 h).symm
  | false =>
    cases h2 : sLt b a with
    | false => rfl
    | true => rw [gtB_iff.2 h2] at h; cases h
theorem ofN_at (q : ByteArray) : ∀ (l : List OneM) (o : OneM), ∃ h : (l.takeWhile fun p => !gtB p.bound q).length < (o :: l).length, ofN o l q = ((o :: l)[(l.takeWhile fun p => !gtB p.bound q).length]'h).n
  | [], o => ⟨by simp, by simp [ofN]⟩
  | p :: l, o => by
    obtain ⟨h1, h2⟩ := ofN_at q l p
    unfold ofN
    cases hq : sLt q p.bound with
    | true =>
      have e : ((p :: l).takeWhile fun p => !gtB p.bound q) = [] := by rw [List.takeWhile_cons, not_gtB, hq]; rfl
      rw [if_pos rfl]
      refine ⟨by rw [e]; simp, ?_⟩
      simp only [e]
      rfl
    | false =>
      have e : ((p :: l).takeWhile fun p => !gtB p.bound q) = p :: (l.takeWhile fun p => !gtB p.bound q) := by rw [List.takeWhile_cons, not_gtB, hq]; rfl
      rw [if_neg (by decide)]
      refine ⟨by rw [e]; simp only [List.length_cons] at h1 ⊢; omega, ?_⟩
      rw [h2]
      simp only [e, List.length_cons, List.getElem_cons_succ]
theorem ofL_at {l : List OneM} (hne : l ≠ []) (q : ByteArray) : (l[atL l q]'(atL_lt hne q)).n = ofL l q := by
  cases l with
  | nil => exact absurd rfl hne
  | cons o l =>
    obtain ⟨h1, h2⟩ := ofN_at q l o
    show _ = ofN o l q
    rw [h2]
    rfl
theorem wf_tail {A : List OneM} {o : OneM} {B : List OneM} {a : OneM} (w : WFs (a :: A) o B) : ∀ p ∈ A, sLt p.bound o.bound = true := by
  intro p hp
  obtain ⟨bb, g1, g2, g3⟩ := w.ao (some p.bound, p) (by unfold lb; exact List.mem_cons_of_mem _ (mem_sb.2 ⟨p, hp, rfl⟩))
  cases g1
  exact g3 _ rfl
theorem ofN_app (q : ByteArray) (o : OneM) (B : List OneM) : ∀ (A : List OneM) (a : OneM), (∀ p ∈ A, sLt p.bound o.bound = true) → ofN a (A ++ o :: B) q = if sLt q o.bound = true then ofN a A q else ofN o B q
  | [], a, _ => by simp [ofN]
  | p :: A, a, h => by
    have e1 : ∀ l, ofN a (p :: l) q = if sLt q p.bound = true then a.n else ofN p l q := fun _ => rfl
    rw [List.cons_append, e1, e1, ofN_app q o B A p fun r hr => h r (List.mem_cons_of_mem _ hr)]
    cases h1 : sLt q p.bound with
    | true => rw [if_pos rfl, if_pos rfl, sLt_trans h1 (h p (by simp)), if_pos rfl]
    | false => simp
theorem ofL_app (q : ByteArray) {A : List OneM} {o : OneM} {B : List OneM} {a : OneM} (w : WFs (a :: A) o B) : ofL (a :: A ++ o :: B) q = if sLt q o.bound = true then ofN a A q else ofN o B q :=
  ofN_app q o B A a (wf_tail w)
/-- Where a key's leaf stands. -/
theorem at_iff {A : List OneM} {o : OneM} {B : List OneM} (w : WFs A o B) (k : ByteArray) : atL (A ++ o :: B) k = A.length ↔ leO (lbOf A o) k ∧ ∀ p ∈ B, sLt k p.bound = true := by
  have hpb : ∀ j (hj : j < B.length) j2 (hj2 : j2 < B.length), j < j2 → sLt B[j].bound B[j2].bound = true := by
    intro j hj j2 hj2 hlt
    have := List.pairwise_iff_getElem.1 w.pb j j2 (by simpa [sb] using hj) (by simpa [sb] using hj2) hlt
    simp only [sb, List.getElem_map] at this
    obtain ⟨bb, g1, g2, g3⟩ := this
    cases g1
    exact g3 _ rfl
  constructor
  · intro h
    have stop : ∀ (l : List OneM) (n : Nat), (l.takeWhile fun p => !gtB p.bound k).length = n → (∀ j (hj : j < l.length), j < n → sLt k l[j].bound = false) ∧ ∀ hn : n < l.length, sLt k l[n].bound = true := by
      intro l
      induction l with
      | nil => intro n _; exact ⟨fun j hj => by simp at hj, fun hn => by simp at hn⟩
      | cons p l ih =>
        intro n hn
        rw [List.takeWhile_cons, not_gtB] at hn
        cases hq : sLt k p.bound with
        | true =>
          rw [hq, if_neg (by decide)] at hn
          subst hn
          exact ⟨fun j _ hj => by simp at hj, fun _ => hq⟩
        | false =>
          rw [hq, if_pos (by decide), List.length_cons] at hn
          obtain ⟨h1, h2⟩ := ih (n - 1) (by omega)
          refine ⟨fun j hj hjn => ?_, fun hn2 => ?_⟩
          · cases j with
            | zero => exact hq
            | succ j => exact h1 j (by simpa using hj) (by omega)
          · cases n with
            | zero => omega
            | succ n => exact h2 (by simpa using hn2)
    unfold atL at h
    cases A with
    | nil =>
      simp only [List.nil_append, List.tail_cons, List.length_nil] at h
      obtain ⟨_, h2⟩ := stop _ _ h
      refine ⟨fun b hb => (by cases hb), fun p hp => ?_⟩
      obtain ⟨j, hj, rfl⟩ := List.getElem_of_mem hp
      have h3 := h2 (by omega)
      rcases Nat.eq_zero_or_pos j with g | g
      · subst g; exact h3
      · exact sLt_trans h3 (hpb 0 (by omega) j hj g)
    | cons a A =>
      simp only [List.cons_append, List.tail_cons, List.length_cons] at h
      obtain ⟨h1, h2⟩ := stop _ _ h
      refine ⟨fun b hb => ?_, fun p hp => ?_⟩
      · have := h1 A.length (by simp) (by omega)
        simp at this
        cases hb
        exact this
      · obtain ⟨j, hj, rfl⟩ := List.getElem_of_mem hp
        have h3 := h2 (by simp; omega)
        rw [List.getElem_append_right (by omega)] at h3
        simp only [show A.length + 1 - A.length = 0 + 1 by omega, List.getElem_cons_succ] at h3
        rcases Nat.eq_zero_or_pos j with g | g
        · subst g; exact h3
        · exact sLt_trans h3 (hpb 0 (by omega) j hj g)
  · rintro ⟨h1, h2⟩
    unfold atL
    cases A with
    | nil =>
      simp only [List.nil_append, List.tail_cons, List.length_nil]
      refine tw_len _ _ 0 (fun j _ hj => by omega) (by omega) fun hn => ?_
      rw [not_gtB, h2 _ (List.getElem_mem _)]
      rfl
    | cons a A =>
      simp only [List.cons_append, List.tail_cons, List.length_cons]
      have ho := h1 o.bound rfl
      refine tw_len _ _ _ (fun j hj hjn => ?_) (by simp) fun hn => ?_
      · rw [not_gtB]
        rcases (by omega : j < A.length ∨ j = A.length) with g | g
        · rw [List.getElem_append_left g]
          have := wf_tail w A[j] (List.getElem_mem _)
          rw [show sLt k A[j].bound = false from by
            cases h3 : sLt k A[j].bound with
            | false => rfl
            | true => rw [sLt_trans h3 this] at ho; cases ho]
          rfl
        · subst g
          simp [ho]
      · rw [not_gtB, List.getElem_append_right (by omega)]
        simp only [show A.length + 1 - A.length = 0 + 1 by omega, List.getElem_cons_succ]
        rw [h2 _ (List.getElem_mem _)]
        rfl
/-- A list of leaves, and where a key's leaf stands in it. -/
theorem at_split {l : List OneM} (hw : WF l) (hne : l ≠ []) (k : ByteArray) : ∃ A o B, l = A ++ o :: B ∧ atL l k = A.length ∧ WFs A o B ∧ leO (lbOf A o) k ∧ (∀ p ∈ B, sLt k p.bound = true) ∧ l[atL l k]'(atL_lt hne k) = o := by
  have hlt := atL_lt hne k
  have e : l = l.take (atL l k) ++ l[atL l k] :: l.drop (atL l k + 1) := by
    conv => lhs; rw [← List.take_append_drop (atL l k) l]
    rw [List.drop_eq_getElem_cons hlt]
  have hlen : (l.take (atL l k)).length = atL l k := by simp; omega
  have w := hw
  rw [e] at w
  have w' := wf_split.1 w
  have h2 := (at_iff w' k).1 (by rw [← e, hlen])
  exact ⟨_, _, _, e, hlen.symm, w', h2.1, h2.2, rfl⟩
end Go.Lift.X
namespace Go.Lift.X
open Go
structure OkM (M : LeafM) (n : Nat) : Prop where
  wf : WF M.l
  ne : M.l ≠ []
  fan : 2 ≤ M.fan ∧ M.fan ≤ 64
  keys : ∀ o ∈ M.l, (o.keys.length : Int) ≤ M.fan
  full : 1 < M.l.length → ∀ o ∈ M.l, o.keys ≠ []
  len : M.l.length ≤ n + 1
  nx : 2 ≤ M.next ∧ M.next ≤ n + 2
  num : ∀ o ∈ M.l, 1 ≤ o.n ∧ o.n < M.next
  nd : (M.l.map OneM.n).Nodup
theorem wf_ord {l : List OneM} (w : WF l) : ∀ o ∈ l, InOrder o.keys := by
  intro o ho
  obtain ⟨A, B, rfl⟩ := List.append_of_mem ho
  exact (wf_split.1 w).po.1
theorem OkM.ord {M : LeafM} {n : Nat} (ok : OkM M n) : ∀ o ∈ M.l, InOrder o.keys ∧ o.keys.length ≤ 2 ^ 10 := fun o ho => ⟨wf_ord ok.wf o ho, by have := ok.keys o ho; have := ok.fan; omega⟩
/-- The place of a key among keys in order. -/
theorem posK_spec {xs : List ByteArray} (ho : InOrder xs) (k : ByteArray) : posK xs k ≤ xs.length ∧ (∀ y ∈ xs.take (posK xs k), sLt y k = true) ∧ ∀ y ∈ xs.drop (posK xs k), sLt y k = false := by
  induction xs with
  | nil => simp [posK]
  | cons x xs ih =>
    obtain ⟨h1, h2⟩ := List.pairwise_cons.1 ho
    obtain ⟨g1, g2, g3⟩ := ih h2
    unfold posK
    rw [List.takeWhile_cons]
    cases hx : sLt x k with
    | false =>
      simp only [Bool.false_eq_true, if_false, List.length_nil, List.take_zero, List.drop_zero]
      refine ⟨by omega, by simp, fun y hy => ?_⟩
      rcases List.mem_cons.1 hy with rfl | hy
      · exact hx
      · cases h3 : sLt y k with
        | false => rfl
        | true => rw [sLt_trans (h1 y hy) h3] at hx; cases hx
    | true =>
      simp only [if_true, List.length_cons, List.take_succ_cons, List.drop_succ_cons]
      refine ⟨by unfold posK at g1; omega, fun y hy => ?_, g3⟩
      rcases List.mem_cons.1 hy with rfl | hy
      · exact hx
      · exact g2 y hy
theorem mem_putK {xs : List ByteArray} {k y : ByteArray} : y ∈ putK xs k ↔ y = k ∨ y ∈ xs := by
  unfold putK
  conv => rhs; rw [← List.take_append_drop (posK xs k) xs]
  simp only [List.mem_append, List.mem_cons, List.not_mem_nil, or_false]
  constructor
  · rintro ((h | h) | h)
    · exact Or.inr (Or.inl h)
    · exact Or.inl h
    · exact Or.inr (Or.inr h)
  · rintro (h | h | h)
    · exact Or.inl (Or.inr h)
    · exact Or.inl (Or.inl h)
    · exact Or.inr h
theorem putK_len (xs : List ByteArray) (k : ByteArray) : (putK xs k).length = xs.length + 1 := by
  unfold putK
  have : posK xs k ≤ xs.length := (List.takeWhile_sublist _).length_le
  simp; omega
theorem putK_ord {xs : List ByteArray} (ho : InOrder xs) {k : ByteArray} (hk : hasK xs k = false) : InOrder (putK xs k) := by
  obtain ⟨h1, h2, h3⟩ := posK_spec ho k
  have hnm : k ∉ xs := fun hm => by rw [hasK_iff.2 hm] at hk; cases hk
  unfold putK
  rw [List.append_assoc, InOrder, List.pairwise_append]
  refine ⟨ho.sublist (List.take_sublist _ _), ?_, ?_⟩
  · rw [List.singleton_append, List.pairwise_cons]
    refine ⟨fun y hy => ?_, ho.sublist (List.drop_sublist _ _)⟩
    rcases sLt_total k y with e | e | e
    · subst e; exact absurd (List.mem_of_mem_drop hy) hnm
    · exact e
    · rw [h3 y hy] at e; cases e
  · intro a ha b hb
    rw [List.singleton_append, List.mem_cons] at hb
    rcases hb with rfl | hb
    · exact h2 a ha
    · have e := ho
      rw [InOrder, ← List.take_append_drop (posK xs k) xs, List.pairwise_append] at e
      exact e.2.2 a ha b hb
theorem putK_at {xs : List ByteArray} (k : ByteArray) : ∃ h : posK xs k < (putK xs k).length, (putK xs k)[posK xs k] = k := by
  have hp : posK xs k ≤ xs.length := (List.takeWhile_sublist _).length_le
  have e : (putK xs k)[posK xs k]? = some k := by
    unfold putK
    rw [List.append_assoc, List.getElem?_append_right (by simp; omega)]
    simp [Nat.min_eq_left hp]
  obtain ⟨h1, h2⟩ := List.getElem?_eq_some_iff.1 e
  exact ⟨h1, h2⟩
theorem cutK_sub (xs : List ByteArray) (k : ByteArray) : (cutK xs k).Sublist xs := by
  unfold cutK
  conv => rhs; rw [← List.take_append_drop (posK xs k) xs]
  refine List.Sublist.append_left ?_ _
  rw [Nat.add_comm, Nat.add_comm 1, ← List.drop_drop]
  exact List.drop_sublist _ _
/-- What a step has done to the leaves of keys: they are the same ones, but for those that a move led away. -/
def Moved (l l' : List OneM) (d : Did) : Prop := ∀ q, ofL l' q = ofL l q ∨ (d.mf ≠ 0 ∧ ofL l q = d.mf ∧ ofL l' q = d.mt)
theorem Moved.refl (l : List OneM) (d : Did) : Moved l l d := fun _ => Or.inl rfl
theorem ofN_congr (q : ByteArray) : ∀ (l l' : List OneM) (o o' : OneM), o.n = o'.n → l.map (fun p => (p.n, p.bound)) = l'.map (fun p => (p.n, p.bound)) → ofN o l q = ofN o' l' q
  | [], [], o, o', h, _ => h
  | [], _ :: _, _, _, _, h => by cases h
  | _ :: _, [], _, _, _, h => by cases h
  | p :: l, p' :: l', o, o', h, h2 => by
    simp only [List.map_cons, List.cons.injEq, Prod.mk.injEq] at h2
    unfold ofN
    rw [h2.1.2, h, ofN_congr q l l' p p' h2.1.1 h2.2]
theorem ofL_setK (A : List OneM) (o : OneM) (B : List OneM) (K : List ByteArray) (q : ByteArray) : ofL (A ++ { o with keys := K } :: B) q = ofL (A ++ o :: B) q := by
  cases A with
  | nil => exact ofN_congr q _ _ _ _ rfl rfl
  | cons a A => exact ofN_congr q _ _ _ _ rfl (by simp)
theorem ofN_lt (q : ByteArray) (o : OneM) (B : List OneM) (h : ∀ p ∈ B, sLt q p.bound = true) : ofN o B q = o.n := by
  cases B with
  | nil => rfl
  | cons p B => unfold ofN; rw [if_pos (h p (by simp))]
/-- The leaf that is cut in two. -/
theorem ofN_two (q : ByteArray) (o y z : OneM) (B : List OneM) (hy : y.n = o.n) (hz : ∀ p ∈ B, sLt z.bound p.bound = true) : ofN y (z :: B) q = ofN o B q ∨ (ofN o B q = o.n ∧ ofN y (z :: B) q = z.n) := by
  have e : ofN y (z :: B) q = if sLt q z.bound = true then y.n else ofN z B q := rfl
  rw [e]
  cases h : sLt q z.bound with
  | true =>
    rw [if_pos rfl, ofN_lt q o B fun p hp => sLt_trans h (hz p hp)]
    exact Or.inl hy
  | false =>
    rw [if_neg (by decide)]
    cases B with
    | nil => exact Or.inr ⟨rfl, rfl⟩
    | cons p B =>
      have e2 : ∀ o, ofN o (p :: B) q = if sLt q p.bound = true then o.n else ofN p B q := fun _ => rfl
      rw [e2, e2]
      cases h2 : sLt q p.bound with
      | true => exact Or.inr ⟨rfl, rfl⟩
      | false => exact Or.inl rfl
theorem lbOf_n {A : List OneM} {o o' : OneM} (h : o.bound = o'.bound) : lbOf A o = lbOf A o' := by cases A <;> simp [lbOf, h]
theorem cut_moved {A : List OneM} {o : OneM} {B : List OneM} (w : WFs A o B) {cut : Nat} (n : Int) (h0 : 0 < cut) (hc : cut < o.keys.length) (q : ByteArray) :
    ofL (A ++ { o with keys := o.keys.take cut } :: ⟨n, o.keys[cut], o.keys.drop cut⟩ :: B) q = ofL (A ++ o :: B) q ∨ (ofL (A ++ o :: B) q = o.n ∧ ofL (A ++ { o with keys := o.keys.take cut } :: ⟨n, o.keys[cut], o.keys.drop cut⟩ :: B) q = n) := by
  have w2 := wf_split.1 (wf_cut w n h0 hc)
  have hz : ∀ p ∈ B, sLt o.keys[cut] p.bound = true := by
    intro p hp
    obtain ⟨bb, g1, g2, g3⟩ := w.ob p hp
    cases g1
    exact g2 _ (List.getElem_mem _)
  cases A with
  | nil => exact ofN_two q o _ ⟨n, o.keys[cut], o.keys.drop cut⟩ B rfl hz
  | cons a A =>
    rw [ofL_app q w, ofL_app q w2]
    simp only
    cases h : sLt q o.bound with
    | true => exact Or.inl rfl
    | false => exact ofN_two q o _ ⟨n, o.keys[cut], o.keys.drop cut⟩ B rfl hz
theorem ofN_last (q : ByteArray) : ∀ (A : List OneM) (a : OneM), (∀ p ∈ A, sLt q p.bound = false) → ofN a A q = ((a :: A).getLast (by simp)).n
  | [], a, _ => rfl
  | p :: A, a, h => by
    unfold ofN
    rw [if_neg (by rw [h p (by simp)]; decide), ofN_last q A p fun r hr => h r (List.mem_cons_of_mem _ hr), List.getLast_cons_cons]
theorem del_moved {A : List OneM} {o : OneM} {B : List OneM} (w : WFs A o B) (hne : A ++ B ≠ []) (q : ByteArray) :
    ofL (A ++ B) q = ofL (A ++ o :: B) q ∨ (ofL (A ++ o :: B) q = o.n ∧ ofL (A ++ B) q = ((A ++ B).getD (A.length - 1) o).n) := by
  have w2 := wf_del w
  cases B with
  | nil =>
    cases A with
    | nil => exact absurd rfl hne
    | cons a A =>
      rw [ofL_app q w, List.append_nil]
      cases h : sLt q o.bound with
      | true => exact Or.inl rfl
      | false =>
        refine Or.inr ⟨rfl, ?_⟩
        show ofN a A q = _
        rw [ofN_last q A a fun p hp => by
          cases h2 : sLt q p.bound with
          | false => rfl
          | true => rw [sLt_trans h2 (wf_tail w p hp)] at h; cases h]
        rw [List.getD_eq_getElem?_getD, List.length_cons, Nat.add_sub_cancel, List.getElem?_eq_getElem (by simp), Option.getD_some, List.getLast_eq_getElem]
        rfl
  | cons p B =>
    have hp : ∀ r ∈ B, sLt p.bound r.bound = true := by
      intro r hr
      have h1 := w.pb
      unfold sb at h1
      rw [List.map_cons, List.pairwise_cons] at h1
      obtain ⟨bb, g1, g2, g3⟩ := h1.1 _ (mem_sb.2 ⟨r, hr, rfl⟩)
      cases g1
      exact g3 _ rfl
    have e2 : ∀ o, ofN o (p :: B) q = if sLt q p.bound = true then o.n else ofN p B q := fun _ => rfl
    cases A with
    | nil =>
      show ofN p B q = ofN o (p :: B) q ∨ (ofN o (p :: B) q = o.n ∧ ofN p B q = _)
      rw [e2]
      cases h : sLt q p.bound with
      | true =>
        refine Or.inr ⟨rfl, ?_⟩
        rw [ofN_lt q p B fun r hr => sLt_trans h (hp r hr)]
        rfl
      | false => exact Or.inl rfl
    | cons a A =>
      rw [ofL_app q w, ofL_app q (wf_split.1 w2), e2]
      have hop : sLt o.bound p.bound = true := by
        obtain ⟨bb, g1, g2, g3⟩ := w.ob p (by simp)
        cases g1
        exact g3 _ rfl
      cases h : sLt q o.bound with
      | true => rw [sLt_trans h hop]; exact Or.inl rfl
      | false =>
        cases h2 : sLt q p.bound with
        | false => exact Or.inl rfl
        | true =>
          refine Or.inr ⟨rfl, ?_⟩
          simp only [if_true]
          rw [ofN_last q A a fun r hr => by
            cases h3 : sLt q r.bound with
            | false => rfl
            | true => rw [sLt_trans h3 (wf_tail w r hr)] at h; cases h]
          rw [List.getD_eq_getElem?_getD, List.length_cons, Nat.add_sub_cancel, List.getElem?_append_left (by simp), List.getElem?_eq_getElem (by simp), Option.getD_some, List.getLast_eq_getElem]
          rfl
/-- A key's leaf, by what stands about it. -/
theorem ofL_here {A : List OneM} {o : OneM} {B : List OneM} (w : WFs A o B) {k : ByteArray} (h1 : leO (lbOf A o) k) (h2 : ∀ p ∈ B, sLt k p.bound = true) : ofL (A ++ o :: B) k = o.n := by
  have ha := (at_iff w k).2 ⟨h1, h2⟩
  have := ofL_at (l := A ++ o :: B) (by simp) k
  rw [← this]
  congr 1
  simp only [ha]
  simp
theorem OkM.up {M : LeafM} {n : Nat} (ok : OkM M n) : OkM M (n + 1) := { ok with len := by have := ok.len; omega, nx := by have := ok.nx; omega }
theorem ins_ok {M : LeafM} {n : Nat} (ok : OkM M n) (k : ByteArray) : OkM (M.ins k).1 (n + 1) ∧ Moved M.l (M.ins k).1.l (M.ins k).2 ∧ ((M.ins k).2.err = 0 → ofL (M.ins k).1.l k = (M.ins k).2.leaf) := by
  by_cases hk : k.size > 1024
  · unfold LeafM.ins
    rw [if_pos hk]
    exact ⟨ok.up, Moved.refl _ _, fun h => by cases h⟩
  · have hlt := atL_lt ok.ne k
    rw [ins_eq hk hlt]
    obtain ⟨A, o, B, hl, ha, w, hlo, hhi, ho⟩ := at_split ok.wf ok.ne k
    rw [ho]
    unfold LeafM.insAt
    have hom : o ∈ M.l := by rw [hl]; simp
    cases hh : hasK o.keys k with
    | true =>
      rw [if_pos rfl]
      exact ⟨ok.up, Moved.refl _ _, fun h => by cases h⟩
    | false =>
      rw [if_neg (by decide)]
      have hord : InOrder (putK o.keys k) := putK_ord w.po.1 hh
      have hkb : ∀ y ∈ putK o.keys k, leO (lbOf A o) y := by
        intro y hy
        rcases mem_putK.1 hy with rfl | hy
        · exact hlo
        · exact w.po.2 y hy
      have hka : ∀ y ∈ putK o.keys k, ∀ p ∈ B, sLt y p.bound = true := by
        intro y hy p hp
        rcases mem_putK.1 hy with rfl | hy
        · exact hhi p hp
        · obtain ⟨bb, g1, g2, g3⟩ := w.ob p hp
          cases g1
          exact g2 y hy
      have w' := wf_set w hord hkb hka
      have hol := ok.keys o hom
      have hset : M.l.set (atL M.l k) { o with keys := putK o.keys k } = A ++ { o with keys := putK o.keys k } :: B := by
        rw [ha, hl, List.set_append_right _ _ (by omega)]; simp
      have hone : A ++ o :: B = M.l := hl.symm
      by_cases hf : ((putK o.keys k).length : Int) ≤ M.fan
      · rw [if_pos hf]
        refine ⟨⟨?_, ?_, ok.fan, ?_, ?_, ?_, by have := ok.nx; simp only; omega, ?_, ?_⟩, ?_, ?_⟩
        · simp only; rw [hset]; exact wf_split.2 w'
        · simp only; rw [hset]; simp
        · simp only
          intro o' ho'
          rcases List.mem_or_eq_of_mem_set ho' with g | g
          · exact ok.keys o' g
          · subst g; exact hf
        · simp only
          intro h1 o' ho'
          rcases List.mem_or_eq_of_mem_set ho' with g | g
          · exact ok.full (by simpa using h1) o' g
          · subst g
            simp only
            intro e
            have := putK_len o.keys k
            rw [e] at this
            simp at this
        · simp only [List.length_set]; have := ok.len; omega
        · simp only
          intro o' ho'
          rcases List.mem_or_eq_of_mem_set ho' with g | g
          · exact ok.num o' g
          · subst g; exact ok.num o hom
        · simp only
          rw [hset]
          have := ok.nd
          rw [hl] at this
          simpa using this
        · intro q
          refine Or.inl ?_
          simp only
          rw [hset, ofL_setK, hone]
        · intro _
          simp only
          rw [hset, ofL_setK]
          exact ofL_here w hlo hhi
      · rw [if_neg hf]
        simp only
        have hKl := putK_len o.keys k
        have hcl : ((putK o.keys k).length + 1) / 2 < (putK o.keys k).length := by have := ok.fan; omega
        have hc0 : 0 < ((putK o.keys k).length + 1) / 2 := by omega
        have hc2 : ((putK o.keys k).length + 1) / 2 ≤ M.fan := by have := ok.fan; omega
        generalize hcut : ((putK o.keys k).length + 1) / 2 = cut at *
        have hgd : (putK o.keys k).getD cut (ByteArray.mk #[]) = (putK o.keys k)[cut] := by rw [List.getD_eq_getElem?_getD, List.getElem?_eq_getElem hcl]; rfl
        have hlist : M.l.take (atL M.l k) ++ [{ o with keys := (putK o.keys k).take cut }, ⟨M.next, (putK o.keys k).getD cut (ByteArray.mk #[]), (putK o.keys k).drop cut⟩] ++ M.l.drop (atL M.l k + 1)
            = A ++ { o with keys := (putK o.keys k).take cut } :: ⟨M.next, (putK o.keys k)[cut], (putK o.keys k).drop cut⟩ :: B := by
          rw [hgd, ha, hl, List.take_left, show (A ++ o :: B).drop (A.length + 1) = B by rw [List.drop_append]; simp]
          simp
        rw [hlist]
        have wc := wf_cut w' M.next hc0 hcl
        have hmem : ∀ o', o' ∈ A ++ { o with keys := (putK o.keys k).take cut } :: ⟨M.next, (putK o.keys k)[cut], (putK o.keys k).drop cut⟩ :: B ↔ o' ∈ A ∨ o' = { o with keys := (putK o.keys k).take cut } ∨ o' = ⟨M.next, (putK o.keys k)[cut], (putK o.keys k).drop cut⟩ ∨ o' ∈ B := by
          intro o'; simp
        have hA : ∀ o' ∈ A, o' ∈ M.l := fun o' h => by rw [hl]; simp [h]
        have hB : ∀ o' ∈ B, o' ∈ M.l := fun o' h => by rw [hl]; simp [h]
        have hlen : M.l.length = A.length + 1 + B.length := by rw [hl]; simp; omega
        refine ⟨⟨wc, by simp, ok.fan, ?_, ?_, ?_, by have := ok.nx; simp only; omega, ?_, ?_⟩, ?_, ?_⟩
        · simp only
          intro o' ho'
          rcases (hmem o').1 ho' with g | g | g | g
          · exact ok.keys o' (hA _ g)
          · subst g; simp only [List.length_take]; omega
          · subst g; simp only [List.length_drop]; omega
          · exact ok.keys o' (hB _ g)
        · simp only
          intro _ o' ho'
          rcases (hmem o').1 ho' with g | g | g | g
          · exact ok.full (by have := List.length_pos_of_mem g; omega) o' (hA _ g)
          · subst g
            simp only
            intro e
            have := congrArg List.length e
            simp only [List.length_take, List.length_nil] at this
            omega
          · subst g
            simp only
            intro e
            have := congrArg List.length e
            simp only [List.length_drop, List.length_nil] at this
            omega
          · exact ok.full (by have := List.length_pos_of_mem g; omega) o' (hB _ g)
        · have := ok.len
          simp only [List.length_append, List.length_cons]
          omega
        · simp only
          intro o' ho'
          have hn2 := ok.nx
          have hno := ok.num o hom
          rcases (hmem o').1 ho' with g | g | g | g
          · have := ok.num o' (hA _ g); omega
          · subst g; simp only; omega
          · subst g; simp only; omega
          · have := ok.num o' (hB _ g); omega
        · simp only
          have hnd := ok.nd
          rw [hl] at hnd
          have hperm : ((A ++ { o with keys := (putK o.keys k).take cut } :: ⟨M.next, (putK o.keys k)[cut], (putK o.keys k).drop cut⟩ :: B).map OneM.n).Perm (M.next :: (A ++ o :: B).map OneM.n) := by
            simp only [List.map_append, List.map_cons]
            have h1 : (A.map OneM.n ++ o.n :: M.next :: B.map OneM.n).Perm (A.map OneM.n ++ M.next :: o.n :: B.map OneM.n) := List.Perm.append_left _ (List.Perm.swap _ _ _)
            exact h1.trans List.perm_middle
          rw [hperm.nodup_iff, List.nodup_cons]
          refine ⟨fun hm => ?_, hnd⟩
          obtain ⟨o', ho', he⟩ := List.mem_map.1 hm
          rw [← hl] at ho'
          have := ok.num o' ho'
          omega
        · intro q
          simp only
          rcases cut_moved w' M.next hc0 hcl q with g | ⟨g1, g2⟩
          · rw [ofL_setK A o B, hone] at g
            exact Or.inl g
          · rw [ofL_setK A o B, hone] at g1
            exact Or.inr ⟨by have := ok.num o hom; omega, g1, g2⟩
        · intro _
          obtain ⟨hp1, hp2⟩ := putK_at (xs := o.keys) k
          have hin := List.pairwise_iff_getElem.1 hord
          have e := lbOf_n (A := A) (o := { o with keys := (putK o.keys k).take cut }) (o' := o) rfl
          by_cases hpc : posK o.keys k < cut
          · rw [if_pos hpc]
            have hkz : sLt k (putK o.keys k)[cut] = true := by
              have := hin _ _ hp1 hcl hpc
              rw [hp2] at this
              exact this
            refine ofL_here (wf_split.1 wc) (by rw [e]; exact hlo) fun p hp => ?_
            rcases List.mem_cons.1 hp with rfl | hp
            · exact hkz
            · exact hhi p hp
          · rw [if_neg hpc]
            have hkz : sLt k (putK o.keys k)[cut] = false := by
              rcases (by omega : cut = posK o.keys k ∨ cut < posK o.keys k) with g | g
              · subst g; rw [hp2]; exact sLt_irrefl _
              · have := hin _ _ hcl hp1 g
                rw [hp2] at this
                exact sLt_asymm this
            have wz : WFs (A ++ [{ o with keys := (putK o.keys k).take cut }]) ⟨M.next, (putK o.keys k)[cut], (putK o.keys k).drop cut⟩ B := by
              refine wf_split.1 ?_
              rw [List.append_assoc]
              exact wc
            have := ofL_here wz (k := k) (by
              intro b hb
              have : lbOf (A ++ [{ o with keys := (putK o.keys k).take cut }]) (⟨M.next, (putK o.keys k)[cut], (putK o.keys k).drop cut⟩ : OneM) = some (putK o.keys k)[cut] := by cases A <;> rfl
              rw [this] at hb
              cases hb
              exact hkz) hhi
            rw [List.append_assoc] at this
            exact this
theorem rem_ok {M : LeafM} {n : Nat} (ok : OkM M n) (k : ByteArray) : OkM (M.rem k).1 (n + 1) ∧ Moved M.l (M.rem k).1.l (M.rem k).2 := by
  have hlt := atL_lt ok.ne k
  rw [rem_eq hlt]
  obtain ⟨A, o, B, hl, ha, w, hlo, hhi, ho⟩ := at_split ok.wf ok.ne k
  rw [ho]
  unfold LeafM.remAt
  have hom : o ∈ M.l := by rw [hl]; simp
  have hA : ∀ o' ∈ A, o' ∈ M.l := fun o' h => by rw [hl]; simp [h]
  have hB : ∀ o' ∈ B, o' ∈ M.l := fun o' h => by rw [hl]; simp [h]
  have hlen : M.l.length = A.length + 1 + B.length := by rw [hl]; simp; omega
  have hone : A ++ o :: B = M.l := hl.symm
  cases hh : hasK o.keys k with
  | false =>
    rw [if_pos rfl]
    exact ⟨ok.up, Moved.refl _ _⟩
  | true =>
    rw [if_neg (by decide)]
    have hsub := cutK_sub o.keys k
    have w' := wf_set w (w.po.1.sublist hsub) (fun y hy => w.po.2 y (hsub.subset hy)) (fun y hy p hp => by
      obtain ⟨bb, g1, g2, g3⟩ := w.ob p hp
      cases g1
      exact g2 y (hsub.subset hy))
    have hset : M.l.set (atL M.l k) { o with keys := cutK o.keys k } = A ++ { o with keys := cutK o.keys k } :: B := by
      rw [ha, hl, List.set_append_right _ _ (by omega)]; simp
    by_cases hc : 0 < (cutK o.keys k).length ∨ M.l.length = 1
    · rw [if_pos hc]
      simp only
      refine ⟨⟨?_, ?_, ok.fan, ?_, ?_, ?_, by have := ok.nx; simp only; omega, ?_, ?_⟩, ?_⟩
      · simp only; rw [hset]; exact wf_split.2 w'
      · simp only; rw [hset]; simp
      · simp only
        intro o' ho'
        rcases List.mem_or_eq_of_mem_set ho' with g | g
        · exact ok.keys o' g
        · subst g
          have := hsub.length_le
          have := ok.keys o hom
          simp only
          omega
      · simp only
        intro h1 o' ho'
        have h1' : 1 < M.l.length := by simpa using h1
        rcases List.mem_or_eq_of_mem_set ho' with g | g
        · exact ok.full h1' o' g
        · subst g
          simp only
          intro e
          rw [e] at hc
          simp at hc
          omega
      · simp only [List.length_set]; have := ok.len; omega
      · simp only
        intro o' ho'
        rcases List.mem_or_eq_of_mem_set ho' with g | g
        · exact ok.num o' g
        · subst g; exact ok.num o hom
      · simp only
        rw [hset]
        have := ok.nd
        rw [hl] at this
        simpa using this
      · intro q
        refine Or.inl ?_
        rw [hset, ofL_setK, hone]
    · rw [if_neg hc]
      have hlist : M.l.take (atL M.l k) ++ M.l.drop (atL M.l k + 1) = A ++ B := by
        rw [ha, hl, List.take_left, show (A ++ o :: B).drop (A.length + 1) = B by rw [List.drop_append]; simp]
      simp only
      rw [hlist]
      have hab : A ++ B ≠ [] := by
        intro e
        have := congrArg List.length e
        rw [List.length_append, List.length_nil] at this
        omega
      have hm : ∀ o' ∈ A ++ B, o' ∈ M.l := fun o' h => (List.mem_append.1 h).elim (hA o') (hB o')
      refine ⟨⟨wf_del w, hab, ok.fan, fun o' h => ok.keys o' (hm o' h), fun _ o' h => ok.full (by omega) o' (hm o' h), by have := ok.len; simp; omega, by have := ok.nx; simp only; omega, fun o' h => ok.num o' (hm o' h), ?_⟩, ?_⟩
      · have hnd := ok.nd
        rw [hl] at hnd
        refine hnd.sublist ?_
        rw [List.map_append, List.map_append, List.map_cons]
        exact List.Sublist.append_left (List.sublist_cons_self _ _) _
      · intro q
        rcases del_moved w hab q with g | ⟨g1, g2⟩
        · exact Or.inl (by rw [g, hone])
        · refine Or.inr ⟨by have := ok.num o hom; simp only; omega, by rw [← hone]; exact g1, ?_⟩
          simp only
          rw [ha]
          exact g2
/-- One call: something is put in, or taken out. -/
def LeafM.step (M : LeafM) (kind : Int) (k : ByteArray) : LeafM × Did := if kind = 0 then M.ins k else M.rem k
theorem new_ok {fan : Int} (hf : 2 ≤ fan ∧ fan ≤ 64) : OkM ⟨fan, 2, [⟨1, ByteArray.mk #[], []⟩]⟩ 0 := by
  refine ⟨⟨by simp [lb, sb], ?_⟩, by simp, hf, by simp; omega, by simp, by simp, by simp, by simp, by simp⟩
  intro a ha
  simp [lb, sb] at ha
  subst ha
  exact ⟨List.Pairwise.nil, fun k hk => by simp at hk⟩
/-- The leaf of a key that a range covers is one of those that it tells of. -/
theorem covers {M : LeafM} {n : Nat} (ok : OkM M n) {a b q : ByteArray} (he : emptyR a b = false) (hq : inR a b q = true) : ofL M.l q ∈ (M.rng a b).2 := by
  unfold LeafM.rng
  rw [if_neg (by rw [he]; decide)]
  simp only
  have hlt := atL_lt ok.ne q
  have h1 : atL M.l a ≤ atL M.l q := by
    refine atL_mono ?_
    unfold inR at hq
    simp only [Bool.and_eq_true, Bool.not_eq_true'] at hq
    exact hq.1
  have h2 : atL M.l q ≤ lastL M.l b := by
    unfold lastL
    cases hb : b.toList == [] with
    | true => rw [if_pos rfl]; omega
    | false =>
      rw [if_neg (by decide)]
      refine atL_mono ?_
      unfold inR at hq
      rw [hb] at hq
      simp only [Bool.and_eq_true, Bool.false_or] at hq
      exact sLt_asymm hq.2
  rw [← ofL_at ok.ne q]
  refine List.mem_map.2 ⟨_, ?_, rfl⟩
  unfold partL
  refine List.mem_iff_getElem.2 ⟨atL M.l q - atL M.l a, by simp; omega, ?_⟩
  rw [List.getElem_drop, List.getElem_take]
  congr 1
  omega
end Go.Lift.X
namespace Go.Lift.X
open Go Go.Proofs
set_option maxRecDepth 100000
theorem LeafAt.extF {lo : Nat} {h h' : Hp} {x : Nat} {M : LeafM} {ls : Sl} {C : List OneC} {S : List Nat} (hl : LeafAt lo h x M ls C) (he : Ext S h h') (hS : ∀ b, Fp x ls C b → b ∉ S) : LeafAt lo h' x M ls C := by
  have sl : ∀ {s : Sl} {a : Addr}, s.a = some a → a.block ∈ sBlk s := fun ha => mem_sBlk.2 ⟨_, ha, rfl⟩
  refine ⟨he.get hl.blk (hS _ (Or.inl rfl)), hl.le, hl.ptrs.ext he fun a ha => hS _ (Or.inr (Or.inl (sl ha))), hl.nd, fun c hc => ?_, hl.sep, hl.mods⟩
  have ho := hl.ones c hc
  exact ⟨he.get ho.blk (hS _ (Or.inr (Or.inr ⟨c, hc, Or.inl rfl⟩))), ho.le, ho.keys.ext he fun a ha => hS _ (Or.inr (Or.inr ⟨c, hc, Or.inr (sl ha)⟩))⟩
theorem fp_lt {lo : Nat} {h : Hp} {x : Nat} {M : LeafM} {ls : Sl} {C : List OneC} (hl : LeafAt lo h x M ls C) {b : Nat} (hb : Fp x ls C b) : b < h.size := by
  rcases hb with rfl | hb | ⟨c, hc, hb⟩
  · exact blk_lt hl.blk
  · exact own_lt hl.ptrs _ hb
  · rcases hb with rfl | hb
    · exact blk_lt (hl.ones c hc).blk
    · exact own_lt (hl.ones c hc).keys _ hb
/-- Leaves that stand in memory, apart from other blocks. -/
def Lv (lo : Nat) (G : Nat → Prop) (h : Hp) (x : Nat) (M : LeafM) : Prop := (∀ b, G b → b < h.size) ∧ lo ≤ h.size ∧ ∃ ls C, LeafAt lo h x M ls C ∧ ∀ b, Fp x ls C b → ¬ G b
section
variable {lo n : Nat} {G : Nat → Prop} {h : Hp} {x : Nat} {M : LeafM} {Q : List Value → Hp → Prop}
theorem Lv.grow {G' : Nat → Prop} {h' : Hp} (hv : Lv lo G h x M) (he : Ext [] h h') (hG : ∀ b, G' b → (G b ∨ h.size ≤ b) ∧ b < h'.size) : Lv lo G' h' x M := by
  obtain ⟨h1, h2, ls, C, hl, h3⟩ := hv
  refine ⟨fun b hb => (hG b hb).2, Nat.le_trans h2 he.sz, ls, C, hl.ext0 he, fun b hb hg => ?_⟩
  rcases (hG b hg).1 with g | g
  · exact h3 b hb g
  · have := fp_lt hl hb; omega
theorem Lv.e0 {h' : Hp} (hv : Lv lo G h x M) (he : Ext [] h h') : Lv lo G h' x M := hv.grow he fun b hb => ⟨Or.inl hb, Nat.lt_of_lt_of_le (hv.1 b hb) he.sz⟩
/-- What is apart is written. -/
theorem Lv.eG {h' : Hp} {S : List Nat} (hv : Lv lo G h x M) (he : Ext S h h') (hS : ∀ b ∈ S, b < h.size → G b) : Lv lo G h' x M := by
  obtain ⟨h1, h2, ls, C, hl, h3⟩ := hv
  exact ⟨fun b hb => Nat.lt_of_lt_of_le (h1 b hb) he.sz, Nat.le_trans h2 he.sz, ls, C, hl.extF he fun b hb hm => h3 b hb (hS b hm (fp_lt hl hb)), h3⟩
theorem Lv.ne {lo : Nat} {G : Nat → Prop} {h h' : Hp} {x : Nat} {M : LeafM} {S : List Nat} {ls ls' : Sl} {C C' : List OneC} (h1 : ∀ b, G b → b < h.size) (h2 : lo ≤ h.size) (h3 : ∀ b, Fp x ls C b → ¬ G b)
    (hl : LeafAt lo h' x M ls' C') (he : Ext S h h') (hf : ∀ b, Fp x ls' C' b → Fp x ls C b ∨ h.size ≤ b) : Lv lo G h' x M :=
  ⟨fun b hb => Nat.lt_of_lt_of_le (h1 b hb) he.sz, Nat.le_trans h2 he.sz, ls', C', hl, fun b hb hg => (hf b hb).elim (fun g => h3 b g hg) fun g => by have := h1 b hg; omega⟩
theorem ins_L (hv : Lv lo G h x M) (ok : OkM M n) (hn : n < 2 ^ 15) (k : ByteArray)
    (hQ : ∀ h' S, Lv lo G h' x (M.ins k).1 → Ext S h h' → (∀ b ∈ S, lo ≤ b ∧ ¬ G b) → Q [.int .i64 (M.ins k).2.leaf, .agg #[.int .i64 (M.ins k).2.mf, .int .i64 (M.ins k).2.mt], .int .i64 (M.ins k).2.err] h') : S_leaf_Leaves_Insert (some ⟨x, 0, none⟩) k h Q := by
  obtain ⟨h1, h2, ls, C, hl, h3⟩ := hv
  have := ok.len
  have := ok.nx
  refine Insert10_s hl k h2 ok.ne (by omega) ok.ord ok.fan (by omega) fun h' ls' C' S hl' he hS hSf hCf => hQ h' S (Lv.ne h1 h2 h3 hl' he hCf) he fun b hb => ⟨hS b hb, fun hg => ?_⟩
  rcases hSf b hb with g | g
  · exact h3 b g hg
  · have := h1 b hg; omega
theorem Range_L (hv : Lv lo G h x M) (ok : OkM M n) (hn : n < 2 ^ 15) (a b : ByteArray)
    (hQ : ∀ h' sk sn, Lv lo G h' x M → Ext [] h h' → Own T_string 1 encB h.size h' sk (M.rng a b).1 → Own T_int 1 encIL h.size h' sn (M.rng a b).2 → Q [.slice sk.a sk.n sk.c, .slice sn.a sn.n sn.c] h') : S_leaf_Leaves_Range (some ⟨x, 0, none⟩) a b h Q := by
  obtain ⟨ls, C, hl, _⟩ := hv.2.2
  have := ok.len
  exact Range10_s hl a b ok.ne (by omega) (fun o ho => (ok.ord o ho).2) fun h' sk sn he h1 h2 => hQ h' sk sn (hv.e0 he) he h1 h2
theorem New_L {fan : Int} (hf : 2 ≤ fan ∧ fan ≤ 64) (hQ : ∀ h' x, Lv h.size (fun _ => False) h' x ⟨fan, 2, [⟨1, ByteArray.mk #[], []⟩]⟩ → Ext [] h h' → Q [.pointer (some ⟨x, 0, none⟩), .int .i64 0] h') : S_leaf_New fan h Q :=
  New10_s hf fun h' ls C hl he => hQ h' _ ⟨fun b hb => hb.elim, he.sz, ls, C, hl, fun b _ hb => hb⟩ he
/-! The law's helpers. -/
structure StepL where
  kind : Int
  key : ByteArray
  to : ByteArray
abbrev encT (s : StepL) : List Value := [.int .i64 s.kind, .string s.key, .string s.to]
theorem encT_len (s : StepL) : (encT s).length = 3 := rfl
theorem rdT {h : Hp} {s : Sl} {xs : List StepL} (hs : Reads 3 encT h s xs) {i : Nat} (hi : i < xs.length) : ∃ a, s.a = some a ∧ rd h (Addr.add (Addr.add a (i * 3)) 0) = some (.int .i64 xs[i].kind) ∧ rd h (Addr.add (Addr.add a (i * 3)) 1) = some (.string xs[i].key) ∧ rd h (Addr.add (Addr.add a (i * 3)) 2) = some (.string xs[i].to) := by
  obtain ⟨a, h1, h2⟩ := hs.rd encT_len hi
  exact ⟨a, h1, by rw [addr_add_add]; simpa using h2 0 (by omega), by rw [addr_add_add]; simpa using h2 1 (by omega), by rw [addr_add_add]; simpa using h2 2 (by omega)⟩
end
end Go.Lift.X

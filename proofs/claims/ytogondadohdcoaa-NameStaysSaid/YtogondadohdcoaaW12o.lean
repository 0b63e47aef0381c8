/- Names: All. -/
import Derived.Test.YtogondadohdcoaaW12n
import Derived.Test.YtogondadohdcoaaItS
import Derived.Test.YtogondadohdcoaaItO
set_option linter.unusedSimpArgs false
set_option linter.unusedVariables false
namespace Go.Lift
open Go Go.Proofs Go.RowKit Go.Shelf
set_option maxRecDepth 100000
def allN (L : LM) (N : NM) (x : Int) : List TM := (sortC cmpS ((N.map Prod.fst).filter fun k => (seeN L N x k).isSome)).filterMap fun k => (seeN L N x k).map VM.t
def tabF (ts : List TW) (k : ByteArray) : TW := match ts.find? (fun t => decide (t.name = k)) with
  | some t => { t with name := k }
  | none => ⟨k, ⟨none, 0, 0⟩, [], 0⟩
theorem tabF_name (ts : List TW) (k : ByteArray) : (tabF ts k).name = k := by
  unfold tabF
  split <;> rfl
theorem tabF_mem {ts : List TW} (hn : (ts.map TW.name).Nodup) {t : TW} (ht : t ∈ ts) : tabF ts t.name = t := by
  have hf : ts.find? (fun u => decide (u.name = t.name)) = some t := by
    induction ts with
    | nil => cases ht
    | cons a ts ih =>
      rw [List.map_cons, List.nodup_cons] at hn
      rcases List.mem_cons.1 ht with rfl | ht
      · simp
      · have : a.name ≠ t.name := fun e => hn.1 (e ▸ List.mem_map.2 ⟨t, ht, rfl⟩)
        rw [List.find?_cons_of_neg (by simpa using this)]
        exact ih hn.2 ht
  unfold tabF
  rw [hf]
theorem tabF_map {ts : List TW} (hn : (ts.map TW.name).Nodup) : (ts.map TW.name).map (tabF ts) = ts := by
  rw [List.map_map]
  conv => rhs; rw [← List.map_id ts]
  exact List.map_congr_left fun t ht => tabF_mem hn ht
theorem own_map {α β : Type} {T : TypeId} {sz lo : Nat} {enc : β → List Value} {f : α → β} {h : Hp} {s : Sl} {ks : List α} : Own T sz enc lo h s (ks.map f) ↔ Own T sz (fun k => enc (f k)) lo h s ks := by
  unfold Own
  rw [List.length_map, List.map_eq_nil_iff, List.flatMap_map]
theorem SlOf.extB {α : Type} {T : TypeId} {sz : Nat} {enc : α → List Value} {S : List Nat} {h h' : Hp} {s : Sl} {xs : List α} (hs : SlOf T sz enc h s xs) (he : Ext S h h') (hS : ∀ b ∈ sBlk s, b ∉ S) : SlOf T sz enc h' s xs := by
  refine ⟨hs.1, hs.2.1, fun a ha => ?_⟩
  obtain ⟨b, o, c, fz, h1, h2, h3, h4⟩ := hs.2.2 a ha
  exact ⟨b, o, c, fz, h1, he.get h2 (hS b (mem_sBlk.2 ⟨a, ha, by rw [h1]⟩)), h3, h4⟩
section
variable {G G' : Nat → Prop} {h h' h'' : Hp} {cb t : Nat} {L : LM} {N : NM} {Q : List Value → Hp → Prop}
theorem CmpS_s (a b : ByteArray) (hQ : Q [.int .i64 (cmpS a b)] h) : S_cmp_Compare_string a b h Q := by
  refine O_cmp_Compare_string _ _ ?_
  unfold F_cmp_Compare_string
  refine O_cmp_isNaN_string _ ⟨_, rfl, O_cmp_isNaN_string _ ⟨_, rfl, ?_⟩⟩
  rw [if_neg (by simp), if_neg (by simp)]
  unfold cmpS at hQ
  by_cases h1 : sLt a b = true
  · rw [if_pos (show Op.bytesLess a.toList b.toList = true from h1)]
    rw [if_pos h1] at hQ
    exact hQ
  · rw [if_neg (show ¬ Op.bytesLess a.toList b.toList = true from h1)]
    rw [if_neg h1] at hQ
    have h1' : Op.bytesLess a.toList b.toList = false := by simpa [sLt] using h1
    by_cases h2 : sLt b a = true
    · rw [if_pos (by
        rw [h1', Bool.false_or]
        have : a.toList ≠ b.toList := fun e => by
          have e2 := toList_inj e
          subst e2
          rw [sLt_irrefl] at h2
          cases h2
        simp [this])]
      rw [if_pos h2] at hQ
      exact hQ
    · rw [if_neg (by
        rcases sLt_total a b with e | e | e
        · simp [e]
        · exact absurd e h1
        · exact absurd e h2)]
      rw [if_neg h2] at hQ
      exact hQ
theorem cmp_ltOfS (x y : ByteArray) : Go.Proofs.ltOf cmpS x y = decide (cmpS x y < 0) := rfl
theorem SortTab_s {lo : Nat} {s : Sl} {ts : List TW} (hn : (ts.map TW.name).Nodup) (ho : Own T_api_Table 3 encTW lo h s ts) (hl : ts.length ≤ 2 ^ 28)
    (hQ : ∀ h', Own T_api_Table 3 encTW lo h' s ((sortC cmpS (ts.map TW.name)).map (tabF ts)) → Ext (sBlk s) h h' → Q [] h') : S_slices_SortFunc_sapi_Table_api_Table s 36 #[] h Q := by
  rw [← tabF_map hn] at ho
  have ho' := own_map.1 ho
  refine fn_of_calls Try.func35 (c := bodyOf Try.f35) (by kernel_rfl) (by kernel_rfl) ?_
  have hO : Go.Sort.SWO (Go.Proofs.ltOf cmpS) := ⟨fun x => by rw [cmp_ltOfS, cmp3S.irr]; rfl, fun x y z h1 h2 => by
      rw [cmp_ltOfS, decide_eq_true_eq] at *
      exact cmp3S.trans x y z h1 h2, fun x y z h1 h2 => by
      rw [cmp_ltOfS, decide_eq_false_iff_not] at *
      exact cmp3S.nt x y z h1 h2⟩
  have hT : ∀ x y, Go.Proofs.ltOf cmpS x y = false → Go.Proofs.ltOf cmpS y x = false → x = y := fun x y h1 h2 => by
    rw [cmp_ltOfS, decide_eq_false_iff_not] at *
    have := cmp3S.anti x y
    exact cmpS_zero (by omega)
  refine sortF_c Try.sortFT (k := 3) (enc := fun k => encTW (tabF ts k)) (by omega) Try.isAgg28 Try.sizeOf28 (fun k => rfl) (fun x v hv => ?_) cmpS hO hT 36 #[] (enters_of Try.func36 (by kernel_rfl) rfl) (fun x y g _ => ?_) ho' (by rw [List.length_map]; omega) fun h3 o3 e3 => hQ h3 (own_map.2 o3) e3
  · simp at hv
    rcases hv with rfl | rfl | rfl <;> rfl
  · refine calls_of_fn Try.func36 (c := bodyOf Try.f36) (by kernel_rfl) (by kernel_rfl) ?_
    refine O_name_Names_All_1 (tabF ts x).name (tabF ts x).s (tabF ts x).rel (tabF ts y).name (tabF ts y).s (tabF ts y).rel ?_
    unfold F_name_Names_All_1
    refine newI fun h1 s1 b1 e1 => newI fun h2 s2 b2 e2 => ?_
    refine ⟨(tabF ts x).name, by rw [addr_mk, rd_blk (e2.get b1 (by simp))]; rfl, (tabF ts y).name, by rw [addr_mk, rd_blk b2]; rfl, ?_⟩
    refine CmpS_s _ _ ⟨_, rfl, ?_, e1.trans0 e2⟩
    rw [tabF_name, tabF_name]
theorem seeN_name {M : Nat} (hok : NOk M N) {x : Int} {k : ByteArray} {v : VM} (h : seeN L N x k = some v) : v.t.name = k := hok.nm k v (List.mem_of_find?_eq_some h)
theorem All_s (hS : NvS G h cb t L N) {M : Nat} (hok : NOk M N) (hM : M ≤ 2 ^ 20) (x : Int)
    (hQ : ∀ h' s (ts : List TW), Ext [] h h' → Own T_api_Table 3 encTW h.size h' s ts → (∀ u ∈ ts, SlOf T_api_Column 7 encC h' u.s u.cl ∧ u.cl.length ≤ 2 ^ 30 ∧ ∀ b ∈ sBlk u.s, h.size ≤ b) → ts.map TW.m = allN L N x → Q [.slice s.a s.n s.c] h') : S_name_Names_All (some ⟨t, 0, none⟩) (some ⟨cb, 0, none⟩) x h Q := by
  refine O_name_Names_All _ _ _ ?_
  unfold F_name_Names_All
  rw [if_neg (by simp)]
  obtain ⟨l1, l2, ⟨mb, C, a1, hN, a3⟩, l4⟩ := hS
  simp only [nilW_some]
  refine ⟨some mb, a1.ptr, ?_⟩
  obtain ⟨io, hio, hR⟩ := rangeO_start (r := some mb) (h := h) (T := amap CN.s C) (ek := ekS) (ev := evS) a1.outer
  refine ⟨io, hio, newI fun h3 s3 b3 e3 => ?_⟩
  have hmb := a1.outer.lt
  have hkeys : (amap CN.s C).map Prod.fst = N.map Prod.fst := by rw [← hN, keys_amap, keys_amap]
  have hlC : (amap CN.s C).length ≤ M := by
    have := hok.len
    rw [← hN] at this
    simpa [amap] using this
  intro X hX
  refine rangeV (ek := ekS) (ev := evS) (T := amap CN.s C) (r := some mb) (A := Sl) (va := fun l => [.slice l.a l.n l.c]) hX
    (fun done l g => Ext [] h g ∧ h3.size ≤ g.size ∧ ∃ ts : List TW, Own T_api_Table 3 encTW h.size g l ts ∧ (∀ u ∈ ts, SlOf T_api_Column 7 encC g u.s u.cl ∧ u.cl.length ≤ 2 ^ 30 ∧ ∀ b ∈ sBlk u.s, h3.size ≤ b) ∧ ts.map TW.m = (done.map Prod.fst).filterMap (fun k => (seeN L N x k).map VM.t) ∧ h.size ∉ sBlk l) ?_ ?_ h3 [] ⟨none, 0, 0⟩ ⟨e3, Nat.le_refl _, [], Own.nil _ _, by simp, rfl, by simp [sBlk]⟩ (hR b3 e3)
  · rintro done l g ⟨eg, zg, ts, ho, hcl, hts, hnb⟩ hp
    have hnames : ts.map TW.name = (done.map Prod.fst).filter fun k => (seeN L N x k).isSome := by
      have h1 : ts.map TW.name = (ts.map TW.m).map TM.name := by rw [List.map_map]; rfl
      rw [h1, hts]
      generalize done.map Prod.fst = ks
      induction ks with
      | nil => rfl
      | cons k ks ih =>
        cases hs : seeN L N x k with
        | none => simp [hs, ih]
        | some v =>
          simp only [List.filterMap_cons, hs, Option.map_some, List.map_cons, List.filter_cons, Option.isSome_some, if_true, ih]
          congr 1
          exact seeN_name hok hs
    have hdn : (done.map Prod.fst).Nodup := (hp.map Prod.fst).nodup_iff.2 (by rw [hkeys]; exact hok.nd)
    have hnd : (ts.map TW.name).Nodup := by rw [hnames]; exact hdn.filter _
    have hpl := hp.length_eq
    have htl : ts.length ≤ M := by
      have h1 := congrArg List.length hnames
      rw [List.length_map] at h1
      have h2 := List.length_filter_le (fun k => (seeN L N x k).isSome) (done.map Prod.fst)
      rw [List.length_map] at h2
      omega
    refine SortTab_s hnd ho (by omega) fun g2 o2 e2 => ⟨rfl, ?_⟩
    have hO : Other T_api_Column g (sBlk l) := ho.other (by decide)
    refine hQ g2 l _ (eg.trans e2 fun b hb hlt => ?_) o2 (fun u hu => ?_) ?_
    · have := own_ltG ho b hb
      omega
    · obtain ⟨k, hk, rfl⟩ := List.mem_map.1 hu
      rw [sortC_mem] at hk
      obtain ⟨w, hw, rfl⟩ := List.mem_map.1 hk
      rw [tabF_mem hnd hw]
      have := hcl w hw
      exact ⟨this.1.ext e2 hO, this.2.1, fun b hb => by have := this.2.2 b hb; omega⟩
    · have hsort : sortC cmpS (ts.map TW.name) = sortC cmpS ((N.map Prod.fst).filter fun k => (seeN L N x k).isSome) := by
        refine ordC_ext cmp3S (sortC_ord cmp3S (fun x y h => cmpS_zero h) hnd) (sortC_ord cmp3S (fun x y h => cmpS_zero h) (hok.nd.filter _)) fun k => ?_
        rw [sortC_mem, sortC_mem, hnames, ← hkeys]
        exact ((hp.map Prod.fst).filter _).mem_iff
      unfold allN
      rw [← hsort, List.map_map]
      have hsub : ∀ k ∈ sortC cmpS (ts.map TW.name), (seeN L N x k).map VM.t = some ((TW.m ∘ tabF ts) k) := by
        intro k hk
        rw [sortC_mem] at hk
        obtain ⟨u, hu, rfl⟩ := List.mem_map.1 hk
        simp only [Function.comp]
        rw [tabF_mem hnd hu]
        have hm : u.m ∈ ts.map TW.m := List.mem_map.2 ⟨u, hu, rfl⟩
        rw [hts] at hm
        obtain ⟨k', hk', he⟩ := List.mem_filterMap.1 hm
        have hk2 : k' = u.name := by
          cases hs : seeN L N x k' with
          | none => rw [hs] at he; cases he
          | some v =>
            have := seeN_name hok hs
            rw [hs] at he
            simp only [Option.map_some, Option.some.injEq] at he
            rw [← this, he]
            rfl
        rw [← hk2]
        exact he
      generalize sortC cmpS (ts.map TW.name) = ks at hsub
      induction ks with
      | nil => rfl
      | cons k ks ih =>
        rw [List.map_cons, List.filterMap_cons, hsub k (by simp)]
        simp only [List.cons.injEq, true_and]
        exact ih fun k' hk' => hsub k' (by simp [hk'])
  · rintro done p l g e g' ⟨eg, zg, ts, ho, hcl, hts, hnb⟩ ⟨rest, hp⟩ hk hv f1 sz1 hr1 next
    obtain ⟨k, s⟩ := p
    have hplen := hp.length_eq
    simp only [List.length_append, List.length_cons, List.length_nil] at hplen
    have htl : ts.length ≤ M := by
      have h1 := congrArg List.length hts
      rw [List.length_map] at h1
      have h2 := List.length_filterMap_le (fun k => (seeN L N x k).map VM.t) (done.map Prod.fst)
      rw [List.length_map] at h2
      omega
    have eg' : Ext [] h g' := eg.trans f1 fun b hb hlt => by simp at hb; omega
    have ho1 := ho.ext f1 fun a ha hm => hnb (by simp only [List.mem_singleton] at hm; exact mem_sBlk.2 ⟨a, ha, hm⟩)
    have hcl1 : ∀ u ∈ ts, SlOf T_api_Column 7 encC g' u.s u.cl ∧ u.cl.length ≤ 2 ^ 30 ∧ ∀ b ∈ sBlk u.s, h3.size ≤ b := by
      intro u hu
      have := hcl u hu
      exact ⟨this.1.extB f1 fun b hb hm => by have := this.2.2 b hb; simp at hm; omega, this.2⟩
    refine ⟨k, hk, _, hv, ?_⟩
    refine See_s (l2.ext0 eg') (a1.ext0 eg') x k (by have := lC_le (C := C) (M := M) (by rw [hN]; exact hok) k; omega) (fun hn g2 e2 => ⟨sE, ⟨none, 0, 0⟩, 0, false, rfl, ?_⟩) (fun v hsv g2 s' o2 e2 => ⟨v.t.name, s', v.t.rel, true, rfl, ?_⟩)
    · refine newI fun g3 s3 c3 e3 => ?_
      refine st_blk c3 (by simp) fun g4 s4 c4 e4 => ?_
      have e24 : Ext [] g2 g4 := e3.trans e4 fun b hb hlt => by simp at hb; omega
      rw [if_neg (by decide)]
      have e14 := e2.trans0 e24
      rw [hN] at hn
      refine next l g4 ⟨eg'.trans0 e14, by have := e14.sz; omega, ts, ho1.ext0 e14, fun u hu => ⟨(hcl1 u hu).1.ext0 e14, (hcl1 u hu).2⟩, ?_, hnb⟩ (hr1.ext e14 (by simp) (by simp))
      rw [List.map_append, List.filterMap_append, hts]
      simp [hn]
    · rw [hN] at hsv
      refine newI fun g3 s3 c3 e3 => ?_
      refine st_blk c3 (by simp) fun g4 s4 c4 e4 => ?_
      have e24 : Ext [] g2 g4 := e3.trans e4 fun b hb hlt => by simp at hb; omega
      rw [if_pos rfl]
      refine ⟨v.t.name, by simp [rd_blk c4], s', by simp [rd_blk c4], v.t.rel, by simp [rd_blk c4], ?_⟩
      have e14 := e2.trans0 e24
      refine newI fun g5 s5 c5 e5 => ?_
      have e15 := e14.trans0 e5
      have ho5 := ho1.ext0 e15
      have hz15 := e15.sz
      have hz' := eg'.sz
      have c5' : Blk g5 g4.size (encTW ⟨v.t.name, s', v.t.cl, v.t.rel⟩).toArray T_api_Table := c5
      refine oneG (k := (⟨v.t.name, s', v.t.cl, v.t.rel⟩ : TW)) encTW_len encTW_one zc_tab (by decide) ho5 c5' (by omega) (by omega) fun s6 g6 o6 e6 hb6 => ?_
      have hb5 := own_ltG ho5
      have e16 : Ext (sBlk l) g' g6 := (e15.mono (by simp)).trans e6 fun b hb _ => hb
      have hO : Other T_api_Column g5 (sBlk l) := ho5.other (by decide)
      refine next s6 g6 ⟨eg'.trans e16 fun b hb hlt => by have := (hb5 b hb).1; omega, by have := e16.sz; omega, ts ++ [⟨v.t.name, s', v.t.cl, v.t.rel⟩], o6, fun u hu => ?_, ?_, fun hm => ?_⟩ (hr1.ext e16 (by simpa using hnb) (fun m hm hb => by cases hm; have := (hb5 _ hb).1; omega))
      · rcases List.mem_append.1 hu with hu | hu
        · exact ⟨((hcl1 u hu).1.ext0 e15).ext e6 hO, (hcl1 u hu).2⟩
        · simp only [List.mem_singleton] at hu
          subst hu
          have hcll : v.t.cl.length ≤ 2 ^ 30 := by
            have hv1 := List.mem_of_find?_eq_some hsv
            rw [← hN, ← lC_m] at hv1
            obtain ⟨w, hw, rfl⟩ := List.mem_map.1 hv1
            exact (a1.colsL k w hw).2
          exact ⟨((o2.sl.ext0 e24).ext0 e5).ext e6 hO, hcll, fun b hb => by have := o2.blk b hb; omega⟩
      · rw [List.map_append, List.map_append, List.filterMap_append, hts]
        simp [hsv]
        rfl
      · rcases hb6 _ hm with q | q
        · exact hnb q
        · omega
end
end Go.Lift

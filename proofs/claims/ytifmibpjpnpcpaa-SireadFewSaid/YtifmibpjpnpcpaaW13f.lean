/- Things that were read: the owners that have such things. -/
import Derived.Test.YtifmibpjpnpcpaaW13e
set_option linter.unusedSimpArgs false
set_option linter.unusedVariables false
namespace Go.Lift
open Go Go.Proofs Go.RowKit Go.Shelf
set_option maxRecDepth 100000
theorem bytesI : (8 : Nat) ≤ 1024 := by decide
theorem int_sort_ext {l l' : List Int} (hp : l.Perm l') : sortI l = sortI l' := by
  unfold sortI
  refine List.Perm.eq_of_pairwise (le := fun a b => (decide (a ≤ b)) = true) (fun a b _ _ h1 h2 => ?_) (List.pairwise_mergeSort (fun a b c h1 h2 => by simp at *; omega) (fun a b => by simp; omega) l) (List.pairwise_mergeSort (fun a b c h1 h2 => by simp at *; omega) (fun a b => by simp; omega) l') (((List.mergeSort_perm l _).trans hp).trans (List.mergeSort_perm l' _).symm)
  simp at h1 h2
  omega
theorem afind_of_mem {K V : Type} [DecidableEq K] {T : List (K × V)} (hn : (T.map Prod.fst).Nodup) {n : K} {q : V} (hm : (n, q) ∈ T) : afind T n = some q := by
  induction T with
  | nil => cases hm
  | cons p T ih =>
    obtain ⟨a, u⟩ := p
    rw [List.map_cons, List.nodup_cons] at hn
    simp only [afind]
    rcases List.mem_cons.1 hm with g | g
    · cases g; simp
    · have : n ≠ a := fun e => hn.1 (e ▸ List.mem_map.2 ⟨_, g, rfl⟩)
      rw [if_neg this]
      exact ih hn.2 g
section
variable {lo : Nat} {h h' : Hp} {t mb : Nat} {C : CC} {each all fine csn : Int} {Q : List Value → Hp → Prop}
/-- slices.Sort over a slice of one's own. -/
theorem SortI_s {T : TypeId} {l : Nat} {s : Sl} {xs : List Int} (ho : Own T 1 encIL l h s xs) (hl : xs.length ≤ 2 ^ 40)
    (hQ : ∀ h', Own T 1 encIL l h' s (sortI xs) → Ext (sBlk s) h h' → Q [] h') : S_slices_Sort_sint_int s h Q := by
  refine fn_of_calls Try.func37 (c := bodyOf Try.f37) (by kernel_rfl) (by kernel_rfl) ?_
  refine sort1_c (P := PP) (enc := encI) (fun n : Int => n) (fun l => l.mergeSort fun x y => decide (x ≤ y)) (fun l => List.length_mergeSort _)
    (fun blk off cap zs w h1 h2 h3 => AnyM.slices_Sort_int Try.sortI blk off cap zs w h1 h2 h3) (fun p cap w => AnyM.slices_Sort_int_none Try.sortI p cap w) (ys := sortI xs) ?_ ho hl fun h' o e => hQ h' o e
  rw [List.map_id', List.map_id']
  rfl
theorem owners_s (hT : TabS lo h t mb C each all fine csn) {f : Nat} {cs : Array Value} (p : ThingM → Bool) (hlen : C.length ≤ 2 ^ 28)
    (hf : ∀ (x : ThingM) (g : Hp) (K : List Value → Hp → Prop), Ext [] h g → (∀ g', Ext [] g g' → K [.bool (p x)] g') → Fn PP f ((#[] ++ #[ekT x]) ++ cs) g K)
    (hQ : ∀ h' s, Ext [] h h' → Own T_int 1 encIL h.size h' s (sortI (((mS C).filter fun e => e.2.any p).map Prod.fst)) → Q [.slice s.a s.n s.c] h') : S_siread_Table_owners (some ⟨t, 0, none⟩) f cs h Q := by
  refine O_siread_Table_owners _ _ _ ?_
  unfold F_siread_Table_owners
  simp only [nilW_some]
  refine ⟨some mb, by rw [addr_mk, rd_blk hT.blk]; rfl, ?_⟩
  obtain ⟨io, hio, hR⟩ := rangeO_start (r := some mb) (h := h) (T := amap CM.b C) (ek := encI) (ev := evM) hT.outer
  refine ⟨io, hio, newI fun h2 s2 b2 e2 => ?_⟩
  intro X hX
  -- the owner's things, by its block
  have hlm := hT.outer.lt
  refine rangeV (ek := encI) (ev := evM) (T := amap CM.b C) (r := some mb) (A := Sl) (va := fun l => [.slice l.a l.n l.c]) hX
    (fun done l g => Ext [] h g ∧ h2.size ≤ g.size ∧ Own T_int 1 encIL h.size g l ((done.filter fun q => (thgs (mS C) q.1).any p).map Prod.fst) ∧ h.size ∉ sBlk l) ?_ ?_ h2 [] ⟨none, 0, 0⟩ ?_ (hR b2 e2)
  · rintro done l g ⟨eg, zg, ho, hnb⟩ hp
    have hpl := hp.length_eq
    rw [amap, List.length_map] at hpl
    have hfl : ((done.filter fun q => (thgs (mS C) q.1).any p).map Prod.fst).length ≤ done.length := by rw [List.length_map]; exact List.length_filter_le _ _
    refine SortI_s ho (by omega) fun g2 o2 e3 => ⟨rfl, hQ g2 l (eg.trans e3 fun b hb hlt => ?_) ?_⟩
    · obtain ⟨a, ha, e⟩ := mem_sBlk.1 hb
      obtain ⟨b', c, h1, h2, _⟩ := ho.2.2 a ha
      rw [h1] at e
      simp only at e
      omega
    · have : sortI ((done.filter fun q => (thgs (mS C) q.1).any p).map Prod.fst) = sortI (((mS C).filter fun e => e.2.any p).map Prod.fst) := by
        refine int_sort_ext ?_
        have h1 : (((amap CM.b C).filter fun q => (thgs (mS C) q.1).any p).map Prod.fst) = (((mS C).filter fun e => e.2.any p).map Prod.fst) := by
          obtain ⟨G, hG'⟩ : ∃ G : Int → Bool, ∀ o, G o = (thgs (mS C) o).any p := ⟨_, fun _ => rfl⟩
          rw [show (fun q : Int × Nat => (thgs (mS C) q.1).any p) = fun q => G q.1 from funext fun q => (hG' _).symm]
          simp only [amap, List.filter_map, List.map_map]
          have : (List.filter ((fun q : Int × Nat => G q.1) ∘ fun q => (q.1, q.2.b)) C) = List.filter ((fun e : Int × List ThingM => e.2.any p) ∘ fun q => (q.1, q.2.l)) C := by
            refine List.filter_congr fun q hq => ?_
            have hf := afind_of_mem hT.nd hq
            simp only [Function.comp_def]
            rw [hG', thgs_some (l := q.2.l) (by rw [afind_amap, hf]; rfl)]
          have e2 := congrArg (List.map Prod.fst) this
          simpa [Function.comp_def] using e2
        rw [← h1]
        exact (hp.filter _).map _
      rw [← this]
      exact o2
  · rintro done q l g e g' ⟨eg, zg, ho, hnb⟩ ⟨rest, hp⟩ hk hv f1 u1 hr hnext
    have eg' : Ext [] h g' := eg.trans f1 (by intro b hb hlt; simp at hb; omega)
    have hpm : q ∈ amap CM.b C := hp.mem_iff.1 (by simp)
    have hpl := hp.length_eq
    have hal : (amap CM.b C).length = C.length := by simp [amap]
    simp only [List.length_append, List.length_cons, List.length_nil] at hpl
    obtain ⟨⟨o, c⟩, hc, rfl⟩ := List.mem_map.1 hpm
    have hf' : afind C o = some c := afind_of_mem hT.nd hc
    have hth : thgs (mS C) o = c.l := thgs_some (by rw [afind_amap, hf']; rfl)
    have hino := hT.inner o c hf'
    have hlc := hino.lt
    have ho' : Own T_int 1 encIL h.size g' l ((done.filter fun q => (thgs (mS C) q.1).any p).map Prod.fst) := by
      refine ho.ext f1 fun a ha hb => hnb ?_
      simp at hb
      exact mem_sBlk.2 ⟨a, ha, hb⟩
    refine ⟨o, hk, _, hv, ?_⟩
    obtain ⟨jo, hjo, hR2⟩ := rangeO_start (r := some c.b) (ek := ekT) (ev := evU) (h := g') (T := tU c.l) (hino.ext eg' (by simp))
    refine ⟨jo, hjo, newI fun h5 s5 b5 e5 => ?_⟩
    intro Y hY
    refine rangeV (ek := ekT) (ev := evU) (T := tU c.l) (r := some c.b) (A := Unit) (va := fun _ => [.slice l.a l.n l.c]) (fun _ => hY l)
      (fun dn _ k => Ext [] g' k ∧ h5.size ≤ k.size ∧ ∀ z ∈ dn, p z.1 = false) ?_ ?_ h5 [] () ?_ (hR2 b5 e5)
    · rintro dn - k ⟨ek, zk, hno⟩ hpn
      refine hnext l k ⟨eg'.trans0 ek, by omega, ?_, hnb⟩ (hr.ext ek (by simp) (by simp))
      have hany : (thgs (mS C) o).any p = false := by
        rw [hth, List.any_eq_false]
        intro x hx
        have hxm : (x, ()) ∈ dn := hpn.mem_iff.2 (List.mem_map.2 ⟨x, hx, rfl⟩)
        simp [hno _ hxm]
      rw [List.filter_append, List.map_append]
      simp only [List.filter_cons, hany, Bool.false_eq_true, if_false, List.filter_nil, List.map_nil, List.append_nil]
      exact ho'.ext0 ek
    · rintro dn z - k e2 k' ⟨ek, zk, hno⟩ ⟨rest2, hp2⟩ hk2 hv2 f2 u2 hr2 hnext2
      have ek' : Ext [] g' k' := ek.trans f2 (by intro b hb hlt; simp at hb; omega)
      refine ⟨_, _, _, _, _, hk2, _, rfl, ?_⟩
      refine cellT (x := z.1) rfl fun k2 e3 z3 b3 => ?_
      refine rd5I b3 ?_
      refine hf z.1 k2 _ ((eg'.trans0 ek').trans0 e3) fun k3 e4 => ⟨_, rfl, ?_⟩
      have e34 := e3.trans0 e4
      have zz := e34.sz
      cases hz : p z.1 with
      | false =>
        rw [if_neg (by decide)]
        refine hnext2 () k3 ⟨ek'.trans0 e34, by omega, fun y hy => ?_⟩ (hr2.ext e34 (by simp) (by simp))
        rcases List.mem_append.1 hy with hy | hy
        · exact hno y hy
        · simp at hy
          rw [hy]
          exact hz
      | true =>
        rw [if_pos rfl]
        have ek3 := ek'.trans0 e34
        refine newI fun k4 s4 b4 e5' => ?_
        have ho4 := (ho'.ext0 ek3).ext0 e5'
        have hfl : ((done.filter fun q => (thgs (mS C) q.1).any p).map Prod.fst).length ≤ done.length := by rw [List.length_map]; exact List.length_filter_le _ _
        refine oneG encIL_len encIL_one zc_int bytesI (k := o) ho4 b4 (by omega) (by omega) fun l' k5 ho5 e6 hb6 => ?_
        have hany : (thgs (mS C) o).any p = true := by
          rw [hth, List.any_eq_true]
          have hzm : z ∈ tU c.l := hp2.mem_iff.1 (by simp)
          obtain ⟨x, hx, rfl⟩ := List.mem_map.1 hzm
          exact ⟨x, hx, hz⟩
        have e7 := ek3.trans0 e5'
        have hsl := own_ltG ho4
        refine hnext l' k5 ⟨?_, ?_, ?_, ?_⟩ ?_
        · exact (eg'.trans0 e7).trans e6 fun b hb hlt => by have := hsl b hb; omega
        · have := e6.sz; have := e7.sz; omega
        · rw [List.filter_append, List.map_append]
          simp only [List.filter_cons, hany, if_true, List.filter_nil, List.map_cons, List.map_nil]
          exact ho5
        · intro hb
          rcases hb6 _ hb with hb | hb
          · exact hnb hb
          · have := e7.sz; omega
        · refine (hr.ext e7 (by simp) (by simp)).ext e6 hnb fun m hm hb => ?_
          cases hm
          have := hsl _ hb
          omega
    · exact ⟨e5, Nat.le_refl _, by simp⟩
  · exact ⟨e2, Nat.le_refl _, Own.nil _ _, by simp [sBlk]⟩
end
end Go.Lift

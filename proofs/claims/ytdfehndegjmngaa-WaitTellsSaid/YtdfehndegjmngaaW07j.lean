/- The reference: Circles, Victim, Free. -/
import Derived.Test.YtdfehndegjmngaaW07i
set_option linter.unusedSimpArgs false
set_option linter.unusedVariables false
namespace Go.Lift
open Go Go.Proofs
set_option maxRecDepth 100000
section
variable {h : Hp} {Q : List Value → Hp → Prop}
/-- Whose turn comes is the least of its knot, if it reaches itself and no knot has it yet. -/
theorem least_fresh {E : List Edge} {D : List Int} {i : Nat} (hi : i < (nodesS E).length) (hD : ∀ t, t ∈ D ↔ ∃ n ∈ (nodesS E).take i, isLeast E n = true ∧ Mut E n t) : isLeast E (nodesS E)[i] = true ↔ Rch E (nodesS E)[i] (nodesS E)[i] ∧ (nodesS E)[i] ∉ D := by
  have hasc := nodesS_asc E
  have hin := List.pairwise_iff_getElem.1 hasc
  constructor
  · intro h
    refine ⟨(isLeast_iff.1 h).1, fun hm => ?_⟩
    obtain ⟨n, hn, h5, h6⟩ := (hD _).1 hm
    have := (isLeast_iff.1 h).2 n h6.symm
    obtain ⟨j, hj, rfl⟩ := List.getElem_of_mem hn
    rw [List.length_take] at hj
    rw [List.getElem_take] at this
    have := hin j i (by omega) hi (by omega)
    omega
  · rintro ⟨hrr, hno⟩
    refine isLeast_iff.2 ⟨hrr, fun m hm => ?_⟩
    rcases Int.lt_or_le m (nodesS E)[i] with g5 | g5
    · exfalso
      obtain ⟨m0, h5, h6⟩ := least_of hrr
      have h7 := (isLeast_iff.1 h5).2 m (h6.symm.trans hm)
      have h8 : m0 ∈ nodesS E := nodesS_mem.2 (Or.inl h6.2.src)
      obtain ⟨j, hj, rfl⟩ := List.getElem_of_mem h8
      have hji : j < i := by
        rcases Nat.lt_or_ge j i with g6 | g6
        · exact g6
        · exfalso
          rcases (by omega : j = i ∨ i < j) with g7 | g7
          · subst g7; omega
          · have := hin i j hi hj g7
            omega
      exact hno ((hD _).2 ⟨_, List.mem_iff_getElem.2 ⟨j, by rw [List.length_take]; omega, by rw [List.getElem_take]⟩, h5, h6.symm⟩)
    · exact g5
theorem CirclesR_s {s : Sl} {E : List Edge} (hs : Reads 2 encE2 h s E) (hl : E.length ≤ 2 ^ 12)
    (hQ : ∀ h' o ks, KnotsAt h.size h' o ks (circ E) → Ext [] h h' → Q [.slice o.a o.n o.c] h') : S_liveryref07_Circles s h Q := by
  refine O_liveryref07_Circles _ ?_
  unfold F_liveryref07_Circles
  refine nodes_s hs hl fun h1 l3 hl3 e1 => ⟨l3, rfl, ?_⟩
  have hnl := nodesS_len E
  have hl3n := hl3.1
  have hl3b := own_ltG hl3
  have z1 := e1.sz
  intro X hX
  have key : ∀ d i g out ks ld D, d + i = (nodesS E).length → Ext [] h1 g → KnotsAt h1.size g out ks ((((nodesS E).take i).filter (isLeast E)).map (knotOf E)) → Own T_int 1 encIL h1.size g ld D → D.length ≤ 2 * E.length →
      D.Nodup → (∀ t, t ∈ D ↔ ∃ n ∈ (nodesS E).take i, isLeast E n = true ∧ Mut E n t) → (∀ k ∈ ks, ∀ b ∈ sBlk k, b ∉ sBlk ld) → X [.slice out.a out.n out.c, .slice ld.a ld.n ld.c, .int .i64 (i : Int)] g := by
    intro d
    induction d with
    | zero =>
      intro i g out ks ld D hi e hk hd hDl hDn hD hsep
      refine hX out ld _ _ ?_
      rw [if_neg (by simp; omega)]
      rw [List.take_of_length_le (by omega)] at hk
      exact hQ g out ks (hk.mono (by omega)) (e1.trans0 e)
    | succ d ih =>
      intro i g out ks ld D hi e hk hd hDl hDn hD hsep
      refine hX out ld _ _ ?_
      rw [if_pos (by simp; omega)]
      have hiN : i < (nodesS E).length := by omega
      have htk : (nodesS E).take (i + 1) = (nodesS E).take i ++ [(nodesS E)[i]] := by rw [List.take_add_one, List.getElem?_eq_getElem hiN]; rfl
      have hlf := least_fresh hiN hD
      intro J9 hJ9
      obtain ⟨a, w1, w2⟩ := rdI (hl3.ext0 e).sl.reads (i := i) hiN
      rw [w1]
      simp only [nilW_some, Int.toNat_natCast]
      refine ⟨by omega, by omega, _, w2, ?_⟩
      refine ReachR_s ((hs.ext0 e1).ext0 e) hl _ fun g1 lr L hr hLl hL f1 => ⟨lr, rfl, ?_⟩
      have e11 := e.trans0 f1
      have hd1 := hd.ext0 f1
      have hk1 := hk.ext0 f1
      have zg := e.sz
      have zg1 := f1.sz
      intro J18 hJ18
      have skip : isLeast E (nodesS E)[i] ≠ true → J18 [.bool true] g1 := by
        intro hnl
        refine hJ18 _ _ ?_
        rw [if_pos rfl]
        refine hJ9 out ld _ ?_
        rw [wrap64 (by omega) (by omega)]
        have := ih (i + 1) g1 out ks ld D (by omega) e11 (by
          rw [htk, List.filter_append, List.filter_cons_of_neg hnl]
          simpa using hk1) hd1 hDl hDn (fun t => by
          rw [hD t, htk]
          constructor
          · rintro ⟨n, hn, h5⟩; exact ⟨n, List.mem_append_left _ hn, h5⟩
          · rintro ⟨n, hn, h5⟩
            rcases List.mem_append.1 hn with g5 | g5
            · exact ⟨n, g5, h5⟩
            · simp at g5; subst g5; exact absurd h5.1 hnl) hsep
        simpa using this
      refine hasR_s hd1.sl.reads (by omega) ⟨_, rfl, ?_⟩
      by_cases hin : (nodesS E)[i] ∈ D
      · rw [List.contains_iff_mem.2 hin, if_pos rfl]
        exact skip fun g5 => (hlf.1 g5).2 hin
      · have hcf : D.contains (nodesS E)[i] = false := by
          cases hc : D.contains (nodesS E)[i] with
          | false => rfl
          | true => exact absurd (List.contains_iff_mem.1 hc) hin
        rw [hcf, if_neg (by decide)]
        refine hasR_s hr.sl.reads (by omega) ⟨_, rfl, ?_⟩
        by_cases hrr : Rch E (nodesS E)[i] (nodesS E)[i]
        · rw [List.contains_iff_mem.2 ((hL _).2 hrr)]
          have hlst := hlf.2 ⟨hrr, hin⟩
          have hDno : ∀ t ∈ D, ¬ Mut E (nodesS E)[i] t := by
            intro t ht hm
            obtain ⟨n, hn, h5, h6⟩ := (hD t).1 ht
            exact hin ((hD _).2 ⟨n, hn, h5, h6.trans hm.symm⟩)
          refine hJ18 _ _ ?_
          rw [if_neg (by decide)]
          intro Y hY
          have hrb := own_ltG hr
          have hdb := own_ltG hd1
          have inner : ∀ d j gY ld2 lk F, d + j = (nodesS E).length → Ext [] h1 gY → g1.size ≤ gY.size → Own T_int 1 encIL h1.size gY ld2 (D ++ F) → Own T_int 1 encIL g1.size gY lk F → Own T_int 1 encIL g.size gY lr L → KnotsAt h1.size gY out ks ((((nodesS E).take i).filter (isLeast E)).map (knotOf E)) →
              (∀ b ∈ sBlk lk, b ∉ sBlk ld2) → (∀ b ∈ sBlk ld2, b ∈ sBlk ld ∨ g1.size ≤ b) → F = ((nodesS E).take j).filter (fun t => @decide (Mut E (nodesS E)[i] t) (Classical.propDecidable _)) → Y [.slice ld2.a ld2.n ld2.c, .slice lk.a lk.n lk.c, .int .i64 (j : Int)] gY := by
            intro d
            induction d with
            | zero =>
              intro j gY ld2 lk F hj eY hzY hd2 hk2 hr2 hkn2 hsp1 hsp2 hF
              refine hY ld2 lk _ _ ?_
              rw [if_neg (by simp; omega)]
              rw [List.take_of_length_le (by omega)] at hF
              have hFk : F = knotOf E (nodesS E)[i] := by
                rw [hF]
                unfold knotOf
                rfl
              have hksl := hkn2.len
              have hkl : ks.length ≤ 2 ^ 20 := by
                rw [hksl, List.length_map]
                have := List.length_filter_le (isLeast E) ((nodesS E).take i)
                have : ((nodesS E).take i).length ≤ (nodesS E).length := by rw [List.length_take]; omega
                omega
              refine app1 (x := lk) hkn2.own rfl zcSl encSl_len encSl_one (by omega) (by decide) (by omega) fun out' g' hout' f' hb' => ?_
              have houtb := own_ltG hkn2.own
              refine hJ9 out' ld2 _ ?_
              rw [wrap64 (by omega) (by omega)]
              have hDF : (D ++ F).Nodup := by
                rw [List.nodup_append]
                refine ⟨hDn, by rw [hFk]; exact asc_nodup (knot_asc E _), fun a ha b hb hab => ?_⟩
                subst hab
                rw [hFk] at hb
                exact hDno a ha (knot_mem.1 hb)
              have := ih (i + 1) g' out' (ks ++ [lk]) ld2 (D ++ F) (by omega) (eY.trans f' fun b hb hlt => by have := houtb b hb; omega) (by
                rw [htk, List.filter_append, List.filter_cons_of_pos hlst, List.filter_nil, List.map_append]
                refine ⟨hout', by simp [hksl], fun x h1' h2' => ?_⟩
                by_cases hx : x < ks.length
                · rw [List.getElem_append_left hx, List.getElem_append_left (by omega)]
                  exact (hkn2.each x hx (by omega)).extT f' (hkn2.own.other (by decide))
                · have hx2 : x = ks.length := by simp at h1'; omega
                  subst hx2
                  rw [List.getElem_append_right (by omega), List.getElem_append_right (by omega)]
                  simp only [hksl, Nat.sub_self, List.getElem_cons_zero, List.map_cons, List.map_nil]
                  rw [← hFk]
                  exact (hk2.extT f' (hkn2.own.other (by decide))).mono (by omega)) (hd2.extT f' (hkn2.own.other (by decide))) (by
                have := nodup_sub_len (M := E.map Prod.fst ++ E.map Prod.snd) hDF fun x hx => by
                  have hmut : ∃ n, Mut E n x := by
                    rcases List.mem_append.1 hx with g5 | g5
                    · obtain ⟨n, _, _, h6⟩ := (hD x).1 g5; exact ⟨n, h6⟩
                    · rw [hFk] at g5; exact ⟨_, knot_mem.1 g5⟩
                  obtain ⟨n, hm⟩ := hmut
                  obtain ⟨y, hy⟩ := hm.2.src
                  exact List.mem_append_left _ (List.mem_map.2 ⟨_, hy, rfl⟩)
                simp only [List.length_append, List.length_map] at this ⊢
                omega) hDF (fun t => by
                rw [List.mem_append, hD t, htk, hFk, knot_mem]
                constructor
                · rintro (⟨n, hn, h5⟩ | h5)
                  · exact ⟨n, List.mem_append_left _ hn, h5⟩
                  · exact ⟨(nodesS E)[i], List.mem_append_right _ (by simp), hlst, h5⟩
                · rintro ⟨n, hn, h5⟩
                  rcases List.mem_append.1 hn with g5 | g5
                  · exact Or.inl ⟨n, g5, h5⟩
                  · simp at g5; subst g5; exact Or.inr h5.2) (fun k hk b hb hb' => by
                rcases List.mem_append.1 hk with g5 | g5
                · rcases hsp2 b hb' with g6 | g6
                  · exact hsep k g5 b hb g6
                  · obtain ⟨jx, hjx, rfl⟩ := List.getElem_of_mem g5
                    have := (own_ltG (hk1.each jx hjx (by have := hk1.len; omega)) b hb).2
                    omega
                · simp at g5; subst g5; exact hsp1 b hb hb')
              simpa using this
            | succ d ih2 =>
              intro j gY ld2 lk F hj eY hzY hd2 hk2 hr2 hkn2 hsp1 hsp2 hF
              refine hY ld2 lk _ _ ?_
              rw [if_pos (by simp; omega)]
              have hjN : j < (nodesS E).length := by omega
              have htj : (nodesS E).take (j + 1) = (nodesS E).take j ++ [(nodesS E)[j]] := by rw [List.take_add_one, List.getElem?_eq_getElem hjN]; rfl
              have hFl : F.length ≤ 2 ^ 14 := by
                rw [hF]
                have := List.length_filter_le (fun t => @decide (Mut E (nodesS E)[i] t) (Classical.propDecidable _)) ((nodesS E).take j)
                have : ((nodesS E).take j).length ≤ (nodesS E).length := by rw [List.length_take]; omega
                omega
              intro J26 hJ26 J30 hJ30
              obtain ⟨a2, x1, x2⟩ := rdI (hl3.ext0 eY).sl.reads (i := j) hjN
              obtain rfl : a2 = a := by rw [w1] at x1; exact (Option.some.inj x1).symm
              simp only [Int.toNat_natCast]
              refine ⟨by omega, by omega, _, x2, ?_⟩
              have no : ∀ gZ, Ext [] gY gZ → ¬ Mut E (nodesS E)[i] (nodesS E)[j] → J30 [.bool false] gZ := by
                intro gZ fZ hnm
                refine hJ30 _ _ ?_
                rw [if_neg (by decide)]
                refine hJ26 ld2 lk _ ?_
                rw [wrap64 (by omega) (by omega)]
                have := ih2 (j + 1) gZ ld2 lk F (by omega) (eY.trans0 fZ) (by have := fZ.sz; omega) (hd2.ext0 fZ) (hk2.ext0 fZ) (hr2.ext0 fZ) (hkn2.ext0 fZ) hsp1 hsp2 (by rw [htj, List.filter_append, ← hF]; simp [hnm])
                simpa using this
              refine hasR_s hr2.sl.reads (by omega) ⟨_, rfl, ?_⟩
              by_cases hm1 : Rch E (nodesS E)[i] (nodesS E)[j]
              · rw [List.contains_iff_mem.2 ((hL _).2 hm1), if_pos rfl]
                refine ⟨by omega, by omega, _, x2, ?_⟩
                refine ReachR_s ((hs.ext0 e1).ext0 eY) hl _ fun gZ lr2 L2 hr3 hL2l hL2 fZ => ⟨lr2, rfl, ?_⟩
                refine hasR_s hr3.sl.reads (by omega) ⟨_, rfl, ?_⟩
                by_cases hm2 : Rch E (nodesS E)[j] (nodesS E)[i]
                · rw [List.contains_iff_mem.2 ((hL2 _).2 hm2)]
                  refine hJ30 _ _ ?_
                  rw [if_pos rfl]
                  simp only [Int.toNat_natCast]
                  have zZ := fZ.sz
                  have hkZ := hk2.ext0 fZ
                  have hdZ := hd2.ext0 fZ
                  have x2Z := rd_ext0 fZ x2
                  refine ⟨by omega, by omega, _, x2Z, ?_⟩
                  refine app1 (x := (nodesS E)[j]) hkZ rfl zcInt encIL_len encIL_one (by omega) (by decide) (by omega) fun lk' g2 hk3 f2 hb2 => ?_
                  have hkb := own_ltG hkZ
                  have hdZb := own_ltG hdZ
                  have e1Z := eY.trans0 fZ
                  have e12 : Ext [] h1 g2 := e1Z.trans f2 fun b hb hlt => by have := hkb b hb; omega
                  obtain ⟨a3, y1, y2⟩ := rdI (hl3.ext0 e12).sl.reads (i := j) hjN
                  obtain rfl : a3 = a2 := by rw [w1] at y1; exact (Option.some.inj y1).symm
                  refine ⟨by omega, by omega, _, y2, ?_⟩
                  have hd3 : Own T_int 1 encIL h1.size g2 ld2 (D ++ F) := hdZ.ext f2 fun a ha hm => hsp1 _ hm (mem_sBlk.2 ⟨a, ha, rfl⟩)
                  have z2 := f2.sz
                  refine app1 (x := (nodesS E)[j]) hd3 rfl zcInt encIL_len encIL_one (by simp only [List.length_append]; omega) (by decide) (by omega) fun ld' g3 hd4 f3 hb3 => ?_
                  have hd3b := own_ltG hd3
                  have hk3b := own_ltG hk3
                  have hsk : ∀ b ∈ sBlk lk', b ∉ sBlk ld2 := fun b hb hb' => by
                    rcases hb2 b hb with g5 | g5
                    · exact hsp1 b g5 hb'
                    · have := hdZb b hb'; omega
                  have hd2lt : ∀ b ∈ sBlk ld2, b ∈ sBlk ld ∨ g1.size ≤ b := hsp2
                  refine hJ26 ld' lk' _ ?_
                  rw [wrap64 (by omega) (by omega)]
                  have := ih2 (j + 1) g3 ld' lk' (F ++ [(nodesS E)[j]]) (by omega) (e12.trans f3 fun b hb hlt => by have := hd3b b hb; omega) (by have := f3.sz; omega) (by rw [← List.append_assoc]; exact hd4) (hk3.ext f3 fun a ha hm => hsk _ (mem_sBlk.2 ⟨a, ha, rfl⟩) hm)
                    (((hr2.ext0 fZ).ext f2 fun a ha hm => by
                      have h5 := hrb _ (mem_sBlk.2 ⟨a, ha, rfl⟩)
                      have h6 := hk2.blk _ hm
                      omega).ext f3 fun a ha hm => by
                      have h5 := hrb _ (mem_sBlk.2 ⟨a, ha, rfl⟩)
                      rcases hsp2 _ hm with g5 | g5
                      · have := (own_ltG hd _ g5).2; omega
                      · omega) ⟨(hkn2.own.ext0 fZ).ext f2 (fun a ha hm => by
                        have h5 := own_ltG hk1.own _ (mem_sBlk.2 ⟨a, ha, rfl⟩)
                        have h6 := hk2.blk _ hm
                        omega) |>.ext f3 (fun a ha hm => by
                        have hb := hkn2.own.other (T' := T_int) (by decide) _ (mem_sBlk.2 ⟨a, ha, rfl⟩)
                        obtain ⟨a9, q1, q2⟩ := mem_sBlk.1 hm
                        obtain ⟨b9, c9, r1, r2, r3, _⟩ := hd2.2.2 a9 q1
                        rw [r1] at q2
                        simp at q2
                        rw [← q2] at hb
                        exact hb _ _ r3), hkn2.len, fun x h1' h2' => (((hkn2.each x h1' h2').ext0 fZ).ext f2 (fun a ha hm => by
                        have h5 := (own_ltG (hk1.each x h1' h2') _ (mem_sBlk.2 ⟨a, ha, rfl⟩)).2
                        have h6 := hk2.blk _ hm
                        omega)).ext f3 (fun a ha hm => by
                        have h5 := (own_ltG (hk1.each x h1' h2') _ (mem_sBlk.2 ⟨a, ha, rfl⟩)).2
                        rcases hsp2 _ hm with g5 | g5
                        · exact hsep _ (List.getElem_mem h1') _ (mem_sBlk.2 ⟨a, ha, rfl⟩) g5
                        · omega)⟩ (fun b hb hb' => by
                      rcases hb3 b hb' with g5 | g5
                      · exact hsk b hb g5
                      · have := hk3b b hb; omega) (fun b hb => by
                      rcases hb3 b hb with g5 | g5
                      · exact hsp2 b g5
                      · exact Or.inr (by omega)) (by rw [htj, List.filter_append, ← hF]; simp [Mut, hm1, hm2])
                  simpa using this
                · have : L2.contains (nodesS E)[i] = false := by
                    cases hc : L2.contains (nodesS E)[i] with
                    | false => rfl
                    | true => exact absurd ((hL2 _).1 (List.contains_iff_mem.1 hc)) hm2
                  rw [this]
                  exact no gZ fZ fun hm => hm2 hm.2
              · have : L.contains (nodesS E)[j] = false := by
                  cases hc : L.contains (nodesS E)[j] with
                  | false => rfl
                  | true => exact absurd ((hL _).1 (List.contains_iff_mem.1 hc)) hm1
                rw [this, if_neg (by decide)]
                exact no gY (Ext.refl _ _) fun hm => hm1 hm.1
          have := inner (nodesS E).length 0 g1 ld ⟨none, 0, 0⟩ [] (by omega) e11 (Nat.le_refl _) (by rw [List.append_nil]; exact hd1) (Own.nil _ _) hr hk1 (by simp [sBlk]) (fun b hb => Or.inl hb) (by simp)
          simpa using this
        · have : L.contains (nodesS E)[i] = false := by
            cases hc : L.contains (nodesS E)[i] with
            | false => rfl
            | true => exact absurd ((hL _).1 (List.contains_iff_mem.1 hc)) hrr
          rw [this]
          exact skip fun g5 => hrr (hlf.1 g5).1
  have := key (nodesS E).length 0 h1 ⟨none, 0, 0⟩ [] ⟨none, 0, 0⟩ [] (by omega) (Ext.refl _ _) ⟨Own.nil _ _, by simp, by intro i h1; simp at h1⟩ (Own.nil _ _) (by simp) (by simp) (by simp) (by simp)
  simpa using this
end
end Go.Lift

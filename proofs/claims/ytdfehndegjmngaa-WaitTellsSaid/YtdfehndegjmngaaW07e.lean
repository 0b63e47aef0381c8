/- Who waits for whom: Circles, the walk. -/
import Derived.Test.YtdfehndegjmngaaW07d
set_option linter.unusedSimpArgs false
set_option linter.unusedVariables false
namespace Go.Lift
open Go Go.Proofs
set_option maxRecDepth 100000
section
variable {h : Hp} {Q : List Value → Hp → Prop}
theorem Circles_s {s : Sl} {E : List Edge} (hs : Reads 2 encE2 h s E) (hl : E.length ≤ 2 ^ 12) (hw : ∀ e ∈ E, (Lit.int .i64 e.1).wf = true ∧ (Lit.int .i64 e.2).wf = true)
    (hQ : ∀ h' o ks, KnotsAt h.size h' o ks (circ E) → Ext [] h h' → Q [.slice o.a o.n o.c] h') : S_wait_Circles s h Q := by
  refine O_wait_Circles _ ?_
  unfold F_wait_Circles
  refine graph_s hs (by omega) fun h1 C hg1 e1 => ⟨_, rfl, ?_⟩
  refine newI fun h2 s2 b2 e2 => ?_
  obtain ⟨es, c, q1, q2, q3⟩ := (hg1.ext0 e2).map
  have hmg : h.size < h1.size := hg1.map.lt
  refine ⟨.mapIter (some h.size) c #[] c, Or.inr ⟨h.size, es, c, rfl, q1, rfl⟩, ?_⟩
  refine newI fun h3 s3 b3 e3 => ?_
  intro X hX
  have hCl : C.length ≤ E.length := by
    have h1 := nodup_sub_len (L := C.map Prod.fst) (M := E.map Prod.fst) hg1.nd fun x hx => by
      obtain ⟨v, hv⟩ := hg1.keys x hx
      exact List.mem_map.2 ⟨_, hv, rfl⟩
    simpa using h1
  have hCw : ∀ x ∈ C.map Prod.fst, (Lit.int .i64 x).wf = true := fun x hx => by
    obtain ⟨v, hv⟩ := hg1.keys x hx
    exact (hw _ hv).1
  have hsrc : ∀ k, (∃ v, (k, v) ∈ E) → k ∈ C.map Prod.fst := by
    intro k hk
    obtain ⟨v, hv⟩ := hk
    have hval := hg1.val k
    have : tg E k ≠ [] := List.ne_nil_of_mem (mem_tg.2 hv)
    rw [if_neg this] at hval
    rcases Classical.em (k ∈ C.map Prod.fst) with g | g
    · exact g
    · rw [(afind_none C k).2 g] at hval
      cases hval
  have key : ∀ d g seen MM, leftIt es seen = d → Ext [] h g → GraphAt h.size g h.size C E → ItAt g h2.size h.size es c seen → MetAt g h1.size h3.size MM E → (MM.map Prod.fst).Nodup →
      (∀ e ∈ es.toList, seen.contains e.born = true → ∃ k ∈ MM.map Prod.fst, e.key = encI k) → h3.size ≤ g.size → X [] g := by
    intro d
    induction d using Nat.strongRecOn with
    | ind d ih =>
      intro g seen MM hd eg hgg hit hmt hnd hkeys hzg
      refine hX _ ?_
      refine ⟨rfl, _, hit.it, hit.good, fun hend => ?_, fun k v o hst => ?_⟩
      · have hallC : ∀ k ∈ C.map Prod.fst, k ∈ MM.map Prod.fst := by
          intro k hk
          obtain ⟨p, hp, rfl⟩ := List.mem_map.1 hk
          obtain ⟨e, he1, he2⟩ := ent_of q2 (p := (p.1, p.2.1)) (List.mem_map.2 ⟨p, hp, rfl⟩)
          obtain ⟨k, hk1, hk2⟩ := hkeys e he1 (hit.ended hend e he1)
          have : encI p.1 = encI k := he2.symm.trans hk2
          have : p.1 = k := by simpa using this
          rw [this]; exact hk1
        have hall : ∀ k, (∃ v, (k, v) ∈ E) → k ∈ MM.map Prod.fst := fun k hk => hallC k (hsrc k hk)
        refine newI fun g1 t1 b1 f1 => ?_
        refine KeysA_s (hgg.ext0 f1).map (by rw [keys_amap]; exact hCw) (by rw [keys_amap]; exact hg1.nd) (by rw [show (amap Prod.fst C).length = C.length by simp [amap]]; omega) fun g2 sk f2 hsk => ⟨sk, rfl, ?_⟩
        rw [keys_amap] at hsk
        have hKmem : ∀ x, x ∈ sortI (C.map Prod.fst) ↔ x ∈ C.map Prod.fst := fun x => sortI_mem
        have hKasc := sortI_asc hg1.nd
        have hKlen := sortI_len (C.map Prod.fst)
        rw [List.length_map] at hKlen
        generalize hKd : sortI (C.map Prod.fst) = K at *
        have z12 := f2.sz
        have eg2 : Ext [] g g2 := f1.trans0 f2
        have hskn := hsk.1
        have hskb := own_ltI hsk
        have hmtlt : ∀ p ∈ MM, p.2 < g.size := fun p hp => by
          obtain ⟨_, L, y1, _⟩ := hmt.each p hp
          exact y1.lt
        have hcirc : (K.filter (isLeast E)).map (knotOf E) = circ E := by
          unfold circ
          congr 1
          refine asc_ext (hKasc.sublist List.filter_sublist) ((nodesS_asc E).sublist List.filter_sublist) fun x => ?_
          rw [List.mem_filter, List.mem_filter, hKmem]
          constructor
          · rintro ⟨h5, h6⟩
            exact ⟨nodesS_mem.2 (Or.inl (isLeast_iff.1 h6).1.src), h6⟩
          · rintro ⟨h5, h6⟩
            exact ⟨hsrc x (isLeast_iff.1 h6).1.src, h6⟩
        intro X21 hX21
        have key2 : ∀ d i gX out ks D, d + i = K.length → Ext [g.size] g2 gX → KnotsAt g2.size gX out ks (((K.take i).filter (isLeast E)).map (knotOf E)) → IsMap encI encI gX g.size (ones D) → D.Nodup →
            (∀ t, t ∈ D ↔ ∃ n ∈ K.take i, isLeast E n = true ∧ Mut E n t) → X21 [.slice out.a out.n out.c, .int .i64 (i : Int)] gX := by
          intro d
          induction d with
          | zero =>
            intro i gX out ks D hi eX hkn hdone hDn hD
            refine hX21 out _ _ ?_
            rw [if_neg (by simp; omega)]
            rw [List.take_of_length_le (by omega), hcirc] at hkn
            exact hQ gX out ks (hkn.mono (by omega)) ((eg.trans0 eg2).trans eX (by intro b hb hlt; simp at hb; omega))
          | succ d ih2 =>
            intro i gX out ks D hi eX hkn hdone hDn hD
            have hiK : i < K.length := by omega
            have egX : Ext [] g gX := eg2.trans eX (by intro b hb hlt; simp at hb; omega)
            have hskX : Own T_int 1 encIL g1.size gX sk K := hsk.ext eX fun a ha hm => by
              simp at hm
              have := hskb _ (mem_sBlk.2 ⟨a, ha, rfl⟩)
              omega
            have hmtX := hmt.ext0 egX
            have zX := eX.sz
            have htk : K.take (i + 1) = K.take i ++ [K[i]] := by rw [List.take_add_one, List.getElem?_eq_getElem hiK]; rfl
            have hKs : ∀ n ∈ K.take i, n < K[i] := by
              intro n hn
              obtain ⟨j, hj, rfl⟩ := List.getElem_of_mem hn
              rw [List.length_take] at hj
              rw [List.getElem_take]
              exact List.pairwise_iff_getElem.1 hKasc j i (by omega) hiK (by omega)
            refine hX21 out _ _ ?_
            rw [if_pos (by simp; omega)]
            intro J25 hJ25
            obtain ⟨ak, w1, w2⟩ := rdI hskX.sl.reads (i := i) hiK
            rw [w1]
            simp only [nilW_some, Int.toNat_natCast]
            refine ⟨by omega, by omega, _, w2, ?_⟩
            intro J30 hJ30
            have skip : (¬ (isLeast E K[i] = true)) → J30 [.bool true] gX := by
              intro hnl
              refine hJ30 _ _ ?_
              rw [if_pos rfl]
              refine hJ25 out _ ?_
              rw [wrap64 (by omega) (by omega)]
              have := ih2 (i + 1) gX out ks D (by omega) eX (by
                rw [htk, List.filter_append, List.filter_cons_of_neg hnl]
                simpa using hkn) hdone hDn (fun t => by
                rw [hD t, htk]
                constructor
                · rintro ⟨n, hn, h5⟩; exact ⟨n, List.mem_append_left _ hn, h5⟩
                · rintro ⟨n, hn, h5⟩
                  rcases List.mem_append.1 hn with g5 | g5
                  · exact ⟨n, g5, h5⟩
                  · simp at g5; subst g5; exact absurd h5.1 hnl)
              rw [w1] at *
              simpa using this
            obtain ⟨es69, y1, y2, r70, y3, es71, y4, y5⟩ := met_get hmtX hall K[i]
            refine ⟨es69, y1, y2, r70, y3, es71, y4, (y5 _).1, _, (y5 _).2, ?_⟩
            by_cases hrr : Rch E K[i] K[i]
            · rw [if_pos hrr, if_neg (by decide)]
              obtain ⟨es73, z1, z2, z3⟩ := ones_get hdone K[i]
              refine ⟨es73, z1, z2, _, z3, ?_⟩
              by_cases hin : K[i] ∈ D
              · rw [if_pos hin]
                refine skip fun hlst => ?_
                obtain ⟨n, hn, h5, h6⟩ := (hD _).1 hin
                have := (isLeast_iff.1 hlst).2 n h6.symm
                have := hKs n hn
                omega
              · rw [if_neg hin]
                have hlst : isLeast E K[i] = true := by
                  refine isLeast_iff.2 ⟨hrr, fun m hm => ?_⟩
                  rcases Int.lt_or_le m K[i] with g5 | g5
                  · exfalso
                    obtain ⟨m0, h5, h6⟩ := least_of hrr
                    have h7 := (isLeast_iff.1 h5).2 m (h6.symm.trans hm)
                    have h8 : m0 ∈ K := (hKmem m0).2 (hsrc m0 h6.2.src)
                    obtain ⟨j, hj, rfl⟩ := List.getElem_of_mem h8
                    have hji : j < i := by
                      rcases Nat.lt_or_ge j i with g6 | g6
                      · exact g6
                      · exfalso
                        rcases (by omega : j = i ∨ i < j) with g7 | g7
                        · subst g7; omega
                        · have := List.pairwise_iff_getElem.1 hKasc i j hiK hj g7
                          omega
                    exact hin ((hD _).2 ⟨K[j], List.mem_iff_getElem.2 ⟨j, by rw [List.length_take]; omega, by rw [List.getElem_take]⟩, h5, h6.symm⟩)
                  · exact g5
                refine hJ30 _ _ ?_
                rw [if_neg (by decide)]
                have hKi : K[i] ∈ MM.map Prod.fst := hall _ hrr.src
                obtain ⟨es33, u1, u2, r34, L, u3, u4, u5, u6⟩ := met_some hmtX hKi
                refine ⟨es33, u1, u2, some r34, u3, ?_⟩
                have hLl : L.length ≤ E.length := by
                  have := nodup_sub_len (M := E.map Prod.snd) u5 fun y hy => by
                    obtain ⟨z, hz⟩ := ((u6 y).1 hy).tgt
                    exact List.mem_map.2 ⟨_, hz, rfl⟩
                  simpa using this
                refine KeysB_s u4 (by
                  rw [ones_keys]
                  intro x hx
                  obtain ⟨z, hz⟩ := ((u6 x).1 hx).tgt
                  exact (hw _ hz).2) (by rw [ones_keys]; exact u5) (by unfold ones; rw [List.length_map]; omega) fun gi sl fi hsl => ⟨sl, rfl, ?_⟩
                rw [ones_keys] at hsl
                have hSmem : ∀ x, x ∈ sortI L ↔ Rch E K[i] x := fun x => by rw [sortI_mem, u6]
                have hSasc := sortI_asc u5
                have hSlen := sortI_len L
                generalize hSd : sortI L = SL at *
                have hsln := hsl.1
                have hslb := own_ltI hsl
                have zi := fi.sz
                open Classical in
                have hF : SL.filter (fun t => decide (Rch E t K[i])) = knotOf E K[i] := by
                  refine asc_ext (hSasc.sublist List.filter_sublist) (knot_asc E _) fun x => ?_
                  rw [List.mem_filter, knot_mem, hSmem]
                  simp only [decide_eq_true_eq]
                  exact Iff.rfl
                have hDno : ∀ t ∈ D, ¬ Mut E K[i] t := by
                  intro t ht hm
                  obtain ⟨n, hn, h5, h6⟩ := (hD t).1 ht
                  exact hin ((hD _).2 ⟨n, hn, h5, h6.trans hm.symm⟩)
                intro X42 hX42
                have key3 : ∀ d j gY kn F, d + j = SL.length → Ext [g.size] gi gY → Own T_int 1 encIL gi.size gY kn F → IsMap encI encI gY g.size (ones (D ++ F)) → F = (SL.take j).filter (fun t => @decide (Rch E t K[i]) (Classical.propDecidable _)) → X42 [.slice kn.a kn.n kn.c, .int .i64 (j : Int)] gY := by
                  intro d
                  induction d with
                  | zero =>
                    intro j gY kn F hj eY hkn2 hdn2 hFd
                    refine hX42 kn _ _ ?_
                    rw [if_neg (by simp; omega)]
                    rw [List.take_of_length_le (by omega)] at hFd
                    have hF2 : F = knotOf E K[i] := hFd.trans hF
                    subst hF2
                    have zY := eY.sz
                    have eXY : Ext [g.size] gX gY := (fi.mono (by simp)).trans eY (fun b hb _ => hb)
                    have houtY : Own T_sint 1 encSl g2.size gY out ks := hkn.own.ext eXY fun a ha hm => by
                      simp at hm
                      have := hkn.own.blk _ (mem_sBlk.2 ⟨a, ha, rfl⟩)
                      omega
                    have hksl := hkn.len
                    have hkl : ks.length ≤ 2 ^ 20 := by
                      rw [hksl, List.length_map]
                      have := List.length_filter_le (isLeast E) (K.take i)
                      have : (K.take i).length ≤ K.length := by rw [List.length_take]; omega
                      omega
                    refine app1 (x := kn) houtY rfl zcSl encSl_len encSl_one (by omega) (by decide) (by omega) fun out' g' hout' f' hb' => ?_
                    refine hJ25 out' _ ?_
                    rw [wrap64 (by omega) (by omega)]
                    have houtb := own_ltI houtY
                    have := ih2 (i + 1) g' out' (ks ++ [kn]) (D ++ knotOf E K[i]) (by omega)
                      (((eX.trans0 fi).trans eY (fun b hb _ => hb)).trans f' (fun b hb hlt => by have := houtb b hb; omega)) (by
                      rw [htk, List.filter_append, List.filter_cons_of_pos hlst, List.filter_nil, List.map_append]
                      refine ⟨hout', by simp [hksl], fun x h1 h2 => ?_⟩
                      by_cases hx : x < ks.length
                      · rw [List.getElem_append_left hx, List.getElem_append_left (by omega)]
                        refine ((hkn.each x hx (by omega)).ext eXY fun a ha hm => ?_).extT f' (houtY.other (by decide))
                        simp at hm
                        have := (hkn.each x hx (by omega)).blk _ (mem_sBlk.2 ⟨a, ha, rfl⟩)
                        omega
                      · have hx2 : x = ks.length := by simp at h1; omega
                        subst hx2
                        rw [List.getElem_append_right (by omega), List.getElem_append_right (by omega)]
                        simp only [hksl, Nat.sub_self, List.getElem_cons_zero, List.map_cons, List.map_nil]
                        exact (hkn2.extT f' (houtY.other (by decide))).mono (by omega)) (hdn2.ext f' fun hm => by have := houtb _ hm; omega) (by
                      rw [List.nodup_append]
                      refine ⟨hDn, asc_nodup (knot_asc E _), fun a ha b hb hab => ?_⟩
                      subst hab
                      exact hDno a ha (knot_mem.1 hb)) (fun t => by
                      rw [List.mem_append, hD t, htk, knot_mem]
                      constructor
                      · rintro (⟨n, hn, h5⟩ | h5)
                        · exact ⟨n, List.mem_append_left _ hn, h5⟩
                        · exact ⟨K[i], List.mem_append_right _ (by simp), hlst, h5⟩
                      · rintro ⟨n, hn, h5⟩
                        rcases List.mem_append.1 hn with g5 | g5
                        · exact Or.inl ⟨n, g5, h5⟩
                        · simp at g5; subst g5; exact Or.inr h5.2)
                    rw [w1] at *
                    simpa using this
                  | succ d ih3 =>
                    intro j gY kn F hj eY hkn2 hdn2 hFd
                    refine hX42 kn _ _ ?_
                    rw [if_pos (by simp; omega)]
                    have hjl : j < SL.length := by omega
                    have zY := eY.sz
                    intro J46 hJ46
                    have hslY : Own T_int 1 encIL gX.size gY sl SL := hsl.ext eY fun a ha hm => by
                      simp at hm
                      have := hslb _ (mem_sBlk.2 ⟨a, ha, rfl⟩)
                      omega
                    obtain ⟨al, v1, v2⟩ := rdI hslY.sl.reads (i := j) hjl
                    rw [v1]
                    simp only [nilW_some, Int.toNat_natCast]
                    refine ⟨by omega, by omega, _, v2, ?_⟩
                    have egY : Ext [] g gY := (egX.trans0 fi).trans eY (by intro b hb hlt; simp at hb; omega)
                    obtain ⟨es51, x1, x2, r52, x3, es53, x4, x5⟩ := met_get (hmt.ext0 egY) hall SL[j]
                    refine ⟨es51, x1, x2, r52, x3, es53, x4, (x5 _).1, _, (x5 _).2, ?_⟩
                    have htj : SL.take (j + 1) = SL.take j ++ [SL[j]] := by rw [List.take_add_one, List.getElem?_eq_getElem hjl]; rfl
                    by_cases hr : Rch E SL[j] K[i]
                    · rw [if_pos hr, if_pos (by decide)]
                      have hFl : F.length ≤ 2 ^ 20 := by
                        rw [hFd]
                        have := List.length_filter_le (fun t => @decide (Rch E t K[i]) (Classical.propDecidable _)) (SL.take j)
                        have : (SL.take j).length ≤ SL.length := by rw [List.length_take]; omega
                        omega
                      refine app1 (x := SL[j]) hkn2 rfl zcInt encIL_len encIL_one (by omega) (by decide) zY fun kn' gZ hkn3 f3 hb3 => ?_
                      have hknb := own_ltI hkn2
                      have hdn3 := hdn2.ext f3 fun hm => by have := hknb _ hm; omega
                      have hnot : SL[j] ∉ D ++ F := by
                        intro hm
                        rcases List.mem_append.1 hm with g5 | g5
                        · exact hDno _ g5 ⟨(hSmem _).1 (List.getElem_mem _), hr⟩
                        · rw [hFd, List.mem_filter] at g5
                          obtain ⟨j2, hj2, e2⟩ := List.getElem_of_mem g5.1
                          rw [List.length_take] at hj2
                          rw [List.getElem_take] at e2
                          have := List.pairwise_iff_getElem.1 hSasc j2 j (by omega) hjl (by omega)
                          omega
                      obtain ⟨es58, p1, p2, p3⟩ := ones_get hdn3 SL[j]
                      refine ⟨es58, p1, p2, _, p3, ?_⟩
                      rw [if_neg hnot, show IntKind.wrap .i64 ((0 : Int) + 1) = 1 from by decide]
                      obtain ⟨es61, c62, o1, o2, o3⟩ := ones_add hdn3 hnot
                      refine ⟨g.size, es61, c62, rfl, o1, o2, ?_⟩
                      refine setI o1 fun gW tW kW fW => ?_
                      refine hJ46 kn' _ ?_
                      rw [wrap64 (by omega) (by omega)]
                      have := ih3 (j + 1) gW kn' (F ++ [SL[j]]) (by omega) ((eY.trans f3 (fun b hb hlt => by have := hknb b hb; omega)).trans fW (fun b hb _ => hb)) (hkn3.ext fW fun a ha hm => by
                        simp at hm
                        have := hkn3.blk _ (mem_sBlk.2 ⟨a, ha, rfl⟩)
                        omega) (by
                        have := o3 gW kW
                        rw [List.append_assoc] at this
                        exact this) (by rw [htj, List.filter_append, ← hFd]; simp [hr])
                      rw [v1] at *
                      simpa using this
                    · rw [if_neg hr, if_neg (by decide)]
                      refine hJ46 kn _ ?_
                      rw [wrap64 (by omega) (by omega)]
                      have := ih3 (j + 1) gY kn F (by omega) eY hkn2 hdn2 (by rw [htj, List.filter_append, ← hFd]; simp [hr])
                      rw [v1] at *
                      simpa using this
                have := key3 SL.length 0 gi ⟨none, 0, 0⟩ [] (by omega) (Ext.refl _ _) (Own.nil _ _) (by rw [List.append_nil]; exact hdone.ext fi (by simp)) (by simp)
                simpa using this
            · rw [if_neg hrr, if_pos (by decide)]
              exact skip fun hlst => hrr (isLeast_iff.1 hlst).1
        have := key2 K.length 0 g2 ⟨none, 0, 0⟩ [] [] (by omega) (Ext.refl _ _) ⟨by simpa using Own.nil _ _, by simp, by intro i h1; simp at h1⟩ ⟨#[], 0, f2.get b1 (by simp), rfl, Born.nil 0⟩ (by simp) (by simp)
        simpa using this
      · obtain ⟨e, he1, he2, rfl, he4, he5⟩ := hit.step hst
        refine setI hit.it fun g1 t1 k1 f1 => ?_
        have mp1 := f1.get hit.mp (by simp; omega)
        refine ⟨rfl, h.size, c, seen.push e.born, e.born, es, c, e, k1, by simp, mp1, he4, ?_⟩
        obtain ⟨p, hp, hk, hv⟩ := key_of q2 he1
        refine ⟨p.1, hk, _, rfl, ?_⟩
        have hgfp : ∀ b, GFp h.size C b → b < h1.size := fun b hb => (gfp_lt hg1 hb).2
        have hgg1 := hgg.extF f1 fun b hb hm => by simp at hm; have := hgfp b hb; omega
        refine reach_s hgg1 (by omega) p.1 fun g2 L hL hLn hLm f2 => ⟨_, rfl, ?_⟩
        have hgg2 := hgg1.ext0 f2
        have hmt1 := hmt.ext f1 (by simp; omega) fun p hp hm => by simp at hm; have := (hmt.each p hp).1; omega
        have hmt2 := hmt1.ext0 f2
        obtain ⟨es4, c4, y1, y2, y3⟩ := hmt2.map.put p.1 g1.size
        refine ⟨h1.size, es4, c4, rfl, y1, y2, ?_⟩
        refine setI y1 fun g3 t3 k3 f3 => ?_
        have hm3 := y3 g3 k3
        have z2 := f2.sz
        refine ih (leftIt es (seen.push e.born)) (by omega) g3 (seen.push e.born) (aput MM p.1 g1.size) rfl ?_ (hgg2.extF f3 fun b hb hm => by simp at hm; have := hgfp b hb; omega) (hit.next (f3.get (f2.get k1 (by simp)) (by simp; omega)) (f3.get (f2.get mp1 (by simp)) (by simp; omega))) ?_ (aput_nodup hnd _ _) ?_ (by omega)
        · exact ((eg.trans f1 (by intro b hb hlt; simp at hb; omega)).trans0 f2).trans f3 (by intro b hb hlt; simp at hb; omega)
        · refine ⟨hm3, fun p' hp' => ?_⟩
          rcases mem_aput hp' with rfl | g5
          · exact ⟨by simp only; omega, L, hL.ext f3 (by simp; omega), hLn, hLm⟩
          · obtain ⟨u1, L', u2, u3⟩ := hmt2.each p' g5
            exact ⟨u1, L', u2.ext f3 (by simp; omega), u3⟩
        · intro e' he' hs'
          rw [Array.contains_iff_mem, Array.mem_push] at hs'
          have hk1 : p.1 ∈ (aput MM p.1 g1.size).map Prod.fst := by
            rw [keys_aput]
            split
            · assumption
            · simp
          rcases hs' with g5 | g5
          · obtain ⟨k', hk', hk''⟩ := hkeys e' he' (Array.contains_iff_mem.2 g5)
            refine ⟨k', ?_, hk''⟩
            rw [keys_aput]
            split
            · exact hk'
            · exact List.mem_append_left _ hk'
          · have : e' = e := by
              have h1 := find_born q3.2 he'
              have h2 := find_born q3.2 he1
              rw [g5] at h1
              rw [h1] at h2
              exact Option.some.inj h2
            subst this
            exact ⟨p.1, hk1, hk⟩
  have c2 := e3.get b2 (by simp)
  exact key _ h3 #[] [] rfl ((e1.trans0 e2).trans0 e3) ((hg1.ext0 e2).ext0 e3) ⟨b3, e3.get q1 (by simp), q3⟩ ⟨⟨#[], 0, c2, rfl, Born.nil 0⟩, by simp⟩ (by simp) (by simp) (Nat.le_refl _)
end
end Go.Lift

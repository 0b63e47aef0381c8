/- IndexFinds: true, whatever the input. -/
import Derived.Test.YtmlcjckocgnjfaaDoorI11h
set_option linter.unusedSimpArgs false
set_option linter.unusedVariables false
namespace Go.Lift
open Go Go.Proofs Go.RowKit
set_option maxRecDepth 100000
section
variable {h : Hp} {Q : List Value → Hp → Prop}
theorem IndexFinds_s {a : Sl} {xs : List StepI} {v w : V4} (ha : Reads 10 encS h a xs) (hlen : xs.length ≤ 9223372036854775807) (hok : ∀ s ∈ xs, VOk s.v ∧ VOk s.w) (hv : VOk v) (hw : VOk w) (hg : GM h) (hQ : ∀ h', Ext [] h h' → Q [.bool true] h') :
    F_liverylaw11_IndexFinds a v.k v.n v.f v.s w.k w.n w.f w.s h Q := by
  unfold F_liverylaw11_IndexFinds
  refine newI fun h1 s1 b1' e1 => newI fun h2 s2 b2' e2 => ?_
  have bv : Blk h2 h.size (cells4 v) T_api_Value := e2.get b1' (by simp)
  have bw : Blk h2 h1.size (cells4 w) T_api_Value := b2'
  have e02 := e1.trans0 e2
  refine New_i (by decide) fun h4 x hx4 e4 => ⟨_, _, rfl, ?_⟩
  have e04 := e02.trans0 e4
  have g2 := hg.two
  have han := ha.1
  intro J7 hJ7
  rw [if_neg (by decide)]
  have dflt : ∀ g, Ext [] h g → J7 [.bool true] g := fun g eg => by
    refine hJ7 _ _ ?_
    rw [if_pos rfl]
    intro J hJ
    rw [if_pos (by decide)]
    exact wakes_i (hg.ext eg) fun g' e' => ⟨_, rfl, hJ _ _ (hQ g' (eg.trans0 e'))⟩
  refine fair_i (ha.ext0 e04) hlen fun h5 e5 => ⟨_, rfl, ?_⟩
  have e25 := e4.trans0 e5
  cases hf : fairI xs with
  | false => rw [if_pos (by rfl)]; exact dflt h5 (e02.trans0 e25)
  | true =>
  rw [if_neg (by decide)]
  refine rdV (e25.get bv (by simp)) ?_
  refine GoodR_s v fun h6 e6 => ⟨_, rfl, ?_⟩
  have e26 := e25.trans0 e6
  cases hgv : goodX v with
  | false => rw [if_pos (by rfl)]; exact dflt h6 (e02.trans0 e26)
  | true =>
  rw [if_neg (by decide)]
  refine rdV (e26.get bw (by simp)) ?_
  refine GoodR_s w fun h7 e7 => ⟨_, rfl, ?_⟩
  have e27 := e26.trans0 e7
  cases hgw : goodX w with
  | false => exact dflt h7 (e02.trans0 e27)
  | true =>
  refine hJ7 _ _ ?_
  rw [if_neg (by decide)]
  intro X hX
  have hl150 := fairI_len hf
  have key : ∀ d i g M L s, d + i = xs.length → Ext [] h2 g → Ix h2.size (fun b => b ∈ sBlk s) g x M → OkM M i → InI M L → L.length ≤ i → Own T_liverylaw11_Step 10 encS h2.size g s L → X [.slice s.a s.n s.c, .int .i64 (i : Int)] g := by
    intro d
    induction d with
    | zero =>
      intro i g M L s hi eg hxg ok hin hLi hos
      refine hX s (i : Int) g ?_
      rw [if_neg (by simp; omega)]
      have hsn := hos.1
      have km := hin.km (by omega)
      have gg := (hg.ext e02).ext eg
      have i15 : i < 2 ^ 15 := by omega
      refine rdV (eg.get bv (by simp)) ?_
      refine Find_i hxg ok i15 km v hv gg fun g1 st sn hx1 f1 ot on => ⟨st, sn, rfl, ?_⟩
      have eg1 := eg.trans0 f1
      refine rdV (eg1.get bv (by simp)) ?_
      refine rdV (eg1.get bw (by simp)) ?_
      refine Range_i hx1 ok i15 km v w hv hw (gg.ext f1) fun g3 su sm hx3 f3 ou om => ⟨su, sm, rfl, ?_⟩
      have eg3 := eg1.trans0 f3
      have hos3 := (hos.ext0 f1).ext0 f3
      obtain ⟨pf, ord⟩ := find_in hin ok hv hgv
      have pr := range_in hin ok hv hgv hw hgw
      have lf := pf.length_eq
      have lr := pr.length_eq
      rw [List.length_map] at lf lr
      have lf2 := List.length_filter_le (fun s : StepI => cmpV s.v v == 0) L
      have lr2 := List.length_filter_le (fun s : StepI => decide (0 ≤ cmpV s.v v) && decide (cmpV s.v w < 0)) L
      have htn := ot.1
      have hun := ou.1
      intro Y hY
      have key2 : ∀ d k g', d + k = L.length → Ext [] g3 g' → Y [.int .i64 ((((L.take k).filter fun s => cmpV s.v v == 0).length : Nat) : Int), .int .i64 ((((L.take k).filter fun s => decide (0 ≤ cmpV s.v v) && decide (cmpV s.v w < 0)).length : Nat) : Int), .int .i64 (k : Int)] g' := by
        intro d
        induction d with
        | zero =>
          intro k g' hk eg'
          refine hY _ _ _ _ ?_
          rw [if_neg (by simp; omega)]
          rw [List.take_of_length_le (by omega)]
          intro Z hZ
          have ot' := ((ot.ext0 f3).ext0 eg').sl.reads
          have key3 : ∀ d j, (findP M v).1.length ≤ d + j → 1 ≤ j → j ≤ d + j → j ≤ 2 ^ 30 → Z [.int .i64 (j : Int)] g' := by
            intro d
            induction d with
            | zero =>
              intro j hj h1j _ _
              refine hZ _ _ ?_
              rw [if_neg (by simp; omega)]
              rw [if_pos (by rw [htn, lf]; simp), if_pos (by rw [hun, lr]; simp)]
              have hx' := (hx3.e0 eg')
              refine Len_i hx' ok i15 ⟨_, rfl, ?_⟩
              rw [if_pos (by rw [sum_in hin, hsn]; simp)]
              exact wakes_i (((hg.ext e02).ext eg3).ext eg') fun g'' e'' => ⟨_, rfl, hQ g'' (((e02.trans0 eg3).trans0 eg').trans0 e'')⟩
            | succ d ih =>
              intro j hj h1j _ h30
              by_cases hjl : j < (findP M v).1.length
              · refine hZ _ _ ?_
                rw [if_pos (by simp; omega)]
                obtain ⟨b1, w1, w2⟩ := rdI ot' (i := j - 1) (by omega)
                obtain ⟨b2, w3, w4⟩ := rdI ot' (i := j) hjl
                have hbb : b1 = b2 := by rw [w1] at w3; exact Option.some.inj w3
                subst hbb
                have hj1 : IntKind.wrap .i64 ((j : Int) - 1) = ((j - 1 : Nat) : Int) := by rw [wrap64 (by omega) (by omega)]; omega
                rw [hj1, w1]
                simp only [nilW_some, Int.toNat_natCast]
                refine ⟨by omega, by omega, _, w2, by omega, by omega, _, w4, ?_⟩
                have hlt := List.pairwise_iff_getElem.1 ord (j - 1) j (by omega) hjl (by omega)
                rw [if_neg (by simp; exact hlt), wrap64 (by omega) (by omega)]
                exact ih (j + 1) (by omega) (by omega) (by omega) (by omega)
              · refine hZ _ _ ?_
                rw [if_neg (by simp; omega)]
                rw [if_pos (by rw [htn, lf]; simp), if_pos (by rw [hun, lr]; simp)]
                have hx' := (hx3.e0 eg')
                refine Len_i hx' ok i15 ⟨_, rfl, ?_⟩
                rw [if_pos (by rw [sum_in hin, hsn]; simp)]
                exact wakes_i (((hg.ext e02).ext eg3).ext eg') fun g'' e'' => ⟨_, rfl, hQ g'' (((e02.trans0 eg3).trans0 eg').trans0 e'')⟩
          exact key3 (findP M v).1.length 1 (by omega) (by omega) (by omega) (by omega)
        | succ d ih =>
          intro k g' hk eg'
          have hkl : k < L.length := by omega
          refine hY _ _ _ _ ?_
          rw [if_pos (by simp; omega)]
          have c1s := flt_succ (fun s : StepI => cmpV s.v v == 0) L hkl
          have c2s := flt_succ (fun s : StepI => decide (0 ≤ cmpV s.v v) && decide (cmpV s.v w < 0)) L hkl
          have c1k := List.length_filter_le (fun s : StepI => cmpV s.v v == 0) (L.take k)
          have c2k := List.length_filter_le (fun s : StepI => decide (0 ≤ cmpV s.v v) && decide (cmpV s.v w < 0)) (L.take k)
          rw [List.length_take] at c1k c2k
          intro J hJ
          have rs : ∀ g'', Ext [] g' g'' → Reads 10 encS g'' s L := fun g'' e'' => ((hos3.ext0 eg').ext0 e'').sl.reads
          have rv : ∀ g'', Ext [] g' g'' → Blk g'' h.size (cells4 v) T_api_Value := fun g'' e'' => ((eg3.trans0 eg').trans0 e'').get bv (by simp)
          have rw' : ∀ g'', Ext [] g' g'' → Blk g'' h1.size (cells4 w) T_api_Value := fun g'' e'' => ((eg3.trans0 eg').trans0 e'').get bw (by simp)
          refine atV (rs g' (Ext.refl _ _)) hkl ?_
          refine rdV (rv g' (Ext.refl _ _)) ?_
          refine CmpV_s L[k].v v fun g4 f4 => ⟨_, rfl, ?_⟩
          intro J2 hJ2
          have step2 : ∀ g5, Ext [] g' g5 → J2 [.int .i64 ((((L.take (k + 1)).filter fun s => cmpV s.v v == 0).length : Nat) : Int)] g5 := by
            intro g5 f5
            refine hJ2 _ _ ?_
            intro J3 hJ3
            have fin : ∀ b g6, Ext [] g' g6 → b = (decide (0 ≤ cmpV L[k].v v) && decide (cmpV L[k].v w < 0)) → J3 [.bool b] g6 := by
              intro b g6 f6 hb
              refine hJ3 _ _ ?_
              rw [← hb] at c2s
              cases b with
              | false =>
                rw [if_neg (by decide)]
                refine hJ _ _ _ ?_
                rw [wrap64 (x := (k : Int) + 1) (by omega) (by omega)]
                have := ih (k + 1) g6 (by omega) (eg'.trans0 f6)
                rw [c2s] at this
                simpa using this
              | true =>
                rw [if_pos rfl]
                refine atTid (rs g6 f6) hkl ?_
                have ou' := ((ou.ext0 eg').ext0 f6).sl.reads
                refine HasI_s ou' (by omega) ⟨_, rfl, ?_⟩
                have hc : (rangeP M v w).1.contains L[k].tid = true := by
                  rw [List.contains_iff_mem]
                  exact pr.symm.subset (List.mem_map.2 ⟨L[k], List.mem_filter.2 ⟨List.getElem_mem _, hb.symm⟩, rfl⟩)
                rw [hc, if_neg (by decide)]
                refine hJ _ _ _ ?_
                rw [wrap64 (x := (k : Int) + 1) (by omega) (by omega), wrap64 (by omega) (by omega)]
                have := ih (k + 1) g6 (by omega) (eg'.trans0 f6)
                rw [c2s] at this
                simpa using this
            refine atV (rs g5 f5) hkl ?_
            refine rdV (rv g5 f5) ?_
            refine CmpV_s L[k].v v fun g6 f6 => ⟨_, rfl, ?_⟩
            have f56 := f5.trans0 f6
            by_cases hge : 0 ≤ cmpV L[k].v v
            · rw [if_pos (by simpa using hge)]
              refine atV (rs g6 f56) hkl ?_
              refine rdV (rw' g6 f56) ?_
              refine CmpV_s L[k].v w fun g8 f8 => ⟨_, rfl, ?_⟩
              exact fin _ g8 (f56.trans0 f8) (by rw [decide_eq_true hge, Bool.true_and])
            · rw [if_neg (by simpa using hge)]
              exact fin false g6 f56 (by rw [decide_eq_false hge, Bool.false_and])
          by_cases h0 : cmpV L[k].v v = 0
          · rw [if_pos (by simp [h0])]
            refine atTid (rs g4 f4) hkl ?_
            have ot' := (((ot.ext0 f3).ext0 eg').ext0 f4).sl.reads
            refine HasI_s ot' (by omega) ⟨_, rfl, ?_⟩
            have hc : (findP M v).1.contains L[k].tid = true := by
              rw [List.contains_iff_mem]
              exact pf.symm.subset (List.mem_map.2 ⟨L[k], List.mem_filter.2 ⟨List.getElem_mem _, by simp [h0]⟩, rfl⟩)
            rw [hc, if_neg (by decide), wrap64 (by omega) (by omega)]
            have := step2 g4 f4
            rw [c1s, if_pos (by simp [h0])] at this
            simpa using this
          · rw [if_neg (by simpa using h0)]
            have := step2 g4 f4
            rw [c1s, if_neg (by simpa using h0)] at this
            simpa using this
      have := key2 L.length 0 g3 (by omega) (Ext.refl _ _)
      simpa using this
    | succ d ih =>
      intro i g M L s hi eg hxg ok hin hLi hos
      refine hX s (i : Int) g ?_
      rw [if_pos (by simp; omega)]
      have hil : i < xs.length := by omega
      have i15 : i < 2 ^ 15 := by omega
      have hsn := hos.1
      have hxi := hok _ (List.getElem_mem hil)
      intro J hJ
      refine atAll (ha.ext0 (e02.trans0 eg)) hil ?_
      refine keepI (st := xs[i]) fun g1 d1 bs => ?_
      have eg1 := eg.trans0 d1
      have gg1 := (hg.ext e02).ext eg1
      have sub := own_ltG hos
      have hx1 : Ix h2.size (fun b => b ∈ sBlk s ∨ b = g.size) g1 x M := hxg.grow d1 fun b hb => by
        have := blk_lt bs
        have := d1.sz
        rcases hb with q | q
        · exact ⟨Or.inl q, by have := (sub b q).2; omega⟩
        · exact ⟨Or.inr (by omega), by omega⟩
      have hos1 := hos.ext0 d1
      have sub1 := own_ltG hos1
      have nx := next_ok ok hin hxi.1 (s := xs[i])
      have hz1 := blk_lt bs
      have e2z := eg.sz
      refine ⟨_, rdSb bs 0, ?_⟩
      by_cases hk : xs[i].kind = 0
      · rw [if_pos (by simp [hk])]
        have n1 : (nextI M L xs[i]).1 = (addM M xs[i].v xs[i].tid).1 := by unfold nextI; rw [if_pos hk]
        have n2 : (nextI M L xs[i]).2 = if (addM M xs[i].v xs[i].tid).2.err = 0 then L ++ [xs[i]] else L := by unfold nextI; rw [if_pos hk]
        rw [n1, n2] at nx
        refine rdSv bs ?_
        refine ⟨_, rdSb bs 1, ?_⟩
        refine Add_i hx1 ok i15 (by have := e02.sz; omega) xs[i].v hxi.1 xs[i].tid gg1 fun g3 S hx3 d3 hS => ⟨_, _, _, _, rfl, ?_⟩
        have nS : ∀ b ∈ sBlk s, b ∉ S := fun b hb hm => (hS b hm).2 (Or.inl hb)
        have hos3 : Own T_liverylaw11_Step 10 encS h2.size g3 s L := hos1.ext d3 fun ad ha' hm => nS _ (mem_sBlk.2 ⟨ad, ha', rfl⟩) hm
        have bs3 := d3.get bs (fun hm => (hS _ hm).2 (Or.inr rfl))
        have eg3 : Ext [] h2 g3 := eg1.trans d3 fun b hb hlt => by have := (hS b hb).1; omega
        refine newI fun g4 z4 b4 d4 => st_blk b4 (by simp) fun g5 z5 b5 d5 => ?_
        have d35 : Ext [] g3 g5 := d4.trans d5 fun b hb hlt => by simp at hb; omega
        have hx5 := hx3.e0 d35
        have hos5 := hos3.ext0 d35
        have bs5 := d35.get bs3 (by simp)
        have eg5 := eg3.trans0 d35
        intro J2 hJ2
        by_cases he : (addM M xs[i].v xs[i].tid).2.err = 0
        · rw [if_pos (by simp [he])]
          rw [if_pos he] at nx
          refine rdSa bs5 ?_
          refine newI fun g6 z6 b6 d6 => ?_
          have b6' : Blk g6 g5.size (encS xs[i]).toArray T_liverylaw11_Step := b6
          have hos6 := hos5.ext0 d6
          have sub6 := own_ltG hos6
          have eg6 := eg5.trans0 d6
          refine oneG (k := xs[i]) encS_len encS_one zcStep (by decide) hos6 b6' (by omega) eg6.sz fun s' g7 o7 d7 hb7 => ?_
          refine hJ2 s' g7 ?_
          refine hJ s' g7 ?_
          rw [wrap64 (by omega) (by omega)]
          have hx6 := hx5.e0 d6
          have sub7 := own_ltG o7
          refine ih (i + 1) g7 _ _ s' (by omega) (eg6.trans d7 fun b hb hlt => by have := (sub6 b hb).1; omega) (hx6.growS d7 (fun b hb _ => Or.inl hb) fun b hb => ?_) nx.1 nx.2 (by simp; omega) o7
          exact ⟨(hb7 b hb).imp Or.inl id, (sub7 b hb).2⟩
        · rw [if_neg (by simpa using he)]
          rw [if_neg he] at nx
          refine hJ2 s g5 ?_
          refine hJ s g5 ?_
          rw [wrap64 (by omega) (by omega)]
          exact ih (i + 1) g5 _ _ s (by omega) eg5 (hx5.less fun b hb => Or.inl hb) nx.1 nx.2 (by omega) hos5
      · rw [if_neg (by simpa using hk)]
        have n1 : (nextI M L xs[i]).1 = (dropM M xs[i].v xs[i].tid).1 := by unfold nextI; rw [if_neg hk]
        have n2 : (nextI M L xs[i]).2 = L.filter (stayB xs[i]) := by unfold nextI; rw [if_neg hk]
        rw [n1, n2] at nx
        refine rdSv bs ?_
        refine ⟨_, rdSb bs 1, ?_⟩
        refine Drop_i hx1 ok i15 (by have := e02.sz; omega) xs[i].v hxi.1 xs[i].tid gg1 fun g3 S hx3 d3 hS => ⟨_, _, _, _, rfl, ?_⟩
        have nS : ∀ b ∈ sBlk s, b ∉ S := fun b hb hm => (hS b hm).2 (Or.inl hb)
        have hos3 : Own T_liverylaw11_Step 10 encS h2.size g3 s L := hos1.ext d3 fun ad ha' hm => nS _ (mem_sBlk.2 ⟨ad, ha', rfl⟩) hm
        have bs3 := d3.get bs (fun hm => (hS _ hm).2 (Or.inr rfl))
        have eg3 : Ext [] h2 g3 := eg1.trans d3 fun b hb hlt => by have := (hS b hb).1; omega
        have e3z := eg3.sz
        intro Y hY
        have key2 : ∀ d k g' t, d + k = L.length → Ext [] g3 g' → Own T_liverylaw11_Step 10 encS g3.size g' t ((L.take k).filter (stayB xs[i])) → Y [.slice t.a t.n t.c, .int .i64 (k : Int)] g' := by
          intro d
          induction d with
          | zero =>
            intro k g' t hk' eg' ot
            refine hY t (k : Int) g' ?_
            rw [if_neg (by simp; omega)]
            rw [List.take_of_length_le (by omega)] at ot
            refine hJ t g' ?_
            rw [wrap64 (by omega) (by omega)]
            have hfl := List.length_filter_le (stayB xs[i]) L
            have subt := own_ltG ot
            refine ih (i + 1) g' _ _ t (by omega) (eg3.trans0 eg') (hx3.growS eg' (by simp) fun b hb => ?_) nx.1 nx.2 (by omega) (ot.mono e3z)
            exact ⟨Or.inr (subt b hb).1, (subt b hb).2⟩
          | succ d ih2 =>
            intro k g' t hk' eg' ot
            have hkl : k < L.length := by omega
            refine hY t (k : Int) g' ?_
            rw [if_pos (by simp; omega)]
            have fs := flt_succ (stayB xs[i]) L hkl
            have htn := ot.1
            have hfl := List.length_filter_le (stayB xs[i]) (L.take k)
            rw [List.length_take] at hfl
            intro J3 hJ3 J4 hJ4
            have done : ∀ b g6, Ext [] g' g6 → b = stayB xs[i] L[k] → J4 [.bool b] g6 := by
              intro b g6 f6 hb
              refine hJ4 _ _ ?_
              rw [← hb] at fs
              have ot6 := ot.ext0 f6
              cases b with
              | false =>
                rw [if_neg (by decide)]
                refine hJ3 t g6 ?_
                rw [wrap64 (by omega) (by omega)]
                refine ih2 (k + 1) g6 t (by omega) (eg'.trans0 f6) ?_
                rw [fs]
                simpa using ot6
              | true =>
                rw [if_pos rfl]
                refine atAll ((hos3.ext0 (eg'.trans0 f6)).sl.reads) hkl ?_
                refine newI fun g7 z7 b7 d7 => ?_
                have b7' : Blk g7 g6.size (encS L[k]).toArray T_liverylaw11_Step := b7
                have ot7 := ot6.ext0 d7
                have sub7 := own_ltG ot7
                have eg7 := (eg'.trans0 f6).trans0 d7
                refine oneG (k := L[k]) encS_len encS_one zcStep (by decide) ot7 b7' (by omega) eg7.sz fun s' g8 o8 d8 hb8 => ?_
                refine hJ3 s' g8 ?_
                rw [wrap64 (by omega) (by omega)]
                refine ih2 (k + 1) g8 s' (by omega) (eg7.trans d8 fun b hb hlt => by have := (sub7 b hb).1; omega) ?_
                rw [fs]
                exact o8
            have hos' := (hos3.ext0 eg').sl.reads
            have bs' := eg'.get bs3 (by simp)
            refine atTid hos' hkl ?_
            refine ⟨_, rdSb bs' 1, ?_⟩
            by_cases ht : L[k].tid = xs[i].tid
            · rw [if_neg (by simp [ht])]
              refine rdSv bs' ?_
              refine GoodR_s xs[i].v fun g6 f6 => ⟨_, rfl, ?_⟩
              cases hgd : goodX xs[i].v with
              | false =>
                rw [if_pos (by rfl)]
                exact done true g6 f6 (by unfold stayB; rw [hgd]; simp)
              | true =>
                rw [if_neg (by decide)]
                refine atV (hos3.ext0 (eg'.trans0 f6)).sl.reads hkl ?_
                refine rdSv (f6.get bs' (by simp)) ?_
                refine CmpV_s L[k].v xs[i].v fun g8 f8 => ⟨_, rfl, ?_⟩
                refine done _ g8 (f6.trans0 f8) ?_
                unfold stayB
                rw [hgd, ht]
                simp [bne]
            · rw [if_pos (by simpa using ht)]
              refine done true g' (Ext.refl _ _) ?_
              unfold stayB
              rw [show (L[k].tid == xs[i].tid) = false by simpa using ht]
              rfl
        have := key2 L.length 0 g3 ⟨none, 0, 0⟩ (by omega) (Ext.refl _ _) (by simpa using Own.nil _ _)
        simpa using this
  have := key xs.length 0 h7 ⟨4, 2, [⟨1, ByteArray.mk #[], []⟩]⟩ [] ⟨none, 0, 0⟩ (by omega) e27 (hx4.growS ((e5.trans0 e6).trans0 e7) (by simp) (by simp [sBlk])) (new_ok (by decide)) (InI.new 4) (by simp) (Own.nil _ _)
  simpa using this
end
end Go.Lift

/- IndexPlays: true, whatever the input. -/
import Derived.Test.YtmlcjckocgnjfaaGreatDoorI11q
set_option linter.unusedSimpArgs false
set_option linter.unusedVariables false
namespace Go.Lift
open Go Go.Proofs Go.RowKit
set_option maxRecDepth 100000
section
variable {h : Hp} {Q : List Value → Hp → Prop}
theorem rdSw {b : Nat} {st : StepI} {T : TypeId} (hb : Blk h b (encS st).toArray T) {K : Int → Int → Nat → ByteArray → Prop} (H : K st.w.k st.w.n st.w.f st.w.s) :
    ∃ n37 : Int, rd h (Addr.add (Addr.add (Addr.mk b 0 none) 6) 0) = some (Value.int .i64 n37) ∧ ∃ n38 : Int, rd h (Addr.add (Addr.add (Addr.mk b 0 none) 6) 1) = some (Value.int .i64 n38) ∧ ∃ x39 : Nat, rd h (Addr.add (Addr.add (Addr.mk b 0 none) 6) 2) = some (Value.float .f64 x39) ∧ ∃ s40 : ByteArray, rd h (Addr.add (Addr.add (Addr.mk b 0 none) 6) 3) = some (Value.string s40) ∧ K n37 n38 x39 s40 :=
  ⟨_, by rw [addr_add_add]; exact rdSb hb 6, _, by rw [addr_add_add]; exact rdSb hb 7, _, by rw [addr_add_add]; exact rdSb hb 8, _, by rw [addr_add_add]; exact rdSb hb 9, H⟩
theorem NewBad {fan : Int} (hf : ¬ (2 ≤ fan ∧ fan ≤ 64)) (hQ : Q [.pointer none, .int .i64 1] h) : S_index_New fan h Q := by
  refine O_index_New _ ?_
  unfold F_index_New
  have hnew : ∀ (g : Hp) (Q : List Value → Hp → Prop), Q [.pointer none, .int .i64 1] g → S_leaf_New fan g Q := by
    intro g Q hq
    refine O_leaf_New _ ?_
    unfold F_leaf_New
    intro J hJ
    by_cases h2 : fan < 2
    · rw [if_pos (by simp; omega)]
      refine hJ _ _ ?_
      rw [if_pos rfl]
      exact hq
    · rw [if_neg (by simp; omega)]
      refine hJ _ _ ?_
      rw [if_pos (by simp; omega)]
      exact hq
  refine hnew _ _ ⟨_, _, rfl, ?_⟩
  rw [if_pos (by decide)]
  exact hQ
theorem NewRBad {fan : Int} (hf : ¬ (2 ≤ fan ∧ fan ≤ 64)) (hQ : Q [.pointer none, .int .i64 1] h) : S_liveryref11_New fan h Q := by
  refine O_liveryref11_New _ ?_
  unfold F_liveryref11_New
  have hnewR : ∀ (g : Hp) (Q : List Value → Hp → Prop), Q [.pointer none, .int .i64 1] g → S_liveryref10_New fan g Q := by
    intro g Q hq
    refine O_liveryref10_New _ ?_
    unfold F_liveryref10_New
    intro J hJ
    by_cases h2 : fan < 2
    · rw [if_pos (by simp; omega)]
      refine hJ _ _ ?_
      rw [if_pos rfl]
      exact hq
    · rw [if_neg (by simp; omega)]
      refine hJ _ _ ?_
      rw [if_pos (by simp; omega)]
      exact hq
  refine hnewR _ _ ⟨_, _, rfl, ?_⟩
  rw [if_pos (by decide)]
  exact hQ
theorem IndexPlays_s {fan : Int} {a : Sl} {xs : List StepI} (ha : Reads 10 encS h a xs) (hlen : xs.length ≤ 9223372036854775807) (hok : ∀ s ∈ xs, (VOk s.v ∧ VOk s.w) ∧ -9223372036854775808 ≤ s.tid ∧ s.tid < 9223372036854775808) (hg : GM h) (hQ : ∀ h', Ext [] h h' → Q [.bool true] h') :
    F_liverylaw11_IndexPlays fan a h Q := by
  unfold F_liverylaw11_IndexPlays
  have g2 := hg.two
  have han := ha.1
  by_cases hf : 2 ≤ fan ∧ fan ≤ 64
  · refine New_i hf fun h1 x hx1 e1 => ⟨_, _, rfl, ?_⟩
    refine NewB hf hx1 fun h2 q hb2 e2 => ⟨_, _, rfl, ?_⟩
    have e02 := e1.trans0 e2
    intro J9 hJ9
    rw [if_neg (by decide)]
    refine hJ9 _ _ ?_
    rw [if_neg (by simp)]
    intro J12 hJ12
    rw [if_neg (by simp)]
    refine fair_i (ha.ext0 e02) hlen fun h3 e3 => ⟨_, rfl, ?_⟩
    have e03 := e02.trans0 e3
    cases hfa : fairI xs with
    | false =>
      refine hJ12 _ _ ?_
      rw [if_pos (by decide)]
      exact wakes_i (hg.ext e03) fun g' e' => ⟨_, rfl, hQ g' (e03.trans0 e')⟩
    | true =>
    have hl150 := fairI_len hfa
    refine hJ12 _ _ ?_
    rw [if_neg (by decide)]
    intro X hX
    have key : ∀ d i g M L, d + i = xs.length → Bo h.size (fun _ => False) g x q M M → Ext [] h g → OkM M (2 * i) → InI M L → L.length ≤ 2 * i → X [.int .i64 (i : Int)] g := by
      intro d
      induction d with
      | zero =>
        intro i g M L hi hb eg ok hin hLi
        refine hX (i : Int) g ?_
        rw [if_neg (by simp; omega)]
        exact wakes_i (hg.ext eg) fun g' e' => ⟨_, rfl, hQ g' (eg.trans0 e')⟩
      | succ d ih =>
        intro i g M L hi hb eg ok hin hLi
        refine hX (i : Int) g ?_
        rw [if_pos (by simp; omega)]
        have hil : i < xs.length := by omega
        have hxi := hok _ (List.getElem_mem hil)
        refine atAll (ha.ext0 eg) hil ?_
        refine keepI (st := xs[i]) fun g1 d1 bs => ?_
        have eg1 := eg.trans0 d1
        have hlo := eg.sz
        have hbs := blk_lt bs
        have hb1 : Bo h.size (fun b => b = g.size) g1 x q M M := hb.grow d1 fun b hb => ⟨Or.inr (by omega), by omega⟩
        refine ⟨_, rdSb bs 0, ?_⟩
        intro J35 hJ35
        have e35 : ∀ g3 M3 L3, Bo h.size (fun b => b = g.size) g3 x q M3 M3 → Blk g3 g.size (encS xs[i]).toArray T_liverylaw11_Step → Ext [] h g3 → OkM M3 (2 * i + 1) → InI M3 L3 → L3.length ≤ 2 * i + 1 → J35 [] g3 := by
          intro g3 M3 L3 hb3 bs3 eg3 ok3 in3 l3
          refine hJ35 _ ?_
          refine ⟨_, rdSb bs3 0, ?_⟩
          intro J38 hJ38
          have look : ∀ g4 M4 L4, Bo h.size (fun b => b = g.size) g4 x q M4 M4 → Blk g4 g.size (encS xs[i]).toArray T_liverylaw11_Step → Ext [] h g4 → OkM M4 (2 * i + 2) → InI M4 L4 → L4.length ≤ 2 * i + 2 → J38 [] g4 := by
            intro g4 M4 L4 hb4 bs4 eg4 ok4 in4 l4
            refine hJ38 _ ?_
            have n15 : 2 * i + 2 < 2 ^ 15 := by omega
            have km := in4.km (by omega)
            have ke := in4.ke
            obtain ⟨v, hv⟩ : ∃ v, xs[i].v = v := ⟨_, rfl⟩
            obtain ⟨w, hw⟩ : ∃ w, xs[i].w = w := ⟨_, rfl⟩
            have ov : VOk v := hv ▸ hxi.1.1
            have ow : VOk w := hw ▸ hxi.1.2
            refine rdSv bs4 ?_
            rw [hv]
            obtain ⟨G4, hx4⟩ := hb4.ix
            refine Find_i hx4 ok4 n15 km v ov (hg.ext eg4) fun g5 st sn hx5 d5 ot on => ⟨st, sn, rfl, ?_⟩
            refine rdSv (d5.get bs4 (by simp)) ?_
            rw [hv]
            refine findRB (hb4.e0 d5) ok4 n15 ke km ov fun g6 rt rn d6 pt pn => ⟨rt, rn, rfl, ?_⟩
            have d46 := d5.trans0 d6
            refine newI fun g7 z7 b7 d7 => st_blk b7 (by simp) fun g8 z8 b8 d8 => ?_
            have b8' : Blk g8 g6.size #[.slice rt.a rt.n rt.c, .slice rn.a rn.n rn.c] T_liveryref11_Span := b8
            have d68 : Ext [] g6 g8 := d7.trans d8 fun b hb hlt => by simp at hb; omega
            have d48 := d46.trans0 d68
            have bs8 := d48.get bs4 (by simp)
            refine rdSv bs8 ?_
            refine rdSw bs8 ?_
            rw [hv, hw]
            refine Range_i (hx4.e0 d48) ok4 n15 km v w ov ow ((hg.ext eg4).ext d48) fun g9 su sm hx9 d9 ou om => ⟨su, sm, rfl, ?_⟩
            have d49 := d48.trans0 d9
            have bs9 := d49.get bs4 (by simp)
            refine rdSv bs9 ?_
            refine rdSw bs9 ?_
            rw [hv, hw]
            refine rangeRB (hb4.e0 d49) ok4 n15 ke km ov ow fun g10 ru rm d10 pu pm => ⟨ru, rm, rfl, ?_⟩
            refine newI fun g11 z11 b11 d11 => st_blk b11 (by simp) fun g12 z12 b12 d12 => ?_
            have b12' : Blk g12 g10.size #[.slice ru.a ru.n ru.c, .slice rm.a rm.n rm.c] T_liveryref11_Span := b12
            have d1012 : Ext [] g10 g12 := d11.trans d12 fun b hb hlt => by simp at hb; omega
            have d912 := d10.trans0 d1012
            have d812 := d9.trans0 d912
            have d612 := d68.trans0 d812
            have d412 := d48.trans0 d812
            have b8k := d812.get b8' (by simp)
            intro J84 hJ84
            have lenF : (findP M4 v).1.length < 2 ^ 60 ∧ (findP M4 v).2.length < 2 ^ 60 := by
              have h1 := ot.1
              have h2 := on.1
              have hm := ok4.len
              unfold findP
              split
              · have h3 := List.length_filterMap_le entP (M4.rng (entryP v 0).1 (afterP v).1).1
                have h4 := (km (entryP v 0).1 (afterP v).1).2
                refine ⟨?_, ?_⟩
                · show (tidsL _).length < _
                  unfold tidsL
                  omega
                · simp only
                  unfold LeafM.rng
                  split
                  · simp
                  · simp only [List.length_map]
                    unfold partL
                    simp
                    omega
              · simp
            have lenR : (rangeP M4 v w).1.length < 2 ^ 60 ∧ (rangeP M4 v w).2.length < 2 ^ 60 := by
              have hm := ok4.len
              unfold rangeP
              split
              · have h3 := List.length_filterMap_le entP (M4.rng (entryP v 0).1 (entryP w 0).1).1
                have h4 := (km (entryP v 0).1 (entryP w 0).1).2
                refine ⟨?_, ?_⟩
                · show (tidsL _).length < _
                  unfold tidsL
                  omega
                · simp only
                  unfold LeafM.rng
                  split
                  · simp
                  · simp only [List.length_map]
                    unfold partL
                    simp
                    omega
              · simp
            refine ⟨rt, by rw [addr_mk, rd_blk b8k]; rfl, ?_⟩
            refine Ints_s ((ot.ext0 d6).ext0 d612).sl.reads (pt.ext0 d612).sl.reads lenF.1 ⟨_, rfl, ?_⟩
            rw [if_neg (by simp)]
            refine ⟨rn, by rw [addr_mk, rd_blk b8k]; rfl, ?_⟩
            refine Ints_s ((on.ext0 d6).ext0 d612).sl.reads (pn.ext0 d612).sl.reads lenF.2 ⟨_, rfl, ?_⟩
            rw [if_neg (by simp)]
            refine ⟨ru, by rw [addr_mk, rd_blk b12']; rfl, ?_⟩
            refine Ints_s (ou.ext0 d912).sl.reads (pu.ext0 d1012).sl.reads lenR.1 ⟨_, rfl, ?_⟩
            rw [if_neg (by simp)]
            refine ⟨rm, by rw [addr_mk, rd_blk b12']; rfl, ?_⟩
            refine Ints_s (om.ext0 d912).sl.reads (pm.ext0 d1012).sl.reads lenR.2 ⟨_, rfl, ?_⟩
            rw [if_neg (by simp)]
            have bs12 := d412.get bs4 (by simp)
            refine rdSv bs12 ?_
            refine ⟨_, rdSb bs12 1, ?_⟩
            refine rdSv bs12 ?_
            refine ⟨_, rdSb bs12 1, ?_⟩
            obtain ⟨t, ht⟩ : ∃ t, xs[i].tid = t := ⟨_, rfl⟩
            have htb : -9223372036854775808 ≤ t ∧ t < 9223372036854775808 := ht ▸ hxi.2
            rw [hv, ht]
            refine Has_i (hx4.e0 d412) ok4 n15 v ov t ((hg.ext eg4).ext d412) fun g13 d13 => ⟨_, rfl, ?_⟩
            have bs13 := d13.get bs12 (by simp)
            refine ⟨by rw [← ht]; exact rdSb bs13 1, by rw [← hv, addr_add_add]; exact rdSb bs13 2, by rw [← hv, addr_add_add]; exact rdSb bs13 3, by rw [← hv, addr_add_add]; exact rdSb bs13 4, by rw [← hv, addr_add_add]; exact rdSb bs13 5, ?_⟩
            have d413 := d412.trans0 d13
            refine hasRB (hb4.e0 d413) ok4 n15 ov htb fun g14 d14 => ⟨_, rfl, ?_⟩
            rw [if_neg (by simp)]
            have d414 := d413.trans0 d14
            have hb14 := hb4.e0 d414
            have hb14' := hb14
            obtain ⟨r, ls, R, hr, bq, hl, n1, n2, n3, hx14⟩ := hb14
            rw [nilW_some]
            refine ⟨some ⟨r, 0, none⟩, by simp [rd_blk bq], ?_⟩
            refine Len_i hx14 ok4 n15 ⟨_, rfl, by simp [rd_blk bq], ?_⟩
            have hm := ok4.len
            have hord := ok4.ord
            refine LenR_s hr (by omega) (fun o ho => by have := (hord o ho).2; omega) ⟨_, rfl, ?_⟩
            rw [if_neg (by simp)]
            rw [nilW_some]
            refine ⟨some ⟨r, 0, none⟩, by simp [rd_blk bq], ?_⟩
            refine Leaves_i hx14 ok4 n15 fun g15 sa hx15 d15 oa => ⟨sa, rfl, by simp [rd_blk (d15.get bq (by simp))], ?_⟩
            refine AllR_s (hr.ext0 d15) (by omega) fun g16 sb d16 ob => ⟨sb, rfl, ?_⟩
            refine Ints_s (oa.ext0 d16).sl.reads ob.sl.reads (by simp; omega) ⟨_, rfl, ?_⟩
            refine hJ84 _ _ ?_
            rw [if_neg (by simp), wrap64 (by omega) (by omega)]
            have d416 := (d414.trans0 d15).trans0 d16
            exact ih (i + 1) g16 M4 L4 (by omega) ((hb4.e0 d416).less fun b hb => hb.elim) (eg4.trans0 d416) ok4 in4 (by omega)
          by_cases hk : xs[i].kind = 1
          · rw [if_pos (by simp [hk])]
            have nx := next_ok ok3 in3 hxi.1.1 (s := xs[i])
            have nl := next_len (M := M3) (L := L3) xs[i]
            have n1 : (nextI M3 L3 xs[i]).1 = (dropM M3 xs[i].v xs[i].tid).1 := by unfold nextI; rw [if_neg (by omega)]
            rw [n1] at nx
            refine rdSv bs3 ?_
            refine ⟨_, rdSb bs3 1, ?_⟩
            refine dropB hb3 ok3 (by omega) (by omega) xs[i].v hxi.1.1 xs[i].tid (hg.ext eg3) fun g5 S hb5 d5 hS => ⟨_, _, _, _, rfl, ?_⟩
            have bs5 := d5.get bs3 (fun hm => (hS _ hm).2 rfl)
            have eg5 : Ext [] h g5 := eg3.trans d5 fun b hb hlt => by have := (hS b hb).1; omega
            refine newI fun g6 z6 b6 d6 => st_blk b6 (by simp) fun g7 z7 b7 d7 => ?_
            have d57 : Ext [] g5 g7 := d6.trans d7 fun b hb hlt => by simp at hb; omega
            have b7' : Blk g7 g5.size #[.int .i64 (dropM M3 xs[i].v xs[i].tid).2.mf, .int .i64 (dropM M3 xs[i].v xs[i].tid).2.mt] T_leaf_Move := b7
            have bs7 := d57.get bs5 (by simp)
            refine rdSv bs7 ?_
            refine ⟨_, rdSb bs7 1, ?_⟩
            have hz5 := blk_lt bs5
            have hz57 := d57.sz
            have hb7 : Bo h.size (fun b => b = g.size ∨ b = g5.size) g7 x q M3 (dropM M3 xs[i].v xs[i].tid).1 := hb5.grow d57 fun b hb => by
              rcases hb with k | k
              · exact ⟨Or.inl k, by omega⟩
              · exact ⟨Or.inr (by omega), by omega⟩
            refine dropRB hb7 ok3 (by omega) hxi.1.1 hxi.2 fun g8 S8 hb8 d8 hS8 => ⟨_, _, _, _, rfl, ?_⟩
            have bs8 := d8.get bs7 (fun hm => (hS8 _ hm).2 (Or.inl rfl))
            have b8m := d8.get b7' (fun hm => (hS8 _ hm).2 (Or.inr rfl))
            have eg8 : Ext [] h g8 := (eg5.trans0 d57).trans d8 fun b hb hlt => by have := (hS8 b hb).1; omega
            refine newI fun g9 z9 b9 d9 => st_blk b9 (by simp) fun g10 z10 b10 d10 => ?_
            have d810 : Ext [] g8 g10 := d9.trans d10 fun b hb hlt => by simp at hb; omega
            have b10' : Blk g10 g8.size #[.int .i64 (dropM M3 xs[i].v xs[i].tid).2.leaf, .int .i64 (dropM M3 xs[i].v xs[i].tid).2.mf, .int .i64 (dropM M3 xs[i].v xs[i].tid).2.mt, .int .i64 (dropM M3 xs[i].v xs[i].tid).2.err] T_liveryref10_Did := b10
            have b10m := d810.get b8m (by simp)
            intro J hJ
            refine ⟨_, by rw [addr_mk, rd_blk b10']; rfl, ?_⟩
            rw [if_neg (by simp)]
            refine ⟨_, by rw [addr_mk, rd_blk b10m]; rfl, _, by rw [addr_mk, rd_blk b10']; rfl, ?_⟩
            rw [if_neg (by simp)]
            refine ⟨_, by rw [addr_mk, rd_blk b10m]; rfl, _, by rw [addr_mk, rd_blk b10']; rfl, ?_⟩
            rw [if_neg (by simp)]
            refine ⟨_, by rw [addr_mk, rd_blk b10']; rfl, ?_⟩
            refine hJ _ _ ?_
            rw [if_neg (by simp)]
            exact look g10 _ _ ((hb8.e0 d810).less fun b hb => Or.inl hb) (d810.get bs8 (by simp)) (eg8.trans0 d810) nx.1 nx.2 (by omega)
          · rw [if_neg (by simpa using hk)]
            exact look g3 M3 L3 hb3 bs3 eg3 ok3.up in3 (by omega)
        by_cases hk : xs[i].kind = 0
        · rw [if_pos (by simp [hk])]
          have nx := next_ok ok hin hxi.1.1 (s := xs[i])
          have nl := next_len (M := M) (L := L) xs[i]
          have n1 : (nextI M L xs[i]).1 = (addM M xs[i].v xs[i].tid).1 := by unfold nextI; rw [if_pos hk]
          rw [n1] at nx
          refine rdSv bs ?_
          refine ⟨_, rdSb bs 1, ?_⟩
          refine addB hb1 ok (by omega) (by omega) xs[i].v hxi.1.1 xs[i].tid (hg.ext eg1) fun g5 S hb5 d5 hS => ⟨_, _, _, _, rfl, ?_⟩
          have bs5 := d5.get bs (fun hm => (hS _ hm).2 rfl)
          have eg5 : Ext [] h g5 := eg1.trans d5 fun b hb hlt => by have := (hS b hb).1; omega
          refine newI fun g6 z6 b6 d6 => st_blk b6 (by simp) fun g7 z7 b7 d7 => ?_
          have d57 : Ext [] g5 g7 := d6.trans d7 fun b hb hlt => by simp at hb; omega
          have b7' : Blk g7 g5.size #[.int .i64 (addM M xs[i].v xs[i].tid).2.mf, .int .i64 (addM M xs[i].v xs[i].tid).2.mt] T_leaf_Move := b7
          have bs7 := d57.get bs5 (by simp)
          refine rdSv bs7 ?_
          refine ⟨_, rdSb bs7 1, ?_⟩
          have hz5 := blk_lt bs5
          have hz57 := d57.sz
          have hb7 : Bo h.size (fun b => b = g.size ∨ b = g5.size) g7 x q M (addM M xs[i].v xs[i].tid).1 := hb5.grow d57 fun b hb => by
            rcases hb with k | k
            · exact ⟨Or.inl k, by omega⟩
            · exact ⟨Or.inr (by omega), by omega⟩
          refine addRB hb7 ok (by omega) hxi.1.1 hxi.2 fun g8 S8 hb8 d8 hS8 => ⟨_, _, _, _, rfl, ?_⟩
          have bs8 := d8.get bs7 (fun hm => (hS8 _ hm).2 (Or.inl rfl))
          have b8m := d8.get b7' (fun hm => (hS8 _ hm).2 (Or.inr rfl))
          have eg8 : Ext [] h g8 := (eg5.trans0 d57).trans d8 fun b hb hlt => by have := (hS8 b hb).1; omega
          refine newI fun g9 z9 b9 d9 => st_blk b9 (by simp) fun g10 z10 b10 d10 => ?_
          have d810 : Ext [] g8 g10 := d9.trans d10 fun b hb hlt => by simp at hb; omega
          have b10' : Blk g10 g8.size #[.int .i64 (addM M xs[i].v xs[i].tid).2.leaf, .int .i64 (addM M xs[i].v xs[i].tid).2.mf, .int .i64 (addM M xs[i].v xs[i].tid).2.mt, .int .i64 (addM M xs[i].v xs[i].tid).2.err] T_liveryref10_Did := b10
          have b10m := d810.get b8m (by simp)
          intro J hJ
          refine ⟨_, by rw [addr_mk, rd_blk b10']; rfl, ?_⟩
          rw [if_neg (by simp)]
          refine ⟨_, by rw [addr_mk, rd_blk b10m]; rfl, _, by rw [addr_mk, rd_blk b10']; rfl, ?_⟩
          rw [if_neg (by simp)]
          refine ⟨_, by rw [addr_mk, rd_blk b10m]; rfl, _, by rw [addr_mk, rd_blk b10']; rfl, ?_⟩
          rw [if_neg (by simp)]
          refine ⟨_, by rw [addr_mk, rd_blk b10']; rfl, ?_⟩
          refine hJ _ _ ?_
          rw [if_neg (by simp)]
          exact e35 g10 _ _ ((hb8.e0 d810).less fun b hb => Or.inl hb) (d810.get bs8 (by simp)) (eg8.trans0 d810) nx.1 nx.2 (by omega)
        · rw [if_neg (by simpa using hk)]
          exact e35 g1 M L hb1 bs eg1 ok.up hin (by omega)
    have := key xs.length 0 h3 ⟨fan, 2, [⟨1, ByteArray.mk #[], []⟩]⟩ [] (by omega) (hb2.e0 e3) e03 (new_ok hf) (InI.new fan) (by simp)
    simpa using this
  · refine NewBad hf ⟨_, _, rfl, ?_⟩
    refine NewRBad hf ⟨_, _, rfl, ?_⟩
    intro J9 hJ9
    rw [if_neg (by decide)]
    refine hJ9 _ _ ?_
    rw [if_neg (by decide)]
    intro J12 hJ12
    rw [if_pos (by decide)]
    refine hJ12 _ _ ?_
    rw [if_pos rfl]
    exact wakes_i hg fun h3 e3 => ⟨_, rfl, hQ h3 e3⟩
end
end Go.Lift

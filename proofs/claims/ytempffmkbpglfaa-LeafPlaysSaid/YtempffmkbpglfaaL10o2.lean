/- The reference's leaves: Insert, the walk. -/
import Derived.Test.YtempffmkbpglfaaL10o
set_option linter.unusedSimpArgs false
set_option linter.unusedVariables false
namespace Go.Lift
open Go Go.Proofs
set_option maxRecDepth 100000
section
variable {lo n : Nat} {h h' : Hp} {q : Nat} {M : LeafM} {ls : Sl} {R : List RC} {Q : List Value → Hp → Prop}
theorem InsertR_s (hr : RefAt lo h q M ls R) (ok : OkM M n) (hn : n < 2 ^ 15) (hlo : lo ≤ h.size) (k : ByteArray)
    (hQ : ∀ h' ls' R' S, RefAt lo h' q (M.ins k).1 ls' R' → Ext S h h' → (∀ b ∈ S, RFp q ls R b) → (∀ b, RFp q ls' R' b → RFp q ls R b ∨ h.size ≤ b) →
      Q [.agg #[.int .i64 (M.ins k).2.leaf, .int .i64 (M.ins k).2.mf, .int .i64 (M.ins k).2.mt, .int .i64 (M.ins k).2.err]] h') : S_liveryref10_Leaves_Insert (some ⟨q, 0, none⟩) k h Q := by
  refine O_liveryref10_Leaves_Insert _ _ ?_
  unfold F_liveryref10_Leaves_Insert
  have hMl := ok.len
  have hnx := ok.nx
  have hfan := ok.fan
  refine newI fun h1 s1 b1 e1 => ?_
  have hr1 := hr.ext0 e1
  have early : ∀ e : Int, (M.ins k) = (M, ⟨0, 0, 0, e⟩) → (stOk h1 ⟨h.size, 0, none⟩ 4 ∧ wth (wrs h1 ⟨h.size, 0, none⟩ 0 [.int .i64 0, .int .i64 0, .int .i64 0, .int .i64 e]) fun h2 =>
      ∃ n3 : Int, rd h2 (Addr.add ⟨h.size, 0, none⟩ 0) = some (.int .i64 n3) ∧ ∃ n4 : Int, rd h2 (Addr.add ⟨h.size, 0, none⟩ 1) = some (.int .i64 n4) ∧ ∃ n5 : Int, rd h2 (Addr.add ⟨h.size, 0, none⟩ 2) = some (.int .i64 n5) ∧ ∃ n6 : Int, rd h2 (Addr.add ⟨h.size, 0, none⟩ 3) = some (.int .i64 n6) ∧ Q [.agg #[.int .i64 n3, .int .i64 n4, .int .i64 n5, .int .i64 n6]] h2) := by
    intro e he
    refine st_blk b1 (by simp) fun h2 s2 b2 e2 => ?_
    have e12 : Ext [] h h2 := e1.trans e2 (by intro b hb hlt; simp at hb; omega)
    refine ⟨_, by simp [rd_blk b2]; rfl, _, by simp [rd_blk b2]; rfl, _, by simp [rd_blk b2]; rfl, _, by simp [rd_blk b2]; rfl, ?_⟩
    have := hQ h2 ls R [] (by rw [he]; exact hr.ext0 e12) e12 (by simp) (fun b hb => Or.inl hb)
    rw [he] at this
    exact this
  by_cases hk : k.size > 1024
  · rw [if_pos (by simp; omega)]
    exact early 2 (by unfold LeafM.ins; rw [if_pos hk])
  rw [if_neg (by simp; omega)]
  have hlt := atL_lt ok.ne k
  have hins := ins_eq hk hlt
  unfold LeafM.insAt at hins
  refine HasR_s hr1 ok.wf ok.ne k (by omega) (fun o ho => by have := (ok.ord o ho).2; omega) ⟨_, rfl, ?_⟩
  cases hh : hasK (M.l[atL M.l k]).keys k with
  | true =>
    rw [if_pos rfl]
    rw [hh, if_pos rfl] at hins
    exact early 62 hins
  | false =>
  rw [if_neg (by decide)]
  rw [hh, if_neg (by decide)] at hins
  refine atR_s hr1 ok.wf ok.ne k (by omega) ⟨_, rfl, ?_⟩
  obtain ⟨n1, n2⟩ := ref_len hr
  have hiR : atL M.l k < R.length := by omega
  obtain ⟨_, m1, m2, m3, m4⟩ := ref_at hr hiR
  simp only [nilW_some, addr_mk, rd_blk hr1.blk]
  refine ⟨ls, rfl, ?_⟩
  obtain ⟨a, w1, w2, w3, w4, w5⟩ := rdR hr1.own hiR
  rw [w1]
  simp only [nilW_some, Int.toNat_natCast]
  refine ⟨by omega, by omega, R[atL M.l k].ks, w5, ?_⟩
  have hk1 := hr1.keys _ (List.getElem_mem hiR)
  rw [m2] at hk1
  have hor := ok.ord _ (List.getElem_mem hlt)
  have hkn := hk1.1
  have hkl := ok.keys _ (List.getElem_mem hlt)
  have hpl : posK (M.l[atL M.l k]).keys k ≤ (M.l[atL M.l k]).keys.length := (List.takeWhile_sublist _).length_le
  intro X hX
  have hK := putK_len (M.l[atL M.l k]).keys k
  have hps := posK_spec hor.1 k
  have exit : ∀ p : Nat, p = posK (M.l[atL M.l k]).keys k → X [.int .i64 (p : Int)] h1 := by
    intro p hp
    refine hX _ _ ?_
    intro J hJ
    have go : J [.bool false] h1 := by
      refine hJ _ _ ?_
      rw [if_neg (by decide)]
      intro J28 hJ28
      have fin28 : ∀ g l', Ext [] h1 g → Own T_string 1 encB h1.size g l' (putK (M.l[atL M.l k]).keys k) → J28 [.slice l'.a l'.n l'.c] g := by
        intro g l' eg hl'
        refine hJ28 l' _ ?_
        have hr2 := hr1.ext0 eg
        have hlst := own_lt hr.own
        have hqh : q < h.size := blk_lt hr.blk
        have zg := eg.sz
        simp only [nilW_some, addr_mk, rd_blk hr2.blk]
        refine ⟨ls, rfl, ?_⟩
        rw [w1]
        simp only [nilW_some, Int.toNat_natCast]
        obtain ⟨a', w1', x2, x3, x4, x5⟩ := rdR hr2.own hiR
        obtain rfl : a' = a := by rw [w1] at w1'; exact (Option.some.inj w1').symm
        refine ⟨by omega, by omega, _, x2, ?_⟩
        rw [m1]
        refine varI rfl rfl fun g1 t1 d1 f1 => ?_
        have hr3 := hr2.ext0 f1
        have v1 := f1.get (eg.get b1 (by simp)) (by simp)
        have hl1 := hl'.ext0 f1
        have hln := hl1.1
        simp only [rd_blk hr3.blk]
        refine ⟨M.fan, by simp, ?_⟩
        by_cases hle : ((putK (M.l[atL M.l k]).keys k).length : Int) ≤ M.fan
        · rw [if_pos (by simp; omega)]
          rw [if_pos hle] at hins
          refine ⟨ls, by simp, ?_⟩
          rw [w1]
          simp only [nilW_some]
          refine ⟨by omega, by omega, ?_⟩
          refine setF2 (x := ⟨l', R[atL M.l k].op, { R[atL M.l k].m with keys := putK (M.l[atL M.l k]).keys k }⟩) hr3.own w1 encR_len hiR (by decide) (by
            intro c hc
            rcases (by omega : c = 0 ∨ c = 1 ∨ c = 2 ∨ c = 3) with rfl | rfl | rfl | rfl <;> rfl) fun g2 ho2 f2 t2 => ?_
          have d2 := f2.get d1 (fun hm => by have := hlst _ hm; omega)
          have v2 := f2.get v1 (fun hm => by have := hlst _ hm; omega)
          have hr4 := hr3.setK (hi2 := hlt) hiR f2 ho2 (hl1.extT f2 (hr3.own.other (by decide)) |>.mono (by omega))
          refine ⟨_, by simp [rd_blk d2]; rfl, _, by simp [rd_blk d2]; rfl, _, by simp [rd_blk d2]; rfl, _, by simp [rd_blk d2]; rfl, ?_⟩
          refine st_blk v2 (by simp) fun g3 t3 v3 f3 => ?_
          refine ⟨_, by simp [rd_blk v3]; rfl, _, by simp [rd_blk v3]; rfl, _, by simp [rd_blk v3]; rfl, _, by simp [rd_blk v3]; rfl, ?_⟩
          have hfp : ∀ b, RFp q ls (R.set (atL M.l k) ⟨l', R[atL M.l k].op, { R[atL M.l k].m with keys := putK (M.l[atL M.l k]).keys k }⟩) b → RFp q ls R b ∨ h1.size ≤ b := by
            intro b hb
            rcases hb with g | g | ⟨r, hm, g⟩
            · exact Or.inl (Or.inl g)
            · exact Or.inl (Or.inr (Or.inl g))
            · rcases List.mem_or_eq_of_mem_set hm with g4 | g4
              · exact Or.inl (Or.inr (Or.inr ⟨r, g4, g⟩))
              · subst g4; exact Or.inr (hl'.blk b g)
          have hr5 := hr4.extF f3 (fun b hb hm => by
            simp at hm
            rcases hfp b hb with g | g
            · have := rfp_lt hr g; omega
            · omega)
          have hq := hQ g3 ls _ (sBlk ls) (by rw [hins]; exact hr5) ((((e1.trans0 eg).trans0 f1).mono (by simp)).trans f2 (fun b hb _ => hb) |>.trans f3 (by intro b hb hlt; simp at hb; omega)) (fun b hb => Or.inr (Or.inl hb)) (fun b hb => (hfp b hb).imp id fun g => by omega)
          rw [hins] at hq
          exact hq
        · rw [if_neg (by simp; omega)]
          rw [if_neg hle] at hins
          have hcut : IntKind.wrap .i64 (Int.tdiv (IntKind.wrap .i64 ((l'.n : Int) + 1)) 2) = ((((putK (M.l[atL M.l k]).keys k).length + 1) / 2 : Nat) : Int) := by
            rw [wrap64 (x := (l'.n : Int) + 1) (by omega) (by omega), Int.tdiv_eq_ediv_of_nonneg (by omega), wrap64 (by omega) (by omega)]
            omega
          rw [hcut]
          have hcl : ((putK (M.l[atL M.l k]).keys k).length + 1) / 2 < (putK (M.l[atL M.l k]).keys k).length := by omega
          have hpk := hp
          generalize hcd : ((putK (M.l[atL M.l k]).keys k).length + 1) / 2 = cut at *
          refine ⟨by decide, ?_⟩
          intro J52 hJ52
          have zg1 := f1.sz
          have hcap' := hl1.cap
          have fin52 : ∀ g2 sz bz, Ext [] g1 g2 → Blk g2 bz #[.int .i64 M.next, .bool false, .string ((putK (M.l[atL M.l k]).keys k)[cut]), .slice sz.a sz.n sz.c] T_liveryref10_Leaf → g1.size ≤ bz → Own T_string 1 encB g1.size g2 sz ((putK (M.l[atL M.l k]).keys k).drop cut) → J52 [.pointer (some ⟨bz, 0, none⟩)] g2 := by
            intro g2 sz bz f2 hbz hbg hsz
            refine hJ52 _ _ ?_
            have hr4 := hr3.ext0 f2
            have zz2 := f2.sz
            have hbz2 := blk_lt hbz
            simp only [rd_blk hr4.blk]
            refine ⟨M.next, by simp, ?_⟩
            rw [wrap64 (x := M.next + 1) (by omega) (by omega)]
            refine st_blk hr4.blk (by simp) fun g3 t3 c3 f3 => ?_
            have d2 := f2.get d1 (by simp)
            have v2 := f2.get v1 (by simp)
            have d3 := f3.get d2 (by simp; omega)
            have v3 := f3.get v2 (by simp; omega)
            have z3 := f3.get hbz (by simp; omega)
            refine ⟨(M.l[atL M.l k]).n, by simp [rd_blk d3], M.next, by simp [rd_blk z3], ?_⟩
            have hqo : ∀ T, T_liveryref10_Leaves ≠ T → Other T g2 [q] := fun T hT b hb c fz => by simp at hb; subst hb; exact other_blk hr4.blk hT c fz
            have hr5 : RefAt lo g3 q { M with next := M.next + 1 } ls R := ⟨by simpa using c3, hr4.le, hr4.own.extT f3 (hqo _ (by decide)), fun r hm => (hr4.keys r hm).extT f3 (hqo _ (by decide)), hr4.rel⟩
            have hsz3 := hsz.extT f3 (hqo _ (by decide))
            have hl3 := (hl1.ext0 f2).extT f3 (hqo _ (by decide))
            refine st_blk d3 (by simp) fun g4 t4 c4 f4 => ?_
            have c4' : Blk g4 g.size #[.int .i64 (M.l[atL M.l k]).n, .int .i64 (M.l[atL M.l k]).n, .int .i64 0, .int .i64 0] T_liveryref10_Did := by simpa using c4
            have z4 := f4.get z3 (by simp; omega)
            refine ⟨by simp [rd_blk z4], ?_⟩
            refine st_blk c4' (by simp) fun g5 t5 c5 f5 => ?_
            have c5' : Blk g5 g.size #[.int .i64 (M.l[atL M.l k]).n, .int .i64 (M.l[atL M.l k]).n, .int .i64 M.next, .int .i64 0] T_liveryref10_Did := by simpa using c5
            have z5 := f5.get z4 (by simp; omega)
            intro J63 hJ63
            have f35 : Ext [g.size] g3 g5 := f4.trans f5 (fun b hb _ => hb)
            have loop : ∀ g6 leaf, Ext [g.size] g3 g6 → Blk g6 g.size #[.int .i64 leaf, .int .i64 (M.l[atL M.l k]).n, .int .i64 M.next, .int .i64 0] T_liveryref10_Did → leaf = (if posK (M.l[atL M.l k]).keys k < cut then (M.l[atL M.l k]).n else M.next) → J63 [] g6 := by
              intro g6 leaf f6 d6 hleaf
              have z6 := f6.get z3 (by simp; omega)
              have v6 := f6.get v3 (by simp; omega)
              have hr6 : RefAt lo g6 q { M with next := M.next + 1 } ls R := hr5.extF f6 fun b hb hm => by simp at hm; have := rfp_lt hr hb; omega
              have hsz6 := hsz3.ext f6 fun a ha hm => by simp at hm; have := hsz.blk _ (mem_sBlk.2 ⟨a, ha, rfl⟩); omega
              have hl6 := hl3.ext f6 fun a ha hm => by
                simp at hm
                have := hl'.blk _ (mem_sBlk.2 ⟨a, ha, rfl⟩)
                have := own_lt hl' _ (mem_sBlk.2 ⟨a, ha, rfl⟩)
                omega
              have zz6 := f6.sz
              refine hJ63 _ ?_
              intro X65 hX65
              have plain : ∀ (gg : Hp) (out : Sl) (L : List RC) (j : Nat) (hj : j < R.length), j ≠ atL M.l k → Ext [] g6 gg → Own T_liveryref10_Leaf 4 encR g6.size gg out L → L.length ≤ 2 ^ 20 →
                  (∀ gg' out', Ext [] g6 gg' → Own T_liveryref10_Leaf 4 encR g6.size gg' out' (L ++ [R[j]]) → Ext (sBlk out) gg gg' → X65 [.slice out'.a out'.n out'.c, .int .i64 ((j + 1 : Nat) : Int)] gg') → X65 [.slice out.a out.n out.c, .int .i64 (j : Int)] gg := by
                intro gg out L j hj hja eg6 hout hLl hcb
                refine hX65 out _ _ ?_
                have hrg := hr6.ext0 eg6
                simp only [rd_blk hrg.blk]
                refine ⟨ls, by simp, ?_⟩
                rw [if_pos (by simp; omega)]
                intro J71 hJ71
                refine ⟨ls, by simp, ?_⟩
                obtain ⟨aa, y1, y2, y3, y4, y5⟩ := rdR hrg.own hj
                rw [y1]
                simp only [nilW_some, Int.toNat_natCast]
                refine ⟨by omega, by omega, R[j].m.n, y2, R[j].op, y3, R[j].m.bound, y4, R[j].ks, y5, ?_⟩
                refine varI rfl rfl fun gg1 t7 c7 f7 => ?_
                intro J83 hJ83
                rw [if_neg (by simp; omega)]
                refine hJ83 _ ?_
                refine ⟨R[j].m.n, by simp [rd_blk c7], R[j].op, by simp [rd_blk c7], R[j].m.bound, by simp [rd_blk c7], R[j].ks, by simp [rd_blk c7], ?_⟩
                have eg71 := eg6.trans0 f7
                refine app1 (x := R[j]) (hout.ext0 f7) rfl zcR encR_len encR_one (by omega) (by decide) eg71.sz fun out' gg2 hout' f8 hb8 => ?_
                rw [if_neg (by simp; omega)]
                refine hJ71 out' _ ?_
                rw [wrap64 (by omega) (by omega)]
                have := hcb gg2 out' (eg71.trans f8 fun b hb hlt => by have := hout.blk b hb; omega) hout' ((f7.mono (by simp)).trans f8 (fun b hb _ => hb))
                simpa using this
              have keyA : ∀ d j gg out sy, j + d = R.length → atL M.l k < j → Ext [] g6 gg → Own T_string 1 encB g6.size gg sy ((putK (M.l[atL M.l k]).keys k).take cut) →
                  Own T_liveryref10_Leaf 4 encR g6.size gg out (R.take (atL M.l k) ++ [⟨sy, R[atL M.l k].op, { R[atL M.l k].m with keys := (putK (M.l[atL M.l k]).keys k).take cut }⟩, ⟨sz, false, ⟨M.next, (putK (M.l[atL M.l k]).keys k)[cut], (putK (M.l[atL M.l k]).keys k).drop cut⟩⟩] ++ (R.drop (atL M.l k + 1)).take (j - (atL M.l k + 1))) →
                  X65 [.slice out.a out.n out.c, .int .i64 (j : Int)] gg := by
                intro d
                induction d with
                | zero =>
                  intro j gg out sy hj haj eg6 hsy hout
                  rw [List.take_of_length_le (l := R.drop (atL M.l k + 1)) (by rw [List.length_drop]; omega)] at hout
                  refine hX65 out _ _ ?_
                  have hrg := hr6.ext0 eg6
                  simp only [rd_blk hrg.blk]
                  refine ⟨ls, by simp, ?_⟩
                  rw [if_neg (by simp; omega)]
                  refine st_blk hrg.blk (by simp) fun g8 t8 c8 f8 => ?_
                  have d8 := f8.get (eg6.get d6 (by simp)) (by simp; omega)
                  have v8 := f8.get (eg6.get v6 (by simp)) (by simp; omega)
                  refine ⟨_, by simp [rd_blk d8]; rfl, _, by simp [rd_blk d8]; rfl, _, by simp [rd_blk d8]; rfl, _, by simp [rd_blk d8]; rfl, ?_⟩
                  refine st_blk v8 (by simp) fun g9 t9 c9 f9 => ?_
                  refine ⟨_, by simp [rd_blk c9]; rfl, _, by simp [rd_blk c9]; rfl, _, by simp [rd_blk c9]; rfl, _, by simp [rd_blk c9]; rfl, ?_⟩
                  have hqo8 : ∀ T, T_liveryref10_Leaves ≠ T → Other T gg [q] := fun T hT b hb c fz => by simp at hb; subst hb; exact other_blk hrg.blk hT c fz
                  have hcutR := hrg.cut (hi2 := hlt) hiR (nz := M.next) (nx := M.next + 1) (bz := (putK (M.l[atL M.l k]).keys k)[cut]) f8 (by simpa using c8) ((hout.extT f8 (hqo8 _ (by decide))).mono (by omega)) ((hsy.extT f8 (hqo8 _ (by decide))).mono (by omega)) (((hsz6.ext0 eg6).extT f8 (hqo8 _ (by decide))).mono (by omega))
                  have hfp : ∀ b, RFp q out (R.take (atL M.l k) ++ [⟨sy, R[atL M.l k].op, { R[atL M.l k].m with keys := (putK (M.l[atL M.l k]).keys k).take cut }⟩, ⟨sz, false, ⟨M.next, (putK (M.l[atL M.l k]).keys k)[cut], (putK (M.l[atL M.l k]).keys k).drop cut⟩⟩] ++ R.drop (atL M.l k + 1)) b → RFp q ls R b ∨ h1.size ≤ b := by
                    intro b hb
                    rcases hb with g | g | ⟨r, hm, g⟩
                    · exact Or.inl (Or.inl g)
                    · have := hout.blk b g; exact Or.inr (by omega)
                    · simp only [List.mem_append, List.mem_cons, List.not_mem_nil, or_false] at hm
                      rcases hm with (hm | hm | hm) | hm
                      · exact Or.inl (Or.inr (Or.inr ⟨r, List.mem_of_mem_take hm, g⟩))
                      · subst hm; have := hsy.blk b g; exact Or.inr (by omega)
                      · subst hm; have := hsz.blk b g; exact Or.inr (by omega)
                      · exact Or.inl (Or.inr (Or.inr ⟨r, List.mem_of_mem_drop hm, g⟩))
                  have hr9 := hcutR.extF f9 (fun b hb hm => by
                    simp at hm
                    rcases hfp b hb with g | g
                    · have := rfp_lt hr g; omega
                    · omega)
                  have hgd : (putK (M.l[atL M.l k]).keys k).getD cut (ByteArray.mk #[]) = (putK (M.l[atL M.l k]).keys k)[cut] := by rw [List.getD_eq_getElem?_getD, List.getElem?_eq_getElem hcl]; rfl
                  dsimp only at hins
                  rw [hgd] at hins
                  have eA : Ext [q] h g9 := ((((((e1.trans0 eg).trans0 f1).trans0 f2).mono (by simp)).trans f3 (fun b hb _ => hb)).trans f6 (by intro b hb hlt; simp at hb; omega)).trans0 eg6 |>.trans f8 (fun b hb _ => hb) |>.trans f9 (by intro b hb hlt; simp at hb; omega)
                  have hq := hQ g9 out _ [q] (by rw [hins]; exact hr9) eA (fun b hb => by simp at hb; exact Or.inl hb) (fun b hb => (hfp b hb).imp id fun g => by omega)
                  rw [hins] at hq
                  rw [hleaf]
                  exact hq
                | succ d ih =>
                  intro j gg out sy hj haj eg6 hsy hout
                  have hjR : j < R.length := by omega
                  refine plain gg out _ j hjR (by omega) eg6 hout (by simp; omega) fun gg' out' eg' hout' f' => ?_
                  refine ih (j + 1) gg' out' sy (by omega) (by omega) eg' (hsy.extT f' (hout.other (by decide))) ?_
                  rw [show j + 1 - (atL M.l k + 1) = (j - (atL M.l k + 1)) + 1 by omega, List.take_add_one, List.getElem?_drop, show atL M.l k + 1 + (j - (atL M.l k + 1)) = j by omega, List.getElem?_eq_getElem hjR, Option.toList_some, ← List.append_assoc]
                  exact hout'
              have keyB : ∀ d j gg out, j + d = atL M.l k → Ext [] g6 gg → Own T_liveryref10_Leaf 4 encR g6.size gg out (R.take j) → X65 [.slice out.a out.n out.c, .int .i64 (j : Int)] gg := by
                intro d
                induction d with
                | succ d ih =>
                  intro j gg out hj eg6 hout
                  have hjR : j < R.length := by omega
                  refine plain gg out _ j hjR (by omega) eg6 hout (by simp; omega) fun gg' out' eg' hout' f' => ?_
                  refine ih (j + 1) gg' out' (by omega) eg' ?_
                  rw [List.take_add_one, List.getElem?_eq_getElem hjR, Option.toList_some]
                  exact hout'
                | zero =>
                  intro j gg out hj eg6 hout
                  obtain rfl : j = atL M.l k := by omega
                  refine hX65 out _ _ ?_
                  have hrg := hr6.ext0 eg6
                  simp only [rd_blk hrg.blk]
                  refine ⟨ls, by simp, ?_⟩
                  rw [if_pos (by simp; omega)]
                  intro J71 hJ71
                  refine ⟨ls, by simp, ?_⟩
                  obtain ⟨aa, y1, y2, y3, y4, y5⟩ := rdR hrg.own hiR
                  rw [y1]
                  simp only [nilW_some, Int.toNat_natCast]
                  refine ⟨by omega, by omega, R[atL M.l k].m.n, y2, R[atL M.l k].op, y3, R[atL M.l k].m.bound, y4, R[atL M.l k].ks, y5, ?_⟩
                  refine varI rfl rfl fun gg1 t7 c7 f7 => ?_
                  intro J83 hJ83
                  rw [if_pos (by simp)]
                  refine newI fun gg2 t8 c8 f8 => ?_
                  refine ⟨by omega, ?_⟩
                  have eg72 := (eg6.trans0 f7).trans0 f8
                  have zg6 := eg6.sz
                  refine app1s (lo' := g6.size) (takeC (hl6.ext0 eg72) (c := cut) (by omega)) (by simp; omega) (by omega) c8 (by omega) fun sy gg3 hsy f9 hb9 => ?_
                  have c9 := f9.get (f8.get c7 (by simp)) (by simp; omega)
                  refine st_blk c9 (by simp) fun gg4 t10 c10 f10 => ?_
                  have c10' : Blk gg4 gg.size #[.int .i64 R[atL M.l k].m.n, .bool R[atL M.l k].op, .string R[atL M.l k].m.bound, .slice sy.a sy.n sy.c] T_liveryref10_Leaf := by simpa using c10
                  have f74 : Ext [] gg gg4 := ((f7.trans0 f8).trans f9 (by intro b hb hlt; simp at hb; omega)).trans f10 (by intro b hb hlt; simp at hb; omega)
                  have hsy4 := hsy.ext f10 fun a ha hm => by
                    simp at hm
                    have := hb9 _ (mem_sBlk.2 ⟨a, ha, rfl⟩)
                    omega
                  refine hJ83 _ ?_
                  refine ⟨R[atL M.l k].m.n, by simp [rd_blk c10'], R[atL M.l k].op, by simp [rd_blk c10'], R[atL M.l k].m.bound, by simp [rd_blk c10'], sy, by simp [rd_blk c10'], ?_⟩
                  have eg64 := eg6.trans0 f74
                  have hout4 := hout.ext0 f74
                  refine app1 (x := (⟨sy, R[atL M.l k].op, { R[atL M.l k].m with keys := (putK (M.l[atL M.l k]).keys k).take cut }⟩ : RC)) hout4 rfl zcR encR_len encR_one (by simp; omega) (by decide) eg64.sz fun out5 gg5 hout5 f11 hb11 => ?_
                  rw [if_pos (by simp)]
                  have z11 := f11.get (eg64.get z6 (by simp)) (fun hm => by have := hout.blk _ hm; omega)
                  refine ⟨M.next, by simp [rd_blk z11], false, by simp [rd_blk z11], _, by simp [rd_blk z11]; rfl, sz, by simp [rd_blk z11], ?_⟩
                  have eg65 : Ext [] g6 gg5 := eg64.trans f11 fun b hb hlt => by have := hout.blk b hb; omega
                  refine app1 (x := (⟨sz, false, ⟨M.next, (putK (M.l[atL M.l k]).keys k)[cut], (putK (M.l[atL M.l k]).keys k).drop cut⟩⟩ : RC)) hout5 rfl zcR encR_len encR_one (by simp; omega) (by decide) eg65.sz fun out6 gg6 hout6 f12 hb12 => ?_
                  refine hJ71 out6 _ ?_
                  rw [wrap64 (by omega) (by omega)]
                  have eg66 : Ext [] g6 gg6 := eg65.trans f12 fun b hb hlt => by have := hout5.blk b hb; omega
                  have := keyA (R.length - (atL M.l k + 1)) (atL M.l k + 1) gg6 out6 sy (by omega) (by omega) eg66 ((hsy4.extT f11 (hout4.other (by decide))).extT f12 (hout5.other (by decide))) (by
                    rw [Nat.sub_self, List.take_zero, List.append_nil]
                    rw [List.append_assoc] at hout6
                    exact hout6)
                  simpa using this
              have := keyB (atL M.l k) 0 g6 ⟨none, 0, 0⟩ (by omega) (Ext.refl _ _) (by simpa using Own.nil _ _)
              simpa using this
            by_cases hpc : cut ≤ p
            · rw [if_pos (by simp; omega)]
              refine ⟨M.next, by simp [rd_blk z5], ?_⟩
              refine st_blk c5' (by simp) fun g6 t6 c6 f6 => ?_
              exact loop g6 M.next (f35.trans f6 (fun b hb _ => hb)) (by simpa using c6) (by rw [if_neg (by omega)])
            · rw [if_neg (by simp; omega)]
              exact loop g5 _ f35 c5' (by rw [if_pos (by omega)])
          refine ⟨M.next, by simp, ?_⟩
          obtain ⟨ak, y1, y2⟩ := rdB hl1.sl.reads (i := cut) hcl
          have hl1s := own_lt hl1
          rw [y1]
          simp only [nilW_some, Int.toNat_natCast]
          refine ⟨by omega, by omega, (putK (M.l[atL M.l k]).keys k)[cut], y2, by omega, ⟨?_, ?_⟩⟩
          · refine newI fun g2 t2 c2 f2 => ?_
            have hr4 := hr3.ext0 f2
            refine ⟨rd_ext0 f2 y2, by simp [rd_blk hr4.blk], ⟨?_, ?_⟩⟩
            · rw [← y1]
              refine app1s (lo' := g1.size) (dropC (hl1.ext0 f2) (c := cut) (by omega)) (by simp; omega) (by omega) c2 (Nat.le_refl _) fun sz g3 hsz f3 hbs => ?_
              have f13 : Ext [] g1 g3 := f2.trans f3 (by intro b hb hlt; simp at hb; omega)
              have hr5 := hr3.ext0 f13
              refine ⟨rd_ext0 f13 y2, by simp [rd_blk hr5.blk], ?_⟩
              refine newI fun g4 t4 c4 f4 => ?_
              have f14 := f13.trans0 f4
              refine ⟨rd_ext0 f14 y2, by simp [rd_blk (hr3.ext0 f14).blk], ?_⟩
              refine st_blk c4 (by simp) fun g5 t5 c5 f5 => ?_
              have z13 := f13.sz
              exact fin52 g5 sz g3.size (f14.trans f5 (by intro b hb hlt; simp at hb; omega)) (by simpa using c5) (by omega) ((hsz.ext0 f4).ext f5 fun a ha hm => by simp at hm; have := own_lt hsz _ (mem_sBlk.2 ⟨a, ha, rfl⟩); omega)
            · rw [← y1]
              refine newI fun g3 t3 c3 f3 => ?_
              have f13 := f2.trans0 f3
              refine ⟨rd_ext0 f13 y2, by simp [rd_blk (hr3.ext0 f13).blk], ?_⟩
              refine app1s (lo' := g1.size) (dropC (hl1.ext0 f13) (c := cut) (by omega)) (by simp; omega) (by omega) (f3.get c2 (by simp)) (Nat.le_refl _) fun sz g4 hsz f4 hbs => ?_
              have f14 : Ext [] g1 g4 := f13.trans f4 (by intro b hb hlt; simp at hb; omega)
              refine ⟨rd_ext0 f14 y2, by simp [rd_blk (hr3.ext0 f14).blk], ?_⟩
              refine st_blk (f4.get c3 (by simp; omega)) (by simp) fun g5 t5 c5 f5 => ?_
              exact fin52 g5 sz g2.size (f14.trans f5 (by intro b hb hlt; simp at hb; omega)) (by simpa using c5) (by omega) (hsz.ext f5 fun a ha hm => by simp at hm; have := hbs _ (mem_sBlk.2 ⟨a, ha, rfl⟩); omega)
          · rw [← y1]
            refine newI fun g2 t2 c2 f2 => ?_
            refine ⟨rd_ext0 f2 y2, by simp [rd_blk (hr3.ext0 f2).blk], ?_⟩
            refine newI fun g3 t3 c3 f3 => ?_
            have f13 := f2.trans0 f3
            refine ⟨rd_ext0 f13 y2, by simp [rd_blk (hr3.ext0 f13).blk], ?_⟩
            refine app1s (lo' := g1.size) (dropC (hl1.ext0 f13) (c := cut) (by omega)) (by simp; omega) (by omega) c3 (by omega) fun sz g4 hsz f4 hbs => ?_
            have f14 : Ext [] g1 g4 := f13.trans f4 (by intro b hb hlt; simp at hb; omega)
            refine ⟨rd_ext0 f14 y2, by simp [rd_blk (hr3.ext0 f14).blk], ?_⟩
            refine st_blk (f4.get (f3.get c2 (by simp)) (by simp; omega)) (by simp) fun g5 t5 c5 f5 => ?_
            exact fin52 g5 sz g1.size (f14.trans f5 (by intro b hb hlt; simp at hb; omega)) (by simpa using c5) (by omega) (hsz.ext f5 fun a ha hm => by simp at hm; have := hbs _ (mem_sBlk.2 ⟨a, ha, rfl⟩); omega)
      have hcap := hk1.cap
      have hput : ∀ g l', Own T_string 1 encB h1.size g l' ((M.l[atL M.l k]).keys.take p ++ [k] ++ (M.l[atL M.l k]).keys.drop p) → Own T_string 1 encB h1.size g l' (putK (M.l[atL M.l k]).keys k) := by
        intro g l' ho
        rw [hp] at ho
        exact ho
      have hksz := own_lt hk1
      refine ⟨by omega, by omega, ⟨?_, ?_⟩⟩
      · refine newI fun g1 t1 c1 f1 => ⟨?_, ?_⟩
        · refine app1s (lo' := h1.size) (takeC (hk1.ext0 f1) (c := p) (by omega)) (by simp; omega) (by omega) c1 (Nat.le_refl _) fun l1 g2 ho2 f2 hb2 => ?_
          refine newI fun g3 t3 c3 f3 => ?_
          have z2 := f2.sz
          refine app23 (((hk1.ext0 f1).ext f2 fun a ha hm => by simp at hm; have := hksz _ (mem_sBlk.2 ⟨a, ha, rfl⟩); omega).ext0 f3) (ho2.ext0 f3) c3 (fun hm => by have := hb2 _ hm; have := own_lt ho2 _ hm; omega) (fun b hb hm => by have := hksz b hb; have := hb2 _ hm; omega) (by omega) (by omega) (by simp; omega) (by omega) fun s' g' ho' f' => ?_
          refine fin28 g' s' (((f1.trans f2 (by intro b hb hlt; simp at hb; omega)).trans0 f3).trans f' fun b hb hlt => by have := hb2 _ hb; omega) (hput _ _ ho')
        · refine newI fun g2 t2 c2 f2 => ?_
          refine app3 ((hk1.ext0 f1).ext0 f2) (f2.get c1 (by simp)) (Nat.le_refl _) c2 (by omega) (fun hm => by have := hksz _ hm; omega) (by omega) (by omega) fun s' g' ho' f' => ?_
          exact fin28 g' s' ((f1.trans0 f2).trans f' (by intro b hb hlt; simp at hb; omega)) (hput _ _ ho')
      · refine newI fun g1 t1 c1 f1 => newI fun g2 t2 c2 f2 => ?_
        refine app3 (lo' := h1.size) ((hk1.ext0 f1).ext0 f2) c2 (by omega) (f2.get c1 (by simp)) (by omega) (fun hm => by have := hksz _ hm; omega) (by omega) (by omega) fun s' g' ho' f' => ?_
        exact fin28 g' s' ((f1.trans0 f2).trans f' (by intro b hb hlt; simp at hb; omega)) (hput _ _ ho')
    by_cases hpl2 : p < (M.l[atL M.l k]).keys.length
    · rw [if_pos (by simp; omega)]
      obtain ⟨ka, u1, u2⟩ := rdB hk1.sl.reads (i := p) hpl2
      rw [u1]
      simp only [nilW_some, Int.toNat_natCast]
      refine ⟨by omega, by omega, _, u2, ?_⟩
      have q1 : Op.bytesLess (M.l[atL M.l k]).keys[p].toList k.toList = sLt (M.l[atL M.l k]).keys[p] k := rfl
      have q2 : sLt (M.l[atL M.l k]).keys[p] k = false := hps.2.2 _ (by
        rw [← hp]
        exact List.mem_iff_getElem.2 ⟨0, by simp; omega, by simp⟩)
      rw [q1, q2]
      exact go
    · rw [if_neg (by simp; omega)]
      exact go
  have key : ∀ d p, d + p = (M.l[atL M.l k]).keys.length → (∀ j (hj : j < (M.l[atL M.l k]).keys.length), j < p → sLt (M.l[atL M.l k]).keys[j] k = true) → X [.int .i64 (p : Int)] h1 := by
    intro d
    induction d with
    | succ d ih =>
      intro p hp hall
      have hpl2 : p < (M.l[atL M.l k]).keys.length := by omega
      by_cases hlk : sLt (M.l[atL M.l k]).keys[p] k = true
      · refine hX _ _ ?_
        intro J hJ
        rw [if_pos (by simp; omega)]
        obtain ⟨ka, u1, u2⟩ := rdB hk1.sl.reads (i := p) hpl2
        rw [u1]
        simp only [nilW_some, Int.toNat_natCast]
        refine ⟨by omega, by omega, _, u2, ?_⟩
        have q1 : Op.bytesLess (M.l[atL M.l k]).keys[p].toList k.toList = sLt (M.l[atL M.l k]).keys[p] k := rfl
        rw [q1, hlk]
        refine hJ _ _ ?_
        rw [if_pos rfl, wrap64 (by omega) (by omega)]
        refine ih (p + 1) (by omega) fun j hj hjp => ?_
        rcases (by omega : j < p ∨ j = p) with g | g
        · exact hall j hj g
        · subst g; exact hlk
      · refine exit p (posK_eq (by omega) (fun j hj hjp => hall j hj hjp) fun j hj hjp => ?_).symm
        rcases (by omega : j = p ∨ p < j) with g | g
        · subst g; exact Bool.eq_false_iff.2 hlk
        · cases h3 : sLt (M.l[atL M.l k]).keys[j] k with
          | false => rfl
          | true => exact absurd (sLt_trans (List.pairwise_iff_getElem.1 hor.1 p j hpl2 hj g) h3) hlk
    | zero =>
      intro p hp hall
      exact exit p (posK_eq (by omega) (fun j hj hjp => hall j hj hjp) fun j hj hjp => by omega).symm
  have := key _ 0 (by omega) (by intro j hj h; omega)
  simpa using this
end
end Go.Lift

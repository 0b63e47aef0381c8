/- Names: Put. -/
import Derived.Test.YtogondadohdcoaaW12m
set_option linter.unusedSimpArgs false
set_option linter.unusedVariables false
namespace Go.Lift
open Go Go.Proofs Go.RowKit Go.Shelf
set_option maxRecDepth 100000
section
variable {G G' : Nat → Prop} {h h' h'' : Hp} {cb t : Nat} {L : LM} {N : NM} {Q : List Value → Hp → Prop}
def badP (L : LM) (x : Int) (t : TM) : Bool := decide ((txL L x).state ≠ 1) || (!nameB t.name || (!goodR t.cl || (decide (t.rel < 1) || decide (t.rel > 100))))
theorem badP_iff (L : LM) (x : Int) (t : TM) : badP L x t = true ↔ ((txL L x).state ≠ 1 ∨ nameB t.name = false ∨ goodR t.cl = false ∨ t.rel < 1 ∨ t.rel > 100) := by
  unfold badP
  simp only [Bool.or_eq_true, decide_eq_true_eq, Bool.not_eq_true']
theorem goodR_len {l : List ColM} (h : goodR l = true) : l.length ≤ 6 := by
  unfold goodR at h
  simp only [Bool.and_eq_true, Bool.not_eq_true', Bool.or_eq_false_iff, decide_eq_false_iff_not] at h
  omega
theorem Put_s (hS : NvS G h cb t L N) {M : Nat} (hok : NOk M N) (hM : M < 2 ^ 20) (x : Int) (tw : TW) (hr : Reads 7 encC h tw.s tw.cl) (hg : tw.cl ≠ [] → ∀ b ∈ sBlk tw.s, G b)
    (hQ : ∀ h', NvS G h' cb t L (putN L N x tw.m) → KG G h h' → Q [.int .i64 (putE L N x tw.m)] h') : S_name_Names_Put (some ⟨t, 0, none⟩) (some ⟨cb, 0, none⟩) x tw.name tw.s tw.rel h Q := by
  refine O_name_Names_Put _ _ _ _ _ _ ?_
  unfold F_name_Names_Put
  refine newI fun h1 s1 b1 e1 => ?_
  have hlt := hS.lt
  have hS1 := hS.more e1
  have k01 : KG G h h1 := kg_ext0 e1 hlt
  have hQ1 : ∀ g, NvS (GX G h h1) g cb t L (putN L N x tw.m) → KG (GX G h h1) h1 g → Q [.int .i64 (putE L N x tw.m)] g := fun g a b => hQ g (a.anti gx_l) (k01.trans (b.anti gx_l))
  have hr1 := hr.ext0 e1
  have hg1 : tw.cl ≠ [] → ∀ b ∈ sBlk tw.s, GX G h h1 b := fun hx b hb => Or.inl (hg hx b hb)
  have hcell : GX G h h1 h.size := Or.inr ⟨by omega, by omega⟩
  clear hQ hr hg
  have hlt1 := hS1.lt
  have hC1 := hS1.cl
  intro J hJ
  have keyJ : ∀ g, Ext [] h1 g → J [.bool (badP L x tw.m)] g := by
    intro g eg
    refine hJ _ _ ?_
    have hSg := hS1.ext0 eg
    by_cases hb : badP L x tw.m = true
    · rw [if_pos hb]
      have hE : putE L N x tw.m = 1 := by unfold putE; rw [if_pos ((badP_iff _ _ _).1 hb)]
      have hNn : putN L N x tw.m = N := by unfold putN; rw [if_neg (by rw [hE]; decide)]
      have := hQ1 g
      rw [hE, hNn] at this
      exact this hSg (kg_ext0 eg hlt1)
    · rw [if_neg hb]
      have hnb : ¬ ((txL L x).state ≠ 1 ∨ nameB tw.m.name = false ∨ goodR tw.m.cl = false ∨ tw.m.rel < 1 ∨ tw.m.rel > 100) := fun hh => hb ((badP_iff _ _ _).2 hh)
      have hcl : tw.cl.length ≤ 6 := goodR_len (l := tw.cl) (by
        cases hgd : goodR tw.cl with
        | true => rfl
        | false => exact absurd (Or.inr (Or.inr (Or.inl hgd))) hnb)
      refine ⟨tw.name, by rw [addr_mk, rd_blk (eg.get b1 (by simp))]; rfl, ?_⟩
      refine May_v hSg hok (by omega) x tw.name fun g2 e2 => ⟨_, _, rfl, ?_⟩
      have eg2 := eg.trans0 e2
      by_cases hm : (mayN L N x tw.name).1 = 0
      · rw [if_neg (by simp [hm])]
        refine ⟨tw.name, by rw [addr_mk, rd_blk (eg2.get b1 (by simp))]; rfl, ?_⟩
        obtain ⟨l1, l2, ⟨mb, C, a1, hN, a3⟩, l4⟩ := hS1
        subst hN
        have hlc := lC_le hok tw.name
        refine at_s (l2.ext0 eg2) (a1.ext0 eg2) x tw.name (by omega) fun g3 e3 => ⟨_, rfl, ?_⟩
        have eg3 := eg2.trans0 e3
        intro J14 hJ14
        have key14 : ∀ g4, Ext [] h1 g4 → J14 [.bool (decide (atN L (mN C) x tw.name < 0) && decide ((othersN L (mN C) x tw.name : Int) ≥ 6))] g4 := by
          intro g4 e4
          refine hJ14 _ _ ?_
          by_cases ho : (decide (atN L (mN C) x tw.name < 0) && decide ((othersN L (mN C) x tw.name : Int) ≥ 6)) = true
          · rw [if_pos ho]
            have hE : putE L (mN C) x tw.m = 3 := by
              unfold putE
              rw [if_neg hnb, if_neg (by intro hh; exact hh hm), if_pos (by simp only [Bool.and_eq_true, decide_eq_true_eq] at ho; exact ⟨ho.1, by have := ho.2; show othersN L (mN C) x tw.name ≥ 6; omega⟩)]
            have hNn : putN L (mN C) x tw.m = mN C := by unfold putN; rw [if_neg (by rw [hE]; decide)]
            have := hQ1 g4
            rw [hE, hNn] at this
            exact this ((⟨l1, l2, ⟨mb, C, a1, rfl, a3⟩, l4⟩ : NvS (GX G h h1) h1 cb t L (mN C)).ext0 e4) (kg_ext0 e4 hlt1)
          · rw [if_neg ho]
            have hE : putE L (mN C) x tw.m = 0 := by
              unfold putE
              rw [if_neg hnb, if_neg (by intro hh; exact hh hm), if_neg (by simp only [Bool.and_eq_true, decide_eq_true_eq] at ho; intro hh; exact ho ⟨hh.1, by have h6 : othersN L (mN C) x tw.name ≥ 6 := hh.2; omega⟩)]
            have hNn : putN L (mN C) x tw.m = addN (if atN L (mN C) x tw.name < 0 then mN C else markN (mN C) tw.name (atN L (mN C) x tw.name).toNat x) tw.name ⟨x, 0, tw.m⟩ := by unfold putN; rw [if_pos hE]; rfl
            rw [hE, hNn] at hQ1
            intro J17 hJ17
            have key17 : ∀ g5 C1, NmS g5 t mb C1 → ClAt g5 cb L → mN C1 = (if atN L (mN C) x tw.name < 0 then mN C else markN (mN C) tw.name (atN L (mN C) x tw.name).toNat x) → (∀ b, FN t mb C1 b → FN t mb C b) → (lC C1 tw.name).length ≤ M → KG (GX G h h1) h1 g5 → J17 [] g5 := by
              intro g5 C1 n1 n2 n3 n4 n5 n6
              rw [← n3] at hQ1
              refine hJ17 _ ?_
              simp only [nilW_some]
              have cell5 : Blk g5 h.size #[.string tw.name, .slice tw.s.a tw.s.n tw.s.c, .int .i64 tw.rel] T_api_Table := n6.get b1 hcell
              obtain ⟨es, m1, m2, m3⟩ := n1.has tw.name
              refine ⟨some mb, n1.ptr, tw.name, by rw [addr_mk, rd_blk cell5]; rfl, some mb, n1.ptr, tw.name, by rw [addr_mk, rd_blk cell5]; rfl, es, m1, m2, _, m3, tw.name, by rw [addr_mk, rd_blk cell5]; rfl, tw.s, by rw [addr_mk, rd_blk cell5]; rfl, tw.rel, by rw [addr_mk, rd_blk cell5]; rfl, ?_⟩
              refine copied_s (t := tw) (n6.reads hr1 hg1) (by omega) fun g6 s' o6 e6 => ⟨tw.name, s', tw.rel, rfl, ?_⟩
              have n61 := n1.ext0 e6
              have cell6 := e6.get cell5 (by simp)
              obtain ⟨es6, p1, p2, p3⟩ := n61.has tw.name
              refine ⟨⟨es6, p1, p2, p3⟩, by rw [addr_mk, rd_blk cell6]; rfl, n61.ptr, by rw [addr_mk, rd_blk cell6]; rfl, n61.ptr, ?_⟩
              refine newI fun g7 z7 b7 e7 => ?_
              have n71 := n61.ext0 e7
              have cell7 := e7.get cell6 (by simp)
              obtain ⟨es7, r1, r2, r3⟩ := n71.has tw.name
              refine ⟨⟨es7, r1, r2, r3⟩, by rw [addr_mk, rd_blk cell7]; rfl, n71.ptr, by rw [addr_mk, rd_blk cell7]; rfl, n71.ptr, ?_⟩
              have o7 := n71.own tw.name
              have b7' : Blk g7 g6.size (encVW ⟨x, 0, ⟨tw.name, s', tw.cl, tw.rel⟩⟩).toArray T_name_version := b7
              refine oneG (k := (⟨x, 0, ⟨tw.name, s', tw.cl, tw.rel⟩⟩ : VW)) encVW_len encVW_one zc_ver (by decide) o7 b7' (by omega) (by omega) fun s8 g8 o8 e8 hb8 => ?_
              have e68 := e6.trans0 e7
              have hcn8 : ∀ b ∈ sBlk (slC C1 tw.name), FN t mb C b := fun b hb => by
                obtain ⟨c, q1, q2⟩ := slC_blk hb
                exact n4 b (Or.inr (Or.inr ⟨tw.name, c, q1, q2⟩))
              have k58 : KG (GX G h h1) g5 g7 := kg_ext0 e68 fun b hb => by have := n6.sz; have := l1 b hb; omega
              have k78 : KG (GX G h h1) g7 g8 := kg_ext e8 (fun b hb => by have := k58.sz; have := n6.sz; have := l1 b hb; omega) fun b hb g => a3 b (hcn8 b hb) g
              have cell8 := k78.get cell7 hcell
              have hnotc : ∀ b, b = t ∨ b = mb → b ∉ sBlk (slC C1 tw.name) := by
                intro b hb hm
                obtain ⟨a, q1, q2⟩ := mem_sBlk.1 hm
                rcases hb with rfl | rfl
                · exact own_ne o7 n71.blk (by intro c' fz e; cases e) a q1 q2
                · obtain ⟨es, cl, m1, _⟩ := n71.outer
                  exact own_ne o7 m1 (by intro c' fz e; cases e) a q1 q2
              have blk8 := e8.get n71.blk (hnotc t (Or.inl rfl))
              refine ⟨by rw [addr_mk, rd_blk cell8]; rfl, by rw [addr_mk, rd_blk blk8]; rfl, ?_⟩
              have hO : Other T_api_Column g7 (sBlk (slC C1 tw.name)) := o7.other col_ver
              have hcols : SlOf T_api_Column 7 encC g8 s' tw.cl := (o6.sl.ext0 e7).ext e8 hO
              obtain ⟨es9, c9, y1, y2, y3⟩ := n71.add (k := tw.name) (v := ⟨x, 0, ⟨tw.name, s', tw.cl, tw.rel⟩⟩) o8 e8 hb8 ⟨hcols, by show tw.cl.length ≤ _; omega⟩
              refine ⟨mb, es9, c9, rfl, y1, y2, setI y1 fun g9 z9 k9 e9 => ?_⟩
              have nf := y3 g9 e9 k9
              have hmg : ¬ GX G h h1 mb := fun g => a3 mb (Or.inr (Or.inl rfl)) g
              have k89 : KG (GX G h h1) g8 g9 := kg_ext e9 (fun b hb => by have := k78.sz; have := k58.sz; have := n6.sz; have := l1 b hb; omega) (by simp; exact hmg)
              have kall := ((n6.trans k58).trans k78).trans k89
              refine hQ1 g9 ⟨fun b hb => by have := kall.sz; have := l1 b hb; omega, ?_, ⟨mb, _, nf, add_pl, fun b hb g => ?_⟩, l4⟩ kall
              · refine ((n2.ext0 e68).ext e8 fun hm => ?_).ext e9 fun hm => ?_
                · have := (cl_other (n2.ext0 e68) n71).1 cb (Or.inr (Or.inr (by obtain ⟨c, q1, q2⟩ := slC_blk hm; exact ⟨tw.name, c, q1, q2⟩)))
                  simp at this
                · simp only [List.mem_singleton] at hm
                  have := (cl_other n2 n1).1 cb (Or.inr (Or.inl hm))
                  simp at this
              · rcases add_FN hb8 hb with q | q
                · exact a3 b (n4 b q) g
                · have := l1 b g; have := k58.sz; have := n6.sz; omega
            by_cases ha : atN L (mN C) x tw.name < 0
            · rw [if_neg (by simpa using ha)]
              refine key17 g4 C (a1.ext0 e4) (l2.ext0 e4) (by rw [if_pos ha]) (fun b hb => hb) hlc (kg_ext0 e4 hlt1)
            · rw [if_pos (by simpa using ha)]
              have e4' := e4
              simp only [nilW_some]
              have hN3 := a1.ext0 e4
              obtain ⟨es, m1, m2, m3⟩ := hN3.has tw.name
              refine ⟨some mb, hN3.ptr, tw.name, by rw [addr_mk, rd_blk (e4.get b1 (by simp))]; rfl, es, m1, m2, _, m3, ?_⟩
              have hat : ∃ j, atN L (mN C) x tw.name = ((j : Nat) : Int) ∧ j < (vsN (mN C) tw.name).length := by
                unfold atN at ha ⊢
                rcases atV_find L x (vsN (mN C) tw.name) 0 with ⟨q1, _⟩ | ⟨j, q1, hj, _⟩
                · rw [q1] at ha; exact absurd (by omega) ha
                · exact ⟨j, by rw [q1, Nat.zero_add], hj⟩
              obtain ⟨j, q1, hj⟩ := hat
              rw [q1] at ha key17 ⊢
              rw [if_neg ha, Int.toNat_natCast] at key17
              rw [Int.toNat_natCast]
              cases hf : afind C tw.name with
              | none =>
                have : vsN (mN C) tw.name = [] := by rw [← lC_m]; unfold lC; rw [hf]; rfl
                rw [this] at hj
                simp at hj
              | some c =>
                have hsl : slC C tw.name = c.s := by unfold slC; rw [hf]
                have hlcc : lC C tw.name = c.l := by unfold lC; rw [hf]
                have hjl : j < c.l.length := by
                  rw [← lC_m, hlcc] at hj
                  simpa using hj
                have hcn := (hN3.inner tw.name c hf).1
                rw [hsl]
                obtain ⟨a, w1, w2, w3⟩ := hN3.mark hf hjl x (K := fun h51 => J17 [] h51) fun g5 hN4 e5 z5 => by
                  have kg : KG (GX G h h1) g4 g5 := kg_ext e5 (fun b hb => by have := l1 b hb; have := e4.sz; omega) fun b hb g => a3 b (Or.inr (Or.inr ⟨tw.name, c, hf, hb⟩)) g
                  have hcl4 : ClAt g5 cb L := (l2.ext0 e4).ext e5 fun hm => by
                    have := (cl_other (l2.ext0 e4) hN3).1 cb (Or.inr (Or.inr ⟨tw.name, c, hf, hm⟩))
                    simp at this
                  refine key17 g5 _ hN4 hcl4 (mark_pl hf hjl x) (fun b hb => mark_FN hf hb) ?_ ((kg_ext0 e4 hlt1).trans kg)
                  unfold lC
                  rw [afind_aput, if_pos rfl]
                  rw [hlcc] at hlc
                  simpa using hlc
                rw [w1]
                simp only [nilW_some]
                exact ⟨by omega, by omega, w2, w3⟩
        by_cases ha : atN L (mN C) x tw.name < 0
        · rw [if_pos (by simpa using ha)]
          refine ⟨tw.name, by rw [addr_mk, rd_blk (eg3.get b1 (by simp))]; rfl, ?_⟩
          have hlen := hok.len
          refine others_s (l2.ext0 eg3) (a1.ext0 eg3) x tw.name (fun k => by have := lC_le hok k; omega) (by have h2 : (mN C).length = C.length := (by simp [amap]); omega) fun g4 e4 => ⟨_, rfl, ?_⟩
          have := key14 g4 (eg3.trans0 e4)
          rw [decide_eq_true ha, Bool.true_and] at this
          exact this
        · rw [if_neg (by simpa using ha)]
          have := key14 g3 eg3
          rw [decide_eq_false ha, Bool.false_and] at this
          exact this
      · rw [if_pos (by simp [hm])]
        have hE : putE L N x tw.m = (mayN L N x tw.name).1 := by unfold putE; rw [if_neg hnb, if_pos (by exact hm)]; rfl
        have hNn : putN L N x tw.m = N := by unfold putN; rw [if_neg (by rw [hE]; exact hm)]
        have := hQ1 g2
        rw [hE, hNn] at this
        exact this (hS1.ext0 eg2) (kg_ext0 eg2 hlt1)
  rw [if_neg (by simp)]
  refine State_s hC1 x fun g1 f1 => ⟨_, rfl, ?_⟩
  unfold badP at keyJ
  by_cases hst : (txL L x).state = 1
  · rw [if_neg (by simp [hst])]
    rw [decide_eq_false (by simp [hst]), Bool.false_or] at keyJ
    refine ⟨tw.name, by rw [addr_mk, rd_blk (f1.get b1 (by simp))]; rfl, Name_s _ ⟨_, rfl, ?_⟩⟩
    cases hnm : nameB tw.name with
    | false =>
      rw [if_pos (by rfl)]
      have := keyJ g1 f1
      rw [show nameB tw.m.name = false from hnm] at this
      exact this
    | true =>
      rw [if_neg (by decide)]
      rw [show nameB tw.m.name = true from hnm, Bool.not_true, Bool.false_or] at keyJ
      refine ⟨tw.s, by rw [addr_mk, rd_blk (f1.get b1 (by simp))]; rfl, GoodR_s (hr1.ext0 f1) fun g2 f2 => ⟨_, rfl, ?_⟩⟩
      have f12 := f1.trans0 f2
      cases hgd : goodR tw.cl with
      | false =>
        rw [if_pos (by rfl)]
        have := keyJ g2 f12
        rw [show goodR tw.m.cl = false from hgd] at this
        exact this
      | true =>
        rw [if_neg (by decide)]
        rw [show goodR tw.m.cl = true from hgd, Bool.not_true, Bool.false_or] at keyJ
        refine ⟨tw.rel, by rw [addr_mk, rd_blk (f12.get b1 (by simp))]; rfl, ?_⟩
        have := keyJ g2 f12
        by_cases hr1 : tw.rel < 1
        · rw [if_pos (by simpa using hr1)]
          rw [decide_eq_true (show tw.m.rel < 1 from hr1), Bool.true_or] at this
          exact this
        · rw [if_neg (by simpa using hr1)]
          rw [decide_eq_false (show ¬ tw.m.rel < 1 from hr1), Bool.false_or] at this
          exact ⟨tw.rel, by rw [addr_mk, rd_blk (f12.get b1 (by simp))]; rfl, this⟩
  · rw [if_pos (by simp [hst])]
    have := keyJ g1 f1
    rw [decide_eq_true (by simp [hst]), Bool.true_or] at this
    exact this
end
end Go.Lift

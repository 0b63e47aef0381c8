/- NameAborts. -/
import Derived.Test.YtogondadohdcoaaW12s
set_option linter.unusedSimpArgs false
set_option linter.unusedVariables false
namespace Go.Lift
open Go Go.Proofs Go.RowKit Go.Shelf
set_option maxRecDepth 100000
section
variable {h : Hp} {Q : List Value → Hp → Prop}
theorem NameAborts_s {s : Sl} {xs : List StN} (hs : Reads 5 encSt h s xs) (hc : ∀ x ∈ xs, Reads 7 encC h x.t.s x.t.cl) (hl : xs.length ≤ 9223372036854775807) (hQ : ∀ h', Ext [] h h' → Q [.bool true] h') : F_liverylaw12_NameAborts s h Q := by
  unfold F_liverylaw12_NameAborts
  have hn := hs.1
  refine New08_s fun h1 cb hC1 e1 hcb => ⟨_, rfl, ?_⟩
  have hG1 : ∀ b, b < h.size → b < h1.size := fun b hb => by have := e1.sz; omega
  refine New12_s (G := fun b => b < h.size) hG1 hC1 (by omega) fun h2 t hE2 e2 => ⟨_, rfl, ?_⟩
  have e12 := e1.trans0 e2
  have k2 := kg_ext0 (G := fun b => b < h.size) e12 fun b hb => hb
  have kgx : ∀ g, KG (fun b => b < h.size) h g → Ext [] h g := fun g hk => ⟨hk.sz, fun b hb _ => hk.old b hb⟩
  intro J hJ
  rw [if_neg (by simp), if_neg (by simp)]
  refine Fair_s (hs.ext0 e12) (fun x hx => (hc x hx).ext0 e12) hl fun h3 b e3 hb => ⟨_, rfl, ?_⟩
  refine hJ _ _ ?_
  have hE3 := hE2.ext0 e3
  have k3 := k2.trans (kg_ext0 e3 hE2.lt)
  cases b with
  | false =>
    rw [if_pos (by rfl)]
    intro J2 hJ2
    rw [if_pos (by rfl), if_pos (by rfl)]
    refine wakes12_s fun h4 e4 => ⟨_, rfl, ?_⟩
    exact hJ2 _ _ (hQ h4 ((kgx _ k3).trans0 e4))
  | true =>
    rw [if_neg (by decide)]
    have h120 := hb rfl
    refine Begin_s hE3.cl false fun h4 hC4 e4 _ => ⟨_, _, rfl, ?_⟩
    obtain ⟨hE4, k4⟩ := hE3.log hC4 e4
    rw [abL1_eq] at hE4
    intro J20 hJ20
    refine PutTab_s hE4 nok_nil (by omega) 1 sT 1 fun h5 hE5 k5 => ⟨_, rfl, ?_⟩
    have hok1 := nok_nil.put abL1 1 (tabT sT 1)
    rw [ab_put1.2] at hE5 hok1
    rw [ab_put1.1, if_neg (by decide)]
    refine PutTab_s hE5 hok1 (by omega) 1 sU 2 fun h6 hE6 k6 => ⟨_, rfl, ?_⟩
    have hok2 := hok1.put abL1 1 (tabT sU 2)
    rw [ab_put2.2] at hE6 hok2
    rw [ab_put2.1]
    refine hJ20 _ _ ?_
    rw [if_neg (by decide)]
    refine Commit_s hE6.cl 1 (by decide) fun h7 hC7 e7 _ => ⟨_, _, rfl, ?_⟩
    obtain ⟨hE7, k7⟩ := hE6.log hC7 e7
    refine Begin_s hE7.cl false fun h8 hC8 e8 _ => ⟨_, _, rfl, ?_⟩
    obtain ⟨hE8, k8⟩ := hE7.log hC8 e8
    rw [abL2_eq] at hE8
    have k08 := ((((k3.trans k4).trans k5).trans k6).trans k7).trans k8
    intro X hX
    have key : ∀ d i g N, d + i = xs.length → NvS (fun b => b < h.size) g cb t abL2 N → KG (fun b => b < h.size) h g → NOk (2 + i) N → Ab N → X [.int .i64 (i : Int)] g := by
      intro d
      induction d with
      | zero =>
        intro i g N hi hS kg hok hab
        refine hX _ _ ?_
        rw [if_neg (by simp; omega)]
        refine Abort_s hS.cl 2 fun g1 hC1 f1 _ => ⟨_, rfl, ?_⟩
        obtain ⟨hS1, j1⟩ := hS.log hC1 f1
        have hr2 : runsL abL2 2 := by decide
        rw [if_pos hr2, if_neg (by decide)]
        refine Begin_s hS1.cl false fun g2 hC2 f2 _ => ⟨_, _, rfl, ?_⟩
        obtain ⟨hS2, j2⟩ := hS1.log hC2 f2
        rw [abL3_eq] at hS2
        have kg2 := (kg.trans j1).trans j2
        refine All_s hS2 hok (by omega) 3 fun g3 s3 ts f3 o3 hcl3 hts => ⟨s3, rfl, ?_⟩
        rw [ab_all hok hab] at hts
        have hS3 := hS2.ext0 f3
        refine May_v hS3 hok (by omega) 3 sT fun g4 f4 => ⟨_, _, rfl, ?_⟩
        rw [may_nil (head_un hab.t)]
        refine tab_s sT 1 fun g5 s5 f5 hc5 hb5 => ⟨sT, s5, 1, rfl, ?_⟩
        refine tab_s sU 2 fun g6 s6 f6 hc6 hb6 => ⟨sU, s6, 2, rfl, ?_⟩
        refine newI fun g7 z7 b7 f7 => ?_
        have f47 := ((f4.trans0 f5).trans0 f6).trans0 f7
        have hlen : ts.length = 2 := by have := congrArg List.length hts; simpa using this
        refine TablesE_s (ts := ts) (us := [⟨sT, s5, [colA], 1⟩, ⟨sU, s6, [colA], 2⟩]) (o3.ext0 f47).sl.reads ⟨rfl, (fun e => by cases e), ?_⟩ (fun u hu => ⟨((hcl3 u hu).1.ext0 f47).reads, by have := (hcl3 u hu).2.1; omega⟩) (fun u hu => ?_) (by rw [hts]; rfl) (by omega) fun g8 f8 => ⟨_, rfl, ?_⟩
        · have := cellsAt_blk b7 (o := 0) (n := 2 * 3) (by simp)
          exact this
        · simp only [List.mem_cons, List.not_mem_nil, or_false] at hu
          rcases hu with rfl | rfl
          · exact (hc5.ext0 (f6.trans0 f7)).reads
          · exact (hc6.ext0 f7).reads
        · rw [if_pos rfl, if_pos (by decide)]
          have hS8 := (hS3.ext0 f47).ext0 f8
          have k38 : KG (fun b => b < h.size) g2 g8 := kg_ext0 ((f3.trans0 f47).trans0 f8) hS2.lt
          refine Unseen_v hS8 hok (by omega) 3 sU fun g9 s9 f9 o9 => ⟨s9, rfl, ?_⟩
          rw [head_un hab.u] at o9
          have h9 := o9.1
          rw [if_pos (by rw [h9]; rfl)]
          have hS9 := hS8.ext0 f9
          refine Drop_s hS9 hok (by omega) 3 sU fun g10 hS10 j10 => ⟨_, rfl, ?_⟩
          have hokd := hok.drop abL3 3 sU
          rw [(ab_drop hab).2] at hS10 hokd
          rw [(ab_drop hab).1, if_pos (by decide)]
          refine PutTab_s hS10 hokd (by omega) 3 sT 9 fun g11 hS11 j11 => ⟨_, rfl, ?_⟩
          rw [ab_last hab, if_pos (by decide)]
          refine wakes12_s fun g12 f12 => ⟨_, rfl, hQ g12 ?_⟩
          exact (kgx _ ((((kg2.trans k38).trans (kg_ext0 f9 hS8.lt)).trans j10).trans j11)).trans0 f12
      | succ d ih =>
        intro i g N hi hS kg hok hab
        refine hX _ _ ?_
        rw [if_pos (by simp; omega)]
        intro J34 hJ34
        have next : ∀ g2 N2, NvS (fun b => b < h.size) g2 cb t abL2 N2 → KG (fun b => b < h.size) g g2 → NOk (2 + (i + 1)) N2 → Ab N2 → J34 [] g2 := by
          intro g2 N2 hS2 j2 hok2 hab2
          refine hJ34 _ ?_
          rw [wrap64 (by omega) (by omega)]
          have := ih (i + 1) g2 N2 (by omega) hS2 (kg.trans j2) hok2 hab2
          simpa using this
        have hx := hc _ (List.getElem_mem (show i < xs.length by omega))
        obtain ⟨a, u1, u2⟩ := (hs.ext0 (kgx _ kg)).rd encSt_len (i := i) (by omega)
        rw [u1]
        simp only [nilW_some, Int.toNat_natCast, addr_add_add]
        generalize xs[i]'(by omega) = v at hx u2
        have hia : 0 ≤ (i : Int) ∧ (i : Int) < (s.n : Int) := by omega
        refine ⟨hia.1, hia.2, v.kind, u2 0 (by omega), ?_⟩
        by_cases h4 : v.kind = 4
        · rw [if_pos (by simp [h4])]
          refine ⟨hia.1, hia.2, v.t.name, u2 2 (by omega), ?_⟩
          refine Drop_s hS hok (by omega) 2 v.t.name fun g2 hS2 j2 => ⟨_, rfl, ?_⟩
          exact next g2 _ hS2 j2 ((hok.drop abL2 2 v.t.name).mono (by omega)) (hab.drop abL2 _)
        · rw [if_neg (by simp [h4])]
          refine ⟨hia.1, hia.2, v.t.name, u2 2 (by omega), v.t.s, u2 3 (by omega), v.t.rel, u2 4 (by omega), ?_⟩
          refine Put_s hS hok (by omega) 2 v.t (kg.reads hx fun hne b hb => reads_lt encC_len (by omega) hx hne b hb) (fun hne b hb => reads_lt encC_len (by omega) hx hne b hb) fun g2 hS2 j2 => ⟨_, rfl, ?_⟩
          exact next g2 _ hS2 j2 ((hok.put abL2 2 v.t.m).mono (by omega)) (hab.put abL2 _)
    exact key xs.length 0 h8 abN2 (by omega) hE8 k08 hok2 ab_start
end
end Go.Lift

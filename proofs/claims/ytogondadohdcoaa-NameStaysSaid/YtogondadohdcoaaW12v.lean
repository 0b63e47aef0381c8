/- NameStays. -/
import Derived.Test.YtogondadohdcoaaW12u
set_option linter.unusedSimpArgs false
set_option linter.unusedVariables false
namespace Go.Lift
open Go Go.Proofs Go.RowKit Go.Shelf
set_option maxRecDepth 100000
/-- Whose view it is, and what it saw. -/
def BF (G : Nat → Prop) (g : Hp) (L : LM) (N : NM) (me : Int) (was : Sl) : Prop :=
  me = 0 ∨ (me ≠ 0 ∧ hasL L me ∧ (txL L me).snap ≤ L.clock ∧ ∃ ts : List TW, Reads 3 encTW g was ts ∧ ts.length ≤ 2 ^ 30 ∧ (∀ b ∈ sBlk was, G b) ∧ (∀ u ∈ ts, Reads 7 encC g u.s u.cl ∧ ∀ b ∈ sBlk u.s, G b) ∧ ts.map TW.m = allN L N me)
section
variable {G G' : Nat → Prop} {h h' : Hp} {cb t : Nat} {L L' : LM} {N N' : NM} {me : Int} {was : Sl} {Q : List Value → Hp → Prop}
theorem BF.kg (hB : BF G h L N me was) (hk : KG G h h') : BF G h' L N me was := by
  rcases hB with hB | ⟨h1, h2, h3, ts, h4, h5, h6, h7, h8⟩
  · exact Or.inl hB
  · exact Or.inr ⟨h1, h2, h3, ts, hk.reads h4 fun _ => h6, h5, h6, fun u hu => ⟨hk.reads (h7 u hu).1 fun _ => (h7 u hu).2, (h7 u hu).2⟩, h8⟩
theorem BF.log (hB : BF G h L N me was) (hn : (N.map Prod.fst).Nodup) (hL : hasL L me → (txL L me).snap ≤ L.clock → SameFor L L' me ∧ hasL L' me ∧ (txL L' me).snap ≤ L'.clock) : BF G h L' N me was := by
  rcases hB with hB | ⟨h1, h2, h3, ts, h4, h5, h6, h7, h8⟩
  · exact Or.inl hB
  · obtain ⟨a, b, c⟩ := hL h2 h3
    exact Or.inr ⟨h1, b, c, ts, h4, h5, h6, h7, by rw [h8]; exact (all_same hn hn fun k => a.see N k).symm⟩
theorem BF.nam (hB : BF G h L N me was) (hn : (N.map Prod.fst).Nodup) (hn' : (N'.map Prod.fst).Nodup) (hs : me ≠ 0 → ∀ k, seT L N' me k = seT L N me k) : BF G h L N' me was := by
  rcases hB with hB | ⟨h1, h2, h3, ts, h4, h5, h6, h7, h8⟩
  · exact Or.inl hB
  · exact Or.inr ⟨h1, h2, h3, ts, h4, h5, h6, h7, by rw [h8]; exact (all_same hn hn' (hs h1)).symm⟩
theorem begin_clock (L : LM) (r : Bool) : (beginL L r).clock = L.clock := by unfold beginL; split <;> rfl
theorem begin_new {L : LM} (hL : L.l.length < 200) (r : Bool) : hasL (beginL L r) ((L.l.length : Int) + 1) ∧ (txL (beginL L r) ((L.l.length : Int) + 1)).snap ≤ (beginL L r).clock := by
  have hb : beginL L r = { L with l := L.l ++ [⟨1, 0, L.clock, r⟩] } := by unfold beginL; rw [if_neg (by omega)]
  rw [hb]
  have hh : hasL { L with l := L.l ++ [⟨1, 0, L.clock, r⟩] } ((L.l.length : Int) + 1) := ⟨by omega, by simp⟩
  refine ⟨hh, ?_⟩
  unfold txL
  rw [if_pos hh]
  have : ((L.l.length : Int) + 1).toNat - 1 = L.l.length := by omega
  rw [this, List.getElem?_append_right (by omega), Nat.sub_self]
  exact Int.le_refl _
theorem NameStays_s {s : Sl} {xs : List StN} (at_ : Int) (hat : 0 ≤ at_ ∧ at_ ≤ 255) (hs : Reads 5 encSt h s xs) (hc : ∀ x ∈ xs, Reads 7 encC h x.t.s x.t.cl) (hl : xs.length ≤ 9223372036854775807) (hQ : ∀ h', Ext [] h h' → Q [.bool true] h') : F_liverylaw12_NameStays s at_ h Q := by
  unfold F_liverylaw12_NameStays
  have hn := hs.1
  refine New08_s fun h1 cb hC1 e1 hcb => ⟨_, rfl, ?_⟩
  have hG1 : ∀ b, b < h.size → b < h1.size := fun b hb => by have := e1.sz; omega
  refine New12_s (G := fun b => b < h.size) hG1 hC1 (by omega) fun h2 t hE2 e2 => ⟨_, rfl, ?_⟩
  have e12 := e1.trans0 e2
  have k2 := kg_ext0 (G := fun b => b < h.size) e12 fun b hb => hb
  have kgx : ∀ g, KG (fun b => b < h.size) h g → Ext [] h g := fun g hk => ⟨hk.sz, fun b hb _ => hk.old b hb⟩
  intro J hJ
  rw [if_neg (by simp), if_neg (by simp)]
  refine Fair_s (hs.ext0 e12) (fun x hx => (hc x hx).ext0 e12) hl fun h3 b e3 hb => ⟨_, rfl, ?_⟩
  refine hJ _ _ ?_
  have hE3 := hE2.ext0 e3
  have k3 := k2.trans (kg_ext0 e3 hE2.lt)
  cases b with
  | false =>
    rw [if_pos (by rfl)]
    intro J2 hJ2
    rw [if_pos (by rfl), if_pos (by rfl)]
    refine wakes12_s fun h4 e4 => ⟨_, rfl, ?_⟩
    exact hJ2 _ _ (hQ h4 ((kgx _ k3).trans0 e4))
  | true =>
    rw [if_neg (by decide)]
    have h120 := hb rfl
    intro J16 hJ16
    have key16 : ∀ n17 : Int, J16 [.int .i64 n17] h3 := by
      intro n17
      refine hJ16 _ _ ?_
      intro X hX
      have key : ∀ d i g G' L N me was, d + i = xs.length → (∀ b, b < h.size → G' b) → NvS G' g cb t L N → KG (fun b => b < h.size) h g → okL (if (i : Int) ≤ n17 then i else i + 1) L → NOk i N → BF G' g L N me was → X [.int .i64 me, .slice was.a was.n was.c, .int .i64 (i : Int)] g := by
        intro d
        induction d with
        | zero =>
          intro i g G' L N me was hi hG hS kg hL hok hB
          refine hX _ was _ _ ?_
          rw [if_neg (by simp; omega)]
          exact wakes12_s fun h4 e4 => ⟨_, rfl, hQ h4 ((kgx _ kg).trans0 e4)⟩
        | succ d ih =>
          intro i g G' L N me was hi hG hS kg hL hok hB
          refine hX _ was _ _ ?_
          rw [if_pos (by simp; omega)]
          intro J24 hJ24
          have key24 : ∀ g1 G1 L1 N1 me1 was1, (∀ b, b < h.size → G1 b) → NvS G1 g1 cb t L1 N1 → KG (fun b => b < h.size) h g1 → okL (if ((i + 1 : Nat) : Int) ≤ n17 then i + 1 else i + 1 + 1) L1 → NOk (i + 1) N1 → BF G1 g1 L1 N1 me1 was1 → J24 [.int .i64 me1, .slice was1.a was1.n was1.c] g1 := by
            intro g1 G1 L1 N1 me1 was1 hG1 hS1 kg1 hL1 hok1 hB1
            refine hJ24 _ was1 _ ?_
            rw [wrap64 (by omega) (by omega)]
            have := ih (i + 1) g1 G1 L1 N1 me1 was1 (by omega) hG1 hS1 kg1 hL1 hok1 hB1
            simpa using this
          intro J28 hJ28
          have key28 : ∀ g1 G1 L1 N1 me1 was1, (∀ b, b < h.size → G1 b) → NvS G1 g1 cb t L1 N1 → KG (fun b => b < h.size) h g1 → okL (if (i : Int) < n17 then i else i + 1) L1 → NOk i N1 → BF G1 g1 L1 N1 me1 was1 → J28 [.int .i64 me1, .slice was1.a was1.n was1.c] g1 := by
            intro g1 G1 L1 N1 me1 was1 hG1 hS1 kg1 hL1 hok1 hB1
            refine hJ28 _ was1 _ ?_
            have hmono : ∀ L2, okL ((if (i : Int) < n17 then i else i + 1) + 1) L2 → okL (if ((i + 1 : Nat) : Int) ≤ n17 then i + 1 else i + 1 + 1) L2 := by
              intro L2 h2
              refine h2.mono ?_
              split <;> split <;> omega
            have hx := hc _ (List.getElem_mem (show i < xs.length by omega))
            obtain ⟨a, u1, u2⟩ := rdS5 (hs.ext0 (kgx _ kg1)) (i := i) (by omega)
            rw [u1]
            simp only [nilW_some, Int.toNat_natCast]
            refine ⟨by omega, by omega, u2 _ ?_⟩
            generalize xs[i]'(by omega) = v at hx
            refine newI fun g2 s2 b2 f2 => ?_
            refine st_blk b2 (by simp) fun g3 s3 b3 f3 => ?_
            have f13 : Ext [] g1 g3 := f2.trans f3 fun b hb hlt => by simp at hb; omega
            have hS3 := hS1.ext0 f13
            have kk13 : KG G1 g1 g3 := kg_ext0 f13 hS1.lt
            have kg3 : KG (fun b => b < h.size) h g3 := kg1.trans (kk13.anti hG1)
            have hB3 := hB1.kg kk13
            have b3' : Blk g3 g1.size (encSt v).toArray T_liverylaw12_Step := b3
            intro J40 hJ40
            have key40 : (me1 ≠ 0 → v.xid ≠ me1) → J40 [.bool false] g3 := by
              intro hvm
              refine hJ40 _ _ ?_
              rw [if_neg (by decide)]
              refine ⟨v.kind, by simp [rd_blk b3'], ?_⟩
              intro J44 hJ44
              have key44 : ∀ g4 L4 N4, NvS G1 g4 cb t L4 N4 → KG G1 g3 g4 → okL ((if (i : Int) < n17 then i else i + 1) + 1) L4 → NOk (i + 1) N4 → BF G1 g4 L4 N4 me1 was1 → J44 [] g4 := by
                intro g4 L4 N4 hS4 k34 hL4 hok4 hB4
                refine hJ44 _ ?_
                have kg4 : KG (fun b => b < h.size) h g4 := kg3.trans (k34.anti hG1)
                intro J46 hJ46
                have key46 : ∀ g5, Ext [] g4 g5 → J46 [.bool false] g5 := by
                  intro g5 f5
                  refine hJ46 _ _ ?_
                  rw [if_neg (by decide)]
                  have kk5 : KG G1 g4 g5 := kg_ext0 f5 hS4.lt
                  exact key24 g5 G1 L4 N4 me1 was1 hG1 (hS4.ext0 f5) (kg4.trans (kk5.anti hG1)) (hmono _ hL4) hok4 (hB4.kg kk5)
                rcases hB4 with h0 | ⟨p1, p2, p3, ts, p4, p5, p6, p7, p8⟩
                · rw [if_neg (by simp [h0])]
                  exact key46 g4 (Ext.refl _ _)
                · rw [if_pos (by simp [p1])]
                  refine All_s hS4 hok4 (by omega) me1 fun g5 s5 us f5 o5 hcl5 hus => ⟨s5, rfl, ?_⟩
                  refine TablesE_s o5.sl.reads (p4.ext0 f5) (fun u hu => ⟨(hcl5 u hu).1.reads, by have := (hcl5 u hu).2.1; omega⟩) (fun u hu => (p7 u hu).1.ext0 f5) (by rw [hus, p8]) ?_ fun g6 f6 => ⟨_, rfl, key46 g6 (f5.trans0 f6)⟩
                  have h1 := congrArg List.length hus
                  have h2 := congrArg List.length p8
                  rw [List.length_map] at h1 h2
                  omega
              by_cases hk0 : v.kind = 0
              · rw [if_pos (by simp [hk0])]
                refine Begin_s hS3.cl false fun g4 hC4 f4 _ => ⟨_, _, rfl, ?_⟩
                obtain ⟨hS4, k4⟩ := hS3.log hC4 f4
                exact key44 g4 _ N1 hS4 k4 (hL1.begin false) (hok1.mono (by omega)) ((hB3.log hok1.nd fun a b => ⟨(same_begin a false).1, (same_begin a false).2.1, by rw [(same_begin a false).2.2, begin_clock]; exact b⟩).kg k4)
              rw [if_neg (by simp [hk0])]
              have hvx : ∀ {LL : LM}, hasL LL me1 → v.xid ≠ me1 := fun hh => hvm (by have := hh.1; omega)
              have hclk : L1.clock < 2 ^ 40 := by
                have := hL1.2
                have h3 : (if (i : Int) < n17 then i else i + 1) ≤ i + 1 := by split <;> omega
                omega
              by_cases hk1 : v.kind = 1
              · rw [if_pos (by simp [hk1])]
                refine ⟨v.xid, by simp [rd_blk b3'], ?_⟩
                refine Commit_s hS3.cl v.xid hclk fun g4 hC4 f4 _ => ⟨_, _, rfl, ?_⟩
                obtain ⟨hS4, k4⟩ := hS3.log hC4 f4
                exact key44 g4 _ N1 hS4 k4 (hL1.commit _) (hok1.mono (by omega)) ((hB3.log hok1.nd fun a b => same_commit a b (hvx a)).kg k4)
              rw [if_neg (by simp [hk1])]
              by_cases hk2 : v.kind = 2
              · rw [if_pos (by simp [hk2])]
                refine ⟨v.xid, by simp [rd_blk b3'], ?_⟩
                refine Abort_s hS3.cl v.xid fun g4 hC4 f4 _ => ⟨_, rfl, ?_⟩
                obtain ⟨hS4, k4⟩ := hS3.log hC4 f4
                exact key44 g4 _ N1 hS4 k4 (hL1.abort _) (hok1.mono (by omega)) ((hB3.log hok1.nd fun a b => same_abort a b (hvx a)).kg k4)
              rw [if_neg (by simp [hk2])]
              by_cases hk3 : v.kind = 3
              · rw [if_pos (by simp [hk3])]
                refine ⟨v.xid, by simp [rd_blk b3'], v.t.name, by simp [rd_blk b3'], v.t.s, by simp [rd_blk b3'], v.t.rel, by simp [rd_blk b3'], ?_⟩
                refine Put_s hS3 hok1 (by omega) v.xid v.t (kg3.reads hx fun hne b hb => reads_lt encC_len (by omega) hx hne b hb) (fun hne b hb => hG1 b (reads_lt encC_len (by omega) hx hne b hb)) fun g4 hS4 k4 => ⟨_, rfl, ?_⟩
                have hok4 := hok1.put L1 v.xid v.t.m
                exact key44 g4 L1 _ hS4 k4 (hL1.mono (by omega)) hok4 ((hB3.nam hok1.nd hok4.nd fun hm k => see_put (hvm hm) _ k).kg k4)
              rw [if_neg (by simp [hk3])]
              by_cases hk4 : v.kind = 4
              · rw [if_pos (by simp [hk4])]
                refine ⟨v.xid, by simp [rd_blk b3'], v.t.name, by simp [rd_blk b3'], ?_⟩
                refine Drop_s hS3 hok1 (by omega) v.xid v.t.name fun g4 hS4 k4 => ⟨_, rfl, ?_⟩
                have hok4 := hok1.drop L1 v.xid v.t.name
                exact key44 g4 L1 _ hS4 k4 (hL1.mono (by omega)) (hok4.mono (by omega)) ((hB3.nam hok1.nd hok4.nd fun hm k => see_drop (hvm hm) _ k).kg k4)
              rw [if_neg (by simp [hk4])]
              exact key44 g3 L1 N1 hS3 (KG.refl _ _) (hL1.mono (by omega)) (hok1.mono (by omega)) hB3
            by_cases hm0 : me1 = 0
            · rw [if_neg (by simp [hm0])]
              exact key40 fun hh => absurd hm0 hh
            · rw [if_pos (by simp [hm0])]
              refine ⟨v.xid, by simp [rd_blk b3'], ?_⟩
              by_cases hvm : v.xid = me1
              · have : (v.xid == me1) = true := by simp [hvm]
                rw [this]
                refine hJ40 _ _ ?_
                rw [if_pos rfl]
                exact key24 g3 G1 L1 N1 me1 was1 hG1 hS3 kg3 (hmono _ (hL1.mono (by omega))) (hok1.mono (by omega)) hB3
              · have : (v.xid == me1) = false := by simp [hvm]
                rw [this]
                exact key40 fun _ => hvm
          by_cases hik : (i : Int) = n17
          · rw [if_pos (by simp [hik])]
            have hLi : okL i L := by rw [if_pos (by omega)] at hL; exact hL
            have h200 : ¬ L.l.length = 200 := by have := hLi.1; omega
            refine Begin_s hS.cl true fun g1 hC1 f1 _ => ⟨_, _, rfl, ?_⟩
            obtain ⟨hS1, k1⟩ := hS.log hC1 f1
            rw [if_neg h200, if_neg h200, if_neg (by decide)]
            refine All_s hS1 hok (by omega) _ fun g2 s2 ts f2 o2 hcl2 hts => ⟨s2, rfl, ?_⟩
            have hnew := begin_new (L := L) (by have := hLi.1; omega) true
            have hz2 := f2.sz
            refine key28 g2 (GX G' g1 g2) (beginL L true) N _ s2 (fun b hb => Or.inl (hG b hb)) (hS1.more f2) ((kg.trans (k1.anti hG)).trans ((kg_ext0 f2 hS1.lt).anti hG)) (by rw [if_neg (by omega)]; exact hLi.begin true) hok ?_
            refine Or.inr ⟨by omega, hnew.1, hnew.2, ts, o2.sl.reads, ?_, fun b hb => Or.inr ?_, fun u hu => ⟨(hcl2 u hu).1.reads, fun b hb => Or.inr ⟨(hcl2 u hu).2.2 b hb, ?_⟩⟩, hts⟩
            · have h1 := congrArg List.length hts
              rw [List.length_map] at h1
              have h2 : (allN (beginL L true) N ((L.l.length : Int) + 1)).length ≤ N.length := by
                unfold allN
                refine Nat.le_trans (List.length_filterMap_le _ _) ?_
                rw [sortC_len]
                exact Nat.le_trans (List.length_filter_le _ _) (by simp)
              have := hok.len
              omega
            · exact own_ltG o2 b hb
            · obtain ⟨a, q1, q2⟩ := mem_sBlk.1 hb
              obtain ⟨b', o', c', fz, w1, w2, _⟩ := (hcl2 u hu).1.2.2 a q1
              rw [w1] at q2
              simp only at q2
              subst q2
              exact blk_lt w2
          · rw [if_neg (by simp [hik])]
            refine key28 g G' L N me was hG hS kg ?_ hok hB
            have e1 : (if (i : Int) ≤ n17 then i else i + 1) = (if (i : Int) < n17 then i else i + 1) := by
              split <;> split <;> omega
            rw [← e1]
            exact hL
      have := key xs.length 0 h3 (fun b => b < h.size) ⟨[], 0⟩ [] 0 ⟨none, 0, 0⟩ (by omega) (fun b hb => hb) hE3 k3 ⟨by simp, by simp⟩ nok_nil (Or.inl rfl)
      simpa using this
    split
    · rename_i h0
      refine ⟨by simp at h0; omega, key16 _⟩
    · exact key16 _
end
end Go.Lift

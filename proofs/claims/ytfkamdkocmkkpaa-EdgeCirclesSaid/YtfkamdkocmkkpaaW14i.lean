/- EdgeBeside. -/
import Derived.Test.YtfkamdkocmkkpaaW14h
set_option linter.unusedSimpArgs false
set_option linter.unusedVariables false
namespace Go.Lift
open Go Go.Proofs Go.RowKit Go.Shelf
set_option maxRecDepth 100000
structure StepE where
  kind : Int
  a : Int
  b : Int
  reads : Bool
abbrev encStE (x : StepE) : List Value := [.int .i64 x.kind, .int .i64 x.a, .int .i64 x.b, .bool x.reads]
theorem encStE_len (x : StepE) : (encStE x).length = 4 := rfl
theorem firstE_pos {n : Nat} {L : LM} {E : EM} (hk : LOk n L) (p : Int) : firstE L E p = 0 ∨ (1 ≤ firstE L E p ∧ ∃ t3 ∈ outE E p, (txL L t3).csn = firstE L E p ∧ (txL L t3).state = 2 ∧ ((txL L p).csn = 0 ∨ (txL L t3).csn < (txL L p).csn)) := by
  have key : ∀ (l : List Int) (a : Int), (a = 0 ∨ (1 ≤ a ∧ ∃ t3 ∈ outE E p, (txL L t3).csn = a ∧ (txL L t3).state = 2 ∧ ((txL L p).csn = 0 ∨ (txL L t3).csn < (txL L p).csn))) → (∀ t ∈ l, t ∈ outE E p) →
      (l.foldl (stepF L p) a = 0 ∨ (1 ≤ l.foldl (stepF L p) a ∧ ∃ t3 ∈ outE E p, (txL L t3).csn = l.foldl (stepF L p) a ∧ (txL L t3).state = 2 ∧ ((txL L p).csn = 0 ∨ (txL L t3).csn < (txL L p).csn))) := by
    intro l
    induction l with
    | nil => intro a h _; exact h
    | cons t l ih =>
      intro a h hl
      rw [List.foldl_cons]
      refine ih _ ?_ fun t ht => hl t (by simp [ht])
      unfold stepF
      split
      · exact h
      · rename_i hc
        split
        · refine Or.inr ⟨?_, t, hl t (by simp), rfl, ?_, ?_⟩
          · have hs : (txL L t).state = 2 := Classical.byContradiction fun hs => hc (Or.inl (hk.csn0 t hs))
            have hh : hasL L t := (has_state hk).2 (by omega)
            have := hk.csn t hh hs
            omega
          · exact Classical.byContradiction fun hs => hc (Or.inl (hk.csn0 t hs))
          · refine Classical.byContradiction fun hn => hc (Or.inr ⟨fun e => hn (Or.inl e), by omega⟩)
        · exact h
  exact key (outE E p) 0 (Or.inl rfl) fun _ h => h
theorem spFold_ok (L : LM) (csn : Int) : ∀ (l : List Int) (acc : List Int × Bool), (l.foldl (spStep L csn) acc).2 = true → acc.2 = true ∨ ∃ t ∈ l, ¬ ((txL L t).state = 3 ∨ ((txL L t).state = 2 ∧ (txL L t).csn < csn)) ∧ ¬ ((txL L t).reads = true ∧ (txL L t).snap < csn)
  | [], acc, h => Or.inl h
  | t :: l, acc, h => by
    rw [List.foldl_cons] at h
    rcases spFold_ok L csn l _ h with h1 | ⟨u, hu, h2⟩
    · unfold spStep at h1
      split at h1
      · exact Or.inl h1
      · rename_i q1
        split at h1
        · exact Or.inl h1
        · rename_i q2
          exact Or.inr ⟨t, by simp, q1, q2⟩
    · exact Or.inr ⟨u, by simp [hu], h2⟩
theorem spFold_true (L : LM) (csn : Int) : ∀ (l : List Int) (acc : List Int × Bool), (acc.2 = true ∨ ∃ t ∈ l, ¬ ((txL L t).state = 3 ∨ ((txL L t).state = 2 ∧ (txL L t).csn < csn)) ∧ ¬ ((txL L t).reads = true ∧ (txL L t).snap < csn)) → (l.foldl (spStep L csn) acc).2 = true
  | [], acc, h => by
    rcases h with h | ⟨t, ht, _⟩
    · exact h
    · cases ht
  | t :: l, acc, h => by
    rw [List.foldl_cons]
    refine spFold_true L csn l _ ?_
    rcases h with h | ⟨u, hu, h2, h3⟩
    · refine Or.inl ?_
      unfold spStep
      split
      · exact h
      · split
        · exact h
        · rfl
    · rcases List.mem_cons.1 hu with rfl | hu
      · refine Or.inl ?_
        unfold spStep
        rw [if_neg h2, if_neg h3]
      · exact Or.inr ⟨u, hu, h2, h3⟩
def someB (L : LM) (t : Int) : Bool := !(txL L t).reads || decide ((txL L t).snap > 0)
theorem spoilt_some {n : Nat} {L : LM} {E : EM} (hk : LOk n L) (ho : E.old = []) {p : Int} (h : (spoiltE L E p).2 = true) : (inE E p).any (someB L) = true ∧ outE E p ≠ [] := by
  unfold spoiltE at h
  split at h
  · cases h
  · split at h
    · cases h
    · rename_i h0
      rcases firstE_pos (E := E) hk p with g | ⟨g1, t3, g2, _⟩
      · exact absurd g h0
      refine ⟨?_, fun e => by rw [e] at g2; cases g2⟩
      rcases spFold_ok L _ _ _ h with h1 | ⟨t, ht, q1, q2⟩
      · simp only [decide_eq_true_eq] at h1
        have : oldE E p = 0 := by unfold oldE; rw [ho]; rfl
        omega
      · refine List.any_eq_true.2 ⟨t, ht, ?_⟩
        unfold someB
        cases hr : (txL L t).reads with
        | false => rfl
        | true =>
          rw [Bool.not_true, Bool.false_or, decide_eq_true_eq]
          have : ¬ (txL L t).snap < firstE L E p := fun hh => q2 ⟨hr, hh⟩
          omega
def stepB (LE : LM × EM) (x : StepE) : LM × EM :=
  if x.kind = 0 then (beginL LE.1 x.reads, LE.2)
  else if x.kind = 1 then (commitL LE.1 x.a, LE.2)
  else if x.kind = 2 then (abortL LE.1 x.a, dropE LE.2 x.a)
  else if x.kind = 3 then (LE.1, addE LE.1 LE.2 x.a x.b)
  else LE
/-- What the law's log and edges keep to, after so many steps. -/
structure BOk (n : Nat) (L : LM) (E : EM) : Prop where
  lk : LOk n L
  ek : EOk n E
  bi : BI L E
  od : E.old = []
theorem BOk.step {n : Nat} {L : LM} {E : EM} (h : BOk n L E) (x : StepE) : BOk (n + 1) (stepB (L, E) x).1 (stepB (L, E) x).2 := by
  unfold stepB
  split
  · exact ⟨(h.lk.begin _).up (by omega), h.ek.up (by omega), fun q hq => beside_begin _ (h.bi q hq), h.od⟩
  split
  · exact ⟨h.lk.commit _, h.ek.up (by omega), fun q hq => beside_commit h.lk _ (h.bi q hq), h.od⟩
  split
  · refine ⟨(h.lk.abort _).up (by omega), (h.ek.drop _).up (by omega), BI.drop fun q hq h1 h2 => beside_abort h1 h2 (h.bi q hq), ?_⟩
    show adel E.old x.a = []
    rw [h.od]
    rfl
  split
  · refine ⟨h.lk.up (by omega), h.ek.add _ _, ?_, ?_⟩
    · simp only
      unfold addE
      split
      · rename_i hh
        intro q hq
        rcases List.mem_append.1 hq with hq | hq
        · exact h.bi q hq
        · simp at hq
          rw [hq]
          exact hh.1
      · exact h.bi
    · simp only
      unfold addE
      split
      · exact h.od
      · exact h.od
  · exact ⟨h.lk.up (by omega), h.ek.up (by omega), h.bi, h.od⟩
section
variable {h h' : Hp} {cb e : Nat} {L : LM} {E : EM} {Q : List Value → Hp → Prop}
theorem rdStE {s : Sl} {xs : List StepE} (hs : Reads 4 encStE h s xs) {i : Nat} (hi : i < xs.length) : ∃ a, s.a = some a ∧ rd h (Addr.add (Addr.add a (i * 4)) 0) = some (.int .i64 xs[i].kind) ∧ rd h (Addr.add (Addr.add a (i * 4)) 1) = some (.int .i64 xs[i].a) ∧ rd h (Addr.add (Addr.add a (i * 4)) 2) = some (.int .i64 xs[i].b) ∧ rd h (Addr.add (Addr.add a (i * 4)) 3) = some (.bool xs[i].reads) := by
  obtain ⟨a, h1, h2⟩ := hs.rd encStE_len hi
  have r : ∀ k, k < 4 → rd h (Addr.add (Addr.add a (i * 4)) k) = (encStE xs[i])[k]? := fun k hk => by rw [addr_add_add]; exact h2 k hk
  exact ⟨a, h1, r 0 (by omega), r 1 (by omega), r 2 (by omega), r 3 (by omega)⟩
theorem EdgeBeside_s {s : Sl} {xs : List StepE} (hs : Reads 4 encStE h s xs) (hl : xs.length ≤ 9223372036854775807) (hQ : ∀ h', Ext [] h h' → Q [.bool true] h') : F_liverylaw14_EdgeBeside s h Q := by
  unfold F_liverylaw14_EdgeBeside
  refine New08_s fun h1 cb hC1 e1 hcb => ⟨_, rfl, ?_⟩
  have hG1 : ∀ b, b < h.size → b < h1.size := fun b hb => by have := e1.sz; omega
  refine New14_s (G := fun b => b < h.size) hG1 hC1 (by omega) fun h2 e hE2 e2 => ⟨_, rfl, ?_⟩
  have k2 := kg_ext0 (G := fun b => b < h.size) (e1.trans0 e2) fun b hb => hb
  have kgx : ∀ g, KG (fun b => b < h.size) h g → Ext [] h g := fun g hk => ⟨hk.sz, fun b hb _ => hk.old b hb⟩
  have hn := hs.1
  intro J hJ
  rw [if_neg (by simp), if_neg (by simp)]
  refine hJ _ _ ?_
  by_cases hlong : (s.n : Int) > 100
  · rw [if_pos (by simpa using hlong)]
    intro J10 hJ10
    rw [if_pos (by simp), if_pos (by simp)]
    exact wakes14_s fun h3 e3 => ⟨_, rfl, hJ10 _ _ (hQ h3 ((e1.trans0 e2).trans0 e3))⟩
  rw [if_neg (by simpa using hlong)]
  intro X hX
  have ok0 : BOk 0 ⟨[], 0⟩ ⟨[], []⟩ := ⟨lok_new, ⟨by simp, by simp, by simp⟩, fun q hq => (by cases hq), rfl⟩
  refine loopI xs.length (fun i g => ∃ L E, BOk i L E ∧ EvS (fun b => b < h.size) g cb e L E ∧ KG (fun b => b < h.size) h g) ?_ ?_ h2 ⟨_, _, ok0, hE2, k2⟩
  · rintro g ⟨L, E, hok, hE, kg⟩
    refine hX _ _ ?_
    rw [if_neg (by simp; omega)]
    intro Y hY
    have key : ∀ d (i : Nat) g', d + i = 13 → 1 ≤ i → Ext [] g g' → Y [.int .i64 (i : Int)] g' := by
      intro d
      induction d with
      | zero =>
        intro i g' hi h1 eg'
        refine hY _ _ ?_
        rw [if_neg (by simp; omega)]
        exact wakes14_s fun h3 e3 => ⟨_, rfl, hQ h3 (((kgx _ kg).trans0 eg').trans0 e3)⟩
      | succ d ih =>
        intro i g' hi h1 eg'
        refine hY _ _ ?_
        rw [if_pos (by simp; omega)]
        intro J75 hJ75
        have j75 : ∀ g2, Ext [] g' g2 → J75 [] g2 := by
          intro g2 e2
          refine hJ75 _ ?_
          rw [wrap64 (by omega) (by omega)]
          exact ih (i + 1) g2 (by omega) (by omega) (eg'.trans0 e2)
        have hE' := hE.ext0 eg'
        refine Spoilt_s hE' hok.ek (by omega) (i : Int) fun g2 s2 e2 _ => ⟨s2, _, rfl, ?_⟩
        have hE2 := hE'.ext0 e2
        cases hsp : (spoiltE L E (i : Int)).2 with
        | false =>
          rw [if_neg (by decide)]
          exact j75 g2 e2
        | true =>
          rw [if_pos rfl]
          obtain ⟨f1, f2⟩ := spoilt_some hok.lk hok.od hsp
          refine In_s hE2 hok.ek (by omega) (i : Int) fun g3 s3 e3 ho3 => ⟨s3, rfl, ?_⟩
          have hE3 := hE2.ext0 e3
          refine Old14_s hE3 (i : Int) ⟨_, rfl, ?_⟩
          have hold : oldE E (i : Int) = 0 := by unfold oldE; rw [hok.od]; rfl
          rw [hold]
          have hn3 := ho3.1
          have hl3 := (inE_len hok.ek (i : Int)).1
          intro Z hZ
          have e13 := e2.trans0 e3
          refine loopV (A := Bool) (va := fun b => [.bool b]) (inE E (i : Int)).length (fun k b g4 => Ext [] g3 g4 ∧ b = ((inE E (i : Int)).take k).any (someB L)) ?_ ?_ (decide ((0 : Int) > 0)) g3 ⟨Ext.refl _ _, by simp⟩
          · rintro b g4 ⟨e4, rfl⟩
            refine hZ _ _ _ ?_
            rw [if_neg (by simp; omega), List.take_of_length_le (Nat.le_refl _), f1]
            intro J104 hJ104
            rw [if_neg (by decide)]
            refine Out_s (hE3.ext0 e4) hok.ek (by omega) (i : Int) fun g5 s5 e5 ho5 => ⟨s5, rfl, ?_⟩
            have hn5 := ho5.1
            have hne : ((s5.n : Int) == 0) = false := by
              have : (outE E (i : Int)).length ≠ 0 := fun e => f2 (List.eq_nil_of_length_eq_zero e)
              simp
              omega
            rw [hne]
            refine hJ104 _ _ ?_
            rw [if_neg (by decide)]
            exact j75 g5 ((e13.trans0 e4).trans0 e5)
          · rintro k b g4 hk ⟨e4, rfl⟩ hnext
            refine hZ _ _ _ ?_
            rw [if_pos (by simp; omega)]
            intro J91 hJ91
            obtain ⟨t, ht⟩ : ∃ t, (inE E (i : Int))[k] = t := ⟨_, rfl⟩
            have hst := any_step (someB L) (inE E (i : Int)) hk
            rw [ht] at hst
            have j91 : ∀ g5 bb, Ext [] g4 g5 → bb = ((inE E (i : Int)).take (k + 1)).any (someB L) → J91 [.bool bb] g5 := by
              intro g5 bb e5 hb
              refine hJ91 _ _ ?_
              rw [wrap64 (by omega) (by omega)]
              exact hnext bb g5 ⟨e4.trans0 e5, hb⟩
            cases hb : ((inE E (i : Int)).take k).any (someB L) with
            | true =>
              rw [if_pos rfl]
              exact j91 g4 _ (Ext.refl _ _) (by rw [hst, hb, Bool.true_or])
            | false =>
              rw [if_neg (by decide)]
              rw [hb, Bool.false_or] at hst
              obtain ⟨ad, ha, hrd⟩ := rdI (ho3.ext0 e4).sl.reads hk
              rw [ht] at hrd
              rw [ha]
              simp only [nilW_some]
              refine ⟨by omega, by omega, ?_⟩
              rw [Int.toNat_natCast]
              refine ⟨_, hrd, ?_⟩
              have hE4 := hE3.ext0 e4
              refine Reads_s hE4.cl t fun g5 e5 => ⟨_, rfl, ?_⟩
              have hE5 := hE4.ext0 e5
              cases hr : (txL L t).reads with
              | false =>
                rw [if_pos (by decide)]
                exact j91 g5 _ e5 (by rw [hst]; unfold someB; rw [hr]; rfl)
              | true =>
                rw [if_neg (by decide)]
                obtain ⟨ad2, ha2, hrd2⟩ := rdI ((ho3.ext0 e4).ext0 e5).sl.reads hk
                rw [ht] at hrd2
                rw [ha] at ha2
                cases ha2
                refine ⟨by omega, by omega, _, hrd2, ?_⟩
                refine Snapshot_s hE5.cl t fun g6 e6 => ⟨_, rfl, ?_⟩
                exact j91 g6 _ (e5.trans0 e6) (by rw [hst]; unfold someB; rw [hr]; rfl)
    have := key 12 1 g (by omega) (by omega) (Ext.refl _ _)
    simpa using this
  · rintro i g hi ⟨L, E, hok, hE, kg⟩ hnext
    refine hX _ _ ?_
    rw [if_pos (by simp; omega)]
    obtain ⟨a, ha, r0, r1, r2, r3⟩ := rdStE (hs.ext0 (kgx _ kg)) hi
    rw [ha]
    simp only [nilW_some]
    refine ⟨by omega, by omega, ?_⟩
    rw [Int.toNat_natCast]
    refine ⟨_, r0, _, r1, _, r2, _, r3, ?_⟩
    obtain ⟨x, hx⟩ : ∃ x, xs[i] = x := ⟨_, rfl⟩
    rw [hx]
    have hok' := hok.step x
    refine newI fun g1 s1 b1 e1' => ?_
    refine st_blk b1 (by simp) fun g2 s2 b2 e2' => ?_
    have e12 : Ext [] g g2 := e1'.trans e2' fun b hb hlt => by simp at hb; omega
    have b2' : Blk g2 g.size (encStE x).toArray T_liverylaw14_Step := b2
    have rr : ∀ k, rd g2 (Addr.add (Addr.mk g.size 0 none) k) = (encStE x)[k]? := fun k => by rw [addr_mk, rd_blk b2', Nat.zero_add]; simp
    have kgl := kg.trans (kg_ext0 e12 hE.lt)
    -- the cell stays
    have hE2 := hE.more e12
    have hgx : ∀ b, b < h.size → GX (fun b => b < h.size) g g2 b := fun b hb => Or.inl hb
    have hgc : GX (fun b => b < h.size) g g2 g.size := Or.inr ⟨Nat.le_refl _, blk_lt b2'⟩
    generalize GX (fun b => b < h.size) g g2 = G2 at hE2 hgx hgc
    refine ⟨_, rr 0, ?_⟩
    intro J27 hJ27
    -- all edges are looked at
    have fin : ∀ g3, EvS G2 g3 cb e (stepB (L, E) x).1 (stepB (L, E) x).2 → KG (fun b => b < h.size) h g3 → J27 [] g3 := by
      intro g3 hE3 k3
      refine hJ27 _ ?_
      generalize (stepB (L, E) x).1 = L1 at *
      generalize (stepB (L, E) x).2 = E1 at *
      refine All_s hE3 hok'.ek (by omega) fun g4 s4 e4 ho4 => ⟨s4, rfl, ?_⟩
      have hn4 := ho4.1
      have hl4 : (allE E1).length = E1.m.length := sortC_len
      have hle := hok'.ek.len
      have hE4 := hE3.ext0 e4
      intro Y hY
      refine loopI (allE E1).length (fun _ g5 => Ext [] g4 g5) ?_ ?_ g4 (Ext.refl _ _)
      · intro g5 e5
        refine hY _ _ ?_
        rw [if_neg (by simp; omega), wrap64 (by omega) (by omega)]
        have e45 := e4.trans0 e5
        exact hnext g5 ⟨L1, E1, hok', (hE3.ext0 e45).anti hgx, k3.trans (kg_ext0 e45 fun b hb => hE3.lt b (hgx b hb))⟩
      · intro j g5 hj e5 hnext2
        refine hY _ _ ?_
        rw [if_pos (by simp; omega)]
        obtain ⟨ad, ha, hrd⟩ := (ho4.ext0 e5).sl.reads.rd encP_len hj
        have q0 := hrd 0 (by omega)
        have q1 := hrd 1 (by omega)
        rw [ha]
        simp only [nilW_some, Int.toNat_natCast]
        have w0 : rd g5 (Addr.add (Addr.add ad (j * 2)) (Int.toNat 0 * 1)) = some (.int .i64 (allE E1)[j].1) := by rw [addr_add_add]; exact q0
        have w1 : rd g5 (Addr.add (Addr.add ad (j * 2)) (Int.toNat 1 * 1)) = some (.int .i64 (allE E1)[j].2) := by rw [addr_add_add]; exact q1
        refine ⟨by omega, by omega, by decide, by decide, _, w0, by omega, by omega, by decide, by decide, _, w1, ?_⟩
        refine Beside_s (hE4.ext0 e5).cl _ _ ⟨_, rfl, ?_⟩
        have hm : (allE E1)[j] ∈ E1.m := sortC_mem.1 (List.getElem_mem hj)
        rw [hok'.bi _ hm, if_neg (by decide), wrap64 (by omega) (by omega)]
        exact hnext2 g5 e5
    unfold stepB at fin
    by_cases c0 : x.kind = 0
    · rw [if_pos (by simpa using c0)]
      rw [if_pos c0] at fin
      refine ⟨_, rr 3, ?_⟩
      refine Begin_s hE2.cl x.reads fun g3 hC3 e3 _ => ⟨_, _, rfl, ?_⟩
      obtain ⟨w1, w2⟩ := hE2.log hC3 e3
      exact fin g3 w1 (kgl.trans (w2.anti hgx))
    rw [if_neg (by simpa using c0)]
    rw [if_neg c0] at fin
    by_cases c1 : x.kind = 1
    · rw [if_pos (by simpa using c1)]
      rw [if_pos c1] at fin
      refine ⟨_, rr 1, ?_⟩
      refine Commit_s hE2.cl x.a (by have := hok.lk.clk; omega) fun g3 hC3 e3 _ => ⟨_, _, rfl, ?_⟩
      obtain ⟨w1, w2⟩ := hE2.log hC3 e3
      exact fin g3 w1 (kgl.trans (w2.anti hgx))
    rw [if_neg (by simpa using c1)]
    rw [if_neg c1] at fin
    by_cases c2 : x.kind = 2
    · rw [if_pos (by simpa using c2)]
      rw [if_pos c2] at fin
      refine ⟨_, rr 1, ?_⟩
      refine Abort_s hE2.cl x.a fun g3 hC3 e3 _ => ⟨_, rfl, ?_⟩
      obtain ⟨w1, w2⟩ := hE2.log hC3 e3
      have b3 := w2.get b2' hgc
      refine ⟨x.a, by rw [addr_mk, rd_blk b3]; rfl, ?_⟩
      refine Drop14_s w1 hok.ek x.a fun g4 w3 w4 => ⟨rfl, ?_⟩
      exact fin g4 w3 ((kgl.trans (w2.anti hgx)).trans (w4.anti hgx))
    rw [if_neg (by simpa using c2)]
    rw [if_neg c2] at fin
    by_cases c3 : x.kind = 3
    · rw [if_pos (by simpa using c3)]
      rw [if_pos c3] at fin
      intro J59 hJ59
      refine ⟨_, rr 1, _, rr 2, ?_⟩
      refine Add_s hE2 x.a x.b fun g3 w1 w2 => ⟨_, rfl, ?_⟩
      have j59 : J59 [.bool false] g3 := by
        refine hJ59 _ _ ?_
        rw [if_neg (by decide)]
        exact fin g3 w1 (kgl.trans (w2.anti hgx))
      by_cases hb : besideL L x.a x.b = true ∧ (x.a, x.b) ∉ E.m
      · rw [if_pos (by simpa using hb)]
        have b3 := w2.get b2' hgc
        refine ⟨x.a, by rw [addr_mk, rd_blk b3]; rfl, x.b, by rw [addr_mk, rd_blk b3]; rfl, ?_⟩
        refine Beside_s w1.cl x.a x.b ⟨_, rfl, ?_⟩
        rw [hb.1]
        exact j59
      · rw [if_neg (by simpa using hb)]
        exact j59
    rw [if_neg (by simpa using c3)]
    rw [if_neg c3] at fin
    exact fin g2 hE2 kgl
end
end Go.Lift

/- HeapClean: the law. -/
import Derived.Test.YteopnfdhaeoodaaC09y
set_option linter.unusedSimpArgs false
set_option linter.unusedVariables false
namespace Go.Lift
open Go Go.Proofs
set_option maxRecDepth 100000
theorem begin_clock (L : LogM) (b : Bool) : (L.begin b).clock = L.clock := by unfold LogM.begin; split <;> rfl
theorem abort_clock (L : LogM) (x : Int) : (L.abort x).clock = L.clock := by unfold LogM.abort; split <;> rfl
theorem commit_clock (L : LogM) (x : Int) : (L.commit x).clock ≤ L.clock + 1 := by
  unfold LogM.commit
  split
  · show L.clock + 1 ≤ L.clock + 1; omega
  · omega
theorem begin_running {L : LogM} (b : Bool) (h : L.n ≠ 200) : ((L.n : Int) + 1) ∈ (L.begin b).running := by
  unfold LogM.begin
  rw [if_neg h]
  unfold LogM.running
  rw [List.mem_filter]
  refine ⟨nums_mem.2 ⟨by omega, by simp⟩, ?_⟩
  simp only [LogM.runs, updF]
  rw [if_pos (by omega)]
  rfl
section
variable {h : Hp} {p r m : Nat} {L : LogM} {R : RelM} {Q : List Value → Hp → Prop}
theorem running_len (hn : L.n ≤ 200) : L.running.length ≤ 200 := by
  have := List.length_filter_le L.runs (nums L.n)
  unfold LogM.running
  simp [nums] at this ⊢
  omega
theorem other_map {T : TypeId} (hr : IsRel h r m R) : Other T h [m] := by
  obtain ⟨C, hc, hT⟩ := hr.mem
  obtain ⟨es, c, h1, h2⟩ := hc.map
  exact Other.one h1 (by intro c fz e; cases e)
theorem HeapClean_s {h0 : Hp} {s : Sl} {S : List StepA} {cp : Bool} (hr : Reads 5 encS h0 s S) (hG : ∀ t ∈ S, RowIn h0 t.sl t.vs) (hm : S.length ≤ 9223372036854775807) (hQ : ∀ h', Ext [] h0 h' → Q [.bool true] h') : F_liverylaw09_HeapClean s cp h0 Q := by
  unfold F_liverylaw09_HeapClean
  refine New_s fun h1 l1 e1 s1 => ⟨_, rfl, ?_⟩
  refine HNew_s fun h2 r2 e2 => ⟨_, rfl, ?_⟩
  have st : St h0 h2 h0.size (h1.size + 1) h1.size log0 rel0 := ⟨l1.ext e2 (by simp), r2, e1.trans0 e2, Nat.le_refl _, by omega, by omega⟩
  generalize h0.size = p at *
  generalize h1.size + 1 = r at *
  generalize h1.size = m at *
  clear l1 r2 e1 e2 s1
  have hlen := hr.1
  intro J hJ
  rw [if_neg (by simp), if_neg (by simp)]
  refine Fair_s (hr.ext0 st.ext) (fun t ht => (hG t ht).ext0 st.ext) hm fun h3 b e3 hb => ⟨_, rfl, ?_⟩
  have st := st.e0 e3
  refine hJ _ _ ?_
  cases b with
  | false =>
    rw [if_pos (by decide)]
    intro J1 hJ1
    rw [if_pos (by simp), if_pos (by simp)]
    refine wakes_s fun h4 e4 => ⟨_, rfl, ?_⟩
    exact hJ1 _ _ (hQ _ (st.ext.trans0 e4))
  | true =>
  rw [if_neg (by decide)]
  obtain ⟨hS, hrow⟩ := hb rfl
  intro X hX
  have key : ∀ d i g (L : LogM) (R : RelM), d + i = S.length → St h0 g p r m L R → L.clock ≤ i → X [.int .i64 (i : Int)] g := by
    intro d
    induction d with
    | succ d ih =>
      intro i g L R hi st hcl
      refine hX _ _ ?_
      rw [if_pos (by simp; omega)]
      intro J2 hJ2
      rw [wrap64 (by omega) (by omega)] at hJ2
      have rest : ∀ g2 (L2 : LogM) (R2 : RelM), St h0 g2 p r m L2 R2 → L2.clock ≤ L.clock + 1 → J2 [] g2 := by
        intro g2 L2 R2 st2 hc2
        refine hJ2 _ ?_
        have := ih (i + 1) g2 L2 R2 (by omega) st2 (by omega)
        simpa using this
      obtain ⟨a, g1, g2⟩ := (hr.ext0 st.ext).rd encS_len (i := i) (by omega)
      have hin : S[i]'(by omega) ∈ S := List.getElem_mem _
      have hGi := (hG _ hin).ext0 st.ext
      have hri := hrow _ hin
      generalize S[i]'(by omega) = t at *
      have q0 := g2 0 (by omega)
      have q1 := g2 1 (by omega)
      have q2 := g2 2 (by omega)
      have q3 := g2 3 (by omega)
      have q4 := g2 4 (by omega)
      rw [g1]
      simp only [nilW_some, Int.toNat_natCast, addr_add_add]
      refine ⟨by omega, by omega, _, q0, _, q1, _, q2, _, q3, t.sl, q4, ?_⟩
      refine varI rfl rfl fun g3 s3 b3 e3 => ?_
      have st := st.e0 e3
      have hG3 := hGi.ext0 e3
      refine ⟨_, by simp [rd_blk b3]; rfl, ?_⟩
      by_cases k0 : t.kind = 0
      · rw [if_pos (by simp [k0])]
        refine ⟨_, by simp [rd_blk b3]; rfl, ?_⟩
        refine Begin_s st.log fun g4 l4 e4 => ⟨_, _, rfl, ?_⟩
        exact rest _ _ _ (st.eL e4 l4) (by rw [begin_clock]; omega)
      rw [if_neg (by simp [k0])]
      by_cases k1 : t.kind = 1
      · rw [if_pos (by simp [k1])]
        refine ⟨_, by simp [rd_blk b3]; rfl, ?_⟩
        refine Commit_s st.log (by omega) fun g4 l4 e4 => ⟨_, _, rfl, ?_⟩
        exact rest _ _ _ (st.eL e4 l4) (commit_clock _ _)
      rw [if_neg (by simp [k1])]
      by_cases k2 : t.kind = 2
      · rw [if_pos (by simp [k2])]
        refine ⟨_, by simp [rd_blk b3]; rfl, ?_⟩
        refine Abort_s st.log fun g4 l4 e4 => ⟨_, rfl, ?_⟩
        exact rest _ _ _ (st.eL e4 l4) (by rw [abort_clock]; omega)
      rw [if_neg (by simp [k2])]
      by_cases k3 : t.kind = 3
      · rw [if_pos (by simp [k3])]
        refine ⟨_, by simp [rd_blk b3]; rfl, ?_⟩
        refine State_s st.log fun g4 e4 => ⟨_, rfl, ?_⟩
        have st := st.e0 e4
        have b4 := e4.get b3 (by simp)
        split
        · refine ⟨_, by simp [rd_blk b4]; rfl, t.sl, by simp [rd_blk b4], ?_⟩
          have hn4 := hG3.1
          refine Insert_s st.rel (hG3.ext0 e4) (show t.sl.n ≤ 2 ^ 20 by omega) fun g5 r5 e5 => ⟨_, _, rfl, ?_⟩
          exact rest _ _ _ (st.eR e5 r5) (by omega)
        · exact rest _ _ _ st (by omega)
      rw [if_neg (by simp [k3])]
      by_cases k4 : t.kind = 4
      · rw [if_pos (by simp [k4])]
        refine ⟨_, by simp [rd_blk b3]; rfl, _, by simp [rd_blk b3]; rfl, ?_⟩
        refine May_s st.log st.rel fun g4 e4 => ⟨_, _, rfl, ?_⟩
        have st := st.e0 e4
        have b4 := e4.get b3 (by simp)
        intro J3 hJ3
        have no : ∀ g5, Ext [] g4 g5 → J3 [.bool false] g5 := by
          intro g5 e5
          refine hJ3 _ _ ?_
          rw [if_neg (by decide)]
          exact rest _ _ _ (st.e0 e5) (by omega)
        have yes : ∀ g5, Ext [] g4 g5 → J3 [.bool true] g5 := by
          intro g5 e5
          refine hJ3 _ _ ?_
          rw [if_pos (by decide)]
          have b5 := e5.get b4 (by simp)
          have st := st.e0 e5
          refine ⟨_, by simp [rd_blk b5]; rfl, _, by simp [rd_blk b5]; rfl, ?_⟩
          refine Delete_s st.rel fun g6 r6 e6 => ⟨_, rfl, ?_⟩
          exact rest _ _ _ (st.eR e6 r6) (by omega)
        split
        · refine ⟨_, by simp [rd_blk b4]; rfl, ?_⟩
          refine State_s st.log fun g5 e5 => ⟨_, rfl, ?_⟩
          cases hb : ((L.at t.xid).st == 1) with
          | true => exact yes g5 e5
          | false => exact no g5 e5
        · exact no g4 (Ext.refl _ _)
      rw [if_neg (by simp [k4])]
      exact rest _ _ _ st (by omega)
    | zero =>
      intro i g L R hi st hcl
      refine hX _ _ ?_
      rw [if_neg (by simp; omega)]
      refine Begin_s st.log fun g1 l1 e1 => ⟨_, _, rfl, ?_⟩
      have st := st.eL e1 l1
      by_cases h200 : L.n = 200
      · rw [if_pos h200, if_pos (by decide)]
        intro J2 hJ2
        rw [if_pos (by decide)]
        refine wakes_s fun h4 e4 => ⟨_, rfl, ?_⟩
        exact hJ2 _ _ (hQ _ (st.ext.trans0 e4))
      rw [if_neg h200, if_neg h200, if_neg (by decide)]
      have hnow := begin_running true h200
      have hLn := st.log.2.1
      generalize L.begin true = L1 at *
      have hrl := running_len hLn
      refine Running_s st.log fun g2 run e2 hrun => ⟨run, rfl, ?_⟩
      have st := st.e0 e2
      have hrun := hrun.sl
      have hrn := hrun.1
      have hpl := st.log.lt
      have hrmlt := st.rel.r_lt
      intro Y hY
      have key2 : ∀ d i g was (W : List Sl), d + i = L1.running.length → St h0 g p r m L1 R → IntsAt g run L1.running → Own T_ssapi_Value 1 encW g2.size g was W → g2.size ≤ g.size → W.length = i →
          (∀ j (hj : j < W.length) (hj2 : j < L1.running.length), RowsAt g W[j] (R.rowsOf L1 L1.running[j])) → Y [.slice was.a was.n was.c, .int .i64 (i : Int)] g := by
        intro d
        induction d with
        | succ d ih =>
          intro i g was W hi st ha ho hsz hW hw
          refine hY was _ _ ?_
          rw [if_pos (by simp; omega)]
          obtain ⟨a, k1, k2⟩ := sl_get ha (i := i) (by omega)
          rw [k1]
          simp only [nilW_some, Int.toNat_natCast]
          refine ⟨by omega, by omega, _, k2, ?_⟩
          refine rows_s st.log st.rel fun g4 rs e4 hrs => ⟨rs, rfl, ?_⟩
          have st := st.e0 e4
          have ho4 := ho.ext0 e4
          refine app1 (x := rs) (cx := #[Value.slice rs.a rs.n rs.c]) ho4 rfl zcW encW_len encW_one (by omega) (by decide) (by have := e4.sz; omega) fun was' g5 ho' he' _ => ?_
          have hsb := ho4.blk
          have o1 : Other T_api_Value g4 (sBlk was) := ho4.other (by decide)
          have o2 : Other T_int g4 (sBlk was) := ho4.other (by decide)
          have o3 : Other T_sapi_Value g4 (sBlk was) := ho4.other (by decide)
          have st5 : St h0 g5 p r m L1 R := ⟨st.log.ext he' (fun hb => by have := hsb _ hb; omega), st.rel.ext he' (fun hb => by have := hsb _ hb; omega) (fun hb => by have := hsb _ hb; omega) o1,
            st.ext.trans he' (fun b hb hlt => by have := hsb _ hb; have := st.hp; omega), st.hp, st.hr, st.hm⟩
          rw [wrap64 (by omega) (by omega)]
          have := ih (i + 1) g5 was' (W ++ [rs]) (by omega) st5 ((ha.ext0 e4).ext he' o2) ho' (by have := e4.sz; have := he'.sz; omega) (by simp [hW]) (by
            intro j hj hj2
            by_cases hjl : j < W.length
            · have := hw j hjl hj2
              rw [List.getElem_append_left hjl]
              exact (this.ext0 e4).ext he' o3 o1
            · have hje : j = W.length := by simp at hj; omega
              subst hje
              rw [List.getElem_append_right (Nat.le_refl _)]
              simp only [Nat.sub_self, List.getElem_cons_zero]
              have e : L1.running[W.length]'hj2 = L1.running[i]'(by omega) := by congr 1
              rw [e]
              exact hrs.ext he' o3 o1)
          simpa using this
        | zero =>
          intro i g was W hi st ha ho hsz hW hw
          refine hY was _ _ ?_
          rw [if_neg (by simp; omega)]
          have hwl : was.n = W.length := ho.1
          intro J4 hJ4
          have fin : ∀ g (R2 : RelM) r2 m2, Ext [] h0 g → IsLog g p L1 → IsRel g r2 m2 R2 → IntsAt g run L1.running → SlOf T_ssapi_Value 1 encW g was W → (∀ j (hj : j < W.length) (hj2 : j < L1.running.length), RowsAt g W[j] (R.rowsOf L1 L1.running[j])) →
              (∀ x ∈ L1.running, R2.rowsOf L1 x = R.rowsOf L1 x) → J4 [.pointer (some ⟨r2, 0, none⟩)] g := by
            intro g R2 r2 m2 hex il ir ha ho hw heq
            refine hJ4 _ _ ?_
            intro Z hZ
            have key3 : ∀ d i g, d + i = L1.running.length → Ext [] h0 g → IsLog g p L1 → IsRel g r2 m2 R2 → IntsAt g run L1.running → SlOf T_ssapi_Value 1 encW g was W →
                (∀ j (hj : j < W.length) (hj2 : j < L1.running.length), RowsAt g W[j] (R.rowsOf L1 L1.running[j])) → Z [.int .i64 (i : Int)] g := by
              intro d
              induction d with
              | succ d ih =>
                intro i g hi hex il ir ha ho hw
                refine hZ _ _ ?_
                rw [if_pos (by simp; omega)]
                obtain ⟨a, k1, k2⟩ := sl_get ha (i := i) (by omega)
                rw [k1]
                simp only [nilW_some, Int.toNat_natCast]
                obtain ⟨b2, o2, k3, k4⟩ := ho.rd encW_len (i := i) (by omega)
                have k4 := k4 0 (by omega)
                rw [k3]
                simp only [nilW_some, addr_mk]
                refine ⟨by omega, by omega, _, k2, by omega, by omega, W[i]'(by omega), by simpa [encW] using k4, ?_⟩
                refine rows_s il ir fun g4 rs e4 hrs => ⟨rs, rfl, ?_⟩
                have hw4 := (hw i (by omega) (by omega)).ext0 e4
                refine ⟨rd_ext0 e4 (by simpa [encW] using k4), ?_⟩
                rw [heq _ (List.getElem_mem _)] at hrs
                have hrlen : (R.rowsOf L1 (L1.running[i]'(by omega))).length < 2 ^ 40 := by
                  unfold RelM.rowsOf RelM.visible
                  have h1 := List.length_filter_le (R.sees L1 (L1.running[i]'(by omega))) R.keys
                  have h2 := keys_len R
                  have h3 := st.rel.len
                  have h4 := st.rel.nx
                  rw [List.length_map]
                  omega
                refine RowsR_s hrs.rows hw4.rows hrlen fun g5 e5 => ⟨_, rfl, ?_⟩
                rw [if_neg (by decide), wrap64 (by omega) (by omega)]
                have e45 := e4.trans0 e5
                have := ih (i + 1) g5 (by omega) (hex.trans0 e45) (il.ext e45 (by simp)) (ir.ext0 e45) (ha.ext0 e45) (ho.ext0 e45) (fun j hj hj2 => (hw j hj hj2).ext0 e45)
                simpa using this
              | zero =>
                intro i g hi hex il ir ha ho hw
                refine hZ _ _ ?_
                rw [if_neg (by simp; omega)]
                refine Has_s ha hnow (by omega) ⟨_, rfl, ?_⟩
                rw [if_pos (by decide)]
                refine wakes_s fun h9 e9 => ⟨_, rfl, ?_⟩
                exact hQ _ (hex.trans0 e9)
            exact key3 L1.running.length 0 g (by omega) hex il ir ha ho hw
          cases cp with
          | true =>
            rw [if_pos (by decide)]
            refine Copy_s st.log st.rel fun g4 r2 m2 rc e4 hr2 hm2 => ⟨_, rfl, ?_⟩
            exact fin g4 _ r2 m2 (st.ext.trans0 e4) (st.log.ext e4 (by simp)) rc (ha.ext0 e4) (ho.sl.ext0 e4) (fun j hj hj2 => (hw j hj hj2).ext0 e4) fun x hx => copy_rows hx
          | false =>
            rw [if_neg (by decide)]
            refine Vacuum_s st.log st.rel fun g4 sv rv e4 hsv => ⟨sv, rfl, ?_⟩
            have hne := st.rel.ne_log st.log
            have om : ∀ T, Other T g [m] := fun T => other_map st.rel
            exact fin g4 _ r m (st.ext.trans e4 (by intro b hb hlt; simp at hb; have := st.hm; omega)) (st.log.ext e4 (by simp [hne.2.1])) rv (ha.ext e4 (om _)) (ho.sl.ext e4 (om _)) (fun j hj hj2 => (hw j hj hj2).ext e4 (om _) (om _))
              fun x hx => vacuum_rows st.rel.nd hx
      have := key2 L1.running.length 0 g2 ⟨none, 0, 0⟩ [] (by omega) st hrun (Own.nil _ _) (Nat.le_refl _) rfl (by intro j hj; simp at hj)
      simpa using this
  have := key S.length 0 h3 log0 rel0 (by omega) st (by decide)
  simpa using this
end
end Go.Lift

/- Transactions: what the log's functions do. -/
import Derived.Test.YtogondadohdcoaaW12a
set_option linter.unusedSimpArgs false
set_option linter.unusedVariables false
namespace Go.Lift
open Go Go.Proofs
set_option maxRecDepth 100000
section
variable {h h' : Hp} {b : Nat} {L : LM} {Q : List Value → Hp → Prop}
theorem encX_len (t : TxM) : (encX t).length = 4 := rfl
/-- A field of a transaction changes. -/
theorem ClAt.fld (hC : ClAt h b L) {x : Int} (hx : hasL L x) {k : Nat} (hk : k < 4) {v : Value} {t : TxM} (ht : encX t = (encX (txL L x)).set k v) {K : Hp → Prop}
    (H : ∀ h', ClAt h' b (setL L x t) → Ext [b] h h' → h'.size = h.size → K h') : stOk h (Addr.add (adX b x) k) 1 ∧ wth (wrs h (Addr.add (adX b x) k) 0 [v]) K := by
  unfold adX
  rw [addr_mk]
  obtain ⟨hi, e, e2⟩ := txL_has hx
  have hlen := hC.len
  refine hC.st (L' := setL L x t) (by omega) (by rw [setL_len]; exact hlen) hC.clk (fun c h1 h2 h3 h4 => ?_) H
  have hg : ∀ i, i < 806 → (putAt c (x.toNat * 4 + k) [v])[i]? = if i = x.toNat * 4 + k then some v else c[i]? := by
    intro i hi
    rw [putAt_get0 _ _ _ _ (by simp [h1]; omega)]
    by_cases e : i = x.toNat * 4 + k
    · subst e
      rw [if_pos (by simp), if_pos rfl, Nat.sub_self]
      rfl
    · rw [if_neg (by simp; omega), if_neg e]
  refine ⟨fun i hi k' hk' => ?_, ?_, ?_⟩
  · rw [setL_len] at hi
    rw [hg _ (by omega)]
    have hl : (setL L x t).l[i]'(by rw [setL_len]; exact hi) = if i = x.toNat - 1 then t else L.l[i] := by
      simp only [setL, List.getElem_set]
      split <;> split <;> first | rfl | omega
    rw [hl]
    by_cases ei : i = x.toNat - 1
    · rw [if_pos ei, ht, List.getElem?_set]
      subst ei
      rw [e2]
      by_cases ek : k' = k
      · subst ek
        rw [if_pos rfl, if_pos rfl, if_pos (by rw [encX_len]; omega)]
      · rw [if_neg (by omega), if_neg (by omega), ← e2, h2 _ hi k' hk', e]
    · rw [if_neg ei, if_neg (by omega)]
      exact h2 i hi k' hk'
  · rw [hg _ (by omega), if_neg (by omega), h3, setL_len]
  · rw [hg _ (by omega), if_neg (by omega), h4]
    rfl
theorem ClAt.setClock (hC : ClAt h b L) {v : Int} (hv : 0 ≤ v ∧ v ≤ 2 ^ 40) {K : Hp → Prop}
    (H : ∀ h', ClAt h' b { L with clock := v } → Ext [b] h h' → h'.size = h.size → K h') : stOk h (Addr.add ⟨b, 0, none⟩ 805) 1 ∧ wth (wrs h (Addr.add ⟨b, 0, none⟩ 805) 0 [.int .i64 v]) K := by
  rw [addr_mk]
  have hlen := hC.len
  refine hC.st (L' := { L with clock := v }) (by omega) hlen hv (fun c h1 h2 h3 h4 => ?_) H
  have hg : ∀ i, i < 806 → (putAt c (0 + 805) [.int .i64 v])[i]? = if i = 805 then some (.int .i64 v) else c[i]? := by
    intro i hi
    rw [putAt_get0 _ _ _ _ (by simp [h1])]
    by_cases e : i = 805
    · subst e; rfl
    · rw [if_neg (by simp; omega), if_neg e]
  refine ⟨fun i hi k' hk' => ?_, ?_, ?_⟩
  · rw [hg _ (by simp only at hi; omega), if_neg (by simp only at hi; omega)]
    exact h2 i hi k' hk'
  · rw [hg _ (by omega), if_neg (by omega), h3]
  · rw [hg _ (by omega), if_pos rfl]
theorem Begin_s (hC : ClAt h b L) (r : Bool) (hQ : ∀ h', ClAt h' b (beginL L r) → Ext [b] h h' → h'.size = h.size → Q [.int .i64 (if L.l.length = 200 then 0 else (L.l.length : Int) + 1), .int .i64 (if L.l.length = 200 then 74 else 0)] h') : S_clog_Log_Begin (some ⟨b, 0, none⟩) r h Q := by
  refine O_clog_Log_Begin _ _ ?_
  unfold F_clog_Log_Begin
  rw [if_neg (by simp)]
  simp only [nilW_some]
  refine ⟨_, hC.n, ?_⟩
  have hlen := hC.len
  by_cases hf : L.l.length = 200
  · rw [if_pos (by simp [hf])]
    have := hQ h
    unfold beginL at this
    rw [if_pos hf, if_pos hf, if_pos hf] at this
    exact this hC (Ext.refl _ _) rfl
  · rw [if_neg (by simp; omega)]
    refine ⟨_, hC.n, ?_⟩
    obtain ⟨c, h1, h2, h3, h4, h5⟩ := hC.cells
    simp only [addr_mk, Nat.zero_add]
    rw [wrap64 (by omega) (by omega)]
    refine st_blk h1 (by omega) fun g1 s1 b1 e1 => ?_
    have hg1 : ∀ i, i < 806 → (putAt c 804 [.int .i64 ((L.l.length : Int) + 1)])[i]? = if i = 804 then some (.int .i64 ((L.l.length : Int) + 1)) else c[i]? := by
      intro i hi
      rw [putAt_get0 _ _ _ _ (by simp [h2])]
      by_cases e : i = 804
      · subst e; rfl
      · rw [if_neg (by simp; omega), if_neg e]
    refine ⟨_, by rw [rd_blk b1, hg1 _ (by omega), if_pos rfl], L.clock, by rw [rd_blk b1, hg1 _ (by omega), if_neg (by omega), h5], by omega, by omega, ?_⟩
    have hof : Int.toNat ((L.l.length : Int) + 1) * 4 = (L.l.length + 1) * 4 := by omega
    rw [hof]
    refine st_blk b1 (by rw [putAt_size]; omega) fun g2 s2 b2 e2 => ?_
    have hg2 : ∀ i, i < 806 → (putAt (putAt c 804 [.int .i64 ((L.l.length : Int) + 1)]) ((L.l.length + 1) * 4) [.int .i64 1, .int .i64 0, .int .i64 L.clock, .bool r])[i]? =
        if (L.l.length + 1) * 4 ≤ i ∧ i < (L.l.length + 1) * 4 + 4 then [Value.int .i64 1, .int .i64 0, .int .i64 L.clock, .bool r][i - (L.l.length + 1) * 4]? else if i = 804 then some (.int .i64 ((L.l.length : Int) + 1)) else c[i]? := by
      intro i hi
      rw [putAt_get0 _ _ _ _ (by simp [h2]; omega)]
      split
      · rename_i q; rw [if_pos (by simpa using q)]
      · rename_i q; rw [if_neg (by simpa using q), hg1 i hi]
    refine ⟨(L.l.length : Int) + 1, by rw [rd_blk b2, hg2 _ (by omega), if_neg (by omega), if_pos rfl], ?_⟩
    have := hQ g2
    unfold beginL at this
    rw [if_neg hf, if_neg hf, if_neg hf] at this
    refine this ⟨⟨_, b2, by rw [putAt_size, putAt_size]; exact h2, fun i hi k hk => ?_, ?_, ?_⟩, by simp; omega, hC.clk⟩ (e1.trans e2 fun b hb _ => hb) (by omega)
    · simp only [List.length_append, List.length_cons, List.length_nil] at hi
      rw [hg2 _ (by omega)]
      by_cases e : i = L.l.length
      · subst e
        rw [if_pos (by omega), List.getElem_append_right (by omega)]
        simp only [Nat.sub_self, List.getElem_cons_zero, Nat.add_sub_cancel_left]
        rfl
      · rw [if_neg (by omega), if_neg (by omega), List.getElem_append_left (by omega)]
        exact h3 i (by omega) k hk
    · rw [hg2 _ (by omega), if_neg (by omega), if_pos rfl]
      simp
    · rw [hg2 _ (by omega), if_neg (by omega), if_neg (by omega), h5]
theorem ends_s (hC : ClAt h b L) (x : Int) (hQ : Q [.pointer (if runsL L x then some (adX b x) else none), .int .i64 (if runsL L x then 0 else 76)] h) : S_clog_Log_ends (some ⟨b, 0, none⟩) x h Q := by
  refine O_clog_Log_ends _ _ ?_
  unfold F_clog_Log_ends
  rw [if_neg (by simp)]
  refine get_s hC x ⟨_, rfl, ?_⟩
  intro J hJ
  have jT : ¬ runsL L x → J [.bool true] h := fun hn => by
    refine hJ _ _ ?_
    rw [if_pos rfl]
    rw [if_neg hn, if_neg hn] at hQ
    exact hQ
  by_cases hh : hasL L x
  · rw [if_pos hh, if_neg (by simp)]
    simp only [nilW_some]
    refine ⟨_, (hC.tx hh).1, ?_⟩
    by_cases hs : (txL L x).state = 1
    · have e : ((txL L x).state != 1) = false := by simp [hs]
      rw [e]
      refine hJ _ _ ?_
      rw [if_neg (by decide), if_pos hh]
      rw [if_pos ⟨hh, hs⟩, if_pos ⟨hh, hs⟩] at hQ
      exact hQ
    · have e : ((txL L x).state != 1) = true := by simp [hs]
      rw [e]
      exact jT fun hr => hs hr.2
  · rw [if_neg hh, if_pos (by rfl)]
    exact jT fun hr => hh hr.1
theorem setL_set {L : LM} {x : Int} (t t' : TxM) : setL (setL L x t) x t' = setL L x t' := by
  unfold setL
  simp only [List.set_set]
theorem Commit_s (hC : ClAt h b L) (x : Int) (hk : L.clock < 2 ^ 40) (hQ : ∀ h', ClAt h' b (commitL L x) → Ext [b] h h' → h'.size = h.size → Q [.int .i64 (if runsL L x then L.clock + 1 else 0), .int .i64 (if runsL L x then 0 else 76)] h') : S_clog_Log_Commit (some ⟨b, 0, none⟩) x h Q := by
  refine O_clog_Log_Commit _ _ ?_
  unfold F_clog_Log_Commit
  refine ends_s hC x ⟨_, _, rfl, ?_⟩
  by_cases hr : runsL L x
  · rw [if_pos hr, if_pos hr, if_neg (by decide)]
    simp only [nilW_some]
    have hclk := hC.clk
    refine ⟨_, hC.clock, ?_⟩
    rw [wrap64 (by omega) (by omega)]
    refine hC.setClock (v := L.clock + 1) (by omega) fun h1 hC1 e1 s1 => ?_
    refine ⟨_, hC1.clock, ?_⟩
    have hh1 : hasL { L with clock := L.clock + 1 } x := hr.1
    refine hC1.fld hh1 (k := 0) (by omega) (t := { txL L x with state := 2 }) rfl fun h2 hC2 e2 s2 => ?_
    have hh2 : hasL (setL { L with clock := L.clock + 1 } x { txL L x with state := 2 }) x := (hasL_set _ _ _ _).2 hh1
    refine hC2.fld hh2 (k := 1) (by omega) (t := { txL L x with state := 2, csn := L.clock + 1 }) (by rw [txL_set hh1, if_pos rfl]; rfl) fun h3 hC3 e3 s3 => ?_
    rw [setL_set] at hC3
    refine ⟨_, hC3.clock, ?_⟩
    have := hQ h3
    unfold commitL at this
    rw [if_pos hr, if_pos hr, if_pos hr] at this
    exact this hC3 ((e1.trans e2 fun b hb _ => hb).trans e3 fun b hb _ => hb) (by omega)
  · rw [if_neg hr, if_neg hr, if_pos (by decide)]
    have := hQ h
    unfold commitL at this
    rw [if_neg hr, if_neg hr, if_neg hr] at this
    exact this hC (Ext.refl _ _) rfl
theorem Abort_s (hC : ClAt h b L) (x : Int) (hQ : ∀ h', ClAt h' b (abortL L x) → Ext [b] h h' → h'.size = h.size → Q [.int .i64 (if runsL L x then 0 else 76)] h') : S_clog_Log_Abort (some ⟨b, 0, none⟩) x h Q := by
  refine O_clog_Log_Abort _ _ ?_
  unfold F_clog_Log_Abort
  refine ends_s hC x ⟨_, _, rfl, ?_⟩
  intro J hJ
  by_cases hr : runsL L x
  · rw [if_pos hr, if_pos hr, if_pos (by decide)]
    simp only [nilW_some]
    refine hC.fld hr.1 (k := 0) (by omega) (t := { txL L x with state := 3 }) rfl fun h2 hC2 e2 s2 => ?_
    refine hJ _ ?_
    have := hQ h2
    unfold abortL at this
    rw [if_pos hr, if_pos hr] at this
    rw [if_pos hr]
    exact this hC2 e2 s2
  · rw [if_neg hr, if_neg hr, if_neg (by decide)]
    refine hJ _ ?_
    have := hQ h
    unfold abortL at this
    rw [if_neg hr, if_neg hr] at this
    rw [if_neg hr]
    exact this hC (Ext.refl _ _) rfl
theorem one_c (hC : ClAt h b L) (x : Int) (hQ : ∀ h', Ext [] h h' → Q [.agg (encX (txL L x)).toArray] h') : S_clog_Log_one (some ⟨b, 0, none⟩) x h Q := by
  refine O_clog_Log_one _ _ ?_
  unfold F_clog_Log_one
  refine newI fun h1 s1 b1 e1 => ?_
  refine get_s (hC.ext0 e1) x ⟨_, rfl, ?_⟩
  by_cases hh : hasL L x
  · rw [if_pos hh, if_pos (by simp)]
    simp only [nilW_some]
    obtain ⟨r0, r1, r2, r3⟩ := (hC.ext0 e1).tx hh
    refine ⟨_, r0, _, r1, _, r2, _, r3, ?_⟩
    refine st_blk b1 (by simp) fun h2 s2 b2 e2 => ?_
    refine ⟨(txL L x).state, by rw [addr_mk, rd_blk b2]; rfl, (txL L x).csn, by rw [addr_mk, rd_blk b2]; rfl, (txL L x).snap, by rw [addr_mk, rd_blk b2]; rfl, (txL L x).reads, by rw [addr_mk, rd_blk b2]; rfl, ?_⟩
    exact hQ h2 (e1.trans e2 fun b hb hlt => by simp at hb; omega)
  · rw [if_neg hh, if_neg (by simp)]
    have hz : txL L x = zTx := by unfold txL; rw [if_neg hh]
    refine st_blk b1 (by simp) fun h2 s2 b2 e2 => ?_
    refine ⟨0, by rw [addr_mk, rd_blk b2]; rfl, 0, by rw [addr_mk, rd_blk b2]; rfl, 0, by rw [addr_mk, rd_blk b2]; rfl, false, by rw [addr_mk, rd_blk b2]; rfl, ?_⟩
    have := hQ h2 (e1.trans e2 fun b hb hlt => by simp at hb; omega)
    rw [hz] at this
    exact this
theorem State_s (hC : ClAt h b L) (x : Int) (hQ : ∀ h', Ext [] h h' → Q [.int .i64 (txL L x).state] h') : S_clog_Log_State (some ⟨b, 0, none⟩) x h Q := by
  refine O_clog_Log_State _ _ ?_
  unfold F_clog_Log_State
  exact one_c hC x fun h1 e1 => ⟨_, _, _, _, rfl, hQ h1 e1⟩
theorem Sees_s (hC : ClAt h b L) (x y : Int) (hQ : Q [.bool (seesL L x y)] h) : S_clog_Log_Sees (some ⟨b, 0, none⟩) x y h Q := by
  refine O_clog_Log_Sees _ _ _ ?_
  unfold F_clog_Log_Sees
  refine get_s hC x ⟨_, rfl, ?_⟩
  refine get_s hC y ⟨_, rfl, ?_⟩
  intro J hJ
  have jT : ¬ (hasL L x ∧ hasL L y) → J [.bool true] h := fun hn => by
    refine hJ _ _ ?_
    rw [if_pos rfl]
    unfold seesL at hQ
    rw [decide_eq_false hn, Bool.false_and] at hQ
    exact hQ
  by_cases hx : hasL L x
  · rw [if_pos hx, if_neg (by simp)]
    by_cases hy : hasL L y
    · rw [if_pos hy]
      refine hJ _ _ ?_
      rw [if_neg (by simp)]
      unfold seesL at hQ
      rw [decide_eq_true ⟨hx, hy⟩, Bool.true_and] at hQ
      by_cases e : x = y
      · rw [if_pos (by simpa using e)]
        rw [decide_eq_true e, Bool.true_or] at hQ
        exact hQ
      · rw [if_neg (by simpa using e)]
        rw [decide_eq_false e, Bool.false_or] at hQ
        rw [if_pos hy, if_pos hx]
        simp only [nilW_some]
        refine ⟨_, (hC.tx hy).1, ?_⟩
        by_cases hs : (txL L y).state = 2
        · rw [if_pos (by simpa using hs)]
          refine ⟨_, (hC.tx hy).2.1, _, (hC.tx hx).2.2.1, ?_⟩
          simpa [hs] using hQ
        · rw [if_neg (by simpa using hs)]
          simpa [hs] using hQ
    · rw [if_neg hy]
      exact jT fun hh => hy hh.2
  · rw [if_neg hx, if_pos (by rfl)]
    exact jT fun hh => hx hh.1
end
end Go.Lift

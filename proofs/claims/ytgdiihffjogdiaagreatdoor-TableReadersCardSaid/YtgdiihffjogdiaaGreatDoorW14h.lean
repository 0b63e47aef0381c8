/- Transactions: the log in memory. -/
import Derived.Test.YtgdiihffjogdiaaGreatDoorLf
import Derived.Test.YtgdiihffjogdiaaGreatDoorW13m
import Derived.Test.YtgdiihffjogdiaaGreatDoorLvZ
import Derived.Test.YtgdiihffjogdiaaGreatDoorLvY
import Derived.Test.YtgdiihffjogdiaaGreatDoorLvD1
import Derived.Test.YtgdiihffjogdiaaGreatDoorL10s
import Derived.Test.YtgdiihffjogdiaaGreatDoorItM
import Derived.Test.YtgdiihffjogdiaaGreatDoorItO
import Derived.Test.YtgdiihffjogdiaaGreatDoorSh
import Derived.Shelf.Abstract
set_option linter.unusedSimpArgs false
set_option linter.unusedVariables false
namespace Go.Lift.E14
open Go Go.Proofs
set_option maxRecDepth 100000
structure TxM where
  state : Int
  csn : Int
  snap : Int
  reads : Bool
  deriving DecidableEq
def zTx : TxM := ⟨0, 0, 0, false⟩
def encX (x : TxM) : List Value := [.int .i64 x.state, .int .i64 x.csn, .int .i64 x.snap, .bool x.reads]
structure LM where
  l : List TxM
  clock : Int
def hasL (L : LM) (x : Int) : Prop := 1 ≤ x ∧ x ≤ (L.l.length : Int)
instance (L : LM) (x : Int) : Decidable (hasL L x) := by unfold hasL; exact inferInstance
def txL (L : LM) (x : Int) : TxM := if hasL L x then (L.l[x.toNat - 1]?).getD zTx else zTx
def setL (L : LM) (x : Int) (t : TxM) : LM := { L with l := L.l.set (x.toNat - 1) t }
def runsL (L : LM) (x : Int) : Prop := hasL L x ∧ (txL L x).state = 1
instance (L : LM) (x : Int) : Decidable (runsL L x) := by unfold runsL; exact inferInstance
def beginL (L : LM) (r : Bool) : LM := if L.l.length = 200 then L else { L with l := L.l ++ [⟨1, 0, L.clock, r⟩] }
def commitL (L : LM) (x : Int) : LM := if runsL L x then { setL L x { txL L x with state := 2, csn := L.clock + 1 } with clock := L.clock + 1 } else L
def abortL (L : LM) (x : Int) : LM := if runsL L x then setL L x { txL L x with state := 3 } else L
def seesL (L : LM) (x y : Int) : Bool := decide (hasL L x ∧ hasL L y) && (decide (x = y) || decide ((txL L y).state = 2 ∧ (txL L y).csn ≤ (txL L x).snap))
def besideL (L : LM) (a b : Int) : Bool := decide (hasL L a ∧ hasL L b ∧ a ≠ b ∧ (txL L a).state ≠ 3 ∧ (txL L b).state ≠ 3) && !seesL L a b && !seesL L b a
structure ClAt (h : Hp) (b : Nat) (L : LM) : Prop where
  cells : ∃ c, Blk h b c T_clog_Log ∧ c.size = 806 ∧ (∀ i (hi : i < L.l.length), ∀ k, k < 4 → c[(i + 1) * 4 + k]? = (encX L.l[i])[k]?) ∧ c[804]? = some (.int .i64 L.l.length) ∧ c[805]? = some (.int .i64 L.clock)
  len : L.l.length ≤ 200
  clk : 0 ≤ L.clock ∧ L.clock ≤ 2 ^ 40
theorem txL_has {L : LM} {x : Int} (h : hasL L x) : ∃ hi : x.toNat - 1 < L.l.length, txL L x = L.l[x.toNat - 1] ∧ (x.toNat - 1 + 1) = x.toNat := by
  have h1 := h.1
  have h2 := h.2
  refine ⟨by omega, ?_, by omega⟩
  unfold txL
  rw [if_pos h, List.getElem?_eq_getElem (by omega)]
  rfl
theorem setL_len (L : LM) (x : Int) (t : TxM) : (setL L x t).l.length = L.l.length := by simp [setL]
theorem hasL_set (L : LM) (x y : Int) (t : TxM) : hasL (setL L x t) y ↔ hasL L y := by unfold hasL; rw [setL_len]
theorem txL_set {L : LM} {x : Int} (hx : hasL L x) (t : TxM) (y : Int) : txL (setL L x t) y = if y = x then t else txL L y := by
  have h1 := hx.1
  have h2 := hx.2
  by_cases e : y = x
  · subst e
    rw [if_pos rfl]
    unfold txL
    rw [if_pos ((hasL_set L y y t).2 hx)]
    unfold setL
    simp only
    rw [List.getElem?_set, if_pos rfl, if_pos (by omega)]
    rfl
  · rw [if_neg e]
    by_cases hy : hasL L y
    · have h3 := hy.1
      unfold txL
      rw [if_pos ((hasL_set L x y t).2 hy), if_pos hy]
      unfold setL
      simp only
      rw [List.getElem?_set, if_neg (by omega)]
    · unfold txL
      rw [if_neg (fun e => hy ((hasL_set L x y t).1 e)), if_neg hy]
section
variable {h h' : Hp} {b : Nat} {L : LM} {Q : List Value → Hp → Prop}
theorem ClAt.ext {S : List Nat} (hC : ClAt h b L) (he : Ext S h h') (hn : b ∉ S) : ClAt h' b L := by
  obtain ⟨c, h1, h2⟩ := hC.cells
  exact ⟨⟨c, he.get h1 hn, h2⟩, hC.len, hC.clk⟩
theorem ClAt.ext0 (hC : ClAt h b L) (he : Ext [] h h') : ClAt h' b L := hC.ext he (by simp)
theorem ClAt.lt (hC : ClAt h b L) : b < h.size := by
  obtain ⟨c, h1, _⟩ := hC.cells
  exact blk_lt h1
theorem ClAt.n (hC : ClAt h b L) : rd h (Addr.add ⟨b, 0, none⟩ 804) = some (.int .i64 L.l.length) := by
  obtain ⟨c, h1, h2, h3, h4, h5⟩ := hC.cells
  rw [addr_mk, rd_blk h1]; simpa using h4
theorem ClAt.clock (hC : ClAt h b L) : rd h (Addr.add ⟨b, 0, none⟩ 805) = some (.int .i64 L.clock) := by
  obtain ⟨c, h1, h2, h3, h4, h5⟩ := hC.cells
  rw [addr_mk, rd_blk h1]; simpa using h5
/-- Where a transaction lies. -/
def adX (b : Nat) (x : Int) : Addr := ⟨b, x.toNat * 4, none⟩
theorem ClAt.tx (hC : ClAt h b L) {x : Int} (hx : hasL L x) : rd h (Addr.add (adX b x) 0) = some (.int .i64 (txL L x).state) ∧ rd h (Addr.add (adX b x) 1) = some (.int .i64 (txL L x).csn) ∧ rd h (Addr.add (adX b x) 2) = some (.int .i64 (txL L x).snap) ∧ rd h (Addr.add (adX b x) 3) = some (.bool (txL L x).reads) := by
  obtain ⟨c, h1, h2, h3, h4, h5⟩ := hC.cells
  obtain ⟨hi, e, e2⟩ := txL_has hx
  have r : ∀ k, k < 4 → rd h (Addr.add (adX b x) k) = (encX (txL L x))[k]? := fun k hk => by
    unfold adX
    rw [addr_mk, rd_blk h1, e, ← h3 _ hi k hk, e2]
  exact ⟨r 0 (by omega), r 1 (by omega), r 2 (by omega), r 3 (by omega)⟩
theorem get_s (hC : ClAt h b L) (x : Int) (hQ : Q [.pointer (if hasL L x then some (adX b x) else none)] h) : S_clog_Log_get (some ⟨b, 0, none⟩) x h Q := by
  refine O_clog_Log_get _ _ ?_
  delta F_clog_Log_get rI rB rS rP rM rL vI vB vS vP vM vL vC vA ad nb gb wi bl bz tn isn sib pu oc
  intro J hJ
  have hl := hC.len
  have jT : ¬ hasL L x → J [.bool true] h := fun hn => by
    refine hJ _ _ ?_
    rw [if_pos rfl]
    rw [if_neg hn] at hQ
    exact hQ
  rw [if_neg (by simp)]
  by_cases h1 : x < 1
  · rw [if_pos (by simpa using h1)]
    exact jT fun hh => by have := hh.1; omega
  · rw [if_neg (by simpa using h1)]
    simp only [nilW_some]
    refine ⟨_, hC.n, ?_⟩
    by_cases h2 : x > (L.l.length : Int)
    · rw [decide_eq_true h2]
      exact jT fun hh => by have := hh.2; omega
    · rw [decide_eq_false h2]
      have hh : hasL L x := ⟨by omega, by omega⟩
      refine hJ _ _ ?_
      rw [if_neg (by decide)]
      rw [if_pos hh] at hQ
      simp only [nilW_some]
      refine ⟨by omega, by omega, ?_⟩
      rw [addr0, addr_mk, Nat.zero_add]
      exact hQ
theorem New08_s (hQ : ∀ h' b, ClAt h' b ⟨[], 0⟩ → Ext [] h h' → h.size ≤ b → Q [.pointer (some ⟨b, 0, none⟩)] h') : S_clog_New h Q := by
  refine O_clog_New ?_
  delta F_clog_New rI rB rS rP rM rL vI vB vS vP vM vL vC vA ad nb gb wi bl bz tn isn sib pu oc
  refine newI fun h1 s1 b1 e1 => hQ h1 h.size ⟨⟨_, b1, ?_, fun i hi => (by simp at hi), ?_, ?_⟩, by simp, by simp⟩ e1 (Nat.le_refl _)
  · kernel_rfl
  · kernel_rfl
  · kernel_rfl
/-- The log changes. -/
theorem ClAt.st (hC : ClAt h b L) {o n : Nat} {vs : List Value} {L' : LM} {K : Hp → Prop} (hl : o + n ≤ 806) (hlen : L'.l.length ≤ 200) (hclk : 0 ≤ L'.clock ∧ L'.clock ≤ 2 ^ 40)
    (hc : ∀ c : Array Value, c.size = 806 → (∀ i (hi : i < L.l.length), ∀ k, k < 4 → c[(i + 1) * 4 + k]? = (encX L.l[i])[k]?) → c[804]? = some (.int .i64 L.l.length) → c[805]? = some (.int .i64 L.clock) →
      (∀ i (hi : i < L'.l.length), ∀ k, k < 4 → (putAt c o vs)[(i + 1) * 4 + k]? = (encX L'.l[i])[k]?) ∧ (putAt c o vs)[804]? = some (.int .i64 L'.l.length) ∧ (putAt c o vs)[805]? = some (.int .i64 L'.clock))
    (H : ∀ h', ClAt h' b L' → Ext [b] h h' → h'.size = h.size → K h') : stOk h ⟨b, o, none⟩ n ∧ wth (wrs h ⟨b, o, none⟩ 0 vs) K := by
  obtain ⟨c, h1, h2, h3, h4, h5⟩ := hC.cells
  refine st_blk h1 (by omega) fun h6 s6 b6 e6 => H h6 ⟨⟨_, b6, by simp [h2], hc c h2 h3 h4 h5⟩, hlen, hclk⟩ e6 s6
end
end Go.Lift.E14
namespace Go.Lift.E14
open Go Go.Proofs
set_option maxRecDepth 100000
section
variable {h h' : Hp} {b : Nat} {L : LM} {Q : List Value → Hp → Prop}
theorem encX_len (t : TxM) : (encX t).length = 4 := rfl
/-- A field of a transaction changes. -/
theorem ClAt.fld (hC : ClAt h b L) {x : Int} (hx : hasL L x) {k : Nat} (hk : k < 4) {v : Value} {t : TxM} (ht : encX t = (encX (txL L x)).set k v) {K : Hp → Prop}
    (H : ∀ h', ClAt h' b (setL L x t) → Ext [b] h h' → h'.size = h.size → K h') : stOk h (Addr.add (adX b x) k) 1 ∧ wth (wrs h (Addr.add (adX b x) k) 0 [v]) K := by
  unfold adX
  rw [addr_mk]
  obtain ⟨hi, e, e2⟩ := txL_has hx
  have hlen := hC.len
  refine hC.st (L' := setL L x t) (by omega) (by rw [setL_len]; exact hlen) hC.clk (fun c h1 h2 h3 h4 => ?_) H
  have hg : ∀ i, i < 806 → (putAt c (x.toNat * 4 + k) [v])[i]? = if i = x.toNat * 4 + k then some v else c[i]? := by
    intro i hi
    rw [putAt_get0 _ _ _ _ (by simp [h1]; omega)]
    by_cases e : i = x.toNat * 4 + k
    · subst e
      rw [if_pos (by simp), if_pos rfl, Nat.sub_self]
      rfl
    · rw [if_neg (by simp; omega), if_neg e]
  refine ⟨fun i hi k' hk' => ?_, ?_, ?_⟩
  · rw [setL_len] at hi
    rw [hg _ (by omega)]
    have hl : (setL L x t).l[i]'(by rw [setL_len]; exact hi) = if i = x.toNat - 1 then t else L.l[i] := by
      simp only [setL, List.getElem_set]
      split <;> split <;> first | rfl | omega
    rw [hl]
    by_cases ei : i = x.toNat - 1
    · rw [if_pos ei, ht, List.getElem?_set]
      subst ei
      rw [e2]
      by_cases ek : k' = k
      · subst ek
        rw [if_pos rfl, if_pos rfl, if_pos (by rw [encX_len]; omega)]
      · rw [if_neg (by omega), if_neg (by omega), ← e2, h2 _ hi k' hk', e]
    · rw [if_neg ei, if_neg (by omega)]
      exact h2 i hi k' hk'
  · rw [hg _ (by omega), if_neg (by omega), h3, setL_len]
  · rw [hg _ (by omega), if_neg (by omega), h4]
    rfl
theorem ClAt.setClock (hC : ClAt h b L) {v : Int} (hv : 0 ≤ v ∧ v ≤ 2 ^ 40) {K : Hp → Prop}
    (H : ∀ h', ClAt h' b { L with clock := v } → Ext [b] h h' → h'.size = h.size → K h') : stOk h (Addr.add ⟨b, 0, none⟩ 805) 1 ∧ wth (wrs h (Addr.add ⟨b, 0, none⟩ 805) 0 [.int .i64 v]) K := by
  rw [addr_mk]
  have hlen := hC.len
  refine hC.st (L' := { L with clock := v }) (by omega) hlen hv (fun c h1 h2 h3 h4 => ?_) H
  have hg : ∀ i, i < 806 → (putAt c (0 + 805) [.int .i64 v])[i]? = if i = 805 then some (.int .i64 v) else c[i]? := by
    intro i hi
    rw [putAt_get0 _ _ _ _ (by simp [h1])]
    by_cases e : i = 805
    · subst e; rfl
    · rw [if_neg (by simp; omega), if_neg e]
  refine ⟨fun i hi k' hk' => ?_, ?_, ?_⟩
  · rw [hg _ (by simp only at hi; omega), if_neg (by simp only at hi; omega)]
    exact h2 i hi k' hk'
  · rw [hg _ (by omega), if_neg (by omega), h3]
  · rw [hg _ (by omega), if_pos rfl]
theorem Begin_s (hC : ClAt h b L) (r : Bool) (hQ : ∀ h', ClAt h' b (beginL L r) → Ext [b] h h' → h'.size = h.size → Q [.int .i64 (if L.l.length = 200 then 0 else (L.l.length : Int) + 1), .int .i64 (if L.l.length = 200 then 74 else 0)] h') : S_clog_Log_Begin (some ⟨b, 0, none⟩) r h Q := by
  refine O_clog_Log_Begin _ _ ?_
  delta F_clog_Log_Begin rI rB rS rP rM rL vI vB vS vP vM vL vC vA ad nb gb wi bl bz tn isn sib pu oc
  rw [if_neg (by simp)]
  simp only [nilW_some]
  refine ⟨_, hC.n, ?_⟩
  have hlen := hC.len
  by_cases hf : L.l.length = 200
  · rw [if_pos (by simp [hf])]
    have := hQ h
    unfold beginL at this
    rw [if_pos hf, if_pos hf, if_pos hf] at this
    exact this hC (Ext.refl _ _) rfl
  · rw [if_neg (by simp; omega)]
    refine ⟨_, hC.n, ?_⟩
    obtain ⟨c, h1, h2, h3, h4, h5⟩ := hC.cells
    simp only [addr_mk, Nat.zero_add]
    rw [wrap64 (by omega) (by omega)]
    refine st_blk h1 (by omega) fun g1 s1 b1 e1 => ?_
    have hg1 : ∀ i, i < 806 → (putAt c 804 [.int .i64 ((L.l.length : Int) + 1)])[i]? = if i = 804 then some (.int .i64 ((L.l.length : Int) + 1)) else c[i]? := by
      intro i hi
      rw [putAt_get0 _ _ _ _ (by simp [h2])]
      by_cases e : i = 804
      · subst e; rfl
      · rw [if_neg (by simp; omega), if_neg e]
    refine ⟨_, by rw [rd_blk b1, hg1 _ (by omega), if_pos rfl], L.clock, by rw [rd_blk b1, hg1 _ (by omega), if_neg (by omega), h5], by omega, by omega, ?_⟩
    have hof : Int.toNat ((L.l.length : Int) + 1) * 4 = (L.l.length + 1) * 4 := by omega
    rw [hof]
    refine st_blk b1 (by rw [putAt_size]; omega) fun g2 s2 b2 e2 => ?_
    have hg2 : ∀ i, i < 806 → (putAt (putAt c 804 [.int .i64 ((L.l.length : Int) + 1)]) ((L.l.length + 1) * 4) [.int .i64 1, .int .i64 0, .int .i64 L.clock, .bool r])[i]? =
        if (L.l.length + 1) * 4 ≤ i ∧ i < (L.l.length + 1) * 4 + 4 then [Value.int .i64 1, .int .i64 0, .int .i64 L.clock, .bool r][i - (L.l.length + 1) * 4]? else if i = 804 then some (.int .i64 ((L.l.length : Int) + 1)) else c[i]? := by
      intro i hi
      rw [putAt_get0 _ _ _ _ (by simp [h2]; omega)]
      split
      · rename_i q; rw [if_pos (by simpa using q)]
      · rename_i q; rw [if_neg (by simpa using q), hg1 i hi]
    refine ⟨(L.l.length : Int) + 1, by rw [rd_blk b2, hg2 _ (by omega), if_neg (by omega), if_pos rfl], ?_⟩
    have := hQ g2
    unfold beginL at this
    rw [if_neg hf, if_neg hf, if_neg hf] at this
    refine this ⟨⟨_, b2, by rw [putAt_size, putAt_size]; exact h2, fun i hi k hk => ?_, ?_, ?_⟩, by simp; omega, hC.clk⟩ (e1.trans e2 fun b hb _ => hb) (by omega)
    · simp only [List.length_append, List.length_cons, List.length_nil] at hi
      rw [hg2 _ (by omega)]
      by_cases e : i = L.l.length
      · subst e
        rw [if_pos (by omega), List.getElem_append_right (by omega)]
        simp only [Nat.sub_self, List.getElem_cons_zero, Nat.add_sub_cancel_left]
        rfl
      · rw [if_neg (by omega), if_neg (by omega), List.getElem_append_left (by omega)]
        exact h3 i (by omega) k hk
    · rw [hg2 _ (by omega), if_neg (by omega), if_pos rfl]
      simp
    · rw [hg2 _ (by omega), if_neg (by omega), if_neg (by omega), h5]
theorem ends_s (hC : ClAt h b L) (x : Int) (hQ : Q [.pointer (if runsL L x then some (adX b x) else none), .int .i64 (if runsL L x then 0 else 76)] h) : S_clog_Log_ends (some ⟨b, 0, none⟩) x h Q := by
  refine O_clog_Log_ends _ _ ?_
  delta F_clog_Log_ends rI rB rS rP rM rL vI vB vS vP vM vL vC vA ad nb gb wi bl bz tn isn sib pu oc
  rw [if_neg (by simp)]
  refine get_s hC x ⟨_, rfl, ?_⟩
  intro J hJ
  have jT : ¬ runsL L x → J [.bool true] h := fun hn => by
    refine hJ _ _ ?_
    rw [if_pos rfl]
    rw [if_neg hn, if_neg hn] at hQ
    exact hQ
  by_cases hh : hasL L x
  · rw [if_pos hh, if_neg (by simp)]
    simp only [nilW_some]
    refine ⟨_, (hC.tx hh).1, ?_⟩
    by_cases hs : (txL L x).state = 1
    · have e : ((txL L x).state != 1) = false := by simp [hs]
      rw [e]
      refine hJ _ _ ?_
      rw [if_neg (by decide), if_pos hh]
      rw [if_pos ⟨hh, hs⟩, if_pos ⟨hh, hs⟩] at hQ
      exact hQ
    · have e : ((txL L x).state != 1) = true := by simp [hs]
      rw [e]
      exact jT fun hr => hs hr.2
  · rw [if_neg hh, if_pos (by rfl)]
    exact jT fun hr => hh hr.1
theorem setL_set {L : LM} {x : Int} (t t' : TxM) : setL (setL L x t) x t' = setL L x t' := by
  unfold setL
  simp only [List.set_set]
theorem Commit_s (hC : ClAt h b L) (x : Int) (hk : L.clock < 2 ^ 40) (hQ : ∀ h', ClAt h' b (commitL L x) → Ext [b] h h' → h'.size = h.size → Q [.int .i64 (if runsL L x then L.clock + 1 else 0), .int .i64 (if runsL L x then 0 else 76)] h') : S_clog_Log_Commit (some ⟨b, 0, none⟩) x h Q := by
  refine O_clog_Log_Commit _ _ ?_
  delta F_clog_Log_Commit rI rB rS rP rM rL vI vB vS vP vM vL vC vA ad nb gb wi bl bz tn isn sib pu oc
  refine ends_s hC x ⟨_, _, rfl, ?_⟩
  by_cases hr : runsL L x
  · rw [if_pos hr, if_pos hr, if_neg (by decide)]
    simp only [nilW_some]
    have hclk := hC.clk
    refine ⟨_, hC.clock, ?_⟩
    rw [wrap64 (by omega) (by omega)]
    refine hC.setClock (v := L.clock + 1) (by omega) fun h1 hC1 e1 s1 => ?_
    refine ⟨_, hC1.clock, ?_⟩
    have hh1 : hasL { L with clock := L.clock + 1 } x := hr.1
    refine hC1.fld hh1 (k := 0) (by omega) (t := { txL L x with state := 2 }) rfl fun h2 hC2 e2 s2 => ?_
    have hh2 : hasL (setL { L with clock := L.clock + 1 } x { txL L x with state := 2 }) x := (hasL_set _ _ _ _).2 hh1
    refine hC2.fld hh2 (k := 1) (by omega) (t := { txL L x with state := 2, csn := L.clock + 1 }) (by rw [txL_set hh1, if_pos rfl]; rfl) fun h3 hC3 e3 s3 => ?_
    rw [setL_set] at hC3
    refine ⟨_, hC3.clock, ?_⟩
    have := hQ h3
    unfold commitL at this
    rw [if_pos hr, if_pos hr, if_pos hr] at this
    exact this hC3 ((e1.trans e2 fun b hb _ => hb).trans e3 fun b hb _ => hb) (by omega)
  · rw [if_neg hr, if_neg hr, if_pos (by decide)]
    have := hQ h
    unfold commitL at this
    rw [if_neg hr, if_neg hr, if_neg hr] at this
    exact this hC (Ext.refl _ _) rfl
theorem Abort_s (hC : ClAt h b L) (x : Int) (hQ : ∀ h', ClAt h' b (abortL L x) → Ext [b] h h' → h'.size = h.size → Q [.int .i64 (if runsL L x then 0 else 76)] h') : S_clog_Log_Abort (some ⟨b, 0, none⟩) x h Q := by
  refine O_clog_Log_Abort _ _ ?_
  delta F_clog_Log_Abort rI rB rS rP rM rL vI vB vS vP vM vL vC vA ad nb gb wi bl bz tn isn sib pu oc
  refine ends_s hC x ⟨_, _, rfl, ?_⟩
  intro J hJ
  by_cases hr : runsL L x
  · rw [if_pos hr, if_pos hr, if_pos (by decide)]
    simp only [nilW_some]
    refine hC.fld hr.1 (k := 0) (by omega) (t := { txL L x with state := 3 }) rfl fun h2 hC2 e2 s2 => ?_
    refine hJ _ ?_
    have := hQ h2
    unfold abortL at this
    rw [if_pos hr, if_pos hr] at this
    rw [if_pos hr]
    exact this hC2 e2 s2
  · rw [if_neg hr, if_neg hr, if_neg (by decide)]
    refine hJ _ ?_
    have := hQ h
    unfold abortL at this
    rw [if_neg hr, if_neg hr] at this
    rw [if_neg hr]
    exact this hC (Ext.refl _ _) rfl
theorem one_c (hC : ClAt h b L) (x : Int) (hQ : ∀ h', Ext [] h h' → Q [.agg (encX (txL L x)).toArray] h') : S_clog_Log_one (some ⟨b, 0, none⟩) x h Q := by
  refine O_clog_Log_one _ _ ?_
  delta F_clog_Log_one rI rB rS rP rM rL vI vB vS vP vM vL vC vA ad nb gb wi bl bz tn isn sib pu oc
  refine newI fun h1 s1 b1 e1 => ?_
  refine get_s (hC.ext0 e1) x ⟨_, rfl, ?_⟩
  by_cases hh : hasL L x
  · rw [if_pos hh, if_pos (by simp)]
    simp only [nilW_some]
    obtain ⟨r0, r1, r2, r3⟩ := (hC.ext0 e1).tx hh
    refine ⟨_, r0, _, r1, _, r2, _, r3, ?_⟩
    refine st_blk b1 (by simp) fun h2 s2 b2 e2 => ?_
    refine ⟨(txL L x).state, by rw [addr_mk, rd_blk b2]; rfl, (txL L x).csn, by rw [addr_mk, rd_blk b2]; rfl, (txL L x).snap, by rw [addr_mk, rd_blk b2]; rfl, (txL L x).reads, by rw [addr_mk, rd_blk b2]; rfl, ?_⟩
    exact hQ h2 (e1.trans e2 fun b hb hlt => by simp at hb; omega)
  · rw [if_neg hh, if_neg (by simp)]
    have hz : txL L x = zTx := by unfold txL; rw [if_neg hh]
    refine st_blk b1 (by simp) fun h2 s2 b2 e2 => ?_
    refine ⟨0, by rw [addr_mk, rd_blk b2]; rfl, 0, by rw [addr_mk, rd_blk b2]; rfl, 0, by rw [addr_mk, rd_blk b2]; rfl, false, by rw [addr_mk, rd_blk b2]; rfl, ?_⟩
    have := hQ h2 (e1.trans e2 fun b hb hlt => by simp at hb; omega)
    rw [hz] at this
    exact this
theorem State_s (hC : ClAt h b L) (x : Int) (hQ : ∀ h', Ext [] h h' → Q [.int .i64 (txL L x).state] h') : S_clog_Log_State (some ⟨b, 0, none⟩) x h Q := by
  refine O_clog_Log_State _ _ ?_
  delta F_clog_Log_State rI rB rS rP rM rL vI vB vS vP vM vL vC vA ad nb gb wi bl bz tn isn sib pu oc
  exact one_c hC x fun h1 e1 => ⟨_, _, _, _, rfl, hQ h1 e1⟩
theorem Csn_s (hC : ClAt h b L) (x : Int) (hQ : ∀ h', Ext [] h h' → Q [.int .i64 (txL L x).csn] h') : S_clog_Log_Csn (some ⟨b, 0, none⟩) x h Q := by
  refine O_clog_Log_Csn _ _ ?_
  delta F_clog_Log_Csn rI rB rS rP rM rL vI vB vS vP vM vL vC vA ad nb gb wi bl bz tn isn sib pu oc
  exact one_c hC x fun h1 e1 => ⟨_, _, _, _, rfl, hQ h1 e1⟩
theorem Snapshot_s (hC : ClAt h b L) (x : Int) (hQ : ∀ h', Ext [] h h' → Q [.int .i64 (txL L x).snap] h') : S_clog_Log_Snapshot (some ⟨b, 0, none⟩) x h Q := by
  refine O_clog_Log_Snapshot _ _ ?_
  delta F_clog_Log_Snapshot rI rB rS rP rM rL vI vB vS vP vM vL vC vA ad nb gb wi bl bz tn isn sib pu oc
  exact one_c hC x fun h1 e1 => ⟨_, _, _, _, rfl, hQ h1 e1⟩
theorem Reads_s (hC : ClAt h b L) (x : Int) (hQ : ∀ h', Ext [] h h' → Q [.bool (txL L x).reads] h') : S_clog_Log_Reads (some ⟨b, 0, none⟩) x h Q := by
  refine O_clog_Log_Reads _ _ ?_
  delta F_clog_Log_Reads rI rB rS rP rM rL vI vB vS vP vM vL vC vA ad nb gb wi bl bz tn isn sib pu oc
  exact one_c hC x fun h1 e1 => ⟨_, _, _, _, rfl, hQ h1 e1⟩
theorem Sees_s (hC : ClAt h b L) (x y : Int) (hQ : Q [.bool (seesL L x y)] h) : S_clog_Log_Sees (some ⟨b, 0, none⟩) x y h Q := by
  refine O_clog_Log_Sees _ _ _ ?_
  delta F_clog_Log_Sees rI rB rS rP rM rL vI vB vS vP vM vL vC vA ad nb gb wi bl bz tn isn sib pu oc
  refine get_s hC x ⟨_, rfl, ?_⟩
  refine get_s hC y ⟨_, rfl, ?_⟩
  intro J hJ
  have jT : ¬ (hasL L x ∧ hasL L y) → J [.bool true] h := fun hn => by
    refine hJ _ _ ?_
    rw [if_pos rfl]
    unfold seesL at hQ
    rw [decide_eq_false hn, Bool.false_and] at hQ
    exact hQ
  by_cases hx : hasL L x
  · rw [if_pos hx, if_neg (by simp)]
    by_cases hy : hasL L y
    · rw [if_pos hy]
      refine hJ _ _ ?_
      rw [if_neg (by simp)]
      unfold seesL at hQ
      rw [decide_eq_true ⟨hx, hy⟩, Bool.true_and] at hQ
      by_cases e : x = y
      · rw [if_pos (by simpa using e)]
        rw [decide_eq_true e, Bool.true_or] at hQ
        exact hQ
      · rw [if_neg (by simpa using e)]
        rw [decide_eq_false e, Bool.false_or] at hQ
        rw [if_pos hy, if_pos hx]
        simp only [nilW_some]
        refine ⟨_, (hC.tx hy).1, ?_⟩
        by_cases hs : (txL L y).state = 2
        · rw [if_pos (by simpa using hs)]
          refine ⟨_, (hC.tx hy).2.1, _, (hC.tx hx).2.2.1, ?_⟩
          simpa [hs] using hQ
        · rw [if_neg (by simpa using hs)]
          simpa [hs] using hQ
    · rw [if_neg hy]
      exact jT fun hh => hy hh.2
  · rw [if_neg hx, if_pos (by rfl)]
    exact jT fun hh => hx hh.1
theorem Beside_s (hC : ClAt h b L) (x y : Int) (hQ : Q [.bool (besideL L x y)] h) : S_clog_Log_Beside (some ⟨b, 0, none⟩) x y h Q := by
  refine O_clog_Log_Beside _ _ _ ?_
  delta F_clog_Log_Beside rI rB rS rP rM rL vI vB vS vP vM vL vC vA ad nb gb wi bl bz tn isn sib pu oc
  refine get_s hC x ⟨_, rfl, ?_⟩
  refine get_s hC y ⟨_, rfl, ?_⟩
  intro J hJ
  have jT : ¬ (hasL L x ∧ hasL L y ∧ x ≠ y ∧ (txL L x).state ≠ 3 ∧ (txL L y).state ≠ 3) → J [.bool true] h := fun hn => by
    refine hJ _ _ ?_
    rw [if_pos rfl]
    unfold besideL at hQ
    rw [decide_eq_false hn, Bool.false_and, Bool.false_and] at hQ
    exact hQ
  by_cases hx : hasL L x
  · rw [if_pos hx, if_neg (by simp)]
    by_cases hy : hasL L y
    · rw [if_pos hy, if_neg (by simp)]
      by_cases e : x = y
      · rw [if_pos (by simpa using e)]
        exact jT fun hh => hh.2.2.1 e
      · rw [if_neg (by simpa using e)]
        simp only [nilW_some]
        refine ⟨_, (hC.tx hx).1, ?_⟩
        by_cases h3 : (txL L x).state = 3
        · rw [if_pos (by simpa using h3)]
          exact jT fun hh => hh.2.2.2.1 h3
        · rw [if_neg (by simpa using h3)]
          refine ⟨_, (hC.tx hy).1, ?_⟩
          by_cases h4 : (txL L y).state = 3
          · have : ((txL L y).state == 3) = true := by simp [h4]
            rw [this]
            exact jT fun hh => hh.2.2.2.2 h4
          · have : ((txL L y).state == 3) = false := by simp [h4]
            rw [this]
            refine hJ _ _ ?_
            rw [if_neg (by decide)]
            unfold besideL at hQ
            rw [decide_eq_true ⟨hx, hy, e, h3, h4⟩, Bool.true_and] at hQ
            refine Sees_s hC x y ⟨_, rfl, ?_⟩
            cases hs : seesL L x y with
            | true =>
              rw [hs] at hQ
              exact hQ
            | false =>
              rw [hs] at hQ
              rw [if_pos (by decide)]
              exact Sees_s hC y x ⟨_, rfl, by simpa using hQ⟩
    · rw [if_neg hy, if_pos (by rfl)]
      exact jT fun hh => hy hh.2.1
  · rw [if_neg hx, if_pos (by rfl)]
    exact jT fun hh => hx hh.1
end
end Go.Lift.E14
namespace Go.Lift.E14
open Go Go.Proofs Go.RowKit Go.Shelf
set_option maxRecDepth 100000
abbrev encP (x : Int × Int) : List Value := [.int .i64 x.1, .int .i64 x.2]
abbrev ekP (x : Int × Int) : Value := .agg #[.int .i64 x.1, .int .i64 x.2]
theorem encP_len (x : Int × Int) : (encP x).length = 2 := rfl
instance keyP : KeyEnc ekP := ⟨fun a b => by
  simp only [keyB, eqCS, keyS, Bool.and_true]
  obtain ⟨a1, a2⟩ := a
  obtain ⟨b1, b2⟩ := b
  rw [Bool.eq_iff_iff]
  simp, fun a b => by simp [likeK, likeCS, likeS]⟩
section
variable {K V : Type} {ek : K → Value} {ev : V → Value} {h h' : Hp} {r : Option Nat} {T : List (K × V)}
end
section
variable {h : Hp} {Q : List Value → Hp → Prop}
end
def cmpP : Int × Int → Int × Int → Int := thenC (fun a b => cmpI a.1 b.1) fun a b => cmpI a.2 b.2
section
variable {h : Hp} {Q : List Value → Hp → Prop}
end
section
variable {h : Hp} {Q : List Value → Hp → Prop}
theorem cmp_ltOf (x y : Int × Int) : Go.Proofs.ltOf cmpP x y = decide (cmpP x y < 0) := rfl
end
end Go.Lift.E14
namespace Go.Lift.E14
open Go Go.Proofs Go.RowKit Go.Shelf
set_option maxRecDepth 100000
structure EM where
  m : List (Int × Int)
  old : List (Int × Int)
def tP (l : List (Int × Int)) : List ((Int × Int) × Unit) := l.map fun x => (x, ())
theorem tP_keys (l : List (Int × Int)) : (tP l).map Prod.fst = l := by unfold tP; rw [List.map_map]; exact List.map_id l
theorem afind_tP (l : List (Int × Int)) (x : Int × Int) : afind (tP l) x = if x ∈ l then some () else none := by
  unfold tP
  induction l with
  | nil => simp [afind]
  | cons a l ih =>
    simp only [List.map_cons, afind, ih, List.mem_cons]
    by_cases e : x = a <;> simp [e]
theorem aput_tP {l : List (Int × Int)} {x : Int × Int} (hx : x ∉ l) : aput (tP l) x () = tP (l ++ [x]) := by
  rw [aput_new (by rw [tP_keys]; exact hx)]
  unfold tP
  simp
theorem filter_tP (l : List (Int × Int)) (d : Int × Int → Bool) : (tP l).filter (fun q => !d q.1) = tP (l.filter fun q => !d q) := by
  unfold tP
  rw [List.filter_map]
  rfl
def touchP (x : Int) (q : Int × Int) : Bool := decide (q.1 = x) || decide (q.2 = x)
def addE (L : LM) (E : EM) (a b : Int) : EM := if besideL L a b = true ∧ (a, b) ∉ E.m then { E with m := E.m ++ [(a, b)] } else E
def dropE (E : EM) (x : Int) : EM := ⟨E.m.filter fun q => !touchP x q, adel E.old x⟩
def oldE (E : EM) (x : Int) : Int := (afind E.old x).getD 0
def oldOk (L : LM) (E : EM) (b csn : Int) : Prop := (txL L b).state ≠ 0 ∧ (txL L b).state ≠ 3 ∧ ¬ csn ≤ (txL L b).snap ∧ ¬ csn ≤ oldE E b
instance (L : LM) (E : EM) (b csn : Int) : Decidable (oldOk L E b csn) := by unfold oldOk; exact inferInstance
def oldInE (L : LM) (E : EM) (b csn : Int) : EM := if oldOk L E b csn then { E with old := aput E.old b csn } else E
def inE (E : EM) (x : Int) : List Int := sortI ((E.m.filter fun q => decide (q.2 = x)).map Prod.fst)
def outE (E : EM) (x : Int) : List Int := sortI ((E.m.filter fun q => decide (q.1 = x)).map Prod.snd)
def stepF (L : LM) (p least t3 : Int) : Int :=
  if (txL L t3).csn = 0 ∨ ((txL L p).csn ≠ 0 ∧ (txL L p).csn ≤ (txL L t3).csn) then least
  else if least = 0 ∨ (txL L t3).csn < least then (txL L t3).csn else least
def firstE (L : LM) (E : EM) (p : Int) : Int := (outE E p).foldl (stepF L p) 0
def spStep (L : LM) (csn : Int) (acc : List Int × Bool) (t1 : Int) : List Int × Bool :=
  if (txL L t1).state = 3 ∨ ((txL L t1).state = 2 ∧ (txL L t1).csn < csn) then acc
  else if (txL L t1).reads = true ∧ (txL L t1).snap < csn then acc
  else (if (txL L t1).state = 1 then acc.1 ++ [t1] else acc.1, true)
def spoiltE (L : LM) (E : EM) (p : Int) : List Int × Bool :=
  if (txL L p).state = 3 then ([], false)
  else if firstE L E p = 0 then ([], false)
  else (inE E p).foldl (spStep L (firstE L E p)) ([], decide (oldE E p ≥ firstE L E p))
def aheadB (L : LM) (t3 t1 : Int) : Bool := (decide (t1 = t3) || decide ((txL L t1).state = 1)) && !(txL L t1).reads
def aheadE (L : LM) (E : EM) (t3 : Int) : List Int := (inE E t3).filter fun p => decide ((txL L p).state = 1) && (inE E p).any (aheadB L t3)
structure EOk (N : Nat) (E : EM) : Prop where
  nd : E.m.Nodup
  od : (E.old.map Prod.fst).Nodup
  len : E.m.length ≤ N
structure EvS (G : Nat → Prop) (h : Hp) (cb e : Nat) (L : LM) (E : EM) : Prop where
  lt : ∀ b, G b → b < h.size
  cl : ClAt h cb L
  ed : ∃ mb ob, Blk h e #[.pointer (some ⟨cb, 0, none⟩), .map (some mb), .map (some ob)] T_edge_Edges ∧ IsMap ekP evU h mb (tP E.m) ∧ IsMap encI encI h ob E.old ∧ mb ≠ ob ∧ ¬ G mb ∧ ¬ G ob
  ng : ¬ G cb ∧ ¬ G e
section
variable {G G' : Nat → Prop} {h h' h'' : Hp} {cb e : Nat} {L : LM} {E : EM} {Q : List Value → Hp → Prop}
theorem map_ne_cells {b m : Nat} {K V : Type} {ek : K → Value} {ev : V → Value} {T : List (K × V)} {c : Array Value} {Ty : TypeId} (hm : IsMap ek ev h m T) (hb : Blk h b c Ty) : b ≠ m := by
  rintro rfl
  obtain ⟨es, cl, h1, _⟩ := hm
  unfold Blk at hb
  rw [h1] at hb
  cases hb
theorem EvS.ext0 (hE : EvS G h cb e L E) (he : Ext [] h h') : EvS G h' cb e L E := by
  obtain ⟨h1, h2, ⟨mb, ob, a1, a2, a3, a4⟩, h4⟩ := hE
  have := he.sz
  exact ⟨fun b hb => by have := h1 b hb; omega, h2.ext0 he, ⟨mb, ob, he.get a1 (by simp), a2.ext he (by simp), a3.ext he (by simp), a4⟩, h4⟩
theorem EvS.cb_ne (hE : EvS G h cb e L E) : cb ≠ e := by
  rintro rfl
  obtain ⟨c, h1, h2, _⟩ := hE.cl.cells
  obtain ⟨mb, ob, a1, _⟩ := hE.ed
  unfold Blk at h1 a1
  rw [h1] at a1
  simp only [Option.some.injEq, Obj.cells.injEq] at a1
  have : c.size = 3 := by rw [a1.1]; rfl
  omega
/-- The log changes. -/
theorem EvS.log (hE : EvS G h cb e L E) {L' : LM} (hC : ClAt h' cb L') (he : Ext [cb] h h') : EvS G h' cb e L' E ∧ KG G h h' := by
  have hne := hE.cb_ne
  obtain ⟨h1, h2, ⟨mb, ob, a1, a2, a3, a4⟩, h4⟩ := hE
  obtain ⟨c, c1, _⟩ := h2.cells
  have n1 := map_ne_cells a2 c1
  have n2 := map_ne_cells a3 c1
  have := he.sz
  exact ⟨⟨fun b hb => by have := h1 b hb; omega, hC, ⟨mb, ob, he.get a1 (by simp; exact hne.symm), a2.ext he (by simp; exact n1.symm), a3.ext he (by simp; exact n2.symm), a4⟩, h4⟩, kg_ext he h1 (by simp; exact h4.1)⟩
theorem gx_l : ∀ b, G b → GX G h h' b := fun _ hb => Or.inl hb
theorem EvS.ptr (hE : EvS G h cb e L E) : rd h (Addr.add ⟨e, 0, none⟩ 0) = some (.pointer (some ⟨cb, 0, none⟩)) := by
  obtain ⟨mb, ob, a1, _⟩ := hE.ed
  rw [addr_mk, rd_blk a1]
  rfl
theorem none_s (hE : EvS G h cb e L E) (hQ : Q [.bool false] h) : S_edge_Edges_none (some ⟨e, 0, none⟩) h Q := by
  refine O_edge_Edges_none _ ?_
  delta F_edge_Edges_none rI rB rS rP rM rL vI vB vS vP vM vL vC vA ad nb gb wi bl bz tn isn sib pu oc
  rw [if_neg (by simp)]
  simp only [nilW_some]
  exact ⟨_, hE.ptr, hQ⟩
theorem has_pair {m : Nat} {l : List (Int × Int)} (hm : IsMap ekP evU h m (tP l)) (x : Int × Int) : ∃ es, mapAt h (some m) es ∧ KeysLike (ekP x) es ∧ ∃ n : Int, mgetD (ekP x) es (.int .i64 0) = .int .i64 n ∧ decide (n > 0) = decide (x ∈ l) ∧ (x ∉ l → n = 0) := by
  obtain ⟨es, h1, h2⟩ := hm.mapAt
  refine ⟨es, h1, keysLike_ents h2 x, ?_⟩
  rw [mgetD_ents h2 x, afind_tP]
  by_cases hx : x ∈ l
  · rw [if_pos hx]; exact ⟨1, rfl, by simp [hx], fun hn => absurd hx hn⟩
  · rw [if_neg hx]; exact ⟨0, rfl, by simp [hx], fun _ => rfl⟩
theorem Add_s (hE : EvS G h cb e L E) (a b : Int) (hQ : ∀ h', EvS G h' cb e L (addE L E a b) → KG G h h' → Q [.bool (decide (besideL L a b = true ∧ (a, b) ∉ E.m))] h') : S_edge_Edges_Add (some ⟨e, 0, none⟩) a b h Q := by
  refine O_edge_Edges_Add _ _ _ ?_
  delta F_edge_Edges_Add rI rB rS rP rM rL vI vB vS vP vM vL vC vA ad nb gb wi bl bz tn isn sib pu oc
  intro J hJ
  simp only [nilW_some] at hJ
  have jT : ¬ (besideL L a b = true ∧ (a, b) ∉ E.m) → J [.bool true] h := fun hn => by
    refine hJ _ _ ?_
    rw [if_pos rfl]
    have := hQ h
    unfold addE at this
    rw [if_neg hn, decide_eq_false hn] at this
    exact this hE (.refl _ _)
  refine none_s hE ⟨_, rfl, ?_⟩
  rw [if_neg (by decide)]
  simp only [nilW_some]
  refine ⟨_, hE.ptr, ?_⟩
  refine Beside_s hE.cl a b ⟨_, rfl, ?_⟩
  by_cases hb : besideL L a b = true
  · rw [hb, if_neg (by decide)]
    obtain ⟨g1, g2, ⟨mb, ob, a1, a2, a3, a4, a5, a6⟩, g4⟩ := hE
    have rm : rd h (Addr.add ⟨e, 0, none⟩ 1) = some (.map (some mb)) := by rw [addr_mk, rd_blk a1]; rfl
    obtain ⟨es, k1, k2, n, k3, k4, k5⟩ := has_pair a2 (a, b)
    refine ⟨_, rm, es, k1, k2, n, k3, ?_⟩
    rw [k4]
    by_cases hm : (a, b) ∈ E.m
    · rw [decide_eq_true hm]
      exact jT fun hh => hh.2 hm
    · rw [decide_eq_false hm]
      refine hJ _ _ ?_
      rw [if_neg (by decide)]
      have hn0 := k5 hm
      subst hn0
      refine ⟨_, rm, es, k1, k2, 0, k3, ?_⟩
      obtain ⟨es2, c2, q1, q2, q3, q4⟩ := a2.bump (k := (a, b)) (by rw [afind_tP, if_neg hm]) (.int .i64 0) ()
      refine ⟨mb, es2, c2, rfl, q1, q2, 0, q3, setI q1 fun g1' s1 b1 e1 => ?_⟩
      obtain ⟨⟨es3, r1, r2, r3⟩, es4, c4, es5, r4, r5, r6⟩ := q4 g1' b1
      refine ⟨⟨es3, r1, r2, r3 _⟩, mb, es4, c4, es5, rfl, r4, r5, setI r4 fun g2' s2 b2 e2 => ?_⟩
      have hm2 := r6 g2' b2
      rw [aput_tP hm] at hm2
      have n1 := map_ne_cells a2 a1
      obtain ⟨c, c1, _⟩ := g2.cells
      have n2 := map_ne_cells a2 c1
      have e12 : Ext [mb] h g2' := e1.trans e2 fun b hb _ => hb
      have := hQ g2'
      unfold addE at this
      rw [if_pos ⟨hb, hm⟩, decide_eq_true ⟨hb, hm⟩] at this
      have hz := e12.sz
      exact this ⟨fun b hb => by have := g1 b hb; omega, g2.ext e12 (by simp; exact n2), ⟨mb, ob, e12.get a1 (by simp; exact n1), hm2, a3.ext e12 (by simp; exact fun e => a4 e.symm), a4, a5, a6⟩, g4⟩ (kg_ext e12 g1 (by simp; exact a5))
  · have hb' : besideL L a b = false := by simpa using hb
    rw [hb', if_pos (by decide)]
    exact jT fun hh => hb hh.1
theorem old_get {m : Nat} {T : List (Int × Int)} (hm : IsMap encI encI h m T) (x : Int) : ∃ es, mapAt h (some m) es ∧ KeysLike (.int .i64 x) es ∧ mgetD (.int .i64 x) es (.int .i64 0) = .int .i64 ((afind T x).getD 0) := by
  obtain ⟨es, h1, h2⟩ := hm.mapAt
  refine ⟨es, h1, keysLike_ents h2 x, ?_⟩
  rw [mgetD_ents h2 x]
  cases afind T x <;> rfl
theorem EvS.oldR (hE : EvS G h cb e L E) (x : Int) : ∃ ob, rd h (Addr.add ⟨e, 0, none⟩ 2) = some (.map (some ob)) ∧ ∃ es, mapAt h (some ob) es ∧ KeysLike (.int .i64 x) es ∧ mgetD (.int .i64 x) es (.int .i64 0) = .int .i64 (oldE E x) := by
  obtain ⟨mb, ob, a1, a2, a3, _⟩ := hE.ed
  obtain ⟨es, k1, k2, k3⟩ := old_get a3 x
  exact ⟨ob, by rw [addr_mk, rd_blk a1]; rfl, es, k1, k2, k3⟩
theorem OldIn_s (hE : EvS G h cb e L E) (b csn : Int) (hQ : ∀ h', EvS G h' cb e L (oldInE L E b csn) → KG G h h' → Q [.bool (decide (oldOk L E b csn))] h') : S_edge_Edges_OldIn (some ⟨e, 0, none⟩) b csn h Q := by
  refine O_edge_Edges_OldIn _ _ _ ?_
  delta F_edge_Edges_OldIn rI rB rS rP rM rL vI vB vS vP vM vL vC vA ad nb gb wi bl bz tn isn sib pu oc
  intro J hJ
  simp only [nilW_some] at hJ
  have jT : ∀ g, Ext [] h g → ¬ oldOk L E b csn → J [.bool true] g := fun g eg hn => by
    refine hJ _ _ ?_
    rw [if_pos rfl]
    have := hQ g
    unfold oldInE at this
    rw [if_neg hn, decide_eq_false hn] at this
    exact this (hE.ext0 eg) (kg_ext0 eg hE.lt)
  refine none_s hE ⟨_, rfl, ?_⟩
  rw [if_neg (by decide)]
  simp only [nilW_some]
  refine ⟨_, hE.ptr, ?_⟩
  refine State_s hE.cl b fun h1 e1 => ⟨_, rfl, ?_⟩
  have hE1 := hE.ext0 e1
  by_cases q1 : (txL L b).state = 0
  · rw [if_pos (by simpa using q1)]
    exact jT h1 e1 fun hh => hh.1 q1
  rw [if_neg (by simpa using q1)]
  refine ⟨_, hE1.ptr, ?_⟩
  refine State_s hE1.cl b fun h2 e2 => ⟨_, rfl, ?_⟩
  have hE2 := hE1.ext0 e2
  have e12 := e1.trans0 e2
  by_cases q2 : (txL L b).state = 3
  · rw [if_pos (by simpa using q2)]
    exact jT h2 e12 fun hh => hh.2.1 q2
  rw [if_neg (by simpa using q2)]
  refine ⟨_, hE2.ptr, ?_⟩
  refine Snapshot_s hE2.cl b fun h3 e3 => ⟨_, rfl, ?_⟩
  have hE3 := hE2.ext0 e3
  have e13 := e12.trans0 e3
  by_cases q3 : csn ≤ (txL L b).snap
  · rw [if_pos (by simpa using q3)]
    exact jT h3 e13 fun hh => hh.2.2.1 q3
  rw [if_neg (by simpa using q3)]
  obtain ⟨ob, r1, es, k1, k2, k3⟩ := hE3.oldR b
  refine ⟨_, r1, es, k1, k2, _, k3, ?_⟩
  by_cases q4 : csn ≤ oldE E b
  · rw [decide_eq_true q4]
    exact jT h3 e13 fun hh => hh.2.2.2 q4
  rw [decide_eq_false q4]
  refine hJ _ _ ?_
  rw [if_neg (by decide)]
  have hok : oldOk L E b csn := ⟨q1, q2, q3, q4⟩
  obtain ⟨g1, g2, ⟨mb, ob', a1, a2, a3, a4, a5, a6⟩, g4⟩ := hE3
  obtain ⟨es2, c2, p1, p2, p3⟩ := a3.put b csn
  refine ⟨some ob', by rw [addr_mk, rd_blk a1]; rfl, ob', es2, c2, rfl, p1, p2, setI p1 fun h4 s4 b4 e4 => ?_⟩
  have n1 := map_ne_cells a3 a1
  obtain ⟨c, c1, _⟩ := g2.cells
  have n2 := map_ne_cells a3 c1
  have := hQ h4
  unfold oldInE at this
  rw [if_pos hok, decide_eq_true hok] at this
  have hz := e4.sz
  refine this ⟨fun b hb => by have := g1 b hb; omega, g2.ext e4 (by simp; exact n2), ⟨mb, ob', e4.get a1 (by simp; exact n1), a2.ext e4 (by simp; exact a4), p3 h4 b4, a4, a5, a6⟩, g4⟩ ((kg_ext0 e13 hE.lt).trans (kg_ext e4 g1 (by simp; exact a6)))
theorem cellP {g : Hp} {x : Int × Int} {K : Hp → Prop} {n22 n24 : Int} (hk : ekP x = Value.agg #[(Value.int .i64 n22), (Value.int .i64 n24)])
    (H : ∀ g', Ext [] g g' → g'.size = g.size + 1 → Blk g' g.size (encP x).toArray T_2_int → K g') :
    wth (Array.push g (Obj.cells #[(Value.int .i64 (0 : Int)), (Value.int .i64 (0 : Int))] T_2_int)) fun h28 =>
        stOk h28 (Addr.mk (Array.size g) 0 none) 2 ∧ wth (wrs h28 (Addr.mk (Array.size g) 0 none) 0 [(Value.int .i64 n22), (Value.int .i64 n24)]) K := by
  refine newI fun h1 s1 b1 e1 => ?_
  refine st_blk b1 (by simp) fun h2 s2 b2 e2 => ?_
  refine H h2 (e1.trans e2 fun b hb hlt => by simp at hb; omega) (by omega) ?_
  have e : (encP x).toArray = #[(Value.int .i64 n22), (Value.int .i64 n24)] := Value.agg.inj hk
  rw [e]
  exact b2
theorem drop1_s {b : Nat} {x : Int} (q : Int × Int) (hb : Blk h b #[.int .i64 x] T_int) (hQ : ∀ h', Ext [] h h' → Q [.bool (touchP x q)] h') (v : Int) : Fn PP 170 ((#[] ++ #[ekP q, .int .i64 v]) ++ #[.pointer (some ⟨b, 0, none⟩)]) h Q := by
  refine O_edge_Edges_Drop_1 _ _ _ _ ?_
  delta F_edge_Edges_Drop_1 rI rB rS rP rM rL vI vB vS vP vM vL vC vA ad nb gb wi bl bz tn isn sib pu oc
  refine newI fun h1 s1 b1 e1 => ?_
  have hb1 := e1.get hb (by simp)
  have := hQ h1 e1
  unfold touchP at this
  refine ⟨by decide, by decide, q.1, by rw [addr_mk, rd_blk b1]; rfl, x, by rw [rd_blk hb1]; rfl, ?_⟩
  by_cases h1' : q.1 = x
  · rw [if_pos (by simpa using h1')]
    simpa [h1'] using this
  · rw [if_neg (by simpa using h1')]
    refine ⟨by decide, by decide, q.2, by rw [addr_mk, rd_blk b1]; rfl, x, by rw [rd_blk hb1]; rfl, ?_⟩
    have e : (q.2 == x) = decide (q.2 = x) := by rw [Bool.eq_iff_iff]; simp
    rw [e]
    simpa [h1'] using this
theorem DeleteFunc_s {m : Nat} {l : List (Int × Int)} {f : Nat} {cs : Array Value} (hm : IsMap ekP evU h m (tP l)) (hn : l.Nodup) (d : Int × Int → Bool)
    (hf : ∀ (q : Int × Int) (g : Hp) (K : List Value → Hp → Prop), Ext [m] h g → (∀ g', Ext [] g g' → K [.bool (d q)] g') → Fn PP f ((#[] ++ #[ekP q, .int .i64 1]) ++ cs) g K)
    (hQ : ∀ h', IsMap ekP evU h' m (tP (l.filter fun q => !d q)) → Ext [m] h h' → Q [] h') : S_maps_DeleteFunc_map_2_int_int_2_int_int (some m) f cs h Q := by
  refine O_maps_DeleteFunc_map_2_int_int_2_int_int _ _ _ ?_
  delta F_maps_DeleteFunc_map_2_int_int_2_int_int rI rB rS rP rM rL vI vB vS vP vM vL vC vA ad nb gb wi bl bz tn isn sib pu oc
  obtain ⟨o, ho, hR⟩ := rangeD_start hm
  have hml := hm.lt
  refine ⟨o, ho, newI fun h2 s2 b2 e2 => ?_⟩
  intro X hX
  refine rangeDel (ek := ekP) (ev := evU) (T := tP l) (m := m) (fun q => d q.1) (by rw [tP_keys]; exact hn) hX (fun g => Ext [m] h g ∧ h2.size ≤ g.size) ?_ ?_ h2 ⟨e2.mono (by simp), Nat.le_refl _⟩ (hR b2 e2)
  · rintro g ⟨eg, zg⟩ hmg
    rw [filter_tP] at hmg
    exact hQ g hmg eg
  · rintro p g e g' T1 done ⟨eg, zg⟩ hp hk hv f1 u1 hr hlt hnext
    obtain ⟨q, _, rfl⟩ := List.mem_map.1 hp
    have eg' : Ext [m] h g' := eg.trans f1 (by intro b hb hlt; simp at hb; omega)
    refine ⟨_, _, hk, _, hv, ?_⟩
    refine cellP (x := q) rfl fun g2 e3 z3 b3 => ?_
    have r : ∀ i, rd g2 (Addr.add (Addr.mk g'.size 0 none) i) = (encP q)[i]? := fun i => by rw [addr_mk, rd_blk b3, Nat.zero_add]; simp
    refine ⟨_, r 0, _, r 1, ?_⟩
    refine hf q g2 _ (eg'.trans0 e3) fun g3 e4 => ⟨_, rfl, ?_⟩
    have e34 := e3.trans0 e4
    have b4 := e4.get b3 (by simp)
    have hr3 := hr.ext e34 (by simp) (by simp)
    have zz := e34.sz
    cases hd : d q with
    | false =>
      rw [if_neg (by decide)]
      refine hnext g3 ⟨eg'.trans0 e34, by omega⟩ ?_
      rw [if_neg (by simp [hd])]
      exact hr3
    | true =>
      rw [if_pos rfl]
      have r2 : ∀ i, rd g3 (Addr.add (Addr.mk g'.size 0 none) i) = (encP q)[i]? := fun i => by rw [addr_mk, rd_blk b4, Nat.zero_add]; simp
      obtain ⟨es, c, p1, p2, p3⟩ := hr3.del q
      refine ⟨_, r2 0, _, r2 1, m, es, c, rfl, p1, p2, setI p1 fun g4 s4 b5 e5 => ?_⟩
      refine hnext g4 ⟨(eg'.trans0 e34).trans e5 fun b hb _ => hb, by omega⟩ ?_
      rw [if_pos hd]
      exact p3 g4 e5 b5
theorem Drop14_s {N : Nat} (hE : EvS G h cb e L E) (hok : EOk N E) (x : Int) (hQ : ∀ h', EvS G h' cb e L (dropE E x) → KG G h h' → Q [] h') : S_edge_Edges_Drop (some ⟨e, 0, none⟩) x h Q := by
  refine O_edge_Edges_Drop _ _ ?_
  delta F_edge_Edges_Drop rI rB rS rP rM rL vI vB vS vP vM vL vC vA ad nb gb wi bl bz tn isn sib pu oc
  refine newI fun h1 s1 b1 e1 => ?_
  have hE1 := hE.ext0 e1
  refine none_s hE1 ⟨_, rfl, ?_⟩
  rw [if_neg (by decide)]
  simp only [nilW_some]
  obtain ⟨g1, g2, ⟨mb, ob, a1, a2, a3, a4, a5, a6⟩, g4⟩ := hE1
  obtain ⟨mb0, ob0, a10, a20, a30, _⟩ := hE.ed
  have hmb : mb < h.size := by
    have := e1.get a10 (by simp)
    unfold Blk at a1
    rw [this] at a1
    simp at a1
    rw [← a1.1]
    exact a20.lt
  have hob : ob < h.size := by
    have := e1.get a10 (by simp)
    unfold Blk at a1
    rw [this] at a1
    simp at a1
    rw [← a1.2]
    exact a30.lt
  refine ⟨some mb, by rw [addr_mk, rd_blk a1]; rfl, ?_⟩
  refine DeleteFunc_s a2 hok.nd (touchP x) (fun q g K eg hK => drop1_s q (eg.get b1 (by simp; omega)) hK 1) fun h2 hm2 e2 => ⟨rfl, ?_⟩
  have n1 := map_ne_cells a2 a1
  obtain ⟨c, c1, _⟩ := g2.cells
  have n2 := map_ne_cells a2 c1
  have n3 := map_ne_cells a3 a1
  have n4 := map_ne_cells a3 c1
  have a1' := e2.get a1 (by simp; exact n1)
  have a3' := a3.ext e2 (by simp; exact fun e => a4 e.symm)
  refine ⟨some ob, by rw [addr_mk, rd_blk a1']; rfl, x, by rw [rd_blk (e2.get b1 (by simp; omega))]; rfl, ?_⟩
  obtain ⟨es2, c2, p1, p2, p3⟩ := a3'.del x
  refine ⟨ob, es2, c2, rfl, p1, p2, setI p1 fun h3 s3 b3 e3 => ?_⟩
  have z2 := e2.sz
  have z3 := e3.sz
  refine hQ h3 ⟨fun b hb => by have := g1 b hb; omega, (g2.ext e2 (by simp; exact n2)).ext e3 (by simp; exact n4), ⟨mb, ob, e3.get a1' (by simp; exact n3), hm2.ext e3 (by simp; exact a4), p3 h3 b3, a4, a5, a6⟩, g4⟩ (((kg_ext0 e1 hE.lt).trans (kg_ext e2 g1 (by simp; exact a5))).trans (kg_ext e3 (fun b hb => by have := g1 b hb; omega) (by simp; exact a6)))
end
end Go.Lift.E14
namespace Go.Lift.E14
open Go Go.Proofs Go.RowKit Go.Shelf
set_option maxRecDepth 100000
theorem loopI2 {A : Type} {va : A → Value} {X : List Value → Hp → Prop} (n : Nat) (I : Nat → A → Hp → Prop) (hend : ∀ a g, I n a g → X [va a, .int .i64 (n : Int)] g)
    (hstep : ∀ i a g, i < n → I i a g → (∀ a' g', I (i + 1) a' g' → X [va a', .int .i64 ((i + 1 : Nat) : Int)] g') → X [va a, .int .i64 (i : Int)] g) (a : A) (g : Hp) (h0 : I 0 a g) : X [va a, .int .i64 (0 : Int)] g := by
  have key : ∀ d i a g, d + i = n → I i a g → X [va a, .int .i64 (i : Int)] g := by
    intro d
    induction d with
    | zero =>
      intro i a g hi hI
      have : i = n := by omega
      subst this
      exact hend a g hI
    | succ d ih =>
      intro i a g hi hI
      exact hstep i a g (by omega) hI fun a' g' hI' => ih (i + 1) a' g' (by omega) hI'
  exact key n 0 a g (by omega) h0
section
variable {G G' : Nat → Prop} {h h' h'' : Hp} {cb e : Nat} {L : LM} {E : EM} {Q : List Value → Hp → Prop}
def endF (k : Nat) (q : Int × Int) : Int := if k = 0 then q.1 else q.2
def endsE (E : EM) (x : Int) (k : Nat) : List Int := sortI ((E.m.filter fun q => decide (endF k q = x)).map (endF (1 - k)))
theorem endF_rd {q : Int × Int} {b k : Nat} (hk : k ≤ 1) (hb : Blk h b (encP q).toArray T_2_int) : rd h (Addr.add (Addr.mk b 0 none) (Int.toNat (k : Int) * 1)) = some (.int .i64 (endF k q)) := by
  rw [addr_mk, rd_blk hb, Int.toNat_natCast, Nat.zero_add, Nat.mul_one]
  rcases (by omega : k = 0 ∨ k = 1) with rfl | rfl <;> rfl
theorem ends14_s {N : Nat} (hE : EvS G h cb e L E) (hok : EOk N E) (hN : N ≤ 2 ^ 28) (x : Int) {k : Nat} (hk : k ≤ 1)
    (hQ : ∀ h' s, Ext [] h h' → Own T_int 1 encIL h.size h' s (endsE E x k) → Q [.slice s.a s.n s.c] h') : S_edge_Edges_ends (some ⟨e, 0, none⟩) x (k : Int) h Q := by
  refine O_edge_Edges_ends _ _ _ ?_
  delta F_edge_Edges_ends rI rB rS rP rM rL vI vB vS vP vM vL vC vA ad nb gb wi bl bz tn isn sib pu oc
  refine none_s hE ⟨_, rfl, ?_⟩
  rw [if_neg (by decide)]
  simp only [nilW_some]
  obtain ⟨mb, ob, a1, a2, a3, a4, a5, a6⟩ := hE.ed
  refine ⟨some mb, by rw [addr_mk, rd_blk a1]; rfl, ?_⟩
  obtain ⟨io, hio, hR⟩ := rangeO_start (r := some mb) (h := h) (T := tP E.m) (ek := ekP) (ev := evU) a2
  have hlm := a2.lt
  have hln := hok.len
  refine ⟨io, hio, newI fun h2 s2 b2 e2 => ?_⟩
  intro X hX
  have htl : (tP E.m).length = E.m.length := by simp [tP]
  refine rangeV (ek := ekP) (ev := evU) (T := tP E.m) (r := some mb) (A := Sl) (va := fun l => [.slice l.a l.n l.c]) hX
    (fun done l g => Ext [] h g ∧ h2.size ≤ g.size ∧ Own T_int 1 encIL h.size g l (((done.map Prod.fst).filter fun q => decide (endF k q = x)).map (endF (1 - k))) ∧ h.size ∉ sBlk l) ?_ ?_ h2 [] ⟨none, 0, 0⟩ ?_ (hR b2 e2)
  · rintro done l g ⟨eg, zg, ho, hnb⟩ hp
    have hpl := hp.length_eq
    have hfl : (((done.map Prod.fst).filter fun q => decide (endF k q = x)).map (endF (1 - k))).length ≤ done.length := by
      rw [List.length_map]
      have := List.length_filter_le (fun q => decide (endF k q = x)) (done.map Prod.fst)
      rw [List.length_map] at this
      exact this
    refine SortI_s ho (by omega) fun g2 o2 e3 => ⟨rfl, hQ g2 l (eg.trans e3 fun b hb hlt => ?_) ?_⟩
    · have := own_ltG ho b hb
      omega
    · have hpp : (done.map Prod.fst).Perm E.m := by
        have := hp.map Prod.fst
        rw [tP_keys] at this
        exact this
      have : sortI (((done.map Prod.fst).filter fun q => decide (endF k q = x)).map (endF (1 - k))) = endsE E x k := int_sort_ext ((hpp.filter _).map _)
      rw [← this]
      exact o2
  · rintro done p l g en g' ⟨eg, zg, ho, hnb⟩ ⟨rest, hp⟩ hke hve f1 u1 hr hnext
    have eg' : Ext [] h g' := eg.trans f1 (by intro b hb hlt; simp at hb; omega)
    have hpl := hp.length_eq
    simp only [List.length_append, List.length_cons, List.length_nil] at hpl
    obtain ⟨q, u⟩ := p
    have ho' := ho.ext f1 fun a ha hb => hnb (by simp at hb; exact mem_sBlk.2 ⟨a, ha, hb⟩)
    refine ⟨_, _, hke, _, rfl, ?_⟩
    refine cellP (x := q) rfl fun g2 e3 z3 b3 => ?_
    refine ⟨by omega, by omega, _, endF_rd hk b3, ?_⟩
    have eq2 : (endF k q == x) = decide (endF k q = x) := by rw [Bool.eq_iff_iff]; simp
    rw [eq2]
    have hfl : (((done.map Prod.fst).filter fun q => decide (endF k q = x)).map (endF (1 - k))).length ≤ done.length := by
      rw [List.length_map]
      have := List.length_filter_le (fun q => decide (endF k q = x)) (done.map Prod.fst)
      rw [List.length_map] at this
      exact this
    by_cases hx : endF k q = x
    · rw [if_pos (by simpa using hx)]
      have hw : IntKind.wrap .i64 ((1 : Int) - (k : Int)) = ((1 - k : Nat) : Int) := by rw [wrap64 (by omega) (by omega)]; omega
      rw [hw]
      refine ⟨by omega, by omega, _, endF_rd (by omega) b3, ?_⟩
      refine newI fun g3 s3 b4 e4 => ?_
      have ho3 := (ho'.ext0 e3).ext0 e4
      refine oneG encIL_len encIL_one zc_int bytesI (k := endF (1 - k) q) ho3 b4 (by omega) (by have := eg'.sz; omega) fun l' g4 ho4 e5 hb5 => ?_
      have e34 := e3.trans0 e4
      have hsl := own_ltG ho3
      have z34 := e34.sz
      refine hnext l' g4 ⟨(eg'.trans0 e34).trans e5 fun b hb hlt => by have := hsl b hb; omega, by have := e5.sz; omega, ?_, ?_⟩ ?_
      · rw [List.map_append, List.filter_append, List.map_append]
        simp only [List.map_cons, List.map_nil, List.filter_cons, hx, decide_true, if_true, List.filter_nil]
        exact ho4
      · intro hb
        rcases hb5 _ hb with hb | hb
        · exact hnb hb
        · omega
      · refine (hr.ext e34 (by simp) (by simp)).ext e5 hnb fun m hm hb => ?_
        cases hm
        have := hsl _ hb
        omega
    · rw [if_neg (by simpa using hx)]
      have z3' := e3.sz
      refine hnext l g2 ⟨eg'.trans0 e3, by omega, ?_, hnb⟩ (hr.ext e3 (by simp) (by simp))
      rw [List.map_append, List.filter_append, List.map_append]
      simp only [List.map_cons, List.map_nil, List.filter_cons, hx, decide_false, Bool.false_eq_true, if_false, List.filter_nil, List.append_nil]
      exact ho'.ext0 e3
  · exact ⟨e2, Nat.le_refl _, Own.nil _ _, by simp [sBlk]⟩
theorem In_s {N : Nat} (hE : EvS G h cb e L E) (hok : EOk N E) (hN : N ≤ 2 ^ 28) (x : Int) (hQ : ∀ h' s, Ext [] h h' → Own T_int 1 encIL h.size h' s (inE E x) → Q [.slice s.a s.n s.c] h') : S_edge_Edges_In (some ⟨e, 0, none⟩) x h Q := by
  refine O_edge_Edges_In _ _ ?_
  delta F_edge_Edges_In rI rB rS rP rM rL vI vB vS vP vM vL vC vA ad nb gb wi bl bz tn isn sib pu oc
  exact ends14_s (k := 1) hE hok hN x (by omega) fun h1 s e1 ho => ⟨s, rfl, hQ h1 s e1 ho⟩
theorem Out_s {N : Nat} (hE : EvS G h cb e L E) (hok : EOk N E) (hN : N ≤ 2 ^ 28) (x : Int) (hQ : ∀ h' s, Ext [] h h' → Own T_int 1 encIL h.size h' s (outE E x) → Q [.slice s.a s.n s.c] h') : S_edge_Edges_Out (some ⟨e, 0, none⟩) x h Q := by
  refine O_edge_Edges_Out _ _ ?_
  delta F_edge_Edges_Out rI rB rS rP rM rL vI vB vS vP vM vL vC vA ad nb gb wi bl bz tn isn sib pu oc
  exact ends14_s (k := 0) hE hok hN x (by omega) fun h1 s e1 ho => ⟨s, rfl, hQ h1 s e1 ho⟩
theorem inE_len {N : Nat} (hok : EOk N E) (x : Int) : (inE E x).length ≤ N ∧ (outE E x).length ≤ N := by
  have hl := hok.len
  have h1 := List.length_filter_le (fun q : Int × Int => decide (q.2 = x)) E.m
  have h2 := List.length_filter_le (fun q : Int × Int => decide (q.1 = x)) E.m
  unfold inE outE sortI
  rw [List.length_mergeSort, List.length_mergeSort, List.length_map, List.length_map]
  omega
theorem first_s {N : Nat} (hE : EvS G h cb e L E) (hok : EOk N E) (hN : N ≤ 2 ^ 28) (p : Int) (hQ : ∀ h', Ext [] h h' → Q [.int .i64 (firstE L E p)] h') : S_edge_Edges_first (some ⟨e, 0, none⟩) p h Q := by
  refine O_edge_Edges_first _ _ ?_
  delta F_edge_Edges_first rI rB rS rP rM rL vI vB vS vP vM vL vC vA ad nb gb wi bl bz tn isn sib pu oc
  refine Out_s hE hok hN p fun h1 s e1 ho => ⟨s, rfl, ?_⟩
  have hn := ho.1
  have hlen := (inE_len hok p).2
  intro X hX
  simp only [nilW_some] at hX
  refine loopI2 (A := Int) (va := fun n => .int .i64 n) (outE E p).length (fun i a g => Ext [] h1 g ∧ a = ((outE E p).take i).foldl (stepF L p) 0) ?_ ?_ 0 h1 ⟨Ext.refl _ _, rfl⟩
  · rintro a g ⟨eg, rfl⟩
    refine hX _ _ _ ?_
    rw [if_neg (by simp; omega), List.take_of_length_le (Nat.le_refl _)]
    exact hQ g (e1.trans0 eg)
  · rintro i a g hi ⟨eg, rfl⟩ hnext
    refine hX _ _ _ ?_
    rw [if_pos (by simp; omega)]
    intro J8 hJ8
    have htk : (outE E p).take (i + 1) = (outE E p).take i ++ [(outE E p)[i]] := by rw [List.take_add_one, List.getElem?_eq_getElem hi]; rfl
    rw [htk] at hnext
    simp only [List.foldl_append, List.foldl_cons, List.foldl_nil] at hnext
    generalize ((outE E p).take i).foldl (stepF L p) 0 = a at *
    obtain ⟨ad, ha, hrd⟩ := rdI (ho.ext0 eg).sl.reads hi
    obtain ⟨t3, ht3⟩ : ∃ t3, (outE E p)[i] = t3 := ⟨_, rfl⟩
    rw [ht3] at hrd hnext
    have j8 : ∀ g2 v, Ext [] g g2 → v = stepF L p a t3 → J8 [.int .i64 v] g2 := by
      rintro g2 v e2 rfl
      refine hJ8 _ _ ?_
      rw [wrap64 (by omega) (by omega)]
      exact hnext _ g2 ⟨eg.trans0 e2, rfl⟩
    rw [ha]
    simp only [nilW_some]
    refine ⟨by omega, by omega, ?_⟩
    rw [Int.toNat_natCast]
    have hEg := hE.ext0 (e1.trans0 eg)
    refine ⟨_, hrd, _, hEg.ptr, ?_⟩
    refine Csn_s hEg.cl t3 fun g2 e2 => ⟨_, rfl, ?_⟩
    have hE2 := hEg.ext0 e2
    intro J18 hJ18
    have yes : ∀ g3, Ext [] g g3 → ((txL L t3).csn = 0 ∨ ((txL L p).csn ≠ 0 ∧ (txL L p).csn ≤ (txL L t3).csn)) → J18 [.bool true] g3 := by
      intro g3 e3 hc
      refine hJ18 _ _ ?_
      rw [if_pos rfl]
      exact j8 g3 _ e3 (by unfold stepF; rw [if_pos hc])
    have no : ∀ g3, Ext [] g g3 → ¬ ((txL L t3).csn = 0 ∨ ((txL L p).csn ≠ 0 ∧ (txL L p).csn ≤ (txL L t3).csn)) → J18 [.bool false] g3 := by
      intro g3 e3 hc
      refine hJ18 _ _ ?_
      rw [if_neg (by decide)]
      intro J21 hJ21
      have j21 : ∀ bb : Bool, bb = decide (a = 0 ∨ (txL L t3).csn < a) → J21 [.bool bb] g3 := by
        rintro bb rfl
        refine hJ21 _ _ ?_
        by_cases hh : a = 0 ∨ (txL L t3).csn < a
        · rw [if_pos (by simpa using hh)]
          exact j8 g3 _ e3 (by unfold stepF; rw [if_neg hc, if_pos hh])
        · rw [if_neg (by simpa using hh)]
          exact j8 g3 _ e3 (by unfold stepF; rw [if_neg hc, if_neg hh])
      by_cases h0 : a = 0
      · rw [if_pos (by simpa using h0)]
        exact j21 _ (by simp [h0])
      · rw [if_neg (by simpa using h0)]
        exact j21 _ (by simp [h0])
    by_cases hz : (txL L t3).csn = 0
    · rw [if_pos (by simpa using hz)]
      exact yes g2 e2 (Or.inl hz)
    · rw [if_neg (by simpa using hz)]
      refine ⟨_, hE2.ptr, ?_⟩
      refine Csn_s hE2.cl p fun g3 e3 => ⟨_, rfl, ?_⟩
      have hE3 := hE2.ext0 e3
      by_cases hp0 : (txL L p).csn = 0
      · have : ((txL L p).csn != 0) = false := by simp [hp0]
        rw [this, if_neg (by decide)]
        exact no g3 (e2.trans0 e3) (by rintro (q | q); exact hz q; exact q.1 hp0)
      · have : ((txL L p).csn != 0) = true := by simp [hp0]
        rw [this, if_pos rfl]
        refine ⟨_, hE3.ptr, ?_⟩
        refine Csn_s hE3.cl p fun g4 e4 => ⟨_, rfl, ?_⟩
        by_cases hle : (txL L p).csn ≤ (txL L t3).csn
        · rw [decide_eq_true hle]
          exact yes g4 ((e2.trans0 e3).trans0 e4) (Or.inr ⟨hp0, hle⟩)
        · rw [decide_eq_false hle]
          exact no g4 ((e2.trans0 e3).trans0 e4) (by rintro (q | q); exact hz q; exact hle q.2)
end
end Go.Lift.E14
namespace Go.Lift.E14
open Go Go.Proofs Go.RowKit Go.Shelf
set_option maxRecDepth 100000
theorem loopV {A : Type} {va : A → List Value} {X : List Value → Hp → Prop} (n : Nat) (I : Nat → A → Hp → Prop) (hend : ∀ a g, I n a g → X (va a ++ [.int .i64 (n : Int)]) g)
    (hstep : ∀ i a g, i < n → I i a g → (∀ a' g', I (i + 1) a' g' → X (va a' ++ [.int .i64 ((i + 1 : Nat) : Int)]) g') → X (va a ++ [.int .i64 (i : Int)]) g) (a : A) (g : Hp) (h0 : I 0 a g) : X (va a ++ [.int .i64 (0 : Int)]) g := by
  have key : ∀ d i a g, d + i = n → I i a g → X (va a ++ [.int .i64 (i : Int)]) g := by
    intro d
    induction d with
    | zero =>
      intro i a g hi hI
      have : i = n := by omega
      subst this
      exact hend a g hI
    | succ d ih =>
      intro i a g hi hI
      exact hstep i a g (by omega) hI fun a' g' hI' => ih (i + 1) a' g' (by omega) hI'
  exact key n 0 a g (by omega) h0
section
variable {G G' : Nat → Prop} {h h' h'' : Hp} {cb e : Nat} {L : LM} {E : EM} {Q : List Value → Hp → Prop}
theorem spStep_len (L : LM) (csn : Int) : ∀ (l : List Int) (acc : List Int × Bool), (l.foldl (spStep L csn) acc).1.length ≤ acc.1.length + l.length
  | [], acc => by simp
  | t :: l, acc => by
    have ih := spStep_len L csn l (spStep L csn acc t)
    have h1 : (spStep L csn acc t).1.length ≤ acc.1.length + 1 := by
      unfold spStep
      repeat' split
      all_goals simp
    simp only [List.foldl_cons, List.length_cons]
    omega
theorem Spoilt_s {N : Nat} (hE : EvS G h cb e L E) (hok : EOk N E) (hN : N ≤ 2 ^ 28) (p : Int) (hQ : ∀ h' s, Ext [] h h' → Own T_int 1 encIL h.size h' s (spoiltE L E p).1 → Q [.slice s.a s.n s.c, .bool (spoiltE L E p).2] h') : S_edge_Edges_Spoilt (some ⟨e, 0, none⟩) p h Q := by
  refine O_edge_Edges_Spoilt _ _ ?_
  delta F_edge_Edges_Spoilt rI rB rS rP rM rL vI vB vS vP vM vL vC vA ad nb gb wi bl bz tn isn sib pu oc
  intro J hJ
  refine none_s hE ⟨_, rfl, ?_⟩
  rw [if_neg (by decide)]
  simp only [nilW_some] at hJ ⊢
  refine ⟨_, hE.ptr, ?_⟩
  refine State_s hE.cl p fun h1 e1 => ⟨_, rfl, ?_⟩
  have hE1 := hE.ext0 e1
  by_cases h3 : (txL L p).state = 3
  · have : ((txL L p).state == 3) = true := by simp [h3]
    rw [this]
    refine hJ _ _ ?_
    rw [if_pos rfl]
    have := hQ h1 ⟨none, 0, 0⟩ e1
    unfold spoiltE at this
    rw [if_pos h3] at this
    exact this (Own.nil _ _)
  have : ((txL L p).state == 3) = false := by simp [h3]
  rw [this]
  refine hJ _ _ ?_
  rw [if_neg (by decide)]
  refine first_s hE1 hok hN p fun h2 e2 => ⟨_, rfl, ?_⟩
  have hE2 := hE1.ext0 e2
  have e12 := e1.trans0 e2
  unfold spoiltE at hQ
  rw [if_neg h3] at hQ
  by_cases h0 : firstE L E p = 0
  · rw [if_pos (by simpa using h0)]
    rw [if_pos h0] at hQ
    exact hQ h2 ⟨none, 0, 0⟩ e12 (Own.nil _ _)
  rw [if_neg (by simpa using h0)]
  rw [if_neg h0] at hQ
  generalize firstE L E p = csn at *
  obtain ⟨ob, r1, es, k1, k2, k3⟩ := hE2.oldR p
  refine ⟨_, r1, es, k1, k2, _, k3, ?_⟩
  refine In_s hE2 hok hN p fun h3' s e3 ho => ⟨s, rfl, ?_⟩
  have e13 := e12.trans0 e3
  have hn := ho.1
  have hlen := (inE_len hok p).1
  intro X hX
  refine loopV (A := Sl × (List Int × Bool)) (va := fun a => [.slice a.1.a a.1.n a.1.c, .bool a.2.2]) (inE E p).length (fun i a g => Ext [] h3' g ∧ Own T_int 1 encIL h3'.size g a.1 a.2.1 ∧ a.2 = ((inE E p).take i).foldl (spStep L csn) ([], decide (oldE E p ≥ csn))) ?_ ?_ (⟨none, 0, 0⟩, ([], decide (oldE E p ≥ csn))) h3' ⟨Ext.refl _ _, Own.nil _ _, rfl⟩
  · rintro ⟨l, acc⟩ g ⟨eg, hol, hacc⟩
    simp only at hol hacc
    refine hX _ _ _ _ ?_
    rw [if_neg (by simp; omega)]
    rw [List.take_of_length_le (Nat.le_refl _)] at hacc
    have := hQ g l (e13.trans0 eg)
    rw [← hacc] at this
    exact this (hol.mono e13.sz)
  · rintro i ⟨l, acc⟩ g hi ⟨eg, hol, hacc⟩ hnext
    simp only at hol hacc
    refine hX _ _ _ _ ?_
    rw [if_pos (by simp; omega)]
    intro J20 hJ20
    have htk : (inE E p).take (i + 1) = (inE E p).take i ++ [(inE E p)[i]] := by rw [List.take_add_one, List.getElem?_eq_getElem hi]; rfl
    have hal := spStep_len L csn ((inE E p).take i) ([], decide (oldE E p ≥ csn))
    rw [← hacc, List.length_take] at hal
    simp only [List.length_nil] at hal
    rw [htk] at hnext
    simp only [List.foldl_append, List.foldl_cons, List.foldl_nil] at hnext
    rw [← hacc] at hnext
    obtain ⟨ad, ha, hrd⟩ := rdI (ho.ext0 eg).sl.reads hi
    obtain ⟨t1, ht1⟩ : ∃ t1, (inE E p)[i] = t1 := ⟨_, rfl⟩
    rw [ht1] at hrd hnext
    have zg := eg.sz
    have z13 := e13.sz
    have j20 : ∀ g2 (l2 : Sl) (v : List Int × Bool), Ext [] h3' g2 → Own T_int 1 encIL h3'.size g2 l2 v.1 → v = spStep L csn acc t1 → J20 [.slice l2.a l2.n l2.c, .bool v.2] g2 := by
      intro g2 l2 v e2 ho2 hv
      refine hJ20 _ _ _ ?_
      rw [wrap64 (by omega) (by omega)]
      exact hnext (l2, v) g2 ⟨e2, ho2, hv⟩
    rw [ha]
    simp only [nilW_some]
    refine ⟨by omega, by omega, ?_⟩
    rw [Int.toNat_natCast]
    have hEg := hE.ext0 (e13.trans0 eg)
    refine ⟨_, hrd, _, hEg.ptr, ?_⟩
    refine State_s hEg.cl t1 fun g2 e2 => ⟨_, rfl, ?_⟩
    have hE2 := hEg.ext0 e2
    intro J31 hJ31
    intro J34 hJ34
    have yes34 : ∀ g3, Ext [] g g3 → ((txL L t1).state = 3 ∨ ((txL L t1).state = 2 ∧ (txL L t1).csn < csn)) → J34 [.bool true] g3 := by
      intro g3 e3 hc
      refine hJ34 _ _ ?_
      rw [if_pos rfl]
      exact j20 g3 l acc (eg.trans0 e3) (hol.ext0 e3) (by unfold spStep; rw [if_pos hc])
    have no34 : ∀ g3, Ext [] g g3 → ¬ ((txL L t1).state = 3 ∨ ((txL L t1).state = 2 ∧ (txL L t1).csn < csn)) → J34 [.bool false] g3 := by
      intro g3 e3 hc
      refine hJ34 _ _ ?_
      rw [if_neg (by decide)]
      intro J37 hJ37
      have yes37 : ∀ g4, Ext [] g g4 → ((txL L t1).reads = true ∧ (txL L t1).snap < csn) → J37 [.bool true] g4 := by
        intro g4 e4 hd
        refine hJ37 _ _ ?_
        rw [if_pos rfl]
        exact j20 g4 l acc (eg.trans0 e4) (hol.ext0 e4) (by unfold spStep; rw [if_neg hc, if_pos hd])
      have no37 : ∀ g4, Ext [] g g4 → ¬ ((txL L t1).reads = true ∧ (txL L t1).snap < csn) → J37 [.bool false] g4 := by
        intro g4 e4 hd
        refine hJ37 _ _ ?_
        rw [if_neg (by decide)]
        by_cases hs : (txL L t1).state = 1
        · rw [if_pos (by simpa using hs)]
          refine newI fun g5 s5 b5 e5 => ?_
          have ho5 := (hol.ext0 e4).ext0 e5
          have e45 := e4.trans0 e5
          have z45 := e45.sz
          refine oneG encIL_len encIL_one zc_int bytesI (k := t1) ho5 b5 (by omega) (by omega) fun l' g6 ho6 e6 hb6 => ?_
          have hsl := own_ltG ho5
          refine hJ31 _ _ ?_
          refine j20 g6 l' (acc.1 ++ [t1], true) ((eg.trans0 e45).trans e6 fun b hb hlt => ?_) ho6 (by unfold spStep; rw [if_neg hc, if_neg hd, if_pos hs])
          have := hsl b hb
          omega
        · rw [if_neg (by simpa using hs)]
          refine hJ31 _ _ ?_
          exact j20 g4 l (acc.1, true) (eg.trans0 e4) (hol.ext0 e4) (by unfold spStep; rw [if_neg hc, if_neg hd, if_neg hs])
      have hE3 := hEg.ext0 e3
      refine ⟨_, hE3.ptr, ?_⟩
      refine Reads_s hE3.cl t1 fun g4 e4 => ⟨_, rfl, ?_⟩
      have hE4 := hE3.ext0 e4
      cases hrd : (txL L t1).reads with
      | false =>
        rw [if_neg (by decide)]
        exact no37 g4 (e3.trans0 e4) (by rw [hrd]; simp)
      | true =>
        rw [if_pos rfl]
        refine ⟨_, hE4.ptr, ?_⟩
        refine Snapshot_s hE4.cl t1 fun g5 e5 => ⟨_, rfl, ?_⟩
        by_cases hlt : (txL L t1).snap < csn
        · rw [decide_eq_true hlt]
          exact yes37 g5 ((e3.trans0 e4).trans0 e5) ⟨hrd, hlt⟩
        · rw [decide_eq_false hlt]
          exact no37 g5 ((e3.trans0 e4).trans0 e5) fun hh => hlt hh.2
    by_cases hs3 : (txL L t1).state = 3
    · rw [if_pos (by simpa using hs3)]
      exact yes34 g2 e2 (Or.inl hs3)
    rw [if_neg (by simpa using hs3)]
    by_cases hs2 : (txL L t1).state = 2
    · rw [if_pos (by simpa using hs2)]
      refine ⟨_, hE2.ptr, ?_⟩
      refine Csn_s hE2.cl t1 fun g3 e3 => ⟨_, rfl, ?_⟩
      by_cases hlt : (txL L t1).csn < csn
      · rw [decide_eq_true hlt]
        exact yes34 g3 (e2.trans0 e3) (Or.inr ⟨hs2, hlt⟩)
      · rw [decide_eq_false hlt]
        exact no34 g3 (e2.trans0 e3) (by rintro (q | q); exact hs3 q; exact hlt q.2)
    · rw [if_neg (by simpa using hs2)]
      exact no34 g2 e2 (by rintro (q | q); exact hs3 q; exact hs2 q.1)
theorem any_step (f : Int → Bool) (l : List Int) {i : Nat} (hi : i < l.length) : (l.take (i + 1)).any f = ((l.take i).any f || f l[i]) := by
  rw [List.take_add_one, List.getElem?_eq_getElem hi, List.any_append]
  simp only [Option.toList, List.any_cons, List.any_nil, Bool.or_false]
theorem Ahead_s {N : Nat} (hE : EvS G h cb e L E) (hok : EOk N E) (hN : N ≤ 2 ^ 28) (t3 : Int) (hQ : ∀ h' s, Ext [] h h' → Own T_int 1 encIL h.size h' s (aheadE L E t3) → Q [.slice s.a s.n s.c] h') : S_edge_Edges_Ahead (some ⟨e, 0, none⟩) t3 h Q := by
  refine O_edge_Edges_Ahead _ _ ?_
  delta F_edge_Edges_Ahead rI rB rS rP rM rL vI vB vS vP vM vL vC vA ad nb gb wi bl bz tn isn sib pu oc
  refine In_s hE hok hN t3 fun h1 s e1 ho => ⟨s, rfl, ?_⟩
  have hn := ho.1
  have hlen := (inE_len hok t3).1
  intro X hX
  obtain ⟨F, hF⟩ : ∃ F : Int → Bool, ∀ p, F p = (decide ((txL L p).state = 1) && (inE E p).any (aheadB L t3)) := ⟨_, fun _ => rfl⟩
  have hah : aheadE L E t3 = (inE E t3).filter F := by unfold aheadE; exact List.filter_congr fun q _ => (hF q).symm
  rw [hah] at hQ
  refine loopV (A := Sl) (va := fun a => [.slice a.a a.n a.c]) (inE E t3).length (fun i a g => Ext [] h1 g ∧ Own T_int 1 encIL h1.size g a (((inE E t3).take i).filter F)) ?_ ?_ ⟨none, 0, 0⟩ h1 ⟨Ext.refl _ _, Own.nil _ _⟩
  · rintro l g ⟨eg, hol⟩
    refine hX _ _ _ ?_
    rw [if_neg (by simp; omega)]
    rw [List.take_of_length_le (Nat.le_refl _)] at hol
    exact hQ g l (e1.trans0 eg) (hol.mono e1.sz)
  · rintro i l g hi ⟨eg, hol⟩ hnext
    refine hX _ _ _ ?_
    rw [if_pos (by simp; omega)]
    intro J8 hJ8
    obtain ⟨p, hp⟩ : ∃ p, (inE E t3)[i] = p := ⟨_, rfl⟩
    have htk : (inE E t3).take (i + 1) = (inE E t3).take i ++ [p] := by rw [List.take_add_one, List.getElem?_eq_getElem hi, hp]; rfl
    rw [htk] at hnext
    have hfl : (((inE E t3).take i).filter F).length ≤ i := by
      have := List.length_filter_le F ((inE E t3).take i)
      rw [List.length_take] at this
      omega
    obtain ⟨ad, ha, hrd⟩ := rdI (ho.ext0 eg).sl.reads hi
    rw [hp] at hrd
    have zg := eg.sz
    have j8n : ∀ g2, Ext [] g g2 → F p = false → J8 [.slice l.a l.n l.c] g2 := by
      intro g2 e2 hf
      refine hJ8 _ _ ?_
      rw [wrap64 (by omega) (by omega)]
      refine hnext l g2 ⟨eg.trans0 e2, ?_⟩
      rw [List.filter_append]
      simp only [List.filter_cons, hf, Bool.false_eq_true, if_false, List.filter_nil, List.append_nil]
      exact hol.ext0 e2
    have j8y : ∀ g2 (l2 : Sl), Ext [] h1 g2 → Own T_int 1 encIL h1.size g2 l2 (((inE E t3).take i).filter F ++ [p]) → F p = true → J8 [.slice l2.a l2.n l2.c] g2 := by
      intro g2 l2 e2 ho2 hf
      refine hJ8 _ _ ?_
      rw [wrap64 (by omega) (by omega)]
      refine hnext l2 g2 ⟨e2, ?_⟩
      rw [List.filter_append]
      simp only [List.filter_cons, hf, if_true, List.filter_nil]
      exact ho2
    rw [ha]
    simp only [nilW_some]
    refine ⟨by omega, by omega, ?_⟩
    rw [Int.toNat_natCast]
    have hEg := hE.ext0 (e1.trans0 eg)
    refine ⟨_, hrd, _, hEg.ptr, ?_⟩
    refine State_s hEg.cl p fun g2 e2 => ⟨_, rfl, ?_⟩
    have hE2 := hEg.ext0 e2
    by_cases hs : (txL L p).state = 1
    · have : ((txL L p).state != 1) = false := by simp [hs]
      rw [this, if_neg (by decide)]
      have hFp : F p = (inE E p).any (aheadB L t3) := by rw [hF]; simp [hs]
      refine In_s hE2 hok hN p fun g3 s2 e3 ho2 => ⟨s2, rfl, ?_⟩
      have hn2 := ho2.1
      have e23 := e2.trans0 e3
      have hlen2 := (inE_len hok p).1
      intro Y hY
      have hol3 := hol.ext0 e23
      have hE3 := hE2.ext0 e3
      have z23 := e23.sz
      refine loopV (A := Unit) (va := fun _ => [.slice l.a l.n l.c]) (inE E p).length (fun k _ g' => Ext [] g3 g' ∧ ((inE E p).take k).any (aheadB L t3) = false) ?_ ?_ () g3 ⟨Ext.refl _ _, by simp⟩
      · rintro - g' ⟨eg', hno⟩
        refine hY _ _ _ ?_
        rw [if_neg (by simp; omega)]
        rw [List.take_of_length_le (Nat.le_refl _)] at hno
        exact j8n g' (e23.trans0 eg') (by rw [hFp, hno])
      · rintro k - g' hk ⟨eg', hno⟩ hnext2
        refine hY _ _ _ ?_
        rw [if_pos (by simp; omega)]
        obtain ⟨t1, ht1⟩ : ∃ t1, (inE E p)[k] = t1 := ⟨_, rfl⟩
        have hst := any_step (aheadB L t3) (inE E p) hk
        rw [hno, Bool.false_or, ht1] at hst
        obtain ⟨ad2, ha2, hrd2⟩ := rdI (ho2.ext0 eg').sl.reads hk
        rw [ht1] at hrd2
        rw [ha2]
        simp only [nilW_some]
        refine ⟨by omega, by omega, ?_⟩
        rw [Int.toNat_natCast]
        refine ⟨_, hrd2, ?_⟩
        intro J27 hJ27
        have j27 : ∀ g4 bb, Ext [] g' g4 → bb = aheadB L t3 t1 → J27 [.bool bb] g4 := by
          rintro g4 bb e4 rfl
          refine hJ27 _ _ ?_
          cases hb : aheadB L t3 t1 with
          | true =>
            rw [if_pos rfl]
            refine newI fun g5 s5 b5 e5 => ?_
            have e35 := (eg'.trans0 e4).trans0 e5
            have z35 := e35.sz
            have ho5 := hol3.ext0 e35
            refine oneG encIL_len encIL_one zc_int bytesI (k := p) ho5 b5 (by omega) (by omega) fun l' g6 ho6 e6 hb6 => ?_
            have hsl := own_ltG ho5
            refine j8y g6 l' (((eg.trans0 e23).trans0 e35).trans e6 fun b hb hlt => by have := hsl b hb; omega) ho6 ?_
            rw [hFp, List.any_eq_true]
            exact ⟨t1, by rw [← ht1]; exact List.getElem_mem hk, hb⟩
          | false =>
            rw [if_neg (by decide), wrap64 (by omega) (by omega)]
            exact hnext2 () g4 ⟨eg'.trans0 e4, by rw [hst, hb]⟩
        have hE4 := hE3.ext0 eg'
        unfold aheadB at j27
        by_cases hq : t1 = t3
        · rw [if_pos (by simpa using hq)]
          refine ⟨_, hE4.ptr, ?_⟩
          refine Reads_s hE4.cl t1 fun g5 e5 => ⟨_, rfl, ?_⟩
          exact j27 g5 _ e5 (by simp [hq])
        · rw [if_neg (by simpa using hq)]
          refine ⟨_, hE4.ptr, ?_⟩
          refine State_s hE4.cl t1 fun g5 e5 => ⟨_, rfl, ?_⟩
          have hE5 := hE4.ext0 e5
          by_cases hs1 : (txL L t1).state = 1
          · rw [if_pos (by simpa using hs1)]
            refine ⟨_, hE5.ptr, ?_⟩
            refine Reads_s hE5.cl t1 fun g6 e6 => ⟨_, rfl, ?_⟩
            exact j27 g6 _ (e5.trans0 e6) (by simp [hs1])
          · rw [if_neg (by simpa using hs1)]
            exact j27 g5 _ e5 (by simp [hs1, hq])
    · have : ((txL L p).state != 1) = true := by simp [hs]
      rw [this, if_pos rfl]
      exact j8n g2 e2 (by rw [hF]; simp [hs])
end
end Go.Lift.E14
namespace Go.Lift.E14
open Go Go.Proofs Go.RowKit Go.Shelf
set_option maxRecDepth 100000
section
variable {G G' : Nat → Prop} {h h' h'' : Hp} {cb e : Nat} {L : LM} {E : EM} {Q : List Value → Hp → Prop}
theorem New14_s (hG : ∀ b, G b → b < h.size) (hC : ClAt h cb L) (hc : ¬ G cb) (hQ : ∀ h' e, EvS G h' cb e L ⟨[], []⟩ → Ext [] h h' → Q [.pointer (some ⟨e, 0, none⟩)] h') : S_edge_New (some ⟨cb, 0, none⟩) h Q := by
  refine O_edge_New _ ?_
  delta F_edge_New rI rB rS rP rM rL vI vB vS vP vM vL vC vA ad nb gb wi bl bz tn isn sib pu oc
  refine newI fun h1 s1 b1 e1 => newI fun h2 s2 b2 e2 => newI fun h3 s3 b3 e3 => ?_
  have e13 := (e1.trans0 e2).trans0 e3
  have b1' := (e2.trans0 e3).get b1 (by simp)
  have b2' := e3.get b2 (by simp)
  have hng : ∀ b, h.size ≤ b → ¬ G b := fun b hb hg => by have := hG b hg; omega
  refine hQ h3 h2.size ⟨fun b hb => by have := hG b hb; omega, hC.ext0 e13, ⟨h.size, h1.size, b3, ⟨#[], 0, b1', rfl, Born.nil 0⟩, ⟨#[], 0, b2', rfl, Born.nil 0⟩, by omega, hng _ (by omega), hng _ (by omega)⟩, hc, hng _ (by omega)⟩ e13
end
end Go.Lift.E14
namespace Go.Lift.E14
open Go
section
variable {n : Nat} {L : LM} {x y a b : Int}
end
theorem EOk.drop {N : Nat} {E : EM} (h : EOk N E) (x : Int) : EOk N (dropE E x) :=
  ⟨h.nd.sublist List.filter_sublist, (adel_nodup h.od x).1, Nat.le_trans (List.length_filter_le _ _) h.len⟩
theorem EOk.add {N : Nat} {L : LM} {E : EM} (h : EOk N E) (a b : Int) : EOk (N + 1) (addE L E a b) := by
  unfold addE
  split
  · rename_i hh
    refine ⟨?_, h.od, ?_⟩
    · rw [List.nodup_append]
      exact ⟨h.nd, by simp, fun x hx y hy e => by simp at hy; subst hy; subst e; exact hh.2 hx⟩
    · have := h.len; simp; omega
  · exact ⟨h.nd, h.od, by have := h.len; omega⟩
theorem EOk.oldIn {N : Nat} {L : LM} {E : EM} (h : EOk N E) (b c : Int) : EOk N (oldInE L E b c) := by
  unfold oldInE
  split
  · exact ⟨h.nd, aput_nodup h.od _ _, h.len⟩
  · exact h
theorem EOk.up {N M : Nat} {E : EM} (h : EOk N E) (hm : N ≤ M) : EOk M E := ⟨h.nd, h.od, Nat.le_trans h.len hm⟩
end Go.Lift.E14

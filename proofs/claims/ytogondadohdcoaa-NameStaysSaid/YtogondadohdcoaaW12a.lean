/- Transactions: the log in memory. -/
import Derived.Test.YtogondadohdcoaaLf12
import Derived.Test.YtogondadohdcoaaLvZ
set_option linter.unusedSimpArgs false
set_option linter.unusedVariables false
namespace Go.Lift
open Go Go.Proofs
set_option maxRecDepth 100000
structure TxM where
  state : Int
  csn : Int
  snap : Int
  reads : Bool
  deriving DecidableEq
def zTx : TxM := ⟨0, 0, 0, false⟩
def encX (x : TxM) : List Value := [.int .i64 x.state, .int .i64 x.csn, .int .i64 x.snap, .bool x.reads]
structure LM where
  l : List TxM
  clock : Int
def hasL (L : LM) (x : Int) : Prop := 1 ≤ x ∧ x ≤ (L.l.length : Int)
instance (L : LM) (x : Int) : Decidable (hasL L x) := by unfold hasL; exact inferInstance
def txL (L : LM) (x : Int) : TxM := if hasL L x then (L.l[x.toNat - 1]?).getD zTx else zTx
def setL (L : LM) (x : Int) (t : TxM) : LM := { L with l := L.l.set (x.toNat - 1) t }
def runsL (L : LM) (x : Int) : Prop := hasL L x ∧ (txL L x).state = 1
instance (L : LM) (x : Int) : Decidable (runsL L x) := by unfold runsL; exact inferInstance
def beginL (L : LM) (r : Bool) : LM := if L.l.length = 200 then L else { L with l := L.l ++ [⟨1, 0, L.clock, r⟩] }
def commitL (L : LM) (x : Int) : LM := if runsL L x then { setL L x { txL L x with state := 2, csn := L.clock + 1 } with clock := L.clock + 1 } else L
def abortL (L : LM) (x : Int) : LM := if runsL L x then setL L x { txL L x with state := 3 } else L
def seesL (L : LM) (x y : Int) : Bool := decide (hasL L x ∧ hasL L y) && (decide (x = y) || decide ((txL L y).state = 2 ∧ (txL L y).csn ≤ (txL L x).snap))
def besideL (L : LM) (a b : Int) : Bool := decide (hasL L a ∧ hasL L b ∧ a ≠ b ∧ (txL L a).state ≠ 3 ∧ (txL L b).state ≠ 3) && !seesL L a b && !seesL L b a
structure ClAt (h : Hp) (b : Nat) (L : LM) : Prop where
  cells : ∃ c, Blk h b c T_clog_Log ∧ c.size = 806 ∧ (∀ i (hi : i < L.l.length), ∀ k, k < 4 → c[(i + 1) * 4 + k]? = (encX L.l[i])[k]?) ∧ c[804]? = some (.int .i64 L.l.length) ∧ c[805]? = some (.int .i64 L.clock)
  len : L.l.length ≤ 200
  clk : 0 ≤ L.clock ∧ L.clock ≤ 2 ^ 40
theorem txL_has {L : LM} {x : Int} (h : hasL L x) : ∃ hi : x.toNat - 1 < L.l.length, txL L x = L.l[x.toNat - 1] ∧ (x.toNat - 1 + 1) = x.toNat := by
  have h1 := h.1
  have h2 := h.2
  refine ⟨by omega, ?_, by omega⟩
  unfold txL
  rw [if_pos h, List.getElem?_eq_getElem (by omega)]
  rfl
theorem setL_len (L : LM) (x : Int) (t : TxM) : (setL L x t).l.length = L.l.length := by simp [setL]
theorem hasL_set (L : LM) (x y : Int) (t : TxM) : hasL (setL L x t) y ↔ hasL L y := by unfold hasL; rw [setL_len]
theorem txL_set {L : LM} {x : Int} (hx : hasL L x) (t : TxM) (y : Int) : txL (setL L x t) y = if y = x then t else txL L y := by
  have h1 := hx.1
  have h2 := hx.2
  by_cases e : y = x
  · subst e
    rw [if_pos rfl]
    unfold txL
    rw [if_pos ((hasL_set L y y t).2 hx)]
    unfold setL
    simp only
    rw [List.getElem?_set, if_pos rfl, if_pos (by omega)]
    rfl
  · rw [if_neg e]
    by_cases hy : hasL L y
    · have h3 := hy.1
      unfold txL
      rw [if_pos ((hasL_set L x y t).2 hy), if_pos hy]
      unfold setL
      simp only
      rw [List.getElem?_set, if_neg (by omega)]
    · unfold txL
      rw [if_neg (fun e => hy ((hasL_set L x y t).1 e)), if_neg hy]
section
variable {h h' : Hp} {b : Nat} {L : LM} {Q : List Value → Hp → Prop}
theorem ClAt.ext {S : List Nat} (hC : ClAt h b L) (he : Ext S h h') (hn : b ∉ S) : ClAt h' b L := by
  obtain ⟨c, h1, h2⟩ := hC.cells
  exact ⟨⟨c, he.get h1 hn, h2⟩, hC.len, hC.clk⟩
theorem ClAt.ext0 (hC : ClAt h b L) (he : Ext [] h h') : ClAt h' b L := hC.ext he (by simp)
theorem ClAt.lt (hC : ClAt h b L) : b < h.size := by
  obtain ⟨c, h1, _⟩ := hC.cells
  exact blk_lt h1
theorem ClAt.n (hC : ClAt h b L) : rd h (Addr.add ⟨b, 0, none⟩ 804) = some (.int .i64 L.l.length) := by
  obtain ⟨c, h1, h2, h3, h4, h5⟩ := hC.cells
  rw [addr_mk, rd_blk h1]; simpa using h4
theorem ClAt.clock (hC : ClAt h b L) : rd h (Addr.add ⟨b, 0, none⟩ 805) = some (.int .i64 L.clock) := by
  obtain ⟨c, h1, h2, h3, h4, h5⟩ := hC.cells
  rw [addr_mk, rd_blk h1]; simpa using h5
/-- Where a transaction lies. -/
def adX (b : Nat) (x : Int) : Addr := ⟨b, x.toNat * 4, none⟩
theorem ClAt.tx (hC : ClAt h b L) {x : Int} (hx : hasL L x) : rd h (Addr.add (adX b x) 0) = some (.int .i64 (txL L x).state) ∧ rd h (Addr.add (adX b x) 1) = some (.int .i64 (txL L x).csn) ∧ rd h (Addr.add (adX b x) 2) = some (.int .i64 (txL L x).snap) ∧ rd h (Addr.add (adX b x) 3) = some (.bool (txL L x).reads) := by
  obtain ⟨c, h1, h2, h3, h4, h5⟩ := hC.cells
  obtain ⟨hi, e, e2⟩ := txL_has hx
  have r : ∀ k, k < 4 → rd h (Addr.add (adX b x) k) = (encX (txL L x))[k]? := fun k hk => by
    unfold adX
    rw [addr_mk, rd_blk h1, e, ← h3 _ hi k hk, e2]
  exact ⟨r 0 (by omega), r 1 (by omega), r 2 (by omega), r 3 (by omega)⟩
theorem get_s (hC : ClAt h b L) (x : Int) (hQ : Q [.pointer (if hasL L x then some (adX b x) else none)] h) : S_clog_Log_get (some ⟨b, 0, none⟩) x h Q := by
  refine O_clog_Log_get _ _ ?_
  unfold F_clog_Log_get
  intro J hJ
  have hl := hC.len
  have jT : ¬ hasL L x → J [.bool true] h := fun hn => by
    refine hJ _ _ ?_
    rw [if_pos rfl]
    rw [if_neg hn] at hQ
    exact hQ
  rw [if_neg (by simp)]
  by_cases h1 : x < 1
  · rw [if_pos (by simpa using h1)]
    exact jT fun hh => by have := hh.1; omega
  · rw [if_neg (by simpa using h1)]
    simp only [nilW_some]
    refine ⟨_, hC.n, ?_⟩
    by_cases h2 : x > (L.l.length : Int)
    · rw [decide_eq_true h2]
      exact jT fun hh => by have := hh.2; omega
    · rw [decide_eq_false h2]
      have hh : hasL L x := ⟨by omega, by omega⟩
      refine hJ _ _ ?_
      rw [if_neg (by decide)]
      rw [if_pos hh] at hQ
      simp only [nilW_some]
      refine ⟨by omega, by omega, ?_⟩
      rw [addr0, addr_mk, Nat.zero_add]
      exact hQ
theorem getN_s {x : Int} (hQ : Q [.pointer none] h) : S_clog_Log_get none x h Q := by
  refine O_clog_Log_get _ _ ?_
  unfold F_clog_Log_get
  intro J hJ
  rw [if_pos (by rfl)]
  refine hJ _ _ ?_
  rw [if_pos rfl]
  exact hQ
theorem New08_s (hQ : ∀ h' b, ClAt h' b ⟨[], 0⟩ → Ext [] h h' → h.size ≤ b → Q [.pointer (some ⟨b, 0, none⟩)] h') : S_clog_New h Q := by
  refine O_clog_New ?_
  unfold F_clog_New
  refine newI fun h1 s1 b1 e1 => hQ h1 h.size ⟨⟨_, b1, ?_, fun i hi => (by simp at hi), ?_, ?_⟩, by simp, by simp⟩ e1 (Nat.le_refl _)
  · kernel_rfl
  · kernel_rfl
  · kernel_rfl
/-- The log changes. -/
theorem ClAt.st (hC : ClAt h b L) {o n : Nat} {vs : List Value} {L' : LM} {K : Hp → Prop} (hl : o + n ≤ 806) (hlen : L'.l.length ≤ 200) (hclk : 0 ≤ L'.clock ∧ L'.clock ≤ 2 ^ 40)
    (hc : ∀ c : Array Value, c.size = 806 → (∀ i (hi : i < L.l.length), ∀ k, k < 4 → c[(i + 1) * 4 + k]? = (encX L.l[i])[k]?) → c[804]? = some (.int .i64 L.l.length) → c[805]? = some (.int .i64 L.clock) →
      (∀ i (hi : i < L'.l.length), ∀ k, k < 4 → (putAt c o vs)[(i + 1) * 4 + k]? = (encX L'.l[i])[k]?) ∧ (putAt c o vs)[804]? = some (.int .i64 L'.l.length) ∧ (putAt c o vs)[805]? = some (.int .i64 L'.clock))
    (H : ∀ h', ClAt h' b L' → Ext [b] h h' → h'.size = h.size → K h') : stOk h ⟨b, o, none⟩ n ∧ wth (wrs h ⟨b, o, none⟩ 0 vs) K := by
  obtain ⟨c, h1, h2, h3, h4, h5⟩ := hC.cells
  refine st_blk h1 (by omega) fun h6 s6 b6 e6 => H h6 ⟨⟨_, b6, by simp [h2], hc c h2 h3 h4 h5⟩, hlen, hclk⟩ e6 s6
end
end Go.Lift

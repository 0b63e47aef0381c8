/- The log of transactions: what each of its functions does. -/
import Derived.Test.YteopnfdhaeoodaaLvO
import Derived.Test.YteopnfdhaeoodaaLf09
set_option linter.unusedSimpArgs false
set_option linter.unusedVariables false
namespace Go.Lift
open Go Go.Proofs
set_option maxRecDepth 100000

structure Tx where
  st : Int
  csn : Int
  snap : Int
  reads : Bool
structure LogM where
  n : Nat
  clock : Int
  tx : Nat → Tx
def tx0 : Tx := ⟨0, 0, 0, false⟩
def log0 : LogM := ⟨0, 0, fun _ => tx0⟩
def txCell (t : Tx) : Nat → Value
  | 0 => .int .i64 t.st
  | 1 => .int .i64 t.csn
  | 2 => .int .i64 t.snap
  | _ => .bool t.reads
def logCell (L : LogM) (i : Nat) : Value := if i = 804 then .int .i64 L.n else if i = 805 then .int .i64 L.clock else txCell (L.tx (i / 4)) (i % 4)
def logC (L : LogM) : Array Value := ((List.range 806).map (logCell L)).toArray
theorem logC_size (L : LogM) : (logC L).size = 806 := by simp [logC]
theorem logC_get (L : LogM) (i : Nat) : (logC L)[i]? = if i < 806 then some (logCell L i) else none := by
  unfold logC
  rw [List.getElem?_toArray, List.getElem?_map]
  split
  · rename_i g; rw [List.getElem?_range g]; rfl
  · rename_i g; rw [List.getElem?_eq_none (by simp; omega)]; rfl
theorem logC_n (L : LogM) : (logC L)[804]? = some (.int .i64 L.n) := by rw [logC_get]; rfl
theorem logC_clock (L : LogM) : (logC L)[805]? = some (.int .i64 L.clock) := by rw [logC_get]; rfl
theorem logC_tx (L : LogM) {x k : Nat} (hx : x ≤ 200) (hk : k < 4) : (logC L)[x * 4 + k]? = some (txCell (L.tx x) k) := by
  rw [logC_get, if_pos (by omega)]
  unfold logCell
  rw [if_neg (by omega), if_neg (by omega), show (x * 4 + k) / 4 = x by omega, show (x * 4 + k) % 4 = k by omega]
theorem logC_ext {L : LogM} {c : Array Value} (hs : c.size = 806) (h1 : c[804]? = some (.int .i64 L.n)) (h2 : c[805]? = some (.int .i64 L.clock))
    (h3 : ∀ x k, x ≤ 200 → k < 4 → c[x * 4 + k]? = some (txCell (L.tx x) k)) : c = logC L := by
  apply Array.ext_getElem?
  intro i
  rcases Nat.lt_or_ge i 804 with g | g
  · have := h3 (i / 4) (i % 4) (by omega) (by omega)
    rw [show i / 4 * 4 + i % 4 = i by omega] at this
    rw [this, logC_get, if_pos (by omega)]
    unfold logCell
    rw [if_neg (by omega), if_neg (by omega)]
  · rcases Nat.lt_or_ge i 806 with g2 | g2
    · rcases (by omega : i = 804 ∨ i = 805) with rfl | rfl
      · rw [h1, logC_n]
      · rw [h2, logC_clock]
    · rw [Array.getElem?_eq_none (by omega), Array.getElem?_eq_none (by rw [logC_size]; omega)]
theorem log0_zc : zc PP T_clog_Log = logC log0 := by kernel_rfl

def IsLog (h : Hp) (p : Nat) (L : LogM) : Prop := Blk h p (logC L) T_clog_Log ∧ L.n ≤ 200 ∧ 0 ≤ L.clock ∧ L.clock ≤ 2 ^ 40
theorem IsLog.ext {S : List Nat} {h h' : Hp} {p : Nat} {L : LogM} (hl : IsLog h p L) (he : Ext S h h') (hn : p ∉ S) : IsLog h' p L := ⟨he.get hl.1 hn, hl.2⟩
theorem IsLog.lt {h : Hp} {p : Nat} {L : LogM} (hl : IsLog h p L) : p < h.size := blk_lt hl.1
def LogM.has (L : LogM) (x : Int) : Bool := decide (1 ≤ x) && decide (x ≤ L.n)
def LogM.at (L : LogM) (x : Int) : Tx := if L.has x = true then L.tx x.toNat else tx0
def LogM.ptr (L : LogM) (p : Nat) (x : Int) : Option Addr := if L.has x = true then some ⟨p, x.toNat * 4, none⟩ else none
def LogM.sees (L : LogM) (x y : Int) : Bool := L.has x && L.has y && (x == y || ((L.tx y.toNat).st == 2 && decide ((L.tx y.toNat).csn ≤ (L.tx x.toNat).snap)))
def updF {α : Type} (f : Nat → α) (i : Nat) (v : α) : Nat → α := fun j => if j = i then v else f j
def LogM.begin (L : LogM) (r : Bool) : LogM := if L.n = 200 then L else ⟨L.n + 1, L.clock, updF L.tx (L.n + 1) ⟨1, 0, L.clock, r⟩⟩
def LogM.live (L : LogM) (x : Int) : Bool := L.has x && (L.tx x.toNat).st == 1
def LogM.commit (L : LogM) (x : Int) : LogM := if L.live x = true then ⟨L.n, L.clock + 1, updF L.tx x.toNat { L.tx x.toNat with st := 2, csn := L.clock + 1 }⟩ else L
def LogM.abort (L : LogM) (x : Int) : LogM := if L.live x = true then ⟨L.n, L.clock, updF L.tx x.toNat { L.tx x.toNat with st := 3 }⟩ else L
theorem has_iff {L : LogM} {x : Int} : L.has x = true ↔ 1 ≤ x ∧ x ≤ L.n := by simp [LogM.has]

section
variable {h : Hp} {p : Nat} {L : LogM} {Q : List Value → Hp → Prop}
theorem New_s (hQ : ∀ h', IsLog h' h.size log0 → Ext [] h h' → h'.size = h.size + 1 → Q [.pointer (some ⟨h.size, 0, none⟩)] h') : S_clog_New h Q := by
  refine O_clog_New ?_
  unfold F_clog_New
  rw [wthE, log0_zc]
  exact hQ _ ⟨push_get _ _, by decide, by decide, by decide⟩ (Ext.push _ _ _) (by simp)
theorem get_s (hl : IsLog h p L) {x : Int} (hQ : Q [.pointer (L.ptr p x)] h) : S_clog_Log_get (some ⟨p, 0, none⟩) x h Q := by
  refine O_clog_Log_get _ _ ?_
  unfold F_clog_Log_get
  intro J hJ
  have hn := hl.2.1
  simp only [Option.isNone_some, Bool.false_eq_true, if_false, nilW_some, addr_mk, rd_blk hl.1, Nat.zero_add, logC_n, Option.some.injEq, Value.int.injEq, true_and, exists_eq_left'] at hJ ⊢
  split
  · rename_i h1
    have h1 := of_decide_eq_true h1
    refine hJ _ _ ?_
    have : L.ptr p x = none := by unfold LogM.ptr; rw [if_neg (by rw [has_iff]; omega)]
    rw [this] at hQ; exact hQ
  · rename_i h1
    simp only [decide_eq_true_eq] at h1
    refine hJ _ _ ?_
    by_cases h2 : x ≤ L.n
    · have : L.ptr p x = some ⟨p, x.toNat * 4, none⟩ := by unfold LogM.ptr; rw [if_pos (by rw [has_iff]; omega)]
      rw [this] at hQ
      rw [if_neg (by simp; omega)]
      exact ⟨by omega, by omega, hQ⟩
    · have : L.ptr p x = none := by unfold LogM.ptr; rw [if_neg (by rw [has_iff]; omega)]
      rw [this] at hQ
      rw [if_pos (by simp; omega)]
      exact hQ
theorem rd_tx (hl : IsLog h p L) {x : Int} (hx : L.has x = true) {k : Nat} (hk : k < 4) : rd h ⟨p, x.toNat * 4 + k, none⟩ = some (txCell (L.tx x.toNat) k) := by
  rw [rd_blk hl.1]; have := has_iff.1 hx; have := hl.2.1; exact logC_tx L (by omega) hk
theorem rd_tx0 (hl : IsLog h p L) {x : Int} (hx : L.has x = true) : rd h ⟨p, x.toNat * 4, none⟩ = some (.int .i64 (L.tx x.toNat).st) := rd_tx hl hx (k := 0) (by omega)
theorem rd_tx1 (hl : IsLog h p L) {x : Int} (hx : L.has x = true) : rd h ⟨p, x.toNat * 4 + 1, none⟩ = some (.int .i64 (L.tx x.toNat).csn) := rd_tx hl hx (k := 1) (by omega)
theorem rd_tx2 (hl : IsLog h p L) {x : Int} (hx : L.has x = true) : rd h ⟨p, x.toNat * 4 + 2, none⟩ = some (.int .i64 (L.tx x.toNat).snap) := rd_tx hl hx (k := 2) (by omega)
theorem rd_tx3 (hl : IsLog h p L) {x : Int} (hx : L.has x = true) : rd h ⟨p, x.toNat * 4 + 3, none⟩ = some (.bool (L.tx x.toNat).reads) := rd_tx hl hx (k := 3) (by omega)
theorem one_s (hl : IsLog h p L) {x : Int} (hQ : ∀ h', Ext [] h h' → Q [.agg #[.int .i64 (L.at x).st, .int .i64 (L.at x).csn, .int .i64 (L.at x).snap, .bool (L.at x).reads]] h') :
    S_clog_Log_one (some ⟨p, 0, none⟩) x h Q := by
  refine O_clog_Log_one _ _ ?_
  unfold F_clog_Log_one
  simp only [wthE]
  have hl1 := hl.ext (Ext.push [] h (Obj.cells #[(Value.int .i64 (0 : Int)), (Value.int .i64 (0 : Int)), (Value.int .i64 (0 : Int)), (Value.bool false)] T_clog_tx)) (by simp)
  refine get_s hl1 ?_
  refine ⟨_, rfl, ?_⟩
  unfold LogM.ptr
  by_cases hx : L.has x = true
  · simp only [hx, if_true, Option.isNone_some, Bool.not_false, nilW_some, addr_mk, Nat.add_zero, rd_tx0 hl1 hx, rd_tx1 hl1 hx, rd_tx2 hl1 hx, rd_tx3 hl1 hx, Option.some.injEq, Value.int.injEq, Value.bool.injEq, true_and, exists_eq_left', stOk_push, wrs_push, rd_push]
    have := hQ _ (Ext.push [] h (Obj.cells #[(Value.int .i64 (L.tx x.toNat).st), (Value.int .i64 (L.tx x.toNat).csn), (Value.int .i64 (L.tx x.toNat).snap), (Value.bool (L.tx x.toNat).reads)] T_clog_tx))
    simp only [LogM.at, hx, if_true] at this
    simpa [putAt] using this
  · simp only [hx, if_false, Option.isNone_none, Bool.not_true, Bool.false_eq_true, stOk_push, wrs_push, rd_push, addr_mk, Nat.add_zero]
    have := hQ _ (Ext.push [] h (Obj.cells #[(Value.int .i64 0), (Value.int .i64 0), (Value.int .i64 0), (Value.bool false)] T_clog_tx))
    simp only [LogM.at, hx, if_false, tx0] at this
    simpa [putAt] using this
theorem State_s (hl : IsLog h p L) {x : Int} (hQ : ∀ h', Ext [] h h' → Q [.int .i64 (L.at x).st] h') : S_clog_Log_State (some ⟨p, 0, none⟩) x h Q := by
  refine O_clog_Log_State _ _ ?_
  unfold F_clog_Log_State
  refine one_s hl fun h' he => ⟨_, _, _, _, rfl, hQ _ he⟩
theorem Csn_s (hl : IsLog h p L) {x : Int} (hQ : ∀ h', Ext [] h h' → Q [.int .i64 (L.at x).csn] h') : S_clog_Log_Csn (some ⟨p, 0, none⟩) x h Q := by
  refine O_clog_Log_Csn _ _ ?_
  unfold F_clog_Log_Csn
  refine one_s hl fun h' he => ⟨_, _, _, _, rfl, hQ _ he⟩
theorem LSees_s (hl : IsLog h p L) {x y : Int} (hQ : Q [.bool (L.sees x y)] h) : S_clog_Log_Sees (some ⟨p, 0, none⟩) x y h Q := by
  refine O_clog_Log_Sees _ _ _ ?_
  unfold F_clog_Log_Sees
  refine get_s hl ⟨_, rfl, get_s hl ⟨_, rfl, ?_⟩⟩
  intro J hJ
  unfold LogM.ptr
  unfold LogM.sees at hQ
  by_cases hx : L.has x = true
  · by_cases hy : L.has y = true
    · simp only [hx, hy, if_true, Option.isNone_some, Bool.false_eq_true, if_false, Bool.true_and] at hQ ⊢
      refine hJ _ _ ?_
      simp only [hx, hy, if_true, nilW_some, addr_mk, Bool.false_eq_true, if_false, Nat.add_zero, LogM.ptr, rd_tx0 hl hy, rd_tx1 hl hy, rd_tx2 hl hx, Option.some.injEq, Value.int.injEq, true_and, exists_eq_left']
      split
      · rename_i e; simpa [e] using hQ
      · rename_i e
        split
        · rename_i e2; simpa [e, e2] using hQ
        · rename_i e2
          have : (((L.tx y.toNat).st == 2) : Bool) = false := by simpa using e2
          simpa [e, this] using hQ
    · simp only [hx, hy, if_true, Option.isNone_some, Option.isNone_none, Bool.false_eq_true, if_false, Bool.true_and, Bool.false_and, Bool.and_false] at hQ ⊢
      exact hJ _ _ (by simpa using hQ)
  · simp only [hx, Bool.false_eq_true, if_false, Bool.false_and, Option.isNone_none, if_true] at hQ ⊢
    exact hJ _ _ (by simpa using hQ)
theorem blk_log_ok (hl : IsLog h p L) : L.n ≤ 200 := hl.2.1
theorem putAt_get (c : Array Value) (vs : List Value) : ∀ (o i : Nat), o + vs.length ≤ c.size → (putAt c o vs)[i]? = if o ≤ i ∧ i < o + vs.length then vs[i - o]? else c[i]? := by
  induction vs generalizing c with
  | nil => intro o i _; simp [putAt]; omega
  | cons v vs ih =>
    intro o i hl
    simp only [List.length_cons] at hl
    simp only [putAt]
    rw [ih _ _ _ (by simp; omega), Array.getElem?_setIfInBounds]
    simp only [List.length_cons]
    by_cases e : o = i
    · subst e
      rw [if_neg (by omega), if_pos rfl, if_pos (by omega), if_pos (by omega)]
      simp
    · rw [if_neg e]
      by_cases g : o + 1 ≤ i ∧ i < o + 1 + vs.length
      · rw [if_pos g, if_pos (by omega), show i - o = (i - (o + 1)) + 1 by omega]
        rfl
      · rw [if_neg g, if_neg (by omega)]
theorem logC_setn (L : LogM) (n : Nat) : putAt (logC L) 804 [.int .i64 n] = logC ⟨n, L.clock, L.tx⟩ := by
  refine logC_ext (by simp [logC_size]) ?_ ?_ ?_
  · rw [putAt_get _ _ _ _ (by simp [logC_size])]; simp
  · rw [putAt_get _ _ _ _ (by simp [logC_size])]; exact logC_clock L
  · intro x k hx hk
    rw [putAt_get _ _ _ _ (by simp [logC_size]), if_neg (by simp; omega)]; exact logC_tx L hx hk
theorem logC_setclock (L : LogM) (c : Int) : putAt (logC L) 805 [.int .i64 c] = logC ⟨L.n, c, L.tx⟩ := by
  refine logC_ext (by simp [logC_size]) ?_ ?_ ?_
  · rw [putAt_get _ _ _ _ (by simp [logC_size])]; exact logC_n L
  · rw [putAt_get _ _ _ _ (by simp [logC_size])]; simp
  · intro x k hx hk
    rw [putAt_get _ _ _ _ (by simp [logC_size]), if_neg (by simp; omega)]; exact logC_tx L hx hk
theorem logC_settx (L : LogM) {x : Nat} (hx : x ≤ 200) {j : Nat} {vs : List Value} (t : Tx) (hj : j + vs.length ≤ 4)
    (ht : ∀ k, k < 4 → txCell t k = if j ≤ k ∧ k < j + vs.length then vs.getD (k - j) default else txCell (L.tx x) k) : putAt (logC L) (x * 4 + j) vs = logC ⟨L.n, L.clock, updF L.tx x t⟩ := by
  have hb : x * 4 + j + vs.length ≤ (logC L).size := by rw [logC_size]; omega
  refine logC_ext (by simp [logC_size]) ?_ ?_ ?_
  · rw [putAt_get _ _ _ _ hb, if_neg (by omega)]; exact logC_n L
  · rw [putAt_get _ _ _ _ hb, if_neg (by omega)]; exact logC_clock L
  · intro y k hy hk
    rw [putAt_get _ _ _ _ hb]
    by_cases e : y = x
    · subst e
      have := ht k hk
      simp only [updF, if_true, this]
      by_cases g : j ≤ k ∧ k < j + vs.length
      · rw [if_pos (by omega), if_pos g, show y * 4 + k - (y * 4 + j) = k - j by omega]
        rw [List.getD_eq_getElem?_getD, List.getElem?_eq_getElem (by omega)]
        rfl
      · rw [if_neg (by omega), if_neg g]; exact logC_tx L hy hk
    · rw [if_neg (by omega)]
      simp only [updF, if_neg e]
      exact logC_tx L hy hk
theorem Begin_s (hl : IsLog h p L) {r : Bool} (hQ : ∀ h', IsLog h' p (L.begin r) → Ext [p] h h' → Q [.int .i64 (if L.n = 200 then 0 else L.n + 1), .int .i64 (if L.n = 200 then 74 else 0)] h') :
    S_clog_Log_Begin (some ⟨p, 0, none⟩) r h Q := by
  refine O_clog_Log_Begin _ _ ?_
  unfold F_clog_Log_Begin
  have hn := hl.2.1
  simp only [Option.isNone_some, Bool.false_eq_true, if_false, nilW_some, addr_mk, rd_blk hl.1, Nat.zero_add, Nat.add_zero, logC_n, logC_clock, Option.some.injEq, Value.int.injEq, true_and, exists_eq_left']
  split
  · rename_i e
    have e : L.n = 200 := by have := eq_of_beq e; omega
    have := hQ h (by unfold LogM.begin; rw [if_pos e]; exact hl) (Ext.refl _ _)
    simpa [e] using this
  · rename_i e
    have e : L.n ≠ 200 := by intro g; simp [g] at e
    rw [wrap64 (by omega) (by omega)]
    refine st_blk hl.1 (by rw [logC_size]; omega) fun h1 s1 b1 e1 => ?_
    rw [show ((L.n : Int) + 1) = ((L.n + 1 : Nat) : Int) by omega, logC_setn] at b1
    simp only [rd_blk b1, logC_n, logC_clock, Option.some.injEq, Value.int.injEq, true_and, exists_eq_left', Int.toNat_natCast]
    refine ⟨by omega, by omega, ?_⟩
    refine st_blk b1 (by rw [logC_size]; omega) fun h2 s2 b2 e2 => ?_
    have hs := logC_settx ⟨L.n + 1, L.clock, L.tx⟩ (x := L.n + 1) (by omega) (j := 0) (vs := [.int .i64 1, .int .i64 0, .int .i64 L.clock, .bool r]) ⟨1, 0, L.clock, r⟩ (by simp)
      (by intro k hk; rcases (by omega : k = 0 ∨ k = 1 ∨ k = 2 ∨ k = 3) with rfl | rfl | rfl | rfl <;> rfl)
    rw [show (L.n + 1) * 4 = (L.n + 1) * 4 + 0 from rfl, hs] at b2
    simp only [rd_blk b2, logC_n, Option.some.injEq, Value.int.injEq, true_and, exists_eq_left']
    have := hQ h2 (by unfold LogM.begin; rw [if_neg e]; exact ⟨b2, by show L.n + 1 ≤ 200; omega, hl.2.2⟩) (e1.trans e2 (by simp))
    simpa [e] using this
theorem ends_s (hl : IsLog h p L) {x : Int} (hQ : Q [.pointer (if L.live x = true then some ⟨p, x.toNat * 4, none⟩ else none), .int .i64 (if L.live x = true then 0 else 76)] h) :
    S_clog_Log_ends (some ⟨p, 0, none⟩) x h Q := by
  refine O_clog_Log_ends _ _ ?_
  unfold F_clog_Log_ends
  simp only [Option.isNone_some, Bool.false_eq_true, if_false]
  refine get_s hl ⟨_, rfl, ?_⟩
  intro J hJ
  unfold LogM.ptr at hJ ⊢
  unfold LogM.live at hQ
  by_cases hx : L.has x = true
  · simp only [hx, if_true, Option.isNone_some, Bool.false_eq_true, if_false, nilW_some, addr_mk, Nat.add_zero, rd_tx0 hl hx, Option.some.injEq, Value.int.injEq, true_and, exists_eq_left', Bool.true_and] at hQ hJ ⊢
    refine hJ _ _ ?_
    by_cases e : (L.tx x.toNat).st = 1 <;> simpa [e] using hQ
  · simp only [hx, Bool.false_eq_true, if_false, Option.isNone_none, if_true, Bool.false_and] at hQ hJ ⊢
    refine hJ _ _ ?_
    simpa using hQ
theorem Abort_s (hl : IsLog h p L) {x : Int} (hQ : ∀ h', IsLog h' p (L.abort x) → Ext [p] h h' → Q [.int .i64 (if L.live x = true then 0 else 76)] h') : S_clog_Log_Abort (some ⟨p, 0, none⟩) x h Q := by
  refine O_clog_Log_Abort _ _ ?_
  unfold F_clog_Log_Abort
  refine ends_s hl ⟨_, _, rfl, ?_⟩
  intro J hJ
  by_cases hx : L.live x = true
  · have hh : L.has x = true := by unfold LogM.live at hx; simp at hx; exact hx.1
    have hb := has_iff.1 hh
    have hn := hl.2.1
    simp only [hx, if_true, beq_self_eq_true, nilW_some, addr_mk] at hJ hQ ⊢
    refine st_blk hl.1 (by rw [logC_size]; omega) fun h1 s1 b1 e1 => ?_
    rw [logC_settx L (x := x.toNat) (by omega) (j := 0) { L.tx x.toNat with st := 3 } (by simp)
      (by intro k hk; rcases (by omega : k = 0 ∨ k = 1 ∨ k = 2 ∨ k = 3) with rfl | rfl | rfl | rfl <;> rfl)] at b1
    refine hJ _ (hQ _ ?_ e1)
    unfold LogM.abort; rw [if_pos hx]; exact ⟨b1, hl.2⟩
  · simp only [hx, Bool.false_eq_true, if_false] at hJ hQ ⊢
    rw [if_neg (by decide)]
    refine hJ _ (hQ _ ?_ (Ext.refl _ _))
    unfold LogM.abort; rw [if_neg hx]; exact hl
theorem Commit_s (hl : IsLog h p L) (hc : L.clock < 2 ^ 40) {x : Int} (hQ : ∀ h', IsLog h' p (L.commit x) → Ext [p] h h' → Q [.int .i64 (if L.live x = true then L.clock + 1 else 0), .int .i64 (if L.live x = true then 0 else 76)] h') :
    S_clog_Log_Commit (some ⟨p, 0, none⟩) x h Q := by
  refine O_clog_Log_Commit _ _ ?_
  unfold F_clog_Log_Commit
  refine ends_s hl ⟨_, _, rfl, ?_⟩
  by_cases hx : L.live x = true
  · have hh : L.has x = true := by unfold LogM.live at hx; simp at hx; exact hx.1
    have hb := has_iff.1 hh
    have hn := hl.2.1
    have hz := hl.2.2.1
    simp only [hx, if_true, bne_self_eq_false, Bool.false_eq_true, if_false, nilW_some, addr_mk, rd_blk hl.1, Nat.zero_add, logC_clock, Option.some.injEq, Value.int.injEq, true_and, exists_eq_left'] at hQ ⊢
    rw [wrap64 (by omega) (by omega)]
    refine st_blk hl.1 (by rw [logC_size]; omega) fun h1 s1 b1 e1 => ?_
    rw [logC_setclock] at b1
    simp only [rd_blk b1, logC_clock, Option.some.injEq, Value.int.injEq, true_and, exists_eq_left']
    refine st_blk b1 (by rw [logC_size]; omega) fun h2 s2 b2 e2 => ?_
    rw [logC_settx _ (x := x.toNat) (by omega) (j := 0) { L.tx x.toNat with st := 2 } (by simp)
      (by intro k hk; rcases (by omega : k = 0 ∨ k = 1 ∨ k = 2 ∨ k = 3) with rfl | rfl | rfl | rfl <;> rfl)] at b2
    refine st_blk b2 (by rw [logC_size]; omega) fun h3 s3 b3 e3 => ?_
    rw [logC_settx _ (x := x.toNat) (by omega) (j := 1) { L.tx x.toNat with st := 2, csn := L.clock + 1 } (by simp)
      (by intro k hk; rcases (by omega : k = 0 ∨ k = 1 ∨ k = 2 ∨ k = 3) with rfl | rfl | rfl | rfl <;> simp [updF, txCell])] at b3
    simp only [rd_blk b3, logC_clock, Option.some.injEq, Value.int.injEq, true_and, exists_eq_left']
    refine hQ h3 ⟨?_, ?_⟩ (e1.trans (e2.trans e3 (by simp)) (by simp))
    · unfold LogM.commit
      rw [if_pos hx]
      have : updF (updF L.tx x.toNat { L.tx x.toNat with st := 2 }) x.toNat { L.tx x.toNat with st := 2, csn := L.clock + 1 } = updF L.tx x.toNat { L.tx x.toNat with st := 2, csn := L.clock + 1 } := by
        funext j; unfold updF; split <;> rfl
      rw [this] at b3
      exact b3
    · unfold LogM.commit
      rw [if_pos hx]
      exact ⟨hn, by show 0 ≤ L.clock + 1; omega, by show L.clock + 1 ≤ 2 ^ 40; omega⟩
  · simp only [hx, Bool.false_eq_true, if_false] at hQ ⊢
    rw [if_pos (by decide)]
    refine hQ _ ?_ (Ext.refl _ _)
    unfold LogM.commit; rw [if_neg hx]; exact hl
end
end Go.Lift

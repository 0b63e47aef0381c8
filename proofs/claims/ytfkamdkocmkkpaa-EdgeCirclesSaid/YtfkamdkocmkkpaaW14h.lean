/- Edges: what a log keeps to; who is beside whom. -/
import Derived.Test.YtfkamdkocmkkpaaW14g
set_option linter.unusedSimpArgs false
set_option linter.unusedVariables false
namespace Go.Lift
open Go
structure LOk (n : Nat) (L : LM) : Prop where
  clk : 0 ≤ L.clock ∧ L.clock ≤ n
  st : ∀ x, hasL L x → 1 ≤ (txL L x).state ∧ (txL L x).state ≤ 3
  snap : ∀ x, hasL L x → 0 ≤ (txL L x).snap ∧ (txL L x).snap ≤ L.clock
  csn : ∀ x, hasL L x → (txL L x).state = 2 → 1 ≤ (txL L x).csn ∧ (txL L x).csn ≤ L.clock ∧ (txL L x).snap < (txL L x).csn
  csn0 : ∀ x, (txL L x).state ≠ 2 → (txL L x).csn = 0
  inj : ∀ x y, hasL L x → hasL L y → (txL L x).state = 2 → (txL L y).state = 2 → (txL L x).csn = (txL L y).csn → x = y
section
variable {n : Nat} {L : LM} {x y a b : Int}
theorem txL_no (h : ¬ hasL L x) : txL L x = zTx := by unfold txL; rw [if_neg h]
theorem LOk.up (h : LOk n L) {m : Nat} (hm : n ≤ m) : LOk m L := ⟨by have := h.clk; omega, h.st, h.snap, h.csn, h.csn0, h.inj⟩
theorem lok_new : LOk 0 ⟨[], 0⟩ := by
  have hno : ∀ x, ¬ hasL ⟨[], 0⟩ x := fun x h => by have := h.1; have := h.2; simp at this; omega
  exact ⟨by simp, fun x h => absurd h (hno x), fun x h => absurd h (hno x), fun x h => absurd h (hno x), fun x _ => by rw [txL_no (hno x)]; rfl, fun x y h => absurd h (hno x)⟩
theorem has_state (h : LOk n L) : hasL L x ↔ (txL L x).state ≠ 0 := by
  constructor
  · intro hh; have := h.st x hh; omega
  · intro hs
    refine Classical.byContradiction fun hn => hs ?_
    rw [txL_no hn]; rfl
/-- One more. -/
theorem begin_tx (r : Bool) (hf : L.l.length ≠ 200) : (∀ y, hasL (beginL L r) y ↔ hasL L y ∨ y = (L.l.length : Int) + 1) ∧ (∀ y, hasL L y → txL (beginL L r) y = txL L y) ∧ txL (beginL L r) ((L.l.length : Int) + 1) = ⟨1, 0, L.clock, r⟩ ∧ (beginL L r).clock = L.clock := by
  have hb : beginL L r = { L with l := L.l ++ [⟨1, 0, L.clock, r⟩] } := by unfold beginL; rw [if_neg hf]
  have hh : ∀ y, hasL (beginL L r) y ↔ hasL L y ∨ y = (L.l.length : Int) + 1 := by
    intro y
    rw [hb]
    unfold hasL
    simp only [List.length_append, List.length_cons, List.length_nil]
    omega
  refine ⟨hh, fun y hy => ?_, ?_, by rw [hb]⟩
  · obtain ⟨hi, e, e2⟩ := txL_has hy
    unfold txL
    rw [if_pos ((hh y).2 (Or.inl hy)), if_pos hy, hb]
    simp only
    rw [List.getElem?_append_left hi]
  · unfold txL
    rw [if_pos ((hh _).2 (Or.inr rfl)), hb]
    simp only
    have : ((L.l.length : Int) + 1).toNat - 1 = L.l.length := by omega
    rw [this, List.getElem?_append_right (Nat.le_refl _)]
    simp
theorem begin_full (r : Bool) (hf : L.l.length = 200) : beginL L r = L := by unfold beginL; rw [if_pos hf]
theorem LOk.begin (h : LOk n L) (r : Bool) : LOk n (beginL L r) := by
  by_cases hf : L.l.length = 200
  · rw [begin_full r hf]; exact h
  obtain ⟨b1, b2, b3, b4⟩ := begin_tx r hf
  have hno : ¬ hasL L ((L.l.length : Int) + 1) := fun hh => by have := hh.2; omega
  refine ⟨by rw [b4]; exact h.clk, fun x hx => ?_, fun x hx => ?_, fun x hx hs => ?_, fun x hs => ?_, fun x y hx hy hsx hsy he => ?_⟩
  · rcases (b1 x).1 hx with g | g
    · rw [b2 x g]; exact h.st x g
    · rw [g, b3]; simp
  · rw [b4]
    rcases (b1 x).1 hx with g | g
    · rw [b2 x g]; exact h.snap x g
    · rw [g, b3]; have := h.clk; simp only; omega
  · rw [b4]
    rcases (b1 x).1 hx with g | g
    · rw [b2 x g] at hs ⊢; exact h.csn x g hs
    · rw [g, b3] at hs; simp at hs
  · by_cases hx : hasL (beginL L r) x
    · rcases (b1 x).1 hx with g | g
      · rw [b2 x g] at hs ⊢; exact h.csn0 x hs
      · rw [g, b3]
    · rw [txL_no hx]; rfl
  · have f : ∀ z, hasL (beginL L r) z → (txL (beginL L r) z).state = 2 → hasL L z ∧ txL (beginL L r) z = txL L z := fun z hz hs => by
      rcases (b1 z).1 hz with g | g
      · exact ⟨g, b2 z g⟩
      · rw [g, b3] at hs; simp at hs
    obtain ⟨g1, g2⟩ := f x hx hsx
    obtain ⟨g3, g4⟩ := f y hy hsy
    rw [g2] at hsx he
    rw [g4] at hsy he
    exact h.inj x y g1 g3 hsx hsy he
theorem commit_tx (hr : runsL L x) : (∀ y, hasL (commitL L x) y ↔ hasL L y) ∧ (∀ y, txL (commitL L x) y = if y = x then { txL L x with state := 2, csn := L.clock + 1 } else txL L y) ∧ (commitL L x).clock = L.clock + 1 := by
  have hc : commitL L x = { setL L x { txL L x with state := 2, csn := L.clock + 1 } with clock := L.clock + 1 } := by unfold commitL; rw [if_pos hr]
  rw [hc]
  refine ⟨fun y => hasL_set L x y _, fun y => ?_, rfl⟩
  exact txL_set hr.1 _ y
theorem commit_no (hr : ¬ runsL L x) : commitL L x = L := by unfold commitL; rw [if_neg hr]
theorem abort_tx (hr : runsL L x) : (∀ y, hasL (abortL L x) y ↔ hasL L y) ∧ (∀ y, txL (abortL L x) y = if y = x then { txL L x with state := 3 } else txL L y) ∧ (abortL L x).clock = L.clock := by
  have hc : abortL L x = setL L x { txL L x with state := 3 } := by unfold abortL; rw [if_pos hr]
  rw [hc]
  exact ⟨fun y => hasL_set L x y _, fun y => txL_set hr.1 _ y, rfl⟩
theorem abort_no (hr : ¬ runsL L x) : abortL L x = L := by unfold abortL; rw [if_neg hr]
theorem LOk.commit (h : LOk n L) (x : Int) : LOk (n + 1) (commitL L x) := by
  by_cases hr : runsL L x
  · obtain ⟨c1, c2, c3⟩ := commit_tx hr
    have hk := h.clk
    have hsx := h.snap x hr.1
    refine ⟨by rw [c3]; omega, fun y hy => ?_, fun y hy => ?_, fun y hy hs => ?_, fun y hs => ?_, fun y z hy hz hsy hsz he => ?_⟩
    · rw [c2]; split
      · simp
      · exact h.st y ((c1 y).1 hy)
    · rw [c2, c3]; split
      · simp only; omega
      · have := h.snap y ((c1 y).1 hy); omega
    · rw [c2] at hs ⊢; rw [c3]; split
      · simp only; omega
      · rename_i hne
        rw [if_neg hne] at hs
        have := h.csn y ((c1 y).1 hy) hs; omega
    · rw [c2] at hs ⊢; split
      · rename_i e; rw [if_pos e] at hs; simp at hs
      · rename_i e; rw [if_neg e] at hs; exact h.csn0 y hs
    · rw [c2] at hsy hsz he
      rw [c2] at he
      by_cases e1 : y = x <;> by_cases e2 : z = x
      · rw [e1, e2]
      · rw [if_pos e1, if_neg e2] at he; rw [if_neg e2] at hsz
        have := h.csn z ((c1 z).1 hz) hsz; simp only at he; omega
      · rw [if_neg e1, if_pos e2] at he; rw [if_neg e1] at hsy
        have := h.csn y ((c1 y).1 hy) hsy; simp only at he; omega
      · rw [if_neg e1, if_neg e2] at he; rw [if_neg e1] at hsy; rw [if_neg e2] at hsz
        exact h.inj y z ((c1 y).1 hy) ((c1 z).1 hz) hsy hsz he
  · rw [commit_no hr]; exact h.up (by omega)
theorem LOk.abort (h : LOk n L) (x : Int) : LOk n (abortL L x) := by
  by_cases hr : runsL L x
  · obtain ⟨c1, c2, c3⟩ := abort_tx hr
    refine ⟨by rw [c3]; exact h.clk, fun y hy => ?_, fun y hy => ?_, fun y hy hs => ?_, fun y hs => ?_, fun y z hy hz hsy hsz he => ?_⟩
    · rw [c2]; split
      · simp
      · exact h.st y ((c1 y).1 hy)
    · rw [c2, c3]; split
      · exact h.snap x hr.1
      · exact h.snap y ((c1 y).1 hy)
    · rw [c2] at hs ⊢; rw [c3]; split
      · rename_i e; rw [if_pos e] at hs; simp at hs
      · rename_i e; rw [if_neg e] at hs; exact h.csn y ((c1 y).1 hy) hs
    · rw [c2] at hs ⊢; split
      · simp only; exact h.csn0 x (by rw [hr.2]; decide)
      · rename_i e; rw [if_neg e] at hs; exact h.csn0 y hs
    · rw [c2] at hsy hsz he
      rw [c2] at he
      by_cases e1 : y = x
      · rw [if_pos e1] at hsy; simp at hsy
      by_cases e2 : z = x
      · rw [if_pos e2] at hsz; simp at hsz
      rw [if_neg e1, if_neg e2] at he; rw [if_neg e1] at hsy; rw [if_neg e2] at hsz
      exact h.inj y z ((c1 y).1 hy) ((c1 z).1 hz) hsy hsz he
  · rw [abort_no hr]; exact h
theorem sees_iff : seesL L x y = true ↔ (hasL L x ∧ hasL L y) ∧ (x = y ∨ ((txL L y).state = 2 ∧ (txL L y).csn ≤ (txL L x).snap)) := by
  unfold seesL
  simp only [Bool.and_eq_true, Bool.or_eq_true, decide_eq_true_eq]
theorem beside_iff : besideL L a b = true ↔ (hasL L a ∧ hasL L b ∧ a ≠ b ∧ (txL L a).state ≠ 3 ∧ (txL L b).state ≠ 3) ∧ ¬ ((txL L b).state = 2 ∧ (txL L b).csn ≤ (txL L a).snap) ∧ ¬ ((txL L a).state = 2 ∧ (txL L a).csn ≤ (txL L b).snap) := by
  unfold besideL
  rw [Bool.and_eq_true, Bool.and_eq_true, decide_eq_true_eq, Bool.not_eq_true', Bool.not_eq_true', ← Bool.not_eq_true, ← Bool.not_eq_true, sees_iff, sees_iff]
  constructor
  · rintro ⟨⟨h, h1⟩, h2⟩
    exact ⟨h, fun g => h1 ⟨⟨h.1, h.2.1⟩, Or.inr g⟩, fun g => h2 ⟨⟨h.2.1, h.1⟩, Or.inr g⟩⟩
  · rintro ⟨h, h1, h2⟩
    exact ⟨⟨h, fun g => g.2.elim h.2.2.1 h1⟩, fun g => g.2.elim (fun e => h.2.2.1 e.symm) h2⟩
theorem beside_begin (r : Bool) (h : besideL L a b = true) : besideL (beginL L r) a b = true := by
  by_cases hf : L.l.length = 200
  · rw [begin_full r hf]; exact h
  obtain ⟨b1, b2, b3, b4⟩ := begin_tx r hf
  rw [beside_iff] at h ⊢
  obtain ⟨⟨h1, h2, h3⟩, h4⟩ := h
  rw [b2 a h1, b2 b h2]
  exact ⟨⟨(b1 a).2 (Or.inl h1), (b1 b).2 (Or.inl h2), h3⟩, h4⟩
theorem beside_commit (hk : LOk n L) (x : Int) (h : besideL L a b = true) : besideL (commitL L x) a b = true := by
  by_cases hr : runsL L x
  · obtain ⟨c1, c2, c3⟩ := commit_tx hr
    rw [beside_iff] at h ⊢
    obtain ⟨⟨h1, h2, h3, h4, h5⟩, h6, h7⟩ := h
    have sa := hk.snap a h1
    have sb := hk.snap b h2
    rw [c2 a, c2 b]
    refine ⟨⟨(c1 a).2 h1, (c1 b).2 h2, h3, ?_, ?_⟩, ?_, ?_⟩
    · split
      · simp
      · exact h4
    · split
      · simp
      · exact h5
    · rintro ⟨g1, g2⟩
      by_cases e : b = x
      · have ea : a ≠ x := fun e2 => h3 (by rw [e, e2])
        rw [if_pos e, if_neg ea] at g2
        simp only at g2
        omega
      · rw [if_neg e] at g1 g2
        by_cases ea : a = x
        · rw [if_pos ea] at g2; simp only at g2; rw [← ea] at g2; exact h6 ⟨g1, g2⟩
        · rw [if_neg ea] at g2; exact h6 ⟨g1, g2⟩
    · rintro ⟨g1, g2⟩
      by_cases e : a = x
      · have eb : b ≠ x := fun e2 => h3 (by rw [e, e2])
        rw [if_pos e, if_neg eb] at g2
        simp only at g2
        omega
      · rw [if_neg e] at g1 g2
        by_cases eb : b = x
        · rw [if_pos eb] at g2; simp only at g2; rw [← eb] at g2; exact h7 ⟨g1, g2⟩
        · rw [if_neg eb] at g2; exact h7 ⟨g1, g2⟩
  · rw [commit_no hr]; exact h
theorem beside_abort (ha : a ≠ x) (hb : b ≠ x) (h : besideL L a b = true) : besideL (abortL L x) a b = true := by
  by_cases hr : runsL L x
  · obtain ⟨c1, c2, c3⟩ := abort_tx hr
    rw [beside_iff] at h ⊢
    rw [c2 a, c2 b, if_neg ha, if_neg hb]
    exact ⟨⟨(c1 a).2 h.1.1, (c1 b).2 h.1.2.1, h.1.2.2⟩, h.2⟩
  · rw [abort_no hr]; exact h
/-- Edges between those alone that are beside each other. -/
def BI (L : LM) (E : EM) : Prop := ∀ q ∈ E.m, besideL L q.1 q.2 = true
theorem BI.drop {E : EM} (h : ∀ q ∈ E.m, q.1 ≠ x → q.2 ≠ x → besideL L q.1 q.2 = true) : BI L (dropE E x) := by
  intro q hq
  have hq2 := List.mem_filter.1 hq
  have h3 := hq2.2
  unfold touchP at h3
  simp at h3
  exact h q hq2.1 h3.1 h3.2
end
theorem EOk.drop {N : Nat} {E : EM} (h : EOk N E) (x : Int) : EOk N (dropE E x) :=
  ⟨h.nd.sublist List.filter_sublist, (adel_nodup h.od x).1, Nat.le_trans (List.length_filter_le _ _) h.len⟩
theorem EOk.add {N : Nat} {L : LM} {E : EM} (h : EOk N E) (a b : Int) : EOk (N + 1) (addE L E a b) := by
  unfold addE
  split
  · rename_i hh
    refine ⟨?_, h.od, ?_⟩
    · rw [List.nodup_append]
      exact ⟨h.nd, by simp, fun x hx y hy e => by simp at hy; subst hy; subst e; exact hh.2 hx⟩
    · have := h.len; simp; omega
  · exact ⟨h.nd, h.od, by have := h.len; omega⟩
theorem EOk.oldIn {N : Nat} {L : LM} {E : EM} (h : EOk N E) (b c : Int) : EOk N (oldInE L E b c) := by
  unfold oldInE
  split
  · exact ⟨h.nd, aput_nodup h.od _ _, h.len⟩
  · exact h
theorem EOk.up {N M : Nat} {E : EM} (h : EOk N E) (hm : N ≤ M) : EOk M E := ⟨h.nd, h.od, Nat.le_trans h.len hm⟩
end Go.Lift

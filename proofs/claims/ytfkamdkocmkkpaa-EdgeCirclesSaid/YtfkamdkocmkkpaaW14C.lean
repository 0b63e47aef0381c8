/- Edges: of every circle some pivot is spoilt. -/
import Derived.Test.YtfkamdkocmkkpaaW14i
set_option linter.unusedSimpArgs false
set_option linter.unusedVariables false
namespace Go.Lift
open Go
set_option maxRecDepth 100000
/-- Steps, one behind the other. -/
inductive Way {α : Type} (R : α → α → Prop) (a : α) : α → Prop
  | one {b : α} : R a b → Way R a b
  | more {b c : α} : Way R a b → R b c → Way R a c
theorem Way.trans {α : Type} {R : α → α → Prop} {a b c : α} (h1 : Way R a b) (h2 : Way R b c) : Way R a c := by
  induction h2 with
  | one h => exact .more h1 h
  | more _ h ih => exact .more ih h
theorem Way.last {α : Type} {R : α → α → Prop} {a b : α} (h : Way R a b) : ∃ p, (p = a ∨ Way R a p) ∧ R p b := by
  cases h with
  | one h => exact ⟨a, Or.inl rfl, h⟩
  | more h1 h2 => exact ⟨_, Or.inr h1, h2⟩
/-- Who must come ahead of whom. -/
def RC (L : LM) (E : EM) (a b : Int) : Prop := (a ≠ b ∧ (txL L a).state = 2 ∧ (txL L b).state = 2 ∧ seesL L b a = true) ∨ (a, b) ∈ E.m
theorem circle_spoilt {n : Nat} {L : LM} {E : EM} (hk : LOk n L) (hb : BI L E) (hall : ∀ x, (txL L x).state ≠ 1) (hrd : ∀ x, (txL L x).reads = false) {x : Int} (hx : Way (RC L E) x x) : ∃ p, hasL L p ∧ (spoiltE L E p).2 = true := by
  have hcom : ∀ a b, RC L E a b → (txL L a).state = 2 ∧ (txL L b).state = 2 := by
    rintro a b (⟨_, h1, h2, _⟩ | h)
    · exact ⟨h1, h2⟩
    · obtain ⟨⟨h1, h2, _, h4, h5⟩, _⟩ := beside_iff.1 (hb _ h)
      have q1 := hk.st a h1
      have q2 := hk.st b h2
      have q3 := hall a
      have q4 := hall b
      simp only at h4 h5
      omega
  -- the one of the circle that was committed first
  have hmin : ∀ (d : Nat) (y : Int), (txL L y).csn.toNat ≤ d → Way (RC L E) x y → Way (RC L E) y x → ∃ t, Way (RC L E) x t ∧ Way (RC L E) t x ∧ ∀ z, Way (RC L E) x z → Way (RC L E) z x → (txL L t).csn ≤ (txL L z).csn := by
    intro d
    induction d with
    | zero =>
      intro y hd h1 h2
      refine ⟨y, h1, h2, fun z h3 _ => ?_⟩
      obtain ⟨p, _, hp⟩ := h3.last
      have hz := hk.csn z ((has_state hk).2 (by have := (hcom _ _ hp).2; omega)) (hcom _ _ hp).2
      omega
    | succ d ih =>
      intro y hd h1 h2
      by_cases hex : ∃ z, Way (RC L E) x z ∧ Way (RC L E) z x ∧ (txL L z).csn < (txL L y).csn
      · obtain ⟨z, h3, h4, h5⟩ := hex
        obtain ⟨p, _, hp⟩ := h3.last
        have hz := hk.csn z ((has_state hk).2 (by have := (hcom _ _ hp).2; omega)) (hcom _ _ hp).2
        exact ih z (by omega) h3 h4
      · refine ⟨y, h1, h2, fun z h3 h4 => ?_⟩
        refine Classical.byContradiction fun hn => hex ⟨z, h3, h4, by omega⟩
  obtain ⟨t3, w1, w2, hm⟩ := hmin _ x (Nat.le_refl _) hx hx
  -- whoever is ahead of one of the circle, in the circle
  have pred : ∀ y, Way (RC L E) x y → Way (RC L E) y x → ∃ p, Way (RC L E) x p ∧ Way (RC L E) p x ∧ RC L E p y := by
    intro y h1 h2
    obtain ⟨p, hp, hr⟩ := (h2.trans h1).last
    rcases hp with rfl | hp
    · exact ⟨p, h1, h2, hr⟩
    · exact ⟨p, h1.trans hp, (Way.one hr).trans h2, hr⟩
  obtain ⟨p, p1, p2, hpr⟩ := pred t3 w1 w2
  obtain ⟨t1, q1, q2, htr⟩ := pred p p1 p2
  obtain ⟨sp, st3⟩ := hcom _ _ hpr
  obtain ⟨st1, _⟩ := hcom _ _ htr
  have hh : ∀ y, (txL L y).state = 2 → hasL L y := fun y hy => (has_state hk).2 (by omega)
  have c3 := hk.csn t3 (hh _ st3) st3
  have mp := hm p p1 p2
  have mt := hm t1 q1 q2
  -- p read what t3 wrote
  have e1 : (p, t3) ∈ E.m := by
    rcases hpr with ⟨hne, _, _, hs⟩ | h
    · obtain ⟨_, h⟩ := sees_iff.1 hs
      rcases h with h | ⟨_, h⟩
      · exact absurd h.symm hne
      · omega
    · exact h
  obtain ⟨⟨_, _, hne, _, _⟩, b1, b2⟩ := beside_iff.1 (hb _ e1)
  simp only at hne b1 b2
  have e2 : (t1, p) ∈ E.m := by
    rcases htr with ⟨hne2, _, _, hs⟩ | h
    · obtain ⟨_, h⟩ := sees_iff.1 hs
      rcases h with h | ⟨_, h⟩
      · exact absurd h.symm hne2
      · exact absurd ⟨st3, by omega⟩ b1
    · exact h
  refine ⟨p, hh p sp, ?_⟩
  have hout : t3 ∈ outE E p := by
    unfold outE sortI
    rw [List.mem_mergeSort]
    exact List.mem_map.2 ⟨(p, t3), List.mem_filter.2 ⟨e1, by simp⟩, rfl⟩
  have hin : t1 ∈ inE E p := by
    unfold inE sortI
    rw [List.mem_mergeSort]
    exact List.mem_map.2 ⟨(t1, p), List.mem_filter.2 ⟨e2, by simp⟩, rfl⟩
  have hlt : (txL L t3).csn < (txL L p).csn := by
    have : (txL L t3).csn ≠ (txL L p).csn := fun e => hne (hk.inj p t3 (hh p sp) (hh t3 st3) sp st3 e.symm)
    omega
  have hstep : ∀ (l : List Int) (a : Int), (a ≠ 0 → l.foldl (stepF L p) a ≠ 0 ∧ l.foldl (stepF L p) a ≤ a) ∧ (t3 ∈ l → l.foldl (stepF L p) a ≠ 0 ∧ l.foldl (stepF L p) a ≤ (txL L t3).csn) := by
    intro l
    induction l with
    | nil => intro a; exact ⟨fun h => ⟨h, Int.le_refl _⟩, by simp⟩
    | cons t l ih =>
      intro a
      rw [List.foldl_cons]
      obtain ⟨i1, i2⟩ := ih (stepF L p a t)
      have h1 : a ≠ 0 → stepF L p a t ≠ 0 ∧ stepF L p a t ≤ a := by
        intro ha
        unfold stepF
        split
        · exact ⟨ha, Int.le_refl _⟩
        · rename_i hc
          have : (txL L t).csn ≠ 0 := fun e => hc (Or.inl e)
          split <;> constructor <;> omega
      refine ⟨fun ha => ?_, fun hm => ?_⟩
      · obtain ⟨k1, k2⟩ := h1 ha
        obtain ⟨k3, k4⟩ := i1 k1
        exact ⟨k3, by omega⟩
      · rcases List.mem_cons.1 hm with rfl | hm
        · have k : stepF L p a t3 ≠ 0 ∧ stepF L p a t3 ≤ (txL L t3).csn := by
            unfold stepF
            rw [if_neg (by omega)]
            split <;> constructor <;> omega
          obtain ⟨k3, k4⟩ := i1 k.1
          exact ⟨k3, by omega⟩
        · exact i2 hm
  obtain ⟨f1, f2⟩ := (hstep (outE E p) 0).2 hout
  unfold spoiltE
  rw [if_neg (by omega)]
  have f1' : firstE L E p ≠ 0 := f1
  have f2' : firstE L E p ≤ (txL L t3).csn := f2
  rw [if_neg f1']
  refine spFold_true L _ _ _ (Or.inr ⟨t1, hin, ?_, ?_⟩)
  · rintro (g | ⟨_, g⟩)
    · omega
    · omega
  · rintro ⟨g, _⟩
    rw [hrd] at g
    cases g
end Go.Lift

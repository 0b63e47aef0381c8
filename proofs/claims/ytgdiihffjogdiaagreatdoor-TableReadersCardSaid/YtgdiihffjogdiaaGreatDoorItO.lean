/- Orders out of comparisons: one behind the other; lists in their order. -/
import Derived.Test.YtgdiihffjogdiaaGreatDoorW06a
set_option linter.unusedSimpArgs false
set_option linter.unusedVariables false
namespace Go.Lift
open Go
def cmpI (a b : Int) : Int := if a < b then -1 else if a > b then 1 else 0
def cmpS (a b : ByteArray) : Int := if sLt a b = true then -1 else if sLt b a = true then 1 else 0
/-- What a comparison keeps to. -/
structure Cmp3 {α : Type} (c : α → α → Int) : Prop where
  anti : ∀ x y, c y x = - c x y
  trans : ∀ x y z, c x y < 0 → c y z < 0 → c x z < 0
  eqv : ∀ x y z, c x y = 0 → c x z = c y z
theorem cmp3I : Cmp3 cmpI := ⟨fun x y => by unfold cmpI; repeat' split
                                            all_goals omega,
  fun x y z => by unfold cmpI; repeat' split
                  all_goals omega,
  fun x y z h => by
    have : x = y := by
      unfold cmpI at h
      split at h
      · omega
      · split at h <;> omega
    rw [this]⟩
theorem cmpI_zero {x y : Int} (h : cmpI x y = 0) : x = y := by
  unfold cmpI at h
  split at h
  · omega
  · split at h <;> omega
theorem cmpS_zero {x y : ByteArray} (h : cmpS x y = 0) : x = y := by
  unfold cmpS at h
  split at h
  · omega
  · split at h
    · omega
    · rename_i h1 h2
      rcases sLt_total x y with e | e | e
      · exact e
      · exact absurd e h1
      · exact absurd e h2
theorem cmp3S : Cmp3 cmpS where
  anti x y := by
    unfold cmpS
    cases h1 : sLt x y <;> cases h2 : sLt y x <;> simp
    have := sLt_asymm h1
    rw [h2] at this
    cases this
  trans x y z := by
    unfold cmpS
    intro h1 h2
    have e1 : sLt x y = true := by
      cases h : sLt x y with
      | true => rfl
      | false =>
        rw [h] at h1
        simp at h1
        split at h1 <;> omega
    have e2 : sLt y z = true := by
      cases h : sLt y z with
      | true => rfl
      | false =>
        rw [h] at h2
        simp at h2
        split at h2 <;> omega
    rw [if_pos (sLt_trans e1 e2)]
    omega
  eqv x y z h := by rw [cmpS_zero h]
theorem Cmp3.comap {α β : Type} {c : β → β → Int} (h : Cmp3 c) (f : α → β) : Cmp3 fun x y => c (f x) (f y) := ⟨fun x y => h.anti _ _, fun x y z => h.trans _ _ _, fun x y z => h.eqv _ _ _⟩
def thenC {α : Type} (c d : α → α → Int) (x y : α) : Int := if c x y ≠ 0 then c x y else d x y
theorem Cmp3.then {α : Type} {c d : α → α → Int} (h : Cmp3 c) (g : Cmp3 d) : Cmp3 (thenC c d) := ⟨fun x y => by
    unfold thenC
    have := h.anti x y
    have := g.anti x y
    split <;> split <;> omega,
  fun x y z => by
    unfold thenC
    intro h1 h2
    by_cases e1 : c x y = 0
    · rw [if_neg (by omega)] at h1
      rw [h.eqv x y z e1]
      by_cases e2 : c y z = 0
      · rw [if_neg (by omega)] at h2 ⊢
        exact g.trans x y z h1 h2
      · rw [if_pos e2] at h2 ⊢
        exact h2
    · rw [if_pos e1] at h1
      by_cases e2 : c y z = 0
      · have e3 := h.eqv y z x e2
        have e4 := h.anti x y
        have e5 := h.anti x z
        rw [if_pos (by omega)]
        omega
      · rw [if_pos e2] at h2
        have := h.trans x y z h1 h2
        rw [if_pos (by omega)]
        exact this,
  fun x y z => by
    unfold thenC
    intro h1
    have e1 : c x y = 0 := by
      refine Classical.byContradiction fun hn => ?_
      rw [if_pos hn] at h1
      exact hn h1
    rw [if_neg (by omega)] at h1
    rw [h.eqv x y z e1, g.eqv x y z h1]⟩
theorem thenC_zero {α : Type} {c d : α → α → Int} {x y : α} (h : thenC c d x y = 0) : c x y = 0 ∧ d x y = 0 := by
  unfold thenC at h
  by_cases e : c x y = 0
  · rw [if_neg (by omega)] at h; exact ⟨e, h⟩
  · rw [if_pos e] at h; exact absurd h e
theorem Cmp3.irr {α : Type} {c : α → α → Int} (h : Cmp3 c) (x : α) : c x x = 0 := by have := h.anti x x; omega
theorem Cmp3.nt {α : Type} {c : α → α → Int} (h : Cmp3 c) (x y z : α) (h1 : ¬ c x y < 0) (h2 : ¬ c y z < 0) : ¬ c x z < 0 := by
  intro h3
  by_cases e : c x y = 0
  · rw [h.eqv x y z e] at h3; exact h2 h3
  · have := h.anti x y
    exact h2 (h.trans y x z (by omega) h3)
/-- Sorted by a comparison. -/
def sortC {α : Type} (c : α → α → Int) (l : List α) : List α := l.mergeSort fun x y => !(decide (c y x < 0))
def OrdC {α : Type} (c : α → α → Int) (l : List α) : Prop := l.Pairwise fun x y => c x y < 0
section
variable {α : Type} {c : α → α → Int} {l : List α}
theorem sortC_mem {x : α} : x ∈ sortC c l ↔ x ∈ l := List.mem_mergeSort
theorem sortC_len : (sortC c l).length = l.length := List.length_mergeSort _
theorem sortC_perm : (sortC c l).Perm l := List.mergeSort_perm _ _
theorem sortC_ord (h : Cmp3 c) (hz : ∀ x y, c x y = 0 → x = y) (hn : l.Nodup) : OrdC c (sortC c l) := by
  have h1 : (sortC c l).Pairwise fun x y => (!(decide (c y x < 0))) = true := by
    refine List.pairwise_mergeSort (fun a b d h1 h2 => ?_) (fun a b => ?_) l
    · simp only [Bool.not_eq_true', decide_eq_false_iff_not] at *
      exact h.nt d b a h2 h1
    · simp only [Bool.or_eq_true, Bool.not_eq_true', decide_eq_false_iff_not]
      have := h.anti a b
      omega
  have h2 : (sortC c l).Nodup := (sortC_perm).nodup_iff.2 hn
  refine (h1.and h2).imp fun {a b} hab => ?_
  have h3 := hab.1
  simp only [Bool.not_eq_true', decide_eq_false_iff_not] at h3
  have h4 := h.anti a b
  have h5 : c a b ≠ 0 := fun e => hab.2 (hz a b e)
  omega
theorem ordC_ext (h : Cmp3 c) : ∀ {l l' : List α}, OrdC c l → OrdC c l' → (∀ x, x ∈ l ↔ x ∈ l') → l = l'
  | [], [], _, _, _ => rfl
  | [], a :: l', _, _, hm => by have := (hm a).2 (by simp); cases this
  | a :: l, [], _, _, hm => by have := (hm a).1 (by simp); cases this
  | a :: l, b :: l', h1, h2, hm => by
    obtain ⟨p1, p2⟩ := List.pairwise_cons.1 h1
    obtain ⟨q1, q2⟩ := List.pairwise_cons.1 h2
    have hab : a = b := by
      rcases List.mem_cons.1 ((hm a).1 (by simp)) with g | g
      · exact g
      · rcases List.mem_cons.1 ((hm b).2 (by simp)) with g2 | g2
        · exact g2.symm
        · have h3 := h.trans _ _ _ (q1 a g) (p1 b g2)
          have := h.irr b
          omega
    subst hab
    rw [ordC_ext h p2 q2 fun x => ?_]
    constructor
    · intro hx
      rcases List.mem_cons.1 ((hm x).1 (List.mem_cons_of_mem _ hx)) with g | g
      · subst g; have := p1 x hx; have := h.irr x; omega
      · exact g
    · intro hx
      rcases List.mem_cons.1 ((hm x).2 (List.mem_cons_of_mem _ hx)) with g | g
      · subst g; have := q1 x hx; have := h.irr x; omega
      · exact g
end
end Go.Lift

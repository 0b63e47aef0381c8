/- Edges: the reference and the edges. -/
import Derived.Test.YtfkamdkocmkkpaaW14r
set_option linter.unusedSimpArgs false
set_option linter.unusedVariables false
namespace Go.Lift
open Go
set_option maxRecDepth 100000
structure Rel (E M : EM) : Prop where
  m : M.m = sortC cmpP E.m
  old : ∀ x, oldR M x = oldE E x
theorem sortI_eq {l s : List Int} (hs : s.Pairwise (· ≤ ·)) (hp : s.Perm l) : sortI l = s := by
  unfold sortI
  refine List.Perm.eq_of_pairwise (le := fun a b => (decide (a ≤ b)) = true) (fun a b _ _ h1 h2 => ?_) (List.pairwise_mergeSort (fun a b c h1 h2 => by simp at *; omega) (fun a b => by simp; omega) l) (hs.imp fun h => by simpa using h) ((List.mergeSort_perm l _).trans hp.symm)
  simp at h1 h2
  omega
theorem cmpP_fst {x y : Int × Int} (h : cmpP x y < 0) : x.1 ≤ y.1 ∧ (x.1 = y.1 → x.2 < y.2) ∧ (x.2 = y.2 → x.1 < y.1) := by
  obtain ⟨a, b⟩ := y
  rw [cmpP_lt] at h
  refine ⟨?_, ?_, ?_⟩ <;> simp only <;> omega
section
variable {E M : EM}
theorem Rel.ord (hr : Rel E M) (hn : E.m.Nodup) : OrdC cmpP M.m := by rw [hr.m]; exact sortC_ord cmpP3 cmpP_zero hn
theorem Rel.mem (hr : Rel E M) {x : Int × Int} : x ∈ M.m ↔ x ∈ E.m := by rw [hr.m]; exact sortC_mem
theorem end_in (hr : Rel E M) (hn : E.m.Nodup) (x : Int) : endR M x 1 = inE E x ∧ OrdC cmpI (endR M x 1) := by
  have ho := hr.ord hn
  have hlt : (endR M x 1).Pairwise (· < ·) := by
    unfold endR
    rw [List.pairwise_map, List.pairwise_filter]
    refine ho.imp fun {a b} h ha hb => ?_
    simp [endF] at ha hb ⊢
    exact (cmpP_fst h).2.2 (by rw [ha, hb])
  refine ⟨?_, hlt.imp fun h => (cmpI_lt _ _).2 h⟩
  symm
  unfold inE
  refine sortI_eq (hlt.imp fun h => Int.le_of_lt h) ?_
  unfold endR
  rw [hr.m]
  exact ((sortC_perm.filter _).map _)
theorem end_out (hr : Rel E M) (hn : E.m.Nodup) (x : Int) : endR M x 0 = outE E x ∧ OrdC cmpI (endR M x 0) := by
  have ho := hr.ord hn
  have hlt : (endR M x 0).Pairwise (· < ·) := by
    unfold endR
    rw [List.pairwise_map, List.pairwise_filter]
    refine ho.imp fun {a b} h ha hb => ?_
    simp [endF] at ha hb ⊢
    exact (cmpP_fst h).2.1 (by rw [ha, hb])
  refine ⟨?_, hlt.imp fun h => (cmpI_lt _ _).2 h⟩
  symm
  unfold outE
  refine sortI_eq (hlt.imp fun h => Int.le_of_lt h) ?_
  unfold endR
  rw [hr.m]
  exact ((sortC_perm.filter _).map _)
theorem Rel.add (hr : Rel E M) (hn : E.m.Nodup) (L : LM) (a b : Int) : Rel (addE L E a b) (addQ L M a b) ∧ decide (besideL L a b = true ∧ (a, b) ∉ E.m) = decide (besideL L a b = true ∧ (a, b) ∉ M.m) := by
  have hm : (a, b) ∉ M.m ↔ (a, b) ∉ E.m := not_congr hr.mem
  refine ⟨?_, by simp only [hm]⟩
  unfold addE addQ
  by_cases hc : besideL L a b = true ∧ (a, b) ∉ E.m
  · rw [if_pos hc, if_pos ⟨hc.1, hm.2 hc.2⟩]
    refine ⟨?_, hr.old⟩
    refine ordC_ext cmpP3 (insC_ord cmpP3 cmpP_zero (hr.ord hn) (hm.2 hc.2)) (sortC_ord cmpP3 cmpP_zero ?_) fun x => ?_
    · rw [List.nodup_append]
      exact ⟨hn, by simp, fun x hx y hy e => by simp at hy; subst hy; subst e; exact hc.2 hx⟩
    · rw [insC_mem, sortC_mem, hr.mem]
      simp
      exact Or.comm
  · rw [if_neg hc, if_neg (fun h => hc ⟨h.1, hm.1 h.2⟩)]
    exact hr
theorem afind_filter (l : List (Int × Int)) (x y : Int) : afind (l.filter fun q => !decide (q.1 = x)) y = if y = x then none else afind l y := by
  induction l with
  | nil => simp [afind]
  | cons p l ih =>
    obtain ⟨u, v⟩ := p
    rw [List.filter_cons]
    by_cases e : u = x
    · subst e
      rw [if_neg (by simp), ih]
      by_cases e2 : y = u
      · simp [e2]
      · simp [e2, afind]
    · rw [if_pos (by simp [e])]
      simp only [afind, ih]
      by_cases e2 : y = u
      · subst e2
        simp [e]
      · simp [e2]
theorem afind_snoc (l : List (Int × Int)) (x v y : Int) : afind (l ++ [(x, v)]) y = match afind l y with | some w => some w | none => if y = x then some v else none := by
  induction l with
  | nil => simp [afind]
  | cons p l ih =>
    obtain ⟨u, w⟩ := p
    simp only [List.cons_append, afind, ih]
    by_cases e : y = u
    · simp [e]
    · simp [e]
theorem Rel.drop (hr : Rel E M) {N : Nat} (hk : EOk N E) (x : Int) : Rel (dropE E x) (dropR M x) := by
  refine ⟨?_, fun y => ?_⟩
  · unfold dropE dropR
    simp only
    refine ordC_ext cmpP3 ((hr.ord hk.nd).sublist List.filter_sublist) (sortC_ord cmpP3 cmpP_zero (hk.nd.sublist List.filter_sublist)) fun z => ?_
    rw [sortC_mem, List.mem_filter, List.mem_filter, hr.mem]
  · unfold oldR oldE dropE dropR
    simp only
    rw [afind_filter, afind_adel hk.od]
    by_cases e : y = x
    · simp [e]
    · rw [if_neg e, if_neg e]
      exact hr.old y
theorem Rel.oldIn (hr : Rel E M) {n : Nat} {L : LM} (hk : LOk n L) (b csn : Int) : Rel (oldInE L E b csn) (oldInR L M b csn) ∧ decide (oldOk L E b csn) = decide (oldOkR L M b csn) := by
  have hok : oldOk L E b csn ↔ oldOkR L M b csn := by
    unfold oldOk oldOkR
    have h1 : (afind M.old b).getD 0 = oldE E b := hr.old b
    rw [h1]
    have hst : ((txL L b).state ≠ 0 ∧ (txL L b).state ≠ 3) ↔ ((txL L b).state = 1 ∨ (txL L b).state = 2) := by
      by_cases hh : hasL L b
      · have := hk.st b hh; omega
      · rw [txL_no hh]; simp [zTx]
    rw [← and_assoc, hst]
  refine ⟨?_, by simp only [hok]⟩
  unfold oldInE oldInR
  by_cases hc : oldOk L E b csn
  · rw [if_pos hc, if_pos (hok.1 hc)]
    refine ⟨hr.m, fun y => ?_⟩
    unfold oldR oldE
    simp only
    rw [afind_snoc, afind_filter, afind_aput]
    by_cases e : y = b
    · simp [e]
    · have := hr.old y
      unfold oldR oldE at this
      simp only [e, if_false]
      rw [← this]
      cases afind M.old y <;> rfl
  · rw [if_neg hc, if_neg (fun h => hc (hok.2 h))]
    exact hr
def skipB (L : LM) (c t1 : Int) : Prop := ((txL L t1).state = 2 ∧ (txL L t1).csn < c) ∨ ((txL L t1).reads = true ∧ (txL L t1).snap < c)
theorem inFold (L : LM) (t3 : Int) : ∀ (l : List Int) (v : List Int × Bool), OrdC cmpI v.1 → OrdC cmpI (l.foldl (inStep L t3) v).1 ∧ ((l.foldl (inStep L t3) v).2 = true ↔ v.2 = true ∨ ∃ t ∈ l, ¬ skipB L (txL L t3).csn t) ∧ ∀ x, x ∈ (l.foldl (inStep L t3) v).1 ↔ x ∈ v.1 ∨ (x ∈ l ∧ (txL L x).state = 1 ∧ ¬ skipB L (txL L t3).csn x)
  | [], v, h => ⟨h, by simp, fun x => by simp⟩
  | t :: l, v, h => by
    have hstep : OrdC cmpI (inStep L t3 v t).1 ∧ ((inStep L t3 v t).2 = true ↔ v.2 = true ∨ ¬ skipB L (txL L t3).csn t) ∧ ∀ x, x ∈ (inStep L t3 v t).1 ↔ x ∈ v.1 ∨ (x = t ∧ (txL L x).state = 1 ∧ ¬ skipB L (txL L t3).csn x) := by
      unfold inStep
      by_cases hk : skipB L (txL L t3).csn t
      · have hk2 := hk
        unfold skipB at hk2
        rw [if_pos hk2]
        refine ⟨h, ⟨Or.inl, fun g => g.elim id fun g => absurd hk g⟩, fun x => ⟨Or.inl, fun g => g.elim id ?_⟩⟩
        rintro ⟨rfl, _, g⟩
        exact absurd hk g
      · have hk2 := hk
        unfold skipB at hk2
        rw [if_neg hk2]
        refine ⟨?_, ⟨fun _ => Or.inr hk, fun _ => rfl⟩, fun x => ?_⟩
        · split
          · exact putI_ord h _
          · exact h
        · split
          · rename_i hs
            rw [putI_mem]
            constructor
            · rintro (rfl | g)
              · exact Or.inr ⟨rfl, hs, hk⟩
              · exact Or.inl g
            · rintro (g | ⟨rfl, _⟩)
              · exact Or.inr g
              · exact Or.inl rfl
          · rename_i hs
            constructor
            · exact Or.inl
            · rintro (g | ⟨rfl, g, _⟩)
              · exact g
              · exact absurd g hs
    obtain ⟨s1, s2, s3⟩ := hstep
    obtain ⟨i1, i2, i3⟩ := inFold L t3 l (inStep L t3 v t) s1
    rw [List.foldl_cons]
    refine ⟨i1, ?_, fun x => ?_⟩
    · rw [i2, s2]
      constructor
      · rintro ((g | g) | ⟨u, hu, g⟩)
        · exact Or.inl g
        · exact Or.inr ⟨t, by simp, g⟩
        · exact Or.inr ⟨u, by simp [hu], g⟩
      · rintro (g | ⟨u, hu, g⟩)
        · exact Or.inl (Or.inl g)
        · rcases List.mem_cons.1 hu with rfl | hu
          · exact Or.inl (Or.inr g)
          · exact Or.inr ⟨u, hu, g⟩
    · rw [i3, s3]
      constructor
      · rintro ((g | ⟨rfl, g⟩) | ⟨hu, g⟩)
        · exact Or.inl g
        · exact Or.inr ⟨by simp, g⟩
        · exact Or.inr ⟨by simp [hu], g⟩
      · rintro (g | ⟨hu, g⟩)
        · exact Or.inl (Or.inl g)
        · rcases List.mem_cons.1 hu with rfl | hu
          · exact Or.inl (Or.inr ⟨rfl, g⟩)
          · exact Or.inr ⟨hu, g⟩
/-- Whose commit spoils. -/
def t3Ok (L : LM) (p t3 : Int) : Prop := (txL L t3).state = 2 ∧ ¬ ((txL L p).state = 2 ∧ (txL L p).csn ≤ (txL L t3).csn)
def oldB (M : EM) (L : LM) (p t3 : Int) : Prop := oldR M p > 0 ∧ oldR M p ≥ (txL L t3).csn
theorem outFold (L : LM) (M : EM) (p : Int) : ∀ (l : List Int) (v : List Int × Bool), OrdC cmpI v.1 → OrdC cmpI (l.foldl (outStep L M p) v).1 ∧ ((l.foldl (outStep L M p) v).2 = true ↔ v.2 = true ∨ ∃ t3 ∈ l, t3Ok L p t3 ∧ (oldB M L p t3 ∨ ∃ t ∈ endR M p 1, ¬ skipB L (txL L t3).csn t)) ∧ ∀ x, x ∈ (l.foldl (outStep L M p) v).1 ↔ x ∈ v.1 ∨ ∃ t3 ∈ l, t3Ok L p t3 ∧ x ∈ endR M p 1 ∧ (txL L x).state = 1 ∧ ¬ skipB L (txL L t3).csn x
  | [], v, h => ⟨h, by simp, fun x => by simp⟩
  | t :: l, v, h => by
    have hstep : OrdC cmpI (outStep L M p v t).1 ∧ ((outStep L M p v t).2 = true ↔ v.2 = true ∨ (t3Ok L p t ∧ (oldB M L p t ∨ ∃ u ∈ endR M p 1, ¬ skipB L (txL L t).csn u))) ∧ ∀ x, x ∈ (outStep L M p v t).1 ↔ x ∈ v.1 ∨ (t3Ok L p t ∧ x ∈ endR M p 1 ∧ (txL L x).state = 1 ∧ ¬ skipB L (txL L t).csn x) := by
      unfold outStep
      by_cases hk : (txL L t).state ≠ 2 ∨ ((txL L p).state = 2 ∧ (txL L p).csn ≤ (txL L t).csn)
      · rw [if_pos hk]
        have hno : ¬ t3Ok L p t := fun g => hk.elim (fun q => q g.1) g.2
        exact ⟨h, ⟨Or.inl, fun g => g.elim id fun g => absurd g.1 hno⟩, fun x => ⟨Or.inl, fun g => g.elim id fun g => absurd g.1 hno⟩⟩
      · rw [if_neg hk]
        have hyes : t3Ok L p t := ⟨Classical.not_not.1 fun q => hk (Or.inl q), fun q => hk (Or.inr q)⟩
        obtain ⟨i1, i2, i3⟩ := inFold L t (endR M p 1) (v.1, v.2 || (decide (oldR M p > 0) && decide (oldR M p ≥ (txL L t).csn))) h
        refine ⟨i1, ?_, fun x => ?_⟩
        · rw [i2]
          simp only [Bool.or_eq_true, Bool.and_eq_true, decide_eq_true_eq]
          constructor
          · rintro ((g | g) | g)
            · exact Or.inl g
            · exact Or.inr ⟨hyes, Or.inl g⟩
            · exact Or.inr ⟨hyes, Or.inr g⟩
          · rintro (g | ⟨_, g | g⟩)
            · exact Or.inl (Or.inl g)
            · exact Or.inl (Or.inr g)
            · exact Or.inr g
        · rw [i3]
          constructor
          · rintro (g | g)
            · exact Or.inl g
            · exact Or.inr ⟨hyes, g⟩
          · rintro (g | ⟨_, g⟩)
            · exact Or.inl g
            · exact Or.inr g
    obtain ⟨s1, s2, s3⟩ := hstep
    obtain ⟨i1, i2, i3⟩ := outFold L M p l (outStep L M p v t) s1
    rw [List.foldl_cons]
    refine ⟨i1, ?_, fun x => ?_⟩
    · rw [i2, s2]
      constructor
      · rintro ((g | g) | ⟨u, hu, g⟩)
        · exact Or.inl g
        · exact Or.inr ⟨t, by simp, g⟩
        · exact Or.inr ⟨u, by simp [hu], g⟩
      · rintro (g | ⟨u, hu, g⟩)
        · exact Or.inl (Or.inl g)
        · rcases List.mem_cons.1 hu with rfl | hu
          · exact Or.inl (Or.inr g)
          · exact Or.inr ⟨u, hu, g⟩
    · rw [i3, s3]
      constructor
      · rintro ((g | g) | ⟨u, hu, g⟩)
        · exact Or.inl g
        · exact Or.inr ⟨t, by simp, g⟩
        · exact Or.inr ⟨u, by simp [hu], g⟩
      · rintro (g | ⟨u, hu, g⟩)
        · exact Or.inl (Or.inl g)
        · rcases List.mem_cons.1 hu with rfl | hu
          · exact Or.inl (Or.inr g)
          · exact Or.inr ⟨u, hu, g⟩
end
end Go.Lift

namespace Go.Lift
open Go
set_option maxRecDepth 100000
section
variable {E M : EM} {L : LM} {n : Nat}
theorem csn_state (hk : LOk n L) (x : Int) : (txL L x).csn ≠ 0 ↔ (txL L x).state = 2 := by
  constructor
  · intro h
    exact Classical.byContradiction fun hs => h (hk.csn0 x hs)
  · intro hs
    have := hk.csn x ((has_state hk).2 (by omega)) hs
    omega
theorem step_cond (hk : LOk n L) (p t : Int) : ((txL L t).csn = 0 ∨ ((txL L p).csn ≠ 0 ∧ (txL L p).csn ≤ (txL L t).csn)) ↔ ¬ t3Ok L p t := by
  have h1 := csn_state hk t
  have h2 := csn_state hk p
  unfold t3Ok
  rw [h2]
  constructor
  · rintro (g | g) ⟨q1, q2⟩
    · exact h1.2 q1 g
    · exact q2 g
  · intro g
    by_cases q : (txL L t).csn = 0
    · exact Or.inl q
    · refine Or.inr (Classical.byContradiction fun hn => g ⟨h1.1 q, hn⟩)
theorem first_fold (hk : LOk n L) (p : Int) : ∀ (l : List Int) (a : Int), (a ≠ 0 → l.foldl (stepF L p) a ≠ 0 ∧ l.foldl (stepF L p) a ≤ a) ∧ ∀ t ∈ l, t3Ok L p t → l.foldl (stepF L p) a ≠ 0 ∧ l.foldl (stepF L p) a ≤ (txL L t).csn
  | [], a => ⟨fun h => ⟨h, Int.le_refl _⟩, by simp⟩
  | t :: l, a => by
    rw [List.foldl_cons]
    obtain ⟨i1, i2⟩ := first_fold hk p l (stepF L p a t)
    have hs : (a ≠ 0 → stepF L p a t ≠ 0 ∧ stepF L p a t ≤ a) ∧ (t3Ok L p t → stepF L p a t ≠ 0 ∧ stepF L p a t ≤ (txL L t).csn) := by
      unfold stepF
      by_cases hc : t3Ok L p t
      · rw [if_neg (fun g => (step_cond hk p t).1 g hc)]
        have hne : (txL L t).csn ≠ 0 := (csn_state hk t).2 hc.1
        split <;> constructor <;> intro _ <;> constructor <;> omega
      · rw [if_pos ((step_cond hk p t).2 hc)]
        exact ⟨fun h => ⟨h, Int.le_refl _⟩, fun g => absurd g hc⟩
    refine ⟨fun h => ?_, fun u hu hc => ?_⟩
    · obtain ⟨q1, q2⟩ := hs.1 h
      obtain ⟨q3, q4⟩ := i1 q1
      exact ⟨q3, by omega⟩
    · rcases List.mem_cons.1 hu with rfl | hu
      · obtain ⟨q1, q2⟩ := hs.2 hc
        obtain ⟨q3, q4⟩ := i1 q1
        exact ⟨q3, by omega⟩
      · exact i2 u hu hc
theorem spFold_list (L : LM) (csn : Int) : ∀ (l : List Int) (acc : List Int × Bool), (l.foldl (spStep L csn) acc).1 = acc.1 ++ l.filter fun t => decide (¬ ((txL L t).state = 3 ∨ ((txL L t).state = 2 ∧ (txL L t).csn < csn)) ∧ ¬ ((txL L t).reads = true ∧ (txL L t).snap < csn) ∧ (txL L t).state = 1)
  | [], acc => by simp
  | t :: l, acc => by
    rw [List.foldl_cons, spFold_list L csn l]
    have : (spStep L csn acc t).1 = acc.1 ++ if (¬ ((txL L t).state = 3 ∨ ((txL L t).state = 2 ∧ (txL L t).csn < csn)) ∧ ¬ ((txL L t).reads = true ∧ (txL L t).snap < csn) ∧ (txL L t).state = 1) then [t] else [] := by
      unfold spStep
      by_cases h1 : (txL L t).state = 3 ∨ ((txL L t).state = 2 ∧ (txL L t).csn < csn)
      · rw [if_pos h1, if_neg (fun g => g.1 h1), List.append_nil]
      · rw [if_neg h1]
        by_cases h2 : (txL L t).reads = true ∧ (txL L t).snap < csn
        · rw [if_pos h2, if_neg (fun g => g.2.1 h2), List.append_nil]
        · rw [if_neg h2]
          by_cases h3 : (txL L t).state = 1
          · rw [if_pos h3, if_pos ⟨h1, h2, h3⟩]
          · rw [if_neg h3, if_neg (fun g => h3 g.2.2), List.append_nil]
    rw [this, List.filter_cons, List.append_assoc]
    congr 1
    by_cases hc : ¬ ((txL L t).state = 3 ∨ ((txL L t).state = 2 ∧ (txL L t).csn < csn)) ∧ ¬ ((txL L t).reads = true ∧ (txL L t).snap < csn) ∧ (txL L t).state = 1
    · rw [if_pos hc, if_pos (decide_eq_true hc)]
      rfl
    · rw [if_neg hc, if_neg (by rw [decide_eq_false hc]; decide)]
      rfl
theorem end_mem {x y : Int} (h : y ∈ endR M x 1) : (y, x) ∈ M.m := by
  unfold endR at h
  obtain ⟨⟨a, b⟩, h1, rfl⟩ := List.mem_map.1 h
  obtain ⟨h2, h3⟩ := List.mem_filter.1 h1
  simp [endF] at h3
  subst h3
  simpa [endF] using h2
theorem end_mem0 {x y : Int} (h : y ∈ endR M x 0) : (x, y) ∈ M.m := by
  unfold endR at h
  obtain ⟨⟨a, b⟩, h1, rfl⟩ := List.mem_map.1 h
  obtain ⟨h2, h3⟩ := List.mem_filter.1 h1
  simp [endF] at h3
  subst h3
  simpa [endF] using h2
/-- Spoilt pivots are the reference's. -/
theorem spoilt_eq (hr : Rel E M) (hn : E.m.Nodup) (hk : LOk n L) (hb : BI L E) (p : Int) : spoiltR L M p = spoiltE L E p := by
  obtain ⟨hin, hio⟩ := end_in hr hn p
  obtain ⟨hout, hoo⟩ := end_out hr hn p
  obtain ⟨f1, f2, f3⟩ := outFold L M p (endR M p 0) ([], false) (by simp [OrdC])
  have hstO : ∀ t ∈ endR M p 0, (txL L p).state ≠ 3 ∧ (txL L t).state ≠ 3 := fun t ht => by
    have := (beside_iff.1 (hb _ (hr.mem.1 (end_mem0 ht)))).1
    exact ⟨this.2.2.2.1, this.2.2.2.2⟩
  have hstI : ∀ t ∈ endR M p 1, (txL L t).state ≠ 3 := fun t ht => (beside_iff.1 (hb _ (hr.mem.1 (end_mem ht)))).1.2.2.2.1
  have hold := hr.old p
  obtain ⟨g1, g2⟩ := first_fold hk p (outE E p) 0
  have hfe : (outE E p).foldl (stepF L p) 0 = firstE L E p := rfl
  rw [hfe] at g2
  rw [← hout] at g2
  have none : (∀ t3 ∈ endR M p 0, ¬ t3Ok L p t3) → spoiltR L M p = ([], false) := by
    intro hno
    unfold spoiltR
    refine Prod.ext ?_ ?_
    · refine List.eq_nil_iff_forall_not_mem.2 fun x hx => ?_
      rcases (f3 x).1 hx with h | ⟨t3, ht, hc, _⟩
      · cases h
      · exact hno t3 ht hc
    · simp only
      rw [← Bool.not_eq_true, f2]
      rintro (h | ⟨t3, ht, hc, _⟩)
      · cases h
      · exact hno t3 ht hc
  unfold spoiltE
  by_cases h3 : (txL L p).state = 3
  · rw [if_pos h3]
    exact none fun t ht _ => (hstO t ht).1 h3
  rw [if_neg h3]
  by_cases h0 : firstE L E p = 0
  · rw [if_pos h0]
    exact none fun t ht hc => (g2 t ht hc).1 h0
  rw [if_neg h0]
  rcases firstE_pos (E := E) hk p with h | ⟨h1, t3, ht3, hc3, hs3, hp3⟩
  · exact absurd h h0
  rw [← hout] at ht3
  have hok3 : t3Ok L p t3 := by
    refine ⟨hs3, fun g => ?_⟩
    have := (csn_state hk p).2 g.1
    rcases hp3 with q | q
    · exact this q
    · omega
  generalize firstE L E p = c at *
  rw [← hin]
  have hskip : ∀ t t', t3Ok L p t → t ∈ endR M p 0 → ¬ skipB L (txL L t).csn t' → ¬ skipB L c t' := by
    intro t t' hc ht hs hs2
    have := (g2 t ht hc).2
    refine hs ?_
    unfold skipB at hs2 ⊢
    rcases hs2 with ⟨q1, q2⟩ | ⟨q1, q2⟩
    · exact Or.inl ⟨q1, by omega⟩
    · exact Or.inr ⟨q1, by omega⟩
  unfold spoiltR
  have hcond : ∀ t ∈ endR M p 1, (¬ ((txL L t).state = 3 ∨ ((txL L t).state = 2 ∧ (txL L t).csn < c)) ∧ ¬ ((txL L t).reads = true ∧ (txL L t).snap < c)) ↔ ¬ skipB L c t := by
    intro t ht
    have := hstI t ht
    unfold skipB
    constructor
    · rintro ⟨a1, a2⟩ (q | q)
      · exact a1 (Or.inr q)
      · exact a2 q
    · intro h
      exact ⟨fun q => q.elim this fun q => h (Or.inl q), fun q => h (Or.inr q)⟩
  refine Prod.ext ?_ ?_
  · rw [spFold_list, List.nil_append]
    refine ordC_ext cmp3I f1 (hio.sublist List.filter_sublist) fun x => ?_
    rw [f3, List.mem_filter]
    simp only [List.not_mem_nil, false_or, decide_eq_true_eq]
    constructor
    · rintro ⟨t, ht, hc, hx, hs, hk'⟩
      have := (hcond x hx).2 (hskip t x hc ht hk')
      exact ⟨hx, this.1, this.2, hs⟩
    · rintro ⟨hx, q1, q2, q3⟩
      refine ⟨t3, ht3, hok3, hx, q3, ?_⟩
      rw [hc3]
      exact (hcond x hx).1 ⟨q1, q2⟩
  · rw [Bool.eq_iff_iff, f2]
    constructor
    · rintro (h | ⟨t, ht, hc, h⟩)
      · cases h
      · refine spFold_true L c _ _ ?_
        rcases h with ⟨q1, q2⟩ | ⟨u, hu, hs⟩
        · refine Or.inl ?_
          have := (g2 t ht hc).2
          simp only [decide_eq_true_eq]
          omega
        · exact Or.inr ⟨u, hu, (hcond u hu).2 (hskip t u hc ht hs)⟩
    · intro h
      refine Or.inr ⟨t3, ht3, hok3, ?_⟩
      rcases spFold_ok L c _ _ h with h | ⟨u, hu, q1, q2⟩
      · refine Or.inl ?_
        unfold oldB
        simp only [decide_eq_true_eq] at h
        omega
      · refine Or.inr ⟨u, hu, ?_⟩
        rw [hc3]
        exact (hcond u hu).1 ⟨q1, q2⟩
theorem ahInFold (L : LM) (t3 p : Int) : ∀ (l : List Int) (out : List Int), OrdC cmpI out → OrdC cmpI (l.foldl (ahIn L t3 p) out) ∧ ∀ x, x ∈ l.foldl (ahIn L t3 p) out ↔ x ∈ out ∨ (x = p ∧ l.any (condA L t3) = true)
  | [], out, h => ⟨h, fun x => by simp⟩
  | t :: l, out, h => by
    have hs : OrdC cmpI (ahIn L t3 p out t) ∧ ∀ x, x ∈ ahIn L t3 p out t ↔ x ∈ out ∨ (x = p ∧ condA L t3 t = true) := by
      unfold ahIn
      by_cases hc : condA L t3 t = true
      · rw [if_pos hc]
        refine ⟨putI_ord h p, fun x => ?_⟩
        rw [putI_mem]
        simp only [hc, and_true]
        exact Or.comm
      · rw [if_neg hc]
        exact ⟨h, fun x => ⟨Or.inl, fun g => g.elim id fun g => absurd g.2 hc⟩⟩
    obtain ⟨i1, i2⟩ := ahInFold L t3 p l _ hs.1
    rw [List.foldl_cons]
    refine ⟨i1, fun x => ?_⟩
    rw [i2, hs.2, List.any_cons, Bool.or_eq_true]
    constructor
    · rintro ((g | g) | g)
      · exact Or.inl g
      · exact Or.inr ⟨g.1, Or.inl g.2⟩
      · exact Or.inr ⟨g.1, Or.inr g.2⟩
    · rintro (g | ⟨g1, g2 | g2⟩)
      · exact Or.inl (Or.inl g)
      · exact Or.inl (Or.inr ⟨g1, g2⟩)
      · exact Or.inr ⟨g1, g2⟩
theorem ahFold (L : LM) (M : EM) (t3 : Int) : ∀ (l : List Int) (out : List Int), OrdC cmpI out → OrdC cmpI (l.foldl (ahStep L M t3) out) ∧ ∀ x, x ∈ l.foldl (ahStep L M t3) out ↔ x ∈ out ∨ (x ∈ l ∧ (txL L x).state = 1 ∧ (endR M x 1).any (condA L t3) = true)
  | [], out, h => ⟨h, fun x => by simp⟩
  | p :: l, out, h => by
    have hs : OrdC cmpI (ahStep L M t3 out p) ∧ ∀ x, x ∈ ahStep L M t3 out p ↔ x ∈ out ∨ (x = p ∧ (txL L x).state = 1 ∧ (endR M x 1).any (condA L t3) = true) := by
      unfold ahStep
      by_cases hc : (txL L p).state = 1
      · rw [if_pos hc]
        obtain ⟨i1, i2⟩ := ahInFold L t3 p (endR M p 1) out h
        refine ⟨i1, fun x => ?_⟩
        rw [i2]
        constructor
        · rintro (g | ⟨rfl, g⟩)
          · exact Or.inl g
          · exact Or.inr ⟨rfl, hc, g⟩
        · rintro (g | ⟨rfl, _, g⟩)
          · exact Or.inl g
          · exact Or.inr ⟨rfl, g⟩
      · rw [if_neg hc]
        refine ⟨h, fun x => ⟨Or.inl, fun g => g.elim id ?_⟩⟩
        rintro ⟨rfl, g, _⟩
        exact absurd g hc
    obtain ⟨i1, i2⟩ := ahFold L M t3 l _ hs.1
    rw [List.foldl_cons]
    refine ⟨i1, fun x => ?_⟩
    rw [i2, hs.2]
    constructor
    · rintro ((g | ⟨g1, g2⟩) | ⟨g1, g2⟩)
      · exact Or.inl g
      · exact Or.inr ⟨by simp [g1], g2⟩
      · exact Or.inr ⟨by simp [g1], g2⟩
    · rintro (g | ⟨g1, g2⟩)
      · exact Or.inl (Or.inl g)
      · rcases List.mem_cons.1 g1 with e | g1
        · exact Or.inl (Or.inr ⟨e, g2⟩)
        · exact Or.inr ⟨g1, g2⟩
theorem ahead_eq (hr : Rel E M) (hn : E.m.Nodup) (t3 : Int) : aheadR L M t3 = aheadE L E t3 := by
  obtain ⟨hin, hio⟩ := end_in hr hn t3
  obtain ⟨f1, f2⟩ := ahFold L M t3 (endR M t3 1) [] (by simp [OrdC])
  unfold aheadR aheadE
  rw [← hin]
  refine ordC_ext cmp3I f1 (hio.sublist List.filter_sublist) fun x => ?_
  rw [f2, List.mem_filter]
  simp only [List.not_mem_nil, false_or, Bool.and_eq_true, decide_eq_true_eq]
  have hc : ∀ t, condA L t3 t = aheadB L t3 t := fun t => by unfold condA aheadB; rw [Bool.or_comm]
  have hcf : condA L t3 = aheadB L t3 := funext hc
  rw [(end_in hr hn x).1, hcf]
end
end Go.Lift

namespace Go.Lift
open Go Go.Proofs
set_option maxRecDepth 100000
def GQ (h0 q rb : Nat) (sl so s08 : Sl) : Nat → Prop := fun b => b < h0 ∨ b = q ∨ b = rb ∨ b ∈ sBlk sl ∨ b ∈ sBlk so ∨ b ∈ sBlk s08
/-- The edges and the reference's, beside each other. -/
structure PlS (h0 cb e q rb : Nat) (L L2 : LM) (E M : EM) (sl so s08 : Sl) (g : Hp) : Prop where
  ev : EvS (GQ h0 q rb sl so s08) g cb e L E
  qa : QAt h0 g q rb M sl so
  ra : RAt h0 g rb L2 s08
  lo : h0 ≤ q ∧ h0 ≤ rb ∧ h0 ≤ g.size
def playL (L : LM) (k a : Int) (r : Bool) : LM := if k = 0 then beginL L r else if k = 1 then commitL L a else if k = 2 then abortL L a else L
section
variable {h0 cb e q rb : Nat} {L L2 L' : LM} {E M E' : EM} {sl so s08 : Sl} {g g' : Hp} {Q : List Value → Hp → Prop} {G G' : Nat → Prop}
theorem EvS.ref {S : List Nat} (hE : EvS G g cb e L E) (he : Ext S g g') (hS : ∀ b ∈ S, G b) (hG' : ∀ b, G' b → (G b ∨ g.size ≤ b) ∧ b < g'.size) : EvS G' g' cb e L E := by
  obtain ⟨h1, h2, ⟨mb, ob, a1, a2, a3, a4, a5, a6⟩, h4⟩ := hE
  have n1 : ∀ b, b < g.size → ¬ G b → ¬ G' b := fun b hb hg hg' => by
    rcases (hG' b hg').1 with k | k
    · exact hg k
    · omega
  exact ⟨fun b hb => (hG' b hb).2, h2.ext he fun hm => h4.1 (hS _ hm), ⟨mb, ob, he.get a1 fun hm => h4.2 (hS _ hm), a2.ext he fun hm => a5 (hS _ hm), a3.ext he fun hm => a6 (hS _ hm), a4, n1 _ a2.lt a5, n1 _ a3.lt a6⟩, n1 _ h2.lt h4.1, n1 _ (blk_lt a1) h4.2⟩
theorem PlS.ne (hP : PlS h0 cb e q rb L L2 E M sl so s08 g) : q ≠ rb ∧ q ∉ sBlk s08 ∧ rb ∉ sBlk sl ∧ rb ∉ sBlk so ∧ (∀ b ∈ sBlk sl, b ∉ sBlk s08) ∧ (∀ b ∈ sBlk so, b ∉ sBlk s08) := by
  have c1 := hP.qa.blk
  have c2 := hP.ra.blk
  refine ⟨fun hh => ?_, fun hm => hP.ra.own.other (T' := T_liveryref14_Edges) (by decide) q hm _ _ c1, fun hm => hP.qa.l.other (T' := T_liveryref08_Log) (by decide) rb hm _ _ c2, fun hm => hP.qa.o.other (T' := T_liveryref08_Log) (by decide) rb hm _ _ c2, fun b h1 h2 => ?_, fun b h1 h2 => ?_⟩
  · rw [hh] at c1
    unfold Blk at c1 c2
    rw [c1] at c2
    simp only [Option.some.injEq, Obj.cells.injEq] at c2
    exact absurd c2.2.1 (by decide)
  · obtain ⟨a, ha, hab⟩ := mem_sBlk.1 h2
    obtain ⟨b', c', w1, _, w2, _⟩ := hP.ra.own.2.2 a ha
    rw [w1] at hab
    simp only at hab
    rw [hab] at w2
    exact hP.qa.l.other (T' := T_liveryref08_Tx) (by decide) b h1 _ _ w2
  · obtain ⟨a, ha, hab⟩ := mem_sBlk.1 h2
    obtain ⟨b', c', w1, _, w2, _⟩ := hP.ra.own.2.2 a ha
    rw [w1] at hab
    simp only at hab
    rw [hab] at w2
    exact hP.qa.o.other (T' := T_liveryref08_Tx) (by decide) b h1 _ _ w2
theorem PlS.ext0 (hP : PlS h0 cb e q rb L L2 E M sl so s08 g) (he : Ext [] g g') : PlS h0 cb e q rb L L2 E M sl so s08 g' :=
  ⟨hP.ev.ext0 he, hP.qa.ext0 he, hP.ra.ext0 he, by have := hP.lo; have := he.sz; omega⟩
/-- What the edges' own functions change leaves the reference's alone. -/
theorem PlS.impl (hP : PlS h0 cb e q rb L L2 E M sl so s08 g) (hE : EvS (GQ h0 q rb sl so s08) g' cb e L' E') (hk : KG (GQ h0 q rb sl so s08) g g') : PlS h0 cb e q rb L' L2 E' M sl so s08 g' := by
  have own : ∀ {α : Type} {T : TypeId} {sz : Nat} {enc : α → List Value} {s : Sl} {xs : List α}, Own T sz enc h0 g s xs → (∀ b ∈ sBlk s, GQ h0 q rb sl so s08 b) → Own T sz enc h0 g' s xs := by
    intro α T sz enc s xs ho hG
    refine ⟨ho.1, ho.2.1, fun a ha => ?_⟩
    obtain ⟨b, c, h1, h2, h3, h4⟩ := ho.2.2 a ha
    exact ⟨b, c, h1, h2, hk.get h3 (hG b (mem_sBlk.2 ⟨a, ha, by rw [h1]⟩)), h4⟩
  have hz := hk.sz
  have hlo := hP.lo
  exact ⟨hE, ⟨hk.get hP.qa.blk (Or.inr (Or.inl rfl)), own hP.qa.l fun b hb => Or.inr (Or.inr (Or.inr (Or.inl hb))), own hP.qa.o fun b hb => Or.inr (Or.inr (Or.inr (Or.inr (Or.inl hb))))⟩,
    ⟨hk.get hP.ra.blk (Or.inr (Or.inr (Or.inl rfl))), own hP.ra.own fun b hb => Or.inr (Or.inr (Or.inr (Or.inr (Or.inr hb)))), hP.ra.len, hP.ra.clk⟩, by omega⟩
theorem PlS.gq (hP : PlS h0 cb e q rb L L2 E M sl so s08 g) : ∀ b, GQ h0 q rb sl so s08 b → b < g.size := hP.ev.lt
/-- The reference's log changes. -/
theorem PlS.rlog {s' : Sl} {S : List Nat} (hP : PlS h0 cb e q rb L L2 E M sl so s08 g) (hR : RAt h0 g' rb L' s') (he : Ext S g g') (hS : ∀ b ∈ S, b = rb ∨ b ∈ sBlk s08) (hs : ∀ c ∈ sBlk s', c ∈ sBlk s08 ∨ g.size ≤ c) : PlS h0 cb e q rb L L' E M sl so s' g' ∧ KG (fun b => b < h0) g g' := by
  obtain ⟨n1, n2, n3, n4, n5, n6⟩ := hP.ne
  have hz := he.sz
  have hlo := hP.lo
  have hlt := hP.gq
  refine ⟨⟨hP.ev.ref he (fun b hb => ?_) fun b hb => ?_, hP.qa.ext he (fun hm => ?_) (fun c hc hm => ?_) (fun c hc hm => ?_), hR, by omega⟩, ⟨hz, fun b hb => he.old b (hlt b (Or.inl hb)) fun hm => ?_⟩⟩
  · rcases hS b hb with k | k
    · exact Or.inr (Or.inr (Or.inl k))
    · exact Or.inr (Or.inr (Or.inr (Or.inr (Or.inr k))))
  · have old : GQ h0 q rb sl so s08 b → (GQ h0 q rb sl so s08 b ∨ g.size ≤ b) ∧ b < g'.size := fun k => ⟨Or.inl k, by have := hlt b k; omega⟩
    rcases hb with k | k | k | k | k | k
    · exact old (Or.inl k)
    · exact old (Or.inr (Or.inl k))
    · exact old (Or.inr (Or.inr (Or.inl k)))
    · exact old (Or.inr (Or.inr (Or.inr (Or.inl k))))
    · exact old (Or.inr (Or.inr (Or.inr (Or.inr (Or.inl k)))))
    · have hb2 := (own_ltG hR.own b k).2
      rcases hs b k with k2 | k2
      · exact ⟨Or.inl (Or.inr (Or.inr (Or.inr (Or.inr (Or.inr k2))))), hb2⟩
      · exact ⟨Or.inr k2, hb2⟩
  · rcases hS _ hm with k | k
    · exact n1 k
    · exact n2 k
  · rcases hS _ hm with k | k
    · exact n3 (by rw [← k]; exact hc)
    · exact n5 c hc k
  · rcases hS _ hm with k | k
    · exact n4 (by rw [← k]; exact hc)
    · exact n6 c hc k
  · rcases hS _ hm with k | k
    · omega
    · have := (own_ltG hP.ra.own b k).1; omega
/-- The reference's edges change. -/
theorem PlS.redg {sl' so' : Sl} {M' : EM} (hP : PlS h0 cb e q rb L L2 E M sl so s08 g) (hq : QAt h0 g' q rb M' sl' so') (he : Ext [q] g g') (hs : ∀ c, c ∈ sBlk sl' ∨ c ∈ sBlk so' → (c ∈ sBlk sl ∨ c ∈ sBlk so) ∨ g.size ≤ c) : PlS h0 cb e q rb L L2 E M' sl' so' s08 g' ∧ KG (fun b => b < h0) g g' := by
  obtain ⟨n1, n2, n3, n4, n5, n6⟩ := hP.ne
  have hz := he.sz
  have hlo := hP.lo
  have hlt := hP.gq
  refine ⟨⟨hP.ev.ref he (fun b hb => by simp at hb; exact Or.inr (Or.inl hb)) fun b hb => ?_, hq, hP.ra.ext he (by simp; exact fun k => n1 k.symm) (fun c hc hm => by simp at hm; exact n2 (by rw [← hm]; exact hc)), by omega⟩, ⟨hz, fun b hb => he.old b (hlt b (Or.inl hb)) (by simp; omega)⟩⟩
  have old : GQ h0 q rb sl so s08 b → (GQ h0 q rb sl so s08 b ∨ g.size ≤ b) ∧ b < g'.size := fun k => ⟨Or.inl k, by have := hlt b k; omega⟩
  have new : b < g'.size → (b ∈ sBlk sl' ∨ b ∈ sBlk so') → (GQ h0 q rb sl so s08 b ∨ g.size ≤ b) ∧ b < g'.size := fun hb2 k => by
    rcases hs b k with (k2 | k2) | k2
    · exact ⟨Or.inl (Or.inr (Or.inr (Or.inr (Or.inl k2)))), hb2⟩
    · exact ⟨Or.inl (Or.inr (Or.inr (Or.inr (Or.inr (Or.inl k2))))), hb2⟩
    · exact ⟨Or.inr k2, hb2⟩
  rcases hb with k | k | k | k | k | k
  · exact old (Or.inl k)
  · exact old (Or.inr (Or.inl k))
  · exact old (Or.inr (Or.inr (Or.inl k)))
  · exact new (own_ltG hq.l b k).2 (Or.inl k)
  · exact new (own_ltG hq.o b k).2 (Or.inr k)
  · exact old (Or.inr (Or.inr (Or.inr (Or.inr (Or.inr k)))))
theorem PlS.lowKG (hP : PlS h0 cb e q rb L L2 E M sl so s08 g) (hk : KG (GQ h0 q rb sl so s08) g g') : KG (fun b => b < h0) g g' := hk.anti fun b hb => Or.inl hb
theorem gq_new {s' : Sl} {N : Nat} (hs : ∀ c ∈ sBlk s', c ∈ sBlk s08 ∨ N ≤ c) {b : Nat} (hb : GQ h0 q rb sl so s' b) : GQ h0 q rb sl so s08 b ∨ N ≤ b := by
  rcases hb with k | k | k | k | k | k
  · exact Or.inl (Or.inl k)
  · exact Or.inl (Or.inr (Or.inl k))
  · exact Or.inl (Or.inr (Or.inr (Or.inl k)))
  · exact Or.inl (Or.inr (Or.inr (Or.inr (Or.inl k))))
  · exact Or.inl (Or.inr (Or.inr (Or.inr (Or.inr (Or.inl k)))))
  · rcases hs b k with k | k
    · exact Or.inl (Or.inr (Or.inr (Or.inr (Or.inr (Or.inr k)))))
    · exact Or.inr k
/-- The edges, beside what else is kept, after the reference's log was changed. -/
theorem EvS.after {S : List Nat} {s' : Sl} {G2 : Nat → Prop} {g0 g1 g2 g3 : Hp} (hw : EvS (GX G2 g0 g1) g2 cb e L E) (he : Ext S g2 g3) (h01 : g0.size ≤ g1.size) (h12 : g1.size ≤ g2.size) (hS : ∀ b ∈ S, b = rb ∨ b ∈ sBlk s08) (hG2 : ∀ b, GQ h0 q rb sl so s08 b → G2 b) (hlt2 : ∀ b, G2 b → b < g0.size) (hs : ∀ c ∈ sBlk s', c ∈ sBlk s08 ∨ g2.size ≤ c) (hlt : ∀ b, GQ h0 q rb sl so s' b → b < g3.size) : EvS (fun b => GQ h0 q rb sl so s' b ∨ G2 b) g3 cb e L E := by
  refine hw.ref he (fun b hb => ?_) fun b hb => ?_
  · rcases hS b hb with k | k
    · exact Or.inl (hG2 b (Or.inr (Or.inr (Or.inl k))))
    · exact Or.inl (hG2 b (Or.inr (Or.inr (Or.inr (Or.inr (Or.inr k))))))
  · rcases hb with hb | hb
    · refine ⟨?_, hlt b hb⟩
      rcases gq_new hs hb with k | k
      · exact Or.inl (Or.inl (hG2 b k))
      · exact Or.inr k
    · exact ⟨Or.inl (Or.inl hb), by have := hlt2 b hb; have := he.sz; omega⟩
/-- One step of both logs. -/
theorem Play_s {n : Nat} {G2 : Nat → Prop} (hE2 : EvS G2 g cb e L E) (hG2 : ∀ b, GQ h0 q rb sl so s08 b → G2 b) (hP : PlS h0 cb e q rb L L E M sl so s08 g) (hk : LOk n L) (hn : n < 2 ^ 39) (k a : Int) (r : Bool) (hQ : ∀ g' s', PlS h0 cb e q rb (playL L k a r) (playL L k a r) E M sl so s' g' → KG (fun b => b < h0) g g' → (∀ c, G2 c → c ≠ rb → c ∉ sBlk s08 → g'[c]? = g[c]?) → EvS (fun b => GQ h0 q rb sl so s' b ∨ G2 b) g' cb e (playL L k a r) E → Q [.bool true] g') : S_liverylaw08_Play (some ⟨cb, 0, none⟩) (some ⟨rb, 0, none⟩) k a r g Q := by
  refine O_liverylaw08_Play _ _ _ _ _ ?_
  unfold F_liverylaw08_Play
  refine newI fun g1 s1 b1 e1 => ?_
  have hP1 := hP.ext0 e1
  have kg1 := kg_ext0 (G := fun b => b < h0) e1 fun b hb => hP.gq b (Or.inl hb)
  have hEx := hE2.more e1
  have hgl : ∀ b, GQ h0 q rb sl so s08 b → GX G2 g g1 b := fun b hb => Or.inl (hG2 b hb)
  have hgc : GX G2 g g1 g.size := Or.inr ⟨Nat.le_refl _, by omega⟩
  have kc1 : ∀ c, G2 c → g1[c]? = g[c]? := fun c hc => e1.old c (hE2.lt c hc) (by simp)
  have hclk := hk.clk
  have hst : ∀ x, hasL L x ↔ (txL L x).state ≠ 0 := fun x => has_state hk
  refine ⟨k, by rw [addr_mk, rd_blk b1]; rfl, ?_⟩
  by_cases c0 : k = 0
  · rw [if_pos (by simpa using c0)]
    have hp : playL L k a r = beginL L r := by unfold playL; rw [if_pos c0]
    rw [hp] at hQ
    refine ⟨r, by rw [addr_mk, rd_blk b1]; rfl, ?_⟩
    refine Begin_s hEx.cl r fun g2 hC2 e2 _ => ⟨_, _, rfl, ?_⟩
    obtain ⟨w1, w2⟩ := hEx.log hC2 e2
    have hP2 := hP1.impl (w1.anti hgl) (w2.anti hgl)
    refine ⟨r, by rw [addr_mk, rd_blk (w2.get b1 hgc)]; rfl, ?_⟩
    refine BeginR_s hP2.ra r hP2.lo.2.2 fun g3 s3 hR3 e3 hs3 => ⟨_, _, rfl, ?_⟩
    obtain ⟨hP3, k3⟩ := hP2.rlog hR3 e3 (fun b hb => by simp at hb; exact Or.inl hb) hs3
    intro J hJ
    rw [if_pos (by simp)]
    have hb2 : ∀ x : Int, (x == x) = true := fun x => by simp
    rw [hb2]
    exact hJ _ _ (hQ g3 s3 hP3 ((kg1.trans (hP1.lowKG (w2.anti hgl))).trans k3) (fun c hc h1 h2 => by
      have hlt := hE2.lt c hc
      have := e1.sz
      have := w2.sz
      rw [e3.old c (by omega) (by simp; exact h1), w2.old c (Or.inl hc), kc1 c hc]) (w1.after e3 e1.sz w2.sz (fun b hb => by simp at hb; exact Or.inl hb) hG2 hE2.lt hs3 hP3.gq))
  rw [if_neg (by simpa using c0)]
  by_cases c1 : k = 1
  · rw [if_pos (by simpa using c1)]
    have hp : playL L k a r = commitL L a := by unfold playL; rw [if_neg c0, if_pos c1]
    rw [hp] at hQ
    refine ⟨a, by rw [addr_mk, rd_blk b1]; rfl, ?_⟩
    refine Commit_s hEx.cl a (by omega) fun g2 hC2 e2 _ => ⟨_, _, rfl, ?_⟩
    obtain ⟨w1, w2⟩ := hEx.log hC2 e2
    have hP2 := hP1.impl (w1.anti hgl) (w2.anti hgl)
    refine ⟨a, by rw [addr_mk, rd_blk (w2.get b1 hgc)]; rfl, ?_⟩
    refine CommitR_s hP2.ra a (by omega) hst fun g3 hR3 e3 => ⟨_, _, rfl, ?_⟩
    obtain ⟨hP3, k3⟩ := hP2.rlog hR3 e3 (fun b hb => by simpa using hb) fun c hc => Or.inl hc
    intro J hJ
    rw [if_pos (by simp)]
    have hb2 : ∀ x : Int, (x == x) = true := fun x => by simp
    rw [hb2]
    exact hJ _ _ (hQ g3 s08 hP3 ((kg1.trans (hP1.lowKG (w2.anti hgl))).trans k3) (fun c hc h1 h2 => by
      have hlt := hE2.lt c hc
      have := e1.sz
      have := w2.sz
      rw [e3.old c (by omega) (by simp; exact ⟨h1, h2⟩), w2.old c (Or.inl hc), kc1 c hc]) (w1.after e3 e1.sz w2.sz (fun b hb => by simpa using hb) hG2 hE2.lt (fun c hc => Or.inl hc) hP3.gq))
  rw [if_neg (by simpa using c1)]
  by_cases c2 : k = 2
  · rw [if_pos (by simpa using c2)]
    have hp : playL L k a r = abortL L a := by unfold playL; rw [if_neg c0, if_neg c1, if_pos c2]
    rw [hp] at hQ
    refine ⟨a, by rw [addr_mk, rd_blk b1]; rfl, a, by rw [addr_mk, rd_blk b1]; rfl, ?_⟩
    refine Abort_s hEx.cl a fun g2 hC2 e2 _ => ⟨_, rfl, ?_⟩
    obtain ⟨w1, w2⟩ := hEx.log hC2 e2
    have hP2 := hP1.impl (w1.anti hgl) (w2.anti hgl)
    refine ⟨by rw [addr_mk, rd_blk (w2.get b1 hgc)]; rfl, ?_⟩
    refine AbortR_s hP2.ra a hst fun g3 hR3 e3 => ⟨_, rfl, ?_⟩
    obtain ⟨hP3, k3⟩ := hP2.rlog hR3 e3 (fun b hb => by simpa using hb) fun c hc => Or.inl hc
    have hb2 : ∀ x : Int, (x == x) = true := fun x => by simp
    rw [hb2]
    exact hQ g3 s08 hP3 ((kg1.trans (hP1.lowKG (w2.anti hgl))).trans k3) (fun c hc h1 h2 => by
      have hlt := hE2.lt c hc
      have := e1.sz
      have := w2.sz
      rw [e3.old c (by omega) (by simp; exact ⟨h1, h2⟩), w2.old c (Or.inl hc), kc1 c hc]) (w1.after e3 e1.sz w2.sz (fun b hb => by simpa using hb) hG2 hE2.lt (fun c hc => Or.inl hc) hP3.gq)
  rw [if_neg (by simpa using c2)]
  have hp : playL L k a r = L := by unfold playL; rw [if_neg c0, if_neg c1, if_neg c2]
  rw [hp] at hQ
  exact hQ g1 s08 hP1 kg1 (fun c hc _ _ => kc1 c hc) (hEx.anti fun b hb => hb.elim (hgl b) Or.inl)
end
end Go.Lift

namespace Go.Lift
open Go Go.Proofs
set_option maxRecDepth 100000
/-- What both keep to, after so many steps. -/
structure POk (n : Nat) (L : LM) (E M : EM) : Prop where
  lk : LOk n L
  ek : EOk n E
  bi : BI L E
  rl : Rel E M
  ol : M.old.length ≤ n
theorem POk.ml {n : Nat} {L : LM} {E M : EM} (h : POk n L E M) : M.m.length ≤ n := by
  rw [h.rl.m, sortC_len]
  exact h.ek.len
section
variable {h0 cb e q rb n : Nat} {L : LM} {E M : EM} {sl so s08 : Sl} {g : Hp} {Q : List Value → Hp → Prop}
theorem eqSelf (x : Int) : (x == x) = true := by simp
theorem Same_s (hP : PlS h0 cb e q rb L L E M sl so s08 g) (hok : POk n L E M) (hn : n ≤ 2 ^ 16) (hQ : ∀ g', Ext [] g g' → Q [.bool true] g') : S_liverylaw14_Same (some ⟨e, 0, none⟩) (some ⟨q, 0, none⟩) g Q := by
  refine O_liverylaw14_Same _ _ ?_
  unfold F_liverylaw14_Same
  have hek := hok.ek
  have hml := hok.ml
  have hol := hok.ol
  have hmm := hok.rl.m
  refine All_s hP.ev hek (by omega) fun g1 l3 e1 ho3 => ⟨l3, rfl, ?_⟩
  have hP1 := hP.ext0 e1
  have hn3 := ho3.1
  have hnl := hP1.qa.l.1
  have hall : allE E = M.m := hmm.symm
  rw [hall] at ho3 hn3
  simp only [nilW_some]
  refine ⟨sl, hP1.qa.rd.2.1, ?_⟩
  rw [if_neg (by simp; omega)]
  intro X hX
  refine loopI M.m.length (fun _ g2 => Ext [] g1 g2) ?_ ?_ g1 (Ext.refl _ _)
  · intro g2 e2
    refine hX _ _ ?_
    rw [if_neg (by simp; omega)]
    intro Y hY
    have hP2 := hP1.ext0 e2
    have hlen := hP.ra.len
    have key : ∀ d (i : Nat) g3, d + i = L.l.length + 2 → Ext [] g2 g3 → Y [.int .i64 (i : Int)] g3 := by
      intro d
      induction d with
      | zero =>
        intro i g3 hi e3
        have hP3 := hP2.ext0 e3
        have hr := hP3.ra.own.1
        refine hY _ _ ?_
        refine ⟨_, hP3.qa.rd.1, ?_⟩
        rw [nilW_some]
        refine ⟨s08, by rw [addr_mk, rd_blk hP3.ra.blk]; rfl, ?_⟩
        rw [wrap64 (by omega) (by omega), if_neg (by simp; omega)]
        exact hQ g3 ((e1.trans0 e2).trans0 e3)
      | succ d ih =>
        intro i g3 hi e3
        have hP3 := hP2.ext0 e3
        have hr := hP3.ra.own.1
        refine hY _ _ ?_
        refine ⟨_, hP3.qa.rd.1, ?_⟩
        rw [nilW_some]
        refine ⟨s08, by rw [addr_mk, rd_blk hP3.ra.blk]; rfl, ?_⟩
        rw [wrap64 (x := (s08.n : Int) + 1) (by omega) (by omega), if_pos (by simp; omega)]
        obtain ⟨x, hx⟩ : ∃ x : Int, x = (i : Int) := ⟨_, rfl⟩
        rw [← hx]
        have hbn := fun y => inE_len hek y
        refine Spoilt_s hP3.ev hek (by omega) x fun g4 s4 e4 ho4 => ⟨s4, _, rfl, ?_⟩
        have hP4 := hP3.ext0 e4
        refine SpoiltR_s hP4.qa hP4.ra x ⟨by omega, by omega⟩ fun g5 s5 e5 ho5 => ⟨s5, _, rfl, ?_⟩
        have hP5 := hP4.ext0 e5
        have hsp := spoilt_eq hok.rl hek.nd hok.lk hok.bi x
        rw [hsp] at ho5
        rw [hsp]
        refine newI fun g6 z6 b6 e6 => ?_
        refine st_blk b6 (by simp) fun g7 z7 b7 e7 => ?_
        have e57 : Ext [] g5 g7 := e6.trans e7 fun b hb hlt => by simp at hb; omega
        have hP7 := hP5.ext0 e57
        intro J hJ
        have fin : ∀ g8, Ext [] g7 g8 → J [.bool false] g8 := by
          intro g8 e8
          refine hJ _ _ ?_
          rw [if_neg (by decide), hx, wrap64 (by omega) (by omega)]
          exact ih (i + 1) g8 (by omega) ((((e3.trans0 e4).trans0 e5).trans0 e57).trans0 e8)
        refine ⟨(spoiltE L E x).2, by rw [addr_mk, rd_blk b7]; rfl, ?_⟩
        have hbe : ((spoiltE L E x).2 == (spoiltE L E x).2) = true := by simp
        rw [hbe, if_neg (by decide)]
        refine ⟨s5, by rw [addr_mk, rd_blk b7]; rfl, ?_⟩
        have o5 := ho5.ext0 e57
        have o4 := (ho4.ext0 e5).ext0 e57
        have hs5 := o5.1
        have hsl : (spoiltE L E x).1.length ≤ 2 ^ 40 := by
          unfold spoiltE
          split
          · simp
          · split
            · simp
            · have := spStep_len L (firstE L E x) (inE E x) ([], decide (oldE E x ≥ firstE L E x))
              have := (hbn x).1
              simp only [List.length_nil] at *
              omega
        refine Ints_s (xs := (spoiltE L E x).1) (ys := (spoiltE L E x).1) o4.sl.reads o5.sl.reads hsl ⟨_, rfl, ?_⟩
        rw [decide_eq_true rfl, if_neg (by decide)]
        refine In_s hP7.ev hek (by omega) x fun g8 s8 e8 ho8 => ⟨s8, rfl, ?_⟩
        have hP8 := hP7.ext0 e8
        refine InR_s hP8.qa x (by omega) fun g9 s9 e9 ho9 => ⟨s9, rfl, ?_⟩
        rw [(end_in hok.rl hek.nd x).1] at ho9
        have hP9 := hP8.ext0 e9
        refine Ints_s (xs := inE E x) (ys := inE E x) (ho8.ext0 e9).sl.reads ho9.sl.reads (by have := (hbn x).1; omega) ⟨_, rfl, ?_⟩
        rw [decide_eq_true rfl, if_neg (by decide)]
        refine Out_s hP9.ev hek (by omega) x fun g10 s10 e10 ho10 => ⟨s10, rfl, ?_⟩
        have hP10 := hP9.ext0 e10
        refine OutR_s hP10.qa x (by omega) fun g11 s11 e11 ho11 => ⟨s11, rfl, ?_⟩
        rw [(end_out hok.rl hek.nd x).1] at ho11
        have hP11 := hP10.ext0 e11
        refine Ints_s (xs := outE E x) (ys := outE E x) (ho10.ext0 e11).sl.reads ho11.sl.reads (by have := (hbn x).2; omega) ⟨_, rfl, ?_⟩
        rw [decide_eq_true rfl, if_neg (by decide)]
        refine Ahead_s hP11.ev hek (by omega) x fun g12 s12 e12 ho12 => ⟨s12, rfl, ?_⟩
        have hP12 := hP11.ext0 e12
        refine AheadR_s hP12.qa hP12.ra x (by omega) fun g13 s13 e13 ho13 => ⟨s13, rfl, ?_⟩
        rw [ahead_eq hok.rl hek.nd x] at ho13
        have hP13 := hP12.ext0 e13
        have hal : (aheadE L E x).length ≤ 2 ^ 40 := by
          unfold aheadE
          refine Nat.le_trans (List.length_filter_le _ _) ?_
          have := (hbn x).1
          omega
        refine Ints_s (xs := aheadE L E x) (ys := aheadE L E x) (ho12.ext0 e13).sl.reads ho13.sl.reads hal ⟨_, rfl, ?_⟩
        rw [decide_eq_true rfl, if_neg (by decide)]
        refine Old14_s hP13.ev x ⟨_, rfl, ?_⟩
        refine OldR_s hP13.qa x (by omega) ⟨_, rfl, ?_⟩
        have ho : (afind M.old x).getD 0 = oldE E x := hok.rl.old x
        rw [ho]
        have hne : (oldE E x != oldE E x) = false := by simp
        rw [hne]
        exact fin g13 (((((e8.trans0 e9).trans0 e10).trans0 e11).trans0 e12).trans0 e13)
    have := key (L.l.length + 2) 0 g2 (by omega) (Ext.refl _ _)
    simpa using this
  · intro i g2 hi e2 hnext
    have hP2 := hP1.ext0 e2
    refine hX _ _ ?_
    rw [if_pos (by simp; omega)]
    obtain ⟨a1, ha1, _, _, r0, r1⟩ := rdPr (ho3.ext0 e2) hi
    rw [ha1]
    simp only [nilW_some, Int.toNat_natCast]
    refine ⟨by omega, by omega, _, r0, _, r1, sl, hP2.qa.rd.2.1, ?_⟩
    obtain ⟨a2, ha2, _, _, q0, q1⟩ := rdPr hP2.qa.l hi
    rw [ha2]
    simp only [nilW_some, Int.toNat_natCast]
    refine ⟨by omega, by omega, _, q0, _, q1, ?_⟩
    rw [eqSelf, eqSelf, if_neg (by decide), wrap64 (by omega) (by omega)]
    exact hnext g2 e2
def stepP (L : LM) (E M : EM) (x : StepE) : LM × EM × EM :=
  if x.kind = 0 ∨ x.kind = 1 then (playL L x.kind x.a x.reads, E, M)
  else if x.kind = 2 then (playL L x.kind x.a x.reads, dropE E x.a, dropR M x.a)
  else if x.kind = 3 then (L, addE L E x.a x.b, addQ L M x.a x.b)
  else if x.kind = 4 then (L, oldInE L E x.a x.b, oldInR L M x.a x.b)
  else if x.kind = 5 then (L, dropE E x.a, dropR M x.a)
  else (L, E, M)
theorem POk.step (h : POk n L E M) (x : StepE) : POk (n + 1) (stepP L E M x).1 (stepP L E M x).2.1 (stepP L E M x).2.2 := by
  have hol := h.ol
  have hdl : ∀ x, (dropR M x).old.length ≤ n + 1 := fun x => Nat.le_trans (List.length_filter_le _ _) (by omega)
  unfold stepP
  by_cases c0 : x.kind = 0
  · rw [if_pos (Or.inl c0)]
    have hp : playL L x.kind x.a x.reads = beginL L x.reads := by unfold playL; rw [if_pos c0]
    rw [hp]
    exact ⟨(h.lk.begin _).up (by omega), h.ek.up (by omega), fun q hq => beside_begin _ (h.bi q hq), h.rl, by simp only; omega⟩
  by_cases c1 : x.kind = 1
  · rw [if_pos (Or.inr c1)]
    have hp : playL L x.kind x.a x.reads = commitL L x.a := by unfold playL; rw [if_neg c0, if_pos c1]
    rw [hp]
    exact ⟨h.lk.commit _, h.ek.up (by omega), fun q hq => beside_commit h.lk _ (h.bi q hq), h.rl, by simp only; omega⟩
  rw [if_neg (by rintro (g | g); exact c0 g; exact c1 g)]
  by_cases c2 : x.kind = 2
  · rw [if_pos c2]
    have hp : playL L x.kind x.a x.reads = abortL L x.a := by unfold playL; rw [if_neg c0, if_neg c1, if_pos c2]
    rw [hp]
    exact ⟨(h.lk.abort _).up (by omega), (h.ek.drop _).up (by omega), BI.drop fun q hq h1 h2 => beside_abort h1 h2 (h.bi q hq), h.rl.drop h.ek _, hdl _⟩
  rw [if_neg c2]
  by_cases c3 : x.kind = 3
  · rw [if_pos c3]
    refine ⟨h.lk.up (by omega), h.ek.add _ _, ?_, (h.rl.add h.ek.nd L _ _).1, ?_⟩
    · simp only
      unfold addE
      split
      · rename_i hh
        intro q hq
        rcases List.mem_append.1 hq with hq | hq
        · exact h.bi q hq
        · simp at hq
          rw [hq]
          exact hh.1
      · exact h.bi
    · simp only
      unfold addQ
      split
      · simp only; omega
      · omega
  rw [if_neg c3]
  by_cases c4 : x.kind = 4
  · rw [if_pos c4]
    refine ⟨h.lk.up (by omega), (h.ek.oldIn _ _).up (by omega), ?_, (h.rl.oldIn h.lk _ _).1, ?_⟩
    · simp only
      unfold oldInE
      split
      · exact h.bi
      · exact h.bi
    · simp only
      unfold oldInR
      split
      · simp only [List.length_append, List.length_singleton]
        have := List.length_filter_le (fun q : Int × Int => !decide (q.1 = x.a)) M.old
        omega
      · omega
  rw [if_neg c4]
  by_cases c5 : x.kind = 5
  · rw [if_pos c5]
    exact ⟨h.lk.up (by omega), (h.ek.drop _).up (by omega), BI.drop fun q hq _ _ => h.bi q hq, h.rl.drop h.ek _, hdl _⟩
  rw [if_neg c5]
  exact ⟨h.lk.up (by omega), h.ek.up (by omega), h.bi, h.rl, by simp only; omega⟩
end
end Go.Lift

namespace Go.Lift
open Go Go.Proofs
set_option maxRecDepth 100000
section
variable {h h' : Hp} {Q : List Value → Hp → Prop}
theorem EdgePlays_s {s : Sl} {xs : List StepE} (hs : Reads 4 encStE h s xs) (hl : xs.length ≤ 9223372036854775807) (hQ : ∀ h', Ext [] h h' → Q [.bool true] h') : F_liverylaw14_EdgePlays s h Q := by
  unfold F_liverylaw14_EdgePlays
  refine New08_s fun h1 cb hC1 e1 hcb => ⟨_, rfl, ?_⟩
  refine newI fun h2 s2 b2 e2 => ?_
  have z1 := e1.sz
  have hcl := hC1.lt
  refine New14_s (G := fun b => b < h.size ∨ b = h1.size) (fun b hb => by omega) (hC1.ext0 e2) (by omega) fun h3 e hE3 e3 => ⟨_, rfl, ?_⟩
  refine newI fun h4 s4 b4 e4 => ?_
  have e14 := (e2.trans0 e3).trans0 e4
  have e04 := e1.trans0 e14
  have z2 := e2.sz
  have z3 := e3.sz
  have hE4 : EvS (GQ h.size h3.size h1.size ⟨none, 0, 0⟩ ⟨none, 0, 0⟩ ⟨none, 0, 0⟩) h4 cb e ⟨[], 0⟩ ⟨[], []⟩ := by
    refine (hE3.more e4).anti fun b hb => ?_
    rcases hb with k | k | k | k | k | k
    · exact Or.inl (Or.inl k)
    · exact Or.inr ⟨by omega, by omega⟩
    · exact Or.inl (Or.inr k)
    · simp [sBlk] at k
    · simp [sBlk] at k
    · simp [sBlk] at k
  have hP0 : PlS h.size cb e h3.size h1.size ⟨[], 0⟩ ⟨[], 0⟩ ⟨[], []⟩ ⟨[], []⟩ ⟨none, 0, 0⟩ ⟨none, 0, 0⟩ ⟨none, 0, 0⟩ h4 :=
    ⟨hE4, ⟨b4, Own.nil _ _, Own.nil _ _⟩, ⟨(e3.trans0 e4).get b2 (by simp), Own.nil _ _, by simp, by simp⟩, by omega⟩
  have ok0 : POk 0 ⟨[], 0⟩ ⟨[], []⟩ ⟨[], []⟩ := ⟨lok_new, ⟨by simp, by simp, by simp⟩, fun q hq => (by cases hq), ⟨by unfold sortC; simp, fun x => rfl⟩, by simp⟩
  have kgx : ∀ g, KG (fun b => b < h.size) h g → Ext [] h g := fun g hk => ⟨hk.sz, fun b hb _ => hk.old b hb⟩
  have k4 := kg_ext0 (G := fun b => b < h.size) e04 fun b hb => hb
  have hn := hs.1
  intro J hJ
  rw [if_neg (by simp), if_neg (by simp)]
  refine hJ _ _ ?_
  by_cases hlong : (s.n : Int) > 100
  · rw [if_pos (by simpa using hlong)]
    intro J12 hJ12
    rw [if_pos (by simp), if_pos (by simp)]
    exact wakes14_s fun h5 e5 => ⟨_, rfl, hJ12 _ _ (hQ h5 (e04.trans0 e5))⟩
  rw [if_neg (by simpa using hlong)]
  intro X hX
  refine loopI xs.length (fun i g => ∃ L E M sl so s08, POk i L E M ∧ PlS h.size cb e h3.size h1.size L L E M sl so s08 g ∧ KG (fun b => b < h.size) h g) ?_ ?_ h4 ⟨_, _, _, _, _, _, ok0, hP0, k4⟩
  · rintro g ⟨L, E, M, sl, so, s08, hok, hP, kg⟩
    refine hX _ _ ?_
    rw [if_neg (by simp; omega)]
    exact wakes14_s fun h5 e5 => ⟨_, rfl, hQ h5 ((kgx _ kg).trans0 e5)⟩
  · rintro i g hi ⟨L, E, M, sl, so, s08, hok, hP, kg⟩ hnext
    refine hX _ _ ?_
    rw [if_pos (by simp; omega)]
    obtain ⟨a, ha, r0, r1, r2, r3⟩ := rdStE (hs.ext0 (kgx _ kg)) hi
    rw [ha]
    simp only [nilW_some]
    refine ⟨by omega, by omega, ?_⟩
    rw [Int.toNat_natCast]
    refine ⟨_, r0, _, r1, _, r2, _, r3, ?_⟩
    obtain ⟨x, hx⟩ : ∃ x, xs[i] = x := ⟨_, rfl⟩
    rw [hx]
    have hok' := hok.step x
    refine newI fun g1 s1 b1 e1' => ?_
    refine st_blk b1 (by simp) fun g2 s2' b2' e2' => ?_
    have e12 : Ext [] g g2 := e1'.trans e2' fun b hb hlt => by simp at hb; omega
    have bc : Blk g2 g.size (encStE x).toArray T_liverylaw14_Step := b2'
    have hP2 := hP.ext0 e12
    have kg2 := kg.trans (kg_ext0 e12 fun b hb => hP.gq b (Or.inl hb))
    have rr : ∀ {g' : Hp}, Blk g' g.size (encStE x).toArray T_liverylaw14_Step → ∀ k, rd g' (Addr.add (Addr.mk g.size 0 none) k) = (encStE x)[k]? := fun hb k => by rw [addr_mk, rd_blk hb, Nat.zero_add]; simp
    -- the cell is none of the two's own
    have hcq : ∀ b, GQ h.size h3.size h1.size sl so s08 b → b < g.size := hP.gq
    have hEx := hP.ev.more e12
    have hgl : ∀ b, GQ h.size h3.size h1.size sl so s08 b → GX (GQ h.size h3.size h1.size sl so s08) g g2 b := fun b hb => Or.inl hb
    have hgc : GX (GQ h.size h3.size h1.size sl so s08) g g2 g.size := Or.inr ⟨Nat.le_refl _, blk_lt bc⟩
    refine ⟨_, rr bc 0, ?_⟩
    intro J29 hJ29
    have fin : ∀ g3 sl' so' s08', PlS h.size cb e h3.size h1.size (stepP L E M x).1 (stepP L E M x).1 (stepP L E M x).2.1 (stepP L E M x).2.2 sl' so' s08' g3 → KG (fun b => b < h.size) h g3 → J29 [] g3 := by
      intro g3 sl' so' s08' hP3 k3
      refine hJ29 _ ?_
      refine Same_s hP3 hok' (by omega) fun g4 e4' => ⟨_, rfl, ?_⟩
      rw [if_neg (by decide), wrap64 (by omega) (by omega)]
      exact hnext g4 ⟨_, _, _, sl', so', s08', hok', hP3.ext0 e4', k3.trans (kg_ext0 e4' fun b hb => hP3.gq b (Or.inl hb))⟩
    have hst : ∀ x, hasL L x ↔ (txL L x).state ≠ 0 := fun x => has_state hok.lk
    have hml := hok.ml
    have hol := hok.ol
    have hord := hok.rl.ord hok.ek.nd
    have hbb : ∀ b : Bool, (!(b == b)) = false := fun b => by simp
    intro J34 hJ34
    have yes : (x.kind = 0 ∨ x.kind = 1 ∨ x.kind = 2) → J34 [.bool true] g2 := by
      intro hk
      refine hJ34 _ _ ?_
      rw [if_pos rfl]
      refine ⟨_, rr bc 0, _, rr bc 1, _, rr bc 3, ?_⟩
      have hlts := hP.gq
      refine Play_s hEx hgl hP2 hok.lk (by omega) x.kind x.a x.reads fun g3 s3 hP3 kg3 hc3 hE3 => ⟨_, rfl, ?_⟩
      have bc3 : Blk g3 g.size (encStE x).toArray T_liverylaw14_Step := by
        have hrb := hlts h1.size (Or.inr (Or.inr (Or.inl rfl)))
        unfold Blk
        rw [hc3 g.size hgc (by omega) (fun hm => by have := hlts _ (Or.inr (Or.inr (Or.inr (Or.inr (Or.inr hm))))); omega)]
        exact bc
      rw [if_neg (by decide)]
      refine ⟨_, rr bc3 0, ?_⟩
      unfold stepP at fin
      by_cases c2 : x.kind = 2
      · rw [if_pos (by simpa using c2)]
        rw [if_neg (by omega), if_pos c2] at fin
        have hz3 := kg3.sz
        have hz12 := e12.sz
        -- the cell, once more, beside the edges
        have hE3c : EvS (fun b => GQ h.size h3.size h1.size sl so s3 b ∨ b = g.size) g3 cb e (playL L x.kind x.a x.reads) E := hE3.anti fun b hb => hb.elim Or.inl fun k => Or.inr (by rw [k]; exact hgc)
        refine ⟨_, rr bc3 1, ?_⟩
        refine Drop14_s hE3c hok.ek x.a fun g4 w1 w2 => ⟨rfl, ?_⟩
        have hP4 := hP3.impl (w1.anti fun b hb => Or.inl hb) (w2.anti fun b hb => Or.inl hb)
        have bc4 := w2.get bc3 (Or.inr rfl)
        refine ⟨_, rr bc4 1, ?_⟩
        refine DropR_s hP4.qa x.a ⟨by omega, by omega⟩ hP4.lo.2.2 fun g5 sl' so' hq5 e5' hs5 => ⟨rfl, ?_⟩
        obtain ⟨hP5, kg5⟩ := hP4.redg hq5 e5' fun c hc => Or.inr (hs5 c hc)
        exact fin g5 _ _ _ hP5 (((kg2.trans kg3).trans (hP3.lowKG (w2.anti fun b hb => Or.inl hb))).trans kg5)
      · rw [if_neg (by simpa using c2)]
        rw [if_pos (by omega)] at fin
        exact fin g3 _ _ _ hP3 (kg2.trans kg3)
    have no : ¬ (x.kind = 0 ∨ x.kind = 1 ∨ x.kind = 2) → J34 [.bool false] g2 := by
      intro hk
      have k0 : ¬ (x.kind = 0 ∨ x.kind = 1) := fun g => hk (g.elim Or.inl fun g => Or.inr (Or.inl g))
      have k2 : x.kind ≠ 2 := fun g => hk (Or.inr (Or.inr g))
      refine hJ34 _ _ ?_
      rw [if_neg (by decide)]
      unfold stepP at fin
      rw [if_neg k0, if_neg k2] at fin
      by_cases c3 : x.kind = 3
      · rw [if_pos (by simpa using c3)]
        rw [if_pos c3] at fin
        refine ⟨_, rr bc 1, _, rr bc 2, _, rr bc 1, _, rr bc 2, ?_⟩
        refine Add_s hEx x.a x.b fun g3 w1 w2 => ⟨_, rfl, ?_⟩
        have hP3 := hP2.impl (w1.anti hgl) (w2.anti hgl)
        have bc3 := w2.get bc hgc
        refine ⟨rr bc3 2, rr bc3 1, ?_⟩
        refine AddR_s hP3.qa hP3.ra hst hord x.a x.b (by omega) hP3.lo.2.2 fun g4 sl' hq4 e4' hs4 => ⟨_, rfl, ?_⟩
        rw [(hok.rl.add hok.ek.nd L x.a x.b).2, hbb, if_neg (by decide)]
        obtain ⟨hP4, kg4⟩ := hP3.redg hq4 e4' fun c hc => by
          rcases hc with hc | hc
          · rcases hs4 c hc with k | k
            · exact Or.inl (Or.inl k)
            · exact Or.inr k
          · exact Or.inl (Or.inr hc)
        exact fin g4 _ _ _ hP4 ((kg2.trans (hP2.lowKG (w2.anti hgl))).trans kg4)
      rw [if_neg (by simpa using c3)]
      rw [if_neg c3] at fin
      by_cases c4 : x.kind = 4
      · rw [if_pos (by simpa using c4)]
        rw [if_pos c4] at fin
        refine ⟨_, rr bc 1, _, rr bc 2, _, rr bc 1, _, rr bc 2, ?_⟩
        refine OldIn_s hEx x.a x.b fun g3 w1 w2 => ⟨_, rfl, ?_⟩
        have hP3 := hP2.impl (w1.anti hgl) (w2.anti hgl)
        have bc3 := w2.get bc hgc
        refine ⟨rr bc3 2, rr bc3 1, ?_⟩
        refine OldInR_s hP3.qa hP3.ra x.a x.b (by omega) hP3.lo.2.2 fun g4 so' hq4 e4' hs4 => ⟨_, rfl, ?_⟩
        rw [(hok.rl.oldIn hok.lk x.a x.b).2, hbb, if_neg (by decide)]
        obtain ⟨hP4, kg4⟩ := hP3.redg hq4 e4' fun c hc => by
          rcases hc with hc | hc
          · exact Or.inl (Or.inl hc)
          · rcases hs4 c hc with k | k
            · exact Or.inl (Or.inr k)
            · exact Or.inr k
        exact fin g4 _ _ _ hP4 ((kg2.trans (hP2.lowKG (w2.anti hgl))).trans kg4)
      rw [if_neg (by simpa using c4)]
      rw [if_neg c4] at fin
      by_cases c5 : x.kind = 5
      · rw [if_pos (by simpa using c5)]
        rw [if_pos c5] at fin
        refine ⟨_, rr bc 1, ?_⟩
        refine Drop14_s hEx hok.ek x.a fun g3 w1 w2 => ⟨rfl, ?_⟩
        have hP3 := hP2.impl (w1.anti hgl) (w2.anti hgl)
        have bc3 := w2.get bc hgc
        refine ⟨_, rr bc3 1, ?_⟩
        refine DropR_s hP3.qa x.a ⟨by omega, by omega⟩ hP3.lo.2.2 fun g4 sl' so' hq4 e4' hs4 => ⟨rfl, ?_⟩
        obtain ⟨hP4, kg4⟩ := hP3.redg hq4 e4' fun c hc => Or.inr (hs4 c hc)
        exact fin g4 _ _ _ hP4 ((kg2.trans (hP2.lowKG (w2.anti hgl))).trans kg4)
      rw [if_neg (by simpa using c5)]
      rw [if_neg c5] at fin
      exact fin g2 _ _ _ hP2 kg2
    by_cases c0 : x.kind = 0
    · rw [if_pos (by simpa using c0)]
      have : (x.kind == 0) = true := by simpa using c0
      rw [this]
      exact yes (Or.inl c0)
    rw [if_neg (by simpa using c0)]
    by_cases c1 : x.kind = 1
    · rw [if_pos (by simpa using c1)]
      have : (x.kind == 1) = true := by simpa using c1
      rw [this]
      exact yes (Or.inr (Or.inl c1))
    rw [if_neg (by simpa using c1)]
    by_cases c2 : x.kind = 2
    · have : (x.kind == 2) = true := by simpa using c2
      rw [this]
      exact yes (Or.inr (Or.inr c2))
    · have : (x.kind == 2) = false := by simpa using c2
      rw [this]
      exact no (by rintro (k | k | k); exact c0 k; exact c1 k; exact c2 k)
end
end Go.Lift

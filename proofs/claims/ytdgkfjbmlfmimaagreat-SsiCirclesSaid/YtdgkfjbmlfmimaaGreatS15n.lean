/- Circles: what is kept of who is doomed; no circle is left. -/
import Derived.Test.YtdgkfjbmlfmimaaGreatS15m
set_option linter.unusedSimpArgs false
set_option linter.unusedVariables false
namespace Go.Lift.E14
open Go
set_option maxRecDepth 100000
/-- Steps, one behind the other. -/
inductive Way {α : Type} (R : α → α → Prop) (a : α) : α → Prop
  | one {b : α} : R a b → Way R a b
  | more {b c : α} : Way R a b → R b c → Way R a c
theorem Way.trans {α : Type} {R : α → α → Prop} {a b c : α} (h1 : Way R a b) (h2 : Way R b c) : Way R a c := by
  induction h2 with
  | one h => exact .more h1 h
  | more _ h ih => exact .more ih h
theorem Way.last {α : Type} {R : α → α → Prop} {a b : α} (h : Way R a b) : ∃ p, (p = a ∨ Way R a p) ∧ R p b := by
  cases h with
  | one h => exact ⟨a, Or.inl rfl, h⟩
  | more h1 h2 => exact ⟨_, Or.inr h1, h2⟩
theorem mem_inE {E : EM} {a x : Int} : a ∈ inE E x ↔ (a, x) ∈ E.m := by
  unfold inE sortI
  rw [List.mem_mergeSort, List.mem_map]
  constructor
  · rintro ⟨⟨u, v⟩, h, rfl⟩
    obtain ⟨h1, h2⟩ := List.mem_filter.1 h
    have : v = x := of_decide_eq_true h2
    rw [← this]; exact h1
  · intro h
    exact ⟨(a, x), List.mem_filter.2 ⟨h, by simp⟩, rfl⟩
theorem mem_outE {E : EM} {a x : Int} : a ∈ outE E x ↔ (x, a) ∈ E.m := by
  unfold outE sortI
  rw [List.mem_mergeSort, List.mem_map]
  constructor
  · rintro ⟨⟨u, v⟩, h, rfl⟩
    obtain ⟨h1, h2⟩ := List.mem_filter.1 h
    have : u = x := of_decide_eq_true h2
    rw [← this]; exact h1
  · intro h
    exact ⟨(x, a), List.mem_filter.2 ⟨h, by simp⟩, rfl⟩
theorem first_le {L : LM} {E : EM} {p t3 : Int} (he : (p, t3) ∈ E.m) (h0 : (txL L t3).csn ≠ 0) (hp : (txL L p).csn = 0 ∨ (txL L t3).csn < (txL L p).csn) : firstE L E p ≠ 0 ∧ firstE L E p ≤ (txL L t3).csn := by
  have hstep : ∀ (l : List Int) (a : Int), (a ≠ 0 → l.foldl (stepF L p) a ≠ 0 ∧ l.foldl (stepF L p) a ≤ a) ∧ (t3 ∈ l → l.foldl (stepF L p) a ≠ 0 ∧ l.foldl (stepF L p) a ≤ (txL L t3).csn) := by
    intro l
    induction l with
    | nil => intro a; exact ⟨fun h => ⟨h, Int.le_refl _⟩, by simp⟩
    | cons t l ih =>
      intro a
      rw [List.foldl_cons]
      obtain ⟨i1, i2⟩ := ih (stepF L p a t)
      have h1 : a ≠ 0 → stepF L p a t ≠ 0 ∧ stepF L p a t ≤ a := by
        intro ha
        unfold stepF
        split
        · exact ⟨ha, Int.le_refl _⟩
        · rename_i hc
          have : (txL L t).csn ≠ 0 := fun e => hc (Or.inl e)
          split <;> constructor <;> omega
      refine ⟨fun ha => ?_, fun hm => ?_⟩
      · obtain ⟨k1, k2⟩ := h1 ha
        obtain ⟨k3, k4⟩ := i1 k1
        exact ⟨k3, by omega⟩
      · rcases List.mem_cons.1 hm with rfl | hm
        · have k : stepF L p a t3 ≠ 0 ∧ stepF L p a t3 ≤ (txL L t3).csn := by
            unfold stepF
            rw [if_neg (by omega)]
            split <;> constructor <;> omega
          obtain ⟨k3, k4⟩ := i1 k.1
          exact ⟨k3, by omega⟩
        · exact i2 hm
  exact (hstep (outE E p) 0).2 (mem_outE.2 he)
theorem spAll (L : LM) (csn : Int) : ∀ (l : List Int) (acc : List Int × Bool), (acc.2 = true → (l.foldl (spStep L csn) acc).2 = true) ∧ (∀ y ∈ acc.1, y ∈ (l.foldl (spStep L csn) acc).1) ∧
    ∀ t1 ∈ l, ¬ ((txL L t1).state = 3 ∨ ((txL L t1).state = 2 ∧ (txL L t1).csn < csn)) → ¬ ((txL L t1).reads = true ∧ (txL L t1).snap < csn) → (l.foldl (spStep L csn) acc).2 = true ∧ ((txL L t1).state = 1 → t1 ∈ (l.foldl (spStep L csn) acc).1) := by
  intro l
  induction l with
  | nil => intro acc; exact ⟨id, fun _ h => h, fun _ h => by cases h⟩
  | cons t l ih =>
    intro acc
    rw [List.foldl_cons]
    obtain ⟨i1, i2, i3⟩ := ih (spStep L csn acc t)
    have k1 : acc.2 = true → (spStep L csn acc t).2 = true := by
      intro h
      unfold spStep
      split
      · exact h
      · split
        · exact h
        · rfl
    have k2 : ∀ y ∈ acc.1, y ∈ (spStep L csn acc t).1 := by
      intro y h
      unfold spStep
      split
      · exact h
      · split
        · exact h
        · simp only
          split
          · exact List.mem_append_left _ h
          · exact h
    refine ⟨fun h => i1 (k1 h), fun y h => i2 y (k2 y h), fun t1 hm h1 h2 => ?_⟩
    rcases List.mem_cons.1 hm with rfl | hm
    · have e : spStep L csn acc t1 = (if (txL L t1).state = 1 then acc.1 ++ [t1] else acc.1, true) := by
        unfold spStep
        rw [if_neg h1, if_neg h2]
      refine ⟨i1 (by rw [e]), fun hs => i2 _ ?_⟩
      rw [e]
      simp only
      rw [if_pos hs]
      exact List.mem_append_right _ (by simp)
    · exact i3 t1 hm h1 h2
/-- Who stands ahead of p, that would be a pivot, and behind it. -/
structure Dang (L : LM) (t1 p t3 : Int) : Prop where
  a : (txL L t3).state = 2
  b : (txL L p).state = 2 → (txL L t3).csn < (txL L p).csn
  c : ¬ ((txL L t1).state = 2 ∧ (txL L t1).csn < (txL L t3).csn)
  d : ¬ ((txL L t1).reads = true ∧ (txL L t1).snap < (txL L t3).csn)
def SpOk (M : SsiM) (t1 p : Int) : Prop := ((txL M.L p).state = 1 ∧ 0 < cnt M.doomed p) ∨ ((txL M.L p).state = 2 ∧ (txL M.L t1).state = 1 ∧ 0 < cnt M.doomed t1)
structure CirI (n : Nat) (M : SsiM) : Prop where
  lk : LOk n M.L
  bi : BI M.L M.E
  rd : ∀ q ∈ M.E.m, (txL M.L q.2).reads = false
  sp : ∀ t1 p t3, (t1, p) ∈ M.E.m → (p, t3) ∈ M.E.m → Dang M.L t1 p t3 → SpOk M t1 p
  dn : ∀ x, 0 ≤ cnt M.doomed x
theorem cnt_mem {x : Int} : ∀ (ys : List Int) (l : List (Int × Int)), (∀ y, 0 ≤ cnt l y) → x ∈ ys → 0 < cnt (ys.foldl bump l) x := by
  intro ys
  induction ys with
  | nil => intro l _ h; cases h
  | cons y ys ih =>
    intro l h0 hx
    rw [List.foldl_cons]
    have hb : ∀ z, 0 ≤ cnt (bump l y) z := fun z => by
      rw [cnt_bump]
      have := h0 z
      split <;> omega
    rcases List.mem_cons.1 hx with rfl | hx
    · have h1 := (cnt_bumps ys (bump l x) x).1
      have h2 := cnt_bump l x x
      rw [if_pos rfl] at h2
      have := h0 x
      omega
    · exact ih _ hb hx
section
variable {n : Nat} {M : SsiM}
theorem CirI.grow (h : CirI n M) {M' : SsiM} (hL : M'.L = M.L) (hE : M'.E.m = M.E.m) (hd : ∀ x, cnt M.doomed x ≤ cnt M'.doomed x) : CirI n M' := by
  refine ⟨hL ▸ h.lk, fun q hq => ?_, fun q hq => ?_, fun t1 p t3 h1 h2 hD => ?_, fun x => by have := h.dn x; have := hd x; omega⟩
  · rw [hL]; rw [hE] at hq; exact h.bi q hq
  · rw [hL]; rw [hE] at hq; exact h.rd q hq
  · rw [hE] at h1 h2
    rw [hL] at hD
    unfold SpOk
    rw [hL]
    have q1 := hd p
    have q2 := hd t1
    rcases h.sp t1 p t3 h1 h2 hD with ⟨g1, g2⟩ | ⟨g1, g2, g3⟩
    · exact Or.inl ⟨g1, by omega⟩
    · exact Or.inr ⟨g1, g2, by omega⟩
theorem look_fld (M : SsiM) (p : Int) : (lookM M p).L = M.L ∧ (lookM M p).E = M.E ∧ ∀ x, cnt M.doomed x ≤ cnt (lookM M p).doomed x := by
  unfold lookM
  split
  · exact ⟨rfl, rfl, fun x => (cnt_bumps _ _ x).1⟩
  · exact ⟨rfl, rfl, fun x => Int.le_refl _⟩
theorem look_ok (hk : LOk n M.L) (hb : BI M.L M.E) (hd : ∀ x, 0 ≤ cnt M.doomed x) {t1 p t3 : Int} (h1 : (t1, p) ∈ M.E.m) (h2 : (p, t3) ∈ M.E.m) (hD : Dang M.L t1 p t3) :
    ((txL M.L p).state = 1 → 0 < cnt (lookM M p).doomed p) ∧ ((txL M.L p).state ≠ 1 → (txL M.L t1).state = 1 → 0 < cnt (lookM M p).doomed t1) := by
  obtain ⟨⟨b1, b2, b3, b4, b5⟩, _⟩ := beside_iff.1 (hb _ h1)
  obtain ⟨⟨c1, c2, c3, c4, c5⟩, _⟩ := beside_iff.1 (hb _ h2)
  simp only at b1 b2 b3 b4 b5 c1 c2 c3 c4 c5
  have k3 := hk.csn t3 c2 hD.a
  have hp : (txL M.L p).csn = 0 ∨ (txL M.L t3).csn < (txL M.L p).csn := by
    by_cases e : (txL M.L p).state = 2
    · exact Or.inr (hD.b e)
    · exact Or.inl (hk.csn0 p e)
  obtain ⟨f1, f2⟩ := first_le h2 (by omega) hp
  have hc := hD.c
  have hd4 := hD.d
  have hs : (spoiltE M.L M.E p).2 = true ∧ ((txL M.L t1).state = 1 → t1 ∈ (spoiltE M.L M.E p).1) := by
    unfold spoiltE
    rw [if_neg b5, if_neg f1]
    refine (spAll M.L _ (inE M.E p) _).2.2 t1 (mem_inE.2 h1) ?_ ?_
    · rintro (g | ⟨g1, g2⟩)
      · exact b4 g
      · exact hc ⟨g1, by omega⟩
    · rintro ⟨g1, g2⟩
      exact hd4 ⟨g1, by omega⟩
  unfold lookM
  rw [if_pos hs.1]
  unfold runsB
  constructor
  · intro e
    rw [if_pos (decide_eq_true e)]
    exact cnt_mem _ _ hd (by simp)
  · intro e e1
    rw [if_neg (by simpa using e)]
    exact cnt_mem _ _ hd (hs.2 e1)
theorem behind_fld (M : SsiM) (a b : Int) : (behindM M a b).L = M.L := by
  unfold behindM
  split
  · exact (look_fld _ _).1.trans (look_fld _ _).1
  · rfl
theorem CirI.behind (h : CirI n M) {a b : Int} (hr : (txL M.L a).state = 1 ∨ (txL M.L b).state = 1) (hrd : (txL M.L b).reads = false) : CirI n (behindM M a b) := by
  unfold behindM
  split
  case isFalse => exact h
  rename_i hcon
  have hE : (addE M.L M.E a b).m = M.E.m ++ [(a, b)] := by unfold addE; rw [if_pos hcon]
  obtain ⟨M1, hM1⟩ : ∃ M1, M1 = { M with E := addE M.L M.E a b } := ⟨_, rfl⟩
  rw [← hM1]
  have l1 : M1.L = M.L := by rw [hM1]
  have e1 : M1.E.m = M.E.m ++ [(a, b)] := by rw [hM1]; exact hE
  have d1 : M1.doomed = M.doomed := by rw [hM1]
  obtain ⟨l2, e2, d2⟩ := look_fld M1 b
  obtain ⟨l3, e3, d3⟩ := look_fld (lookM M1 b) a
  have bi1 : BI M1.L M1.E := by
    intro q hq
    rw [l1]
    rw [e1] at hq
    rcases List.mem_append.1 hq with k | k
    · exact h.bi q k
    · simp at k; subst k; exact hcon.1
  have rd1 : ∀ q ∈ M1.E.m, (txL M1.L q.2).reads = false := by
    intro q hq
    rw [l1]
    rw [e1] at hq
    rcases List.mem_append.1 hq with k | k
    · exact h.rd q k
    · simp at k; subst k; exact hrd
  have hk1 : LOk n M1.L := l1 ▸ h.lk
  have dn1 : ∀ x, 0 ≤ cnt M1.doomed x := fun x => by rw [d1]; exact h.dn x
  have dn2 : ∀ x, 0 ≤ cnt (lookM M1 b).doomed x := fun x => by have := dn1 x; have := d2 x; omega
  have hL : (lookM (lookM M1 b) a).L = M1.L := l3.trans l2
  have hEE : (lookM (lookM M1 b) a).E = M1.E := e3.trans e2
  refine ⟨by rw [hL]; exact hk1, by rw [hL, hEE]; exact bi1, by rw [hL, hEE]; exact rd1, ?_, fun x => by have := dn2 x; have := d3 x; omega⟩
  intro t1 p t3 m1 m2 hD
  rw [hEE] at m1 m2
  rw [hL] at hD
  unfold SpOk
  rw [hL]
  have bp : ∀ q ∈ M1.E.m, ((txL M1.L q.1).state = 1 ∨ (txL M1.L q.1).state = 2) ∧ ((txL M1.L q.2).state = 1 ∨ (txL M1.L q.2).state = 2) := by
    intro q hq
    obtain ⟨⟨b1, b2, b3, b4, b5⟩, _⟩ := beside_iff.1 (bi1 q hq)
    have := hk1.st _ b1
    have := hk1.st _ b2
    omega
  have hp := (bp _ m1).2
  have hr1 : (txL M1.L a).state = 1 ∨ (txL M1.L b).state = 1 := by rw [l1]; exact hr
  simp only at hp
  by_cases k1 : (t1, p) ∈ M.E.m
  · by_cases k2 : (p, t3) ∈ M.E.m
    · rw [l1] at hD ⊢
      have q1 := d2 p
      have q2 := d3 p
      have q3 := d2 t1
      have q4 := d3 t1
      rw [d1] at q1 q3
      rcases h.sp t1 p t3 k1 k2 hD with ⟨g1, g2⟩ | ⟨g1, g2, g3⟩
      · exact Or.inl ⟨g1, by omega⟩
      · exact Or.inr ⟨g1, g2, by omega⟩
    · have : (p, t3) = (a, b) := by
        rw [e1] at m2
        rcases List.mem_append.1 m2 with k | k
        · exact absurd k k2
        · simpa using k
      obtain ⟨rfl, rfl⟩ := Prod.mk.inj this
      have hps : (txL M1.L p).state = 1 := by
        rcases hr1 with g | g
        · exact g
        · have := hD.a; omega
      have := (look_ok (M := lookM M1 t3) (l2 ▸ hk1) (by rw [l2, e2]; exact bi1) dn2 (t1 := t1) (p := p) (t3 := t3) (by rw [e2]; exact m1) (by rw [e2]; exact m2) (by rw [l2]; exact hD)).1 (by rw [l2]; exact hps)
      exact Or.inl ⟨hps, this⟩
  · have : (t1, p) = (a, b) := by
      rw [e1] at m1
      rcases List.mem_append.1 m1 with k | k
      · exact absurd k k1
      · simpa using k
    obtain ⟨rfl, rfl⟩ := Prod.mk.inj this
    obtain ⟨g1, g2⟩ := look_ok hk1 bi1 dn1 m1 m2 hD
    have q2 := d3 p
    have q4 := d3 t1
    rcases hp with hp | hp
    · exact Or.inl ⟨hp, by have := g1 hp; omega⟩
    · have ht : (txL M1.L t1).state = 1 := by
        rcases hr1 with g | g
        · exact g
        · omega
      exact Or.inr ⟨hp, ht, by have := g2 (by omega) ht; omega⟩
theorem wstep_L (x : Int) (M : SsiM) (who : Int) : (wstep x M who).L = M.L := by
  unfold wstep
  split
  · rfl
  · split
    · exact behind_fld _ _ _
    · split
      · exact (look_fld _ _).1
      · rfl
theorem oldIn_m (L : LM) (E : EM) (b c : Int) : (oldInE L E b c).m = E.m := by
  unfold oldInE
  split <;> rfl
theorem CirI.wstep (h : CirI n M) {x : Int} (hr : (txL M.L x).state = 1) (hrd : (txL M.L x).reads = false) (who : Int) : CirI n (wstep x M who) := by
  unfold Go.Lift.E14.wstep
  split
  · exact h
  · split
    · exact h.behind (Or.inr hr) hrd
    · split
      · obtain ⟨l, e, d⟩ := look_fld { M with E := oldInE M.L M.E x M.S.csn } x
        exact h.grow l (by rw [e]; exact oldIn_m _ _ _ _) d
      · exact h
theorem wsteps_cir {x : Int} : ∀ (l : List Int) (M : SsiM), CirI n M → (txL M.L x).state = 1 → (txL M.L x).reads = false → CirI n (l.foldl (Go.Lift.E14.wstep x) M) ∧ (l.foldl (Go.Lift.E14.wstep x) M).L = M.L
  | [], _, h, _, _ => ⟨h, rfl⟩
  | y :: l, M, h, h1, h2 => by
    rw [List.foldl_cons]
    have hl := wstep_L x M y
    obtain ⟨q1, q2⟩ := wsteps_cir l (Go.Lift.E14.wstep x M y) (h.wstep h1 h2 y) (by rw [hl]; exact h1) (by rw [hl]; exact h2)
    exact ⟨q1, q2.trans hl⟩
theorem CirI.wrote (h : CirI n M) {x : Int} (hrd : (txL M.L x).reads = false) (y : ThingM) : CirI n (wroteM M x y) ∧ (wroteM M x y).L = M.L := by
  unfold wroteM
  split
  · rename_i hr
    exact wsteps_cir _ M h (of_decide_eq_true hr) hrd
  · exact ⟨h, rfl⟩
theorem CirI.saw (h : CirI n M) (x : Int) {w : Int} (hrd : (txL M.L w).reads = false) : CirI n (sawM M x w) ∧ (sawM M x w).L = M.L := by
  unfold sawM
  split
  · rename_i hr
    unfold readsB at hr
    simp only [Bool.and_eq_true] at hr
    exact ⟨h.behind (Or.inl (of_decide_eq_true hr.1)) hrd, behind_fld _ _ _⟩
  · exact ⟨h, rfl⟩
theorem CirI.read (h : CirI n M) (x : Int) (y : ThingM) : CirI n (readM M x y) ∧ (readM M x y).L = M.L := by
  unfold readM
  split
  · exact ⟨h.grow rfl rfl fun _ => Int.le_refl _, rfl⟩
  · exact ⟨h, rfl⟩
theorem CirI.commitA (h : CirI n M) {x : Int} (hr : runsL M.L x) (hnd : ¬ 0 < cnt M.doomed x) {M' : SsiM} (hL : M'.L = commitL M.L x) (hE : M'.E = M.E) (hd : M'.doomed = (aheadE M.L M.E x).foldl bump M.doomed) : CirI (n + 1) M' := by
  obtain ⟨c1, c2, c3⟩ := commit_tx hr
  have hclk := h.lk.clk
  have hgr : ∀ y, cnt M.doomed y ≤ cnt M'.doomed y := fun y => by rw [hd]; exact (cnt_bumps _ _ y).1
  have hrd : ∀ y, (txL (commitL M.L x) y).reads = (txL M.L y).reads := fun y => by rw [c2]; split <;> simp_all
  have hsn : ∀ y, (txL (commitL M.L x) y).snap = (txL M.L y).snap := fun y => by rw [c2]; split <;> simp_all
  have hxs : txL (commitL M.L x) x = { txL M.L x with state := 2, csn := M.L.clock + 1 } := by rw [c2, if_pos rfl]
  have hns : ∀ y, y ≠ x → txL (commitL M.L x) y = txL M.L y := fun y hy => by rw [c2, if_neg hy]
  refine ⟨by rw [hL]; exact h.lk.commit x, ?_, ?_, ?_, fun y => by have := h.dn y; have := hgr y; omega⟩
  · intro q hq
    rw [hE] at hq
    rw [hL]
    exact beside_commit h.lk x (h.bi q hq)
  · intro q hq
    rw [hE] at hq
    rw [hL, hrd]
    exact h.rd q hq
  · intro t1 p t3 m1 m2 hD
    rw [hE] at m1 m2
    rw [hL] at hD
    unfold SpOk
    rw [hL]
    obtain ⟨⟨b1, b2, b3, b4, b5⟩, _⟩ := beside_iff.1 (h.bi _ m1)
    obtain ⟨⟨a1, a2, a3, a4, a5⟩, _⟩ := beside_iff.1 (h.bi _ m2)
    simp only at b1 b2 b3 b4 b5 a1 a2 a3 a4 a5
    have s1 := h.lk.st t1 b1
    have s2 := h.lk.st p b2
    obtain ⟨d1, d2, d3, d4⟩ := hD
    rw [hrd, hsn] at d4
    have hx1 : (txL M.L x).state = 1 := hr.2
    by_cases k3 : t3 = x
    · subst k3
      rw [hxs] at d1 d2 d3 d4
      rw [hns p a3] at d2 ⊢
      simp only at d1 d2 d3 d4
      have sp := h.lk.snap t1 b1
      have hps : (txL M.L p).state = 1 := by
        by_cases e : (txL M.L p).state = 2
        · have := h.lk.csn p b2 e
          have := d2 e
          omega
        · omega
      have htr : (txL M.L t1).reads = false := by
        rw [← Bool.not_eq_true]
        exact fun e => d4 ⟨e, by omega⟩
      have hts : t1 = t3 ∨ (txL M.L t1).state = 1 := by
        by_cases e : t1 = t3
        · exact Or.inl e
        · rw [hns t1 e] at d3
          by_cases e2 : (txL M.L t1).state = 2
          · have := h.lk.csn t1 b1 e2
            exact absurd ⟨e2, by omega⟩ d3
          · exact Or.inr (by omega)
      refine Or.inl ⟨hps, ?_⟩
      rw [hd]
      refine cnt_mem _ _ h.dn ?_
      unfold aheadE
      refine List.mem_filter.2 ⟨mem_inE.2 m2, ?_⟩
      rw [Bool.and_eq_true]
      refine ⟨decide_eq_true hps, List.any_eq_true.2 ⟨t1, mem_inE.2 m1, ?_⟩⟩
      unfold aheadB
      rw [Bool.and_eq_true, Bool.or_eq_true, htr]
      exact ⟨hts.imp decide_eq_true decide_eq_true, rfl⟩
    · rw [hns t3 k3] at d1 d2 d3 d4
      by_cases kp : p = x
      · subst kp
        rw [hns t1 b3] at d3
        rcases h.sp t1 p t3 m1 m2 ⟨d1, fun e => by omega, d3, d4⟩ with ⟨_, g⟩ | ⟨g, _⟩
        · exact absurd g hnd
        · omega
      · rw [hns p kp] at d2 ⊢
        by_cases k1 : t1 = x
        · subst k1
          rcases h.sp t1 p t3 m1 m2 ⟨d1, d2, fun e => by have := e.1; omega, d4⟩ with ⟨g1, g2⟩ | ⟨_, _, g⟩
          · exact Or.inl ⟨g1, by have := hgr p; omega⟩
          · exact absurd g hnd
        · rw [hns t1 k1] at d3 ⊢
          rcases h.sp t1 p t3 m1 m2 ⟨d1, d2, d3, d4⟩ with ⟨g1, g2⟩ | ⟨g1, g2, g3⟩
          · exact Or.inl ⟨g1, by have := hgr p; omega⟩
          · exact Or.inr ⟨g1, g2, by have := hgr t1; omega⟩
theorem CirI.abortA (h : CirI n M) {x : Int} (hr : runsL M.L x) {M' : SsiM} (hL : M'.L = abortL M.L x) (hE : M'.E = dropE M.E x) (hd : M'.doomed = M.doomed) : CirI n M' := by
  obtain ⟨c1, c2, c3⟩ := abort_tx hr
  have hns : ∀ y, y ≠ x → txL (abortL M.L x) y = txL M.L y := fun y hy => by rw [c2, if_neg hy]
  have hm : ∀ q ∈ (dropE M.E x).m, q ∈ M.E.m ∧ q.1 ≠ x ∧ q.2 ≠ x := by
    intro q hq
    have hq2 := List.mem_filter.1 hq
    have h3 := hq2.2
    unfold touchP at h3
    simp at h3
    exact ⟨hq2.1, h3.1, h3.2⟩
  refine ⟨by rw [hL]; exact h.lk.abort x, ?_, ?_, ?_, by rw [hd]; exact h.dn⟩
  · rw [hL, hE]
    exact BI.drop fun q hq h1 h2 => beside_abort h1 h2 (h.bi q hq)
  · intro q hq
    rw [hE] at hq
    obtain ⟨q1, q2, q3⟩ := hm q hq
    rw [hL, hns _ q3]
    exact h.rd q q1
  · intro t1 p t3 m1 m2 hD
    rw [hE] at m1 m2
    obtain ⟨a1, a2, a3⟩ := hm _ m1
    obtain ⟨b1, b2, b3⟩ := hm _ m2
    simp only at a2 a3 b2 b3
    rw [hL] at hD
    unfold SpOk
    rw [hL, hd, hns _ a2, hns _ a3]
    obtain ⟨d1, d2, d3, d4⟩ := hD
    rw [hns _ b3] at d1 d2 d3 d4
    rw [hns _ a3] at d2
    rw [hns _ a2] at d3 d4
    exact h.sp t1 p t3 a1 b1 ⟨d1, d2, d3, d4⟩
theorem CirI.abort (h : CirI n M) (x : Int) : CirI n (abortM M x) ∧ (abortM M x).L = abortL M.L x := by
  unfold abortM
  split
  · rename_i hr
    obtain ⟨q1, q2, q3, q4⟩ := cleanM_fld { M with L := abortL M.L x, S := dropS M.S x, E := dropE M.E x }
    exact ⟨h.abortA (runsB_iff.1 hr) q1 q2 q3, q1⟩
  · rename_i hr
    exact ⟨h, (abort_no fun q => hr (runsB_iff.2 q)).symm⟩
theorem CirI.commit (h : CirI n M) (x : Int) : CirI (n + 1) (commitM M x).1 ∧ ((commitM M x).1.L = M.L ∧ ¬ runsL M.L x ∨ (commitM M x).1.L = abortL M.L x ∧ runsL M.L x ∨ (commitM M x).1.L = commitL M.L x ∧ runsL M.L x) := by
  have up : ∀ {M'}, CirI n M' → CirI (n + 1) M' := fun q => ⟨q.lk.up (by omega), q.bi, q.rd, q.sp, q.dn⟩
  unfold commitM
  split
  · rename_i hr
    exact ⟨up h, Or.inl ⟨rfl, fun q => by rw [runsB_iff.2 q] at hr; cases hr⟩⟩
  · rename_i hr
    have hr' : runsL M.L x := runsB_iff.1 (by simpa using hr)
    split
    · exact ⟨up (h.abort x).1, Or.inr (Or.inl ⟨(h.abort x).2, hr'⟩)⟩
    · rename_i hnd
      obtain ⟨q1, q2, q3, q4⟩ := cleanM_fld { doomAll M (aheadE M.L M.E x) with L := commitL M.L x, kept := M.kept ++ [x] }
      exact ⟨h.commitA hr' hnd q1 q2 q3, Or.inr (Or.inr ⟨q1, hr'⟩)⟩
theorem CirI.begin (h : CirI n M) (hf : M.L.l.length ≠ 200) (r : Bool) : CirI n (beginM M r) ∧ (beginM M r).L.l.length = M.L.l.length + 1 := by
  obtain ⟨b1, b2, b3, b4⟩ := begin_tx (L := M.L) r hf
  have hl : (beginM M r).L = beginL M.L r ∧ (beginM M r).E = M.E ∧ (beginM M r).doomed = M.doomed := by
    unfold beginM
    rw [if_neg hf]
    exact ⟨rfl, rfl, rfl⟩
  obtain ⟨l1, l2, l3⟩ := hl
  have hh : ∀ q ∈ M.E.m, txL (beginL M.L r) q.1 = txL M.L q.1 ∧ txL (beginL M.L r) q.2 = txL M.L q.2 := fun q hq => by
    obtain ⟨⟨a1, a2, _⟩, _⟩ := beside_iff.1 (h.bi q hq)
    exact ⟨b2 _ a1, b2 _ a2⟩
  refine ⟨⟨by rw [l1]; exact h.lk.begin r, ?_, ?_, ?_, by rw [l3]; exact h.dn⟩, ?_⟩
  · intro q hq
    rw [l2] at hq
    rw [l1]
    exact beside_begin r (h.bi q hq)
  · intro q hq
    rw [l2] at hq
    rw [l1, (hh q hq).2]
    exact h.rd q hq
  · intro t1 p t3 m1 m2 hD
    rw [l2] at m1 m2
    have w1 := (hh _ m1).1
    have w2 := (hh _ m1).2
    have w3 := (hh _ m2).2
    simp only at w1 w2 w3
    rw [l1] at hD
    obtain ⟨d1, d2, d3, d4⟩ := hD
    rw [w3] at d1 d2 d3 d4
    rw [w2] at d2
    rw [w1] at d3 d4
    unfold SpOk
    rw [l1, l3, w1, w2]
    exact h.sp t1 p t3 m1 m2 ⟨d1, d2, d3, d4⟩
  · rw [l1]
    unfold beginL
    rw [if_neg hf]
    simp
theorem CirI.new (each all keep : Int) : CirI 0 (newM each all keep) :=
  ⟨lok_new, fun q hq => (by cases hq), fun q hq => (by cases hq), fun _ _ _ h => (by cases h), fun x => Int.le_refl _⟩
end
/-- Who must come ahead of whom, of those that were committed. -/
def RZ (L : LM) (E : EM) (a b : Int) : Prop := (a ≠ b ∧ (txL L a).state = 2 ∧ (txL L b).state = 2 ∧ seesL L b a = true) ∨ ((a, b) ∈ E.m ∧ (txL L a).state = 2 ∧ (txL L b).state = 2)
theorem no_circle {n : Nat} {M : SsiM} (h : CirI n M) (hall : ∀ x, (txL M.L x).state ≠ 1) {x : Int} (hx : Way (RZ M.L M.E) x x) : False := by
  have hk := h.lk
  have hb := h.bi
  generalize hL : M.L = L at *
  generalize hE : M.E = E at *
  have hcom : ∀ a b, RZ L E a b → (txL L a).state = 2 ∧ (txL L b).state = 2 := by
    rintro a b (⟨_, h1, h2, _⟩ | ⟨_, h1, h2⟩) <;> exact ⟨h1, h2⟩
  have hmin : ∀ (d : Nat) (y : Int), (txL L y).csn.toNat ≤ d → Way (RZ L E) x y → Way (RZ L E) y x → ∃ t, Way (RZ L E) x t ∧ Way (RZ L E) t x ∧ ∀ z, Way (RZ L E) x z → Way (RZ L E) z x → (txL L t).csn ≤ (txL L z).csn := by
    intro d
    induction d with
    | zero =>
      intro y hd h1 h2
      refine ⟨y, h1, h2, fun z h3 _ => ?_⟩
      obtain ⟨p, _, hp⟩ := h3.last
      have hz := hk.csn z ((has_state hk).2 (by have := (hcom _ _ hp).2; omega)) (hcom _ _ hp).2
      omega
    | succ d ih =>
      intro y hd h1 h2
      by_cases hex : ∃ z, Way (RZ L E) x z ∧ Way (RZ L E) z x ∧ (txL L z).csn < (txL L y).csn
      · obtain ⟨z, h3, h4, h5⟩ := hex
        obtain ⟨p, _, hp⟩ := h3.last
        have hz := hk.csn z ((has_state hk).2 (by have := (hcom _ _ hp).2; omega)) (hcom _ _ hp).2
        exact ih z (by omega) h3 h4
      · refine ⟨y, h1, h2, fun z h3 h4 => ?_⟩
        refine Classical.byContradiction fun hn => hex ⟨z, h3, h4, by omega⟩
  obtain ⟨t3, w1, w2, hm⟩ := hmin _ x (Nat.le_refl _) hx hx
  have pred : ∀ y, Way (RZ L E) x y → Way (RZ L E) y x → ∃ p, Way (RZ L E) x p ∧ Way (RZ L E) p x ∧ RZ L E p y := by
    intro y h1 h2
    obtain ⟨p, hp, hr⟩ := (h2.trans h1).last
    rcases hp with rfl | hp
    · exact ⟨p, h1, h2, hr⟩
    · exact ⟨p, h1.trans hp, (Way.one hr).trans h2, hr⟩
  obtain ⟨p, p1, p2, hpr⟩ := pred t3 w1 w2
  obtain ⟨t1, q1, q2, htr⟩ := pred p p1 p2
  obtain ⟨t0, r1, r2, h0⟩ := pred t1 q1 q2
  obtain ⟨sp, st3⟩ := hcom _ _ hpr
  obtain ⟨st1, _⟩ := hcom _ _ htr
  have hh : ∀ y, (txL L y).state = 2 → hasL L y := fun y hy => (has_state hk).2 (by omega)
  have c3 := hk.csn t3 (hh _ st3) st3
  have mp := hm p p1 p2
  have mt := hm t1 q1 q2
  have m0 := hm t0 r1 r2
  have e1 : (p, t3) ∈ E.m := by
    rcases hpr with ⟨hne, _, _, hs⟩ | ⟨h, _⟩
    · obtain ⟨_, h⟩ := sees_iff.1 hs
      rcases h with h | ⟨_, h⟩
      · exact absurd h.symm hne
      · omega
    · exact h
  obtain ⟨⟨_, _, hne, _, _⟩, b1, b2⟩ := beside_iff.1 (hb _ e1)
  simp only at hne b1 b2
  have e2 : (t1, p) ∈ E.m := by
    rcases htr with ⟨hne2, _, _, hs⟩ | ⟨h, _⟩
    · obtain ⟨_, h⟩ := sees_iff.1 hs
      rcases h with h | ⟨_, h⟩
      · exact absurd h.symm hne2
      · exact absurd ⟨st3, by omega⟩ b1
    · exact h
  have hlt : (txL L t3).csn < (txL L p).csn := by
    have : (txL L t3).csn ≠ (txL L p).csn := fun e => hne (hk.inj p t3 (hh p sp) (hh t3 st3) sp st3 e.symm)
    omega
  have hD : Dang L t1 p t3 := by
    refine ⟨st3, fun _ => hlt, fun g => by have := g.2; omega, ?_⟩
    rintro ⟨g1, g2⟩
    rcases h0 with ⟨hne0, _, _, hs⟩ | ⟨g, _⟩
    · obtain ⟨_, g⟩ := sees_iff.1 hs
      rcases g with g | ⟨_, g⟩
      · exact hne0 g.symm
      · omega
    · have := h.rd (t0, t1) (by rw [hE]; exact g)
      rw [hL] at this
      simp only at this
      rw [g1] at this
      cases this
  rcases h.sp t1 p t3 (by rw [hE]; exact e2) (by rw [hE]; exact e1) (by rw [hL]; exact hD) with ⟨g, _⟩ | ⟨_, g, _⟩
  · rw [hL] at g; exact hall p g
  · rw [hL] at g; exact hall t1 g
end Go.Lift.E14

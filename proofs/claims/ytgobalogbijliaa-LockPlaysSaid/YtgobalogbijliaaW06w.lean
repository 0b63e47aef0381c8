/- Locks: the table and the reference go beside each other (plain law). -/
import Derived.Test.YtgobalogbijliaaW06v
set_option linter.unusedSimpArgs false
set_option linter.unusedVariables false
namespace Go.Lift
open Go
def atN (l : List HM) (n : ByteArray) : List (Int × Int) := (l.filter fun x => decide (x.1 = n)).map fun x => (x.2.1, x.2.2)
theorem atN_app (l l' : List HM) (n : ByteArray) : atN (l ++ l') n = atN l n ++ atN l' n := by unfold atN; rw [List.filter_append, List.map_append]
theorem atN_cons (x : HM) (l : List HM) (n : ByteArray) : atN (x :: l) n = if x.1 = n then (x.2.1, x.2.2) :: atN l n else atN l n := by
  unfold atN
  by_cases h : x.1 = n <;> simp [h]
theorem atN_mem {l : List HM} {n : ByteArray} {k m : Int} : (k, m) ∈ atN l n ↔ (n, k, m) ∈ l := by
  unfold atN
  rw [List.mem_map]
  constructor
  · rintro ⟨x, h1, h2⟩
    obtain ⟨a, b⟩ := List.mem_filter.1 h1
    simp only [Prod.mk.injEq] at h2
    have : x = (n, k, m) := by rw [← of_decide_eq_true b, ← h2.1, ← h2.2]
    rw [← this]; exact a
  · intro h
    exact ⟨(n, k, m), List.mem_filter.2 ⟨h, by simp⟩, rfl⟩
theorem setH_in {l : List HM} (hl : ∀ x ∈ l, isM x.2.2 = true) (k : Int) (n : ByteArray) (m : Int) : inR (setH l k n) m = true ↔ (n, k, m) ∈ l := by
  induction hlen : l.length generalizing l with
  | zero => 
    have : l = [] := List.length_eq_zero_iff.1 hlen
    subst this
    simp [setH, inR_zero]
  | succ d ih =>
    have hne : l ≠ [] := fun e => by subst e; simp at hlen
    obtain ⟨l', x, rfl⟩ : ∃ l' x, l = l' ++ [x] := ⟨l.dropLast, l.getLast hne, (List.dropLast_concat_getLast hne).symm⟩
    have hi := ih (l := l') (fun x hx => hl x (by simp [hx])) (by simp at hlen; omega)
    rw [setH_snoc, List.mem_append, List.mem_singleton]
    by_cases hc : x.2.1 = k ∧ x.1 = n
    · rw [if_pos hc, inR_or (hl x (by simp)), Bool.or_eq_true, hi, decide_eq_true_eq]
      refine or_congr Iff.rfl ?_
      obtain ⟨a, b, c⟩ := x
      simp only at hc
      rw [hc.1, hc.2]
      simp
    · rw [if_neg hc, hi]
      constructor
      · exact Or.inl
      · rintro (h | h)
        · exact h
        · subst h; simp at hc
theorem setH_zero {l : List HM} (hl : ∀ x ∈ l, isM x.2.2 = true) (k : Int) (n : ByteArray) : setH l k n = 0 ↔ ∀ x ∈ l, x.2.1 = k → x.1 ≠ n := by
  constructor
  · intro h x hx h1 h2
    have := (setH_in hl k n x.2.2).2 (by rw [← h1, ← h2]; exact hx)
    rw [h, inR_zero] at this
    cases this
  · intro h
    unfold setH
    have : ∀ (l : List HM) (s : Nat), (∀ x ∈ l, x.2.1 = k → x.1 ≠ n) → l.foldl (fun s x => if x.2.1 = k ∧ x.1 = n then s ||| bitM x.2.2 else s) s = s := by
      intro l
      induction l with
      | nil => intro s _; rfl
      | cons a l ih =>
        intro s hl
        rw [List.foldl_cons, if_neg fun hc => hl a (by simp) hc.1 hc.2]
        exact ih s fun x hx => hl x (List.mem_cons_of_mem _ hx)
    exact this l 0 h
theorem metA_iff {L : List (Int × Nat)} (hn : (L.map Prod.fst).Nodup) {k m x : Int} : x ∈ metA L k m ↔ x ≠ k ∧ anyM (hasM L x) m = true := by
  unfold metA
  simp only [List.mem_map, List.mem_filter, Bool.and_eq_true, bne_iff_ne]
  constructor
  · rintro ⟨p, ⟨h1, h2, h3⟩, rfl⟩
    refine ⟨h2, ?_⟩
    unfold hasM
    rw [afind_of_mem hn (n := p.1) (q := p.2) h1]
    exact h3
  · rintro ⟨h1, h2⟩
    cases hf : afind L x with
    | none => unfold hasM at h2; rw [hf] at h2; simp [anyM] at h2
    | some v =>
      unfold hasM at h2
      rw [hf] at h2
      exact ⟨(x, v), ⟨afind_mem hf, h1, h2⟩, rfl⟩
theorem barsM_eq8 : ∀ x y : Fin 8, barsM ((x.val : Int) + 1) ((y.val : Int) + 1) = barsR ((x.val : Int) + 1) ((y.val : Int) + 1) := by decide +kernel
theorem barsM_eq {a b : Int} (ha : isM a = true) (hb : isM b = true) : barsM a b = barsR a b := by
  have h1 := isM_iff.1 ha
  have h2 := isM_iff.1 hb
  have := barsM_eq8 ⟨(a - 1).toNat, by omega⟩ ⟨(b - 1).toNat, by omega⟩
  simp only at this
  rw [show ((a - 1).toNat : Int) + 1 = a by omega, show ((b - 1).toNat : Int) + 1 = b by omega] at this
  exact this
/-- By whom one is barred, there and here. -/
theorem bars_eq {L : List (Int × Nat)} (hn : (L.map Prod.fst).Nodup) {has pre : List HM} (h1 : ∀ x ∈ has, isM x.2.2 = true) (h2 : ∀ x ∈ pre, isM x.2.2 = true) {n : ByteArray} (hL : ∀ k, hasM L k = setH has k n) {k m : Int} (hm : isM m = true) :
    barsQ L (atN pre n) k m = barsP has pre n k m := by
  refine asc_ext (barsQ_asc _ _ _ _) (barsP_asc _ _ _ _ _) fun x => ?_
  rw [barsQ_mem, barsP_mem, hL]
  have eA : x ∈ metA L k m ↔ x ∈ metH has n k m := by
    rw [metA_iff hn, hL, anyM_iff hm]
    unfold metH
    simp only [List.mem_map, List.mem_filter, Bool.and_eq_true, bne_iff_ne, decide_eq_true_eq]
    constructor
    · rintro ⟨g1, k', g2, g3⟩
      have g4 := (setH_in h1 x n k').1 g2
      exact ⟨(n, x, k'), ⟨g4, ⟨rfl, g1⟩, by rw [barsR_sym (h1 _ g4) hm]; exact g3⟩, rfl⟩
    · rintro ⟨⟨a, b, c⟩, ⟨g1, ⟨g2, g3⟩, g4⟩, rfl⟩
      simp only at g2 g3 g4
      subst g2
      exact ⟨g3, c, (setH_in h1 b a c).2 g1, by rw [← barsR_sym (h1 _ g1) hm]; exact g4⟩
  have eB : x ∈ metB (atN pre n) k m ↔ x ∈ metH pre n k m := by
    unfold metB metH
    simp only [List.mem_map, List.mem_filter, Bool.and_eq_true, bne_iff_ne, decide_eq_true_eq]
    constructor
    · rintro ⟨⟨a, c⟩, ⟨g1, g2, g3⟩, rfl⟩
      have g4 := atN_mem.1 g1
      exact ⟨(n, a, c), ⟨g4, ⟨rfl, g2⟩, by simp only; rw [← barsM_eq (h2 _ g4) hm]; exact g3⟩, rfl⟩
    · rintro ⟨⟨a, b, c⟩, ⟨g1, ⟨g2, g3⟩, g4⟩, rfl⟩
      simp only at g2 g3 g4
      subst g2
      exact ⟨(b, c), ⟨atN_mem.2 g1, g3, by simp only; rw [barsM_eq (h2 _ g1) hm]; exact g4⟩, rfl⟩
  rw [eA, eB]
structure Sim (T : TM) (R : RM) : Prop where
  has : ∀ n k, hasM (hasT T n) k = setH R.has k n
  wait : ∀ n, waitT T n = atN R.queue n
  m1 : ∀ x ∈ R.has, isM x.2.2 = true
  m2 : ∀ x ∈ R.queue, isM x.2.2 = true
  once : (R.queue.map fun x => x.2.1).Nodup
theorem hasT_aput (T : TM) (n n' : ByteArray) (q : QM) : hasT (aput T n q) n' = if n' = n then q.has else hasT T n' := by
  unfold hasT
  rw [afind_aput]
  by_cases e : n' = n <;> simp [e]
theorem waitT_aput (T : TM) (n n' : ByteArray) (q : QM) : waitT (aput T n q) n' = if n' = n then q.waits else waitT T n' := by
  unfold waitT
  rw [afind_aput]
  by_cases e : n' = n <;> simp [e]
theorem wk_at {T : TM} {R : RM} (hs : Sim T R) (n : ByteArray) (k : Int) : k ∈ wk T n ↔ ∃ m, (n, k, m) ∈ R.queue := by
  unfold wk
  rw [hs.wait, List.mem_map]
  constructor
  · rintro ⟨⟨a, m⟩, h, rfl⟩
    exact ⟨m, atN_mem.1 h⟩
  · rintro ⟨m, h⟩
    exact ⟨(k, m), atN_mem.2 h, rfl⟩
theorem Sim.waits {T : TM} {R : RM} (hT : TOk T) (hs : Sim T R) (k : Int) : waitsT T k = (findH R.queue k).map fun x => (x.1, x.2.2) := by
  cases hf : findH R.queue k with
  | none =>
    unfold findH at hf
    rw [List.find?_eq_none] at hf
    cases hw : waitsT T k with
    | none => rfl
    | some x =>
      obtain ⟨n, hn⟩ := (waits_iff hT k).1 (by rw [hw]; rfl)
      obtain ⟨m, hm⟩ := (wk_at hs n k).1 hn
      exact absurd (by simp) (hf _ hm)
  | some x =>
    unfold findH at hf
    have h1 := List.mem_of_find?_eq_some hf
    have h2 := List.find?_some hf
    obtain ⟨n, k', m⟩ := x
    simp only [beq_iff_eq] at h2
    subst h2
    have h3 : (k', m) ∈ waitT T n := by rw [hs.wait]; exact atN_mem.2 h1
    obtain ⟨q, g1, g2⟩ := wait_of h3
    rw [waitsT_of hT g1 g2]
    rfl
theorem takeWhile_atN {l : List HM} {n : ByteArray} {k m : Int} (hn : (l.map fun x => x.2.1).Nodup) (h : (n, k, m) ∈ l) : (atN l n).takeWhile (fun r => r.1 != k) = atN (l.takeWhile fun x => x.2.1 != k) n := by
  induction l with
  | nil => cases h
  | cons a l ih =>
    rw [List.map_cons, List.nodup_cons] at hn
    by_cases hk : a.2.1 = k
    · have ha : a = (n, k, m) := by
        rcases List.mem_cons.1 h with h | h
        · exact h.symm
        · exact absurd (List.mem_map.2 ⟨_, h, hk.symm⟩) hn.1
      subst ha
      rw [atN_cons]
      simp [atN]
    · have hl : (n, k, m) ∈ l := by
        rcases List.mem_cons.1 h with h | h
        · subst h; exact absurd rfl hk
        · exact h
      have ih := ih hn.2 hl
      rw [List.takeWhile_cons, if_pos (by simpa using hk), atN_cons, atN_cons]
      by_cases ha : a.1 = n
      · rw [if_pos ha, if_pos ha, List.takeWhile_cons, if_pos (by simpa using hk), ih]
      · rw [if_neg ha, if_neg ha, ih]
theorem has_nd {T : TM} (hT : TOk T) (n : ByteArray) : ((hasT T n).map Prod.fst).Nodup := by
  unfold hasT
  cases hf : afind T n with
  | none => simp
  | some q => exact (hT.q n q hf).1.nd
theorem Sim.for {T : TM} {R : RM} (hT : TOk T) (hs : Sim T R) (k : Int) : forT T k = forP R k := by
  unfold forT forP
  rw [hs.waits hT]
  cases hf : findH R.queue k with
  | none => rfl
  | some x =>
    unfold findH at hf
    have h1 := List.mem_of_find?_eq_some hf
    have h2 := List.find?_some hf
    obtain ⟨n, k', m⟩ := x
    simp only [beq_iff_eq] at h2
    subst h2
    simp only [Option.map_some]
    rw [hs.wait, takeWhile_atN hs.once h1]
    exact bars_eq (has_nd hT n) hs.m1 (fun x hx => hs.m2 x ((List.takeWhile_sublist _).subset hx)) (hs.has n) (hs.m2 _ h1)
theorem Sim.names {T : TM} {R : RM} (hT : TOk T) (hs : Sim T R) : namesT T = namesP R := by
  refine inOrder_ext (sortS_ord hT.nd) (namesP_ord R) fun n => ?_
  rw [namesP_mem]
  unfold namesT
  rw [sortS_mem]
  constructor
  · intro h
    cases hf : afind T n with
    | none => exact absurd h ((afind_none T n).1 hf)
    | some q =>
      obtain ⟨hq, hne, _⟩ := hT.q n q hf
      rcases hne with hne | hne
      · obtain ⟨p, hp⟩ := List.exists_mem_of_ne_nil _ hne
        have h0 : hasM (hasT T n) p.1 ≠ 0 := by
          unfold hasT hasM
          rw [hf]
          simp only
          rw [afind_of_mem hq.nd (n := p.1) (q := p.2) hp]
          have := (hq.set p hp).1
          simp only [Option.getD_some]; omega
        rw [hs.has] at h0
        refine Classical.byContradiction fun hc => h0 ((setH_zero hs.m1 p.1 n).2 fun x hx _ he => hc ⟨x, by simp [hx], he⟩)
      · obtain ⟨r, hr⟩ := List.exists_mem_of_ne_nil _ hne
        have : r ∈ waitT T n := by unfold waitT; rw [hf]; exact hr
        rw [hs.wait] at this
        exact ⟨_, List.mem_append_right _ (atN_mem.1 this), rfl⟩
  · rintro ⟨x, hx, rfl⟩
    have hj : x.2.1 ∈ wk T x.1 ∨ x.2.1 ∈ hk T x.1 := by
      rcases List.mem_append.1 hx with hx | hx
      · right
        unfold hk
        refine Classical.byContradiction fun hc => ?_
        have h0 : hasM (hasT T x.1) x.2.1 = 0 := by unfold hasM; rw [(afind_none _ _).2 hc]; rfl
        rw [hs.has] at h0
        exact (setH_zero hs.m1 _ _).1 h0 x hx rfl rfl
      · exact Or.inl ((wk_at hs _ _).2 ⟨x.2.2, hx⟩)
    have := wk_mem hj
    unfold namesT at this
    rw [sortS_mem] at this
    exact this
/-- A mode is taken, there and here. -/
theorem Sim.take {T : TM} {R : RM} (hT : TOk T) (hs : Sim T R) (k : Int) (n : ByteArray) (m : Int) : Sim (takeT T k n m).1 (takeR R k n m).1 ∧ (takeT T k n m).2 = (takeR R k n m).2 := by
  unfold takeT takeR
  by_cases c1 : k < 1 ∨ k > 200 ∨ isM m = false ∨ n.size > 8
  · rw [if_pos c1, if_pos (by
      rcases c1 with c | c | c | c
      · exact Or.inl c
      · exact Or.inr (Or.inl c)
      · have : ¬ (1 ≤ m ∧ m ≤ 8) := fun h => by rw [isM_iff.2 h] at c; cases c
        omega
      · omega)]
    exact ⟨hs, rfl⟩
  · have hm : isM m = true := by
      cases hm : isM m with
      | true => rfl
      | false => exact absurd (Or.inr (Or.inr (Or.inl hm))) c1
    have hm8 := isM_iff.1 hm
    have c1' : ¬ (k < 1 ∨ k > 200 ∨ m < 1 ∨ m > 8 ∨ n.size > 8) := by
      rintro (c | c | c | c | c)
      · exact c1 (Or.inl c)
      · exact c1 (Or.inr (Or.inl c))
      · omega
      · omega
      · exact c1 (Or.inr (Or.inr (Or.inr c)))
    rw [if_neg c1, if_neg c1']
    have c2 : (waitsT T k).isSome = true ↔ ∃ x ∈ R.queue, x.2.1 = k := by
      rw [waits_iff hT]
      constructor
      · rintro ⟨n, h⟩
        obtain ⟨m, h⟩ := (wk_at hs n k).1 h
        exact ⟨_, h, rfl⟩
      · rintro ⟨x, h, rfl⟩
        exact ⟨x.1, (wk_at hs _ _).2 ⟨_, h⟩⟩
    by_cases c3 : ∃ x ∈ R.queue, x.2.1 = k
    · rw [if_pos (c2.2 c3), if_pos c3]
      exact ⟨hs, rfl⟩
    · rw [if_neg (fun h => c3 (c2.1 h)), if_neg c3]
      have hmod : modesT T k n = setH R.has k n := hs.has n k
      have c4 : modesT T k n &&& bitM m ≠ 0 ↔ inR (setH R.has k n) m = true := by
        rw [hmod, Ne, inR_and hm]; simp
      by_cases c5 : inR (setH R.has k n) m = true
      · rw [if_pos (c4.2 c5), if_pos c5]
        exact ⟨hs, rfl⟩
      · rw [if_neg (fun h => c5 (c4.1 h)), if_neg c5]
        have hb : barsQ (hasT T n) (waitT T n) k m = barsP R.has R.queue n k m := by
          rw [hs.wait]
          exact bars_eq (has_nd hT n) hs.m1 hs.m2 (hs.has n) hm
        rw [hb]
        by_cases c6 : barsP R.has R.queue n k m ≠ []
        · rw [if_pos c6, if_pos c6]
          refine ⟨⟨fun n' k' => ?_, fun n' => ?_, hs.m1, fun x hx => ?_, ?_⟩, rfl⟩
          · simp only
            rw [hasT_aput, ← hs.has]
            by_cases e : n' = n <;> simp [e]
          · simp only
            rw [waitT_aput, atN_app, atN_cons, ← hs.wait]
            by_cases e : n' = n
            · subst e; simp [atN]
            · rw [if_neg e, if_neg (Ne.symm e)]; simp [atN]
          · rcases List.mem_append.1 hx with hx | hx
            · exact hs.m2 x hx
            · simp at hx; subst hx; exact hm
          · simp only [List.map_append, List.map_cons, List.map_nil]
            rw [List.nodup_append]
            refine ⟨hs.once, by simp, fun a ha b hb e => ?_⟩
            simp at hb
            subst hb
            subst e
            obtain ⟨x, h1, h2⟩ := List.mem_map.1 ha
            exact c3 ⟨x, h1, h2⟩
        · rw [if_neg c6, if_neg c6]
          refine ⟨⟨fun n' k' => ?_, fun n' => ?_, fun x hx => ?_, hs.m2, hs.once⟩, rfl⟩
          · simp only
            rw [hasT_aput, setH_snoc]
            by_cases e : n' = n
            · subst e
              rw [if_pos rfl]
              simp only
              rw [hasM_aput, hmod]
              by_cases e2 : k' = k
              · subst e2; simp
              · have : k ≠ k' := Ne.symm e2
                simp [e2, this, hs.has]
            · have : ¬ n = n' := Ne.symm e
              simp [e, this, hs.has]
          · simp only
            rw [waitT_aput]
            by_cases e : n' = n
            · subst e; rw [if_pos rfl]; exact hs.wait n'
            · rw [if_neg e]; exact hs.wait n'
          · rcases List.mem_append.1 hx with hx | hx
            · exact hs.m1 x hx
            · simp at hx; subst hx; exact hm
theorem setH_other {l : List HM} {x : HM} {k : Int} {n : ByteArray} (h : x.1 ≠ n) : setH (l ++ [x]) k n = setH l k n := by rw [setH_snoc, if_neg fun hc => h hc.2]
/-- One name, there and here. -/
theorem goR_sim (n : ByteArray) : ∀ (suf has pre : List HM) (L : List (Int × Nat)) (O O0 : List Int), (∀ x ∈ has, isM x.2.2 = true) → (∀ x ∈ pre ++ suf, isM x.2.2 = true) → (L.map Prod.fst).Nodup → (∀ k, hasM L k = setH has k n) →
    (∀ k, hasM (grantQ L (atN pre n) O (atN suf n)).1 k = setH (goR n has pre suf (O0 ++ O)).1.has k n) ∧ (grantQ L (atN pre n) O (atN suf n)).2.1 = atN (goR n has pre suf (O0 ++ O)).1.queue n ∧ O0 ++ (grantQ L (atN pre n) O (atN suf n)).2.2 = (goR n has pre suf (O0 ++ O)).2 ∧
    (∀ n', n' ≠ n → (∀ k, setH (goR n has pre suf (O0 ++ O)).1.has k n' = setH has k n') ∧ atN (goR n has pre suf (O0 ++ O)).1.queue n' = atN (pre ++ suf) n') ∧ (goR n has pre suf (O0 ++ O)).1.queue.Sublist (pre ++ suf) := by
  intro suf
  induction suf with
  | nil =>
    intro has pre L O O0 h1 h2 hn hL
    have e0 : atN [] n = [] := rfl
    rw [e0]
    simp only [goR_nil, grantQ, List.append_nil]
    exact ⟨hL, trivial, trivial, fun n' _ => ⟨fun _ => trivial, trivial⟩, List.Sublist.refl _⟩
  | cons x suf ih =>
    intro has pre L O O0 h1 h2 hn hL
    have hmx : isM x.2.2 = true := h2 x (by simp)
    rw [goR_cons, atN_cons]
    by_cases hx : x.1 = n
    · rw [if_pos hx, grantQ_cons]
      simp only
      rw [bars_eq hn h1 (fun y hy => h2 y (List.mem_append_left _ hy)) hL hmx]
      by_cases hb : barsP has pre n x.2.1 x.2.2 ≠ []
      · rw [if_pos hb, if_pos (Or.inr (by rw [hx]; exact hb))]
        have := ih has (pre ++ [x]) L O O0 h1 (by simpa using h2) hn hL
        rw [atN_app, atN_cons, if_pos hx] at this
        simpa [atN] using this
      · rw [if_neg hb, if_neg (by rintro (h | h); exact h hx; rw [hx] at h; exact hb h)]
        have := ih (has ++ [x]) pre (aput L x.2.1 (hasM L x.2.1 ||| bitM x.2.2)) (O ++ [x.2.1]) O0 (fun y hy => ?_) (fun y hy => h2 y (by
          simp only [List.mem_append, List.mem_cons] at hy ⊢
          rcases hy with hy | hy
          · exact Or.inl hy
          · exact Or.inr (Or.inr hy))) (aput_nodup hn _ _) (fun k => ?_)
        · obtain ⟨a1, a2, a3, a4, a5⟩ := this
          rw [← List.append_assoc] at a1 a2 a3 a4 a5
          refine ⟨a1, a2, a3, fun n' hn' => ?_, a5.trans ?_⟩
          · obtain ⟨b1, b2⟩ := a4 n' hn'
            refine ⟨fun k => by rw [b1, setH_other (by rw [hx]; exact Ne.symm hn')], ?_⟩
            rw [b2, atN_app, atN_app, atN_cons, if_neg (by rw [hx]; exact Ne.symm hn')]
          · exact List.Sublist.append (List.Sublist.refl _) (List.sublist_cons_self _ _)
        · rcases List.mem_append.1 hy with hy | hy
          · exact h1 y hy
          · simp at hy; subst hy; exact hmx
        · rw [hasM_aput, setH_snoc, hL, hL]
          by_cases e : k = x.2.1
          · rw [if_pos e, if_pos ⟨e.symm, hx⟩, e]
          · rw [if_neg e, if_neg fun h => e h.1.symm]
    · rw [if_neg hx, if_pos (Or.inl hx)]
      have := ih has (pre ++ [x]) L O O0 h1 (by simpa using h2) hn hL
      rw [atN_app, atN_cons, if_neg hx] at this
      simpa [atN] using this
theorem atN_filter (l : List HM) (k : Int) (n : ByteArray) : atN (l.filter fun x => x.2.1 != k) n = (atN l n).filter fun r => r.1 != k := by
  induction l with
  | nil => rfl
  | cons a l ih =>
    rw [List.filter_cons, atN_cons]
    by_cases hk : a.2.1 = k
    · rw [if_neg (by simp [hk]), ih]
      by_cases hn : a.1 = n
      · rw [if_pos hn, List.filter_cons, if_neg (by simp [hk])]
      · rw [if_neg hn]
    · rw [if_pos (by simp [hk]), atN_cons, ih]
      by_cases hn : a.1 = n
      · rw [if_pos hn, if_pos hn, List.filter_cons, if_pos (by simp [hk])]
      · rw [if_neg hn, if_neg hn]
theorem setH_filter (l : List HM) (k k' : Int) (n : ByteArray) : setH (l.filter fun x => x.2.1 != k) k' n = if k' = k then 0 else setH l k' n := by
  unfold setH
  have : ∀ (l : List HM) (s : Nat), (l.filter fun x => x.2.1 != k).foldl (fun s x => if x.2.1 = k' ∧ x.1 = n then s ||| bitM x.2.2 else s) s = if k' = k then s else l.foldl (fun s x => if x.2.1 = k' ∧ x.1 = n then s ||| bitM x.2.2 else s) s := by
    intro l
    induction l with
    | nil => intro s; simp
    | cons a l ih =>
      intro s
      rw [List.filter_cons]
      by_cases hk : a.2.1 = k
      · rw [if_neg (by simp [hk]), ih]
        by_cases e : k' = k
        · rw [if_pos e, if_pos e]
        · rw [if_neg e, if_neg e, List.foldl_cons, if_neg fun hc => e (hc.1.symm.trans hk)]
      · rw [if_pos (by simp [hk]), List.foldl_cons, ih]
        by_cases e : k' = k
        · rw [if_pos e, if_pos e, if_neg fun hc => hk (hc.1.trans e)]
        · rw [if_neg e, if_neg e, List.foldl_cons]
  exact this l 0
/-- While a holder goes: what is there of the names that are left, and of those that are done. -/
structure Half (T0 : TM) (k : Int) (N : List ByteArray) (T : TM) (R : RM) : Prop where
  left : ∀ n ∈ N, afind T n = afind T0 n ∧ (∀ k', setH R.has k' n = if k' = k then 0 else hasM (hasT T0 n) k') ∧ atN R.queue n = (waitT T0 n).filter fun r => r.1 != k
  done : ∀ n, n ∉ N → (∀ k', hasM (hasT T n) k' = setH R.has k' n) ∧ waitT T n = atN R.queue n
  m1 : ∀ x ∈ R.has, isM x.2.2 = true
  m2 : ∀ x ∈ R.queue, isM x.2.2 = true
  once : (R.queue.map fun x => x.2.1).Nodup
theorem Half.step {T0 : TM} {R0 : RM} (hT0 : TOk T0) (hs0 : Sim T0 R0) {k : Int} {n : ByteArray} {N : List ByteArray} (hnd : (n :: N).Nodup) {T : TM} {R : RM} {O : List Int} (hnT : (T.map Prod.fst).Nodup) (h : Half T0 k (n :: N) T R) :
    Half T0 k N (relStep k (T, O) n).1 (stepP (touchL R0 k) (R, O) n).1 ∧ (relStep k (T, O) n).2 = (stepP (touchL R0 k) (R, O) n).2 := by
  obtain ⟨l1, l2, l3⟩ := h.left n (by simp)
  rw [List.nodup_cons] at hnd
  have touch : n ∈ touchL R0 k ↔ ¬ (hasM (hasT T0 n) k = 0 ∧ ∀ r ∈ waitT T0 n, r.1 ≠ k) := by
    rw [touchL_mem, hs0.has, setH_zero hs0.m1, hs0.wait]
    constructor
    · rintro ⟨x, hx, h1, h2⟩ ⟨g1, g2⟩
      rcases List.mem_append.1 hx with hx | hx
      · exact g1 x hx h1 h2
      · exact g2 (x.2.1, x.2.2) (atN_mem.2 (by rw [← h2]; exact hx)) h1
    · intro hc
      refine Classical.byContradiction fun hn => hc ⟨fun x hx h1 h2 => hn ⟨x, List.mem_append_left _ hx, h1, h2⟩, fun r hr h1 => hn ⟨(n, r.1, r.2), List.mem_append_right _ (atN_mem.1 hr), h1, rfl⟩⟩
  have other : ∀ n' ∈ N, n' ≠ n := fun n' hn' e => hnd.1 (e ▸ hn')
  unfold relStep stepP
  simp only
  rw [l1]
  cases hf : afind T0 n with
  | none =>
    have h1 : hasT T0 n = [] := by unfold hasT; rw [hf]
    have h2 : waitT T0 n = [] := by unfold waitT; rw [hf]
    have hnt : n ∉ touchL R0 k := by
      rw [touch, h1, h2]
      simp [hasM, afind]
    rw [if_neg hnt]
    simp only
    refine ⟨⟨fun n' hn' => h.left n' (List.mem_cons_of_mem _ hn'), fun n' hn' => ?_, h.m1, h.m2, h.once⟩, trivial⟩
    by_cases e : n' = n
    · subst e
      have g1 : hasT T n' = [] := by unfold hasT; rw [l1, hf]
      have g2 : waitT T n' = [] := by unfold waitT; rw [l1, hf]
      rw [g1, g2, l3, h2]
      refine ⟨fun k' => ?_, rfl⟩
      rw [l2, h1]
      by_cases e : k' = k <;> simp [e, hasM, afind]
    · exact h.done n' (by simp [e, hn'])
  | some q =>
    have h1 : hasT T0 n = q.has := by unfold hasT; rw [hf]
    have h2 : waitT T0 n = q.waits := by unfold waitT; rw [hf]
    rw [h1, h2] at touch
    rw [h1] at l2
    rw [h2] at l3
    have hq := (hT0.q n q hf).1
    simp only
    by_cases hc : hasM q.has k = 0 ∧ ∀ r ∈ q.waits, r.1 ≠ k
    · rw [if_pos hc, if_neg (fun h => touch.1 h hc)]
      refine ⟨⟨fun n' hn' => h.left n' (List.mem_cons_of_mem _ hn'), fun n' hn' => ?_, h.m1, h.m2, h.once⟩, rfl⟩
      by_cases e : n' = n
      · subst e
        have g1 : hasT T n' = q.has := by unfold hasT; rw [l1, hf]
        have g2 : waitT T n' = q.waits := by unfold waitT; rw [l1, hf]
        rw [g1, g2, l3, List.filter_eq_self.2 fun r hr => by simpa using hc.2 r hr]
        refine ⟨fun k' => ?_, rfl⟩
        rw [l2]
        by_cases e : k' = k
        · rw [if_pos e, e]; exact hc.1
        · rw [if_neg e]
      · exact h.done n' (by simp [e, hn'])
    · rw [if_neg hc, if_pos (touch.2 hc)]
      have hL : ∀ k', hasM (adel q.has k) k' = setH R.has k' n := fun k' => by
        rw [l2]
        unfold hasM
        rw [afind_adel hq.nd]
        by_cases e : k' = k <;> simp [e]
      have G := goR_sim n R.queue R.has [] (adel q.has k) [] O h.m1 (by simpa using h.m2) (adel_nodup hq.nd k).1 hL
      rw [l3] at G
      simp only [List.append_nil, List.nil_append] at G
      have e0 : atN [] n = [] := rfl
      rw [e0] at G
      obtain ⟨G1, G2, G3, G4, G5⟩ := G
      have hfit := goR_fit (N := R.has.length + R.queue.length) n R.queue R.has [] O ⟨h.m1, by simpa using h.m2, by simp⟩
      refine ⟨?_, G3⟩
      generalize hgr : grantQ (adel q.has k) [] [] (q.waits.filter fun r => r.1 != k) = gr at G1 G2 G3 ⊢
      generalize hgo : goR n R.has [] R.queue O = go at G1 G2 G3 G4 G5 hfit ⊢
      -- the names' entries afterwards
      have hT' : ∀ n', (hasT (if gr.1 = [] ∧ gr.2.1 = [] then adel T n else aput T n ⟨gr.1, gr.2.1⟩) n' = if n' = n then gr.1 else hasT T n') ∧ (waitT (if gr.1 = [] ∧ gr.2.1 = [] then adel T n else aput T n ⟨gr.1, gr.2.1⟩) n' = if n' = n then gr.2.1 else waitT T n') ∧ (n' ≠ n → afind (if gr.1 = [] ∧ gr.2.1 = [] then adel T n else aput T n ⟨gr.1, gr.2.1⟩) n' = afind T n') := by
        intro n'
        by_cases hz : gr.1 = [] ∧ gr.2.1 = []
        · rw [if_pos hz]
          refine ⟨?_, ?_, fun e => by rw [afind_adel hnT, if_neg e]⟩
          · unfold hasT
            rw [afind_adel hnT]
            by_cases e : n' = n <;> simp [e, hz.1]
          · unfold waitT
            rw [afind_adel hnT]
            by_cases e : n' = n <;> simp [e, hz.2]
        · rw [if_neg hz]
          exact ⟨hasT_aput _ _ _ _, waitT_aput _ _ _ _, fun e => by rw [afind_aput, if_neg e]⟩
      refine ⟨fun n' hn' => ?_, fun n' hn' => ?_, hfit.1.m1, hfit.1.m2, (G5.map _).nodup h.once⟩
      · have hne := other n' hn'
        obtain ⟨a1, a2, a3⟩ := h.left n' (List.mem_cons_of_mem _ hn')
        obtain ⟨b1, b2⟩ := G4 n' hne
        exact ⟨by rw [(hT' n').2.2 hne, a1], fun k' => by rw [b1, a2], by rw [b2, a3]⟩
      · by_cases e : n' = n
        · subst e
          refine ⟨fun k' => ?_, ?_⟩
          · rw [(hT' n').1, if_pos rfl]; exact G1 k'
          · rw [(hT' n').2.1, if_pos rfl]; exact G2
        · obtain ⟨b1, b2⟩ := G4 n' e
          obtain ⟨d1, d2⟩ := h.done n' (by simp [e, hn'])
          refine ⟨fun k' => ?_, ?_⟩
          · rw [(hT' n').1, if_neg e, d1, b1]
          · rw [(hT' n').2.1, if_neg e, d2, b2]
/-- All of a holder go, there and here. -/
theorem Sim.release {T : TM} {R : RM} (hT : TOk T) (hs : Sim T R) (k : Int) : Sim (releaseT T k).1 (releaseP R k).1 ∧ (releaseT T k).2 = (releaseP R k).2 := by
  have key : ∀ (N : List ByteArray) (T' : TM) (R' : RM) (O : List Int), N.Nodup → TOk T' → Half T k N T' R' →
      Sim (N.foldl (relStep k) (T', O)).1 (N.foldl (stepP (touchL R k)) (R', O)).1 ∧ (N.foldl (relStep k) (T', O)).2 = (N.foldl (stepP (touchL R k)) (R', O)).2 := by
    intro N
    induction N with
    | nil =>
      intro T' R' O _ _ h
      exact ⟨⟨fun n => (h.done n (by simp)).1, fun n => (h.done n (by simp)).2, h.m1, h.m2, h.once⟩, rfl⟩
    | cons n N ih =>
      intro T' R' O hnd hT' h
      obtain ⟨h1, h2⟩ := Half.step hT hs hnd (O := O) hT'.nd h
      rw [List.foldl_cons, List.foldl_cons]
      have := ih (relStep k (T', O) n).1 (stepP (touchL R k) (R', O) n).1 (relStep k (T', O) n).2 (List.nodup_cons.1 hnd).2 (relStep_ok hT' k O n).1 h1
      have e1 : ((relStep k (T', O) n).1, (relStep k (T', O) n).2) = relStep k (T', O) n := rfl
      have e2 : ((stepP (touchL R k) (R', O) n).1, (relStep k (T', O) n).2) = stepP (touchL R k) (R', O) n := by rw [h2]
      rw [e1, e2] at this
      exact this
  unfold releaseT releaseP
  rw [hs.names hT]
  refine key (namesP R) T _ [] (inOrder_nodup (namesP_ord R)) hT ⟨fun n hn => ⟨rfl, fun k' => ?_, ?_⟩, fun n hn => ?_, fun x hx => hs.m1 x (List.mem_filter.1 hx).1, fun x hx => hs.m2 x (List.mem_filter.1 hx).1, (List.filter_sublist.map _).nodup hs.once⟩
  · rw [setH_filter, hs.has]
  · rw [atN_filter, hs.wait]
  · have h1 : afind T n = none := by
      rw [← hs.names hT] at hn
      unfold namesT at hn
      rw [sortS_mem] at hn
      exact (afind_none _ _).2 hn
    have h2 : hasT T n = [] := by unfold hasT; rw [h1]
    have h3 : waitT T n = [] := by unfold waitT; rw [h1]
    refine ⟨fun k' => ?_, ?_⟩
    · rw [setH_filter, ← hs.has, h2]
      simp [hasM, afind]
    · rw [atN_filter, ← hs.wait, h3]; rfl
theorem Sim.nil : Sim [] ⟨[], []⟩ := ⟨fun n k => rfl, fun n => rfl, by simp, by simp, by simp⟩
theorem takeR_len (R : RM) (k : Int) (n : ByteArray) (m : Int) : (takeR R k n m).1.has.length + (takeR R k n m).1.queue.length ≤ R.has.length + R.queue.length + 1 := by
  unfold takeR
  repeat' split
  all_goals simp
  all_goals omega
theorem releaseP_len {R : RM} {N : Nat} (hf : RFit N R) (k : Int) : (releaseP R k).1.has.length + (releaseP R k).1.queue.length ≤ N ∧ (releaseP R k).2.length ≤ N := by
  have key : ∀ (L : List ByteArray) (Ns : List ByteArray) (X : RM × List Int), RFit N X.1 → X.2.length + X.1.queue.length ≤ N → RFit N (Ns.foldl (stepP L) X).1 ∧ (Ns.foldl (stepP L) X).2.length + (Ns.foldl (stepP L) X).1.queue.length ≤ N := by
    intro L Ns
    induction Ns with
    | nil => intro X h1 h2; exact ⟨h1, h2⟩
    | cons n Ns ih =>
      intro X h1 h2
      rw [List.foldl_cons]
      obtain ⟨g1, g2⟩ := stepP_fit L X n h1
      exact ih _ g1 (by omega)
  have h1 := List.length_filter_le (fun x : HM => x.2.1 != k) R.has
  have h2 := List.length_filter_le (fun x : HM => x.2.1 != k) R.queue
  have h3 := hf.len
  have := key (touchL R k) (namesP R) (⟨R.has.filter fun x => x.2.1 != k, R.queue.filter fun x => x.2.1 != k⟩, []) ⟨fun x hx => hf.m1 x (List.mem_filter.1 hx).1, fun x hx => hf.m2 x (List.mem_filter.1 hx).1, by simp only; omega⟩ (by simp; omega)
  exact ⟨this.1.len, by have := this.2; unfold releaseP; omega⟩
end Go.Lift

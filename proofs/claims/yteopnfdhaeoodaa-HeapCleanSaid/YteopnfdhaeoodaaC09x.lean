/- Plain laws: vacuum and copy change nothing of what anybody who runs sees. -/
import Derived.Test.YteopnfdhaeoodaaC09v
set_option linter.unusedSimpArgs false
set_option linter.unusedVariables false
namespace Go.Lift
open Go Go.Proofs
def seesT (L : LogM) (x : Int) (t : Tup) : Bool := L.sees x t.xmin && !(endedM L t && L.sees x t.xmax)
def RelM.rowsOf (R : RelM) (L : LogM) (x : Int) : List (List Val) := (R.visible L x).map fun t => (R.get t).row
theorem mem_running {L : LogM} {x : Int} (hx : x ∈ L.running) : L.has x = true ∧ (L.tx x.toNat).st = 1 := by
  unfold LogM.running at hx
  rw [List.mem_filter] at hx
  have := nums_mem.1 hx.1
  exact ⟨has_iff.2 this, by simpa [LogM.runs] using hx.2⟩
theorem foldl_min_le (f : Int → Int) : ∀ (l : List Int) (a : Int), (l.foldl (fun m x => mnI m (f x)) a ≤ a) ∧ ∀ x ∈ l, l.foldl (fun m x => mnI m (f x)) a ≤ f x
  | [], a => ⟨Int.le_refl _, by simp⟩
  | y :: l, a => by
    obtain ⟨h1, h2⟩ := foldl_min_le f l (mnI a (f y))
    have hm : mnI a (f y) ≤ a ∧ mnI a (f y) ≤ f y := by unfold mnI; split <;> omega
    refine ⟨by simp only [List.foldl_cons]; omega, fun x hx => ?_⟩
    simp only [List.foldl_cons]
    rw [List.mem_cons] at hx
    rcases hx with e | e
    · subst e; omega
    · exact h2 x e
theorem at_has {L : LogM} {x : Int} (h : (L.at x).st ≠ 0) : L.has x = true ∧ L.at x = L.tx x.toNat := by
  unfold LogM.at at h ⊢
  by_cases hx : L.has x = true
  · rw [if_pos hx]; exact ⟨hx, rfl⟩
  · rw [if_neg hx] at h; exact absurd rfl h
/-- What is gone nobody who runs sees. -/
theorem gone_unseen {L : LogM} {x : Int} (hx : x ∈ L.running) {t : Tup} (hg : goneM L t = true) : seesT L x t = false := by
  obtain ⟨hhas, hst⟩ := mem_running hx
  unfold goneM at hg
  rw [Bool.or_eq_true] at hg
  rcases hg with hg | hg
  · have h3 : (L.at t.xmin).st = 3 := by simpa using hg
    obtain ⟨h1, h2⟩ := at_has (x := t.xmin) (by rw [h3]; decide)
    rw [h2] at h3
    have hne : ¬ x = t.xmin := by intro e; rw [e] at hst; omega
    unfold seesT LogM.sees
    simp [hne, h3]
  · unfold overM at hg
    simp only [Bool.and_eq_true, decide_eq_true_eq, bne_iff_ne, ne_eq, beq_iff_eq] at hg
    obtain ⟨g1, g2, g3⟩ := hg
    obtain ⟨h1, h2⟩ := at_has (x := t.xmax) (by rw [g2]; decide)
    have hor : L.horizon ≤ (L.tx x.toNat).snap := (foldl_min_le (fun x => (L.tx x.toNat).snap) L.running L.clock).2 x hx
    have hs : L.sees x t.xmax = true := by
      unfold LogM.sees
      rw [h2] at g2 g3
      simp only [hhas, h1, Bool.true_and, Bool.or_eq_true, Bool.and_eq_true, beq_iff_eq, decide_eq_true_eq]
      exact Or.inr ⟨g2, by omega⟩
    have he : endedM L t = true := by
      unfold endedM
      simp [g1, g2]
    unfold seesT
    rw [hs, he]
    simp
theorem sees_mem {R : RelM} {L : LogM} {x t : Int} (hm : t ∈ R.T.map Prod.fst) : R.sees L x t = seesT L x (R.get t) := by
  unfold RelM.sees
  have : (R.find t).isSome = true := by
    cases hf : R.find t with
    | none => exact absurd hm ((afind_none R.T t).1 hf)
    | some u => rfl
  rw [this]
  simp [seesT]
theorem perm_sortI {l l' : List Int} (hp : l.Perm l') (hs : l'.Pairwise (· ≤ ·)) : sortI l = l' := by
  refine List.Perm.eq_of_pairwise (le := fun a b => a ≤ b) (fun a b _ _ h1 h2 => Int.le_antisymm h1 h2) ?_ hs ((List.mergeSort_perm _ _).trans hp)
  have := List.pairwise_mergeSort (le := fun x y : Int => decide (x ≤ y)) (fun a b c h1 h2 => by simp at *; omega) (fun a b => by simp; omega) l
  exact this.imp fun h => by simpa using h
theorem keys_sorted (R : RelM) : R.keys.Pairwise (· ≤ ·) := by
  have := List.pairwise_mergeSort (le := fun x y : Int => decide (x ≤ y)) (fun a b c h1 h2 => by simp at *; omega) (fun a b => by simp; omega) (R.T.map Prod.fst)
  exact this.imp fun h => by simpa using h
theorem keys_mem {R : RelM} {t : Int} : t ∈ R.keys ↔ t ∈ R.T.map Prod.fst := (keys_perm R).mem_iff
theorem vacuum_rows {R : RelM} {L : LogM} (hn : (R.T.map Prod.fst).Nodup) {x : Int} (hx : x ∈ L.running) : (R.vacuum L).1.rowsOf L x = R.rowsOf L x := by
  rw [vacuum_eq L hn]
  have hnf : ((R.T.filter fun p => !goneM L p.2).map Prod.fst).Nodup := hn.sublist (List.filter_sublist.map _)
  have hmem : ∀ t, t ∈ (R.T.filter fun p => !goneM L p.2).map Prod.fst ↔ t ∈ R.T.map Prod.fst ∧ goneM L (R.get t) = false := by
    intro t
    simp only [List.mem_map, List.mem_filter]
    constructor
    · rintro ⟨⟨a, u⟩, ⟨h1, h2⟩, rfl⟩
      have : R.get a = u := by unfold RelM.get RelM.find; rw [afind_of_mem hn h1]; rfl
      exact ⟨⟨_, h1, rfl⟩, by rw [this]; simpa using h2⟩
    · rintro ⟨⟨⟨a, u⟩, h1, rfl⟩, h2⟩
      have : R.get a = u := by unfold RelM.get RelM.find; rw [afind_of_mem hn h1]; rfl
      rw [this] at h2
      exact ⟨_, ⟨h1, by simpa using h2⟩, rfl⟩
  have hget : ∀ t, t ∈ (R.T.filter fun p => !goneM L p.2).map Prod.fst → (RelM.mk (R.T.filter fun p => !goneM L p.2) R.next).get t = R.get t := by
    intro t ht
    obtain ⟨⟨a, u⟩, h1, rfl⟩ := List.mem_map.1 ht
    have h2 := (List.mem_filter.1 h1).1
    unfold RelM.get RelM.find
    rw [afind_of_mem hn h2]
    rw [afind_of_mem hnf h1]
  have hkeys : (RelM.mk (R.T.filter fun p => !goneM L p.2) R.next).keys = R.keys.filter fun t => !goneM L (R.get t) := by
    unfold RelM.keys
    refine perm_sortI ?_ ((keys_sorted R).sublist List.filter_sublist)
    refine (List.perm_ext_iff_of_nodup hnf (((keys_perm R).nodup_iff.2 hn).sublist List.filter_sublist)).2 fun t => ?_
    rw [hmem, List.mem_filter]
    show _ ↔ t ∈ R.keys ∧ _
    rw [keys_mem]
    simp
  unfold RelM.rowsOf RelM.visible
  rw [hkeys, List.filter_filter]
  have hf : R.keys.filter (fun t => (RelM.mk (R.T.filter fun p => !goneM L p.2) R.next).sees L x t && !goneM L (R.get t)) = R.keys.filter (R.sees L x) := by
    apply List.filter_congr
    intro t ht
    have ht' := keys_mem.1 ht
    rw [sees_mem ht']
    cases hg : goneM L (R.get t) with
    | true => rw [gone_unseen hx hg]; simp
    | false =>
      have := (hmem t).2 ⟨ht', hg⟩
      rw [sees_mem (R := ⟨_, _⟩) this, hget t this]
      simp
  rw [hf]
  apply List.map_congr_left
  intro t ht
  rw [List.mem_filter] at ht
  have ht' := keys_mem.1 ht.1
  have hg : goneM L (R.get t) = false := by
    cases hg : goneM L (R.get t) with
    | false => rfl
    | true =>
      have := ht.2
      rw [sees_mem ht', gone_unseen hx hg] at this
      cases this
  rw [hget t ((hmem t).2 ⟨ht', hg⟩)]
def copyT : List Tup → Nat → List (Int × Tup)
  | [], _ => []
  | t :: l, n => ((n : Int), t) :: copyT l (n + 1)
theorem copyT_snoc (l : List Tup) (t : Tup) : ∀ n, copyT (l ++ [t]) n = copyT l n ++ [(((n + l.length : Nat) : Int), t)] := by
  induction l with
  | nil => intro n; simp [copyT]
  | cons a l ih => intro n; simp [copyT, ih]; omega
theorem copyT_keys (l : List Tup) : (copyT l 0).map Prod.fst = ints l.length := by
  have : ∀ (l : List Tup) n, (copyT l n).map Prod.fst = (List.range l.length).map fun i => ((n + i : Nat) : Int) := by
    intro l
    induction l with
    | nil => intro n; rfl
    | cons a l ih =>
      intro n
      simp only [copyT, List.map_cons, ih, List.length_cons, List.range_succ_eq_map, List.map_map]
      congr 1
      apply List.map_congr_left
      intro i _
      simp
      omega
  rw [this]
  simp [ints]
def copyR (l : List Tup) : RelM := ⟨copyT l 0, l.length⟩
theorem copyR_add (l : List Tup) (t : Tup) : (copyR l).add t = copyR (l ++ [t]) := by
  have := copyT_snoc l t 0
  rw [Nat.zero_add] at this
  simp [copyR, RelM.add, this]
theorem copy_eq (R : RelM) (L : LogM) : R.copy L = copyR ((R.keys.filter fun t => !goneM L (R.get t)).map R.get) := by
  have : ∀ (ks : List Int) (l : List Tup), ks.foldl (R.copyStep L) (copyR l) = copyR (l ++ (ks.filter fun t => !goneM L (R.get t)).map R.get) := by
    intro ks
    induction ks with
    | nil => intro l; simp
    | cons k ks ih =>
      intro l
      rw [List.foldl_cons, List.filter_cons]
      cases hg : goneM L (R.get k) with
      | true =>
        have e : R.copyStep L (copyR l) k = copyR l := by unfold RelM.copyStep; rw [if_pos hg]
        rw [e, ih]
        simp
      | false =>
        have e : R.copyStep L (copyR l) k = copyR (l ++ [R.get k]) := by unfold RelM.copyStep; rw [if_neg (by simp [hg]), copyR_add]
        rw [e, ih]
        simp
  have h := this R.keys []
  rw [List.nil_append] at h
  exact h
theorem copyR_rows (L : LogM) (x : Int) (l : List Tup) : (copyR l).rowsOf L x = (l.filter (seesT L x)).map Tup.row := by
  have hk : ∀ l : List Tup, (copyR l).keys = ints l.length := by intro l; unfold RelM.keys copyR; rw [copyT_keys]; exact sortI_sorted (ints_sorted _)
  have hkn : ∀ l : List Tup, ((copyR l).T.map Prod.fst).Nodup := by intro l; unfold copyR; rw [copyT_keys]; exact ints_nodup _
  have main : ∀ (n : Nat) (l : List Tup), l.length = n → (copyR l).rowsOf L x = (l.filter (seesT L x)).map Tup.row := by
    intro n
    induction n with
    | zero =>
      intro l hl
      have : l = [] := List.eq_nil_of_length_eq_zero hl
      subst this
      unfold RelM.rowsOf RelM.visible
      rw [hk]
      rfl
    | succ n ih =>
      intro l hl
      obtain ⟨l', t, rfl⟩ : ∃ l' t, l = l' ++ [t] := by
        refine ⟨l.dropLast, l.getLast (by intro e; simp [e] at hl), ?_⟩
        exact (List.dropLast_concat_getLast _).symm
      have hl' : l'.length = n := by simpa using hl
      have hT : (copyR (l' ++ [t])).T = (copyR l').T ++ [((n : Int), t)] := by
        have := copyT_snoc l' t 0
        rw [Nat.zero_add, hl'] at this
        exact this
      have hold : ∀ i, i ∈ ints n → (copyR (l' ++ [t])).get i = (copyR l').get i := by
        intro i hi
        have hm : i ∈ (copyR l').T.map Prod.fst := by unfold copyR; rw [copyT_keys, hl']; exact hi
        obtain ⟨⟨a, u⟩, h1, rfl⟩ := List.mem_map.1 hm
        unfold RelM.get RelM.find
        rw [afind_of_mem (hkn l') h1, afind_of_mem (hkn (l' ++ [t])) (by rw [hT]; exact List.mem_append_left _ h1)]
      have hnew : (copyR (l' ++ [t])).get (n : Int) = t := by
        unfold RelM.get RelM.find
        rw [afind_of_mem (hkn (l' ++ [t])) (v := t) (by rw [hT]; simp)]
        rfl
      have hmemk : ∀ (l : List Tup) i, i ∈ ints l.length → i ∈ (copyR l).T.map Prod.fst := by intro l i hi; unfold copyR; rw [copyT_keys]; exact hi
      have e1 := ih l' hl'
      unfold RelM.rowsOf RelM.visible at e1 ⊢
      rw [hk] at e1 ⊢
      rw [hl'] at e1
      rw [show (l' ++ [t]).length = n + 1 by simp [hl'], ints_succ, List.filter_append, List.map_append, List.filter_append, List.map_append, ← e1]
      congr 1
      · have : (ints n).filter ((copyR (l' ++ [t])).sees L x) = (ints n).filter ((copyR l').sees L x) := by
          apply List.filter_congr
          intro i hi
          rw [sees_mem (hmemk _ i (by simp only [List.length_append, List.length_cons, List.length_nil, hl']; rw [ints_succ]; exact List.mem_append_left _ hi)), sees_mem (hmemk l' i (by rw [hl']; exact hi)), hold i hi]
        rw [this]
        apply List.map_congr_left
        intro i hi
        rw [hold i (List.mem_filter.1 hi).1]
      · have hs : (copyR (l' ++ [t])).sees L x (n : Int) = seesT L x t := by
          rw [sees_mem (hmemk _ _ (by simp only [List.length_append, List.length_cons, List.length_nil, hl']; rw [ints_succ]; simp)), hnew]
        simp only [List.filter_cons, List.filter_nil, hs]
        cases seesT L x t <;> simp [hnew]
  exact main l.length l rfl
theorem copy_rows {R : RelM} {L : LogM} {x : Int} (hx : x ∈ L.running) : (R.copy L).rowsOf L x = R.rowsOf L x := by
  rw [copy_eq, copyR_rows]
  unfold RelM.rowsOf RelM.visible
  rw [List.filter_map, List.map_map, List.filter_filter]
  have : R.keys.filter (fun t => (seesT L x ∘ R.get) t && !goneM L (R.get t)) = R.keys.filter (R.sees L x) := by
    apply List.filter_congr
    intro t ht
    rw [sees_mem (keys_mem.1 ht)]
    cases hg : goneM L (R.get t) with
    | true => simp [gone_unseen hx hg]
    | false => simp
  rw [this]
  rfl
end Go.Lift

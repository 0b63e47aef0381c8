/- Plain laws of relations: keys, vacuum. -/
import Derived.Test.YteopnfdhaeoodaaC09h
set_option linter.unusedSimpArgs false
set_option linter.unusedVariables false
namespace Go.Lift
open Go Go.Proofs
theorem sortI_sorted {l : List Int} (h : l.Pairwise (· ≤ ·)) : sortI l = l := by
  unfold sortI
  refine List.mergeSort_of_pairwise ?_
  exact h.imp fun hab => by simpa using hab
def ints (n : Nat) : List Int := (List.range n).map fun i : Nat => (i : Int)
theorem ints_sorted (n : Nat) : (ints n).Pairwise (· ≤ ·) := by
  unfold ints
  rw [List.pairwise_map]
  refine (List.pairwise_lt_range).imp fun hab => ?_
  omega
theorem ints_succ (n : Nat) : ints (n + 1) = ints n ++ [(n : Int)] := by simp [ints, List.range_succ]
theorem ints_mem {n : Nat} {x : Int} : x ∈ ints n ↔ 0 ≤ x ∧ x < n := by
  simp only [ints, List.mem_map, List.mem_range]
  constructor
  · rintro ⟨i, h1, h2⟩; omega
  · intro h1; exact ⟨x.toNat, by omega, by omega⟩
theorem ints_len (n : Nat) : (ints n).length = n := by simp [ints]
theorem ints_nodup (n : Nat) : (ints n).Nodup := by
  unfold ints
  refine List.Pairwise.map _ ?_ List.nodup_range
  intro a b hab e
  exact hab (by omega)
theorem adel_filter {V : Type} {T : List (Int × V)} (hn : (T.map Prod.fst).Nodup) (k : Int) : adel T k = T.filter fun p => !decide (p.1 = k) := by
  induction T with
  | nil => rfl
  | cons q T ih =>
    obtain ⟨a, u⟩ := q
    simp only [List.map_cons, List.nodup_cons] at hn
    simp only [adel]
    by_cases e : k = a
    · subst e
      rw [if_pos rfl, List.filter_cons]
      simp only [decide_true, Bool.not_true, Bool.false_eq_true, if_false]
      rw [List.filter_eq_self.2]
      intro p hp
      have : p.1 ≠ k := fun h => hn.1 (h ▸ List.mem_map.2 ⟨p, hp, rfl⟩)
      simp [this]
    · rw [if_neg e, List.filter_cons, ih hn.2]
      have : ¬ a = k := fun h => e h.symm
      simp [this]
theorem afind_of_mem {V : Type} {T : List (Int × V)} (hn : (T.map Prod.fst).Nodup) {k : Int} {v : V} (hm : (k, v) ∈ T) : afind T k = some v := by
  induction T with
  | nil => cases hm
  | cons q T ih =>
    obtain ⟨a, u⟩ := q
    simp only [List.map_cons, List.nodup_cons] at hn
    simp only [afind]
    rw [List.mem_cons] at hm
    rcases hm with h | h
    · cases h; rw [if_pos rfl]
    · have : k ≠ a := fun e => hn.1 (e ▸ List.mem_map.2 ⟨_, h, rfl⟩)
      rw [if_neg this]; exact ih hn.2 h
theorem vacFold (L : LogM) : ∀ (ks : List Int) (R : RelM) (G : List Int), ks.Nodup → (R.T.map Prod.fst).Nodup →
    ks.foldl (RelM.vacStep L) (R, G) = (⟨R.T.filter fun p => !(decide (p.1 ∈ ks) && goneM L (R.get p.1)), R.next⟩, G ++ ks.filter fun t => goneM L (R.get t))
  | [], R, G, _, _ => by
    have : R.T.filter (fun p => !(decide (p.1 ∈ ([] : List Int)) && goneM L (R.get p.1))) = R.T := List.filter_eq_self.2 (by intro p _; simp)
    rw [this]
    simp
  | k :: ks, R, G, hks, hn => by
    rw [List.nodup_cons] at hks
    rw [List.foldl_cons]
    have hget : ∀ t, t ∈ ks → (R.rem k).get t = R.get t := by
      intro t ht
      unfold RelM.get RelM.find RelM.rem
      simp only
      rw [afind_adel hn, if_neg (fun e : t = k => hks.1 (e ▸ ht))]
    cases hg : goneM L (R.get k) with
    | true =>
      have e1 : RelM.vacStep L (R, G) k = (R.rem k, G ++ [k]) := by unfold RelM.vacStep; rw [if_pos hg]
      rw [e1, vacFold L ks _ _ hks.2 (adel_nodup hn k).1]
      congr 1
      · have : (R.rem k).T = R.T.filter fun p => !decide (p.1 = k) := adel_filter hn k
        rw [this]
        show RelM.mk _ R.next = _
        congr 1
        rw [List.filter_filter]
        apply List.filter_congr
        intro p hp
        by_cases e : p.1 = k
        · simp [e, hg]
        · by_cases e2 : p.1 ∈ ks
          · simp [e, e2, hget _ e2]
          · simp [e, e2]
      · rw [List.append_assoc, List.filter_cons, if_pos hg]
        have : ks.filter (fun t => goneM L ((R.rem k).get t)) = ks.filter fun t => goneM L (R.get t) := by
          apply List.filter_congr
          intro t ht
          rw [hget t ht]
        rw [this]
        rfl
    | false =>
      have e1 : RelM.vacStep L (R, G) k = (R, G) := by unfold RelM.vacStep; rw [if_neg (by simp [hg])]
      rw [e1, vacFold L ks _ _ hks.2 hn]
      congr 1
      · congr 1
        apply List.filter_congr
        intro p hp
        by_cases e : p.1 = k
        · simp [e, hg]
        · simp [e]
      · rw [List.filter_cons, if_neg (by simp [hg])]
theorem keys_perm (R : RelM) : R.keys.Perm (R.T.map Prod.fst) := List.mergeSort_perm _ _
theorem vacuum_eq {R : RelM} (L : LogM) (hn : (R.T.map Prod.fst).Nodup) : R.vacuum L = (⟨R.T.filter fun p => !goneM L p.2, R.next⟩, R.keys.filter fun t => goneM L (R.get t)) := by
  unfold RelM.vacuum
  rw [vacFold L _ _ _ ((keys_perm R).nodup_iff.2 hn) hn]
  congr 1
  congr 1
  apply List.filter_congr
  rintro ⟨k, v⟩ hp
  have h1 : k ∈ R.keys := (keys_perm R).mem_iff.2 (List.mem_map.2 ⟨_, hp, rfl⟩)
  have h2 : R.get k = v := by unfold RelM.get RelM.find; rw [afind_of_mem hn hp]; rfl
  simp [h1, h2]
end Go.Lift

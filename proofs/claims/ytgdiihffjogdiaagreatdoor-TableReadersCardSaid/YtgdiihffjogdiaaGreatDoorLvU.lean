/- A map that is gone through while it stays as it is. -/
import Derived.Test.YtgdiihffjogdiaaGreatDoorLvN
set_option linter.unusedSimpArgs false
set_option linter.unusedVariables false
namespace Go.Lift
open Go
/-- An iterator of a map: what it has shown. -/
structure ItAt (h : Hp) (b m : Nat) (es : Array MapEntry) (c : Nat) (seen : Array Nat) : Prop where
  it : h[b]? = some (.mapIter (some m) c seen c)
  mp : h[m]? = some (.map es c)
  bn : Born es c
theorem filter_lt {α : Type} {p q : α → Bool} : ∀ (l : List α), (∀ x ∈ l, q x = true → p x = true) → (∃ x ∈ l, p x = true ∧ q x = false) → (l.filter q).length < (l.filter p).length
  | [], _, h => by obtain ⟨x, hx, _⟩ := h; cases hx
  | a :: l, h1, h2 => by
    have hle : ∀ l : List α, (∀ x ∈ l, q x = true → p x = true) → (l.filter q).length ≤ (l.filter p).length := by
      intro l
      induction l with
      | nil => intro _; simp
      | cons a l ih =>
        intro h
        have := ih fun x hx => h x (List.mem_cons_of_mem _ hx)
        rw [List.filter_cons, List.filter_cons]
        cases hq : q a with
        | true => rw [h a (by simp) hq]; simp; exact this
        | false => cases p a <;> simp <;> omega
    have h1' : ∀ x ∈ l, q x = true → p x = true := fun x hx => h1 x (List.mem_cons_of_mem _ hx)
    rw [List.filter_cons, List.filter_cons]
    obtain ⟨x, hx, hp, hq⟩ := h2
    rcases List.mem_cons.1 hx with rfl | hx
    · rw [hp, hq]
      have := hle l h1'
      simp
      omega
    · have := filter_lt l h1' ⟨x, hx, hp, hq⟩
      cases hqa : q a with
      | true => rw [h1 a (by simp) hqa]; simp; exact this
      | false => cases p a <;> simp <;> omega
/-- How many are not shown yet. -/
def leftIt (es : Array MapEntry) (seen : Array Nat) : Nat := (es.toList.filter fun e => !seen.contains e.born).length
section
variable {h h' : Hp} {b m c : Nat} {es : Array MapEntry} {seen : Array Nat}
theorem ItAt.ext {S : List Nat} (hi : ItAt h b m es c seen) (he : Ext S h h') (h1 : b ∉ S) (h2 : m ∉ S) : ItAt h' b m es c seen := ⟨he.get hi.it h1, he.get hi.mp h2, hi.bn⟩
theorem ItAt.good (hi : ItAt h b m es c seen) : IterGood h (.mapIter (some m) c seen c) := by
  refine .good m c seen c es c hi.mp ?_
  cases hes : es.isEmpty with
  | true => simp
  | false =>
    have : es.all (fun x => decide (x.born ≥ c)) = false := by
      rw [Array.all_eq_false]
      have hs : 0 < es.size := by
        rcases Nat.eq_zero_or_pos es.size with g | g
        · rw [Array.isEmpty_iff_size_eq_zero.2 g] at hes; cases hes
        · exact g
      refine ⟨0, hs, ?_⟩
      have := hi.bn.1 es[0].born (List.mem_map.2 ⟨es[0], by simp, rfl⟩)
      simp
      omega
    rw [this, Bool.and_false]
theorem ItAt.ended (hi : ItAt h b m es c seen) (he : IterEnd h (.mapIter (some m) c seen c)) : ∀ e ∈ es.toList, seen.contains e.born = true := by
  cases he with
  | over _ _ _ _ es' c' h1 h2 =>
    rw [hi.mp] at h1
    cases h1
    intro e hm
    cases hc : seen.contains e.born with
    | true => rfl
    | false =>
      exfalso
      have hlt := hi.bn.1 e.born (List.mem_map.2 ⟨e, hm, rfl⟩)
      rw [Array.isEmpty_iff] at h2
      have hin : e ∈ (es.filter fun e => !seen.contains e.born).filter (fun x => decide (x.born < c)) := by
        rw [Array.mem_filter, Array.mem_filter]
        exact ⟨⟨Array.mem_toList_iff.1 hm, by rw [hc]; rfl⟩, by simpa using hlt⟩
      rw [h2] at hin
      simp at hin
theorem find_born {l : List MapEntry} (hn : (l.map (·.born)).Nodup) {e : MapEntry} (he : e ∈ l) : l.find? (fun x => x.born == e.born) = some e := by
  induction l with
  | nil => cases he
  | cons a l ih =>
    rw [List.map_cons, List.nodup_cons] at hn
    rcases List.mem_cons.1 he with rfl | he
    · simp
    · have hne : a.born ≠ e.born := fun g => hn.1 (by rw [g]; exact List.mem_map.2 ⟨e, he, rfl⟩)
      rw [List.find?_cons_of_neg (by simpa using hne)]
      exact ih hn.2 he
/-- The next one is one that was not shown. -/
theorem ItAt.step (hi : ItAt h b m es c seen) {k v : Value} {o : Obj} (hs : IterStep h (.mapIter (some m) c seen c) k v o) : ∃ e ∈ es.toList, seen.contains e.born = false ∧ o = .mapIter (some m) c (seen.push e.born) c ∧ Array.find? (fun x => x.born == e.born) es = some e ∧ leftIt es (seen.push e.born) < leftIt es seen := by
  cases hs with
  | step _ _ _ _ es' c' e h1 h2 =>
    rw [hi.mp] at h1
    cases h1
    rw [Array.mem_filter] at h2
    obtain ⟨h2, h3⟩ := h2
    have h3' : seen.contains e.born = false := by simpa using h3
    refine ⟨e, Array.mem_toList_iff.2 h2, h3', rfl, ?_, ?_⟩
    · rw [← Array.find?_toList]
      exact find_born hi.bn.2 (Array.mem_toList_iff.2 h2)
    · refine filter_lt _ (fun x _ hx => ?_) ⟨e, Array.mem_toList_iff.2 h2, by rw [h3']; rfl, ?_⟩
      · cases hc : seen.contains x.born with
        | false => rfl
        | true =>
          have : (seen.push e.born).contains x.born = true := by
            rw [Array.contains_iff_mem] at hc ⊢
            exact Array.mem_push_of_mem _ hc
          rw [this] at hx
          cases hx
      · have : (seen.push e.born).contains e.born = true := by
          rw [Array.contains_iff_mem]
          exact Array.mem_push_self
        rw [this]
        rfl
end
end Go.Lift

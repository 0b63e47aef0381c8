/- slices.Sort over one's own slices of one cell. -/
import Derived.Test.YtgdiihffjogdiaaGreatDoorItS
import Derived.Shelf.SortM.Plain
import Derived.Shelf.SortM.SortNone
set_option linter.unusedSimpArgs false
set_option linter.unusedVariables false
namespace Go.Lift
open Go Go.Proofs Go.Shelf Go.RowKit Go.Lib Go.Sort
section
variable {α β : Type} [Inhabited β] {enc : β → Value}
theorem putRow_take (f : α → β) (ys : List α) (c : Array Value) (h : ys.length ≤ c.size) : (putCells enc 0 (ys.map f).toArray c).toList.take ys.length = ys.flatMap fun x => [enc (f x)] := by
  rw [← List.map_eq_flatMap]
  apply List.ext_getElem?
  intro i
  rcases Nat.lt_or_ge i ys.length with g | g
  · rw [List.getElem?_take_of_lt g]
    unfold putCells
    simp only [Array.getElem?_toList, Array.getElem?_mapIdx, Nat.zero_le, Nat.zero_add, true_and, Nat.sub_zero]
    rw [Array.getElem?_eq_getElem (by omega)]
    simp [g]
  · rw [List.getElem?_eq_none (by simp; omega), List.getElem?_eq_none (by simpa using g)]
theorem sort1_c {P : Program} {f0 : FuncId} (f : α → β) (srt : List β → List β) (hsl : ∀ l, (srt l).length = l.length)
    (C : ∀ (blk off cap : Nat) (zs : List β) (w : World), Holds enc w blk off zs.toArray → blk < w.heap.size → zs.length < 4611686018427387904 →
      Calls P f0 #[.slice (some ⟨blk, off, none⟩) zs.length cap] w fun e w' => e = .returned (.tuple #[]) ∧ ∃ n os, w' = grow (putRow enc (Go.Sort.ahead w n) blk off (srt zs).toArray) os)
    (C0 : ∀ (p : Option Addr) (cap : Nat) (w : World), Calls P f0 #[.slice p 0 cap] w fun e w' => e = .returned (.tuple #[]) ∧ w' = w)
    {T : TypeId} {lo : Nat} {h : Hp} {s : Sl} {xs ys : List α} (hys : ys.map f = srt (xs.map f))
    (ho : Own T 1 (fun x => [enc (f x)]) lo h s xs) (hl : xs.length ≤ 2 ^ 40) {Q : List Value → Hp → Prop}
    (hQ : ∀ h', Own T 1 (fun x => [enc (f x)]) lo h' s ys → Ext (sBlk s) h h' → Q [] h') : CallsH P f0 #[.slice s.a s.n s.c] h Q := by
  have hly : ys.length = xs.length := by
    have := congrArg List.length hys
    simpa [hsl] using this
  intro w hw
  subst hw
  cases hsa : s.a with
  | none =>
    have h0 := ho.2.1 hsa
    have hn := ho.1
    rw [h0.1] at hn
    simp at hn
    rw [hn]
    refine (C0 none s.c w).mono ?_
    rintro e w' ⟨rfl, rfl⟩
    refine ⟨[], rfl, .refl _, hQ _ ?_ (Ext.refl _ _)⟩
    have : ys = [] := List.eq_nil_of_length_eq_zero (by rw [hly, h0.1]; rfl)
    rw [this]
    rw [h0.1] at ho
    exact ho
  | some a =>
    obtain ⟨b, c, rfl, hlo, hb, hnc, hcs, hc⟩ := ho.2.2 a hsa
    have hn := ho.1
    have hbl := blk_lt hb
    have hb' : w.heap[b]? = some (.cells c T (0, 0)) := hb
    have hH : Holds enc w b 0 (xs.map f).toArray := by
      intro j hj
      have hj' : j < xs.length := by simpa using hj
      have hcj : c[j]? = some (enc (xs.map f).toArray[j]!) := by
        have e2 : (c.toList.take (s.n * 1))[j]? = (xs.flatMap fun x => [enc (f x)])[j]? := by rw [hc]
        rw [List.getElem?_take_of_lt (by omega), Array.getElem?_toList, ← List.map_eq_flatMap] at e2
        rw [e2]
        simp [hj']
      refine ⟨?_, ?_⟩
      · unfold World.cell?
        simp only [hb', Nat.zero_add]
        exact hcj
      · unfold World.frozen?
        simp only [hb', Nat.zero_add]
        first | rfl | (rw [Bool.and_eq_false_iff]; exact Or.inr (decide_eq_false (Nat.not_lt_zero _)))
    have hcon := C b 0 s.c (xs.map f) w hH hbl (by rw [List.length_map]; omega)
    rw [List.length_map, ← hn, ← hys] at hcon
    refine hcon.mono ?_
    rintro e w' ⟨rfl, n, os, rfl⟩
    refine ⟨[], rfl, ⟨rfl, rfl, rfl, fun h => h.elim⟩, ?_⟩
    have hnew : (grow (putRow enc (Go.Sort.ahead w n) b 0 (ys.map f).toArray) os).heap[b]? = some (.cells (putCells enc 0 (ys.map f).toArray c) T (0, 0)) := by
      unfold grow putRow mapBlock Go.Sort.ahead
      simp only
      rw [Array.getElem?_append_left (by simpa using hbl), Array.getElem?_modify, if_pos rfl, hb']
      rfl
    refine hQ _ ⟨by rw [hly]; exact hn, fun e => (by rw [hsa] at e; cases e), fun a ha => ?_⟩ ⟨?_, fun b' hb1 hb2 => ?_⟩
    · rw [hsa] at ha
      cases ha
      refine ⟨b, _, rfl, hlo, hnew, hnc, ?_, ?_⟩
      · unfold putCells
        simpa using hcs
      · have := putRow_take (enc := enc) f ys c (by omega)
        rw [hly, ← hn] at this
        rw [Nat.mul_one]
        exact this
    · unfold grow putRow mapBlock Go.Sort.ahead
      simp
    · have hne : b' ≠ b := fun e => hb2 (mem_sBlk.2 ⟨_, hsa, e.symm⟩)
      unfold grow putRow mapBlock Go.Sort.ahead
      simp only
      rw [Array.getElem?_append_left (by simpa using hb1), Array.getElem?_modify, if_neg (Ne.symm hne)]
end
end Go.Lift

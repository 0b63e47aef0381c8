/- slices.SortFunc over one's own slices. -/
import Derived.Test.YtgdiihffjogdiaaGreatDoorLvY
import Derived.Shelf.SlSortCmp.NoneTotal
set_option linter.unusedSimpArgs false
set_option linter.unusedVariables false
namespace Go.Lift
open Go Go.Proofs Go.Shelf Go.RowKit Go.Lib Go.Sort
theorem grow_of {W w' : World} (hk : KeptD True W w') (he : Ext [] W.heap w'.heap) : ∃ q os', w' = grow (W.drewN q) os' := by
  refine ⟨w'.drawn - W.drawn, w'.heap.extract W.heap.size w'.heap.size, ?_⟩
  have hh : W.heap ++ w'.heap.extract W.heap.size w'.heap.size = w'.heap := by
    apply Array.ext_getElem?
    intro i
    have hz := he.sz
    rcases Nat.lt_or_ge i W.heap.size with g | g
    · rw [Array.getElem?_append_left g, he.old i g (by simp)]
    · rw [Array.getElem?_append_right g, Array.getElem?_extract]
      by_cases g2 : i < w'.heap.size
      · rw [if_pos (by omega), Nat.add_sub_cancel' g]
      · rw [if_neg (by omega), Array.getElem?_eq_none (by omega)]
  have h1 := hk.os
  have h2 := hk.output
  have h3 := hk.tape
  have h4 := hk.dr trivial
  unfold grow World.drewN
  cases w'
  cases W
  simp only at *
  subst h1 h2 h3
  rw [hh]
  congr 1
  omega
section
variable {α : Type} [Inhabited α] {k : Nat} {enc : α → List Value}
theorem flatK_flat (hk : ∀ x, (enc x).length = k) (hk0 : 0 < k) (xs : List α) : (Go.Sort.flatK enc k xs.toArray).toList = xs.flatMap enc := by
  apply List.ext_getElem?
  intro t
  have hfl := flatMap_length hk xs
  rcases Nat.lt_or_ge t (xs.length * k) with g | g
  · have hi : t / k < xs.length := (Nat.div_lt_iff_lt_mul hk0).2 g
    have hm : t % k < k := Nat.mod_lt _ hk0
    have h1 := flatMap_get hk xs (t / k) (t % k) hi hm
    have ht : t / k * k + t % k = t := by rw [Nat.mul_comm]; exact Nat.div_add_mod t k
    rw [ht] at h1
    rw [h1]
    have h2 : (Go.Sort.flatK enc k xs.toArray)[t]! = (enc xs.toArray[t / k]!)[t % k]! := get_flatK enc k xs.toArray t (by simpa using g)
    have hs : t < (Go.Sort.flatK enc k xs.toArray).size := by simpa using g
    rw [getElem!_pos _ t hs] at h2
    rw [Array.getElem?_toList, Array.getElem?_eq_getElem hs, h2]
    have h3 : xs.toArray[t / k]! = xs[t / k] := by simp [hi]
    rw [h3, getElem!_pos (enc xs[t / k]) (t % k) (by rw [hk]; exact hm), List.getElem?_eq_getElem (by rw [hk]; exact hm)]
  · rw [List.getElem?_eq_none (by simpa using g), List.getElem?_eq_none (by rw [hfl]; exact g)]
theorem putCells_take (F c : Array Value) (h : F.size ≤ c.size) : (putCells id 0 F c).toList.take F.size = F.toList := by
  apply List.ext_getElem?
  intro i
  rcases Nat.lt_or_ge i F.size with g | g
  · rw [List.getElem?_take_of_lt g]
    unfold putCells
    simp only [Array.getElem?_toList, Array.getElem?_mapIdx, Nat.zero_le, Nat.zero_add, true_and, Nat.sub_zero]
    rw [Array.getElem?_eq_getElem (by omega), Array.getElem?_eq_getElem g]
    simp [g]
  · rw [List.getElem?_eq_none (by simp; omega), List.getElem?_eq_none (by simpa using g)]
variable {P : Program} {ρ : Ren}
theorem sortF_c (L : SlLaysF0.n6 P ρ) (hk0 : 0 < k) (aE : ∀ w, (isAgg (ρ.t 24)).run P w = .ok true w) (zE : ∀ w, (Go.sizeOf (ρ.t 24)).run P w = .ok k w) (hk : ∀ x, (enc x).length = k) (h1 : ∀ x, ∀ v ∈ enc x, v.oneCell' = true) (cf : α → α → Int) (hO : SWO (ltOf cf))
    (hT : ∀ x y, (ltOf cf) x y = false → (ltOf cf) y x = false → x = y) (g : Nat) (cb : Array Value) (eg : ∀ args w, (callFunc g args).run P w = .ok (.enter g args) w)
    {T : TypeId} {lo : Nat} {h : Hp} {s : Sl} {xs : List α}
    (hcmp : ∀ (x y : α) (h' : Hp), (∀ b, b < h.size → b ∉ sBlk s → h'[b]? = h[b]?) → CallsD True P g (#[.agg (enc x).toArray, .agg (enc y).toArray] ++ cb) h' fun vs h'' => vs = [.int .i64 (cf x y)] ∧ Ext [] h' h'')
    (ho : Own T k enc lo h s xs) (hl : xs.length ≤ 2 ^ 40) {Q : List Value → Hp → Prop}
    (hQ : ∀ h', Own T k enc lo h' s (xs.mergeSort fun x y => !(ltOf cf) y x) → Ext (sBlk s) h h' → Q [] h') : CallsH P (ρ.f 6) #[.slice s.a s.n s.c, .func (.func g) #[] cb] h Q := by
  intro w hw
  subst hw
  cases hsa : s.a with
  | none =>
    have h0 := ho.2.1 hsa
    have hn := ho.1
    rw [h0.1] at hn
    simp at hn
    rw [hn]
    refine (AnyF.slices_SortFunc_none L none s.c (.func (.func g) #[] cb) w).mono ?_
    rintro e w' ⟨rfl, rfl⟩
    refine ⟨[], rfl, .refl _, hQ _ ?_ (Ext.refl _ _)⟩
    rw [h0.1] at ho ⊢
    simpa using ho
  | some a =>
    obtain ⟨b, c, rfl, hlo, hb, hnc, hcs, hc⟩ := ho.2.2 a hsa
    have hn := ho.1
    have hbl := blk_lt hb
    have hsz : xs.toArray.size = s.n := by simp [hn]
    have hmul := Nat.mul_le_mul_right k hnc
    have hfs : (Go.Sort.flatK enc k xs.toArray).size = s.n * k := by simp [hn]
    have hH : HoldsK enc k w b 0 xs.toArray := by
      intro j hj
      rw [hfs] at hj
      have hcj : c[j]? = some ((Go.Sort.flatK enc k xs.toArray)[j]!) := by
        have e1 : c.toList.take (s.n * k) = (Go.Sort.flatK enc k xs.toArray).toList := by rw [hc, flatK_flat hk hk0]
        have e2 : (c.toList.take (s.n * k))[j]? = (Go.Sort.flatK enc k xs.toArray).toList[j]? := by rw [e1]
        rw [List.getElem?_take_of_lt hj, Array.getElem?_toList, Array.getElem?_toList] at e2
        rw [e2, Array.getElem?_eq_getElem (by rw [hfs]; exact hj), getElem!_pos _ j (by rw [hfs]; exact hj)]
      have hb' : w.heap[b]? = some (.cells c T (0, 0)) := hb
      refine ⟨?_, ?_⟩
      · unfold World.cell?
        simp only [hb', Nat.zero_add]
        exact hcj
      · unfold World.frozen?
        simp only [hb', Nat.zero_add]
        first | rfl | (rw [Bool.and_eq_false_iff]; exact Or.inr (decide_eq_false (Nat.not_lt_zero _)))
    have hcl : CmpLays P g cb enc k cf b 0 xs.toArray.size w := by
      intro m os dk hdk x y
      refine (hcmp x y _ ?_ _ rfl).mono ?_
      · intro b' hb1 hb2
        have hne : b' ≠ b := fun e => hb2 (mem_sBlk.2 ⟨_, hsa, e.symm⟩)
        unfold sortWorldK grow putRowK putRow mapBlock Go.Sort.ahead
        simp only
        rw [Array.getElem?_append_left (by simpa using hb1), Array.getElem?_modify, if_neg (Ne.symm hne)]
      · rintro e w' ⟨vs, rfl, hkp, rfl, he⟩
        exact ⟨rfl, grow_of hkp he⟩
    have hcon := AnyQ.slices_SortFunc_total L k aE zE enc hk h1 cf hO g cb b 0 s.c xs.toArray w eg hcl hH hbl (by rw [hsz]; omega) hT
    rw [hsz] at hcon
    refine hcon.mono ?_
    rintro e w' ⟨rfl, n, os, rfl⟩
    refine ⟨[], rfl, ⟨rfl, rfl, rfl, fun h => h.elim⟩, ?_⟩
    have hlen : (xs.mergeSort fun x y => !(ltOf cf) y x).length = s.n := by rw [List.length_mergeSort, hn]
    have hfs2 : (Go.Sort.flatK enc k (xs.mergeSort fun x y => !(ltOf cf) y x).toArray).size = s.n * k := by simp [hn]
    have hnew : (sortWorldK enc k w b 0 n (xs.mergeSort fun x y => !(ltOf cf) y x).toArray os).heap[b]? = some (.cells (putCells id 0 (Go.Sort.flatK enc k (xs.mergeSort fun x y => !(ltOf cf) y x).toArray) c) T (0, 0)) := by
      unfold sortWorldK grow putRowK putRow mapBlock Go.Sort.ahead
      simp only
      have hb' : w.heap[b]? = some (.cells c T (0, 0)) := hb
      rw [Array.getElem?_append_left (by simpa using hbl), Array.getElem?_modify, if_pos rfl, hb']
      rfl
    refine hQ _ ⟨hlen.symm, fun e => (by rw [hsa] at e; cases e), fun a ha => ?_⟩ ⟨?_, fun b' hb1 hb2 => ?_⟩
    · rw [hsa] at ha
      cases ha
      refine ⟨b, _, rfl, hlo, hnew, hnc, ?_, ?_⟩
      · unfold putCells
        simpa using hcs
      · have := putCells_take (Go.Sort.flatK enc k (xs.mergeSort fun x y => !(ltOf cf) y x).toArray) c (by rw [hfs2]; omega)
        rw [hfs2, flatK_flat hk hk0] at this
        exact this
    · unfold sortWorldK grow putRowK putRow mapBlock Go.Sort.ahead
      simp
    · have hne : b' ≠ b := fun e => hb2 (mem_sBlk.2 ⟨_, hsa, e.symm⟩)
      unfold sortWorldK grow putRowK putRow mapBlock Go.Sort.ahead
      simp only
      rw [Array.getElem?_append_left (by simpa using hb1), Array.getElem?_modify, if_neg (Ne.symm hne)]
end
end Go.Lift

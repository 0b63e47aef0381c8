/- Locks: lists in order; which modes bar which. -/
import Derived.Test.YtdgkfjbmlfmimaaGreatLvW
import Derived.Test.YtdgkfjbmlfmimaaGreatL10s
set_option linter.unusedSimpArgs false
set_option linter.unusedVariables false
namespace Go.Lift
open Go
def Asc (l : List Int) : Prop := l.Pairwise (· < ·)
theorem asc_nodup {l : List Int} (h : Asc l) : l.Nodup := h.imp fun h => Int.ne_of_lt h
theorem asc_ext : ∀ {l l' : List Int}, Asc l → Asc l' → (∀ x, x ∈ l ↔ x ∈ l') → l = l'
  | [], [], _, _, _ => rfl
  | [], a :: l', _, _, h => by have := (h a).2 (by simp); cases this
  | a :: l, [], _, _, h => by have := (h a).1 (by simp); cases this
  | a :: l, b :: l', h1, h2, h => by
    obtain ⟨p1, p2⟩ := List.pairwise_cons.1 h1
    obtain ⟨q1, q2⟩ := List.pairwise_cons.1 h2
    have hab : a = b := by
      rcases List.mem_cons.1 ((h a).1 (by simp)) with g | g
      · exact g
      · rcases List.mem_cons.1 ((h b).2 (by simp)) with g2 | g2
        · exact g2.symm
        · have := q1 a g
          have := p1 b g2
          omega
    subst hab
    rw [asc_ext p2 q2 fun x => ?_]
    constructor
    · intro hx
      rcases List.mem_cons.1 ((h x).1 (List.mem_cons_of_mem _ hx)) with g | g
      · subst g; exact absurd (p1 x hx) (by omega)
      · exact g
    · intro hx
      rcases List.mem_cons.1 ((h x).2 (List.mem_cons_of_mem _ hx)) with g | g
      · subst g; exact absurd (q1 x hx) (by omega)
      · exact g
theorem sortI_mem {l : List Int} {x : Int} : x ∈ sortI l ↔ x ∈ l := by unfold sortI; exact List.mem_mergeSort
theorem sortI_len (l : List Int) : (sortI l).length = l.length := by unfold sortI; exact List.length_mergeSort _
theorem sortI_asc {l : List Int} (hn : l.Nodup) : Asc (sortI l) := by
  have h1 : (sortI l).Pairwise fun a b => decide (a ≤ b) = true := by
    unfold sortI
    exact List.pairwise_mergeSort (fun a b c h1 h2 => by simp at *; omega) (fun a b => by simp; omega) l
  have h2 : (sortI l).Nodup := by
    unfold sortI
    exact (List.mergeSort_perm _ _).nodup_iff.2 hn
  unfold Asc
  refine (h1.and h2).imp fun {a b} h => ?_
  have := h.1
  simp at this
  have := h.2
  omega
theorem nodup_eraseDups {α : Type} [BEq α] [LawfulBEq α] {l : List α} : l.eraseDups.Nodup := by
  induction h : l.length using Nat.strongRecOn generalizing l with
  | ind n ih =>
    cases l with
    | nil => simp
    | cons a l =>
      rw [List.eraseDups_cons, List.nodup_cons]
      refine ⟨fun hm => ?_, ih _ ?_ rfl⟩
      · have := List.mem_eraseDups.1 hm
        rw [List.mem_filter] at this
        simp at this
      · subst h
        have := List.length_filter_le (fun b => !b == a) l
        simp only [List.length_cons]
        omega
/-! Strings in their order. -/
theorem bl_lt : ∀ x y : List UInt8, Op.bytesLess x y = true ↔ x < y
  | [], [] => by simp [Op.bytesLess]
  | [], _ :: _ => by simp [Op.bytesLess]
  | _ :: _, [] => by simp [Op.bytesLess]
  | a :: x, b :: y => by
    rw [List.cons_lt_cons_iff, ← bl_lt x y]
    simp [Op.bytesLess]
theorem toList_btl (s : ByteArray) : s.toList = btl s := by rw [ByteArray.toList_eq]; rfl
theorem sLt_btl (a b : ByteArray) : sLt a b = true ↔ btl a < btl b := by unfold sLt; rw [bl_lt, toList_btl, toList_btl]
theorem inOrder_nodup {l : List ByteArray} (h : InOrder l) : l.Nodup := h.imp fun {a b} h e => by subst e; rw [sLt_irrefl] at h; cases h
theorem inOrder_ext : ∀ {l l' : List ByteArray}, InOrder l → InOrder l' → (∀ x, x ∈ l ↔ x ∈ l') → l = l'
  | [], [], _, _, _ => rfl
  | [], a :: l', _, _, h => by have := (h a).2 (by simp); cases this
  | a :: l, [], _, _, h => by have := (h a).1 (by simp); cases this
  | a :: l, b :: l', h1, h2, h => by
    obtain ⟨p1, p2⟩ := List.pairwise_cons.1 h1
    obtain ⟨q1, q2⟩ := List.pairwise_cons.1 h2
    have hab : a = b := by
      rcases List.mem_cons.1 ((h a).1 (by simp)) with g | g
      · exact g
      · rcases List.mem_cons.1 ((h b).2 (by simp)) with g2 | g2
        · exact g2.symm
        · have := sLt_trans (q1 a g) (p1 b g2)
          rw [sLt_irrefl] at this
          cases this
    subst hab
    rw [inOrder_ext p2 q2 fun x => ?_]
    constructor
    · intro hx
      rcases List.mem_cons.1 ((h x).1 (List.mem_cons_of_mem _ hx)) with g | g
      · subst g; have := p1 x hx; rw [sLt_irrefl] at this; cases this
      · exact g
    · intro hx
      rcases List.mem_cons.1 ((h x).2 (List.mem_cons_of_mem _ hx)) with g | g
      · subst g; have := q1 x hx; rw [sLt_irrefl] at this; cases this
      · exact g
theorem sortS_mem {l : List ByteArray} {x : ByteArray} : x ∈ sortS l ↔ x ∈ l := by
  unfold sortS
  rw [List.mem_map]
  constructor
  · rintro ⟨y, h, rfl⟩
    obtain ⟨z, hz, rfl⟩ := List.mem_map.1 (List.mem_mergeSort.1 h)
    rw [ofBtl_btl]
    exact hz
  · intro h
    exact ⟨btl x, List.mem_mergeSort.2 (List.mem_map.2 ⟨x, h, rfl⟩), ofBtl_btl x⟩
theorem sortS_len (l : List ByteArray) : (sortS l).length = l.length := by unfold sortS; rw [List.length_map, List.length_mergeSort, List.length_map]
theorem sortS_ord {l : List ByteArray} (hn : l.Nodup) : InOrder (sortS l) := by
  unfold sortS InOrder
  rw [List.pairwise_map]
  have h1 : ((l.map btl).mergeSort fun x y => decide (x ≤ y)).Pairwise fun a b => decide (a ≤ b) = true := by
    refine List.pairwise_mergeSort (fun a b c h1 h2 => ?_) (fun a b => ?_) _
    · simp only [decide_eq_true_eq] at *
      exact List.le_trans h1 h2
    · simp only [Bool.or_eq_true, decide_eq_true_eq]
      exact List.le_total a b
  have h2 : ((l.map btl).mergeSort fun x y => decide (x ≤ y)).Nodup := by
    refine (List.mergeSort_perm _ _).nodup_iff.2 ?_
    exact hn.map btl fun a b hne e => hne (btl_inj e)
  refine (h1.and h2).imp fun {a b} h => ?_
  rw [sLt_btl, btl_ofBtl, btl_ofBtl]
  have h3 := h.1
  simp only [decide_eq_true_eq] at h3
  rcases List.le_iff_lt_or_eq.1 h3 with g | g
  · exact g
  · exact absurd g h.2
theorem sortS_nodup {l : List ByteArray} (hn : l.Nodup) : (sortS l).Nodup := inOrder_nodup (sortS_ord hn)
end Go.Lift

/- Who waits for whom: the knots, by definition. -/
import Derived.Test.YtdfehndegjmngaaW07k
set_option linter.unusedSimpArgs false
set_option linter.unusedVariables false
namespace Go.Lift
open Go
def Asc (l : List Int) : Prop := l.Pairwise (· < ·)
theorem asc_nodup {l : List Int} (h : Asc l) : l.Nodup := h.imp fun h => Int.ne_of_lt h
theorem asc_ext : ∀ {l l' : List Int}, Asc l → Asc l' → (∀ x, x ∈ l ↔ x ∈ l') → l = l'
  | [], [], _, _, _ => rfl
  | [], a :: l', _, _, h => by have := (h a).2 (by simp); cases this
  | a :: l, [], _, _, h => by have := (h a).1 (by simp); cases this
  | a :: l, b :: l', h1, h2, h => by
    obtain ⟨p1, p2⟩ := List.pairwise_cons.1 h1
    obtain ⟨q1, q2⟩ := List.pairwise_cons.1 h2
    have hab : a = b := by
      rcases List.mem_cons.1 ((h a).1 (by simp)) with g | g
      · exact g
      · rcases List.mem_cons.1 ((h b).2 (by simp)) with g2 | g2
        · exact g2.symm
        · have := q1 a g
          have := p1 b g2
          omega
    subst hab
    rw [asc_ext p2 q2 fun x => ?_]
    constructor
    · intro hx
      rcases List.mem_cons.1 ((h x).1 (List.mem_cons_of_mem _ hx)) with g | g
      · subst g; exact absurd (p1 x hx) (by omega)
      · exact g
    · intro hx
      rcases List.mem_cons.1 ((h x).2 (List.mem_cons_of_mem _ hx)) with g | g
      · subst g; exact absurd (q1 x hx) (by omega)
      · exact g
theorem sortI_mem {l : List Int} {x : Int} : x ∈ sortI l ↔ x ∈ l := by unfold sortI; exact List.mem_mergeSort
theorem sortI_len (l : List Int) : (sortI l).length = l.length := by unfold sortI; exact List.length_mergeSort _
theorem sortI_asc {l : List Int} (hn : l.Nodup) : Asc (sortI l) := by
  have h1 : (sortI l).Pairwise fun a b => decide (a ≤ b) = true := by
    unfold sortI
    exact List.pairwise_mergeSort (fun a b c h1 h2 => by simp at *; omega) (fun a b => by simp; omega) l
  have h2 : (sortI l).Nodup := by
    unfold sortI
    exact (List.mergeSort_perm _ _).nodup_iff.2 hn
  unfold Asc
  refine (h1.and h2).imp fun {a b} h => ?_
  have := h.1
  simp at this
  have := h.2
  omega
/-- Both wait for each other. -/
def Mut (E : List Edge) (a b : Int) : Prop := Rch E a b ∧ Rch E b a
theorem Mut.symm {E : List Edge} {a b : Int} (h : Mut E a b) : Mut E b a := ⟨h.2, h.1⟩
theorem Mut.trans {E : List Edge} {a b c : Int} (h : Mut E a b) (g : Mut E b c) : Mut E a c := ⟨h.1.trans g.1, g.2.trans h.2⟩
theorem Mut.self {E : List Edge} {a b : Int} (h : Mut E a b) : Rch E a a := h.1.trans h.2
/-- All nodes, rising, each once. -/
def nodesS (E : List Edge) : List Int := sortI ((E.map Prod.fst ++ E.map Prod.snd).eraseDups)
theorem nodup_eraseDups {l : List Int} : l.eraseDups.Nodup := by
  induction h : l.length using Nat.strongRecOn generalizing l with
  | ind n ih =>
    cases l with
    | nil => simp
    | cons a l =>
      rw [List.eraseDups_cons, List.nodup_cons]
      refine ⟨fun hm => ?_, ih _ ?_ rfl⟩
      · have := List.mem_eraseDups.1 hm
        rw [List.mem_filter] at this
        simp at this
      · subst h
        have := List.length_filter_le (fun b => !b == a) l
        simp only [List.length_cons]
        omega
theorem nodesS_asc (E : List Edge) : Asc (nodesS E) := sortI_asc nodup_eraseDups
theorem nodesS_mem {E : List Edge} {x : Int} : x ∈ nodesS E ↔ (∃ y, (x, y) ∈ E) ∨ ∃ y, (y, x) ∈ E := by
  unfold nodesS
  rw [sortI_mem, List.mem_eraseDups, List.mem_append, List.mem_map, List.mem_map]
  constructor
  · rintro (⟨⟨a, b⟩, h, rfl⟩ | ⟨⟨a, b⟩, h, rfl⟩)
    · exact Or.inl ⟨b, h⟩
    · exact Or.inr ⟨a, h⟩
  · rintro (⟨y, h⟩ | ⟨y, h⟩)
    · exact Or.inl ⟨_, h, rfl⟩
    · exact Or.inr ⟨_, h, rfl⟩
open Classical in
/-- A node's knot. -/
noncomputable def knotOf (E : List Edge) (n : Int) : List Int := (nodesS E).filter fun t => decide (Mut E n t)
open Classical in
/-- Is a node the least of a knot? -/
noncomputable def isLeast (E : List Edge) (n : Int) : Bool := decide (Rch E n n ∧ ∀ m, Mut E n m → n ≤ m)
/-- The knots, each rising, by their least. -/
noncomputable def circ (E : List Edge) : List (List Int) := ((nodesS E).filter (isLeast E)).map (knotOf E)
theorem isLeast_iff {E : List Edge} {n : Int} : isLeast E n = true ↔ Rch E n n ∧ ∀ m, Mut E n m → n ≤ m := by unfold isLeast; simp only [decide_eq_true_eq]
theorem knot_mem {E : List Edge} {n t : Int} : t ∈ knotOf E n ↔ Mut E n t := by
  unfold knotOf
  rw [List.mem_filter]
  simp only [decide_eq_true_eq]
  constructor
  · exact fun h => h.2
  · exact fun h => ⟨nodesS_mem.2 (Or.inl h.2.src), h⟩
theorem knot_asc (E : List Edge) (n : Int) : Asc (knotOf E n) := (nodesS_asc E).sublist List.filter_sublist
theorem circ_congr {E E' : List Edge} (h : ∀ e, e ∈ E ↔ e ∈ E') : circ E = circ E' := by
  have hr : ∀ a b, Rch E a b ↔ Rch E' a b := fun a b => ⟨Rch.mono fun e he => (h e).1 he, Rch.mono fun e he => (h e).2 he⟩
  have hm : ∀ a b, Mut E a b ↔ Mut E' a b := fun a b => by unfold Mut; rw [hr, hr]
  have hn : nodesS E = nodesS E' := asc_ext (nodesS_asc E) (nodesS_asc E') fun x => by
    rw [nodesS_mem, nodesS_mem]
    simp only [h]
  have hk : knotOf E = knotOf E' := by
    funext n
    refine asc_ext (knot_asc E n) (knot_asc E' n) fun x => ?_
    rw [knot_mem, knot_mem, hm]
  have hl : isLeast E = isLeast E' := by
    funext n
    rw [Bool.eq_iff_iff, isLeast_iff, isLeast_iff, hr]
    simp only [hm]
  unfold circ
  rw [hn, hk, hl]
/-- Every knot has a least node. -/
theorem least_of {E : List Edge} {n : Int} (h : Rch E n n) : ∃ m, isLeast E m = true ∧ Mut E n m := by
  have hn : n ∈ knotOf E n := knot_mem.2 ⟨h, h⟩
  cases hk : knotOf E n with
  | nil => rw [hk] at hn; cases hn
  | cons m l =>
    have hm : Mut E n m := knot_mem.1 (by rw [hk]; simp)
    refine ⟨m, isLeast_iff.2 ⟨hm.symm.self, fun k hk2 => ?_⟩, hm⟩
    have : k ∈ knotOf E n := knot_mem.2 (hm.trans hk2)
    rw [hk] at this
    have ha := knot_asc E n
    rw [hk] at ha
    rcases List.mem_cons.1 this with g | g
    · omega
    · have := (List.pairwise_cons.1 ha).1 k g
      omega
theorem circ_nil {E : List Edge} : circ E = [] ↔ ∀ n, ¬ Rch E n n := by
  unfold circ
  rw [List.map_eq_nil_iff, List.filter_eq_nil_iff]
  constructor
  · intro h n hn
    obtain ⟨m, h1, h2⟩ := least_of hn
    exact h m (nodesS_mem.2 (Or.inl h2.2.src)) h1
  · intro h n _ hl
    exact h n (isLeast_iff.1 hl).1
end Go.Lift

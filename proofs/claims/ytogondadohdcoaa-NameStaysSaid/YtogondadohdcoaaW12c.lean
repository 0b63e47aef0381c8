/- Names: their versions, the plain model; the names in memory. -/
import Derived.Test.YtogondadohdcoaaW12i
import Derived.Test.YtogondadohdcoaaLvW
set_option linter.unusedSimpArgs false
set_option linter.unusedVariables false
namespace Go.Lift
open Go Go.Proofs Go.RowKit Go.Shelf
set_option maxRecDepth 100000
structure ColM where
  name : ByteArray
  kind : Int
  nn : Bool
  dk : Int
  dn : Int
  df : Nat
  ds : ByteArray
  deriving DecidableEq
abbrev encC (c : ColM) : List Value := [.string c.name, .int .i64 c.kind, .bool c.nn, .int .i64 c.dk, .int .i64 c.dn, .float .f64 c.df, .string c.ds]
theorem encC_len (c : ColM) : (encC c).length = 7 := rfl
theorem encC_one (c : ColM) : ∀ v ∈ encC c, oneCell v = true := by
  intro v hv
  simp at hv
  rcases hv with rfl | rfl | rfl | rfl | rfl | rfl | rfl <;> rfl
theorem zc_col : (zc PP T_api_Column).size = 7 := by kernel_rfl
/-- A table, plain; a table in memory. -/
structure TM where
  name : ByteArray
  cl : List ColM
  rel : Int
structure TW where
  name : ByteArray
  s : Sl
  cl : List ColM
  rel : Int
def TW.m (t : TW) : TM := ⟨t.name, t.cl, t.rel⟩
abbrev encTW (t : TW) : List Value := [.string t.name, .slice t.s.a t.s.n t.s.c, .int .i64 t.rel]
theorem encTW_len (t : TW) : (encTW t).length = 3 := rfl
theorem encTW_one (t : TW) : ∀ v ∈ encTW t, oneCell v = true := by
  intro v hv
  simp at hv
  rcases hv with rfl | rfl | rfl <;> rfl
theorem zc_tab : (zc PP T_api_Table).size = 3 := by kernel_rfl
structure VM where
  xmin : Int
  xmax : Int
  t : TM
structure VW where
  xmin : Int
  xmax : Int
  t : TW
def VW.m (v : VW) : VM := ⟨v.xmin, v.xmax, v.t.m⟩
abbrev encVW (v : VW) : List Value := [.int .i64 v.xmin, .int .i64 v.xmax, .string v.t.name, .slice v.t.s.a v.t.s.n v.t.s.c, .int .i64 v.t.rel]
theorem encVW_len (t : VW) : (encVW t).length = 5 := rfl
theorem encVW_one (t : VW) : ∀ v ∈ encVW t, oneCell v = true := by
  intro v hv
  simp at hv
  rcases hv with rfl | rfl | rfl | rfl | rfl <;> rfl
theorem zc_ver : (zc PP T_name_version).size = 5 := by kernel_rfl
abbrev NM := List (ByteArray × List VM)
def vsN (N : NM) (k : ByteArray) : List VM := (afind N k).getD []
def seesV (L : LM) (x : Int) (v : VM) : Bool := seesL L x v.xmin && !(decide (v.xmax ≠ 0 ∧ (txL L v.xmax).state ≠ 3) && seesL L x v.xmax)
def atV (L : LM) (x : Int) : List VM → Nat → Int
  | [], _ => -1
  | v :: l, i => if seesV L x v = true then (i : Int) else atV L x l (i + 1)
def atN (L : LM) (N : NM) (x : Int) (k : ByteArray) : Int := atV L x (vsN N k) 0
def seeN (L : LM) (N : NM) (x : Int) (k : ByteArray) : Option VM := (vsN N k).find? (seesV L x)
theorem atV_find (L : LM) (x : Int) : ∀ (l : List VM) (i : Nat), (atV L x l i = -1 ∧ l.find? (seesV L x) = none) ∨ (∃ j, atV L x l i = ((i + j : Nat) : Int) ∧ ∃ hj : j < l.length, l.find? (seesV L x) = some l[j] ∧ seesV L x l[j] = true)
  | [], i => Or.inl ⟨rfl, rfl⟩
  | v :: l, i => by
    unfold atV
    by_cases hv : seesV L x v = true
    · right
      refine ⟨0, by rw [if_pos hv]; rfl, by simp, ?_, by simpa using hv⟩
      rw [List.find?_cons_of_pos hv]
      rfl
    · rw [if_neg hv, List.find?_cons_of_neg hv]
      rcases atV_find L x l (i + 1) with ⟨a, b⟩ | ⟨j, a, hj, b, c⟩
      · exact Or.inl ⟨a, b⟩
      · refine Or.inr ⟨j + 1, by rw [a]; congr 1; omega, by simpa using hj, by simpa using b, by simpa using c⟩
def whoP (L : LM) (x w : Int) : Bool := decide (w ≠ 0 ∧ (txL L w).state ≠ 3) && !seesL L x w
def metN (l : List Int) (w : Int) : List Int := if w ∈ l then l else l ++ [w]
def metV (L : LM) (x : Int) (l : List Int) (v : VM) : List Int := [v.xmin, v.xmax].foldl (fun l w => if whoP L x w = true then metN l w else l) l
def metsV (L : LM) (x : Int) (vs : List VM) : List Int := vs.foldl (metV L x) []
theorem mem_metN {l : List Int} {w y : Int} : y ∈ metN l w ↔ y ∈ l ∨ y = w := by
  unfold metN
  split
  · rename_i h
    constructor
    · exact Or.inl
    · rintro (h1 | rfl)
      · exact h1
      · exact h
  · simp
theorem mem_metV {L : LM} {x : Int} {l : List Int} {v : VM} {y : Int} : y ∈ metV L x l v ↔ y ∈ l ∨ ((y = v.xmin ∨ y = v.xmax) ∧ whoP L x y = true) := by
  unfold metV
  simp only [List.foldl_cons, List.foldl_nil]
  by_cases h1 : whoP L x v.xmin = true <;> by_cases h2 : whoP L x v.xmax = true <;> simp only [h1, h2, if_true, if_false, mem_metN, Bool.false_eq_true]
  · constructor
    · rintro ((h | rfl) | rfl)
      · exact Or.inl h
      · exact Or.inr ⟨Or.inl rfl, h1⟩
      · exact Or.inr ⟨Or.inr rfl, h2⟩
    · rintro (h | ⟨rfl | rfl, _⟩)
      · exact Or.inl (Or.inl h)
      · exact Or.inl (Or.inr rfl)
      · exact Or.inr rfl
  · constructor
    · rintro (h | rfl)
      · exact Or.inl h
      · exact Or.inr ⟨Or.inl rfl, h1⟩
    · rintro (h | ⟨rfl | rfl, h⟩)
      · exact Or.inl h
      · exact Or.inr rfl
      · exact absurd h h2
  · constructor
    · rintro (h | rfl)
      · exact Or.inl h
      · exact Or.inr ⟨Or.inr rfl, h2⟩
    · rintro (h | ⟨rfl | rfl, h⟩)
      · exact Or.inl h
      · exact absurd h h1
      · exact Or.inr rfl
  · constructor
    · exact Or.inl
    · rintro (h | ⟨rfl | rfl, h⟩)
      · exact h
      · exact absurd h h1
      · exact absurd h h2
theorem mem_foldV {L : LM} {x y : Int} : ∀ (vs : List VM) (l : List Int), y ∈ vs.foldl (metV L x) l ↔ y ∈ l ∨ ((∃ v ∈ vs, y = v.xmin ∨ y = v.xmax) ∧ whoP L x y = true)
  | [], l => by simp
  | v :: vs, l => by
    rw [List.foldl_cons, mem_foldV vs, mem_metV]
    constructor
    · rintro ((h | ⟨h1, h2⟩) | ⟨⟨u, hu, h1⟩, h2⟩)
      · exact Or.inl h
      · exact Or.inr ⟨⟨v, by simp, h1⟩, h2⟩
      · exact Or.inr ⟨⟨u, by simp [hu], h1⟩, h2⟩
    · rintro (h | ⟨⟨u, hu, h1⟩, h2⟩)
      · exact Or.inl (Or.inl h)
      · rcases List.mem_cons.1 hu with rfl | hu
        · exact Or.inl (Or.inr ⟨h1, h2⟩)
        · exact Or.inr ⟨⟨u, hu, h1⟩, h2⟩
theorem mem_metsV {L : LM} {x y : Int} {vs : List VM} : y ∈ metsV L x vs ↔ (∃ v ∈ vs, y = v.xmin ∨ y = v.xmax) ∧ whoP L x y = true := by
  unfold metsV
  rw [mem_foldV]
  simp
def unseenN (L : LM) (N : NM) (x : Int) (k : ByteArray) : List Int := sortI (metsV L x (vsN N k))
def mayN (L : LM) (N : NM) (x : Int) (k : ByteArray) : Int × Int :=
  match (unseenN L N x k).find? (fun w => decide ((txL L w).state = 1)) with
  | some w => (75, w)
  | none => match unseenN L N x k with
    | [] => (0, 0)
    | w :: _ => (71, w)
def goneP (L : LM) (x : Int) (v : VM) : Bool := decide ((txL L v.xmin).state ≠ 3) && !(decide (v.xmax ≠ 0 ∧ (txL L v.xmax).state = 2) && seesL L x v.xmax)
def othersN (L : LM) (N : NM) (x : Int) (k : ByteArray) : Nat := ((N.map Prod.fst).filter fun j => decide (j ≠ k) && (vsN N j).any (goneP L x)).length
def idxP {α : Type} (p : α → Bool) : List α → Nat → Int
  | [], _ => -1
  | v :: l, i => if p v = true then (i : Int) else idxP p l (i + 1)
theorem idxP_cons {α : Type} (p : α → Bool) (v : α) (l : List α) (i : Nat) : idxP p (v :: l) i = if p v = true then (i : Int) else idxP p l (i + 1) := rfl
theorem idxP_find {α : Type} (p : α → Bool) : ∀ (l : List α) (i : Nat), (idxP p l i = -1 ∧ l.find? p = none ∧ l.any p = false) ∨ (∃ j, idxP p l i = ((i + j : Nat) : Int) ∧ l.any p = true ∧ ∃ hj : j < l.length, l.find? p = some l[j])
  | [], i => Or.inl ⟨rfl, rfl, rfl⟩
  | v :: l, i => by
    rw [idxP_cons]
    by_cases hv : p v = true
    · right
      refine ⟨0, by rw [if_pos hv]; rfl, by simp [hv], by simp, ?_⟩
      rw [List.find?_cons_of_pos hv]
      rfl
    · rw [if_neg hv, List.find?_cons_of_neg hv]
      rcases idxP_find p l (i + 1) with ⟨a, b, c⟩ | ⟨j, a, c, hj, b⟩
      · exact Or.inl ⟨a, b, by simp [hv, c]⟩
      · exact Or.inr ⟨j + 1, by rw [a]; congr 1; omega, by simp [c], by simpa using hj, by simpa using b⟩
end Go.Lift

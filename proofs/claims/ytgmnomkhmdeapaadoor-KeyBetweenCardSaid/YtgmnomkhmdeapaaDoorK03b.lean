/- Bytes in their order: codes that part at a byte. -/
import Derived.Test.YtgmnomkhmdeapaaDoorW06a
set_option linter.unusedSimpArgs false
set_option linter.unusedVariables false
namespace Go.Lift
/-- Two texts part at a byte, and the first one has the lower one there. -/
inductive PartL : List UInt8 → List UInt8 → Prop where
  | here {c d : UInt8} {x y : List UInt8} : c < d → PartL (c :: x) (d :: y)
  | next {c : UInt8} {x y : List UInt8} : PartL x y → PartL (c :: x) (c :: y)
theorem PartL.app {x y : List UInt8} (h : PartL x y) (u v : List UInt8) : PartL (x ++ u) (y ++ v) := by
  induction h with
  | here h => exact .here h
  | next _ ih => exact .next ih
theorem PartL.pre {x y : List UInt8} (h : PartL x y) (p : List UInt8) : PartL (p ++ x) (p ++ y) := by
  induction p with
  | nil => exact h
  | cons c p ih => exact .next ih
theorem PartL.lt {x y : List UInt8} (h : PartL x y) : x < y := by
  induction h with
  | here h => exact List.cons_lt_cons_iff.2 (Or.inl h)
  | next _ ih => exact List.cons_lt_cons_iff.2 (Or.inr ⟨rfl, ih⟩)
theorem PartL.ne {x y : List UInt8} (h : PartL x y) : x ≠ y := by
  intro e
  subst e
  have := h.lt
  exact List.lt_irrefl _ this
theorem PartL.nlt {x y : List UInt8} (h : PartL x y) : ¬ y < x := fun h2 => List.lt_irrefl _ (List.lt_trans h.lt h2)
theorem PartL.npre {x y : List UInt8} (h : PartL x y) : ¬ x <+: y ∧ ¬ y <+: x := by
  induction h with
  | here h =>
    constructor
    · intro hp
      have := (List.cons_prefix_cons.1 hp).1
      subst this
      exact UInt8.lt_irrefl _ h
    · intro hp
      have := (List.cons_prefix_cons.1 hp).1
      subst this
      exact UInt8.lt_irrefl _ h
  | next _ ih =>
    exact ⟨fun hp => ih.1 (List.cons_prefix_cons.1 hp).2, fun hp => ih.2 (List.cons_prefix_cons.1 hp).2⟩
/-- The k bytes of a number, the highest first. -/
def beL : Nat → Nat → List UInt8
  | 0, _ => []
  | k + 1, u => UInt8.ofNat (u / 256 ^ k % 256) :: beL k u
theorem beL_len (k u : Nat) : (beL k u).length = k := by
  induction k with
  | zero => rfl
  | succ k ih => simp [beL, ih]
theorem beL_mod (k u : Nat) : beL k (u % 256 ^ k) = beL k u := by
  have gen : ∀ k m, k ≤ m → beL k (u % 256 ^ m) = beL k u := by
    intro k
    induction k with
    | zero => intro m _; rfl
    | succ k ih =>
      intro m hm
      unfold beL
      rw [ih m (by omega)]
      congr 2
      have h1 : 256 ^ m = 256 ^ k * 256 ^ (m - k) := by rw [← Nat.pow_add]; congr 1; omega
      rw [h1, Nat.mod_mul_right_div_self]
      obtain ⟨j, hj⟩ : ∃ j, m - k = j + 1 := ⟨m - k - 1, by omega⟩
      rw [hj, Nat.pow_succ, Nat.mod_mul_left_mod]
  exact gen k k (Nat.le_refl _)
theorem ofNat_lt {a b : Nat} (hb : b < 256) (h : a < b) : UInt8.ofNat a < UInt8.ofNat b := by
  rw [UInt8.lt_iff_toNat_lt, UInt8.toNat_ofNat', UInt8.toNat_ofNat']
  omega
theorem beL_part {k u w : Nat} (hu : u < 256 ^ k) (hw : w < 256 ^ k) (h : u < w) : PartL (beL k u) (beL k w) := by
  induction k generalizing u w with
  | zero => simp at hu hw; omega
  | succ k ih =>
    unfold beL
    have hp : 0 < 256 ^ k := Nat.pow_pos (by decide)
    rw [Nat.pow_succ] at hu hw
    have hu2 : u / 256 ^ k < 256 := (Nat.div_lt_iff_lt_mul hp).2 (by rw [Nat.mul_comm]; exact hu)
    have hw2 : w / 256 ^ k < 256 := (Nat.div_lt_iff_lt_mul hp).2 (by rw [Nat.mul_comm]; exact hw)
    rw [Nat.mod_eq_of_lt hu2, Nat.mod_eq_of_lt hw2]
    have hle : u / 256 ^ k ≤ w / 256 ^ k := Nat.div_le_div_right (by omega)
    rcases Nat.lt_or_ge (u / 256 ^ k) (w / 256 ^ k) with g | g
    · exact .here (ofNat_lt hw2 g)
    · have he : u / 256 ^ k = w / 256 ^ k := by omega
      rw [he]
      refine .next ?_
      rw [← beL_mod k u, ← beL_mod k w]
      refine ih (Nat.mod_lt _ hp) (Nat.mod_lt _ hp) ?_
      have h1 := Nat.div_add_mod u (256 ^ k)
      have h2 := Nat.div_add_mod w (256 ^ k)
      rw [he] at h1
      omega
/-- The number of bytes. -/
def numL (l : List UInt8) : Nat := l.foldl (fun u c => u * 256 + c.toNat) 0
theorem numL_foldl (l : List UInt8) (a : Nat) : l.foldl (fun u c => u * 256 + c.toNat) a = a * 256 ^ l.length + numL l := by
  unfold numL
  induction l generalizing a with
  | nil => simp
  | cons c l ih =>
    rw [List.foldl_cons, List.foldl_cons, ih, ih (0 * 256 + c.toNat), List.length_cons, Nat.pow_succ]
    rw [Nat.add_mul, Nat.zero_mul, Nat.zero_add, Nat.mul_assoc, Nat.mul_comm 256, Nat.add_assoc]
theorem numL_cons (c : UInt8) (l : List UInt8) : numL (c :: l) = c.toNat * 256 ^ l.length + numL l := by
  show (c :: l).foldl _ 0 = _
  rw [List.foldl_cons, numL_foldl]
  simp
theorem numL_lt (l : List UInt8) : numL l < 256 ^ l.length := by
  induction l with
  | nil => simp [numL]
  | cons c l ih =>
    rw [numL_cons, List.length_cons, Nat.pow_succ]
    have hc : c.toNat ≤ 255 := by have := c.toNat_lt; omega
    have := Nat.mul_le_mul_right (256 ^ l.length) hc
    omega
theorem beL_num (l : List UInt8) : beL l.length (numL l) = l := by
  induction l with
  | nil => rfl
  | cons c l ih =>
    rw [List.length_cons]
    unfold beL
    have hl := numL_lt l
    have hp : 0 < 256 ^ l.length := Nat.pow_pos (by decide)
    have h1 : numL (c :: l) / 256 ^ l.length = c.toNat := by
      rw [numL_cons, Nat.add_comm, Nat.mul_comm, Nat.add_mul_div_left _ _ hp, Nat.div_eq_of_lt hl, Nat.zero_add]
    have h2 : numL (c :: l) % 256 ^ l.length = numL l := by
      rw [numL_cons, Nat.add_comm, Nat.mul_comm, Nat.add_mul_mod_self_left, Nat.mod_eq_of_lt hl]
    rw [h1, ← beL_mod l.length (numL (c :: l)), h2, ih]
    congr 1
    have := c.toNat_lt
    rw [Nat.mod_eq_of_lt (by omega)]
    simp
theorem num_beL {k u : Nat} (hu : u < 256 ^ k) : numL (beL k u) = u := by
  induction k generalizing u with
  | zero => simp at hu; subst hu; rfl
  | succ k ih =>
    unfold beL
    have hp : 0 < 256 ^ k := Nat.pow_pos (by decide)
    rw [Nat.pow_succ] at hu
    have hu2 : u / 256 ^ k < 256 := (Nat.div_lt_iff_lt_mul hp).2 (by rw [Nat.mul_comm]; exact hu)
    rw [numL_cons, beL_len, ← beL_mod k u, ih (Nat.mod_lt _ hp), UInt8.toNat_ofNat', Nat.mod_eq_of_lt hu2, Nat.mod_eq_of_lt (by omega)]
    have := Nat.div_add_mod u (256 ^ k)
    rw [Nat.mul_comm] at this
    exact this
/-! texts -/
def escL (l : List UInt8) : List UInt8 := l.flatMap fun c => if c = 0 then [0, 255] else [c]
def endL2 : List UInt8 := [0, 1]
theorem escL_cons (c : UInt8) (l : List UInt8) : escL (c :: l) = (if c = 0 then [0, 255] else [c]) ++ escL l := rfl
theorem zero_lt8 {c : UInt8} (h : c ≠ 0) : (0 : UInt8) < c := by
  rw [UInt8.lt_iff_toNat_lt]
  have : c.toNat ≠ 0 := fun e => h (UInt8.toNat_inj.1 (by rw [e]; rfl))
  show 0 < c.toNat
  omega
theorem esc_part {s t : List UInt8} (h : s < t) : PartL (escL s ++ endL2) (escL t ++ endL2) := by
  induction t generalizing s with
  | nil => cases s <;> simp at h
  | cons b t ih =>
    cases s with
    | nil =>
      rw [escL_cons]
      by_cases hb : b = 0
      · subst hb
        exact .next (.here (by decide))
      · rw [if_neg hb]
        exact .here (zero_lt8 hb)
    | cons a s =>
      rw [escL_cons, escL_cons]
      rcases List.cons_lt_cons_iff.1 h with g | ⟨rfl, g⟩
      · have hb : b ≠ 0 := fun e => by subst e; rw [UInt8.lt_iff_toNat_lt] at g; simp at g
        rw [if_neg hb]
        by_cases ha : a = 0
        · subst ha
          exact .here (zero_lt8 hb)
        · rw [if_neg ha]
          exact .here g
      · rw [List.append_assoc, List.append_assoc]
        exact (ih g).pre _
end Go.Lift

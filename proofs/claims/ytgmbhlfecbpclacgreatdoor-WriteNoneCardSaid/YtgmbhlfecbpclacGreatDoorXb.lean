/- The evaluator's values and heap, related to the model's. -/
import Derived.Test.YtgmbhlfecbpclacGreatDoorXa
import Derived.Test.YtgmbhlfecbpclacGreatDoorLvM
set_option linter.unusedSimpArgs false
set_option linter.unusedVariables false
namespace Go.Lift
open Go

/-! ### lists -/
theorem nthX_eq {α : Type} : ∀ (l : List α) (n : Nat), nthX l n = l[n]?
  | [], n => by show none = _; simp
  | x :: l, 0 => by show some x = _; simp
  | x :: l, n + 1 => by show nthX l n = _; rw [nthX_eq l n]; simp
theorem setK_eq {α : Type} (y : α) : ∀ (l : List α) (K : List α → Option (List α)) (n : Nat), setK y l K n = if n < l.length then K (l.set n y) else none
  | [], K, n => by show none = _; simp
  | x :: l, K, 0 => by show K (y :: l) = _; simp
  | x :: l, K, n + 1 => by
    show setK y l (fun r => K (x :: r)) n = _
    rw [setK_eq y l _ n]
    by_cases h : n < l.length
    · rw [if_pos h, if_pos (by simp; omega)]; simp
    · rw [if_neg h, if_neg (by simp; omega)]
theorem setX_eq {α : Type} (l : List α) (n : Nat) (y : α) : setX l n y = if n < l.length then some (l.set n y) else none := setK_eq y l some n
theorem setX_some {α : Type} {l l' : List α} {n : Nat} {y : α} (h : setX l n y = some l') : n < l.length ∧ l' = l.set n y := by
  rw [setX_eq] at h
  split at h
  · rename_i g; simp at h; exact ⟨g, h.symm⟩
  · cases h
theorem lenX_eq {α : Type} : ∀ (l : List α) (n : Nat), lenX l n = n + l.length
  | [], _ => rfl
  | _ :: l, n => by show lenX l (Nat.succ n) = _; rw [lenX_eq l, List.length_cons, Nat.succ_eq_add_one]; omega
@[simp] theorem lenX_0 {α : Type} (l : List α) : lenX l 0 = l.length := by rw [lenX_eq]; omega
@[simp] theorem appX_eq {α β : Type} : ∀ (l m : List α) (K : List α → β), appX l m K = K (l ++ m)
  | [], _, _ => rfl
  | x :: l, m, K => by show appX l m (fun r => K (x :: r)) = _; rw [appX_eq l m]; rfl
theorem takeX_eq {α : Type} : ∀ (n : Nat) (l : List α), takeX n l = if n ≤ l.length then some (l.take n) else none
  | 0, l => by simp [takeX]
  | n + 1, [] => by simp [takeX]
  | n + 1, x :: l => by
    simp only [takeX, takeX_eq n l, List.length_cons, List.take_succ_cons]
    by_cases h : n ≤ l.length
    · simp [h]
    · simp [h]
theorem dropX_eq {α : Type} : ∀ (n : Nat) (l : List α), dropX n l = if n ≤ l.length then some (l.drop n) else none
  | 0, l => by simp [dropX]
  | n + 1, [] => by simp [dropX]
  | n + 1, x :: l => by simp [dropX, dropX_eq n l]
theorem cutX_some {α : Type} {l r : List α} {o n : Nat} (h : cutX l o n = some r) : o + n ≤ l.length ∧ r = (l.drop o).take n := by
  unfold cutX at h
  rw [dropX_eq] at h
  split at h
  · rename_i r' h1
    split at h1
    · rename_i g
      simp at h1
      rw [takeX_eq] at h
      split at h
      · rename_i g2
        simp at h
        subst h1 h
        simp at g2
        exact ⟨by omega, rfl⟩
      · cases h
    · cases h1
  · cases h
theorem cut_get {α : Type} {l r : List α} {o n : Nat} (h : cutX l o n = some r) : r.length = n ∧ ∀ i, i < n → r[i]? = l[o + i]? := by
  obtain ⟨h1, rfl⟩ := cutX_some h
  refine ⟨by simp; omega, fun i hi => ?_⟩
  rw [List.getElem?_take_of_lt hi, List.getElem?_drop]
theorem overX_some {α : Type} : ∀ {l : List α} {o : Nat} {ys r : List α}, overX l o ys = some r → r.length = l.length ∧ (ys = [] ∨ o + ys.length ≤ l.length) ∧ ∀ i, r[i]? = if o ≤ i ∧ i < o + ys.length then ys[i - o]? else l[i]?
  | l, o, [], r, h => by
    cases l <;> simp only [overX, Option.some.injEq] at h <;> subst h <;> refine ⟨rfl, .inl rfl, fun i => ?_⟩ <;> rw [if_neg (by simp)]
  | [], _, _ :: _, r, h => by simp [overX] at h
  | x :: l, 0, y :: ys, r, h => by
    simp only [overX] at h
    split at h
    · rename_i r' h1
      simp at h
      subst h
      obtain ⟨g1, g2, g3⟩ := overX_some h1
      refine ⟨by simp [g1], .inr ?_, fun i => ?_⟩
      · rcases g2 with rfl | g2
        · simp
        · simp at g2 ⊢; omega
      · cases i with
        | zero => simp
        | succ i =>
          simp only [List.getElem?_cons_succ, g3 i, List.length_cons, Nat.zero_le, true_and, Nat.zero_add, Nat.sub_zero]
          by_cases e : i < ys.length
          · rw [if_pos e, if_pos (by omega)]
          · rw [if_neg e, if_neg (by omega)]
    · cases h
  | x :: l, o + 1, y :: ys, r, h => by
    simp only [overX] at h
    split at h
    · rename_i r' h1
      simp at h
      subst h
      obtain ⟨g1, g2, g3⟩ := overX_some h1
      refine ⟨by simp [g1], .inr ?_, fun i => ?_⟩
      · rcases g2 with g2 | g2
        · cases g2
        · simp at g2 ⊢; omega
      · cases i with
        | zero => simp
        | succ i =>
          simp only [List.getElem?_cons_succ, g3 i, List.length_cons]
          by_cases e : o ≤ i ∧ i < o + (ys.length + 1)
          · rw [if_pos e, if_pos (by omega), show i + 1 - (o + 1) = i - o by omega]
          · rw [if_neg e, if_neg (by omega)]
    · cases h
@[simp] theorem fN_eq {α : Type} (m : Nat) (K : Nat → α) : fN m K = K m := by cases m <;> rfl
@[simp] theorem fI_eq {α : Type} (m : Int) (K : Int → α) : fI m K = K m := by cases m <;> simp [fI]
@[simp] theorem fB_eq {α : Type} (m : Bool) (K : Bool → α) : fB m K = K m := by cases m <;> rfl
theorem bnd_some {α β : Type} {x : Option α} {f : α → Option β} {r : β} (h : bnd x f = some r) : ∃ a, x = some a ∧ f a = some r := by
  cases x with
  | none => cases h
  | some a => exact ⟨a, rfl, h⟩
theorem iBeq_eq (a b : Int) : iBeq a b = (a == b) := by
  have key : iBeq a b = true ↔ a = b := by
    cases a with
    | ofNat m => cases b with
      | ofNat n => exact ⟨fun h => by rw [Nat.eq_of_beq_eq_true h], fun h => by cases h; exact Nat.beq_refl _⟩
      | negSucc n => exact ⟨fun h => (by cases h), fun h => (by cases h)⟩
    | negSucc m => cases b with
      | ofNat n => exact ⟨fun h => (by cases h), fun h => (by cases h)⟩
      | negSucc n => exact ⟨fun h => by rw [Nat.eq_of_beq_eq_true h], fun h => by cases h; exact Nat.beq_refl _⟩
  cases h : iBeq a b with
  | true => rw [key.1 h]; simp
  | false =>
    symm
    rw [beq_eq_false_iff_ne]
    intro e
    rw [key.2 e] at h
    cases h
theorem iLt_eq (a b : Int) : iLt a b = decide (a < b) := by
  have key : iLt a b = true ↔ a < b := by
    cases a with
    | ofNat m => cases b with
      | ofNat n => exact ⟨fun h => Int.ofNat_lt.2 (Nat.le_of_ble_eq_true h), fun h => Nat.ble_eq_true_of_le (Int.ofNat_lt.1 h)⟩
      | negSucc n => exact ⟨fun h => (by cases h), fun h => by have := Int.negSucc_lt_zero n; have : (0 : Int) ≤ Int.ofNat m := Int.natCast_nonneg m; omega⟩
    | negSucc m => cases b with
      | ofNat n => exact ⟨fun _ => by have := Int.negSucc_lt_zero m; have : (0 : Int) ≤ Int.ofNat n := Int.natCast_nonneg n; omega, fun _ => rfl⟩
      | negSucc n => exact ⟨fun h => by have h : n < m := Nat.le_of_ble_eq_true h; rw [Int.negSucc_eq, Int.negSucc_eq]; omega, fun h => Nat.ble_eq_true_of_le (by rw [Int.negSucc_eq, Int.negSucc_eq] at h; show n + 1 ≤ m; omega)⟩
  cases h : iLt a b with
  | true => simp [key.1 h]
  | false =>
    symm
    rw [decide_eq_false_iff_not]
    intro e
    rw [key.2 e] at h
    cases h
theorem natO_some {i : Int} {n : Nat} (h : natO i = some n) : i = (n : Int) := by
  cases i <;> simp [natO] at h
  subst h; rfl
theorem kBeq_eq {a b : IntKind} (h : kBeq a b = true) : a = b := by
  revert h; cases a <;> cases b <;> decide
theorem kBeq_iff (a b : IntKind) : kBeq a b = decide (a = b) := by cases a <;> cases b <;> decide
theorem fkBeq_eq {a b : FloatKind} (h : fkBeq a b = true) : a = b := by
  revert h; cases a <;> cases b <;> decide

/-! ### values -/
abbrev EX := Nat → Option (Nat × Nat)
mutual
def RV (E : EX) : XV → Value → Prop
  | .int k n, v => v = .int k n
  | .bool b, v => v = .bool b
  | .str l, v => ∃ s : ByteArray, v = .string s ∧ s.data.toList.map UInt8.toNat = l
  | .ptr none, v => v = .pointer none
  | .ptr (some (k, o)), v => ∃ b, E k = some b ∧ v = .pointer (some ⟨b.1, o, none⟩)
  | .gl g o, v => v = .pointer (some ⟨g, o, none⟩)
  | .sl none _ _ _, v => v = .slice none 0 0
  | .sl (some (k, o)) n c true, v => ∃ b, E k = some b ∧ v = .slice (some ⟨b.1, o, none⟩) n c
  | .sl (some (k, o)) n c false, v => ∃ b, E k = some b ∧ v = .slice (some ⟨b.1, o, none⟩) n (c + b.2)
  | .slE k, v => ∃ b o c, E k = some b ∧ v = .slice (some ⟨b.1, o, none⟩) 0 c
  | .map none, v => v = .map none
  | .map (some r), v => ∃ b, E r = some b ∧ v = .map (some b.1)
  | .fn i cs, v => ∃ l : List Value, v = .func (.func i) #[] l.toArray ∧ RVs E cs l
  | .fnB i fs cs, v => ∃ k l : List Value, v = .func (.func i) k.toArray l.toArray ∧ RVs E fs k ∧ RVs E cs l
  | .nilFn, v => v = .nilFunc
  | .flt k b, v => v = .float k b
  | .agg l, v => ∃ m : List Value, v = .agg m.toArray ∧ RVs E l m
  | .tup l, v => ∃ m : List Value, v = .tuple m.toArray ∧ RVs E l m
  | .undef, v => v = undef
  | .yld k, v => ∃ b, E k = some b ∧ v = .func (.yield b.1) #[] #[]
def RVs (E : EX) : List XV → List Value → Prop
  | [], m => m = []
  | x :: l, m => ∃ u m', m = u :: m' ∧ RV E x u ∧ RVs E l m'
end
def Grow (E E' : EX) : Prop := ∀ k b, E k = some b → E' k = some b
theorem Grow.refl (E : EX) : Grow E E := fun _ _ h => h
theorem Grow.trans {E F G : EX} (h : Grow E F) (k : Grow F G) : Grow E G := fun _ _ e => k _ _ (h _ _ e)
mutual
theorem RV.grow {E E' : EX} (hg : Grow E E') : ∀ {x : XV} {v : Value}, RV E x v → RV E' x v
  | .int _ _, _, h => h
  | .bool _, _, h => h
  | .str _, _, h => h
  | .ptr none, _, h => h
  | .ptr (some (_, _)), _, h => by obtain ⟨b, h1, h2⟩ := h; exact ⟨b, hg _ _ h1, h2⟩
  | .gl _ _, _, h => h
  | .sl none _ _ _, _, h => h
  | .sl (some (_, _)) _ _ true, _, h => by obtain ⟨b, h1, h2⟩ := h; exact ⟨b, hg _ _ h1, h2⟩
  | .sl (some (_, _)) _ _ false, _, h => by obtain ⟨b, h1, h2⟩ := h; exact ⟨b, hg _ _ h1, h2⟩
  | .slE _, _, h => by obtain ⟨b, o, c, h1, h2⟩ := h; exact ⟨b, o, c, hg _ _ h1, h2⟩
  | .map none, _, h => h
  | .map (some _), _, h => by obtain ⟨b, h1, h2⟩ := h; exact ⟨b, hg _ _ h1, h2⟩
  | .fn _ _, _, h => by obtain ⟨l, h1, h2⟩ := h; exact ⟨l, h1, RVs.grow hg h2⟩
  | .fnB _ _ _, _, h => by obtain ⟨k, l, h1, h2, h3⟩ := h; exact ⟨k, l, h1, RVs.grow hg h2, RVs.grow hg h3⟩
  | .nilFn, _, h => h
  | .flt _ _, _, h => h
  | .agg _, _, h => by obtain ⟨l, h1, h2⟩ := h; exact ⟨l, h1, RVs.grow hg h2⟩
  | .tup _, _, h => by obtain ⟨l, h1, h2⟩ := h; exact ⟨l, h1, RVs.grow hg h2⟩
  | .undef, _, h => h
  | .yld _, _, h => by obtain ⟨b, h1, h2⟩ := h; exact ⟨b, hg _ _ h1, h2⟩
theorem RVs.grow {E E' : EX} (hg : Grow E E') : ∀ {x : List XV} {v : List Value}, RVs E x v → RVs E' x v
  | [], _, h => h
  | _ :: _, _, h => by obtain ⟨u, m, h1, h2, h3⟩ := h; exact ⟨u, m, h1, RV.grow hg h2, RVs.grow hg h3⟩
end
theorem RVs_iff {E : EX} : ∀ {l : List XV} {m : List Value}, RVs E l m ↔ l.length = m.length ∧ ∀ (i : Nat) (x : XV), l[i]? = some x → ∃ u, m[i]? = some u ∧ RV E x u
  | [], m => by
    simp only [RVs, List.length_nil, List.getElem?_nil, reduceCtorEq, false_implies, implies_true, and_true]
    exact ⟨fun h => by rw [h]; rfl, fun h => List.eq_nil_of_length_eq_zero h.symm⟩
  | x :: l, m => by
    simp only [RVs]
    constructor
    · rintro ⟨u, m', rfl, h1, h2⟩
      obtain ⟨h3, h4⟩ := RVs_iff.1 h2
      refine ⟨by simp [h3], fun i y hy => ?_⟩
      cases i with
      | zero => simp at hy; subst hy; exact ⟨u, by simp, h1⟩
      | succ i => simp at hy; obtain ⟨w, g1, g2⟩ := h4 i y hy; exact ⟨w, by simpa using g1, g2⟩
    · rintro ⟨h1, h2⟩
      cases m with
      | nil => simp at h1
      | cons u m =>
        refine ⟨u, m, rfl, ?_, RVs_iff.2 ⟨by simpa using h1, fun i y hy => ?_⟩⟩
        · obtain ⟨w, g1, g2⟩ := h2 0 x (by simp)
          simp at g1
          rw [g1]; exact g2
        · obtain ⟨w, g1, g2⟩ := h2 (i + 1) y (by simpa using hy)
          exact ⟨w, by simpa using g1, g2⟩
theorem RVs.len {E : EX} {l : List XV} {m : List Value} (h : RVs E l m) : m.length = l.length := (RVs_iff.1 h).1.symm
theorem RVs.get {E : EX} {l : List XV} {m : List Value} (h : RVs E l m) {i : Nat} {x : XV} (hx : l[i]? = some x) : ∃ u, m[i]? = some u ∧ RV E x u := (RVs_iff.1 h).2 i x hx
theorem RVs.app {E : EX} : ∀ {l l' : List XV} {m m' : List Value}, RVs E l m → RVs E l' m' → RVs E (l ++ l') (m ++ m')
  | [], _, _, _, h, h' => by simp only [RVs] at h; subst h; exact h'
  | _ :: _, _, _, _, h, h' => by
    obtain ⟨u, m1, rfl, h1, h2⟩ := h
    exact ⟨u, _, rfl, h1, RVs.app h2 h'⟩
theorem RVs.nil {E : EX} : RVs E [] [] := rfl
theorem RVs.cons {E : EX} {x : XV} {u : Value} {l : List XV} {m : List Value} (h1 : RV E x u) (h2 : RVs E l m) : RVs E (x :: l) (u :: m) := ⟨u, m, rfl, h1, h2⟩

theorem RV_agg {E : EX} {x : XV} {cs : Array Value} (h : RV E x (.agg cs)) (hn : ∀ l, x ≠ .agg l) : False := by
  cases x
  case agg l => exact hn l rfl
  case ptr a => rcases a with _ | ⟨k, o⟩ <;> simp [RV] at h
  case sl a n c e => rcases a with _ | ⟨k, o⟩ <;> cases e <;> simp [RV] at h
  case map a => rcases a with _ | r <;> simp [RV] at h
  all_goals simp [RV, undef] at h
theorem cells_of {E : EX} {x : XV} {u : Value} (h : RV E x u) : RVs E (cellsOfX x) u.cells.toList := by
  have one : ∀ {w : Value}, (∀ cs, w ≠ .agg cs) → w.cells = #[w] := fun {w} hw => by cases w <;> first | rfl | exact absurd rfl (hw _)
  cases x with
  | agg l =>
    obtain ⟨m, rfl, h2⟩ := h
    simpa [cellsOfX, Value.cells] using h2
  | _ =>
    refine (fun (hw : ∀ cs, u ≠ .agg cs) => by rw [one hw]; exact RVs.cons h RVs.nil) ?_
    intro cs hcs
    subst hcs
    exact RV_agg h (fun l e => by cases e)
theorem one_of {E : EX} {x : XV} {u : Value} (h : RV E x u) (ho : oneX x = true) : oneCell u = true := by
  cases x <;> simp only [oneX, Bool.false_eq_true] at ho
  case ptr a => rcases a with _ | ⟨k, o⟩ <;> simp only [RV] at h <;> first | (obtain ⟨b, _, rfl⟩ := h; rfl) | (subst h; rfl)
  case sl a n c e => rcases a with _ | ⟨k, o⟩ <;> cases e <;> simp only [RV] at h <;> first | (obtain ⟨b, _, rfl⟩ := h; rfl) | (subst h; rfl)
  case map a => rcases a with _ | r <;> simp only [RV] at h <;> first | (obtain ⟨b, _, rfl⟩ := h; rfl) | (subst h; rfl)
  case str l => obtain ⟨s, rfl, _⟩ := h; rfl
  case slE k => obtain ⟨b, o, c, _, rfl⟩ := h; rfl
  case fn i cs => obtain ⟨l, rfl, _⟩ := h; rfl
  case fnB i fs cs => obtain ⟨k, l, rfl, _⟩ := h; rfl
  all_goals (simp only [RV] at h; subst h; rfl)

/-! ### what a cell's type asks -/
theorem exC_of {E : EX} {t : CT} {x : XV} {u : Value} {f : Value → Prop} (hc : ctX t x = true) (h : RV E x u) (hf : f u) : exC t f := by
  cases t <;> cases x <;> simp only [ctX, Bool.false_eq_true] at hc
  case int.int k k' n => have := kBeq_eq hc; subst this; simp only [RV] at h; subst h; exact ⟨n, hf⟩
  case bool.bool b => simp only [RV] at h; subst h; exact ⟨b, hf⟩
  case str.str l => obtain ⟨s, rfl, _⟩ := h; exact ⟨s, hf⟩
  case ptr.ptr a => rcases a with _ | ⟨k, o⟩ <;> simp only [RV] at h <;> first | (obtain ⟨b, _, rfl⟩ := h; exact ⟨_, hf⟩) | (subst h; exact ⟨_, hf⟩)
  case ptr.gl g o => simp only [RV] at h; subst h; exact ⟨_, hf⟩
  case sl.sl a n c e => rcases a with _ | ⟨k, o⟩ <;> cases e <;> simp only [RV] at h <;> first | (obtain ⟨b, _, rfl⟩ := h; exact ⟨⟨_, _, _⟩, hf⟩) | (subst h; exact ⟨⟨_, _, _⟩, hf⟩)
  case sl.slE k => obtain ⟨b, o, c, _, rfl⟩ := h; exact ⟨⟨_, _, _⟩, hf⟩
  case map.map a => rcases a with _ | r <;> simp only [RV] at h <;> first | (obtain ⟨b, _, rfl⟩ := h; exact ⟨_, hf⟩) | (subst h; exact ⟨_, hf⟩)
  case fn.fn i cs => obtain ⟨l, rfl, _⟩ := h; exact ⟨_, _, hf⟩
  case flt.flt k k' b => have := fkBeq_eq hc; subst this; simp only [RV] at h; subst h; exact ⟨_, hf⟩
  all_goals exact ⟨u, hf⟩
theorem exL_of {E : EX} : ∀ {ts : List CT} {xs : List XV} {us : List Value} {f : List Value → Prop}, ctsX ts xs = true → RVs E xs us → f us → exL ts f
  | [], [], us, f, _, h, hf => by simp only [RVs] at h; subst h; exact hf
  | [], _ :: _, _, _, hc, _, _ => by simp [ctsX] at hc
  | _ :: _, [], _, _, hc, _, _ => by simp [ctsX] at hc
  | t :: ts, x :: xs, us, f, hc, h, hf => by
    obtain ⟨u, us', rfl, h1, h2⟩ := h
    simp only [ctsX] at hc
    split at hc
    · rename_i h3
      exact exC_of h3 h1 (exL_of hc h2 hf)
    · cases hc
theorem exT_of {E : EX} {t : Ty} {x : XV} {u : Value} {f : Value → Prop} (hc : tyX t x = true) (h : RV E x u) (hf : f u) : exT t f := by
  cases t with
  | c t => exact exC_of (by simpa [tyX] using hc) h hf
  | agg ts =>
    cases x <;> simp only [tyX, Bool.false_eq_true] at hc
    obtain ⟨m, rfl, h2⟩ := h
    exact exL_of hc h2 hf
theorem exTs_of {E : EX} : ∀ {ts : List Ty} {xs : List XV} {us : List Value} {f : List Value → Prop}, tysX ts xs = true → RVs E xs us → f us → exTs ts f
  | [], [], us, f, _, h, hf => by simp only [RVs] at h; subst h; exact hf
  | [], _ :: _, _, _, hc, _, _ => by simp [tysX] at hc
  | _ :: _, [], _, _, hc, _, _ => by simp [tysX] at hc
  | t :: ts, x :: xs, us, f, hc, h, hf => by
    obtain ⟨u, us', rfl, h1, h2⟩ := h
    simp only [tysX] at hc
    split at hc
    · rename_i h3
      exact exT_of h3 h1 (exTs_of hc h2 hf)
    · cases hc
theorem exF_of {E : EX} {t : Ty} {x : XV} {u : Value} {f : Value → Prop} (hc : fnTyX t x = true) (h : RV E x u) (hf : f u) : exF t f := by
  by_cases ht : t = .c .fn
  · subst ht
    cases x <;> simp only [fnTyX, tyX, ctX, Bool.false_eq_true] at hc
    · obtain ⟨l, rfl, _⟩ := h; exact .inl ⟨_, _, hf⟩
    · simp only [RV] at h; subst h; exact .inr hf
  · have h1 : tyX t x = true := by
      unfold fnTyX at hc
      split at hc
      · exact absurd rfl ht
      · exact hc
    have h2 : exF t f = exT t f := by
      unfold exF
      split
      · exact absurd rfl ht
      · rfl
    rw [h2]
    exact exT_of h1 h hf

/-! ### constants -/
theorem ofS_of {E : EX} {v : Value} {x : XV} (h : ofS v = some x) : RV E x v := by
  unfold ofS at h
  split at h <;> simp only [Option.some.injEq, reduceCtorEq] at h <;> subst h
  all_goals first | rfl | exact ⟨_, rfl, rfl⟩
theorem mapO_len {α β : Type} {f : α → Option β} : ∀ {l : List α} {r : List β}, mapO f l = some r → r.length = l.length
  | [], r, h => by simp [mapO] at h; subst h; rfl
  | x :: l, r, h => by
    simp only [mapO] at h
    split at h
    · rename_i y r' h1 h2
      simp at h; subst h
      simp [mapO_len h2]
    · cases h
theorem ofSs_of {E : EX} : ∀ {vs : List Value} {l : List XV}, mapO ofS vs = some l → RVs E l vs
  | [], l, h => by simp [mapO] at h; subst h; rfl
  | v :: vs, l, h => by
    simp only [mapO] at h
    split at h
    · rename_i y r h1 h2
      simp at h; subst h
      exact RVs.cons (ofS_of h1) (ofSs_of h2)
    · cases h
theorem ofV_of {E : EX} {v : Value} {x : XV} (h : ofV v = some x) : RV E x v := by
  unfold ofV at h
  split at h
  · rename_i cs
    split at h
    · rename_i l hl
      simp at h; subst h
      exact ⟨cs.toList, by simp, ofSs_of hl⟩
    · cases h
  · exact ofS_of h

/-! ### frames -/
structure RF (E : EX) (n : Nat) (ρ : XF) (τ : Fr) : Prop where
  len : ρ.length = n
  kn : ∀ t x, ρ[t]? = some (some x) → ∃ u, τ t = some u ∧ RV E x u
theorem RF.grow {E E' : EX} {n : Nat} {ρ : XF} {τ : Fr} (h : RF E n ρ τ) (hg : Grow E E') : RF E' n ρ τ :=
  ⟨h.len, fun t x hx => let ⟨u, h1, h2⟩ := h.kn t x hx; ⟨u, h1, h2.grow hg⟩⟩
theorem RF.ev {E : EX} {n : Nat} {ρ : XF} {τ : Fr} (h : RF E n ρ τ) {x : Operand} {v : XV} (hv : evX ρ x = some v) : ∃ u, ev τ x = some u ∧ RV E v u := by
  cases x <;> simp only [evX] at hv
  case tmp t =>
    rw [nthX_eq] at hv
    split at hv
    · rename_i w hw; simp at hv; subst hv; exact h.kn t _ hw
    · cases hv
  case const c => exact ⟨c, rfl, ofV_of hv⟩
  case global g => simp at hv; subst hv; exact ⟨_, rfl, rfl⟩
  case func f => simp at hv; subst hv; exact ⟨_, rfl, [], rfl, rfl⟩
theorem RF.evs {E : EX} {n : Nat} {ρ : XF} {τ : Fr} (h : RF E n ρ τ) : ∀ {xs : List Operand} {vs : List XV}, evsX ρ xs = some vs → ∃ us, evL τ xs = some us ∧ RVs E vs us
  | [], vs, hv => by simp [evsX, mapO] at hv; subst hv; exact ⟨[], rfl, rfl⟩
  | x :: xs, vs, hv => by
    simp only [evsX, mapO] at hv
    split at hv
    · rename_i y r h1 h2
      simp at hv; subst hv
      obtain ⟨u, g1, g2⟩ := h.ev h1
      obtain ⟨us, g3, g4⟩ := h.evs (xs := xs) (vs := r) h2
      exact ⟨u :: us, by simp [evL, g1, g3], RVs.cons g2 g4⟩
    · cases hv
def RPs (E : EX) : List (Nat × XV) → List (Nat × Value) → Prop
  | [], m => m = []
  | x :: l, m => ∃ u m', m = (x.1, u) :: m' ∧ RV E x.2 u ∧ RPs E l m'
theorem RF.evp {E : EX} {n : Nat} {ρ : XF} {τ : Fr} (h : RF E n ρ τ) : ∀ {xs : List (Nat × Operand)} {vs : List (Nat × XV)}, evpX ρ xs = some vs → ∃ us, evP τ xs = some us ∧ RPs E vs us
  | [], vs, hv => by simp [evpX, mapO] at hv; subst hv; exact ⟨[], rfl, rfl⟩
  | x :: xs, vs, hv => by
    simp only [evpX, mapO] at hv
    split at hv
    · rename_i y r h1 h2
      simp at hv; subst hv
      split at h1
      · rename_i v hv
        simp at h1; subst h1
        obtain ⟨u, g1, g2⟩ := h.ev hv
        obtain ⟨us, g3, g4⟩ := h.evp (xs := xs) (vs := r) h2
        exact ⟨(x.1, u) :: us, by simp [evP, g1, g3], u, us, rfl, g2, g4⟩
      · cases h1
    · cases hv

/-! ### the heap -/
def szD (P : Program) (t : TypeId) : Nat := (szOf P t).getD 0
def REs (E : EX) : List XE → List MapEntry → Prop
  | [], m => m = []
  | x :: l, m => ∃ e m', m = e :: m' ∧ RV E x.key e.key ∧ RV E x.val e.val ∧ e.born = x.born ∧ REs E l m'
def RM (E : EX) : Option Nat → Option Nat → Prop
  | none, m => m = none
  | some r, m => ∃ b, E r = some b ∧ m = some b.1
def RO (P : Program) (E : EX) (h : Hp) (b : Nat × Nat) : XO → Prop
  | .cells l e => ∃ c, Blk h b.1 c e ∧ l.length + b.2 * szD P e ≤ c.size ∧ ∀ (i : Nat) (x : XV), l[i]? = some x → ∃ u, c[i]? = some u ∧ RV E x u
  | .map es clock => ∃ m : List MapEntry, h[b.1]? = some (.map m.toArray clock) ∧ REs E es m
  | .iter m since seen last cur => ∃ m' arr, h[b.1]? = some (.mapIter m' since arr last) ∧ RM E m m' ∧ (∀ n, arr.contains n = inX n seen) ∧ (seen ≠ [] → arr.back? = some cur)
  | .dead => True
def isDead : XO → Bool | .dead => true | _ => false
structure RH (P : Program) (E : EX) (C : XH) (h : Hp) : Prop where
  dom : ∀ k, k < C.length → ∃ b, E k = some b ∧ b.1 < h.size
  un : ∀ k, C.length ≤ k → E k = none
  inj : ∀ j k o p b c, C[j]? = some o → C[k]? = some p → isDead o = false → isDead p = false → E j = some b → E k = some c → b.1 = c.1 → j = k
  ob : ∀ k o b, C[k]? = some o → E k = some b → RO P E h b o
theorem REs.grow {E E' : EX} (hg : Grow E E') : ∀ {l : List XE} {m : List MapEntry}, REs E l m → REs E' l m
  | [], _, h => h
  | _ :: _, _, h => by obtain ⟨e, m', h1, h2, h3, h4, h5⟩ := h; exact ⟨e, m', h1, h2.grow hg, h3.grow hg, h4, h5.grow hg⟩
theorem RM.grow {E E' : EX} (hg : Grow E E') : ∀ {l : Option Nat} {m : Option Nat}, RM E l m → RM E' l m
  | none, _, h => h
  | some _, _, h => by obtain ⟨b, h1, h2⟩ := h; exact ⟨b, hg _ _ h1, h2⟩
theorem RO.grow {P : Program} {E E' : EX} (hg : Grow E E') {h h' : Hp} {b : Nat × Nat} {o : XO} (hb : isDead o = false → h'[b.1]? = h[b.1]?) (H : RO P E h b o) : RO P E' h' b o := by
  cases o with
  | cells l e =>
    obtain ⟨c, h1, h2, h3⟩ := H
    exact ⟨c, by unfold Blk; rw [hb rfl]; exact h1, h2, fun i x hx => let ⟨u, g1, g2⟩ := h3 i x hx; ⟨u, g1, g2.grow hg⟩⟩
  | map es c =>
    obtain ⟨m, h1, h2⟩ := H
    exact ⟨m, by rw [hb rfl]; exact h1, h2.grow hg⟩
  | iter m s n l c =>
    obtain ⟨m', arr, h1, h2, h3⟩ := H
    exact ⟨m', arr, by rw [hb rfl]; exact h1, h2.grow hg, h3⟩
  | dead => trivial
def live (C : XH) (k : Nat) : Prop := ∃ o, C[k]? = some o ∧ isDead o = false
def Out (E : EX) (C : XH) (j : Nat) : Prop := ∀ k b, live C k → E k = some b → b.1 ≠ j
structure Adv (E : EX) (C : XH) (h : Hp) (E' : EX) (C' : XH) (h' : Hp) : Prop where
  gr : Grow E E'
  sz : h.size ≤ h'.size
  fr : ∀ j, j < h.size → Out E C j → h'[j]? = h[j]? ∧ Out E' C' j
theorem Adv.refl (E : EX) (C : XH) (h : Hp) : Adv E C h E C h := ⟨.refl _, Nat.le_refl _, fun _ _ h => ⟨rfl, h⟩⟩
theorem Adv.trans {E E' E'' : EX} {C C' C'' : XH} {h h' h'' : Hp} (a : Adv E C h E' C' h') (b : Adv E' C' h' E'' C'' h'') : Adv E C h E'' C'' h'' :=
  ⟨a.gr.trans b.gr, Nat.le_trans a.sz b.sz, fun j hj ho => by
    obtain ⟨h1, h2⟩ := a.fr j hj ho
    obtain ⟨h3, h4⟩ := b.fr j (Nat.lt_of_lt_of_le hj a.sz) h2
    exact ⟨h3.trans h1, h4⟩⟩
def updE (E : EX) (k : Nat) (b : Nat × Nat) : EX := fun j => if j = k then some b else E j
section
variable {P : Program} {E : EX} {C : XH} {h : Hp}
theorem RH.id (H : RH P E C h) {k : Nat} {o : XO} (hk : C[k]? = some o) : ∃ b, E k = some b ∧ b.1 < h.size ∧ RO P E h b o := by
  have hl : k < C.length := by
    rcases Nat.lt_or_ge k C.length with g | g
    · exact g
    · simp [List.getElem?_eq_none g] at hk
  obtain ⟨b, h1, h2⟩ := H.dom k hl
  exact ⟨b, h1, h2, H.ob k o b hk h1⟩
theorem RH.lt (H : RH P E C h) {k : Nat} {b : Nat × Nat} (hk : E k = some b) : k < C.length ∧ b.1 < h.size := by
  rcases Nat.lt_or_ge k C.length with g | g
  · obtain ⟨c, h1, h2⟩ := H.dom k g
    rw [hk] at h1; cases h1
    exact ⟨g, h2⟩
  · rw [H.un k g] at hk; cases hk
theorem RH.grow (H : RH P E C h) (b : Nat × Nat) : Grow E (updE E C.length b) := fun k c hk => by
  have := (H.lt hk).1
  unfold updE
  rw [if_neg (by omega)]
  exact hk
/-- One more block, with its name. -/
theorem RH.push (H : RH P E C h) {o : XO} {ob : Obj} {x : Nat} (ho : RO P (updE E C.length (h.size, x)) (h.push ob) (h.size, x) o) :
    RH P (updE E C.length (h.size, x)) (C ++ [o]) (h.push ob) ∧ Adv E C h (updE E C.length (h.size, x)) (C ++ [o]) (h.push ob) := by
  have hlt : ∀ {k b}, E k = some b → k < C.length ∧ b.1 < h.size := fun hk => H.lt hk
  have up : ∀ {k b}, updE E C.length (h.size, x) k = some b → (k = C.length ∧ b = (h.size, x)) ∨ (k < C.length ∧ E k = some b) := fun {k b} hk => by
    unfold updE at hk
    split at hk
    · rename_i e; cases hk; exact .inl ⟨e, rfl⟩
    · exact .inr ⟨(hlt hk).1, hk⟩
  have old : ∀ {k q}, (C ++ [o])[k]? = some q → (k = C.length ∧ q = o) ∨ (k < C.length ∧ C[k]? = some q) := fun {k q} hk => by
    rw [List.getElem?_append] at hk
    split at hk
    · rename_i g; exact .inr ⟨g, hk⟩
    · rename_i g
      rcases Nat.lt_or_eq_of_le (Nat.le_of_not_lt g) with g' | g'
      · rw [List.getElem?_eq_none (by simp; omega)] at hk; cases hk
      · subst g'; simp at hk; exact .inl ⟨rfl, hk.symm⟩
  refine ⟨⟨fun k hk => ?_, fun k hk => ?_, fun j k q r b c hj hk dj dk ej ek e => ?_, fun k q b hk ek => ?_⟩, ⟨H.grow _, by simp, fun j hj hout => ⟨?_, fun k b hl ek => ?_⟩⟩⟩
  · simp only [List.length_append, List.length_cons, List.length_nil] at hk
    rcases Nat.lt_or_eq_of_le (Nat.le_of_lt_succ hk) with g | g
    · obtain ⟨b, h1, h2⟩ := H.dom k g
      exact ⟨b, H.grow _ _ _ h1, by simp; omega⟩
    · exact ⟨(h.size, x), by simp [updE, g], by simp⟩
  · simp only [List.length_append, List.length_cons, List.length_nil] at hk
    unfold updE
    rw [if_neg (by omega)]
    exact H.un k (by omega)
  · rcases old hj with ⟨rfl, rfl⟩ | ⟨g1, g2⟩ <;> rcases old hk with ⟨rfl, rfl⟩ | ⟨g3, g4⟩
    · rfl
    · rcases up ej with ⟨_, rfl⟩ | ⟨g5, _⟩
      · rcases up ek with ⟨g6, _⟩ | ⟨_, g7⟩
        · omega
        · have := (hlt g7).2; simp at e; omega
      · omega
    · rcases up ek with ⟨_, rfl⟩ | ⟨g5, _⟩
      · rcases up ej with ⟨g6, _⟩ | ⟨_, g7⟩
        · omega
        · have := (hlt g7).2; simp at e; omega
      · omega
    · rcases up ej with ⟨g5, _⟩ | ⟨_, g5⟩
      · omega
      · rcases up ek with ⟨g6, _⟩ | ⟨_, g6⟩
        · omega
        · exact H.inj j k q r b c g2 g4 dj dk g5 g6 e
  · rcases old hk with ⟨rfl, rfl⟩ | ⟨g1, g2⟩
    · rcases up ek with ⟨_, rfl⟩ | ⟨g3, _⟩
      · exact ho
      · omega
    · rcases up ek with ⟨g3, _⟩ | ⟨_, g3⟩
      · omega
      · refine (H.ob k q b g2 g3).grow (H.grow _) fun _ => ?_
        have := (hlt g3).2
        rw [Array.getElem?_push]
        simp [Nat.ne_of_lt this]
  · rw [Array.getElem?_push]
    simp [Nat.ne_of_lt hj]
  · obtain ⟨q, hq, hd⟩ := hl
    rcases up ek with ⟨_, rfl⟩ | ⟨g3, g4⟩
    · exact fun e => by simp at e; omega
    · rcases old hq with ⟨g5, _⟩ | ⟨_, g5⟩
      · omega
      · exact hout k b ⟨q, g5, hd⟩ g4
/-- One block changed. -/
theorem RH.set (H : RH P E C h) {k : Nat} {o o' : XO} {b : Nat × Nat} {h' : Hp} (hk : C[k]? = some o) (hd : isDead o = false) (hb : E k = some b) (hs : h'.size = h.size)
    (hf : ∀ j, j ≠ b.1 → h'[j]? = h[j]?) (ho : RO P E h' b o') : RH P E (C.set k o') h' ∧ Adv E C h E (C.set k o') h' := by
  have get : ∀ {j q}, (C.set k o')[j]? = some q → (j = k ∧ q = o') ∨ (j ≠ k ∧ C[j]? = some q) := fun {j q} hj => by
    rw [List.getElem?_set] at hj
    split at hj
    · rename_i e
      split at hj
      · simp at hj; exact .inl ⟨e.symm, hj.symm⟩
      · cases hj
    · rename_i e; exact .inr ⟨fun g => e g.symm, hj⟩
  have was : ∀ {j q}, (C.set k o')[j]? = some q → isDead q = false → ∃ r, C[j]? = some r ∧ isDead r = false := fun {j q} hj dq => by
    rcases get hj with ⟨rfl, _⟩ | ⟨_, g⟩
    · exact ⟨o, hk, hd⟩
    · exact ⟨q, g, dq⟩
  refine ⟨⟨fun j hj => ?_, fun j hj => ?_, fun i j q r c d hi hj di dj ei ej e => ?_, fun j q c hj ej => ?_⟩, ⟨.refl _, by omega, fun j hj hout => ⟨?_, fun i c hl ei => ?_⟩⟩⟩
  · rw [hs]; exact H.dom j (by simpa using hj)
  · exact H.un j (by simpa using hj)
  · obtain ⟨r1, g1, g2⟩ := was hi di
    obtain ⟨r2, g3, g4⟩ := was hj dj
    exact H.inj i j r1 r2 c d g1 g3 g2 g4 ei ej e
  · rcases get hj with ⟨rfl, rfl⟩ | ⟨g1, g2⟩
    · rw [hb] at ej; cases ej; exact ho
    · refine (H.ob j q c g2 ej).grow (.refl _) fun dq => hf _ fun e => g1 ?_
      exact H.inj j k q o c b g2 hk dq hd ej hb e
  · exact hf j fun e => hout k b ⟨o, hk, hd⟩ hb e.symm
  · obtain ⟨q, hq, dq⟩ := hl
    obtain ⟨r, g1, g2⟩ := was hq dq
    exact hout i c ⟨r, g1, g2⟩ ei
/-- A block whose name is given up. -/
theorem RH.kill (H : RH P E C h) (k : Nat) : RH P E (C.set k .dead) h ∧ Adv E C h E (C.set k .dead) h := by
  have get : ∀ {j : Nat} {q : XO}, (C.set k .dead)[j]? = some q → q = .dead ∨ C[j]? = some q := fun {j q} hj => by
    rw [List.getElem?_set] at hj
    split at hj
    · split at hj
      · simp at hj; exact .inl hj.symm
      · cases hj
    · exact .inr hj
  have live' : ∀ {j : Nat} {q : XO}, (C.set k .dead)[j]? = some q → isDead q = false → C[j]? = some q := fun {j q} hj dq => by
    rcases get hj with rfl | g
    · cases dq
    · exact g
  refine ⟨⟨fun j hj => H.dom j (by simpa using hj), fun j hj => H.un j (by simpa using hj), fun i j q r c d hi hj di dj ei ej e => H.inj i j q r c d (live' hi di) (live' hj dj) di dj ei ej e, fun j q c hj ej => ?_⟩,
    ⟨.refl _, Nat.le_refl _, fun j hj hout => ⟨rfl, fun i c hl ei => ?_⟩⟩⟩
  · rcases get hj with rfl | g
    · trivial
    · exact H.ob j q c g ej
  · obtain ⟨q, hq, dq⟩ := hl
    exact hout i c ⟨q, live' hq dq, dq⟩ ei
/-- A block that is written and gets a new name. -/
theorem RH.rename (H : RH P E C h) {k : Nat} {o o' : XO} {b : Nat × Nat} {x : Nat} {h' : Hp} (hk : C[k]? = some o) (hd : isDead o = false) (hb : E k = some b) (hs : h'.size = h.size)
    (hf : ∀ j, j ≠ b.1 → h'[j]? = h[j]?) (ho : RO P (updE E C.length (b.1, x)) h' (b.1, x) o') :
    RH P (updE E C.length (b.1, x)) (C.set k .dead ++ [o']) h' ∧ Adv E C h (updE E C.length (b.1, x)) (C.set k .dead ++ [o']) h' := by
  have hlt : ∀ {k b}, E k = some b → k < C.length ∧ b.1 < h.size := fun hk => H.lt hk
  have up : ∀ {j c}, updE E C.length (b.1, x) j = some c → (j = C.length ∧ c = (b.1, x)) ∨ (j < C.length ∧ E j = some c) := fun {j c} hj => by
    unfold updE at hj
    split at hj
    · rename_i e; cases hj; exact .inl ⟨e, rfl⟩
    · exact .inr ⟨(hlt hj).1, hj⟩
  have old : ∀ {j q}, (C.set k .dead ++ [o'])[j]? = some q → (j = C.length ∧ q = o') ∨ (j < C.length ∧ (q = XO.dead ∨ (j ≠ k ∧ C[j]? = some q))) := fun {j q} hj => by
    rw [List.getElem?_append] at hj
    simp only [List.length_set] at hj
    split at hj
    · rename_i g
      rw [List.getElem?_set] at hj
      split at hj
      · split at hj
        · simp at hj; exact .inr ⟨g, .inl hj.symm⟩
        · cases hj
      · rename_i e; exact .inr ⟨g, .inr ⟨fun e' => e e'.symm, hj⟩⟩
    · rename_i g
      rcases Nat.lt_or_eq_of_le (Nat.le_of_not_lt g) with g' | g'
      · rw [List.getElem?_eq_none (by simp; omega)] at hj; cases hj
      · subst g'; simp at hj; exact .inl ⟨rfl, hj.symm⟩
  have hbl := hlt hb
  refine ⟨⟨fun j hj => ?_, fun j hj => ?_, fun i j q r c d hi hj di dj ei ej e => ?_, fun j q c hj ej => ?_⟩, ⟨H.grow _, by omega, fun j hj hout => ⟨?_, fun i c hl ei => ?_⟩⟩⟩
  · simp only [List.length_append, List.length_set, List.length_cons, List.length_nil] at hj
    rcases Nat.lt_or_eq_of_le (Nat.le_of_lt_succ hj) with g | g
    · obtain ⟨c, h1, h2⟩ := H.dom j g
      exact ⟨c, H.grow _ _ _ h1, by omega⟩
    · exact ⟨(b.1, x), by simp [updE, g], by simp; omega⟩
  · simp only [List.length_append, List.length_set, List.length_cons, List.length_nil] at hj
    unfold updE
    rw [if_neg (by omega)]
    exact H.un j (by omega)
  · have key : ∀ {i j q r c d}, (C.set k .dead ++ [o'])[i]? = some q → (C.set k .dead ++ [o'])[j]? = some r → isDead r = false → updE E C.length (b.1, x) i = some c → updE E C.length (b.1, x) j = some d → c.1 = d.1 → i = C.length → j = C.length := by
      intro i j q r c d hi hj dj ei ej e g
      rcases up ei with ⟨_, rfl⟩ | ⟨g5, _⟩
      · rcases old hj with ⟨g6, _⟩ | ⟨g6, g7⟩
        · exact g6
        · rcases g7 with rfl | ⟨g7, g8⟩
          · cases dj
          · rcases up ej with ⟨g9, _⟩ | ⟨_, g9⟩
            · omega
            · exact absurd (H.inj j k r o d b g8 hk dj hd g9 hb e.symm) g7
      · omega
    rcases old hi with ⟨g, _⟩ | ⟨g1, g2⟩
    · rw [g, key hi hj dj ei ej e g]
    · rcases old hj with ⟨g, _⟩ | ⟨g3, g4⟩
      · rw [g, key hj hi di ej ei e.symm g]
      · rcases g2 with rfl | ⟨_, g2⟩
        · cases di
        · rcases g4 with rfl | ⟨_, g4⟩
          · cases dj
          · rcases up ei with ⟨g5, _⟩ | ⟨_, g5⟩
            · omega
            · rcases up ej with ⟨g6, _⟩ | ⟨_, g6⟩
              · omega
              · exact H.inj i j q r c d g2 g4 di dj g5 g6 e
  · rcases old hj with ⟨rfl, rfl⟩ | ⟨g1, g2⟩
    · rcases up ej with ⟨_, rfl⟩ | ⟨g3, _⟩
      · exact ho
      · omega
    · rcases g2 with rfl | ⟨g2, g3⟩
      · trivial
      · rcases up ej with ⟨g4, _⟩ | ⟨_, g4⟩
        · omega
        · refine (H.ob j q c g3 g4).grow (H.grow _) fun dq => hf _ fun e => g2 ?_
          exact H.inj j k q o c b g3 hk dq hd g4 hb e
  · exact hf j fun e => hout k b ⟨o, hk, hd⟩ hb e.symm
  · obtain ⟨q, hq, dq⟩ := hl
    rcases old hq with ⟨rfl, _⟩ | ⟨g1, g2⟩
    · rcases up ei with ⟨_, rfl⟩ | ⟨g3, _⟩
      · exact hout k b ⟨o, hk, hd⟩ hb
      · omega
    · rcases g2 with rfl | ⟨_, g2⟩
      · cases dq
      · rcases up ei with ⟨g4, _⟩ | ⟨_, g4⟩
        · omega
        · exact hout i c ⟨q, g2, dq⟩ g4
end
end Go.Lift

/- The evaluator: what is the same, and blocks in an order of their own. -/
import Derived.Test.YtgmbhlfecbpclacGreatDoorXm
set_option linter.unusedSimpArgs false
set_option linter.unusedVariables false
namespace Go.Lift
open Go
/-! ### equality -/
theorem nbeq {a b : Nat} (h : Nat.beq a b = true) : a = b := Nat.eq_of_beq_eq_true h
theorem oBeq_eq {a b : Option Nat} (h : oBeq a b = true) : a = b := by
  cases a <;> cases b <;> simp only [oBeq, Bool.false_eq_true] at h
  · rfl
  · rw [nbeq h]
theorem aBeq_eq {a b : Option (Nat × Nat)} (h : aBeq a b = true) : a = b := by
  rcases a with _ | ⟨a, o⟩ <;> rcases b with _ | ⟨b, u⟩ <;> simp only [aBeq, Bool.false_eq_true, Bool.and_eq_true] at h
  · rfl
  · rw [nbeq h.1, nbeq h.2]
theorem lBeq_e {a b : List Nat} (h : lBeq a b = true) : a = b := by rw [lBeq_eq] at h; simpa using h
mutual
theorem eqV_eq : ∀ {x y : XV}, eqV x y = true → x = y
  | .int k a, y, h => by
    cases y <;> simp only [eqV, Bool.false_eq_true, Bool.and_eq_true, iBeq_eq, beq_iff_eq] at h
    rw [kBeq_eq h.1, h.2]
  | .bool a, y, h => by cases y <;> simp only [eqV, Bool.false_eq_true, beq_iff_eq] at h; rw [h]
  | .str a, y, h => by cases y <;> simp only [eqV, Bool.false_eq_true] at h; rw [lBeq_e h]
  | .ptr a, y, h => by cases y <;> simp only [eqV, Bool.false_eq_true] at h; rw [aBeq_eq h]
  | .gl g o, y, h => by cases y <;> simp only [eqV, Bool.false_eq_true, Bool.and_eq_true] at h; rw [nbeq h.1, nbeq h.2]
  | .sl a n c e, y, h => by
    cases y <;> simp only [eqV, Bool.false_eq_true, Bool.and_eq_true, beq_iff_eq] at h
    rw [aBeq_eq h.1.1.1, nbeq h.1.1.2, nbeq h.1.2, h.2]
  | .slE k, y, h => by cases y <;> simp [eqV] at h
  | .map a, y, h => by cases y <;> simp only [eqV, Bool.false_eq_true] at h; rw [oBeq_eq h]
  | .fn i cs, y, h => by cases y <;> simp only [eqV, Bool.false_eq_true, Bool.and_eq_true] at h; rw [nbeq h.1, eqVs_eq h.2]
  | .fnB i fs cs, y, h => by cases y <;> simp [eqV] at h
  | .nilFn, y, h => by cases y <;> simp only [eqV, Bool.false_eq_true] at h; rfl
  | .flt k a, y, h => by cases y <;> simp only [eqV, Bool.false_eq_true, Bool.and_eq_true] at h; rw [fkBeq_eq h.1, nbeq h.2]
  | .agg l, y, h => by cases y <;> simp only [eqV, Bool.false_eq_true] at h; rw [eqVs_eq h]
  | .tup l, y, h => by cases y <;> simp only [eqV, Bool.false_eq_true] at h; rw [eqVs_eq h]
  | .undef, y, h => by cases y <;> simp only [eqV, Bool.false_eq_true] at h; rfl
  | .yld k, y, h => by cases y <;> simp only [eqV, Bool.false_eq_true] at h; rw [nbeq h]
theorem eqVs_eq : ∀ {x y : List XV}, eqVs x y = true → x = y
  | [], [], _ => rfl
  | [], _ :: _, h => by simp [eqVs] at h
  | _ :: _, [], h => by simp [eqVs] at h
  | x :: xs, y :: ys, h => by
    simp only [eqVs] at h
    split at h
    · rename_i g; rw [eqV_eq g, eqVs_eq h]
    · cases h
end
theorem eqE_eq : ∀ {x y : List XE}, eqE x y = true → x = y
  | [], [], _ => rfl
  | [], _ :: _, h => by simp [eqE] at h
  | _ :: _, [], h => by simp [eqE] at h
  | ⟨k, v, b⟩ :: xs, ⟨k', v', b'⟩ :: ys, h => by
    simp only [eqE] at h
    split at h
    · rename_i g
      simp only [Bool.and_eq_true] at g
      rw [eqV_eq g.1.1, eqV_eq g.1.2, nbeq g.2, eqE_eq h]
    · cases h
theorem eqO_eq {x y : XO} (h : eqO x y = true) : x = y := by
  cases x <;> cases y <;> simp only [eqO, Bool.false_eq_true, Bool.and_eq_true] at h
  · rw [nbeq h.1, eqVs_eq h.2]
  · rw [nbeq h.1, eqE_eq h.2]
  · rw [oBeq_eq h.1.1.1.1, nbeq h.1.1.1.2, lBeq_e h.1.1.2, nbeq h.1.2, nbeq h.2]
  · rfl
theorem eqH_eq : ∀ {x y : XH}, eqH x y = true → x = y
  | [], [], _ => rfl
  | [], _ :: _, h => by simp [eqH] at h
  | _ :: _, [], h => by simp [eqH] at h
  | x :: xs, y :: ys, h => by
    simp only [eqH] at h
    split at h
    · rename_i g; rw [eqO_eq g, eqH_eq h]
    · cases h
theorem eqOV_eq {x y : Option XV} (h : eqOV x y = true) : x = y := by
  cases x <;> cases y <;> simp only [eqOV, Bool.false_eq_true] at h
  · rfl
  · rw [eqV_eq h]
theorem eqF_eq : ∀ {x y : XF}, eqF x y = true → x = y
  | [], [], _ => rfl
  | [], _ :: _, h => by simp [eqF] at h
  | _ :: _, [], h => by simp [eqF] at h
  | x :: xs, y :: ys, h => by
    simp only [eqF] at h
    split at h
    · rename_i g; rw [eqOV_eq g, eqF_eq h]
    · cases h
theorem sameR_eq {a b : List XV × XH} (h : sameR a b = true) : a = b := by
  unfold sameR at h
  simp only [Bool.and_eq_true] at h
  obtain ⟨a1, a2⟩ := a
  obtain ⟨b1, b2⟩ := b
  have e1 : a1 = b1 := eqVs_eq h.1
  have e2 : a2 = b2 := eqH_eq h.2
  rw [e1, e2]
theorem sameS_eq {a b : XF × XH} (h : sameS a b = true) : a = b := by
  unfold sameS at h
  simp only [Bool.and_eq_true] at h
  obtain ⟨a1, a2⟩ := a
  obtain ⟨b1, b2⟩ := b
  have e1 : a1 = b1 := eqF_eq h.1
  have e2 : a2 = b2 := eqH_eq h.2
  rw [e1, e2]
theorem anyR_mem {a : List XV × XH} : ∀ {l : List (List XV × XH)}, anyR a l = true → a ∈ l
  | [], h => by simp [anyR] at h
  | b :: l, h => by
    simp only [anyR] at h
    split at h
    · rename_i g; rw [sameR_eq g]; simp
    · exact List.mem_cons_of_mem _ (anyR_mem h)
theorem nubR_mem {a : List XV × XH} : ∀ {l : List (List XV × XH)}, a ∈ l → a ∈ nubR l
  | [], h => by simp at h
  | b :: l, h => by
    simp only [nubR]
    split
    · rename_i g
      rcases List.mem_cons.1 h with rfl | h
      · exact nubR_mem (anyR_mem g)
      · exact nubR_mem h
    · rcases List.mem_cons.1 h with rfl | h
      · simp
      · exact List.mem_cons_of_mem _ (nubR_mem h)

/-! ### blocks renamed -/
def Ren (σ : Nat → Option Nat) (E E' : EX) : Prop := ∀ k k' b, σ k = some k' → E k = some b → E' k' = some b
mutual
theorem renV_of {σ : Nat → Option Nat} {E E' : EX} (hs : Ren σ E E') : ∀ {x y : XV} {u : Value}, renV σ x = some y → RV E x u → RV E' y u
  | .int k n, y, u, h, hx => by simp only [renV, Option.some.injEq] at h; subst h; exact hx
  | .bool k, y, u, h, hx => by simp only [renV, Option.some.injEq] at h; subst h; exact hx
  | .str k, y, u, h, hx => by simp only [renV, Option.some.injEq] at h; subst h; exact hx
  | .gl _ _, y, u, h, hx => by simp only [renV, Option.some.injEq] at h; subst h; exact hx
  | .nilFn, y, u, h, hx => by simp only [renV, Option.some.injEq] at h; subst h; exact hx
  | .undef, y, u, h, hx => by simp only [renV, Option.some.injEq] at h; subst h; exact hx
  | .flt _ _, y, u, h, hx => by simp only [renV, Option.some.injEq] at h; subst h; exact hx
  | .ptr none, y, u, h, hx => by simp only [renV, Option.some.injEq] at h; subst h; exact hx
  | .ptr (some (k, o)), y, u, h, hx => by
    simp only [renV] at h
    split at h
    · rename_i k' hk
      simp only [fN_eq, Option.some.injEq] at h; subst h
      obtain ⟨b, h1, rfl⟩ := hx
      exact ⟨b, hs _ _ _ hk h1, rfl⟩
    · cases h
  | .sl none n c e, y, u, h, hx => by simp only [renV, Option.some.injEq] at h; subst h; exact hx
  | .sl (some (k, o)) n c e, y, u, h, hx => by
    simp only [renV] at h
    split at h
    · rename_i k' hk
      simp only [fN_eq, Option.some.injEq] at h; subst h
      cases e with
      | true =>
        obtain ⟨b, h1, rfl⟩ := hx
        exact ⟨b, hs _ _ _ hk h1, rfl⟩
      | false =>
        obtain ⟨b, h1, rfl⟩ := hx
        exact ⟨b, hs _ _ _ hk h1, rfl⟩
    · cases h
  | .slE k, y, u, h, hx => by
    simp only [renV] at h
    split at h
    · rename_i k' hk
      simp only [fN_eq, Option.some.injEq] at h; subst h
      obtain ⟨b, o, c, h1, rfl⟩ := hx
      exact ⟨b, o, c, hs _ _ _ hk h1, rfl⟩
    · cases h
  | .map none, y, u, h, hx => by simp only [renV, Option.some.injEq] at h; subst h; exact hx
  | .map (some k), y, u, h, hx => by
    simp only [renV] at h
    split at h
    · rename_i k' hk
      simp only [fN_eq, Option.some.injEq] at h; subst h
      obtain ⟨b, h1, rfl⟩ := hx
      exact ⟨b, hs _ _ _ hk h1, rfl⟩
    · cases h
  | .fn i cs, y, u, h, hx => by
    simp only [renV] at h
    split at h
    · rename_i l hl
      simp only [Option.some.injEq] at h; subst h
      obtain ⟨m, rfl, h1⟩ := hx
      exact ⟨m, rfl, renVs_of hs hl h1⟩
    · cases h
  | .fnB i fs cs, y, u, h, hx => by
    simp only [renV] at h
    split at h
    · rename_i k l hk hl
      simp only [Option.some.injEq] at h; subst h
      obtain ⟨q, m, rfl, h0, h1⟩ := hx
      exact ⟨q, m, rfl, renVs_of hs hk h0, renVs_of hs hl h1⟩
    · cases h
  | .agg l, y, u, h, hx => by
    simp only [renV] at h
    split at h
    · rename_i l hl
      simp only [Option.some.injEq] at h; subst h
      obtain ⟨m, rfl, h1⟩ := hx
      exact ⟨m, rfl, renVs_of hs hl h1⟩
    · cases h
  | .tup l, y, u, h, hx => by
    simp only [renV] at h
    split at h
    · rename_i l hl
      simp only [Option.some.injEq] at h; subst h
      obtain ⟨m, rfl, h1⟩ := hx
      exact ⟨m, rfl, renVs_of hs hl h1⟩
    · cases h
  | .yld k, y, u, h, hx => by
    simp only [renV] at h
    split at h
    · rename_i k' hk
      simp only [fN_eq, Option.some.injEq] at h; subst h
      obtain ⟨b, h1, rfl⟩ := hx
      exact ⟨b, hs _ _ _ hk h1, rfl⟩
    · cases h
theorem renVs_of {σ : Nat → Option Nat} {E E' : EX} (hs : Ren σ E E') : ∀ {x y : List XV} {u : List Value}, renVs σ x = some y → RVs E x u → RVs E' y u
  | [], y, u, h, hx => by simp only [renVs, Option.some.injEq] at h; subst h; exact hx
  | x :: xs, y, u, h, hx => by
    simp only [renVs] at h
    split at h
    · rename_i v l hv hl
      simp only [Option.some.injEq] at h; subst h
      obtain ⟨w, m, rfl, h1, h2⟩ := hx
      exact ⟨w, m, rfl, renV_of hs hv h1, renVs_of hs hl h2⟩
    · cases h
end
theorem renVs_len {σ : Nat → Option Nat} : ∀ {x y : List XV}, renVs σ x = some y → y.length = x.length
  | [], y, h => by simp only [renVs, Option.some.injEq] at h; subst h; rfl
  | x :: xs, y, h => by
    simp only [renVs] at h
    split at h
    · rename_i v l hv hl
      simp only [Option.some.injEq] at h; subst h
      simp [renVs_len hl]
    · cases h
theorem renE_of {σ : Nat → Option Nat} {E E' : EX} (hs : Ren σ E E') : ∀ {x y : List XE} {u : List MapEntry}, renE σ x = some y → REs E x u → REs E' y u
  | [], y, u, h, hx => by simp only [renE, Option.some.injEq] at h; subst h; exact hx
  | x :: xs, y, u, h, hx => by
    simp only [renE] at h
    split at h
    · rename_i k v l hk hv hl
      simp only [Option.some.injEq] at h; subst h
      obtain ⟨w, m, rfl, h1, h2, h3, h4⟩ := hx
      exact ⟨w, m, rfl, renV_of hs hk h1, renV_of hs hv h2, h3, renE_of hs hl h4⟩
    · cases h
theorem renO_of {P : Program} {σ : Nat → Option Nat} {E E' : EX} (hs : Ren σ E E') {x y : XO} {h : Hp} {b : Nat × Nat} (hr : renO σ x = some y) (hx : RO P E h b x) : RO P E' h b y ∧ isDead y = isDead x := by
  cases x with
  | cells l e =>
    simp only [renO] at hr
    split at hr
    · rename_i l' hl
      simp only [Option.some.injEq] at hr; subst hr
      obtain ⟨c, h1, h2, h3⟩ := hx
      refine ⟨⟨c, h1, by rw [renVs_len hl]; exact h2, fun i v hv => ?_⟩, rfl⟩
      have := renVs_of hs hl (take_pre (by omega) h3)
      obtain ⟨u, g1, g2⟩ := this.get hv
      refine ⟨u, ?_, g2⟩
      have hi : i < l.length := by
        rcases Nat.lt_or_ge i l.length with g | g
        · exact g
        · rw [List.getElem?_eq_none (by rw [renVs_len hl]; exact g)] at hv; cases hv
      rw [List.getElem?_take_of_lt hi] at g1
      simpa using g1
    · cases hr
  | map es c =>
    simp only [renO] at hr
    split at hr
    · rename_i l' hl
      simp only [Option.some.injEq] at hr; subst hr
      obtain ⟨m, h1, h2⟩ := hx
      exact ⟨⟨m, h1, renE_of hs hl h2⟩, rfl⟩
    · cases hr
  | iter m s n l c =>
    cases m with
    | none =>
      simp only [renO, Option.some.injEq] at hr; subst hr
      obtain ⟨m', arr, h1, h2, h3⟩ := hx
      exact ⟨⟨m', arr, h1, h2, h3⟩, rfl⟩
    | some m =>
      simp only [renO] at hr
      split at hr
      · rename_i k hk
        simp only [fN_eq, Option.some.injEq] at hr; subst hr
        obtain ⟨m', arr, h1, ⟨b', h2, h2'⟩, h3⟩ := hx
        exact ⟨⟨m', arr, h1, ⟨b', hs _ _ _ hk h2, h2'⟩, h3⟩, rfl⟩
      · cases hr
  | dead =>
    simp only [renO, Option.some.injEq] at hr; subst hr
    exact ⟨trivial, rfl⟩

/-! ### the heap with its new blocks in another order -/
theorem posX_some {k : Nat} : ∀ {L : List Nat} {i r : Nat}, posX k L i = some r → ∃ j, r = i + j ∧ L[j]? = some k
  | [], i, r, h => by simp [posX] at h
  | x :: L, i, r, h => by
    simp only [posX] at h
    split at h
    · rename_i g
      simp only [Option.some.injEq] at h
      exact ⟨0, by omega, by simp [nbeq g]⟩
    · obtain ⟨j, h1, h2⟩ := posX_some h
      exact ⟨j + 1, by simp only [Nat.succ_eq_add_one] at h1; omega, by simpa using h2⟩
theorem renOs_of {σ : Nat → Option Nat} : ∀ {n : Nat} {C A : XH}, renOs σ n C = some A → A.length = n ∧ ∀ (i : Nat) (o' : XO), A[i]? = some o' → ∃ o, C[i]? = some o ∧ renO σ o = some o'
  | 0, C, A, h => by
    have : A = [] := by cases C <;> simp only [renOs, Option.some.injEq] at h <;> exact h.symm
    subst this
    exact ⟨rfl, fun i o' hi => by simp at hi⟩
  | n + 1, [], A, h => by simp [renOs] at h
  | n + 1, o :: C, A, h => by
    simp only [renOs] at h
    split at h
    · rename_i o' r h1 h2
      simp only [Option.some.injEq] at h; subst h
      obtain ⟨g1, g2⟩ := renOs_of h2
      refine ⟨by simp [g1], fun i o2 hi => ?_⟩
      cases i with
      | zero => simp at hi; subst hi; exact ⟨o, by simp, h1⟩
      | succ i => simp at hi; obtain ⟨q, k1, k2⟩ := g2 i o2 hi; exact ⟨q, by simpa using k1, k2⟩
    · cases h
theorem pickO_of {σ : Nat → Option Nat} {C : XH} : ∀ {L : List Nat} {B : XH}, pickO σ C L = some B → B.length = L.length ∧ ∀ (i : Nat) (o' : XO), B[i]? = some o' → ∃ k o, L[i]? = some k ∧ C[k]? = some o ∧ renO σ o = some o'
  | [], B, h => by simp only [pickO, Option.some.injEq] at h; subst h; exact ⟨rfl, fun i o' hi => by simp at hi⟩
  | k :: L, B, h => by
    simp only [pickO, nthX_eq] at h
    split at h
    · rename_i o ho
      split at h
      · rename_i o' r h1 h2
        simp only [Option.some.injEq] at h; subst h
        obtain ⟨g1, g2⟩ := pickO_of h2
        refine ⟨by simp [g1], fun i o2 hi => ?_⟩
        cases i with
        | zero => simp at hi; subst hi; exact ⟨k, o, by simp, ho, h1⟩
        | succ i => simp at hi; obtain ⟨q, q2, k1, k2⟩ := g2 i o2 hi; exact ⟨q, q2, by simpa using k1, k2⟩
      · cases h
    · cases h
theorem goodL_of {n0 : Nat} : ∀ {L : List Nat}, goodL n0 L = true → (∀ k ∈ L, n0 ≤ k) ∧ ∀ (i j k : Nat), L[i]? = some k → L[j]? = some k → i = j
  | [], _ => ⟨fun k hk => by simp at hk, fun i j k hi => by simp at hi⟩
  | x :: L, h => by
    simp only [goodL] at h
    split at h
    · rename_i g
      simp only [Bool.and_eq_true, Bool.not_eq_true'] at g
      obtain ⟨h1, h2⟩ := goodL_of h
      have hx : x ∉ L := fun hm => by rw [inX_iff.2 hm] at g; cases g.2
      refine ⟨fun k hk => ?_, fun i j k hi hj => ?_⟩
      · rcases List.mem_cons.1 hk with rfl | hk
        · exact Nat.le_of_ble_eq_true g.1
        · exact h1 k hk
      · cases i with
        | zero => cases j with
          | zero => rfl
          | succ j =>
            simp at hi hj; subst hi
            exact absurd (List.mem_of_getElem? hj) hx
        | succ i => cases j with
          | zero =>
            simp at hi hj; subst hj
            exact absurd (List.mem_of_getElem? hi) hx
          | succ j => simp at hi hj; rw [h2 i j k hi hj]
    · cases h
theorem cmpH_sound {P : Program} {E : EX} {C C' : XH} {h : Hp} {n0 : Nat} {L : List Nat} (H : RH P E C h) (hc : cmpH n0 L C = some C') :
    ∃ E', Ren (sigX n0 L) E E' ∧ RH P E' C' h ∧ (∀ k, k < n0 → E' k = E k) ∧ ∀ j, Out E C j → Out E' C' j := by
  unfold cmpH at hc
  split at hc
  · rename_i A B hg hA hB
    simp only [appX_eq, Option.some.injEq] at hc; subst hc
    obtain ⟨g1, g2⟩ := goodL_of hg
    obtain ⟨a1, a2⟩ := renOs_of hA
    obtain ⟨b1, b2⟩ := pickO_of hB
    have hren : Ren (sigX n0 L) E (fun j => if j < n0 then E j else match L[j - n0]? with | some k => E k | none => none) := by
      intro k k' b hk hb
      unfold sigX at hk
      split at hk
      · rename_i hlt
        simp only [Option.some.injEq] at hk; subst hk
        simp only [if_pos (show k < n0 from Nat.le_of_ble_eq_true hlt), hb]
      · obtain ⟨j, rfl, hj⟩ := posX_some hk
        simp only [if_neg (show ¬ n0 + j < n0 by omega), Nat.add_sub_cancel_left, hj, hb]
    have src : ∀ {j : Nat} {o' : XO}, (A ++ B)[j]? = some o' → ∃ k o, C[k]? = some o ∧ renO (sigX n0 L) o = some o' ∧ (if j < n0 then E j else match L[j - n0]? with | some k => E k | none => none) = E k ∧ ((j < n0 ∧ k = j) ∨ (n0 ≤ j ∧ L[j - n0]? = some k)) := by
      intro j o' hj
      rw [List.getElem?_append] at hj
      split at hj
      · rename_i hlt
        obtain ⟨o, h1, h2⟩ := a2 j o' hj
        have : j < n0 := by omega
        exact ⟨j, o, h1, h2, by rw [if_pos this], .inl ⟨this, rfl⟩⟩
      · rename_i hge
        obtain ⟨k, o, h1, h2, h3⟩ := b2 _ o' hj
        rw [a1] at h1
        have : ¬ j < n0 := by omega
        exact ⟨k, o, h2, h3, by rw [if_neg this, h1], .inr ⟨by omega, h1⟩⟩
    refine ⟨_, hren, ⟨fun j hj => ?_, fun j hj => ?_, fun i j o p b c hi hj di dj ei ej e => ?_, fun j o' b hj ej => ?_⟩, fun k hk => if_pos hk, fun j ho i b hl ei => ?_⟩
    · obtain ⟨k, o, h1, _, h3, _⟩ := src (List.getElem?_eq_getElem hj)
      obtain ⟨b, h4, h5, _⟩ := H.id h1
      exact ⟨b, by rw [h3]; exact h4, h5⟩
    · simp only [List.length_append, a1, b1] at hj
      simp only [if_neg (show ¬ j < n0 by omega), List.getElem?_eq_none (show L.length ≤ j - n0 by omega)]
    · obtain ⟨k1, o1, h1, h2, h3, h4⟩ := src hi
      obtain ⟨k2, o2, h5, h6, h7, h8⟩ := src hj
      rw [h3] at ei
      rw [h7] at ej
      have d1 : isDead o1 = false := by
        obtain ⟨b', q1, _, q2⟩ := H.id h1
        rw [← (renO_of hren h2 q2).2]; exact di
      have d2 : isDead o2 = false := by
        obtain ⟨b', q1, _, q2⟩ := H.id h5
        rw [← (renO_of hren h6 q2).2]; exact dj
      have hk := H.inj k1 k2 o1 o2 b c h1 h5 d1 d2 ei ej e
      subst hk
      rcases h4 with ⟨h4, h4'⟩ | ⟨h4, h4'⟩ <;> rcases h8 with ⟨h8, h8'⟩ | ⟨h8, h8'⟩
      · omega
      · have := g1 k1 (List.mem_of_getElem? h8'); omega
      · have := g1 k1 (List.mem_of_getElem? h4'); omega
      · have := g2 _ _ _ h4' h8'; omega
    · obtain ⟨k, o, h1, h2, h3, _⟩ := src hj
      rw [h3] at ej
      exact (renO_of hren h2 (H.ob k o b h1 ej)).1
    · obtain ⟨o', ho', hd⟩ := hl
      obtain ⟨k, o, h1, h2, h3, _⟩ := src ho'
      replace ei : E k = some b := by rw [← h3]; exact ei
      obtain ⟨b', q1, _, q2⟩ := H.id h1
      exact ho k b ⟨o, h1, by rw [← (renO_of hren h2 q2).2]; exact hd⟩ ei
  · cases hc
/-- Seen from where it began. -/
theorem cmp_adv {P : Program} {E0 E E' : EX} {C0 C C' : XH} {h0 h : Hp} (H0 : RH P E0 C0 h0) (ha : Adv E0 C0 h0 E C h) (hE : ∀ k, k < C0.length → E' k = E k) (ho : ∀ j, Out E C j → Out E' C' j) : Adv E0 C0 h0 E' C' h :=
  ⟨fun k b hk => by rw [hE k (H0.lt hk).1]; exact ha.gr k b hk, ha.sz, fun j hj hout => let ⟨g1, g2⟩ := ha.fr j hj hout; ⟨g1, ho j g2⟩⟩
theorem cmpR_sound {P : Program} {E0 E : EX} {C0 : XH} {h0 h : Hp} {r r' : List XV × XH} {us : List Value} (H0 : RH P E0 C0 h0) (ha : Adv E0 C0 h0 E r.2 h) (H : RH P E r.2 h) (hv : RVs E r.1 us) (hc : cmpR C0.length r = some r') :
    ∃ E', Adv E0 C0 h0 E' r'.2 h ∧ RH P E' r'.2 h ∧ RVs E' r'.1 us := by
  unfold cmpR at hc
  simp only at hc
  split at hc
  · rename_i vs C1 h1 h2
    simp only [Option.some.injEq] at hc; subst hc
    obtain ⟨E', g1, g2, g3, g4⟩ := cmpH_sound H h2
    exact ⟨E', cmp_adv H0 ha g3 g4, g2, renVs_of g1 h1 hv⟩
  · cases hc
end Go.Lift

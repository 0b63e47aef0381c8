/- The evaluator's quiet operations are sound. -/
import Derived.Test.YtgmbhlfecbpclacGreatDoorXb
import Derived.Laws.Strings
set_option linter.unusedSimpArgs false
set_option linter.unusedVariables false
namespace Go.Lift
open Go

theorem mkI_some {k : IntKind} {n : Int} {x : XV} (h : mkI k n = some x) : x = .int k n := by simpa [mkI, eq_comm] using h
theorem mkB_some {b : Bool} {x : XV} (h : mkB b = some x) : x = .bool b := by simpa [mkB, eq_comm] using h
theorem lBeq_eq : ∀ (l m : List Nat), lBeq l m = (l == m)
  | [], [] => rfl
  | [], _ :: _ => rfl
  | _ :: _, [] => rfl
  | a :: l, b :: m => by
    simp only [lBeq, lBeq_eq l m]
    by_cases e : a = b
    · subst e; simp
    · have : Nat.beq a b = false := by
        cases h : Nat.beq a b with
        | false => rfl
        | true => exact absurd (Nat.eq_of_beq_eq_true h) e
      simp [this, e]
theorem u8_inj {l m : List UInt8} (h : l.map UInt8.toNat = m.map UInt8.toNat) : l = m := by
  induction l generalizing m with
  | nil => cases m with
    | nil => rfl
    | cons b m => simp at h
  | cons a l ih => cases m with
    | nil => simp at h
    | cons b m =>
      simp only [List.map_cons, List.cons.injEq] at h
      rw [UInt8.toNat_inj.1 h.1, ih h.2]
theorem lBeq_u8 (l m : List UInt8) : lBeq (l.map UInt8.toNat) (m.map UInt8.toNat) = (l == m) := by
  rw [lBeq_eq]
  by_cases e : l = m
  · subst e; simp
  · have : ¬ (l.map UInt8.toNat = m.map UInt8.toNat) := fun h => e (u8_inj h)
    rw [beq_eq_false_iff_ne.2 e, beq_eq_false_iff_ne.2 this]
theorem lLt_u8 : ∀ (l m : List UInt8), lLt (l.map UInt8.toNat) (m.map UInt8.toNat) = Op.bytesLess l m
  | [], [] => rfl
  | [], _ :: _ => rfl
  | _ :: _, [] => rfl
  | a :: l, b :: m => by
    simp only [List.map_cons, lLt, Op.bytesLess, lLt_u8 l m]
    by_cases e : a = b
    · subst e
      have : ¬ a < a := by simp
      simp [this]
    · have h1 : Nat.beq a.toNat b.toNat = false := by
        cases h : Nat.beq a.toNat b.toNat with
        | false => rfl
        | true => exact absurd (UInt8.toNat_inj.1 (Nat.eq_of_beq_eq_true h)) e
      have h2 : (a == b) = false := beq_eq_false_iff_ne.2 e
      rw [h1, h2]
      simp only [Bool.false_and, Bool.or_false]
      rw [Bool.eq_iff_iff, decide_eq_true_iff, UInt8.lt_iff_toNat_lt]
      exact ⟨fun h => Nat.le_of_ble_eq_true h, fun h => Nat.ble_eq_true_of_le h⟩
theorem bytes_inj {s t : ByteArray} (h : s.data.toList.map UInt8.toNat = t.data.toList.map UInt8.toNat) : s = t := by
  have := u8_inj h
  cases s; cases t
  simp only at this
  rw [Array.toList_inj.1 this]
theorem byte_size (s : ByteArray) : s.size = s.data.toList.length := by rw [Array.length_toList]; rfl

/-! ### one value -/
theorem kBeq_refl (k : IntKind) : kBeq k k = true := by cases k <;> rfl
mutual
theorem RV.uniq {E E' : EX} (hg : Grow E E') : ∀ {x x' : XV} {u u' : Value}, eqV x x' = true → RV E x u → RV E' x' u' → u = u'
  | .int k a, x', u, u', he, h, h' => by
    cases x' <;> simp only [eqV, Bool.false_eq_true, Bool.and_eq_true, iBeq_eq, beq_iff_eq] at he
    obtain ⟨h1, h2⟩ := he
    have := kBeq_eq h1
    simp only [RV] at h h'
    rw [h, h', this, h2]
  | .bool a, x', u, u', he, h, h' => by
    cases x' <;> simp only [eqV, Bool.false_eq_true, beq_iff_eq] at he
    simp only [RV] at h h'
    rw [h, h', he]
  | .str a, x', u, u', he, h, h' => by
    cases x' <;> simp only [eqV, Bool.false_eq_true, lBeq_eq, beq_iff_eq] at he
    obtain ⟨s, rfl, h1⟩ := h
    obtain ⟨t, rfl, h2⟩ := h'
    rw [bytes_inj (h1.trans (he.trans h2.symm))]
  | .ptr a, x', u, u', he, h, h' => by
    cases x' <;> simp only [eqV, Bool.false_eq_true] at he
    rename_i a'
    rcases a with _ | ⟨k, o⟩ <;> rcases a' with _ | ⟨k', o'⟩ <;> simp only [aBeq, Bool.false_eq_true, Bool.and_eq_true] at he
    · simp only [RV] at h h'; rw [h, h']
    · have e1 := Nat.eq_of_beq_eq_true he.1
      have e2 := Nat.eq_of_beq_eq_true he.2
      subst e1 e2
      obtain ⟨b, h1, rfl⟩ := h
      obtain ⟨b', h2, rfl⟩ := h'
      rw [hg _ _ h1] at h2; cases h2; rfl
  | .gl g o, x', u, u', he, h, h' => by
    cases x' <;> simp only [eqV, Bool.false_eq_true, Bool.and_eq_true] at he
    have e1 := Nat.eq_of_beq_eq_true he.1
    have e2 := Nat.eq_of_beq_eq_true he.2
    subst e1 e2
    simp only [RV] at h h'; rw [h, h']
  | .sl a n c e, x', u, u', he, h, h' => by
    cases x' <;> simp only [eqV, Bool.false_eq_true, Bool.and_eq_true, beq_iff_eq] at he
    rename_i a' n' c' e'
    obtain ⟨⟨⟨h1, h2⟩, h3⟩, h4⟩ := he
    have e1 := Nat.eq_of_beq_eq_true h2
    have e2 := Nat.eq_of_beq_eq_true h3
    subst e1 e2 h4
    rcases a with _ | ⟨k, o⟩ <;> rcases a' with _ | ⟨k', o'⟩ <;> simp only [aBeq, Bool.false_eq_true, Bool.and_eq_true] at h1
    · simp only [RV] at h h'; rw [h, h']
    · have e1 := Nat.eq_of_beq_eq_true h1.1
      have e2 := Nat.eq_of_beq_eq_true h1.2
      subst e1 e2
      cases e
      · obtain ⟨b, h1, rfl⟩ := h
        obtain ⟨b', h2, rfl⟩ := h'
        rw [hg _ _ h1] at h2; cases h2; rfl
      · obtain ⟨b, h1, rfl⟩ := h
        obtain ⟨b', h2, rfl⟩ := h'
        rw [hg _ _ h1] at h2; cases h2; rfl
  | .slE k, x', u, u', he, h, h' => by cases x' <;> simp [eqV] at he
  | .map a, x', u, u', he, h, h' => by
    cases x' <;> simp only [eqV, Bool.false_eq_true] at he
    rename_i a'
    rcases a with _ | k <;> rcases a' with _ | k' <;> simp only [oBeq, Bool.false_eq_true] at he
    · simp only [RV] at h h'; rw [h, h']
    · have e1 := Nat.eq_of_beq_eq_true he
      subst e1
      obtain ⟨b, h1, rfl⟩ := h
      obtain ⟨b', h2, rfl⟩ := h'
      rw [hg _ _ h1] at h2; cases h2; rfl
  | .fn i cs, x', u, u', he, h, h' => by
    cases x' <;> simp only [eqV, Bool.false_eq_true, Bool.and_eq_true] at he
    have e1 := Nat.eq_of_beq_eq_true he.1
    subst e1
    obtain ⟨l, rfl, h1⟩ := h
    obtain ⟨l', rfl, h2⟩ := h'
    rw [RVs.uniq hg he.2 h1 h2]
  | .fnB i fs cs, x', u, u', he, h, h' => by cases x' <;> simp [eqV] at he
  | .nilFn, x', u, u', he, h, h' => by
    cases x' <;> simp only [eqV, Bool.false_eq_true] at he
    simp only [RV] at h h'; rw [h, h']
  | .flt k a, x', u, u', he, h, h' => by
    cases x' <;> simp only [eqV, Bool.false_eq_true, Bool.and_eq_true] at he
    have e1 := fkBeq_eq he.1
    have e2 := Nat.eq_of_beq_eq_true he.2
    subst e1 e2
    simp only [RV] at h h'; rw [h, h']
  | .agg l, x', u, u', he, h, h' => by
    cases x' <;> simp only [eqV, Bool.false_eq_true] at he
    obtain ⟨m, rfl, h1⟩ := h
    obtain ⟨m', rfl, h2⟩ := h'
    rw [RVs.uniq hg he h1 h2]
  | .tup l, x', u, u', he, h, h' => by
    cases x' <;> simp only [eqV, Bool.false_eq_true] at he
    obtain ⟨m, rfl, h1⟩ := h
    obtain ⟨m', rfl, h2⟩ := h'
    rw [RVs.uniq hg he h1 h2]
  | .undef, x', u, u', he, h, h' => by
    cases x' <;> simp only [eqV, Bool.false_eq_true] at he
    simp only [RV] at h h'; rw [h, h']
  | .yld k, x', u, u', he, h, h' => by
    cases x' <;> simp only [eqV, Bool.false_eq_true] at he
    have e1 := Nat.eq_of_beq_eq_true he
    subst e1
    obtain ⟨b, h1, rfl⟩ := h
    obtain ⟨b', h2, rfl⟩ := h'
    rw [hg _ _ h1] at h2; cases h2; rfl
theorem RVs.uniq {E E' : EX} (hg : Grow E E') : ∀ {x x' : List XV} {u u' : List Value}, eqVs x x' = true → RVs E x u → RVs E' x' u' → u = u'
  | [], [], u, u', _, h, h' => by simp only [RVs] at h h'; rw [h, h']
  | [], _ :: _, _, _, he, _, _ => by simp [eqVs] at he
  | _ :: _, [], _, _, he, _, _ => by simp [eqVs] at he
  | x :: l, x' :: l', u, u', he, h, h' => by
    simp only [eqVs] at he
    split at he
    · rename_i h1
      obtain ⟨v, m, rfl, g1, g2⟩ := h
      obtain ⟨v', m', rfl, g3, g4⟩ := h'
      rw [RV.uniq hg h1 g1 g3, RVs.uniq hg he g2 g4]
    · cases he
end

section
variable {P : Program} {E : EX} {C : XH} {h : Hp}
/-! ### cells -/
theorem cellsX_blk {k o n : Nat} {vs : List XV} (H : RH P E C h) (hv : cellsX C k o n = some vs) :
    ∃ b c e, E k = some b ∧ Blk h b.1 c e ∧ o + n ≤ c.size ∧ RVs E vs ((c.toList.drop o).take n) ∧ vs.length = n := by
  unfold cellsX at hv
  rw [nthX_eq] at hv
  split at hv
  · rename_i l e hk
    obtain ⟨b, h1, h2, c, h3, h4, h5⟩ := H.id hk
    obtain ⟨g1, g2⟩ := cut_get hv
    obtain ⟨g3, _⟩ := cutX_some hv
    refine ⟨b, c, e, h1, h3, by omega, RVs_iff.2 ⟨by simp; omega, fun i x hx => ?_⟩, g1⟩
    have hi : i < n := by
      rcases Nat.lt_or_ge i n with g | g
      · exact g
      · rw [List.getElem?_eq_none (by omega)] at hx; cases hx
    rw [g2 i hi] at hx
    obtain ⟨u, g4, g5⟩ := h5 _ _ hx
    refine ⟨u, ?_, g5⟩
    rw [List.getElem?_take_of_lt hi, List.getElem?_drop]
    simpa using g4
  · cases hv
theorem cellsX_rd {k o n : Nat} {vs : List XV} (H : RH P E C h) (hv : cellsX C k o n = some vs) :
    ∃ b us, E k = some b ∧ RVs E vs us ∧ vs.length = n ∧ cellsAt h (some ⟨b.1, o, none⟩) n us := by
  obtain ⟨b, c, e, h1, h2, h3, h4, h5⟩ := cellsX_blk H hv
  exact ⟨b, _, h1, h4, h5, cellsAt_blk h2 h3⟩
def factsL (a : Addr) : Nat → List Value → List (Hp → Prop)
  | _, [] => []
  | i, u :: us => (fun h' => rd h' (a.add i) = some u) :: factsL a (i + 1) us
theorem ldLF_of {a : Addr} : ∀ {ts : List CT} {i : Nat} {xs : List XV} {us : List Value} {K : List Value → List (Hp → Prop) → Prop}, ctsX ts xs = true → RVs E xs us → (∀ j, j < us.length → rd h (a.add (i + j)) = us[j]?) → K us (factsL a i us) → ldLF h a i ts K
  | [], i, [], us, K, _, hr, _, hK => by simp only [RVs] at hr; subst hr; exact hK
  | [], _, _ :: _, _, _, hc, _, _, _ => by simp [ctsX] at hc
  | _ :: _, _, [], _, _, hc, _, _, _ => by simp [ctsX] at hc
  | t :: ts, i, x :: xs, us, K, hc, hr, hd, hK => by
    obtain ⟨u, us', rfl, h1, h2⟩ := hr
    simp only [ctsX] at hc
    split at hc
    · rename_i h3
      refine exC_of h3 h1 ⟨by have := hd 0 (by simp); simpa using this, ?_⟩
      refine ldLF_of hc h2 (fun j hj => ?_) hK
      have := hd (j + 1) (by simpa using hj)
      rw [show i + 1 + j = i + (j + 1) by omega]
      simpa using this
    · cases hc
theorem factsL_all {a : Addr} {h' : Hp} : ∀ {us : List Value} {i : Nat}, (∀ j, j < us.length → rd h' (a.add (i + j)) = us[j]?) → allF (factsL a i us) h'
  | [], _, _ => allF_nil
  | u :: us, i, hd => by
    refine allF_cons.2 ⟨by have := hd 0 (by simp); simpa using this, factsL_all fun j hj => ?_⟩
    have := hd (j + 1) (by simpa using hj)
    rw [show i + 1 + j = i + (j + 1) by omega]
    simpa using this
theorem ldL_of {a : Addr} : ∀ {ts : List CT} {i : Nat} {xs : List XV} {us : List Value} {K : List Value → Prop}, ctsX ts xs = true → RVs E xs us → (∀ j, j < us.length → rd h (a.add (i + j)) = us[j]?) → K us → ldL h a i ts K
  | [], i, [], us, K, _, hr, _, hK => by simp only [RVs] at hr; subst hr; exact hK
  | [], _, _ :: _, _, _, hc, _, _, _ => by simp [ctsX] at hc
  | _ :: _, _, [], _, _, hc, _, _, _ => by simp [ctsX] at hc
  | t :: ts, i, x :: xs, us, K, hc, hr, hd, hK => by
    obtain ⟨u, us', rfl, h1, h2⟩ := hr
    simp only [ctsX] at hc
    split at hc
    · rename_i h3
      refine exC_of h3 h1 ⟨by have := hd 0 (by simp); simpa using this, ?_⟩
      refine ldL_of hc h2 (fun j hj => ?_) hK
      have := hd (j + 1) (by simpa using hj)
      rw [show i + 1 + j = i + (j + 1) by omega]
      simpa using this
    · cases hc
/-- What a load reads. -/
inductive LdR (P : Program) (t : TypeId) (h : Hp) (a : Addr) : Value → Prop
  | one (ct : CT) (u : Value) : lay P t = some (.c ct) → rd h a = some u → LdR P t h a u
  | agg (ts : List CT) (us : List Value) : lay P t = some (.agg ts) → us.length = ts.length → (∀ j, j < us.length → rd h (a.add j) = us[j]?) → LdR P t h a (.agg us.toArray)
theorem ctsX_len : ∀ {ts : List CT} {xs : List XV}, ctsX ts xs = true → ts.length = xs.length
  | [], [], _ => rfl
  | [], _ :: _, h => by simp [ctsX] at h
  | _ :: _, [], h => by simp [ctsX] at h
  | _ :: _, _ :: _, h => by
    simp only [ctsX] at h
    split at h
    · simp [ctsX_len h]
    · cases h
theorem ldX_spec {t : TypeId} {a x : XV} {p : Value} (H : RH P E C h) (hv : ldX P t a C = some x) (ha : RV E a p) :
    ∃ k o b u, a = .ptr (some (k, o)) ∧ E k = some b ∧ p = .pointer (some ⟨b.1, o, none⟩) ∧ RV E x u ∧ LdR P t h ⟨b.1, o, none⟩ u ∧
      (∀ K : Value → List (Hp → Prop) → Prop, (∀ fs, (∀ h', LdR P t h' ⟨b.1, o, none⟩ u → allF fs h') → K u fs) → ldF P t ⟨b.1, o, none⟩ h K) ∧ (∀ K : Value → Prop, K u → ldW P t ⟨b.1, o, none⟩ h K) := by
  unfold ldX at hv
  split at hv
  · rename_i k o
    obtain ⟨b, hb, rfl⟩ := ha
    split at hv
    · rename_i ct hl
      split at hv
      · rename_i v hc
        split at hv
        · rename_i hct
          simp at hv; subst hv
          obtain ⟨b', us, h1, h2, h3, h4, h5⟩ := cellsX_rd H hc
          rw [hb] at h1; cases h1
          obtain ⟨u, us', rfl, g1, g2⟩ := h2
          have g3 : rd h ⟨b.1, o, none⟩ = some u := by have := h5 0 (by omega); simpa using this
          refine ⟨k, o, b, u, rfl, hb, rfl, g1, .one ct u hl g3, fun K hK => ?_, fun K hK => ?_⟩
          · unfold ldF
            rw [hl]
            refine exC_of hct g1 ⟨g3, hK _ fun h' hr => ?_⟩
            cases hr with
            | one _ _ _ hr => exact allF_one.2 hr
            | agg _ _ hl' _ _ => rw [hl] at hl'; cases hl'
          · unfold ldW
            rw [hl]
            exact exC_of hct g1 ⟨g3, hK⟩
        · cases hv
      · cases hv
    · rename_i ts hl
      split at hv
      · rename_i vs hc
        split at hv
        · rename_i hct
          simp at hv; subst hv
          obtain ⟨b', us, h1, h2, h3, h4, h5⟩ := cellsX_rd H hc
          rw [hb] at h1; cases h1
          have e1 := ctsX_len hct
          have e2 := h2.len
          have g3 : ∀ j, j < us.length → rd h (Addr.add ⟨b.1, o, none⟩ j) = us[j]? := fun j hj => h5 j (by simp; omega)
          refine ⟨k, o, b, .agg us.toArray, rfl, hb, rfl, ⟨us, rfl, h2⟩, .agg ts us hl (by omega) g3, fun K hK => ?_, fun K hK => ?_⟩
          · unfold ldF
            rw [hl]
            refine ldLF_of hct h2 (fun j hj => by rw [Nat.zero_add]; exact g3 j hj) (hK _ fun h' hr => ?_)
            generalize hw : Value.agg us.toArray = w at hr
            cases hr with
            | one _ _ hl' _ => rw [hl] at hl'; cases hl'
            | agg ts' us' hl' _ hd =>
              have : us = us' := by simpa using hw
              subst this
              exact factsL_all fun j hj => by rw [Nat.zero_add]; exact hd j hj
          · unfold ldW
            rw [hl]
            exact ldL_of hct h2 (fun j hj => by rw [Nat.zero_add]; exact g3 j hj) hK
        · cases hv
      · cases hv
    · cases hv
  · cases hv

/-! ### operators -/
theorem binIX_sound {op : BinOp} {k : IntKind} {a b : Int} {z : XV} {K : Value → Prop} (hz : binIX op k a b = some z) (hK : ∀ u, RV E z u → K u) : binI op k a b K := by
  cases op <;> simp only [binIX, reduceCtorEq] at hz <;> simp only [binI]
  case quo =>
    split at hz
    · rename_i hb
      rw [iBeq_eq] at hb
      rw [mkI_some hz] at hK
      exact ⟨by simpa using hb, hK _ rfl⟩
    · cases hz
  case rem =>
    split at hz
    · rename_i hb
      rw [iBeq_eq] at hb
      rw [mkI_some hz] at hK
      exact ⟨by simpa using hb, hK _ rfl⟩
    · cases hz
  case eql => rw [iBeq_eq] at hz; rw [mkB_some hz] at hK; exact hK _ rfl
  case neq => rw [iBeq_eq] at hz; rw [mkB_some hz] at hK; exact hK _ rfl
  case lss => rw [iLt_eq] at hz; rw [mkB_some hz] at hK; exact hK _ rfl
  case gtr => rw [iLt_eq] at hz; rw [mkB_some hz] at hK; exact hK _ rfl
  case leq =>
    rw [iLt_eq] at hz; rw [mkB_some hz] at hK; refine hK _ ?_
    simp only [RV, Value.bool.injEq]
    rw [← decide_not]; simp [Int.not_lt]
  case geq =>
    rw [iLt_eq] at hz; rw [mkB_some hz] at hK; refine hK _ ?_
    simp only [RV, Value.bool.injEq]
    rw [← decide_not]; simp [Int.not_lt]
  all_goals (rw [mkI_some hz] at hK; exact hK _ rfl)
theorem bytesLess_anti : ∀ (l m : List UInt8), (!Op.bytesLess m l) = (Op.bytesLess l m || l == m)
  | [], [] => rfl
  | [], _ :: _ => by simp [Op.bytesLess]
  | _ :: _, [] => by simp [Op.bytesLess]
  | a :: l, b :: m => by
    have ih := bytesLess_anti l m
    simp only [Op.bytesLess]
    by_cases e : a = b
    · subst e
      have : ¬ a < a := by simp
      simpa [this] using ih
    · have h1 : (a == b) = false := beq_eq_false_iff_ne.2 e
      have h2 : (b == a) = false := beq_eq_false_iff_ne.2 (Ne.symm e)
      have h3 : (a :: l == b :: m) = false := by simp [e]
      rw [h1, h2, h3]
      simp only [Bool.false_and, Bool.or_false]
      by_cases g : a < b
      · have : ¬ b < a := by rw [UInt8.lt_iff_toNat_lt] at g ⊢; omega
        simp [g, this]
      · have : b < a := by
          rw [UInt8.lt_iff_toNat_lt] at g ⊢
          have : a.toNat ≠ b.toNat := fun h => e (UInt8.toNat_inj.1 h)
          omega
        simp [g, this]
theorem binSX_sound {op : BinOp} {s t : ByteArray} {z : XV} {K : Value → Prop} (hz : binSX op (s.data.toList.map UInt8.toNat) (t.data.toList.map UInt8.toNat) = some z) (hK : ∀ u, RV E z u → K u) : binS op s t K := by
  cases op <;> simp only [binSX, reduceCtorEq] at hz <;> simp only [binS, ByteArray.toList_eq]
  case add =>
    split at hz
    · rename_i hle
      rw [lenX_eq, lenX_0] at hle
      have hle := Nat.le_of_ble_eq_true hle
      simp only [List.length_map] at hle
      refine ⟨?_, ?_⟩
      · rw [byte_size, byte_size]
        show _ ≤ (9223372036854775807 : Int)
        omega
      · simp only [appX_eq, Option.some.injEq] at hz
        subst hz
        refine hK _ ⟨_, rfl, ?_⟩
        rw [ByteArray.data_append, Array.toList_append, List.map_append]
    · cases hz
  case eql => rw [lBeq_u8] at hz; rw [mkB_some hz] at hK; exact hK _ rfl
  case neq => rw [lBeq_u8] at hz; rw [mkB_some hz] at hK; exact hK _ rfl
  case lss => rw [lLt_u8] at hz; rw [mkB_some hz] at hK; exact hK _ rfl
  case leq => rw [lLt_u8] at hz; rw [mkB_some hz] at hK; refine hK _ ?_; rw [bytesLess_anti]; rfl
  case gtr =>
    rw [lLt_u8] at hz; rw [mkB_some hz] at hK; refine hK _ ?_
    rw [← bytesLess_anti]; simp [RV]
  case geq => rw [lLt_u8] at hz; rw [mkB_some hz] at hK; exact hK _ rfl
theorem eqlO_sound {op : BinOp} {b : Bool} {z : XV} {K : Value → Prop} (hz : eqlO op b = some z) (hK : ∀ u, RV E z u → K u) :
    (op = .eql ∧ K (.bool b)) ∨ (op = .neq ∧ K (.bool (!b))) := by
  cases op <;> simp only [eqlO, reduceCtorEq] at hz
  · rw [mkB_some hz] at hK; exact .inl ⟨rfl, hK _ rfl⟩
  · rw [mkB_some hz] at hK; exact .inr ⟨rfl, hK _ rfl⟩
end
end Go.Lift

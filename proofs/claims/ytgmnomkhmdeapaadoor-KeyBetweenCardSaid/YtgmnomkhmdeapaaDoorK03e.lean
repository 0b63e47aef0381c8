/- What stands at the front of a list of bytes: a text, a value. -/
import Derived.Test.YtgmnomkhmdeapaaDoorW03e
import Derived.Lib.IndexLaws
set_option linter.unusedSimpArgs false
set_option linter.unusedVariables false
namespace Go.Lift
open Go Go.Proofs
def textL : List UInt8 → Option (List UInt8 × List UInt8)
  | [] => none
  | [_] => none
  | c :: d :: r => if c = 0 then (if d = 1 then some ([], r) else if d = 255 then (textL r).map fun p => (0 :: p.1, p.2) else none)
    else (textL (d :: r)).map fun p => (c :: p.1, p.2)
theorem textL_ne {c : UInt8} (hc : c ≠ 0) (r : List UInt8) : textL (c :: r) = (textL r).map fun p => (c :: p.1, p.2) := by
  cases r with
  | nil => simp [textL]
  | cons d r => rw [textL, if_neg hc]
theorem textL_pre : ∀ (p : List UInt8) (r : List UInt8), (∀ c ∈ p, c ≠ 0) → textL (p ++ r) = (textL r).map fun q => (p ++ q.1, q.2)
  | [], r, _ => by simp
  | c :: p, r, h => by
    rw [List.cons_append, textL_ne (h c (List.mem_cons_self ..)), textL_pre p r fun d hd => h d (List.mem_cons_of_mem _ hd), Option.map_map]
    rfl
theorem textL_none {p : List UInt8} (h : ∀ c ∈ p, c ≠ 0) : textL p = none := by
  have := textL_pre p [] h
  rw [List.append_nil] at this
  rw [this]
  rfl
theorem textL_len : ∀ {l t r : List UInt8}, textL l = some (t, r) → t.length + r.length + 2 ≤ l.length
  | [], t, r, h => by simp [textL] at h
  | [_], t, r, h => by simp [textL] at h
  | c :: d :: l, t, r, h => by
    rw [textL] at h
    split at h
    · split at h
      · simp at h
        obtain ⟨rfl, rfl⟩ := h
        simp
      · split at h
        · cases hx : textL l with
          | none => rw [hx] at h; simp at h
          | some p =>
            rw [hx] at h
            simp at h
            obtain ⟨rfl, rfl⟩ := h
            have := textL_len (t := p.1) (r := p.2) hx
            simp
            omega
        · cases h
    · cases hx : textL (d :: l) with
      | none => rw [hx] at h; simp at h
      | some p =>
        rw [hx] at h
        simp at h
        obtain ⟨rfl, rfl⟩ := h
        have := textL_len (t := p.1) (r := p.2) hx
        simp at this ⊢
        omega
theorem textL_eq : ∀ {l t r : List UInt8}, textL l = some (t, r) → l = escL t ++ endL2 ++ r
  | [], t, r, h => by simp [textL] at h
  | [_], t, r, h => by simp [textL] at h
  | c :: d :: l, t, r, h => by
    rw [textL] at h
    split at h
    · rename_i hc
      split at h
      · rename_i hd
        simp at h
        obtain ⟨rfl, rfl⟩ := h
        rw [hc, hd]
        rfl
      · split at h
        · rename_i hd
          cases hx : textL l with
          | none => rw [hx] at h; simp at h
          | some p =>
            rw [hx] at h
            simp at h
            obtain ⟨rfl, rfl⟩ := h
            have := textL_eq (t := p.1) (r := p.2) hx
            rw [escL_cons, hc, hd, if_pos rfl]
            conv => lhs; rw [this]
            simp
        · cases h
    · rename_i hc
      cases hx : textL (d :: l) with
      | none => rw [hx] at h; simp at h
      | some p =>
        rw [hx] at h
        simp at h
        obtain ⟨rfl, rfl⟩ := h
        have := textL_eq (t := p.1) (r := p.2) hx
        rw [escL_cons, if_neg hc]
        conv => lhs; rw [this]
        simp
theorem textL_esc : ∀ (t r : List UInt8), textL (escL t ++ endL2 ++ r) = some (t, r)
  | [], r => by simp [escL, endL2, textL]
  | c :: t, r => by
    rw [escL_cons]
    by_cases hc : c = 0
    · rw [if_pos hc]
      have ih := textL_esc t r
      show textL (0 :: 255 :: (escL t ++ endL2 ++ r)) = _
      rw [textL, if_pos rfl, if_neg (by decide), if_pos rfl, ih, hc]
      rfl
    · rw [if_neg hc]
      have ih := textL_esc t r
      show textL (c :: (escL t ++ endL2 ++ r)) = _
      rw [textL_ne hc, ih]
      rfl
def pickL (o : Option (V4 × List UInt8)) : Option (V4 × List UInt8) := match o with | none => none | some p => if goodX p.1 = true then some p else none
def rawL (c : UInt8) (r : List UInt8) : Option (V4 × List UInt8) :=
  if c = 0 then some (⟨0, 0, 0, sE⟩, r)
  else if c = 1 then (match r with | [] => none | b :: r' => some (⟨1, (b.toNat : Int), 0, sE⟩, r'))
  else if c = 2 then (if r.length < 8 then none else some (⟨2, (numL (r.take 8) : Int) - 9223372036854775808, 0, sE⟩, r.drop 8))
  else if c = 3 then (if r.length < 8 then none else if isF (fromF (numL (r.take 8))) = true then some (⟨3, 0, fromF (numL (r.take 8)), sE⟩, r.drop 8) else none)
  else if c = 4 then (textL r).map (fun p => (⟨4, 0, 0, ofBtl p.1⟩, p.2))
  else none
def firstL : List UInt8 → Option (V4 × List UInt8)
  | [] => none
  | c :: r => pickL (rawL c r)
theorem firstL_good {l r : List UInt8} {v : V4} (h : firstL l = some (v, r)) : goodX v = true := by
  cases l with
  | nil => cases h
  | cons c l =>
    rw [firstL] at h
    unfold pickL at h
    split at h
    · cases h
    · split at h
      · rename_i hg
        cases h
        exact hg
      · cases h
theorem firstL_raw {c : UInt8} {l r : List UInt8} {v : V4} (h : firstL (c :: l) = some (v, r)) : rawL c l = some (v, r) := by
  rw [firstL] at h
  unfold pickL at h
  split at h
  · cases h
  · rename_i e
    split at h
    · cases h; exact e
    · cases h
theorem num8_lt {r : List UInt8} (h : ¬ r.length < 8) : numL (r.take 8) < allD := by
  have := numL_lt (r.take 8)
  rw [List.length_take, Nat.min_eq_left (by omega)] at this
  exact this
theorem take8_be {r : List UInt8} (h : ¬ r.length < 8) : beL 8 (numL (r.take 8)) = r.take 8 := by
  have := beL_num (r.take 8)
  rwa [List.length_take, Nat.min_eq_left (by omega)] at this
theorem goodX_dom {v : V4} {f : Nat} {n : Int} : VOk v ↔ v.f < allD ∧ -9223372036854775808 ≤ v.n ∧ v.n < 9223372036854775808 := ⟨fun h => ⟨h.f, h.n⟩, fun h => ⟨h.1, h.2⟩⟩
theorem rawL_ok {c : UInt8} {l r : List UInt8} {v : V4} (h : rawL c l = some (v, r)) : VOk v := by
  unfold rawL at h
  split at h
  · cases h; exact ⟨by decide, by decide, by decide⟩
  split at h
  · split at h
    · cases h
    · rename_i b r'
      cases h
      have := b.toNat_lt
      exact ⟨(by decide : 0 < allD), by show -9223372036854775808 ≤ (b.toNat : Int); omega, by show (b.toNat : Int) < _; omega⟩
  split at h
  · split at h
    · cases h
    · rename_i hl
      have := num8_lt hl
      unfold allD at this
      cases h
      refine ⟨(by decide : 0 < allD), ?_, ?_⟩
      · show _ ≤ ((numL (l.take 8) : Nat) : Int) - 9223372036854775808
        omega
      · show ((numL (l.take 8) : Nat) : Int) - 9223372036854775808 < _
        omega
  split at h
  · split at h
    · cases h
    · rename_i hl
      split at h
      · cases h
        exact ⟨fromF_lt (num8_lt hl), (by decide : (-9223372036854775808 : Int) ≤ 0), (by decide : (0 : Int) < 9223372036854775808)⟩
      · cases h
  split at h
  · cases hx : textL l with
    | none => rw [hx] at h; cases h
    | some p =>
      rw [hx] at h
      cases h
      exact ⟨(by decide : 0 < allD), (by decide : (-9223372036854775808 : Int) ≤ 0), (by decide : (0 : Int) < 9223372036854775808)⟩
  · cases h
/-- What was read is made as it stood. -/
theorem rawL_enc {c : UInt8} {l r : List UInt8} {v : V4} (h : rawL c l = some (v, r)) (hg : goodX v = true) : c :: l = encX v ++ r := by
  unfold rawL at h
  split at h
  · rename_i hc; cases h; rw [hc]; rfl
  split at h
  · rename_i hc
    split at h
    · cases h
    · rename_i b r2
      cases h
      show c :: b :: r = UInt8.ofNat 1 :: ([UInt8.ofNat (b.toNat : Int).toNat] ++ r)
      rw [hc, Int.toNat_natCast, UInt8.ofNat_toNat]
      rfl
  split at h
  · rename_i hc
    split at h
    · cases h
    · rename_i hl
      have := num8_lt hl
      cases h
      show c :: l = UInt8.ofNat 2 :: (beL 8 (uN _) ++ l.drop 8)
      have e : uN ((numL (l.take 8) : Int) - 9223372036854775808) = numL (l.take 8) := by unfold uN; omega
      show c :: l = UInt8.ofNat 2 :: (beL 8 (uN ((numL (l.take 8) : Int) - 9223372036854775808)) ++ l.drop 8)
      rw [e, take8_be hl, List.take_append_drop, hc]
      rfl
  split at h
  · rename_i hc
    split at h
    · cases h
    · rename_i hl
      split at h
      · rename_i hi
        cases h
        show c :: l = UInt8.ofNat 3 :: (beL 8 (bitsF (fromF (numL (l.take 8)))) ++ l.drop 8)
        rw [bits_from (num8_lt hl) hi, take8_be hl, List.take_append_drop, hc]
        rfl
      · cases h
  split at h
  · rename_i hc
    cases hx : textL l with
    | none => rw [hx] at h; cases h
    | some p =>
      rw [hx] at h
      cases h
      show c :: l = UInt8.ofNat 4 :: (escL (btl (ofBtl p.1)) ++ endL2 ++ p.2)
      rw [btl_ofBtl, ← textL_eq (t := p.1) (r := p.2) hx, hc]
      rfl
  · cases h
theorem firstL_enc {l r : List UInt8} {v : V4} (h : firstL l = some (v, r)) : l = encX v ++ r := by
  cases l with
  | nil => cases h
  | cons c l => exact rawL_enc (firstL_raw h) (firstL_good h)
theorem firstL_ok {l r : List UInt8} {v : V4} (h : firstL l = some (v, r)) : VOk v := by
  cases l with
  | nil => cases h
  | cons c l => exact rawL_ok (firstL_raw h)
theorem firstL_len {l r : List UInt8} {v : V4} (h : firstL l = some (v, r)) : r.length < l.length := by
  rw [firstL_enc h]
  unfold encX
  simp
  omega
theorem bare_of {v : V4} (hg : goodX v = true) : (v.k ≠ 1 → v.k ≠ 2 → v.n = 0) ∧ (v.k ≠ 3 → v.f = 0) ∧ (v.k ≠ 4 → v.s = sE) ∧ (v.k = 3 → isF v.f = true) := by
  have hs : ∀ {s : ByteArray}, s.toList = [] → s = sE := fun e => toList_inj (e.trans (by simp [sE]))
  unfold goodX goodV at hg
  obtain ⟨k, n, f, s⟩ := v
  have hk : 0 ≤ k ∧ k ≤ 4 := good_k (v := ⟨k, n, f, s⟩) (by unfold goodX goodV; exact hg)
  rcases (by omega : k = 0 ∨ k = 1 ∨ k = 2 ∨ k = 3 ∨ k = 4) with rfl | rfl | rfl | rfl | rfl
  · simp [bareV] at hg
    exact ⟨fun _ _ => hg.1, fun _ => hg.2.1, fun _ => hs hg.2.2, fun h => by cases h⟩
  · simp [bareV] at hg
    exact ⟨fun h => absurd rfl h, fun _ => hg.1.1, fun _ => hs hg.1.2, fun h => by cases h⟩
  · simp [bareV] at hg
    exact ⟨fun _ h => absurd rfl h, fun _ => hg.1, fun _ => hs hg.2, fun h => by cases h⟩
  · simp [bareV] at hg
    exact ⟨fun _ _ => hg.1.1, fun h => absurd rfl h, fun _ => hs hg.1.2, fun _ => by unfold isF; rw [beq_iff_eq]; exact hg.2⟩
  · simp [bareV] at hg
    exact ⟨fun _ _ => hg.1.1, fun _ => hg.1.2, fun h => absurd rfl h, fun h => by cases h⟩
/-- What was made is read back. -/
theorem firstL_of {v : V4} (hv : VOk v) (hg : goodX v = true) (r : List UInt8) : firstL (encX v ++ r) = some (v, r) := by
  have hb := bare_of hg
  have hk := good_k hg
  obtain ⟨k, n, f, s⟩ := v
  have hp : ∀ {c : UInt8} {l : List UInt8}, rawL c l = some (⟨k, n, f, s⟩, r) → firstL (c :: l) = some (⟨k, n, f, s⟩, r) := by
    intro c l h
    rw [firstL, h]
    show (if goodX _ = true then _ else none) = _
    rw [if_pos hg]
  have e8 : ∀ u : Nat, ¬ (beL 8 u ++ r).length < 8 := fun u => by rw [List.length_append, beL_len]; omega
  have t8 : ∀ u : Nat, (beL 8 u ++ r).take 8 = beL 8 u := fun u => by rw [List.take_append_of_le_length (by rw [beL_len]; omega), List.take_of_length_le (by rw [beL_len]; omega)]
  have d8 : ∀ u : Nat, (beL 8 u ++ r).drop 8 = r := fun u => by rw [List.drop_append_of_le_length (by rw [beL_len]; omega), List.drop_of_length_le (by rw [beL_len]; omega), List.nil_append]
  simp only at hb hk
  rcases (by omega : k = 0 ∨ k = 1 ∨ k = 2 ∨ k = 3 ∨ k = 4) with rfl | rfl | rfl | rfl | rfl
  · refine hp (c := 0) (l := r) ?_
    rw [hb.1 (by decide) (by decide), hb.2.1 (by decide), hb.2.2.1 (by decide)]
    rfl
  · refine hp (c := 1) (l := UInt8.ofNat n.toNat :: r) ?_
    have hn := good_n hg rfl
    rw [hb.2.1 (by decide), hb.2.2.1 (by decide)]
    rcases hn with e | e <;> (simp only at e; subst e; rfl)
  · refine hp (c := 2) (l := beL 8 (uN n) ++ r) ?_
    rw [hb.2.1 (by decide), hb.2.2.1 (by decide)]
    unfold rawL
    rw [if_neg (by decide), if_neg (by decide), if_pos rfl, if_neg (e8 _), t8, d8, num_beL (uN_lt hv.n.2)]
    have h1 := hv.n.1
    simp only at h1
    have e : (uN n : Int) - 9223372036854775808 = n := by unfold uN; omega
    rw [e]
  · refine hp (c := 3) (l := beL 8 (bitsF f) ++ r) ?_
    have hi := hb.2.2.2 rfl
    rw [hb.1 (by decide) (by decide), hb.2.2.1 (by decide)]
    unfold rawL
    rw [if_neg (by decide), if_neg (by decide), if_neg (by decide), if_pos rfl, if_neg (e8 _), t8, d8, num_beL (bitsF_lt hv.f), from_bits hv.f hi, if_pos hi]
  · refine hp (c := 4) (l := escL (btl s) ++ endL2 ++ r) ?_
    rw [hb.1 (by decide) (by decide), hb.2.1 (by decide)]
    unfold rawL
    rw [if_neg (by decide), if_neg (by decide), if_neg (by decide), if_neg (by decide), if_pos rfl, textL_esc, Option.map_some, ofBtl_btl]
end Go.Lift

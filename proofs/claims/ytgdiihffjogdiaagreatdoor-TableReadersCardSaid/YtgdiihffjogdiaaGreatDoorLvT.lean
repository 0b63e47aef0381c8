/- Slices that are cut in front and grow behind: queues. -/
import Derived.Test.YtgdiihffjogdiaaGreatDoorLvS
set_option linter.unusedSimpArgs false
set_option linter.unusedVariables false
namespace Go.Lift
open Go
section
variable {α : Type} (T : TypeId) (enc : α → List Value)
/-- A slice of one cell an element, one's own, from some cell of its block on. -/
def OwnQ (lo : Nat) (h : Hp) (s : Sl) (xs : List α) : Prop :=
  s.n = xs.length ∧ s.n ≤ s.c ∧ (s.a = none → xs = [] ∧ s.c = 0) ∧ ∀ a, s.a = some a → ∃ b o c, a = ⟨b, o, none⟩ ∧ lo ≤ b ∧ Blk h b c T ∧ o + s.c ≤ c.size ∧ (c.toList.drop o).take s.n = xs.flatMap enc
variable {T enc}
theorem OwnQ.sl {lo : Nat} {h : Hp} {s : Sl} {xs : List α} (ho : OwnQ T enc lo h s xs) : SlOf T 1 enc h s xs := by
  refine ⟨ho.1, fun hn => (ho.2.2.1 hn).1, fun a ha => ?_⟩
  obtain ⟨b, o, c, h1, h2, h3, h4, h5⟩ := ho.2.2.2 a ha
  have := ho.2.1
  exact ⟨b, o, c, _, h1, h3, by omega, by simpa using h5⟩
theorem OwnQ.ext {S : List Nat} {lo : Nat} {h h' : Hp} {s : Sl} {xs : List α} (hs : OwnQ T enc lo h s xs) (he : Ext S h h') (hd : ∀ a, s.a = some a → a.block ∉ S) : OwnQ T enc lo h' s xs := by
  refine ⟨hs.1, hs.2.1, hs.2.2.1, fun a ha => ?_⟩
  obtain ⟨b, o, c, h1, h2, h3, h4, h5⟩ := hs.2.2.2 a ha
  have := hd a ha
  rw [h1] at this
  exact ⟨b, o, c, h1, h2, he.get h3 this, h4, h5⟩
theorem OwnQ.ext0 {lo : Nat} {h h' : Hp} {s : Sl} {xs : List α} (hs : OwnQ T enc lo h s xs) (he : Ext [] h h') : OwnQ T enc lo h' s xs := hs.ext he fun _ _ => by simp
theorem OwnQ.blk {lo : Nat} {h : Hp} {s : Sl} {xs : List α} (hs : OwnQ T enc lo h s xs) : ∀ b ∈ sBlk s, lo ≤ b ∧ b < h.size := by
  intro b hb
  obtain ⟨a, ha, hab⟩ := mem_sBlk.1 hb
  obtain ⟨b', o, c, h1, h2, h3, h4, h5⟩ := hs.2.2.2 a ha
  have := blk_lt h3
  rw [h1] at hab
  simp at hab
  omega
/-- What is in front is cut off. -/
theorem OwnQ.tail {lo : Nat} {h : Hp} {s : Sl} {x : α} {xs : List α} (he : ∀ x, (enc x).length = 1) (hs : OwnQ T enc lo h s (x :: xs)) : OwnQ T enc lo h ⟨slAd s.a 1 s.c 1, s.n - 1, s.c - 1⟩ xs := by
  have hn := hs.1
  have hc := hs.2.1
  simp only [List.length_cons] at hn
  cases hsa : s.a with
  | none => have := (hs.2.2.1 hsa).1; cases this
  | some a =>
    obtain ⟨b, o, c, h1, h2, h3, h4, h5⟩ := hs.2.2.2 a hsa
    subst h1
    have h6 : ∀ j, j < s.n → (c.toList.drop o)[j]? = ((x :: xs).flatMap enc)[j]? := by
      intro j hj
      rw [← h5, List.getElem?_take_of_lt hj]
    have hx : (x :: xs).flatMap enc = enc x ++ xs.flatMap enc := by simp
    have hex : (enc x).length = 1 := he x
    have hfl := flatMap_length he xs
    refine ⟨by simp only; omega, by simp only; omega, fun e => ?_, fun a' ha' => ?_⟩
    · simp only [slAd] at e
      split at e <;> simp at e
    · simp only at ha' ⊢
      by_cases h1c : s.c = 1
      · have e : slAd (some (⟨b, o, none⟩ : Addr)) 1 s.c 1 = some ⟨b, o, none⟩ := by unfold slAd; rw [if_pos h1c]
        rw [e] at ha'
        cases ha'
        have : xs = [] := List.eq_nil_of_length_eq_zero (by omega)
        subst this
        exact ⟨b, o, c, rfl, h2, h3, by omega, by rw [show s.n - 1 = 0 by omega]; simp⟩
      · have e : slAd (some (⟨b, o, none⟩ : Addr)) 1 s.c 1 = some ⟨b, o + 1, none⟩ := by unfold slAd; rw [if_neg h1c]; rfl
        rw [e] at ha'
        cases ha'
        refine ⟨b, o + 1, c, rfl, h2, h3, by omega, ?_⟩
        apply List.ext_getElem?
        intro j
        rw [List.getElem?_take]
        by_cases hj : j < s.n - 1
        · rw [if_pos hj]
          have := h6 (1 + j) (by omega)
          rw [hx, List.getElem?_append_right (by omega), hex, Nat.add_sub_cancel_left] at this
          rw [← this, List.getElem?_drop, List.getElem?_drop]
          congr 1
          omega
        · rw [if_neg hj, List.getElem?_eq_none (by omega)]
/-- One element more behind. -/
theorem app1Q {P : Program} {bytes lo : Nat} {h : Hp} {s : Sl} {xs : List α} {x : α} {K : Sl → Hp → Prop} {cx : Array Value} (ho : OwnQ T enc lo h s xs) (hcx : cx = (enc x).toArray) (hz : (zc P T).size = 1)
    (he : ∀ x, (enc x).length = 1) (h1 : ∀ x, ∀ v ∈ enc x, oneCell v = true) (hl : xs.length < 2 ^ 36) (hb : bytes ≤ 1024) (hlo : lo ≤ h.size)
    (H : ∀ s' h', OwnQ T enc lo h' s' (xs ++ [x]) → Ext (sBlk s) h h' → (∀ b ∈ sBlk s', b ∈ sBlk s ∨ h.size ≤ b) → K s' h') :
    wth (h.push (.cells cx T)) fun h1 => ∃ cs : List Value, cellsAt h1 (some ⟨h.size, 0, none⟩) (1 * 1) cs ∧ appS P T bytes 1 h1 s 1 cs K := by
  rw [wthE, hcx]
  have hn := ho.1
  have hcap := ho.2.1
  have e1 := Ext.push [] h (.cells (enc x).toArray T)
  have ho1 := ho.ext0 e1
  have hlx := flatMap_length he xs
  have hbig : (s.n + 1) * bytes ≤ 2 ^ 47 := by
    calc (s.n + 1) * bytes ≤ 2 ^ 37 * 1024 := Nat.mul_le_mul (by omega) hb
      _ = 2 ^ 47 := by decide
  refine ⟨enc x, ?_, ⟨⟨by omega, hbig, by simp [he], h1 x, fun _ => ⟨_, ho1.sl.cells⟩, ?_⟩, ?_⟩⟩
  · have := cellsAt_blk (push_get h (.cells (enc x).toArray T)) (o := 0) (n := 1 * 1) (by simp [he])
    rw [List.drop_zero, List.take_of_length_le (by simp [he])] at this
    exact this
  · intro hr a ha
    obtain ⟨b, o, c, g1, g2, g3, g4, g5⟩ := ho1.2.2.2 a ha
    subst g1
    rw [addr_mk]
    exact stOk_blk g3 (by omega)
  · intro s' h' hap
    cases hap with
    | room a hr ha =>
      obtain ⟨b, o, c, g1, g2, g3, g4, g5⟩ := ho1.2.2.2 a ha
      subst g1
      rw [addr_mk, wrs_blk _ g3]
      have hlen := he x
      refine H _ _ ⟨by simp [ho.1], hr, fun hn => ?_, fun a' ha' => ?_⟩ ?_ (fun b hb => Or.inl hb)
      · rw [ha] at hn; cases hn
      · rw [ha] at ha'
        cases ha'
        refine ⟨b, o, _, rfl, g2, set_blk g3, by simpa using g4, ?_⟩
        simp only [Nat.add_zero, Nat.mul_one]
        have hfl : (xs.flatMap enc).length = s.n := by omega
        apply List.ext_getElem?
        intro j
        rw [List.getElem?_take, List.flatMap_append]
        by_cases hj : j < s.n + 1
        · rw [if_pos hj, List.getElem?_drop, Array.getElem?_toList, putAt_get0 c _ _ _ (by omega)]
          by_cases hj2 : j < s.n
          · rw [if_neg (by omega), List.getElem?_append_left (by omega), ← g5, List.getElem?_take_of_lt hj2, List.getElem?_drop, Array.getElem?_toList]
          · rw [if_pos (by omega), List.getElem?_append_right (by omega), hfl]
            simp only [List.flatMap_cons, List.flatMap_nil, List.append_nil]
            congr 1
            omega
        · rw [if_neg hj, List.getElem?_eq_none (by rw [List.length_append, hfl]; simp only [List.flatMap_cons, List.flatMap_nil, List.append_nil, hlen]; omega)]
      · have : sBlk s = [b] := by unfold sBlk; rw [ha]
        rw [this]
        exact (e1.mono (by simp)).trans (Ext.set _ _ _) (fun b hb _ => hb)
    | none hr ha =>
      have := (ho.2.2.1 ha).2
      omega
    | grow old cap hr hold hcap' =>
      have hold' : old = xs.flatMap enc := by
        cases hsa : s.a with
        | none =>
          rw [hsa] at hold
          have := (ho.2.2.1 hsa).1
          subst this
          simpa [cellsAt] using hold
        | some a =>
          have h2 := ho1.sl.cells
          rw [hsa] at hold h2
          exact cellsAt_det hold h2
      subst hold'
      refine H _ _ ⟨by simp [ho.1], hcap', fun hn => (by cases hn), fun a' ha' => ?_⟩ ((e1.mono (by simp)).trans0 (Ext.push _ _ _)) (fun b hb => by simp [sBlk] at hb; right; omega)
      cases ha'
      have hlen := he x
      refine ⟨_, 0, _, rfl, by simp; omega, push_get _ _, ?_, ?_⟩
      · simp only [Array.size_append, zeroCells_size, hz, List.size_toArray, List.length_append, hlx, hlen]
        omega
      · simp only [Array.toList_append, List.drop_zero]
        rw [List.take_append_of_le_length (by simp [hlx, hlen, ho.1])]
        rw [List.take_of_length_le (by simp [hlx, hlen, ho.1]), List.flatMap_append]
        simp
end
end Go.Lift

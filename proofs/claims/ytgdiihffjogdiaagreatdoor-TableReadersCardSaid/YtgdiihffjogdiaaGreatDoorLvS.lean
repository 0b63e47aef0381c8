/- Slices of one cell each: views, writes in place, growing. -/
import Derived.Test.YtgdiihffjogdiaaGreatDoorLvR
set_option linter.unusedSimpArgs false
set_option linter.unusedVariables false
namespace Go.Lift
open Go

abbrev enV (v : Value) : List Value := [v]
theorem enV_len (v : Value) : (enV v).length = 1 := rfl
theorem flatV (l : List Value) : l.flatMap enV = l := by simp [enV]
section
variable {T : TypeId} {lo : Nat} {h : Hp} {s : Sl} {vs : List Value}
/-- The memory of a slice of one cell each that is one's own. -/
theorem ownV_mk {b c : Nat} {cs : Array Value} {a : Option Addr} (ha : a = some ⟨b, 0, none⟩) (h1 : lo ≤ b) (h2 : Blk h b cs T) (hn : vs.length ≤ c) (hc : c ≤ cs.size) (ht : cs.toList.take vs.length = vs) : Own T 1 enV lo h ⟨a, vs.length, c⟩ vs := by
  subst ha
  refine ⟨rfl, fun e => (by cases e), fun a ha => ?_⟩
  cases ha
  exact ⟨b, cs, rfl, h1, h2, hn, by show c * 1 ≤ cs.size; omega, by rw [flatV]; simpa using ht⟩
theorem ownV_open (ho : Own T 1 enV lo h s vs) (hne : s.a ≠ none) : ∃ b cs, s.a = some ⟨b, 0, none⟩ ∧ lo ≤ b ∧ Blk h b cs T ∧ vs.length ≤ s.c ∧ s.c ≤ cs.size ∧ cs.toList.take vs.length = vs ∧ s.n = vs.length := by
  cases hsa : s.a with
  | none => exact absurd hsa hne
  | some a =>
    obtain ⟨b, cs, h1, h2, h3, h4, h5, h6⟩ := ho.2.2 a hsa
    subst h1
    have hn := ho.1
    refine ⟨b, cs, rfl, h2, h3, by omega, by omega, ?_, hn⟩
    rw [flatV, hn] at h6
    simpa using h6
/-- A shorter view. -/
theorem Own.takeV (ho : Own T 1 enV lo h s vs) {i : Nat} (hi : i ≤ vs.length) : Own T 1 enV lo h ⟨s.a, i, s.c⟩ (vs.take i) := by
  have hl : (vs.take i).length = i := by simp; omega
  cases hsa : s.a with
  | none =>
    have h1 := ho.2.1 hsa
    have := h1.1
    subst this
    have : i = 0 := by simpa using hi
    subst this
    rw [h1.2]
    exact Own.nil _ _
  | some a =>
    obtain ⟨b, cs, h1, h2, h3, h4, h5, h6, h7⟩ := ownV_open ho (by rw [hsa]; simp)
    rw [hsa] at h1
    have := ownV_mk (vs := vs.take i) (c := s.c) h1 h2 h3 (by omega) h5 (by rw [hl, ← h6, List.take_take, Nat.min_eq_left hi])
    rw [hl] at this
    exact this
/-- Writing in one's own memory at an offset. -/
theorem Own.wrV (ho : Own T 1 enV lo h s vs) (hne : s.a ≠ none) {o : Nat} {zs : List Value} (hz : o + zs.length ≤ vs.length) :
    ∃ b, s.a = some ⟨b, 0, none⟩ ∧ stOk h ⟨b, o, none⟩ zs.length ∧ Own T 1 enV lo (wrs h ⟨b, o, none⟩ 0 zs) s (vs.take o ++ zs ++ vs.drop (o + zs.length)) ∧ Ext (sBlk s) h (wrs h ⟨b, o, none⟩ 0 zs) := by
  obtain ⟨b, cs, h1, h2, h3, h4, h5, h6, h7⟩ := ownV_open ho hne
  refine ⟨b, h1, stOk_blk h3 (by omega), ?_, ?_⟩
  · rw [wrs_blk _ h3]
    have hl : (vs.take o ++ zs ++ vs.drop (o + zs.length)).length = vs.length := by simp; omega
    have := ownV_mk (h := h.setIfInBounds b (.cells (putAt cs (o + 0) zs) T (0, 0))) (vs := vs.take o ++ zs ++ vs.drop (o + zs.length)) (c := s.c) h1 h2 (set_blk h3) (by omega) (by simpa using h5) ?_
    · rw [hl, ← h7] at this
      exact this
    · rw [hl, putAt_all _ _ (by omega)]
      simp only [Nat.add_zero]
      have e1 : vs.take o = cs.toList.take o := by rw [← h6, List.take_take, Nat.min_eq_left (by omega)]
      have e2 : vs.drop (o + zs.length) = (cs.toList.drop (o + zs.length)).take (vs.length - (o + zs.length)) := by
        conv => lhs; rw [← h6]
        rw [List.drop_take]
      rw [e1, e2, List.take_append, List.take_of_length_le (by simp; omega)]
      congr 2
      simp
      omega
  · rw [wrs_blk _ h3]
    unfold sBlk; rw [h1]
    exact Ext.set _ _ _
/-- A longer view, within the room. -/
theorem Own.moreV (ho : Own T 1 enV lo h s vs) (hne : s.a ≠ none) {k : Nat} (hk : vs.length + k ≤ s.c) : ∃ js : List Value, js.length = k ∧ Own T 1 enV lo h ⟨s.a, vs.length + k, s.c⟩ (vs ++ js) := by
  obtain ⟨b, cs, h1, h2, h3, h4, h5, h6, h7⟩ := ownV_open ho hne
  refine ⟨(cs.toList.drop vs.length).take k, by simp; omega, ?_⟩
  have hl : (vs ++ (cs.toList.drop vs.length).take k).length = vs.length + k := by simp; omega
  have := ownV_mk (vs := vs ++ (cs.toList.drop vs.length).take k) (c := s.c) h1 h2 h3 (by omega) h5 ?_
  · rw [hl] at this; exact this
  · rw [hl, List.take_add, h6]
theorem slAd0 (a : Option Addr) (c sz : Nat) : slAd a 0 c sz = a := by
  unfold slAd; split
  · rfl
  · cases a <;> simp
end
theorem Own.toV {α : Type} {T : TypeId} {en : α → List Value} {lo : Nat} {h : Hp} {s : Sl} {xs : List α} (hen : ∀ x, (en x).length = 1) (ho : Own T 1 en lo h s xs) : Own T 1 enV lo h s (xs.flatMap en) := by
  have hl : (xs.flatMap en).length = xs.length := by rw [flatMap_length hen]; omega
  refine ⟨by rw [hl]; exact ho.1, fun hn => ?_, fun a ha => ?_⟩
  · have := ho.2.1 hn; rw [this.1]; exact ⟨rfl, this.2⟩
  · rw [flatV]; exact ho.2.2 a ha
theorem Own.ofV {α : Type} {T : TypeId} {en : α → List Value} {lo : Nat} {h : Hp} {s : Sl} {xs : List α} (hen : ∀ x, (en x).length = 1) (ho : Own T 1 enV lo h s (xs.flatMap en)) : Own T 1 en lo h s xs := by
  have hl : (xs.flatMap en).length = xs.length := by rw [flatMap_length hen]; omega
  refine ⟨by rw [← hl]; exact ho.1, fun hn => ?_, fun a ha => ?_⟩
  · have := ho.2.1 hn
    exact ⟨List.eq_nil_of_length_eq_zero (by rw [← hl, this.1]; rfl), this.2⟩
  · have := ho.2.2 a ha; rw [flatV] at this; exact this
/-- Append where there is no room: a new block. -/
theorem app_grow {α : Type} {T : TypeId} {sz : Nat} {enc : α → List Value} {P : Program} {bytes lo m : Nat} {h : Hp} {s : Sl} {xs ys : List α} {new : List Value} {K : Sl → Hp → Prop} (ho : Own T sz enc lo h s xs) (hz : (zc P T).size = sz)
    (he : ∀ x, (enc x).length = sz) (h1 : ∀ y ∈ ys, ∀ v ∈ enc y, oneCell v = true) (hnew : new = ys.flatMap enc) (hm : m = ys.length) (hb : (s.n + m) * bytes ≤ 2 ^ 47) (hb2 : s.n + m ≤ 2 ^ 47) (hlo : lo ≤ h.size) (hgt : s.c < s.n + m)
    (H : ∀ s' h', Own T sz enc lo h' s' (xs ++ ys) → Ext [] h h' → s'.n = s.n + m → s'.a = some ⟨h.size, 0, none⟩ → s.n + m ≤ s'.c → K s' h') : appS P T bytes sz h s m new K := by
  subst hnew hm
  have hlen := flatMap_length he ys
  have hlx := flatMap_length he xs
  refine ⟨⟨hb2, hb, hlen, ?_, fun _ => ⟨_, ho.sl.cells⟩, fun hr => by omega⟩, ?_⟩
  · intro v hv
    obtain ⟨x, hx1, hx⟩ := List.mem_flatMap.1 hv
    exact h1 x hx1 v hx
  · intro s' h' hap
    cases hap with
    | room a hr ha => omega
    | none hr ha => omega
    | grow old cap hr hold hcap =>
      have hold' : old = xs.flatMap enc := by
        cases hsa : s.a with
        | none =>
          rw [hsa] at hold
          have := (ho.2.1 hsa).1
          subst this
          simpa [cellsAt] using hold
        | some a =>
          have h2 := ho.sl.cells
          rw [hsa] at hold h2
          exact cellsAt_det hold h2
      subst hold'
      refine H _ _ ⟨by simp [ho.1], fun hn => (by cases hn), fun a' ha' => ?_⟩ (Ext.push _ _ _) rfl rfl hcap
      cases ha'
      refine ⟨h.size, _, rfl, hlo, push_get _ _, hcap, ?_, ?_⟩
      · simp only [Array.size_append, zeroCells_size, hz, List.size_toArray, List.length_append, hlx, hlen]
        have : cap * sz = (s.n + ys.length) * sz + (cap - (s.n + ys.length)) * sz := by rw [← Nat.add_mul]; congr 1; omega
        rw [this, Nat.add_mul, ho.1]
        omega
      · simp only [Array.toList_append]
        rw [List.take_append_of_le_length (by simp [hlx, hlen, ho.1, Nat.add_mul])]
        rw [List.take_of_length_le (by simp [hlx, hlen, ho.1, Nat.add_mul]), List.flatMap_append]
theorem slAd_at {b l c : Nat} (hc : c ≠ l) : slAd (some ⟨b, 0, none⟩) l c 1 = some ⟨b, l, none⟩ := by
  unfold slAd
  rw [if_neg hc]
  simp
section
variable {T : TypeId} {lo : Nat} {h : Hp} {s : Sl} {vs : List Value}
/-- A copy into one's own memory. -/
theorem Own.cpV (ho : Own T 1 enV lo h s vs) (hne : s.a ≠ none) {o m : Nat} {zs : List Value} (hz : o + zs.length ≤ vs.length) (hm : zs.length = m) (h0 : 0 < zs.length) (h1 : ∀ v ∈ zs, oneCell v = true) {K : Hp → Prop}
    (H : ∀ h', Own T 1 enV lo h' s (vs.take o ++ zs ++ vs.drop (o + zs.length)) → Ext (sBlk s) h h' → K h') : cpOk h (slAd s.a o s.c 1) m zs ∧ wth (cpHp h (slAd s.a o s.c 1) zs) K := by
  obtain ⟨b, hb1, hb2, hb3, hb4⟩ := ho.wrV hne hz
  obtain ⟨_, _, _, _, _, h4, _⟩ := ownV_open ho hne
  rw [hb1, slAd_at (by omega)]
  refine ⟨⟨hm, h1, fun a ha => ?_⟩, ?_⟩
  · cases ha; rw [← hm]; exact hb2
  · exact H _ hb3 hb4
/-- A part of one's own memory, read. -/
theorem Own.cellsV (ho : Own T 1 enV lo h s vs) (hne : s.a ≠ none) {o n : Nat} (hn : o + n ≤ vs.length) (h0 : 0 < n) : cellsAt h (slAd s.a o s.c 1) n ((vs.drop o).take n) := by
  obtain ⟨b, cs, h1, h2, h3, h4, h5, h6, h7⟩ := ownV_open ho hne
  rw [h1, slAd_at (by omega)]
  have := cellsAt_blk h3 (o := o) (n := n) (by omega)
  have e : (vs.drop o).take n = (cs.toList.drop o).take n := by
    conv => lhs; rw [← h6]
    rw [List.drop_take, List.take_take, Nat.min_eq_left (by omega)]
  rw [e]
  exact this
end
theorem cellsAt_zero (h : Hp) (a : Option Addr) : cellsAt h a 0 [] := by
  cases a with
  | none => rfl
  | some a => exact ⟨rfl, fun i hi => (by omega)⟩
end Go.Lift

/- The memory of leaves in order, and what looks at it. -/
import Derived.Test.YtempffmkbpglfaaL10c
set_option linter.unusedSimpArgs false
set_option linter.unusedVariables false
namespace Go.Lift
open Go Go.Proofs
set_option maxRecDepth 100000
theorem tw_len {α : Type} (p : α → Bool) : ∀ (l : List α) (n : Nat), (∀ j (hj : j < l.length), j < n → p l[j] = true) → n ≤ l.length → (∀ hn : n < l.length, p l[n] = false) → (l.takeWhile p).length = n
  | [], n, _, h2, _ => by simp at h2; simp [h2]
  | a :: l, 0, _, _, h3 => by
    have := h3 (by simp)
    simp only [List.getElem_cons_zero] at this
    simp [List.takeWhile_cons, this]
  | a :: l, n + 1, h1, h2, h3 => by
    have h0 := h1 0 (by simp) (by omega)
    simp only [List.getElem_cons_zero] at h0
    rw [List.takeWhile_cons, if_pos h0, List.length_cons]
    rw [tw_len p l n (fun j hj hn => by have := h1 (j + 1) (by simpa using hj) (by omega); simpa using this) (by simpa using h2) (fun hn => by have := h3 (by simpa using hn); simpa using this)]
structure OneM where
  n : Int
  bound : ByteArray
  keys : List ByteArray
structure LeafM where
  fan : Int
  next : Int
  l : List OneM
structure OneC where
  b : Nat
  ks : Sl
  m : OneM
abbrev encP (b : Nat) : List Value := [.pointer (some ⟨b, 0, none⟩)]
theorem encP_len (b : Nat) : (encP b).length = 1 := rfl
structure OneAt (lo : Nat) (h : Hp) (c : OneC) : Prop where
  blk : Blk h c.b #[.int .i64 c.m.n, .string c.m.bound, .slice c.ks.a c.ks.n c.ks.c] T_leaf_one
  le : lo ≤ c.b
  keys : Own T_string 1 encB lo h c.ks c.m.keys
structure LeafAt (lo : Nat) (h : Hp) (x : Nat) (M : LeafM) (ls : Sl) (C : List OneC) : Prop where
  blk : Blk h x #[.int .i64 M.fan, .slice ls.a ls.n ls.c, .int .i64 M.next] T_leaf_Leaves
  le : lo ≤ x
  ptrs : Own T_pleaf_one 1 encP lo h ls (C.map OneC.b)
  nd : (C.map OneC.b).Nodup
  ones : ∀ c ∈ C, OneAt lo h c
  sep : C.Pairwise fun c d => ∀ b ∈ sBlk c.ks, b ∉ sBlk d.ks
  mods : C.map OneC.m = M.l
theorem OneAt.ext0 {lo : Nat} {h h' : Hp} {c : OneC} (ho : OneAt lo h c) (he : Ext [] h h') : OneAt lo h' c := ⟨he.get ho.blk (by simp), ho.le, ho.keys.ext0 he⟩
theorem LeafAt.ext0 {lo : Nat} {h h' : Hp} {x : Nat} {M : LeafM} {ls : Sl} {C : List OneC} (hl : LeafAt lo h x M ls C) (he : Ext [] h h') : LeafAt lo h' x M ls C :=
  ⟨he.get hl.blk (by simp), hl.le, hl.ptrs.ext0 he, hl.nd, fun c hc => (hl.ones c hc).ext0 he, hl.sep, hl.mods⟩
def gtB (a b : ByteArray) : Bool := !(Op.bytesLess a.toList b.toList || a.toList == b.toList)
/-- Where a key's leaf stands. -/
def atL (l : List OneM) (k : ByteArray) : Nat := (l.tail.takeWhile fun o => !gtB o.bound k).length
theorem atL_lt {l : List OneM} (h : l ≠ []) (k : ByteArray) : atL l k < l.length := by
  cases l with
  | nil => exact absurd rfl h
  | cons o l =>
    unfold atL
    have := (List.takeWhile_sublist (l := l) (fun o : OneM => !gtB o.bound k)).length_le
    simp only [List.tail_cons, List.length_cons]
    omega
section
variable {lo : Nat} {h : Hp} {x : Nat} {M : LeafM} {ls : Sl} {C : List OneC} {Q : List Value → Hp → Prop}
theorem rdP (hl : LeafAt lo h x M ls C) {i : Nat} (hi : i < C.length) : ∃ a, ls.a = some a ∧ rd h (Addr.add a (i * 1)) = some (.pointer (some ⟨(C[i]).b, 0, none⟩)) := by
  obtain ⟨b, o, h1, h2⟩ := hl.ptrs.sl.rd encP_len (i := i) (by simpa using hi)
  exact ⟨_, h1, by rw [addr_mk]; simpa using h2 0 (by omega)⟩
theorem lens (hl : LeafAt lo h x M ls C) : ls.n = C.length ∧ C.length = M.l.length := by
  refine ⟨by have := hl.ptrs.1; simpa using this, by have := congrArg List.length hl.mods; simpa using this⟩
theorem atL_eq (hl : LeafAt lo h x M ls C) (k : ByteArray) {i : Nat} (hi : i ≤ C.length) (h1 : ∀ j (hj : j < C.length), 0 < j → j ≤ i → gtB (C[j]).m.bound k = false) (h2 : ∀ hj : i + 1 < C.length, gtB (C[i + 1]).m.bound k = true) (h3 : i = 0 ∨ i < C.length) :
    atL M.l k = i := by
  unfold atL
  rw [← hl.mods]
  have hl2 : (C.map OneC.m).tail.length = C.length - 1 := by simp
  refine tw_len _ _ i (fun j hj hji => ?_) (by rw [hl2]; omega) (fun hn => ?_)
  · have hj2 : j + 1 < C.length := by rw [hl2] at hj; omega
    have := h1 (j + 1) hj2 (by omega) (by omega)
    simp [this]
  · have hj2 : i + 1 < C.length := by rw [hl2] at hn; omega
    have := h2 hj2
    simp [this]
theorem at_s (hl : LeafAt lo h x M ls C) (k : ByteArray) (hlen : M.l.length < 2 ^ 40) (hQ : Q [.int .i64 (atL M.l k : Nat)] h) : S_leaf_Leaves_at (some ⟨x, 0, none⟩) k h Q := by
  refine O_leaf_Leaves_at _ _ ?_
  unfold F_leaf_Leaves_at
  obtain ⟨n1, n2⟩ := lens hl
  simp only [nilW_some, addr_mk, rd_blk hl.blk]
  refine ⟨ls, rfl, ?_⟩
  intro J hJ X hX
  have key : ∀ d i, d + i = C.length → (∀ j (hj : j < C.length), 0 < j → j < i → gtB (C[j]).m.bound k = false) → X [.int .i64 ((i - 1 : Nat) : Int), .int .i64 (i : Int)] h := by
    intro d
    induction d with
    | zero =>
      intro i hi hall
      refine hX _ _ _ ?_
      rw [if_neg (by simp; omega)]
      refine hJ _ _ ?_
      rw [atL_eq hl k (i := i - 1) (by omega) (fun j hj h1 h2 => hall j hj h1 (by omega)) (fun hj => by omega) (by omega)] at hQ
      exact hQ
    | succ d ih =>
      intro i hi hall
      refine hX _ _ _ ?_
      rw [if_pos (by simp; omega)]
      obtain ⟨a, g1, g2⟩ := rdP hl (i := i) (by omega)
      rw [g1]
      simp only [nilW_some, Int.toNat_natCast]
      refine ⟨by omega, by omega, _, g2, ?_⟩
      intro J2 hJ2
      have ho := hl.ones (C[i]'(by omega)) (List.getElem_mem _)
      have next : (0 < i → gtB (C[i]'(by omega)).m.bound k = false) → J2 [.bool false] h := by
        intro hg
        refine hJ2 _ _ ?_
        rw [if_neg (by decide), wrap64 (by omega) (by omega)]
        have := ih (i + 1) (by omega) (fun j hj h1 h2 => by
          rcases (by omega : j < i ∨ j = i) with g | g
          · exact hall j hj h1 g
          · subst g; exact hg h1)
        simpa using this
      by_cases h0 : 0 < i
      · rw [if_pos (by simp; omega)]
        simp only [nilW_some, addr_mk, rd_blk ho.blk]
        refine ⟨_, rfl, ?_⟩
        cases hb : gtB (C[i]'(by omega)).m.bound k with
        | false =>
          have e : (!(Op.bytesLess (C[i]'(by omega)).m.bound.toList k.toList || (C[i]'(by omega)).m.bound.toList == k.toList)) = false := hb
          rw [e]
          exact next fun _ => hb
        | true =>
          have e : (!(Op.bytesLess (C[i]'(by omega)).m.bound.toList k.toList || (C[i]'(by omega)).m.bound.toList == k.toList)) = true := hb
          rw [e]
          refine hJ2 _ _ ?_
          rw [if_pos (by decide)]
          refine hJ _ _ ?_
          rw [atL_eq hl k (i := i - 1) (by omega) (fun j hj h1 h2 => hall j hj h1 (by omega)) (fun hj => by
            have e2 : i - 1 + 1 = i := by omega
            simp only [e2]; exact hb) (by omega)] at hQ
          exact hQ
      · rw [if_neg (by simp; omega)]
        exact next fun h => absurd h h0
  have := key C.length 0 (by omega) (by intro j hj h1 h2; omega)
  simpa using this
end
end Go.Lift

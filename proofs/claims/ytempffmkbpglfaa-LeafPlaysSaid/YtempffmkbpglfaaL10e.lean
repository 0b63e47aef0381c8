/- Leaves in order: what only looks: Of, All, Len; New; Clone of strings. -/
import Derived.Test.YtempffmkbpglfaaL10d
set_option linter.unusedSimpArgs false
set_option linter.unusedVariables false
namespace Go.Lift
open Go Go.Proofs
set_option maxRecDepth 100000
abbrev encIL (n : Int) : List Value := [.int .i64 n]
theorem encIL_len (n : Int) : (encIL n).length = 1 := rfl
theorem encIL_one (n : Int) : ∀ v ∈ encIL n, oneCell v = true := by intro v hv; simp at hv; subst hv; rfl
theorem zcInt : (zc PP T_int).size = 1 := by kernel_rfl
def sumL (l : List OneM) : Int := l.foldl (fun n o => n + (o.keys.length : Int)) 0
section
variable {lo : Nat} {h : Hp} {x : Nat} {M : LeafM} {ls : Sl} {C : List OneC} {Q : List Value → Hp → Prop}
theorem mod_at (hl : LeafAt lo h x M ls C) {i : Nat} (hi : i < C.length) : ∃ h2 : i < M.l.length, (C[i]).m = M.l[i] := by
  have h1 := (lens hl).2
  refine ⟨by omega, ?_⟩
  have e : (C.map OneC.m)[i]? = M.l[i]? := by rw [hl.mods]
  rw [List.getElem?_map, List.getElem?_eq_getElem hi, List.getElem?_eq_getElem (by omega)] at e
  simpa using e
theorem Of_s (hl : LeafAt lo h x M ls C) (k : ByteArray) (hne : M.l ≠ []) (hlen : M.l.length < 2 ^ 40) (hQ : Q [.int .i64 (M.l[atL M.l k]'(atL_lt hne k)).n] h) : S_leaf_Leaves_Of (some ⟨x, 0, none⟩) k h Q := by
  refine O_leaf_Leaves_Of _ _ ?_
  unfold F_leaf_Leaves_Of
  rw [if_neg (by simp)]
  have hlt := atL_lt hne k
  obtain ⟨n1, n2⟩ := lens hl
  simp only [nilW_some, addr_mk, rd_blk hl.blk]
  refine ⟨ls, rfl, ?_⟩
  refine at_s hl k hlen ⟨_, rfl, by simp [rd_blk hl.blk], ?_⟩
  obtain ⟨a, g1, g2⟩ := rdP hl (i := atL M.l k) (by omega)
  rw [g1]
  simp only [nilW_some, Int.toNat_natCast]
  refine ⟨by omega, by omega, _, g2, ?_⟩
  have ho := hl.ones (C[atL M.l k]'(by omega)) (List.getElem_mem _)
  simp only [nilW_some, addr_mk, rd_blk ho.blk]
  obtain ⟨_, hm⟩ := mod_at hl (i := atL M.l k) (by omega)
  refine ⟨_, rfl, ?_⟩
  rw [hm]
  exact hQ
theorem All_s (hl : LeafAt lo h x M ls C) (hlen : M.l.length < 2 ^ 30) (hQ : ∀ h' s, Ext [] h h' → Own T_int 1 encIL h.size h' s (M.l.map OneM.n) → Q [.slice s.a s.n s.c] h') : S_leaf_Leaves_All (some ⟨x, 0, none⟩) h Q := by
  refine O_leaf_Leaves_All _ ?_
  unfold F_leaf_Leaves_All
  rw [if_neg (by simp)]
  obtain ⟨n1, n2⟩ := lens hl
  simp only [nilW_some, addr_mk, rd_blk hl.blk]
  refine ⟨ls, rfl, ?_⟩
  intro X hX
  have key : ∀ d i g s, d + i = C.length → Ext [] h g → Own T_int 1 encIL h.size g s ((M.l.take i).map OneM.n) → X [.slice s.a s.n s.c, .int .i64 (i : Int)] g := by
    intro d
    induction d with
    | zero =>
      intro i g s hi he ho
      refine hX s _ _ ?_
      rw [if_neg (by simp; omega)]
      rw [List.take_of_length_le (by omega)] at ho
      exact hQ g s he ho
    | succ d ih =>
      intro i g s hi he ho
      refine hX s _ _ ?_
      rw [if_pos (by simp; omega)]
      have hl2 := hl.ext0 he
      obtain ⟨a, g1, g2⟩ := rdP hl2 (i := i) (by omega)
      rw [g1]
      simp only [nilW_some, Int.toNat_natCast]
      refine ⟨by omega, by omega, _, g2, ?_⟩
      have hc := hl2.ones (C[i]'(by omega)) (List.getElem_mem _)
      obtain ⟨hi2, hm⟩ := mod_at hl (i := i) (by omega)
      simp only [nilW_some, addr_mk, rd_blk hc.blk]
      refine ⟨_, rfl, ?_⟩
      refine app1 (x := (C[i]'(by omega)).m.n) ho rfl zcInt encIL_len encIL_one (by simp; omega) (by decide) he.sz fun s' g' ho' he' _ => ?_
      rw [wrap64 (by omega) (by omega)]
      have := ih (i + 1) g' s' (by omega) (he.trans he' fun b hb hlt => by have := ho.blk b hb; omega) (by
        rw [List.take_add_one, List.getElem?_eq_getElem hi2, Option.toList_some, List.map_append]
        rw [hm] at ho'
        exact ho')
      simpa using this
  have := key C.length 0 h ⟨none, 0, 0⟩ (by omega) (Ext.refl _ _) (by simpa using Own.nil _ _)
  simpa using this
theorem sumL_le (l : List OneM) (k : Nat) (hk : ∀ o ∈ l, o.keys.length ≤ k) : 0 ≤ sumL l ∧ sumL l ≤ l.length * k := by
  have : ∀ (l : List OneM) (a : Int), (∀ o ∈ l, o.keys.length ≤ k) → a ≤ l.foldl (fun n o => n + (o.keys.length : Int)) a ∧ l.foldl (fun n o => n + (o.keys.length : Int)) a ≤ a + l.length * k := by
    intro l
    induction l with
    | nil => intro a _; simp
    | cons o l ih =>
      intro a ho
      have h1 := ih (a + (o.keys.length : Int)) fun o' ho' => ho o' (List.mem_cons_of_mem _ ho')
      have h2 := ho o List.mem_cons_self
      simp only [List.foldl_cons, List.length_cons]
      have e : ((l.length + 1 : Nat) : Int) * (k : Int) = (l.length : Int) * k + k := by rw [Int.natCast_add, Int.add_mul]; simp
      rw [e]
      omega
  have := this l 0 hk
  simpa [sumL] using this
theorem Clone10_s {s : Sl} {xs : List ByteArray} (hs : Reads 1 encB h s xs) (hb : s.n ≤ 2 ^ 20) (hQ : ∀ h' s', Own T_string 1 encB h.size h' s' xs → s'.n = s.n → Ext [] h h' → Q [.slice s'.a s'.n s'.c] h') : S_slices_Clone_sstring_string s h Q := by
  refine O_slices_Clone_sstring_string _ ?_
  unfold F_slices_Clone_sstring_string
  split
  · rename_i e
    have e := Option.isNone_iff_eq_none.1 e
    have h1 := hs.2.1 e
    have h2 := hs.1
    subst h1
    exact hQ h ⟨none, 0, 0⟩ (Own.nil _ _) (by simpa using h2.symm) (Ext.refl _ _)
  · simp only [wthE]
    exact clone_body hs zc_str encB_len encB_one (by omega) (by omega) fun s' h' ho he hn => hQ h' s' ho hn he
theorem New10_s {fan : Int} (hf : 2 ≤ fan ∧ fan ≤ 64) (hQ : ∀ h' ls C, LeafAt h.size h' (h.size + 2) ⟨fan, 2, [⟨1, ByteArray.mk #[], []⟩]⟩ ls C → Ext [] h h' → Q [.pointer (some ⟨h.size + 2, 0, none⟩), .int .i64 0] h') : S_leaf_New fan h Q := by
  refine O_leaf_New _ ?_
  unfold F_leaf_New
  intro J hJ
  rw [if_neg (by simp; omega)]
  refine hJ _ _ ?_
  rw [if_neg (by simp; omega)]
  refine newI fun h1 s1 b1 e1 => newI fun h2 s2 b2 e2 => newI fun h3 s3 b3 e3 => ?_
  have c1 := e3.get (e2.get b1 (by simp)) (by simp)
  have c2 := e3.get b2 (by simp)
  rw [show h2.size = h.size + 2 by omega] at b3 ⊢
  refine hQ h3 ⟨some ⟨h1.size, 0, none⟩, 1, 1⟩ [⟨h.size, ⟨none, 0, 0⟩, ⟨1, ByteArray.mk #[], []⟩⟩] ⟨b3, by omega, ?_, by simp, ?_, by simp, rfl⟩ ((e1.trans0 e2).trans0 e3)
  · refine ⟨rfl, fun e => (by cases e), fun a ha => ?_⟩
    cases ha
    exact ⟨h1.size, _, rfl, by omega, c2, Nat.le_refl _, by simp, by simp⟩
  · intro c hc
    simp at hc
    subst hc
    exact ⟨c1, Nat.le_refl _, Own.nil _ _⟩
def hasK (xs : List ByteArray) (k : ByteArray) : Bool := xs.any fun y => y.toList == k.toList
theorem hasK_iff {xs : List ByteArray} {k : ByteArray} : hasK xs k = true ↔ k ∈ xs := by
  unfold hasK
  rw [List.any_eq_true]
  constructor
  · rintro ⟨y, hy, he⟩
    rw [← toList_inj (eq_of_beq he)]
    exact hy
  · intro h
    exact ⟨k, h, by simp⟩
theorem found_iff {xs : List ByteArray} (ho : InOrder xs) {k : ByteArray} {i : Nat} (h1 : ∀ a (ha : a < xs.length), a < i → sLt xs[a] k = true) (h2 : ∀ a (ha : a < xs.length), i ≤ a → sLt xs[a] k = false) {b : Bool} (hb : b = true ↔ ∃ hi : i < xs.length, xs[i].toList = k.toList) :
    b = hasK xs k := by
  have key : b = true ↔ k ∈ xs := by
    rw [hb]
    constructor
    · rintro ⟨hi, he⟩
      rw [← toList_inj he]
      exact List.getElem_mem _
    · intro hm
      obtain ⟨j, hj, he⟩ := List.getElem_of_mem hm
      have hij : ¬ j < i := by intro g; have := h1 j hj g; rw [he, sLt_irrefl] at this; cases this
      rcases (by omega : i = j ∨ i < j) with g | g
      · subst g; exact ⟨hj, by rw [he]⟩
      · have h3 := List.pairwise_iff_getElem.1 ho i j (by omega) hj g
        rw [he] at h3
        have := h2 i (by omega) (Nat.le_refl _)
        rw [h3] at this; cases this
  have h3 : b = true ↔ hasK xs k = true := key.trans hasK_iff.symm
  cases b <;> cases hh : hasK xs k <;> simp_all
theorem Has10_s (hl : LeafAt lo h x M ls C) (k : ByteArray) (hne : M.l ≠ []) (hlen : M.l.length < 2 ^ 40) (hord : ∀ o ∈ M.l, InOrder o.keys ∧ o.keys.length < 2 ^ 40) (hQ : Q [.bool (hasK (M.l[atL M.l k]'(atL_lt hne k)).keys k)] h) :
    S_leaf_Leaves_Has (some ⟨x, 0, none⟩) k h Q := by
  refine O_leaf_Leaves_Has _ _ ?_
  unfold F_leaf_Leaves_Has
  rw [if_neg (by simp)]
  have hlt := atL_lt hne k
  obtain ⟨n1, n2⟩ := lens hl
  simp only [nilW_some, addr_mk, rd_blk hl.blk]
  refine ⟨ls, rfl, ?_⟩
  refine at_s hl k hlen ⟨_, rfl, by simp [rd_blk hl.blk], ?_⟩
  obtain ⟨a, g1, g2⟩ := rdP hl (i := atL M.l k) (by omega)
  rw [g1]
  simp only [nilW_some, Int.toNat_natCast]
  refine ⟨by omega, by omega, _, g2, ?_⟩
  have ho := hl.ones (C[atL M.l k]'(by omega)) (List.getElem_mem _)
  obtain ⟨_, hm⟩ := mod_at hl (i := atL M.l k) (by omega)
  simp only [nilW_some, addr_mk, rd_blk ho.blk]
  refine ⟨(C[atL M.l k]'(by omega)).ks, rfl, ?_⟩
  have hk := ho.keys.sl.reads
  rw [hm] at hk
  have hor := hord _ (List.getElem_mem hlt)
  refine BinarySearch_s hk (by have := hor.2; omega) (hor.1.mono k) fun i b hi h1 h2 hb => ⟨_, _, rfl, ?_⟩
  rw [found_iff hor.1 h1 h2 hb]
  exact hQ
theorem Len_s (hl : LeafAt lo h x M ls C) (hlen : M.l.length ≤ 2 ^ 20) (hks : ∀ o ∈ M.l, o.keys.length ≤ 2 ^ 20) (hQ : Q [.int .i64 (sumL M.l)] h) : S_leaf_Leaves_Len (some ⟨x, 0, none⟩) h Q := by
  refine O_leaf_Leaves_Len _ ?_
  unfold F_leaf_Leaves_Len
  intro J hJ
  rw [if_pos (by simp)]
  obtain ⟨n1, n2⟩ := lens hl
  simp only [nilW_some, addr_mk, rd_blk hl.blk]
  refine ⟨ls, rfl, ?_⟩
  intro X hX
  have key : ∀ d i, d + i = C.length → X [.int .i64 (sumL (M.l.take i)), .int .i64 (i : Int)] h := by
    intro d
    induction d with
    | zero =>
      intro i hi
      refine hX _ _ _ ?_
      rw [if_neg (by simp; omega), List.take_of_length_le (by omega)]
      exact hJ _ _ hQ
    | succ d ih =>
      intro i hi
      refine hX _ _ _ ?_
      rw [if_pos (by simp; omega)]
      obtain ⟨a, g1, g2⟩ := rdP hl (i := i) (by omega)
      rw [g1]
      simp only [nilW_some, Int.toNat_natCast]
      refine ⟨by omega, by omega, _, g2, ?_⟩
      have hc := hl.ones (C[i]'(by omega)) (List.getElem_mem _)
      obtain ⟨hi2, hm⟩ := mod_at hl (i := i) (by omega)
      simp only [nilW_some, addr_mk, rd_blk hc.blk]
      refine ⟨(C[i]'(by omega)).ks, rfl, ?_⟩
      have hkn := hc.keys.1
      rw [hm] at hkn
      have hb := sumL_le (M.l.take i) (2 ^ 20) fun o ho => hks o (List.mem_of_mem_take ho)
      have hki := hks _ (List.getElem_mem hi2)
      have hlt : ((M.l.take i).length : Int) * ((2 ^ 20 : Nat) : Int) ≤ 2 ^ 40 := by
        have : (M.l.take i).length ≤ 2 ^ 20 := by simp; omega
        have h3 := Nat.mul_le_mul_right (2 ^ 20) this
        have h4 : (2 : Nat) ^ 20 * 2 ^ 20 = 2 ^ 40 := by decide
        rw [h4] at h3
        have : (((M.l.take i).length * 2 ^ 20 : Nat) : Int) ≤ ((2 ^ 40 : Nat) : Int) := Int.ofNat_le.2 h3
        rw [Int.natCast_mul] at this
        exact this
      rw [wrap64 (x := sumL (M.l.take i) + _) (by omega) (by omega), wrap64 (by omega) (by omega)]
      have := ih (i + 1) (by omega)
      have e : sumL (M.l.take (i + 1)) = sumL (M.l.take i) + ((C[i]'(by omega)).ks.n : Int) := by
        rw [List.take_add_one, List.getElem?_eq_getElem hi2, Option.toList_some, hkn]
        unfold sumL
        rw [List.foldl_append]
        rfl
      rw [e] at this
      exact this
  have := key C.length 0 (by omega)
  exact this
end
end Go.Lift

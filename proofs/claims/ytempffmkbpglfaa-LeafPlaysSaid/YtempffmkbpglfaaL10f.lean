/- Leaves in order: a leaf's keys. -/
import Derived.Test.YtempffmkbpglfaaL10e
set_option linter.unusedSimpArgs false
set_option linter.unusedVariables false
namespace Go.Lift
open Go Go.Proofs
set_option maxRecDepth 100000
/-- The keys of the first leaf of a number; none, if there is no such. -/
def keysOf (l : List OneM) (n : Int) : Option (List ByteArray) := (l.find? fun o => o.n == n).map OneM.keys
theorem find_at {α : Type} (p : α → Bool) : ∀ (l : List α) (i : Nat) (hi : i < l.length), (∀ o ∈ l.take i, p o = false) → p l[i] = true → l.find? p = some l[i]
  | [], i, hi, _, _ => by simp at hi
  | a :: l, 0, _, _, h2 => by
    simp only [List.getElem_cons_zero] at h2 ⊢
    simp [h2]
  | a :: l, i + 1, hi, h1, h2 => by
    have h0 := h1 a (by simp)
    simp only [List.getElem_cons_succ] at h2 ⊢
    rw [List.find?_cons_of_neg (by simp [h0])]
    exact find_at p l i (by simpa using hi) (fun o ho => h1 o (by simp [ho])) h2
section
variable {lo : Nat} {h : Hp} {x : Nat} {M : LeafM} {ls : Sl} {C : List OneC} {Q : List Value → Hp → Prop}
theorem Keys10_s (hl : LeafAt lo h x M ls C) (n : Int) (hlen : M.l.length < 2 ^ 40) (hks : ∀ o ∈ M.l, o.keys.length ≤ 2 ^ 20)
    (hQ : ∀ h' s, Ext [] h h' → Own T_string 1 encB h.size h' s ((keysOf M.l n).getD []) → Q [.slice s.a s.n s.c] h') : S_leaf_Leaves_Keys (some ⟨x, 0, none⟩) n h Q := by
  refine O_leaf_Leaves_Keys _ _ ?_
  unfold F_leaf_Leaves_Keys
  refine newI fun h1 s1 b1 e1 => ?_
  rw [if_neg (by simp)]
  have hl1 := hl.ext0 e1
  obtain ⟨n1, n2⟩ := lens hl
  simp only [nilW_some, addr_mk, rd_blk hl1.blk]
  refine ⟨ls, rfl, ?_⟩
  refine O_slices_IndexFunc_spleaf_one_pleaf_one _ _ _ ?_
  unfold F_slices_IndexFunc_spleaf_one_pleaf_one
  intro X hX
  have key : ∀ d i, d + i = C.length → (∀ o ∈ M.l.take i, (o.n == n) = false) → X [.int .i64 (i : Int)] h1 := by
    intro d
    induction d with
    | zero =>
      intro i hi hall
      refine hX _ _ ?_
      rw [if_neg (by simp; omega)]
      refine ⟨_, rfl, ?_⟩
      rw [if_pos (by decide)]
      refine hQ h1 ⟨none, 0, 0⟩ e1 ?_
      rw [List.take_of_length_le (by omega)] at hall
      have : keysOf M.l n = none := by
        unfold keysOf
        rw [List.find?_eq_none.2 (fun o ho => by simp [hall o ho])]
        rfl
      rw [this]
      exact Own.nil _ _
    | succ d ih =>
      intro i hi hall
      refine hX _ _ ?_
      rw [if_pos (by simp; omega)]
      obtain ⟨a, g1, g2⟩ := rdP hl1 (i := i) (by omega)
      have hc := hl1.ones (C[i]'(by omega)) (List.getElem_mem _)
      obtain ⟨hi2, hm⟩ := mod_at hl (i := i) (by omega)
      rw [g1]
      simp only [nilW_some, Int.toNat_natCast]
      refine ⟨by omega, by omega, _, g2, ?_⟩
      refine O_leaf_Leaves_Keys_1 _ _ ?_
      unfold F_leaf_Leaves_Keys_1
      simp only [nilW_some, addr_mk, rd_blk hc.blk]
      refine ⟨_, rfl, n, by rw [rd_blk b1]; rfl, _, rfl, ?_⟩
      rw [hm]
      cases hb : (M.l[i].n == n) with
      | true =>
        rw [if_pos (by decide)]
        refine ⟨_, rfl, ?_⟩
        rw [if_neg (by simp)]
        simp only [nilW_some, addr_mk, rd_blk hl1.blk]
        refine ⟨ls, rfl, ?_⟩
        rw [g1]
        simp only [nilW_some, Int.toNat_natCast]
        refine ⟨by omega, by omega, _, g2, ?_⟩
        simp only [nilW_some, addr_mk, rd_blk hc.blk]
        refine ⟨(C[i]'(by omega)).ks, rfl, ?_⟩
        have hk := hc.keys.sl.reads
        rw [hm] at hk
        have hkn := hk.1
        have hkl := hks _ (List.getElem_mem hi2)
        refine Clone10_s hk (show (C[i]'(by omega)).ks.n ≤ 2 ^ 20 by omega) fun h2 s' ho' hn' e2 => ⟨s', rfl, ?_⟩
        refine hQ h2 s' (e1.trans0 e2) ?_
        have : keysOf M.l n = some M.l[i].keys := by
          unfold keysOf
          rw [find_at _ M.l i hi2 hall hb]
          rfl
        rw [this]
        exact ho'.mono e1.sz
      | false =>
        rw [if_neg (by decide), wrap64 (by omega) (by omega)]
        have := ih (i + 1) (by omega) (fun o ho => by
          rw [List.take_add_one, List.getElem?_eq_getElem hi2, List.mem_append] at ho
          rcases ho with ho | ho
          · exact hall o ho
          · simp at ho; subst ho; exact hb)
        simpa using this
  have := key C.length 0 (by omega) (by simp)
  simpa using this
end
end Go.Lift

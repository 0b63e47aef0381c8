/- Leaves in order: Remove. -/
import Derived.Test.YtempffmkbpglfaaL10h2
set_option linter.unusedSimpArgs false
set_option linter.unusedVariables false
namespace Go.Lift
open Go Go.Proofs
set_option maxRecDepth 100000
def cutK (xs : List ByteArray) (k : ByteArray) : List ByteArray := xs.take (posK xs k) ++ xs.drop (posK xs k + 1)
def LeafM.remAt (M : LeafM) (k : ByteArray) (o : OneM) : LeafM × Did :=
  if hasK o.keys k = false then (M, ⟨0, 0, 0, 60⟩)
  else if 0 < (cutK o.keys k).length ∨ M.l.length = 1 then ({ M with l := M.l.set (atL M.l k) { o with keys := cutK o.keys k } }, ⟨o.n, 0, 0, 0⟩)
  else (⟨M.fan, M.next, M.l.take (atL M.l k) ++ M.l.drop (atL M.l k + 1)⟩, ⟨o.n, o.n, ((M.l.take (atL M.l k) ++ M.l.drop (atL M.l k + 1)).getD (atL M.l k - 1) o).n, 0⟩)
def LeafM.rem (M : LeafM) (k : ByteArray) : LeafM × Did :=
  match M.l[atL M.l k]? with
  | none => (M, ⟨0, 0, 0, 0⟩)
  | some o => M.remAt k o
theorem rem_eq {M : LeafM} {k : ByteArray} (hlt : atL M.l k < M.l.length) : M.rem k = M.remAt k M.l[atL M.l k] := by
  unfold LeafM.rem
  rw [List.getElem?_eq_getElem hlt]
section
variable {lo : Nat} {h : Hp} {x : Nat} {M : LeafM} {ls : Sl} {C : List OneC} {Q : List Value → Hp → Prop}
theorem encB_oneV (xs : List ByteArray) : ∀ u ∈ xs.flatMap encB, oneCell u = true := by
  rw [flatB]; intro u hu; obtain ⟨y, _, rfl⟩ := List.mem_map.1 hu; rfl
theorem flatP (xs : List Nat) : xs.flatMap encP = xs.map fun b => Value.pointer (some ⟨b, 0, none⟩) := by rw [List.map_eq_flatMap]
theorem encP_oneV (xs : List Nat) : ∀ u ∈ xs.flatMap encP, oneCell u = true := by
  rw [flatP]; intro u hu; obtain ⟨y, _, rfl⟩ := List.mem_map.1 hu; rfl
theorem Remove10_s (hl : LeafAt lo h x M ls C) (k : ByteArray) (hlo : lo ≤ h.size) (hne : M.l ≠ []) (hlen : M.l.length < 2 ^ 30) (hord : ∀ o ∈ M.l, InOrder o.keys ∧ o.keys.length ≤ 2 ^ 10)
    (hQ : ∀ h' ls' C' S, LeafAt lo h' x (M.rem k).1 ls' C' → Ext S h h' → (∀ b ∈ S, lo ≤ b) → (∀ b ∈ S, Fp x ls C b ∨ h.size ≤ b) → (∀ b, Fp x ls' C' b → Fp x ls C b ∨ h.size ≤ b) → Q [.int .i64 (M.rem k).2.leaf, .agg #[.int .i64 (M.rem k).2.mf, .int .i64 (M.rem k).2.mt], .int .i64 (M.rem k).2.err] h') : S_leaf_Leaves_Remove (some ⟨x, 0, none⟩) k h Q := by
  refine O_leaf_Leaves_Remove _ _ ?_
  unfold F_leaf_Leaves_Remove
  refine newI fun h1 s1 b1 e1 => ?_
  rw [if_neg (by simp)]
  have hl1 := hl.ext0 e1
  have hlt := atL_lt hne k
  obtain ⟨n1, n2⟩ := lens hl
  have hrem := rem_eq (k := k) hlt
  unfold LeafM.remAt at hrem
  refine at_s hl1 k (by omega) ⟨_, rfl, ?_⟩
  simp only [nilW_some, addr_mk, rd_blk hl1.blk]
  refine ⟨ls, rfl, ?_⟩
  have hiC : atL M.l k < C.length := by omega
  obtain ⟨a, g1, g2⟩ := rdP hl1 (i := atL M.l k) hiC
  have hc := hl1.ones (C[atL M.l k]) (List.getElem_mem _)
  obtain ⟨_, hm⟩ := mod_at hl (i := atL M.l k) hiC
  rw [g1]
  simp only [nilW_some, Int.toNat_natCast]
  refine ⟨by omega, by omega, _, g2, ?_⟩
  simp only [nilW_some, addr_mk, rd_blk hc.blk]
  refine ⟨(C[atL M.l k]).ks, rfl, ?_⟩
  have hor := hord _ (List.getElem_mem hlt)
  have hkr := hc.keys.sl.reads
  rw [hm] at hkr
  refine BinarySearch_s hkr (by have := hor.2; omega) (hor.1.mono k) fun i b hi q1 q2 hb => ⟨_, _, rfl, ?_⟩
  have hbk := found_iff hor.1 q1 q2 hb
  have hpos := posK_eq hi q1 q2
  cases hh : hasK (M.l[atL M.l k]).keys k with
  | false =>
    rw [hbk, hh, if_pos (by decide)]
    rw [hh, if_pos rfl] at hrem
    refine st_blk b1 (by simp) fun h2 s2 b2 e2 => ?_
    have e12 : Ext [] h h2 := e1.trans e2 (by intro b hb hlt; simp at hb; omega)
    refine ⟨_, by simp [rd_blk b2]; rfl, _, by simp [rd_blk b2]; rfl, ?_⟩
    have := hQ h2 ls C [] (by rw [hrem]; exact hl.ext0 e12) e12 (by simp) (by simp) (fun b hb => Or.inl hb)
    rw [hrem] at this
    exact this
  | true =>
    have hit : b = true := by rw [hbk, hh]
    rw [hbk, hh, if_neg (by decide)]
    rw [hh, if_neg (by decide)] at hrem
    obtain ⟨hiK, _⟩ := hb.1 hit
    simp only [nilW_some, addr_mk, rd_blk hc.blk]
    refine ⟨(C[atL M.l k]).ks, rfl, ?_⟩
    have hown := hc.keys.toV encB_len
    rw [hm] at hown
    have hfl : ((M.l[atL M.l k]).keys.flatMap encB).length = (M.l[atL M.l k]).keys.length := by rw [flatB]; simp
    rw [wrap64 (x := (i : Int) + 1) (by have := hor.2; omega) (by have := hor.2; omega)]
    refine Delete1_str_s hown (encB_oneV _) (by rw [hfl]; exact hiK) (by rw [hfl]; have := hor.2; omega) fun h3 s' ho3 he3 ha3 => ⟨s', rfl, ?_⟩
    have ho3' : Own T_string 1 encB lo h3 s' (cutK (M.l[atL M.l k]).keys k) := by
      refine Own.ofV encB_len ?_
      rw [cutK, flatB, List.map_append, List.map_take, List.map_drop, ← flatB, hpos]
      exact ho3
    have cb3 := he3.get hc.blk (fun hm' => hc.keys.other (T' := T_leaf_one) (by decide) _ hm' _ _ hc.blk)
    refine st_blk cb3 (by simp) fun h4 s4 b4 e4 => ?_
    have e14 : Ext ((C[atL M.l k]).b :: sBlk (C[atL M.l k]).ks) h1 h4 := (he3.mono (fun b hb _ => List.mem_cons_of_mem _ hb)).trans e4 (fun b hb _ => by simp at hb; simp [hb])
    have hk4 := ho3'.extT e4 (fun b hb c fz => by simp at hb; subst hb; exact other_blk cb3 (by decide) c fz)
    have hl4 := hl1.setOne hiC e14 (by simpa using b4) hk4 (fun b hb => Or.inl (by
      obtain ⟨a', q1', q2'⟩ := mem_sBlk.1 hb
      exact mem_sBlk.2 ⟨a', by rw [← ha3]; exact q1', q2'⟩))
    rw [hm] at hl4
    have hsn := hk4.1
    have oth : ∀ g, Blk g h.size #[.int .i64 0, .int .i64 0] T_leaf_Move → ∀ T, T_leaf_Move ≠ T → Other T g [h.size] := fun g hg T hT b hb c fz => by simp at hb; subst hb; exact other_blk hg hT c fz
    have bm : Blk h4 h.size #[.int .i64 0, .int .i64 0] T_leaf_Move := e14.get b1 (fun hm' => one_apart (T := T_leaf_Move) hl1.ones hiC (by decide) (by decide) _ hm' _ _ b1)
    have hSlo : ∀ b ∈ ((C[atL M.l k]).b :: sBlk (C[atL M.l k]).ks) ++ (x :: sBlk ls), lo ≤ b := by
      intro b hb
      simp only [List.mem_append, List.mem_cons] at hb
      rcases hb with (g | g) | (g | g)
      · rw [g]; exact hc.le
      · exact hc.keys.blk b g
      · rw [g]; exact hl.le
      · exact hl.ptrs.blk b g
    have hks : ∀ b ∈ sBlk s', b ∈ sBlk (C[atL M.l k]).ks ∨ h.size ≤ b := fun b hb => Or.inl (by
      obtain ⟨a', q1', q2'⟩ := mem_sBlk.1 hb
      exact mem_sBlk.2 ⟨a', by rw [← ha3]; exact q1', q2'⟩)
    have hSfp : ∀ b ∈ ((C[atL M.l k]).b :: sBlk (C[atL M.l k]).ks) ++ (x :: sBlk ls), Fp x ls C b ∨ h.size ≤ b := by
      intro b hb
      simp only [List.mem_append, List.mem_cons] at hb
      rcases hb with g | (g | g)
      · exact Or.inl (Or.inr (Or.inr ⟨_, List.getElem_mem hiC, g⟩))
      · exact Or.inl (Or.inl g)
      · exact Or.inl (Or.inr (Or.inl g))
    have hFp4 : ∀ b, Fp x ls (C.set (atL M.l k) ⟨(C[atL M.l k]).b, s', { M.l[atL M.l k] with keys := cutK (M.l[atL M.l k]).keys k }⟩) b → Fp x ls C b ∨ h.size ≤ b := fun b hb => fp_set hiC hks hb
    intro J hJ
    have yes : 0 < (cutK (M.l[atL M.l k]).keys k).length ∨ M.l.length = 1 → J [.bool true] h4 := by
      intro hor2
      rw [if_pos hor2] at hrem
      refine hJ _ _ ?_
      rw [if_pos rfl]
      simp only [addr_mk, rd_blk b4]
      refine ⟨(C[atL M.l k]).m.n, by simp, ?_⟩
      refine st_blk bm (by simp) fun h5 s5 b5 e5 => ?_
      refine ⟨_, by simp [rd_blk b5]; rfl, _, by simp [rd_blk b5]; rfl, ?_⟩
      have hl5 := hl4.extO e5 (oth _ bm _ (by decide)) (oth _ bm _ (by decide)) (oth _ bm _ (by decide)) (oth _ bm _ (by decide))
      have hq := hQ h5 ls _ (((C[atL M.l k]).b :: sBlk (C[atL M.l k]).ks) ++ (x :: sBlk ls)) (by rw [hrem]; exact hl5) (((e1.mono (by simp)).trans e14 (fun b hb _ => List.mem_append_left _ hb)).trans e5 (by intro b hb hlt; simp at hb; omega)) hSlo hSfp hFp4
      rw [hrem] at hq
      rw [hm]
      exact hq
    have no : ¬ (0 < (cutK (M.l[atL M.l k]).keys k).length ∨ M.l.length = 1) → J [.bool false] h4 := by
      intro hor2
      rw [if_neg hor2] at hrem
      refine hJ _ _ ?_
      rw [if_neg (by decide)]
      simp only [addr_mk, rd_blk hl4.blk]
      refine ⟨ls, by simp, ?_⟩
      have hp4 := hl4.ptrs.toV encP_len
      generalize hC4 : C.set (atL M.l k) ⟨(C[atL M.l k]).b, s', { M.l[atL M.l k] with keys := cutK (M.l[atL M.l k]).keys k }⟩ = C4 at *
      have hlen4 : C4.length = C.length := by rw [← hC4]; simp
      have hflP : ((C4.map OneC.b).flatMap encP).length = C4.length := by
        rw [flatMap_length encP_len, List.length_map]; omega
      rw [wrap64 (x := ((atL M.l k : Nat) : Int) + 1) (by omega) (by omega)]
      refine Delete1_ptr_s (i := atL M.l k) hp4 (encP_oneV _) (by rw [hflP]; omega) (by rw [hflP]; omega) fun h5 s5 ho5 he5 ha5 => ⟨s5, rfl, ?_⟩
      have x5 := he5.get hl4.blk (fun hm' => hl4.ptrs.other (T' := T_leaf_Leaves) (by decide) _ hm' _ _ hl4.blk)
      refine st_blk x5 (by simp) fun h6 s6 b6 e6 => ?_
      have e46 : Ext (x :: sBlk ls) h4 h6 := (he5.mono (fun b hb _ => List.mem_cons_of_mem _ hb)).trans e6 (fun b hb _ => by simp at hb; simp [hb])
      have hsub : (C4.take (atL M.l k) ++ C4.drop (atL M.l k + 1)).Sublist C4 := by
        conv => rhs; rw [← List.take_append_drop (atL M.l k) C4]
        refine List.Sublist.append_left ?_ _
        rw [show atL M.l k + 1 = 1 + atL M.l k by omega, Nat.add_comm 1, ← List.drop_drop]
        exact List.drop_sublist _ _
      have hl6 := hl4.sub hsub (ls' := s5) (nx := M.next) e46 (by simpa using b6) (Own.ofV encP_len (by
        have := ho5.extT e6 (fun b hb c fz => by simp at hb; subst hb; exact other_blk x5 (by decide) c fz)
        rw [List.map_append, List.map_take, List.map_drop, flatP, List.map_append, List.map_take, List.map_drop, ← flatP]
        exact this))
      have hmod : (C4.take (atL M.l k) ++ C4.drop (atL M.l k + 1)).map OneC.m = M.l.take (atL M.l k) ++ M.l.drop (atL M.l k + 1) := by
        rw [List.map_append, List.map_take, List.map_drop, hl4.mods]
        simp only
        rw [List.take_set, List.drop_set_of_lt (by omega), List.set_eq_of_length_le (by simp; omega)]
      have hC6l : (C4.take (atL M.l k) ++ C4.drop (atL M.l k + 1)).length = C.length - 1 := by simp; omega
      generalize hC6 : C4.take (atL M.l k) ++ C4.drop (atL M.l k + 1) = C6 at *
      have hFp6 : ∀ b, Fp x s5 C6 b → Fp x ls C b ∨ h.size ≤ b := by
        intro b hb
        rcases hb with g | g | ⟨c, hc', g⟩
        · exact Or.inl (Or.inl g)
        · refine Or.inl (Or.inr (Or.inl ?_))
          obtain ⟨a', q1', q2'⟩ := mem_sBlk.1 g
          exact mem_sBlk.2 ⟨a', by rw [← ha5]; exact q1', q2'⟩
        · exact hFp4 b (Or.inr (Or.inr ⟨c, hsub.subset hc', g⟩))
      rw [hmod] at hl6
      have y6 := e46.get b4 (fun hm' => list_apart hl4 (T := T_leaf_one) (by decide) (by decide) _ hm' _ _ b4)
      have m6 := e46.get bm (fun hm' => list_apart hl4 (T := T_leaf_Move) (by decide) (by decide) _ hm' _ _ bm)
      simp only [rd_blk y6, rd_blk hl6.blk]
      refine ⟨(C[atL M.l k]).m.n, by simp, (C[atL M.l k]).m.n, by simp, s5, by simp, ?_⟩
      have hmx : mxI (IntKind.wrap .i64 (((atL M.l k : Nat) : Int) - 1)) 0 = ((atL M.l k - 1 : Nat) : Int) := by
        rw [wrap64 (by omega) (by omega)]
        unfold mxI
        split <;> omega
      rw [hmx]
      have hlen2 : 2 ≤ C.length := by omega
      have hj : atL M.l k - 1 < C6.length := by omega
      obtain ⟨a6, w1, w2⟩ := rdP hl6 (i := atL M.l k - 1) hj
      obtain ⟨hjm, hm6⟩ := mod_at hl6 (i := atL M.l k - 1) hj
      have n6 := (lens hl6).1
      rw [w1]
      simp only [nilW_some, Int.toNat_natCast]
      refine ⟨by omega, by omega, _, w2, ?_⟩
      have o6 := hl6.ones _ (List.getElem_mem hj)
      simp only [nilW_some, addr_mk, rd_blk o6.blk]
      refine ⟨C6[atL M.l k - 1].m.n, by simp, ?_⟩
      refine st_blk m6 (by simp) fun h7 s7 b7 e7 => ?_
      refine ⟨_, by simp [rd_blk b7]; rfl, _, by simp [rd_blk b7]; rfl, ?_⟩
      have hl7 := hl6.extO e7 (oth _ m6 _ (by decide)) (oth _ m6 _ (by decide)) (oth _ m6 _ (by decide)) (oth _ m6 _ (by decide))
      have hq := hQ h7 s5 _ (((C[atL M.l k]).b :: sBlk (C[atL M.l k]).ks) ++ (x :: sBlk ls)) (by rw [hrem]; exact hl7) ((((e1.mono (by simp)).trans e14 (fun b hb _ => List.mem_append_left _ hb)).trans e46 (fun b hb _ => List.mem_append_right _ hb)).trans e7 (by intro b hb hlt; simp at hb; omega)) hSlo hSfp hFp6
      rw [hrem] at hq
      rw [hm6, hm]
      simp only at hjm
      rw [List.getD_eq_getElem?_getD, List.getElem?_eq_getElem hjm] at hq
      exact hq
    simp only [addr_mk, rd_blk b4]
    refine ⟨s', by simp, ?_⟩
    by_cases h0 : 0 < (cutK (M.l[atL M.l k]).keys k).length
    · rw [if_pos (by simp; omega)]
      exact yes (Or.inl h0)
    · rw [if_neg (by simp; omega)]
      simp only [rd_blk hl4.blk]
      refine ⟨ls, by simp, ?_⟩
      by_cases h1' : M.l.length = 1
      · rw [show ((ls.n : Int) == 1) = true by simp; omega]
        exact yes (Or.inr h1')
      · rw [show ((ls.n : Int) == 1) = false by simp; omega]
        exact no (by omega)
end
end Go.Lift

/- Leaves in order: the law's own functions. -/
import Derived.Test.YtempffmkbpglfaaL10q
set_option linter.unusedSimpArgs false
set_option linter.unusedVariables false
namespace Go.Lift
open Go Go.Proofs
set_option maxRecDepth 100000
theorem LeafAt.extF {lo : Nat} {h h' : Hp} {x : Nat} {M : LeafM} {ls : Sl} {C : List OneC} {S : List Nat} (hl : LeafAt lo h x M ls C) (he : Ext S h h') (hS : ∀ b, Fp x ls C b → b ∉ S) : LeafAt lo h' x M ls C := by
  have sl : ∀ {s : Sl} {a : Addr}, s.a = some a → a.block ∈ sBlk s := fun ha => mem_sBlk.2 ⟨_, ha, rfl⟩
  refine ⟨he.get hl.blk (hS _ (Or.inl rfl)), hl.le, hl.ptrs.ext he fun a ha => hS _ (Or.inr (Or.inl (sl ha))), hl.nd, fun c hc => ?_, hl.sep, hl.mods⟩
  have ho := hl.ones c hc
  exact ⟨he.get ho.blk (hS _ (Or.inr (Or.inr ⟨c, hc, Or.inl rfl⟩))), ho.le, ho.keys.ext he fun a ha => hS _ (Or.inr (Or.inr ⟨c, hc, Or.inr (sl ha)⟩))⟩
theorem fp_lt {lo : Nat} {h : Hp} {x : Nat} {M : LeafM} {ls : Sl} {C : List OneC} (hl : LeafAt lo h x M ls C) {b : Nat} (hb : Fp x ls C b) : b < h.size := by
  rcases hb with rfl | hb | ⟨c, hc, hb⟩
  · exact blk_lt hl.blk
  · exact own_lt hl.ptrs _ hb
  · rcases hb with rfl | hb
    · exact blk_lt (hl.ones c hc).blk
    · exact own_lt (hl.ones c hc).keys _ hb
/-- Leaves that stand in memory, apart from other blocks. -/
def Lv (lo : Nat) (G : Nat → Prop) (h : Hp) (x : Nat) (M : LeafM) : Prop := (∀ b, G b → b < h.size) ∧ lo ≤ h.size ∧ ∃ ls C, LeafAt lo h x M ls C ∧ ∀ b, Fp x ls C b → ¬ G b
section
variable {lo n : Nat} {G : Nat → Prop} {h : Hp} {x : Nat} {M : LeafM} {Q : List Value → Hp → Prop}
theorem Lv.grow {G' : Nat → Prop} {h' : Hp} (hv : Lv lo G h x M) (he : Ext [] h h') (hG : ∀ b, G' b → (G b ∨ h.size ≤ b) ∧ b < h'.size) : Lv lo G' h' x M := by
  obtain ⟨h1, h2, ls, C, hl, h3⟩ := hv
  refine ⟨fun b hb => (hG b hb).2, Nat.le_trans h2 he.sz, ls, C, hl.ext0 he, fun b hb hg => ?_⟩
  rcases (hG b hg).1 with g | g
  · exact h3 b hb g
  · have := fp_lt hl hb; omega
theorem Lv.e0 {h' : Hp} (hv : Lv lo G h x M) (he : Ext [] h h') : Lv lo G h' x M := hv.grow he fun b hb => ⟨Or.inl hb, Nat.lt_of_lt_of_le (hv.1 b hb) he.sz⟩
theorem Lv.less {G' : Nat → Prop} (hv : Lv lo G h x M) (hG : ∀ b, G' b → G b) : Lv lo G' h x M := hv.grow (Ext.refl _ _) fun b hb => ⟨Or.inl (hG b hb), hv.1 b (hG b hb)⟩
/-- What is apart is written. -/
theorem Lv.eG {h' : Hp} {S : List Nat} (hv : Lv lo G h x M) (he : Ext S h h') (hS : ∀ b ∈ S, b < h.size → G b) : Lv lo G h' x M := by
  obtain ⟨h1, h2, ls, C, hl, h3⟩ := hv
  exact ⟨fun b hb => Nat.lt_of_lt_of_le (h1 b hb) he.sz, Nat.le_trans h2 he.sz, ls, C, hl.extF he fun b hb hm => h3 b hb (hS b hm (fp_lt hl hb)), h3⟩
theorem Lv.ne {lo : Nat} {G : Nat → Prop} {h h' : Hp} {x : Nat} {M : LeafM} {S : List Nat} {ls ls' : Sl} {C C' : List OneC} (h1 : ∀ b, G b → b < h.size) (h2 : lo ≤ h.size) (h3 : ∀ b, Fp x ls C b → ¬ G b)
    (hl : LeafAt lo h' x M ls' C') (he : Ext S h h') (hf : ∀ b, Fp x ls' C' b → Fp x ls C b ∨ h.size ≤ b) : Lv lo G h' x M :=
  ⟨fun b hb => Nat.lt_of_lt_of_le (h1 b hb) he.sz, Nat.le_trans h2 he.sz, ls', C', hl, fun b hb hg => (hf b hb).elim (fun g => h3 b g hg) fun g => by have := h1 b hg; omega⟩
theorem ins_L (hv : Lv lo G h x M) (ok : OkM M n) (hn : n < 2 ^ 15) (k : ByteArray)
    (hQ : ∀ h' S, Lv lo G h' x (M.ins k).1 → Ext S h h' → (∀ b ∈ S, lo ≤ b ∧ ¬ G b) → Q [.int .i64 (M.ins k).2.leaf, .agg #[.int .i64 (M.ins k).2.mf, .int .i64 (M.ins k).2.mt], .int .i64 (M.ins k).2.err] h') : S_leaf_Leaves_Insert (some ⟨x, 0, none⟩) k h Q := by
  obtain ⟨h1, h2, ls, C, hl, h3⟩ := hv
  have := ok.len
  have := ok.nx
  refine Insert10_s hl k h2 ok.ne (by omega) ok.ord ok.fan (by omega) fun h' ls' C' S hl' he hS hSf hCf => hQ h' S (Lv.ne h1 h2 h3 hl' he hCf) he fun b hb => ⟨hS b hb, fun hg => ?_⟩
  rcases hSf b hb with g | g
  · exact h3 b g hg
  · have := h1 b hg; omega
theorem rem_L (hv : Lv lo G h x M) (ok : OkM M n) (hn : n < 2 ^ 15) (k : ByteArray)
    (hQ : ∀ h' S, Lv lo G h' x (M.rem k).1 → Ext S h h' → (∀ b ∈ S, lo ≤ b ∧ ¬ G b) → Q [.int .i64 (M.rem k).2.leaf, .agg #[.int .i64 (M.rem k).2.mf, .int .i64 (M.rem k).2.mt], .int .i64 (M.rem k).2.err] h') : S_leaf_Leaves_Remove (some ⟨x, 0, none⟩) k h Q := by
  obtain ⟨h1, h2, ls, C, hl, h3⟩ := hv
  have := ok.len
  refine Remove10_s hl k h2 ok.ne (by omega) ok.ord fun h' ls' C' S hl' he hS hSf hCf => hQ h' S (Lv.ne h1 h2 h3 hl' he hCf) he fun b hb => ⟨hS b hb, fun hg => ?_⟩
  rcases hSf b hb with g | g
  · exact h3 b g hg
  · have := h1 b hg; omega
theorem do_s (hv : Lv lo G h x M) (ok : OkM M n) (hn : n < 2 ^ 15) (c : Int) (k t : ByteArray)
    (hQ : ∀ h' S, Lv lo G h' x (M.step c k).1 → Ext S h h' → (∀ b ∈ S, lo ≤ b ∧ ¬ G b) → Q [.int .i64 (M.step c k).2.leaf, .agg #[.int .i64 (M.step c k).2.mf, .int .i64 (M.step c k).2.mt], .int .i64 (M.step c k).2.err] h') : S_liverylaw10_do (some ⟨x, 0, none⟩) c k t h Q := by
  refine O_liverylaw10_do _ _ _ _ ?_
  unfold F_liverylaw10_do
  refine newI fun h1 s1 b1 e1 => newI fun h2 s2 b2 e2 => ?_
  have c2 := e2.get b1 (by simp)
  have e02 := e1.trans0 e2
  have hv2 : Lv lo (fun b => G b ∨ b = h1.size) h2 x M := hv.grow e02 fun b hb => by
    rcases hb with g | g
    · exact ⟨Or.inl g, by have := hv.1 b g; omega⟩
    · exact ⟨Or.inr (by omega), by omega⟩
  refine ⟨c, by simp [rd_blk c2], ?_⟩
  have hlo := hv.2.1
  have fin : ∀ d : Did, (∀ h' S, Lv lo (fun b => G b ∨ b = h1.size) h' x (M.step c k).1 → Ext S h2 h' → (∀ b ∈ S, lo ≤ b ∧ ¬ (G b ∨ b = h1.size)) → d = (M.step c k).2 →
      (∃ n7 n8 n9 n10 : Int, [Value.int .i64 d.leaf, .agg #[.int .i64 d.mf, .int .i64 d.mt], .int .i64 d.err] = [.int .i64 n7, .agg #[.int .i64 n8, .int .i64 n9], .int .i64 n10] ∧ stOk h' ⟨h1.size, 0, none⟩ 2 ∧ wth (wrs h' ⟨h1.size, 0, none⟩ 0 [.int .i64 n8, .int .i64 n9]) fun h11 =>
        ∃ n12 : Int, rd h11 (Addr.add ⟨h1.size, 0, none⟩ 0) = some (.int .i64 n12) ∧ ∃ n13 : Int, rd h11 (Addr.add ⟨h1.size, 0, none⟩ 1) = some (.int .i64 n13) ∧ Q [.int .i64 n7, .agg #[.int .i64 n12, .int .i64 n13], .int .i64 n10] h11)) := by
    intro d h' S hv' he hS hd
    subst hd
    refine ⟨_, _, _, _, rfl, ?_⟩
    have b3 := he.get b2 (fun hm => (hS _ hm).2 (Or.inr rfl))
    refine st_blk b3 (by simp) fun h4 s4 b4 e4 => ?_
    refine ⟨_, by simp [rd_blk b4]; rfl, _, by simp [rd_blk b4]; rfl, ?_⟩
    refine hQ h4 (S ++ [h1.size]) ((hv'.eG e4 fun b hb _ => by simp at hb; exact Or.inr hb).less fun b hb => Or.inl hb) ?_ fun b hb => ?_
    · exact (e02.mono (by simp)).trans ((he.mono (fun b hb _ => List.mem_append_left _ hb)).trans e4 (fun b hb _ => by simp at hb; simp [hb])) (fun b hb _ => hb)
    · rcases List.mem_append.1 hb with g | g
      · exact ⟨(hS b g).1, fun hg => (hS b g).2 (Or.inl hg)⟩
      · simp at g
        exact ⟨by omega, fun hg => by have := hv.1 b hg; omega⟩
  by_cases h0 : c = 0
  · rw [if_pos (by simp [h0])]
    refine ⟨k, by simp [rd_blk c2], ?_⟩
    have e : M.step c k = M.ins k := if_pos h0
    rw [e] at fin
    exact ins_L hv2 ok hn k fun h' S hv' he hS => fin _ h' S hv' he hS rfl
  · rw [if_neg (by simp [h0])]
    refine ⟨k, by simp [rd_blk c2], ?_⟩
    have e : M.step c k = M.rem k := if_neg h0
    rw [e] at fin
    exact rem_L hv2 ok hn k fun h' S hv' he hS => fin _ h' S hv' he hS rfl
theorem All_L (hv : Lv lo G h x M) (ok : OkM M n) (hn : n < 2 ^ 15) (hQ : ∀ h' s, Lv lo G h' x M → Ext [] h h' → Own T_int 1 encIL h.size h' s (M.l.map OneM.n) → Q [.slice s.a s.n s.c] h') : S_leaf_Leaves_All (some ⟨x, 0, none⟩) h Q := by
  obtain ⟨ls, C, hl, _⟩ := hv.2.2
  have := ok.len
  exact All_s hl (by omega) fun h' s he ho => hQ h' s (hv.e0 he) he ho
theorem Keys_L (hv : Lv lo G h x M) (ok : OkM M n) (hn : n < 2 ^ 15) (m : Int) (hQ : ∀ h' s, Lv lo G h' x M → Ext [] h h' → Own T_string 1 encB h.size h' s ((keysOf M.l m).getD []) → Q [.slice s.a s.n s.c] h') : S_leaf_Leaves_Keys (some ⟨x, 0, none⟩) m h Q := by
  obtain ⟨ls, C, hl, _⟩ := hv.2.2
  have := ok.len
  exact Keys10_s hl m (by omega) (fun o ho => by have := (ok.ord o ho).2; omega) fun h' s he ho => hQ h' s (hv.e0 he) he ho
theorem Of_L (hv : Lv lo G h x M) (ok : OkM M n) (hn : n < 2 ^ 15) (k : ByteArray) (hQ : Q [.int .i64 (ofL M.l k)] h) : S_leaf_Leaves_Of (some ⟨x, 0, none⟩) k h Q := by
  obtain ⟨ls, C, hl, _⟩ := hv.2.2
  have := ok.len
  exact Of_s hl k ok.ne (by omega) (by rw [ofL_at ok.ne]; exact hQ)
theorem Has_L (hv : Lv lo G h x M) (ok : OkM M n) (hn : n < 2 ^ 15) (k : ByteArray) (hQ : Q [.bool (hasK (M.l[atL M.l k]'(atL_lt ok.ne k)).keys k)] h) : S_leaf_Leaves_Has (some ⟨x, 0, none⟩) k h Q := by
  obtain ⟨ls, C, hl, _⟩ := hv.2.2
  have := ok.len
  exact Has10_s hl k ok.ne (by omega) (fun o ho => ⟨(ok.ord o ho).1, by have := (ok.ord o ho).2; omega⟩) hQ
theorem Len_L (hv : Lv lo G h x M) (ok : OkM M n) (hn : n < 2 ^ 15) (hQ : Q [.int .i64 (sumL M.l)] h) : S_leaf_Leaves_Len (some ⟨x, 0, none⟩) h Q := by
  obtain ⟨ls, C, hl, _⟩ := hv.2.2
  have := ok.len
  exact Len_s hl (by omega) (fun o ho => by have := (ok.ord o ho).2; omega) hQ
theorem Range_L (hv : Lv lo G h x M) (ok : OkM M n) (hn : n < 2 ^ 15) (a b : ByteArray)
    (hQ : ∀ h' sk sn, Lv lo G h' x M → Ext [] h h' → Own T_string 1 encB h.size h' sk (M.rng a b).1 → Own T_int 1 encIL h.size h' sn (M.rng a b).2 → Q [.slice sk.a sk.n sk.c, .slice sn.a sn.n sn.c] h') : S_leaf_Leaves_Range (some ⟨x, 0, none⟩) a b h Q := by
  obtain ⟨ls, C, hl, _⟩ := hv.2.2
  have := ok.len
  exact Range10_s hl a b ok.ne (by omega) (fun o ho => (ok.ord o ho).2) fun h' sk sn he h1 h2 => hQ h' sk sn (hv.e0 he) he h1 h2
theorem New_L {fan : Int} (hf : 2 ≤ fan ∧ fan ≤ 64) (hQ : ∀ h' x, Lv h.size (fun _ => False) h' x ⟨fan, 2, [⟨1, ByteArray.mk #[], []⟩]⟩ → Ext [] h h' → Q [.pointer (some ⟨x, 0, none⟩), .int .i64 0] h') : S_leaf_New fan h Q :=
  New10_s hf fun h' ls C hl he => hQ h' _ ⟨fun b hb => hb.elim, he.sz, ls, C, hl, fun b _ hb => hb⟩ he
/-! The law's helpers. -/
theorem Texts_s {a b : Sl} {xs ys : List ByteArray} (ha : Reads 1 encB h a xs) (hb : Reads 1 encB h b ys) (hlen : xs.length < 2 ^ 60) (hQ : Q [.bool (decide (xs = ys))] h) : S_liverykeep_Texts a b h Q := by
  refine O_liverykeep_Texts _ _ ?_
  unfold F_liverykeep_Texts
  have h1 := ha.1
  have h2 := hb.1
  by_cases hl : xs.length = ys.length
  · rw [if_neg (by simp; omega)]
    intro X hX
    have key : ∀ k i, k + i = xs.length → (∀ j, j < i → xs[j]? = ys[j]?) → X [.int .i64 (i : Int)] h := by
      intro k
      induction k with
      | zero =>
        intro i hi heq
        refine hX _ _ ?_
        rw [if_neg (by simp; omega)]
        have : xs = ys := by
          apply List.ext_getElem?
          intro j
          rcases Nat.lt_or_ge j i with g | g
          · exact heq j g
          · rw [List.getElem?_eq_none (by omega), List.getElem?_eq_none (by omega)]
        rw [this] at hQ
        simpa using hQ
      | succ k ih =>
        intro i hi heq
        refine hX _ _ ?_
        rw [if_pos (by simp; omega)]
        obtain ⟨b1, g1, g2⟩ := rdB ha (i := i) (by omega)
        obtain ⟨b2, g3, g4⟩ := rdB hb (i := i) (by omega)
        rw [g1, g3]
        simp only [nilW_some, Int.toNat_natCast]
        refine ⟨by omega, by omega, xs[i]'(by omega), g2, by omega, by omega, ys[i]'(by omega), g4, ?_⟩
        by_cases e : xs[i]'(by omega) = ys[i]'(by omega)
        · rw [if_neg (by simp [e])]
          rw [wrap64 (by omega) (by omega)]
          refine ih (i + 1) (by omega) ?_
          intro j hj
          rcases (by omega : j < i ∨ j = i) with g | g
          · exact heq j g
          · subst g
            rw [List.getElem?_eq_getElem (by omega), List.getElem?_eq_getElem (by omega), e]
        · rw [if_pos (by
            rw [Bool.not_eq_true', beq_eq_false_iff_ne]
            exact fun e2 => e (toList_inj e2))]
          have : decide (xs = ys) = false := decide_eq_false fun e2 => by
            subst e2
            exact e rfl
          rw [this] at hQ
          exact hQ
    have := key xs.length 0 (by omega) (by intro j hj; omega)
    simpa using this
  · rw [if_pos (by simp; omega)]
    have : decide (xs = ys) = false := decide_eq_false fun e2 => by
      subst e2
      exact hl rfl
    rw [this] at hQ
    exact hQ
theorem rdI {h : Hp} {s : Sl} {xs : List Int} (hs : Reads 1 encIL h s xs) {i : Nat} (hi : i < xs.length) : ∃ a, s.a = some a ∧ rd h (Addr.add a (i * 1)) = some (.int .i64 xs[i]) := by
  obtain ⟨a, h1, h2⟩ := hs.rd encIL_len hi
  exact ⟨a, h1, by simpa using h2 0 (by omega)⟩
theorem Ints_s {a b : Sl} {xs ys : List Int} (ha : Reads 1 encIL h a xs) (hb : Reads 1 encIL h b ys) (hlen : xs.length < 2 ^ 60) (hQ : Q [.bool (xs == ys)] h) : S_liverykeep_Ints a b h Q := by
  refine O_liverykeep_Ints _ _ ?_
  unfold F_liverykeep_Ints
  have h1 := ha.1
  have h2 := hb.1
  by_cases hl : xs.length = ys.length
  · rw [if_neg (by simp; omega)]
    intro X hX
    have key : ∀ k i, k + i = xs.length → (∀ j, j < i → xs[j]? = ys[j]?) → X [.int .i64 (i : Int)] h := by
      intro k
      induction k with
      | zero =>
        intro i hi heq
        refine hX _ _ ?_
        rw [if_neg (by simp; omega)]
        have : xs = ys := by
          apply List.ext_getElem?
          intro j
          rcases Nat.lt_or_ge j i with g | g
          · exact heq j g
          · rw [List.getElem?_eq_none (by omega), List.getElem?_eq_none (by omega)]
        rw [this] at hQ
        simpa using hQ
      | succ k ih =>
        intro i hi heq
        refine hX _ _ ?_
        rw [if_pos (by simp; omega)]
        obtain ⟨b1, g1, g2⟩ := rdI ha (i := i) (by omega)
        obtain ⟨b2, g3, g4⟩ := rdI hb (i := i) (by omega)
        rw [g1, g3]
        simp only [nilW_some, Int.toNat_natCast]
        refine ⟨by omega, by omega, xs[i]'(by omega), g2, by omega, by omega, ys[i]'(by omega), g4, ?_⟩
        by_cases e : xs[i]'(by omega) = ys[i]'(by omega)
        · rw [if_neg (by simp [e])]
          rw [wrap64 (by omega) (by omega)]
          refine ih (i + 1) (by omega) ?_
          intro j hj
          rcases (by omega : j < i ∨ j = i) with g | g
          · exact heq j g
          · subst g
            rw [List.getElem?_eq_getElem (by omega), List.getElem?_eq_getElem (by omega), e]
        · rw [if_pos (by simp [e])]
          have : (xs == ys) = false := by
            rw [beq_eq_false_iff_ne]
            intro e2
            subst e2
            exact e rfl
          rw [this] at hQ
          exact hQ
    have := key xs.length 0 (by omega) (by intro j hj; omega)
    simpa using this
  · rw [if_pos (by simp; omega)]
    have : (xs == ys) = false := by
      rw [beq_eq_false_iff_ne]
      intro e2
      subst e2
      exact hl rfl
    rw [this] at hQ
    exact hQ
theorem HasI_s {a : Sl} {xs : List Int} {m : Int} (ha : Reads 1 encIL h a xs) (hlen : xs.length < 2 ^ 60) (hQ : Q [.bool (xs.contains m)] h) : S_liverykeep_Has a m h Q := by
  refine O_liverykeep_Has _ _ ?_
  unfold F_liverykeep_Has
  have h1 := ha.1
  intro X hX
  have key : ∀ k i, k + i = xs.length → (∀ j (hj : j < xs.length), j < i → xs[j] ≠ m) → X [.int .i64 (i : Int)] h := by
    intro k
    induction k with
    | zero =>
      intro i hi hall
      refine hX _ _ ?_
      rw [if_neg (by simp; omega)]
      have : xs.contains m = false := by
        cases hc : xs.contains m with
        | false => rfl
        | true =>
          have := List.contains_iff_mem.1 hc
          obtain ⟨j, hj, e⟩ := List.getElem_of_mem this
          exact absurd e (hall j hj (by omega))
      rw [this] at hQ
      exact hQ
    | succ k ih =>
      intro i hi hall
      refine hX _ _ ?_
      rw [if_pos (by simp; omega)]
      obtain ⟨b1, g1, g2⟩ := rdI ha (i := i) (by omega)
      rw [g1]
      simp only [nilW_some, Int.toNat_natCast]
      refine ⟨by omega, by omega, xs[i]'(by omega), g2, ?_⟩
      by_cases e : xs[i]'(by omega) = m
      · rw [if_pos (by simp [e])]
        have : xs.contains m = true := List.contains_iff_mem.2 (by rw [← e]; exact List.getElem_mem _)
        rw [this] at hQ
        exact hQ
      · rw [if_neg (by simp [e]), wrap64 (by omega) (by omega)]
        refine ih (i + 1) (by omega) fun j hj hji => ?_
        rcases (by omega : j < i ∨ j = i) with g | g
        · exact hall j hj g
        · subst g; exact e
  have := key xs.length 0 (by omega) (by intro j hj hji; omega)
  simpa using this
theorem Mod_s {a b : Int} (hb : 1 ≤ b) (hb2 : b < 2 ^ 31) (hQ : ∀ m, 0 ≤ m → m < b → Q [.int .i64 m] h) : S_liverykeep_Mod a b h Q := by
  refine O_liverykeep_Mod _ _ ?_
  unfold F_liverykeep_Mod
  rw [if_neg (by simp; omega)]
  have hlt := Int.tmod_lt_of_pos a (show 0 < b by omega)
  have hgt : -b < Int.tmod a b := by
    have h1 := Int.tmod_lt_of_pos (-a) (show 0 < b by omega)
    rw [Int.neg_tmod] at h1
    omega
  refine ⟨by omega, by omega, ?_⟩
  rw [wrap64 (by omega) (by omega)]
  exact hQ _ (Int.tmod_nonneg _ (by omega)) (Int.tmod_lt_of_pos _ (by omega))
structure StepL where
  kind : Int
  key : ByteArray
  to : ByteArray
abbrev encT (s : StepL) : List Value := [.int .i64 s.kind, .string s.key, .string s.to]
theorem encT_len (s : StepL) : (encT s).length = 3 := rfl
def fairB (xs : List StepL) : Bool := (xs.all fun s => decide (s.key.size ≤ 1100) && decide (s.to.size ≤ 1100)) && decide (xs.length ≤ 200)
theorem rdT {h : Hp} {s : Sl} {xs : List StepL} (hs : Reads 3 encT h s xs) {i : Nat} (hi : i < xs.length) : ∃ a, s.a = some a ∧ rd h (Addr.add (Addr.add a (i * 3)) 0) = some (.int .i64 xs[i].kind) ∧ rd h (Addr.add (Addr.add a (i * 3)) 1) = some (.string xs[i].key) ∧ rd h (Addr.add (Addr.add a (i * 3)) 2) = some (.string xs[i].to) := by
  obtain ⟨a, h1, h2⟩ := hs.rd encT_len hi
  exact ⟨a, h1, by rw [addr_add_add]; simpa using h2 0 (by omega), by rw [addr_add_add]; simpa using h2 1 (by omega), by rw [addr_add_add]; simpa using h2 2 (by omega)⟩
theorem fair_s {a : Sl} {xs : List StepL} (ha : Reads 3 encT h a xs) (hlen : xs.length ≤ 9223372036854775807) (hQ : Q [.bool (fairB xs)] h) : S_liverylaw10_fair a h Q := by
  refine O_liverylaw10_fair _ ?_
  unfold F_liverylaw10_fair
  have h1 := ha.1
  intro X hX
  have key : ∀ k i, k + i = xs.length → ((xs.take i).all fun s => decide (s.key.size ≤ 1100) && decide (s.to.size ≤ 1100)) = true → X [.int .i64 (i : Int)] h := by
    intro k
    induction k with
    | zero =>
      intro i hi hall
      refine hX _ _ ?_
      rw [if_neg (by simp; omega)]
      rw [List.take_of_length_le (by omega)] at hall
      unfold fairB at hQ
      rw [hall, Bool.true_and] at hQ
      rw [show (decide ((a.n : Int) ≤ 200)) = decide (xs.length ≤ 200) by rw [h1]; exact decide_eq_decide.2 (by omega)]
      exact hQ
    | succ k ih =>
      intro i hi hall
      refine hX _ _ ?_
      rw [if_pos (by simp; omega)]
      obtain ⟨b1, g1, g2, g3, g4⟩ := rdT ha (i := i) (by omega)
      rw [g1]
      simp only [nilW_some, Int.toNat_natCast]
      have hi' : i < xs.length := by omega
      intro J hJ
      have bad : ¬ ((xs[i]'hi').key.size ≤ 1100 ∧ (xs[i]'hi').to.size ≤ 1100) → J [.bool true] h := by
        intro hb
        refine hJ _ _ ?_
        rw [if_pos rfl]
        have : fairB xs = false := by
          unfold fairB
          rw [show (xs.all fun s => decide (s.key.size ≤ 1100) && decide (s.to.size ≤ 1100)) = false from by
            rw [List.all_eq_false]
            exact ⟨xs[i]'hi', List.getElem_mem _, by simpa using hb⟩]
          rfl
        rw [this] at hQ
        exact hQ
      refine ⟨by omega, by omega, _, g3, ?_⟩
      by_cases hk : (xs[i]'hi').key.size ≤ 1100
      · rw [if_neg (by simp; omega)]
        refine ⟨by omega, by omega, _, g4, ?_⟩
        by_cases ht : (xs[i]'hi').to.size ≤ 1100
        · rw [show (decide (((xs[i]'hi').to.size : Int) > 1100)) = false by simp; omega]
          refine hJ _ _ ?_
          rw [if_neg (by decide), wrap64 (by omega) (by omega)]
          refine ih (i + 1) (by omega) ?_
          rw [List.take_add_one, List.getElem?_eq_getElem hi', Option.toList_some, List.all_append, hall]
          simp [hk, ht]
        · rw [show (decide (((xs[i]'hi').to.size : Int) > 1100)) = true by simp; omega]
          exact bad fun g => ht g.2
      · rw [if_pos (by simp; omega)]
        exact bad fun g => hk g.1
  have := key xs.length 0 (by omega) (by simp)
  simpa using this
end
end Go.Lift

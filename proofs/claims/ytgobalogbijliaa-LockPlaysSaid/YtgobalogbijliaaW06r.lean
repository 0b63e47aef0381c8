/- Locks: the reference: a mode is taken. -/
import Derived.Test.YtgobalogbijliaaW06q
set_option linter.unusedSimpArgs false
set_option linter.unusedVariables false
namespace Go.Lift
open Go Go.Proofs
set_option maxRecDepth 100000
theorem metH_snoc (l : List HM) (y : HM) (n : ByteArray) (k m x : Int) : x ∈ metH (l ++ [y]) n k m ↔ x ∈ metH l n k m ∨ ((y.1 = n ∧ y.2.1 ≠ k ∧ barsR y.2.2 m = true) ∧ x = y.2.1) := by
  unfold metH
  rw [List.filter_append, List.map_append, List.mem_append]
  apply or_congr Iff.rfl
  by_cases hc : y.1 = n ∧ y.2.1 ≠ k ∧ barsR y.2.2 m = true
  · rw [List.filter_cons, if_pos (by simp [hc.1, hc.2.1, hc.2.2])]
    simp [hc]
  · rw [List.filter_cons, if_neg (by
      intro g
      simp only [Bool.and_eq_true, decide_eq_true_eq, bne_iff_ne] at g
      exact hc ⟨g.1.1, g.1.2, g.2⟩)]
    simp [hc]
section
variable {lo : Nat} {h : Hp} {b : Nat} {R : RM} {sh sq : Sl} {Q : List Value → Hp → Prop}
theorem meet_s {g : Hp} {lo' vb xb : Nat} {y : HM} {n : ByteArray} {k m : Int} (bv : Blk g vb #[.string y.1, .int .i64 y.2.1, .int .i64 y.2.2] T_liveryref06_held) (bx : Blk g xb #[.string n, .int .i64 k, .int .i64 m] T_liveryref06_held)
    {l3 : Sl} {L : List Int} (hL : Own T_int 1 encIL lo' g l3 L) (ha : Asc L) (hlen : L.length ≤ 2 ^ 18) (hlo : lo' ≤ g.size) {J8 : List Value → Hp → Prop}
    (H : ∀ g' l' L', Ext [] g g' → Own T_int 1 encIL lo' g' l' L' → Asc L' → L'.length ≤ L.length + 1 → (∀ x, x ∈ L' ↔ x ∈ L ∨ ((y.1 = n ∧ y.2.1 ≠ k ∧ barsR y.2.2 m = true) ∧ x = y.2.1)) → J8 [.slice l'.a l'.n l'.c] g') :
    ∀ J19 : List Value → Hp → Prop, (∀ b20 : Bool, ∀ h21 : Hp, ((if b20 = true then
                (∃ n22 : Int, rd h21 (Addr.add (Addr.mk vb 0 none) 1) = some (Value.int .i64 n22) ∧
                  S_liveryref06_put ⟨l3.a, l3.n, l3.c⟩ n22 h21 fun (vs23 : List Value) (h24 : Hp) =>
                  ∃ l25 : Sl, vs23 = [(Value.slice l25.a l25.n l25.c)] ∧
                  J8 [(Value.slice l25.a l25.n l25.c)] h24) else
                (J8 [(Value.slice l3.a l3.n l3.c)] h21))) → J19 [(Value.bool b20)] h21) →
          ∃ s26 : ByteArray, rd g (Addr.add (Addr.mk vb 0 none) 0) = some (Value.string s26) ∧
          ∃ s27 : ByteArray, rd g (Addr.add (Addr.mk xb 0 none) 0) = some (Value.string s27) ∧
          (if ((ByteArray.toList s26) == (ByteArray.toList s27)) = true then (∃ n28 : Int, rd g (Addr.add (Addr.mk vb 0 none) 1) = some (Value.int .i64 n28) ∧
              ∃ n29 : Int, rd g (Addr.add (Addr.mk xb 0 none) 1) = some (Value.int .i64 n29) ∧
              (if (n28 != n29) = true then (∃ n30 : Int, rd g (Addr.add (Addr.mk vb 0 none) 2) = some (Value.int .i64 n30) ∧
                  ∃ n31 : Int, rd g (Addr.add (Addr.mk xb 0 none) 2) = some (Value.int .i64 n31) ∧
                  S_liveryref05_Bars n30 n31 g fun (vs32 : List Value) (h33 : Hp) =>
                  ∃ b34 : Bool, vs32 = [(Value.bool b34)] ∧
                  J19 [(Value.bool b34)] h33) else
                (J19 [(Value.bool false)] g))) else
            (J19 [(Value.bool false)] g)) := by
  intro J hJ
  have go : ∀ bb g', bb = decide (y.1 = n ∧ y.2.1 ≠ k ∧ barsR y.2.2 m = true) → Ext [] g g' → J [.bool bb] g' := by
    intro bb g' hbb eg
    refine hJ _ _ ?_
    have bv' := eg.get bv (by simp)
    have hz := eg.sz
    cases bb with
    | true =>
      rw [if_pos rfl]
      have hc := of_decide_eq_true hbb.symm
      refine ⟨y.2.1, by simp [rd_blk bv'], ?_⟩
      refine put_s (hL.ext0 eg) ha (by omega) y.2.1 (by omega) fun g2 l' L' ho' ha' hl' hm' e2 => ⟨l', rfl, ?_⟩
      refine H g2 l' L' (eg.trans0 e2) ho' ha' hl' fun x => ?_
      rw [hm']
      constructor
      · rintro (h | h)
        · exact Or.inr ⟨hc, h⟩
        · exact Or.inl h
      · rintro (h | h)
        · exact Or.inr h
        · exact Or.inl h.2
    | false =>
      rw [if_neg (by decide)]
      have hc := of_decide_eq_false hbb.symm
      exact H g' l3 L eg (hL.ext0 eg) ha (by omega) fun x => ⟨Or.inl, fun h => h.elim id fun h => absurd h.1 hc⟩
  refine ⟨y.1, by simp [rd_blk bv], n, by simp [rd_blk bx], ?_⟩
  rw [toList_eq_iff]
  by_cases h1 : y.1 = n
  · rw [decide_eq_true h1, if_pos rfl]
    refine ⟨y.2.1, by simp [rd_blk bv], k, by simp [rd_blk bx], ?_⟩
    by_cases h2 : y.2.1 = k
    · rw [if_neg (by simpa using h2)]
      exact go _ g (by simp [h2]) (Ext.refl _ _)
    · rw [if_pos (by simpa using h2)]
      refine ⟨y.2.2, by simp [rd_blk bv], m, by simp [rd_blk bx], ?_⟩
      refine Bars05_s _ _ fun g2 e2 => ⟨_, rfl, ?_⟩
      exact go _ g2 (by simp [h1, h2]) e2
  · rw [decide_eq_false h1, if_neg (by decide)]
    exact go _ g (by simp [h1]) (Ext.refl _ _)
theorem barsR_s (hr : RAt lo h b R sh sq) (hm : ∀ x ∈ R.has, isM x.2.2 = true) (hl1 : R.has.length ≤ 2 ^ 16) (hl2 : R.queue.length ≤ 2 ^ 16) (n : ByteArray) (k m : Int) {p : Nat} (hp : p ≤ R.queue.length)
    (hQ : ∀ h' s', Ext [] h h' → Own T_int 1 encIL h.size h' s' (barsP R.has (R.queue.take p) n k m) → Q [.slice s'.a s'.n s'.c] h') : S_liveryref06_Table_bars (some ⟨b, 0, none⟩) n k m (p : Int) h Q := by
  refine O_liveryref06_Table_bars _ _ _ _ _ ?_
  unfold F_liveryref06_Table_bars
  have hn1 := hr.has.1
  have hn2 := hr.queue.1
  refine newI fun h1 s1 b1 e1 => ?_
  intro X hX
  have key : ∀ (d i : Nat) g l L, d + i = R.has.length → Ext [] h g → Blk g h.size #[.string n, .int .i64 k, .int .i64 m] T_liveryref06_held → Own T_int 1 encIL h.size g l L → Asc L → L.length ≤ i → (∀ x, x ∈ L ↔ x ∈ metH (R.has.take i) n k m) → X [.slice l.a l.n l.c, .int .i64 (i : Int)] g := by
    intro d
    induction d with
    | zero =>
      intro i g l L hi eg bg ho ha hlen hmem
      refine hX _ _ _ ?_
      have hrg := hr.ext0 eg
      simp only [nilW_some, addr_mk, rd_blk hrg.blk]
      refine ⟨sh, rfl, ?_⟩
      rw [if_neg (by simp; omega)]
      rw [List.take_of_length_le (by omega)] at hmem
      refine ⟨k, by simp [rd_blk bg], n, by simp [rd_blk bg], ?_⟩
      refine SetR_s hrg hm (by omega) k n ⟨_, rfl, ?_⟩
      by_cases h0 : setH R.has k n = 0
      · rw [if_neg (by simp [h0])]
        intro Y hY
        have key2 : ∀ (d j : Nat) g2 l2 L2, d + j = p → Ext [] h g2 → Blk g2 h.size #[.string n, .int .i64 k, .int .i64 m] T_liveryref06_held → Own T_int 1 encIL h.size g2 l2 L2 → Asc L2 → L2.length ≤ i + j → (∀ x, x ∈ L2 ↔ x ∈ metH R.has n k m ∨ x ∈ metH (R.queue.take j) n k m) → Y [.slice l2.a l2.n l2.c, .int .i64 (j : Int)] g2 := by
          intro d
          induction d with
          | zero =>
            intro j g2 l2 L2 hj eg2 bg2 ho2 ha2 hlen2 hmem2
            refine hY _ _ _ ?_
            rw [if_neg (by simp; omega)]
            have hjp : j = p := by omega
            subst hjp
            refine hQ g2 l2 eg2 ?_
            have : L2 = barsP R.has (R.queue.take j) n k m := asc_ext ha2 (barsP_asc _ _ _ _ _) fun x => by rw [hmem2, barsP_mem]; simp [h0]
            rw [← this]
            exact ho2
          | succ d ih2 =>
            intro j g2 l2 L2 hj eg2 bg2 ho2 ha2 hlen2 hmem2
            refine hY _ _ _ ?_
            rw [if_pos (by simp; omega)]
            have hjl : j < R.queue.length := by omega
            have hrg2 := hr.ext0 eg2
            intro J hJ
            simp only [nilW_some, addr_mk, rd_blk hrg2.blk]
            refine ⟨sq, rfl, ?_⟩
            obtain ⟨a, w1, w2, w3, w4⟩ := rdH hrg2.queue.sl.reads hjl
            have htk : R.queue.take (j + 1) = R.queue.take j ++ [R.queue[j]] := by rw [List.take_add_one, List.getElem?_eq_getElem hjl]; rfl
            rw [w1]
            simp only [nilW_some, Int.toNat_natCast]
            refine ⟨by omega, by omega, _, by simpa only [addr_mk] using w2, _, by simpa only [addr_mk] using w3, _, by simpa only [addr_mk] using w4, ?_⟩
            refine varI rfl rfl fun g3 s3 b3 e3 => ?_
            have z3 := e3.sz
            have z2 := eg2.sz
            refine meet_s b3 (e3.get bg2 (by simp)) (ho2.ext0 e3) ha2 (by omega) (by omega) fun g4 l4 L4 e4 ho4 ha4 hl4 hm4 => ?_
            refine hJ _ _ ?_
            rw [wrap64 (by omega) (by omega)]
            have := ih2 (j + 1) g4 l4 L4 (by omega) ((eg2.trans0 e3).trans0 e4) (e4.get (e3.get bg2 (by simp)) (by simp)) ho4 ha4 (by omega) fun x => by rw [hm4, hmem2, htk, metH_snoc, or_assoc]
            simpa using this
        have := key2 p 0 g l L (by omega) eg bg ho ha (by omega) (fun x => by rw [hmem]; simp [metH])
        simpa using this
      · rw [if_pos (by simp; omega)]
        refine hQ g l eg ?_
        have : L = barsP R.has (R.queue.take p) n k m := asc_ext ha (barsP_asc _ _ _ _ _) fun x => by rw [hmem, barsP_mem]; simp [h0]
        rw [← this]
        exact ho
    | succ d ih =>
      intro i g l L hi eg bg ho ha hlen hmem
      refine hX _ _ _ ?_
      have hil : i < R.has.length := by omega
      have hrg := hr.ext0 eg
      simp only [nilW_some, addr_mk, rd_blk hrg.blk]
      refine ⟨sh, rfl, ?_⟩
      rw [if_pos (by simp; omega)]
      intro J hJ
      refine ⟨sh, rfl, ?_⟩
      obtain ⟨a, w1, w2, w3, w4⟩ := rdH hrg.has.sl.reads hil
      have htk : R.has.take (i + 1) = R.has.take i ++ [R.has[i]] := by rw [List.take_add_one, List.getElem?_eq_getElem hil]; rfl
      rw [w1]
      simp only [nilW_some, Int.toNat_natCast]
      refine ⟨by omega, by omega, _, by simpa only [addr_mk] using w2, _, by simpa only [addr_mk] using w3, _, by simpa only [addr_mk] using w4, ?_⟩
      refine varI rfl rfl fun g3 s3 b3 e3 => ?_
      have z3 := e3.sz
      have z2 := eg.sz
      refine meet_s b3 (e3.get bg (by simp)) (ho.ext0 e3) ha (by omega) (by omega) fun g4 l4 L4 e4 ho4 ha4 hl4 hm4 => ?_
      refine hJ _ _ ?_
      rw [wrap64 (by omega) (by omega)]
      have := ih (i + 1) g4 l4 L4 (by omega) ((eg.trans0 e3).trans0 e4) (e4.get (e3.get bg (by simp)) (by simp)) ho4 ha4 (by omega) fun x => by rw [hm4, hmem, htk, metH_snoc]
      simpa using this
  have := key R.has.length 0 h1 ⟨none, 0, 0⟩ [] (by omega) e1 b1 (Own.nil _ _) List.Pairwise.nil (by simp) (by simp [metH])
  simpa using this
end
end Go.Lift

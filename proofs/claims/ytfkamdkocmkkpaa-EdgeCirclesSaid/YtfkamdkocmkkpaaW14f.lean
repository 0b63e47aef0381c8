/- Edges: spoilt pivots, those ahead. -/
import Derived.Test.YtfkamdkocmkkpaaW14e
set_option linter.unusedSimpArgs false
set_option linter.unusedVariables false
namespace Go.Lift
open Go Go.Proofs Go.RowKit Go.Shelf
set_option maxRecDepth 100000
theorem loopV {A : Type} {va : A → List Value} {X : List Value → Hp → Prop} (n : Nat) (I : Nat → A → Hp → Prop) (hend : ∀ a g, I n a g → X (va a ++ [.int .i64 (n : Int)]) g)
    (hstep : ∀ i a g, i < n → I i a g → (∀ a' g', I (i + 1) a' g' → X (va a' ++ [.int .i64 ((i + 1 : Nat) : Int)]) g') → X (va a ++ [.int .i64 (i : Int)]) g) (a : A) (g : Hp) (h0 : I 0 a g) : X (va a ++ [.int .i64 (0 : Int)]) g := by
  have key : ∀ d i a g, d + i = n → I i a g → X (va a ++ [.int .i64 (i : Int)]) g := by
    intro d
    induction d with
    | zero =>
      intro i a g hi hI
      have : i = n := by omega
      subst this
      exact hend a g hI
    | succ d ih =>
      intro i a g hi hI
      exact hstep i a g (by omega) hI fun a' g' hI' => ih (i + 1) a' g' (by omega) hI'
  exact key n 0 a g (by omega) h0
section
variable {G G' : Nat → Prop} {h h' h'' : Hp} {cb e : Nat} {L : LM} {E : EM} {Q : List Value → Hp → Prop}
theorem spStep_len (L : LM) (csn : Int) : ∀ (l : List Int) (acc : List Int × Bool), (l.foldl (spStep L csn) acc).1.length ≤ acc.1.length + l.length
  | [], acc => by simp
  | t :: l, acc => by
    have ih := spStep_len L csn l (spStep L csn acc t)
    have h1 : (spStep L csn acc t).1.length ≤ acc.1.length + 1 := by
      unfold spStep
      repeat' split
      all_goals simp
    simp only [List.foldl_cons, List.length_cons]
    omega
theorem Spoilt_s {N : Nat} (hE : EvS G h cb e L E) (hok : EOk N E) (hN : N ≤ 2 ^ 28) (p : Int) (hQ : ∀ h' s, Ext [] h h' → Own T_int 1 encIL h.size h' s (spoiltE L E p).1 → Q [.slice s.a s.n s.c, .bool (spoiltE L E p).2] h') : S_edge_Edges_Spoilt (some ⟨e, 0, none⟩) p h Q := by
  refine O_edge_Edges_Spoilt _ _ ?_
  unfold F_edge_Edges_Spoilt
  intro J hJ
  refine none_s hE ⟨_, rfl, ?_⟩
  rw [if_neg (by decide)]
  simp only [nilW_some] at hJ ⊢
  refine ⟨_, hE.ptr, ?_⟩
  refine State_s hE.cl p fun h1 e1 => ⟨_, rfl, ?_⟩
  have hE1 := hE.ext0 e1
  by_cases h3 : (txL L p).state = 3
  · have : ((txL L p).state == 3) = true := by simp [h3]
    rw [this]
    refine hJ _ _ ?_
    rw [if_pos rfl]
    have := hQ h1 ⟨none, 0, 0⟩ e1
    unfold spoiltE at this
    rw [if_pos h3] at this
    exact this (Own.nil _ _)
  have : ((txL L p).state == 3) = false := by simp [h3]
  rw [this]
  refine hJ _ _ ?_
  rw [if_neg (by decide)]
  refine first_s hE1 hok hN p fun h2 e2 => ⟨_, rfl, ?_⟩
  have hE2 := hE1.ext0 e2
  have e12 := e1.trans0 e2
  unfold spoiltE at hQ
  rw [if_neg h3] at hQ
  by_cases h0 : firstE L E p = 0
  · rw [if_pos (by simpa using h0)]
    rw [if_pos h0] at hQ
    exact hQ h2 ⟨none, 0, 0⟩ e12 (Own.nil _ _)
  rw [if_neg (by simpa using h0)]
  rw [if_neg h0] at hQ
  generalize firstE L E p = csn at *
  obtain ⟨ob, r1, es, k1, k2, k3⟩ := hE2.oldR p
  refine ⟨_, r1, es, k1, k2, _, k3, ?_⟩
  refine In_s hE2 hok hN p fun h3' s e3 ho => ⟨s, rfl, ?_⟩
  have e13 := e12.trans0 e3
  have hn := ho.1
  have hlen := (inE_len hok p).1
  intro X hX
  refine loopV (A := Sl × (List Int × Bool)) (va := fun a => [.slice a.1.a a.1.n a.1.c, .bool a.2.2]) (inE E p).length (fun i a g => Ext [] h3' g ∧ Own T_int 1 encIL h3'.size g a.1 a.2.1 ∧ a.2 = ((inE E p).take i).foldl (spStep L csn) ([], decide (oldE E p ≥ csn))) ?_ ?_ (⟨none, 0, 0⟩, ([], decide (oldE E p ≥ csn))) h3' ⟨Ext.refl _ _, Own.nil _ _, rfl⟩
  · rintro ⟨l, acc⟩ g ⟨eg, hol, hacc⟩
    simp only at hol hacc
    refine hX _ _ _ _ ?_
    rw [if_neg (by simp; omega)]
    rw [List.take_of_length_le (Nat.le_refl _)] at hacc
    have := hQ g l (e13.trans0 eg)
    rw [← hacc] at this
    exact this (hol.mono e13.sz)
  · rintro i ⟨l, acc⟩ g hi ⟨eg, hol, hacc⟩ hnext
    simp only at hol hacc
    refine hX _ _ _ _ ?_
    rw [if_pos (by simp; omega)]
    intro J20 hJ20
    have htk : (inE E p).take (i + 1) = (inE E p).take i ++ [(inE E p)[i]] := by rw [List.take_add_one, List.getElem?_eq_getElem hi]; rfl
    have hal := spStep_len L csn ((inE E p).take i) ([], decide (oldE E p ≥ csn))
    rw [← hacc, List.length_take] at hal
    simp only [List.length_nil] at hal
    rw [htk] at hnext
    simp only [List.foldl_append, List.foldl_cons, List.foldl_nil] at hnext
    rw [← hacc] at hnext
    obtain ⟨ad, ha, hrd⟩ := rdI (ho.ext0 eg).sl.reads hi
    obtain ⟨t1, ht1⟩ : ∃ t1, (inE E p)[i] = t1 := ⟨_, rfl⟩
    rw [ht1] at hrd hnext
    have zg := eg.sz
    have z13 := e13.sz
    have j20 : ∀ g2 (l2 : Sl) (v : List Int × Bool), Ext [] h3' g2 → Own T_int 1 encIL h3'.size g2 l2 v.1 → v = spStep L csn acc t1 → J20 [.slice l2.a l2.n l2.c, .bool v.2] g2 := by
      intro g2 l2 v e2 ho2 hv
      refine hJ20 _ _ _ ?_
      rw [wrap64 (by omega) (by omega)]
      exact hnext (l2, v) g2 ⟨e2, ho2, hv⟩
    rw [ha]
    simp only [nilW_some]
    refine ⟨by omega, by omega, ?_⟩
    rw [Int.toNat_natCast]
    have hEg := hE.ext0 (e13.trans0 eg)
    refine ⟨_, hrd, _, hEg.ptr, ?_⟩
    refine State_s hEg.cl t1 fun g2 e2 => ⟨_, rfl, ?_⟩
    have hE2 := hEg.ext0 e2
    intro J31 hJ31
    intro J34 hJ34
    have yes34 : ∀ g3, Ext [] g g3 → ((txL L t1).state = 3 ∨ ((txL L t1).state = 2 ∧ (txL L t1).csn < csn)) → J34 [.bool true] g3 := by
      intro g3 e3 hc
      refine hJ34 _ _ ?_
      rw [if_pos rfl]
      exact j20 g3 l acc (eg.trans0 e3) (hol.ext0 e3) (by unfold spStep; rw [if_pos hc])
    have no34 : ∀ g3, Ext [] g g3 → ¬ ((txL L t1).state = 3 ∨ ((txL L t1).state = 2 ∧ (txL L t1).csn < csn)) → J34 [.bool false] g3 := by
      intro g3 e3 hc
      refine hJ34 _ _ ?_
      rw [if_neg (by decide)]
      intro J37 hJ37
      have yes37 : ∀ g4, Ext [] g g4 → ((txL L t1).reads = true ∧ (txL L t1).snap < csn) → J37 [.bool true] g4 := by
        intro g4 e4 hd
        refine hJ37 _ _ ?_
        rw [if_pos rfl]
        exact j20 g4 l acc (eg.trans0 e4) (hol.ext0 e4) (by unfold spStep; rw [if_neg hc, if_pos hd])
      have no37 : ∀ g4, Ext [] g g4 → ¬ ((txL L t1).reads = true ∧ (txL L t1).snap < csn) → J37 [.bool false] g4 := by
        intro g4 e4 hd
        refine hJ37 _ _ ?_
        rw [if_neg (by decide)]
        by_cases hs : (txL L t1).state = 1
        · rw [if_pos (by simpa using hs)]
          refine newI fun g5 s5 b5 e5 => ?_
          have ho5 := (hol.ext0 e4).ext0 e5
          have e45 := e4.trans0 e5
          have z45 := e45.sz
          refine oneG encIL_len encIL_one zc_int bytesI (k := t1) ho5 b5 (by omega) (by omega) fun l' g6 ho6 e6 hb6 => ?_
          have hsl := own_ltG ho5
          refine hJ31 _ _ ?_
          refine j20 g6 l' (acc.1 ++ [t1], true) ((eg.trans0 e45).trans e6 fun b hb hlt => ?_) ho6 (by unfold spStep; rw [if_neg hc, if_neg hd, if_pos hs])
          have := hsl b hb
          omega
        · rw [if_neg (by simpa using hs)]
          refine hJ31 _ _ ?_
          exact j20 g4 l (acc.1, true) (eg.trans0 e4) (hol.ext0 e4) (by unfold spStep; rw [if_neg hc, if_neg hd, if_neg hs])
      have hE3 := hEg.ext0 e3
      refine ⟨_, hE3.ptr, ?_⟩
      refine Reads_s hE3.cl t1 fun g4 e4 => ⟨_, rfl, ?_⟩
      have hE4 := hE3.ext0 e4
      cases hrd : (txL L t1).reads with
      | false =>
        rw [if_neg (by decide)]
        exact no37 g4 (e3.trans0 e4) (by rw [hrd]; simp)
      | true =>
        rw [if_pos rfl]
        refine ⟨_, hE4.ptr, ?_⟩
        refine Snapshot_s hE4.cl t1 fun g5 e5 => ⟨_, rfl, ?_⟩
        by_cases hlt : (txL L t1).snap < csn
        · rw [decide_eq_true hlt]
          exact yes37 g5 ((e3.trans0 e4).trans0 e5) ⟨hrd, hlt⟩
        · rw [decide_eq_false hlt]
          exact no37 g5 ((e3.trans0 e4).trans0 e5) fun hh => hlt hh.2
    by_cases hs3 : (txL L t1).state = 3
    · rw [if_pos (by simpa using hs3)]
      exact yes34 g2 e2 (Or.inl hs3)
    rw [if_neg (by simpa using hs3)]
    by_cases hs2 : (txL L t1).state = 2
    · rw [if_pos (by simpa using hs2)]
      refine ⟨_, hE2.ptr, ?_⟩
      refine Csn_s hE2.cl t1 fun g3 e3 => ⟨_, rfl, ?_⟩
      by_cases hlt : (txL L t1).csn < csn
      · rw [decide_eq_true hlt]
        exact yes34 g3 (e2.trans0 e3) (Or.inr ⟨hs2, hlt⟩)
      · rw [decide_eq_false hlt]
        exact no34 g3 (e2.trans0 e3) (by rintro (q | q); exact hs3 q; exact hlt q.2)
    · rw [if_neg (by simpa using hs2)]
      exact no34 g2 e2 (by rintro (q | q); exact hs3 q; exact hs2 q.1)
theorem any_step (f : Int → Bool) (l : List Int) {i : Nat} (hi : i < l.length) : (l.take (i + 1)).any f = ((l.take i).any f || f l[i]) := by
  rw [List.take_add_one, List.getElem?_eq_getElem hi, List.any_append]
  simp only [Option.toList, List.any_cons, List.any_nil, Bool.or_false]
theorem Ahead_s {N : Nat} (hE : EvS G h cb e L E) (hok : EOk N E) (hN : N ≤ 2 ^ 28) (t3 : Int) (hQ : ∀ h' s, Ext [] h h' → Own T_int 1 encIL h.size h' s (aheadE L E t3) → Q [.slice s.a s.n s.c] h') : S_edge_Edges_Ahead (some ⟨e, 0, none⟩) t3 h Q := by
  refine O_edge_Edges_Ahead _ _ ?_
  unfold F_edge_Edges_Ahead
  refine In_s hE hok hN t3 fun h1 s e1 ho => ⟨s, rfl, ?_⟩
  have hn := ho.1
  have hlen := (inE_len hok t3).1
  intro X hX
  obtain ⟨F, hF⟩ : ∃ F : Int → Bool, ∀ p, F p = (decide ((txL L p).state = 1) && (inE E p).any (aheadB L t3)) := ⟨_, fun _ => rfl⟩
  have hah : aheadE L E t3 = (inE E t3).filter F := by unfold aheadE; exact List.filter_congr fun q _ => (hF q).symm
  rw [hah] at hQ
  refine loopV (A := Sl) (va := fun a => [.slice a.a a.n a.c]) (inE E t3).length (fun i a g => Ext [] h1 g ∧ Own T_int 1 encIL h1.size g a (((inE E t3).take i).filter F)) ?_ ?_ ⟨none, 0, 0⟩ h1 ⟨Ext.refl _ _, Own.nil _ _⟩
  · rintro l g ⟨eg, hol⟩
    refine hX _ _ _ ?_
    rw [if_neg (by simp; omega)]
    rw [List.take_of_length_le (Nat.le_refl _)] at hol
    exact hQ g l (e1.trans0 eg) (hol.mono e1.sz)
  · rintro i l g hi ⟨eg, hol⟩ hnext
    refine hX _ _ _ ?_
    rw [if_pos (by simp; omega)]
    intro J8 hJ8
    obtain ⟨p, hp⟩ : ∃ p, (inE E t3)[i] = p := ⟨_, rfl⟩
    have htk : (inE E t3).take (i + 1) = (inE E t3).take i ++ [p] := by rw [List.take_add_one, List.getElem?_eq_getElem hi, hp]; rfl
    rw [htk] at hnext
    have hfl : (((inE E t3).take i).filter F).length ≤ i := by
      have := List.length_filter_le F ((inE E t3).take i)
      rw [List.length_take] at this
      omega
    obtain ⟨ad, ha, hrd⟩ := rdI (ho.ext0 eg).sl.reads hi
    rw [hp] at hrd
    have zg := eg.sz
    have j8n : ∀ g2, Ext [] g g2 → F p = false → J8 [.slice l.a l.n l.c] g2 := by
      intro g2 e2 hf
      refine hJ8 _ _ ?_
      rw [wrap64 (by omega) (by omega)]
      refine hnext l g2 ⟨eg.trans0 e2, ?_⟩
      rw [List.filter_append]
      simp only [List.filter_cons, hf, Bool.false_eq_true, if_false, List.filter_nil, List.append_nil]
      exact hol.ext0 e2
    have j8y : ∀ g2 (l2 : Sl), Ext [] h1 g2 → Own T_int 1 encIL h1.size g2 l2 (((inE E t3).take i).filter F ++ [p]) → F p = true → J8 [.slice l2.a l2.n l2.c] g2 := by
      intro g2 l2 e2 ho2 hf
      refine hJ8 _ _ ?_
      rw [wrap64 (by omega) (by omega)]
      refine hnext l2 g2 ⟨e2, ?_⟩
      rw [List.filter_append]
      simp only [List.filter_cons, hf, if_true, List.filter_nil]
      exact ho2
    rw [ha]
    simp only [nilW_some]
    refine ⟨by omega, by omega, ?_⟩
    rw [Int.toNat_natCast]
    have hEg := hE.ext0 (e1.trans0 eg)
    refine ⟨_, hrd, _, hEg.ptr, ?_⟩
    refine State_s hEg.cl p fun g2 e2 => ⟨_, rfl, ?_⟩
    have hE2 := hEg.ext0 e2
    by_cases hs : (txL L p).state = 1
    · have : ((txL L p).state != 1) = false := by simp [hs]
      rw [this, if_neg (by decide)]
      have hFp : F p = (inE E p).any (aheadB L t3) := by rw [hF]; simp [hs]
      refine In_s hE2 hok hN p fun g3 s2 e3 ho2 => ⟨s2, rfl, ?_⟩
      have hn2 := ho2.1
      have e23 := e2.trans0 e3
      have hlen2 := (inE_len hok p).1
      intro Y hY
      have hol3 := hol.ext0 e23
      have hE3 := hE2.ext0 e3
      have z23 := e23.sz
      refine loopV (A := Unit) (va := fun _ => [.slice l.a l.n l.c]) (inE E p).length (fun k _ g' => Ext [] g3 g' ∧ ((inE E p).take k).any (aheadB L t3) = false) ?_ ?_ () g3 ⟨Ext.refl _ _, by simp⟩
      · rintro - g' ⟨eg', hno⟩
        refine hY _ _ _ ?_
        rw [if_neg (by simp; omega)]
        rw [List.take_of_length_le (Nat.le_refl _)] at hno
        exact j8n g' (e23.trans0 eg') (by rw [hFp, hno])
      · rintro k - g' hk ⟨eg', hno⟩ hnext2
        refine hY _ _ _ ?_
        rw [if_pos (by simp; omega)]
        obtain ⟨t1, ht1⟩ : ∃ t1, (inE E p)[k] = t1 := ⟨_, rfl⟩
        have hst := any_step (aheadB L t3) (inE E p) hk
        rw [hno, Bool.false_or, ht1] at hst
        obtain ⟨ad2, ha2, hrd2⟩ := rdI (ho2.ext0 eg').sl.reads hk
        rw [ht1] at hrd2
        rw [ha2]
        simp only [nilW_some]
        refine ⟨by omega, by omega, ?_⟩
        rw [Int.toNat_natCast]
        refine ⟨_, hrd2, ?_⟩
        intro J27 hJ27
        have j27 : ∀ g4 bb, Ext [] g' g4 → bb = aheadB L t3 t1 → J27 [.bool bb] g4 := by
          rintro g4 bb e4 rfl
          refine hJ27 _ _ ?_
          cases hb : aheadB L t3 t1 with
          | true =>
            rw [if_pos rfl]
            refine newI fun g5 s5 b5 e5 => ?_
            have e35 := (eg'.trans0 e4).trans0 e5
            have z35 := e35.sz
            have ho5 := hol3.ext0 e35
            refine oneG encIL_len encIL_one zc_int bytesI (k := p) ho5 b5 (by omega) (by omega) fun l' g6 ho6 e6 hb6 => ?_
            have hsl := own_ltG ho5
            refine j8y g6 l' (((eg.trans0 e23).trans0 e35).trans e6 fun b hb hlt => by have := hsl b hb; omega) ho6 ?_
            rw [hFp, List.any_eq_true]
            exact ⟨t1, by rw [← ht1]; exact List.getElem_mem hk, hb⟩
          | false =>
            rw [if_neg (by decide), wrap64 (by omega) (by omega)]
            exact hnext2 () g4 ⟨eg'.trans0 e4, by rw [hst, hb]⟩
        have hE4 := hE3.ext0 eg'
        unfold aheadB at j27
        by_cases hq : t1 = t3
        · rw [if_pos (by simpa using hq)]
          refine ⟨_, hE4.ptr, ?_⟩
          refine Reads_s hE4.cl t1 fun g5 e5 => ⟨_, rfl, ?_⟩
          exact j27 g5 _ e5 (by simp [hq])
        · rw [if_neg (by simpa using hq)]
          refine ⟨_, hE4.ptr, ?_⟩
          refine State_s hE4.cl t1 fun g5 e5 => ⟨_, rfl, ?_⟩
          have hE5 := hE4.ext0 e5
          by_cases hs1 : (txL L t1).state = 1
          · rw [if_pos (by simpa using hs1)]
            refine ⟨_, hE5.ptr, ?_⟩
            refine Reads_s hE5.cl t1 fun g6 e6 => ⟨_, rfl, ?_⟩
            exact j27 g6 _ (e5.trans0 e6) (by simp [hs1])
          · rw [if_neg (by simpa using hs1)]
            exact j27 g5 _ e5 (by simp [hs1, hq])
    · have : ((txL L p).state != 1) = true := by simp [hs]
      rw [this, if_pos rfl]
      exact j8n g2 e2 (by rw [hF]; simp [hs])
end
end Go.Lift

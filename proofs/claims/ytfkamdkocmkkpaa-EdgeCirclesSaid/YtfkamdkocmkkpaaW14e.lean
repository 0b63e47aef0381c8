/- Edges: what is read out of them. -/
import Derived.Test.YtfkamdkocmkkpaaW14d
set_option linter.unusedSimpArgs false
set_option linter.unusedVariables false
namespace Go.Lift
open Go Go.Proofs Go.RowKit Go.Shelf
set_option maxRecDepth 100000
theorem bytesI : (8 : Nat) ≤ 1024 := by decide
theorem int_sort_ext {l l' : List Int} (hp : l.Perm l') : sortI l = sortI l' := by
  unfold sortI
  refine List.Perm.eq_of_pairwise (le := fun a b => (decide (a ≤ b)) = true) (fun a b _ _ h1 h2 => ?_) (List.pairwise_mergeSort (fun a b c h1 h2 => by simp at *; omega) (fun a b => by simp; omega) l) (List.pairwise_mergeSort (fun a b c h1 h2 => by simp at *; omega) (fun a b => by simp; omega) l') (((List.mergeSort_perm l _).trans hp).trans (List.mergeSort_perm l' _).symm)
  simp at h1 h2
  omega
theorem afind_of_mem {K V : Type} [DecidableEq K] {T : List (K × V)} (hn : (T.map Prod.fst).Nodup) {n : K} {q : V} (hm : (n, q) ∈ T) : afind T n = some q := by
  induction T with
  | nil => cases hm
  | cons p T ih =>
    obtain ⟨a, u⟩ := p
    rw [List.map_cons, List.nodup_cons] at hn
    simp only [afind]
    rcases List.mem_cons.1 hm with g | g
    · cases g; simp
    · have : n ≠ a := fun e => hn.1 (e ▸ List.mem_map.2 ⟨_, g, rfl⟩)
      rw [if_neg this]
      exact ih hn.2 g
/-- A loop that counts. -/
theorem loopI {X : List Value → Hp → Prop} (n : Nat) (I : Nat → Hp → Prop) (hend : ∀ g, I n g → X [.int .i64 (n : Int)] g)
    (hstep : ∀ i g, i < n → I i g → (∀ g', I (i + 1) g' → X [.int .i64 ((i + 1 : Nat) : Int)] g') → X [.int .i64 (i : Int)] g) (g : Hp) (h0 : I 0 g) : X [.int .i64 (0 : Int)] g := by
  have key : ∀ d i g, d + i = n → I i g → X [.int .i64 (i : Int)] g := by
    intro d
    induction d with
    | zero =>
      intro i g hi hI
      have : i = n := by omega
      subst this
      exact hend g hI
    | succ d ih =>
      intro i g hi hI
      exact hstep i g (by omega) hI fun g' hI' => ih (i + 1) g' (by omega) hI'
  exact key n 0 g (by omega) h0
theorem loopI2 {A : Type} {va : A → Value} {X : List Value → Hp → Prop} (n : Nat) (I : Nat → A → Hp → Prop) (hend : ∀ a g, I n a g → X [va a, .int .i64 (n : Int)] g)
    (hstep : ∀ i a g, i < n → I i a g → (∀ a' g', I (i + 1) a' g' → X [va a', .int .i64 ((i + 1 : Nat) : Int)] g') → X [va a, .int .i64 (i : Int)] g) (a : A) (g : Hp) (h0 : I 0 a g) : X [va a, .int .i64 (0 : Int)] g := by
  have key : ∀ d i a g, d + i = n → I i a g → X [va a, .int .i64 (i : Int)] g := by
    intro d
    induction d with
    | zero =>
      intro i a g hi hI
      have : i = n := by omega
      subst this
      exact hend a g hI
    | succ d ih =>
      intro i a g hi hI
      exact hstep i a g (by omega) hI fun a' g' hI' => ih (i + 1) a' g' (by omega) hI'
  exact key n 0 a g (by omega) h0
section
variable {G G' : Nat → Prop} {h h' h'' : Hp} {cb e : Nat} {L : LM} {E : EM} {Q : List Value → Hp → Prop}
/-- slices.Sort over a slice of one's own. -/
theorem SortI_s {T : TypeId} {l : Nat} {s : Sl} {xs : List Int} (ho : Own T 1 encIL l h s xs) (hl : xs.length ≤ 2 ^ 40)
    (hQ : ∀ h', Own T 1 encIL l h' s (sortI xs) → Ext (sBlk s) h h' → Q [] h') : S_slices_Sort_sint_int s h Q := by
  refine fn_of_calls Try.func63 (c := bodyOf Try.f63) (by kernel_rfl) (by kernel_rfl) ?_
  refine sort1_c (P := PP) (enc := encI) (fun n : Int => n) (fun l => l.mergeSort fun x y => decide (x ≤ y)) (fun l => List.length_mergeSort _)
    (fun blk off cap zs w h1 h2 h3 => AnyM.slices_Sort_int Try.sortI blk off cap zs w h1 h2 h3) (fun p cap w => AnyM.slices_Sort_int_none Try.sortI p cap w) (ys := sortI xs) ?_ ho hl fun h' o e => hQ h' o e
  rw [List.map_id', List.map_id']
  rfl
/-- Are two lists alike? -/
theorem Ints_s {a b : Sl} {xs ys : List Int} (ha : Reads 1 encIL h a xs) (hb : Reads 1 encIL h b ys) (hl : xs.length ≤ 2 ^ 40) (hQ : Q [.bool (decide (xs = ys))] h) : S_liverykeep_Ints a b h Q := by
  refine O_liverykeep_Ints _ _ ?_
  unfold F_liverykeep_Ints
  have ha1 := ha.1
  have hb1 := hb.1
  by_cases hn : xs.length = ys.length
  · rw [if_neg (by simp; omega)]
    intro X hX
    have key : ∀ d i, d + i = xs.length → xs.take i = ys.take i → X [.int .i64 (i : Int)] h := by
      intro d
      induction d with
      | zero =>
        intro i hi ht
        refine hX _ _ ?_
        rw [if_neg (by simp; omega)]
        rw [List.take_of_length_le (by omega), List.take_of_length_le (by omega)] at ht
        simpa [ht] using hQ
      | succ d ih =>
        intro i hi ht
        refine hX _ _ ?_
        rw [if_pos (by simp; omega)]
        obtain ⟨a1, u1, u2⟩ := ha.rd encIL_len (i := i) (by omega)
        obtain ⟨b1, v1, v2⟩ := hb.rd encIL_len (i := i) (by omega)
        have u2 := u2 0 (by omega)
        have v2 := v2 0 (by omega)
        rw [u1, v1]
        simp only [nilW_some, Int.toNat_natCast]
        refine ⟨by omega, by omega, _, by simpa using u2, by omega, by omega, _, by simpa using v2, ?_⟩
        have hx : xs.take (i + 1) = xs.take i ++ [xs[i]'(by omega)] := by rw [List.take_add_one, List.getElem?_eq_getElem (by omega)]; rfl
        have hy : ys.take (i + 1) = ys.take i ++ [ys[i]'(by omega)] := by rw [List.take_add_one, List.getElem?_eq_getElem (by omega)]; rfl
        by_cases he : xs[i]'(by omega) = ys[i]'(by omega)
        · rw [if_neg (by simpa using he), wrap64 (by omega) (by omega)]
          have := ih (i + 1) (by omega) (by rw [hx, hy, ht, he])
          simpa using this
        · rw [if_pos (by simpa using he)]
          have hne : xs ≠ ys := fun e => he (by subst e; rfl)
          simpa [hne] using hQ
    have := key xs.length 0 (by omega) (by simp)
    simpa using this
  · rw [if_pos (by simp; omega)]
    have hne : xs ≠ ys := fun e => hn (by rw [e])
    simpa [hne] using hQ
def endF (k : Nat) (q : Int × Int) : Int := if k = 0 then q.1 else q.2
def endsE (E : EM) (x : Int) (k : Nat) : List Int := sortI ((E.m.filter fun q => decide (endF k q = x)).map (endF (1 - k)))
theorem endsE_in (E : EM) (x : Int) : endsE E x 1 = inE E x := rfl
theorem endsE_out (E : EM) (x : Int) : endsE E x 0 = outE E x := rfl
theorem endF_rd {q : Int × Int} {b k : Nat} (hk : k ≤ 1) (hb : Blk h b (encP q).toArray T_2_int) : rd h (Addr.add (Addr.mk b 0 none) (Int.toNat (k : Int) * 1)) = some (.int .i64 (endF k q)) := by
  rw [addr_mk, rd_blk hb, Int.toNat_natCast, Nat.zero_add, Nat.mul_one]
  rcases (by omega : k = 0 ∨ k = 1) with rfl | rfl <;> rfl
theorem ends14_s {N : Nat} (hE : EvS G h cb e L E) (hok : EOk N E) (hN : N ≤ 2 ^ 28) (x : Int) {k : Nat} (hk : k ≤ 1)
    (hQ : ∀ h' s, Ext [] h h' → Own T_int 1 encIL h.size h' s (endsE E x k) → Q [.slice s.a s.n s.c] h') : S_edge_Edges_ends (some ⟨e, 0, none⟩) x (k : Int) h Q := by
  refine O_edge_Edges_ends _ _ _ ?_
  unfold F_edge_Edges_ends
  refine none_s hE ⟨_, rfl, ?_⟩
  rw [if_neg (by decide)]
  simp only [nilW_some]
  obtain ⟨mb, ob, a1, a2, a3, a4, a5, a6⟩ := hE.ed
  refine ⟨some mb, by rw [addr_mk, rd_blk a1]; rfl, ?_⟩
  obtain ⟨io, hio, hR⟩ := rangeO_start (r := some mb) (h := h) (T := tP E.m) (ek := ekP) (ev := evU) a2
  have hlm := a2.lt
  have hln := hok.len
  refine ⟨io, hio, newI fun h2 s2 b2 e2 => ?_⟩
  intro X hX
  have htl : (tP E.m).length = E.m.length := by simp [tP]
  refine rangeV (ek := ekP) (ev := evU) (T := tP E.m) (r := some mb) (A := Sl) (va := fun l => [.slice l.a l.n l.c]) hX
    (fun done l g => Ext [] h g ∧ h2.size ≤ g.size ∧ Own T_int 1 encIL h.size g l (((done.map Prod.fst).filter fun q => decide (endF k q = x)).map (endF (1 - k))) ∧ h.size ∉ sBlk l) ?_ ?_ h2 [] ⟨none, 0, 0⟩ ?_ (hR b2 e2)
  · rintro done l g ⟨eg, zg, ho, hnb⟩ hp
    have hpl := hp.length_eq
    have hfl : (((done.map Prod.fst).filter fun q => decide (endF k q = x)).map (endF (1 - k))).length ≤ done.length := by
      rw [List.length_map]
      have := List.length_filter_le (fun q => decide (endF k q = x)) (done.map Prod.fst)
      rw [List.length_map] at this
      exact this
    refine SortI_s ho (by omega) fun g2 o2 e3 => ⟨rfl, hQ g2 l (eg.trans e3 fun b hb hlt => ?_) ?_⟩
    · have := own_ltG ho b hb
      omega
    · have hpp : (done.map Prod.fst).Perm E.m := by
        have := hp.map Prod.fst
        rw [tP_keys] at this
        exact this
      have : sortI (((done.map Prod.fst).filter fun q => decide (endF k q = x)).map (endF (1 - k))) = endsE E x k := int_sort_ext ((hpp.filter _).map _)
      rw [← this]
      exact o2
  · rintro done p l g en g' ⟨eg, zg, ho, hnb⟩ ⟨rest, hp⟩ hke hve f1 u1 hr hnext
    have eg' : Ext [] h g' := eg.trans f1 (by intro b hb hlt; simp at hb; omega)
    have hpl := hp.length_eq
    simp only [List.length_append, List.length_cons, List.length_nil] at hpl
    obtain ⟨q, u⟩ := p
    have ho' := ho.ext f1 fun a ha hb => hnb (by simp at hb; exact mem_sBlk.2 ⟨a, ha, hb⟩)
    refine ⟨_, _, hke, _, rfl, ?_⟩
    refine cellP (x := q) rfl fun g2 e3 z3 b3 => ?_
    refine ⟨by omega, by omega, _, endF_rd hk b3, ?_⟩
    have eq2 : (endF k q == x) = decide (endF k q = x) := by rw [Bool.eq_iff_iff]; simp
    rw [eq2]
    have hfl : (((done.map Prod.fst).filter fun q => decide (endF k q = x)).map (endF (1 - k))).length ≤ done.length := by
      rw [List.length_map]
      have := List.length_filter_le (fun q => decide (endF k q = x)) (done.map Prod.fst)
      rw [List.length_map] at this
      exact this
    by_cases hx : endF k q = x
    · rw [if_pos (by simpa using hx)]
      have hw : IntKind.wrap .i64 ((1 : Int) - (k : Int)) = ((1 - k : Nat) : Int) := by rw [wrap64 (by omega) (by omega)]; omega
      rw [hw]
      refine ⟨by omega, by omega, _, endF_rd (by omega) b3, ?_⟩
      refine newI fun g3 s3 b4 e4 => ?_
      have ho3 := (ho'.ext0 e3).ext0 e4
      refine oneG encIL_len encIL_one zc_int bytesI (k := endF (1 - k) q) ho3 b4 (by omega) (by have := eg'.sz; omega) fun l' g4 ho4 e5 hb5 => ?_
      have e34 := e3.trans0 e4
      have hsl := own_ltG ho3
      have z34 := e34.sz
      refine hnext l' g4 ⟨(eg'.trans0 e34).trans e5 fun b hb hlt => by have := hsl b hb; omega, by have := e5.sz; omega, ?_, ?_⟩ ?_
      · rw [List.map_append, List.filter_append, List.map_append]
        simp only [List.map_cons, List.map_nil, List.filter_cons, hx, decide_true, if_true, List.filter_nil]
        exact ho4
      · intro hb
        rcases hb5 _ hb with hb | hb
        · exact hnb hb
        · omega
      · refine (hr.ext e34 (by simp) (by simp)).ext e5 hnb fun m hm hb => ?_
        cases hm
        have := hsl _ hb
        omega
    · rw [if_neg (by simpa using hx)]
      have z3' := e3.sz
      refine hnext l g2 ⟨eg'.trans0 e3, by omega, ?_, hnb⟩ (hr.ext e3 (by simp) (by simp))
      rw [List.map_append, List.filter_append, List.map_append]
      simp only [List.map_cons, List.map_nil, List.filter_cons, hx, decide_false, Bool.false_eq_true, if_false, List.filter_nil, List.append_nil]
      exact ho'.ext0 e3
  · exact ⟨e2, Nat.le_refl _, Own.nil _ _, by simp [sBlk]⟩
theorem In_s {N : Nat} (hE : EvS G h cb e L E) (hok : EOk N E) (hN : N ≤ 2 ^ 28) (x : Int) (hQ : ∀ h' s, Ext [] h h' → Own T_int 1 encIL h.size h' s (inE E x) → Q [.slice s.a s.n s.c] h') : S_edge_Edges_In (some ⟨e, 0, none⟩) x h Q := by
  refine O_edge_Edges_In _ _ ?_
  unfold F_edge_Edges_In
  exact ends14_s (k := 1) hE hok hN x (by omega) fun h1 s e1 ho => ⟨s, rfl, hQ h1 s e1 ho⟩
theorem Out_s {N : Nat} (hE : EvS G h cb e L E) (hok : EOk N E) (hN : N ≤ 2 ^ 28) (x : Int) (hQ : ∀ h' s, Ext [] h h' → Own T_int 1 encIL h.size h' s (outE E x) → Q [.slice s.a s.n s.c] h') : S_edge_Edges_Out (some ⟨e, 0, none⟩) x h Q := by
  refine O_edge_Edges_Out _ _ ?_
  unfold F_edge_Edges_Out
  exact ends14_s (k := 0) hE hok hN x (by omega) fun h1 s e1 ho => ⟨s, rfl, hQ h1 s e1 ho⟩
theorem inE_len {N : Nat} (hok : EOk N E) (x : Int) : (inE E x).length ≤ N ∧ (outE E x).length ≤ N := by
  have hl := hok.len
  have h1 := List.length_filter_le (fun q : Int × Int => decide (q.2 = x)) E.m
  have h2 := List.length_filter_le (fun q : Int × Int => decide (q.1 = x)) E.m
  unfold inE outE sortI
  rw [List.length_mergeSort, List.length_mergeSort, List.length_map, List.length_map]
  omega
theorem first_s {N : Nat} (hE : EvS G h cb e L E) (hok : EOk N E) (hN : N ≤ 2 ^ 28) (p : Int) (hQ : ∀ h', Ext [] h h' → Q [.int .i64 (firstE L E p)] h') : S_edge_Edges_first (some ⟨e, 0, none⟩) p h Q := by
  refine O_edge_Edges_first _ _ ?_
  unfold F_edge_Edges_first
  refine Out_s hE hok hN p fun h1 s e1 ho => ⟨s, rfl, ?_⟩
  have hn := ho.1
  have hlen := (inE_len hok p).2
  intro X hX
  simp only [nilW_some] at hX
  refine loopI2 (A := Int) (va := fun n => .int .i64 n) (outE E p).length (fun i a g => Ext [] h1 g ∧ a = ((outE E p).take i).foldl (stepF L p) 0) ?_ ?_ 0 h1 ⟨Ext.refl _ _, rfl⟩
  · rintro a g ⟨eg, rfl⟩
    refine hX _ _ _ ?_
    rw [if_neg (by simp; omega), List.take_of_length_le (Nat.le_refl _)]
    exact hQ g (e1.trans0 eg)
  · rintro i a g hi ⟨eg, rfl⟩ hnext
    refine hX _ _ _ ?_
    rw [if_pos (by simp; omega)]
    intro J8 hJ8
    have htk : (outE E p).take (i + 1) = (outE E p).take i ++ [(outE E p)[i]] := by rw [List.take_add_one, List.getElem?_eq_getElem hi]; rfl
    rw [htk] at hnext
    simp only [List.foldl_append, List.foldl_cons, List.foldl_nil] at hnext
    generalize ((outE E p).take i).foldl (stepF L p) 0 = a at *
    obtain ⟨ad, ha, hrd⟩ := rdI (ho.ext0 eg).sl.reads hi
    obtain ⟨t3, ht3⟩ : ∃ t3, (outE E p)[i] = t3 := ⟨_, rfl⟩
    rw [ht3] at hrd hnext
    have j8 : ∀ g2 v, Ext [] g g2 → v = stepF L p a t3 → J8 [.int .i64 v] g2 := by
      rintro g2 v e2 rfl
      refine hJ8 _ _ ?_
      rw [wrap64 (by omega) (by omega)]
      exact hnext _ g2 ⟨eg.trans0 e2, rfl⟩
    rw [ha]
    simp only [nilW_some]
    refine ⟨by omega, by omega, ?_⟩
    rw [Int.toNat_natCast]
    have hEg := hE.ext0 (e1.trans0 eg)
    refine ⟨_, hrd, _, hEg.ptr, ?_⟩
    refine Csn_s hEg.cl t3 fun g2 e2 => ⟨_, rfl, ?_⟩
    have hE2 := hEg.ext0 e2
    intro J18 hJ18
    have yes : ∀ g3, Ext [] g g3 → ((txL L t3).csn = 0 ∨ ((txL L p).csn ≠ 0 ∧ (txL L p).csn ≤ (txL L t3).csn)) → J18 [.bool true] g3 := by
      intro g3 e3 hc
      refine hJ18 _ _ ?_
      rw [if_pos rfl]
      exact j8 g3 _ e3 (by unfold stepF; rw [if_pos hc])
    have no : ∀ g3, Ext [] g g3 → ¬ ((txL L t3).csn = 0 ∨ ((txL L p).csn ≠ 0 ∧ (txL L p).csn ≤ (txL L t3).csn)) → J18 [.bool false] g3 := by
      intro g3 e3 hc
      refine hJ18 _ _ ?_
      rw [if_neg (by decide)]
      intro J21 hJ21
      have j21 : ∀ bb : Bool, bb = decide (a = 0 ∨ (txL L t3).csn < a) → J21 [.bool bb] g3 := by
        rintro bb rfl
        refine hJ21 _ _ ?_
        by_cases hh : a = 0 ∨ (txL L t3).csn < a
        · rw [if_pos (by simpa using hh)]
          exact j8 g3 _ e3 (by unfold stepF; rw [if_neg hc, if_pos hh])
        · rw [if_neg (by simpa using hh)]
          exact j8 g3 _ e3 (by unfold stepF; rw [if_neg hc, if_neg hh])
      by_cases h0 : a = 0
      · rw [if_pos (by simpa using h0)]
        exact j21 _ (by simp [h0])
      · rw [if_neg (by simpa using h0)]
        exact j21 _ (by simp [h0])
    by_cases hz : (txL L t3).csn = 0
    · rw [if_pos (by simpa using hz)]
      exact yes g2 e2 (Or.inl hz)
    · rw [if_neg (by simpa using hz)]
      refine ⟨_, hE2.ptr, ?_⟩
      refine Csn_s hE2.cl p fun g3 e3 => ⟨_, rfl, ?_⟩
      have hE3 := hE2.ext0 e3
      by_cases hp0 : (txL L p).csn = 0
      · have : ((txL L p).csn != 0) = false := by simp [hp0]
        rw [this, if_neg (by decide)]
        exact no g3 (e2.trans0 e3) (by rintro (q | q); exact hz q; exact q.1 hp0)
      · have : ((txL L p).csn != 0) = true := by simp [hp0]
        rw [this, if_pos rfl]
        refine ⟨_, hE3.ptr, ?_⟩
        refine Csn_s hE3.cl p fun g4 e4 => ⟨_, rfl, ?_⟩
        by_cases hle : (txL L p).csn ≤ (txL L t3).csn
        · rw [decide_eq_true hle]
          exact yes g4 ((e2.trans0 e3).trans0 e4) (Or.inr ⟨hp0, hle⟩)
        · rw [decide_eq_false hle]
          exact no g4 ((e2.trans0 e3).trans0 e4) (by rintro (q | q); exact hz q; exact hle q.2)
theorem All_s {N : Nat} (hE : EvS G h cb e L E) (hok : EOk N E) (hN : N ≤ 2 ^ 28) (hQ : ∀ h' s, Ext [] h h' → Own T_2_int 2 encP h.size h' s (allE E) → Q [.slice s.a s.n s.c] h') : S_edge_Edges_All (some ⟨e, 0, none⟩) h Q := by
  refine O_edge_Edges_All _ ?_
  unfold F_edge_Edges_All
  refine none_s hE ⟨_, rfl, ?_⟩
  rw [if_neg (by decide)]
  simp only [nilW_some]
  obtain ⟨mb, ob, a1, a2, a3, a4, a5, a6⟩ := hE.ed
  have hl := hok.len
  refine ⟨some mb, by rw [addr_mk, rd_blk a1]; rfl, ?_⟩
  refine SortedP (r := some mb) (T := tP E.m) (show MapOr ekP evU h (some mb) (tP E.m) from a2) (by simp [tP]; omega) (by rw [tP_keys]; exact hok.nd) fun h1 s e1 ho => hQ h1 s e1 ?_
  rw [tP_keys] at ho
  exact ho
end
end Go.Lift

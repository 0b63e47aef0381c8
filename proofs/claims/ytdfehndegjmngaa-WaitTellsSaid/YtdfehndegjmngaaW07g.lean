/- WaitEnds, WaitOrder. -/
import Derived.Test.YtdfehndegjmngaaW07f
set_option linter.unusedSimpArgs false
set_option linter.unusedVariables false
namespace Go.Lift
open Go Go.Proofs
set_option maxRecDepth 100000
abbrev E3 : List Edge := [(1, 2), (2, 1), (3, 2)]
theorem circ_w : circ E3 = [[1, 2]] := by
  have r12 : Rch E3 1 2 := .one (by simp)
  have r21 : Rch E3 2 1 := .one (by simp)
  have tg : ∀ a b, Rch E3 a b → b = 1 ∨ b = 2 := by
    intro a b h
    obtain ⟨x, hx⟩ := h.tgt
    simp at hx
    omega
  have h1 : (nodesS E3).filter (isLeast E3) = [1] := by
    refine asc_ext ((nodesS_asc E3).sublist List.filter_sublist) (by simp [Asc]) fun x => ?_
    rw [List.mem_filter, isLeast_iff, List.mem_singleton]
    constructor
    · rintro ⟨_, h5, h6⟩
      rcases tg _ _ h5 with g | g
      · exact g
      · subst g
        have := h6 1 ⟨r21, r12⟩
        omega
    · rintro rfl
      refine ⟨nodesS_mem.2 (Or.inl ⟨2, by simp⟩), r12.trans r21, fun m hm => ?_⟩
      rcases tg _ _ hm.1 with g | g <;> omega
  have h2 : knotOf E3 1 = [1, 2] := by
    refine asc_ext (knot_asc E3 1) (by simp [Asc]) fun x => ?_
    rw [knot_mem]
    simp only [List.mem_cons, List.not_mem_nil, or_false]
    constructor
    · intro h; exact tg _ _ h.1
    · rintro (rfl | rfl)
      · exact ⟨r12.trans r21, r12.trans r21⟩
      · exact ⟨r12, r21⟩
  unfold circ
  rw [h1, List.map_cons, h2]
  rfl
theorem free_w : freeM E3 = [] := by
  refine asc_ext (free_asc _) (by simp [Asc]) fun x => ?_
  rw [free_mem]
  constructor
  · rintro ⟨⟨y, hy⟩, h⟩
    simp at hy
    have : x = 1 ∨ x = 2 := by omega
    rcases this with rfl | rfl
    · have := mem_tg.2 (show ((1 : Int), (2 : Int)) ∈ E3 by simp); rw [h] at this; cases this
    · have := mem_tg.2 (show ((2 : Int), (1 : Int)) ∈ E3 by simp); rw [h] at this; cases this
  · intro h; cases h
theorem free_1 : freeM [(1, 2)] = [2] := by
  refine asc_ext (free_asc _) (by simp [Asc]) fun x => ?_
  rw [free_mem, List.mem_singleton]
  constructor
  · rintro ⟨⟨y, hy⟩, h⟩
    simp at hy
    exact hy.2
  · rintro rfl
    exact ⟨⟨1, by simp⟩, by simp [tg]⟩
/-- Where there is an edge and no knot, somebody is free. -/
theorem free_some {E : List Edge} (hc : ∀ n, ¬ Rch E n n) (hE : E ≠ []) : freeM E ≠ [] := by
  intro hf
  have hout : ∀ x, (∃ y, (y, x) ∈ E) → ∃ z, (x, z) ∈ E := by
    intro x hx
    by_cases h0 : tg E x = []
    · have := free_mem.2 ⟨hx, h0⟩
      rw [hf] at this
      cases this
    · obtain ⟨z, hz⟩ := List.exists_mem_of_ne_nil _ h0
      exact ⟨z, mem_tg.1 hz⟩
  obtain ⟨e0, he0⟩ := List.exists_mem_of_ne_nil _ hE
  let T := { x : Int // ∃ y, (y, x) ∈ E }
  have nxt : ∀ x : T, ∃ z : T, (x.1, z.1) ∈ E := fun x => by
    obtain ⟨z, hz⟩ := hout x.1 x.2
    exact ⟨⟨z, ⟨x.1, hz⟩⟩, hz⟩
  let f : Nat → T := fun n => Nat.rec ⟨e0.2, ⟨e0.1, he0⟩⟩ (fun _ x => (nxt x).choose) n
  have hf1 : ∀ n, ((f n).1, (f (n + 1)).1) ∈ E := fun n => (nxt (f n)).choose_spec
  have path : ∀ d i, Rch E (f i).1 (f (i + d + 1)).1 := by
    intro d
    induction d with
    | zero => intro i; exact .one (hf1 i)
    | succ d ih => intro i; exact .step (ih i) (hf1 (i + d + 1))
  have hnd : ((List.range (E.length + 1)).map fun n => (f n).1).Nodup := by
    unfold List.Nodup
    rw [List.pairwise_map, List.pairwise_iff_getElem]
    intro i j hi hj hij e
    simp only [List.getElem_range] at e
    have := path (j - i - 1) i
    rw [show i + (j - i - 1) + 1 = j by omega, ← e] at this
    exact hc _ this
  have := nodup_sub_len (M := E.map Prod.snd) hnd fun x hx => by
    obtain ⟨n, _, rfl⟩ := List.mem_map.1 hx
    obtain ⟨y, hy⟩ := (f n).2
    exact List.mem_map.2 ⟨_, hy, rfl⟩
  simp at this
  omega
theorem vic_none {E : List Edge} : (vicM (circ E)).2 = false ↔ circ E = [] := by
  have := (vic_mem (circ E) (0, false) fun k hk => circ_ne hk).1
  unfold vicM
  rw [this]
  cases circ E <;> simp
theorem vic_src {E : List Edge} (h : (vicM (circ E)).2 = true) : ∃ y, ((vicM (circ E)).1, y) ∈ E := by
  rcases (vic_mem (circ E) (0, false) fun k hk => circ_ne hk).2 with g | ⟨k, hk, g⟩
  · unfold vicM at h
    rw [g] at h
    cases h
  · exact ((circ_each hk).2.2 _ g).1
section
variable {h : Hp} {Q : List Value → Hp → Prop}
theorem wf_small {n : Int} (h : 0 ≤ n ∧ n ≤ 100) : (Lit.int .i64 n).wf = true := by
  simp only [Lit.wf, Bool.and_eq_true, decide_eq_true_eq]
  have e1 : IntKind.min .i64 = -9223372036854775808 := by decide
  have e2 : IntKind.max .i64 = 9223372036854775807 := by decide
  rw [e1, e2]
  omega
theorem wakes07_s (hQ : ∀ h', Ext [] h h' → Q [.bool true] h') : S_liverylaw07_wakes h Q := by
  refine O_liverylaw07_wakes ?_
  unfold F_liverylaw07_wakes
  refine newI fun h1 s1 b1 e1 => ?_
  have hr : ∀ g, Ext [] h1 g → Reads 2 encE2 g ⟨some ⟨h.size, 0, none⟩, 3, 3⟩ E3 := fun g e => by
    refine ⟨rfl, fun e => (by cases e), ?_⟩
    have := cellsAt_blk (e.get b1 (by simp)) (o := 0) (n := 3 * 2) (by simp)
    simpa using this
  have hw3 : ∀ e ∈ E3, (Lit.int .i64 e.1).wf = true ∧ (Lit.int .i64 e.2).wf = true := by
    intro e he
    simp at he
    rcases he with rfl | rfl | rfl <;> exact ⟨wf_small (by decide), wf_small (by decide)⟩
  refine Circles_s (hr h1 (Ext.refl _ _)) (by decide) hw3 fun h2 o ks hk e2 => ⟨o, rfl, ?_⟩
  refine Victim_s (hr h2 e2) (by decide) hw3 fun h3 e3 => ⟨_, _, rfl, ?_⟩
  have hk3 := hk.ext0 e3
  rw [circ_w] at hk3 ⊢
  have hl := hk3.len
  have hon := hk3.own.1
  simp only [List.length_cons, List.length_nil] at hl
  rw [if_pos (by simp; omega)]
  obtain ⟨a, w1, w2⟩ := rdSl hk3.own (i := 0) (by omega)
  rw [w1]
  simp only [nilW_some]
  refine ⟨by omega, by omega, ks[0]'(by omega), w2, ?_⟩
  refine newI fun h4 s4 b4 e4 => ?_
  have hk0 := hk3.each 0 (by omega) (by simp)
  simp only [List.getElem_cons_zero] at hk0
  refine Ints_s (ys := [1, 2]) (hk0.ext0 e4).sl.reads ⟨rfl, fun e => (by cases e), by
    have := cellsAt_blk b4 (o := 0) (n := 2 * 1) (by simp)
    simpa using this⟩ (by decide) ⟨_, rfl, ?_⟩
  rw [if_pos (by decide), show vicM [[1, 2]] = (2, true) from by decide, if_pos rfl, if_pos (by decide)]
  have e14 := (e2.trans0 e3).trans0 e4
  refine Free_s (hr h4 e14) (by decide) hw3 fun h5 o5 ho5 e5 => ⟨o5, rfl, ?_⟩
  rw [free_w] at ho5
  have hn5 := ho5.1
  rw [if_pos (by simp at hn5 ⊢; omega)]
  refine newI fun h6 s6 b6 e6 => ?_
  have hr1 : Reads 2 encE2 h6 ⟨some ⟨h5.size, 0, none⟩, 1, 1⟩ [((1 : Int), (2 : Int))] := by
    refine ⟨rfl, fun e => (by cases e), ?_⟩
    have := cellsAt_blk b6 (o := 0) (n := 1 * 2) (by simp)
    simpa using this
  refine Free_s hr1 (by decide) (by
    intro e he
    simp at he
    subst he
    exact ⟨wf_small (by decide), wf_small (by decide)⟩) fun h7 o7 ho7 e7 => ⟨o7, rfl, ?_⟩
  rw [free_1] at ho7
  refine newI fun h8 s8 b8 e8 => ?_
  refine Ints_s (ys := [2]) (ho7.ext0 e8).sl.reads ⟨rfl, fun e => (by cases e), by
    have := cellsAt_blk b8 (o := 0) (n := 1 * 1) (by simp)
    simpa using this⟩ (by decide) ⟨_, rfl, ?_⟩
  exact hQ h8 (((((e1.trans0 e14).trans0 e5).trans0 e6).trans0 e7).trans0 e8)
theorem WaitEnds_s {s : Sl} {E : List Edge} (hs : Reads 2 encE2 h s E) (hw : ∀ e ∈ E, (Lit.int .i64 e.1).wf = true ∧ (Lit.int .i64 e.2).wf = true) (hQ : ∀ h', Ext [] h h' → Q [.bool true] h') : F_liverylaw07_WaitEnds s h Q := by
  unfold F_liverylaw07_WaitEnds
  have hn := hs.1
  by_cases h30 : E.length > 30
  · rw [if_pos (by simp; omega)]
    exact wakes07_s fun h' e => ⟨_, rfl, hQ h' e⟩
  rw [if_neg (by simp; omega)]
  refine few_s hs (by omega) fun h1 o1 ho1 e1 hn1 => ⟨o1, rfl, ?_⟩
  intro X hX
  have hbnd : IntKind.wrap .i64 ((2 : Int) * (s.n : Int)) = 2 * (s.n : Int) := wrap64 (by omega) (by omega)
  have key : ∀ N i g l F, F.length = N → N + i ≤ E.length → Ext [] h g → Own T_2_int 2 encE2 h.size g l F → (∀ e ∈ F, e ∈ E) → X [.slice l.a l.n l.c, .int .i64 (i : Int)] g := by
    intro N
    induction N using Nat.strongRecOn with
    | ind N ih =>
      intro i g l F hF hi e hl hsub
      have hwF : ∀ e ∈ F, (Lit.int .i64 e.1).wf = true ∧ (Lit.int .i64 e.2).wf = true := fun e he => hw e (hsub e he)
      have hln := hl.1
      refine hX l _ _ ?_
      rw [hbnd, if_pos (by simp; omega)]
      refine few_s hl.sl.reads (by omega) fun g1 o1 ho1 f1 hn1 => ⟨o1, rfl, ?_⟩
      refine Victim_s ho1.sl.reads (by omega) hwF fun g2 f2 => ⟨_, _, rfl, ?_⟩
      have hl2 := (hl.ext0 f1).ext0 f2
      cases hv : (vicM (circ F)).2 with
      | false =>
        rw [if_pos (by decide)]
        have hc := vic_none.1 hv
        intro J hJ
        refine few_s hl2.sl.reads (by omega) fun g3 o3 ho3 f3 hn3 => ⟨o3, rfl, ?_⟩
        refine Free_s ho3.sl.reads (by omega) hwF fun g4 o4 ho4 f4 => ⟨o4, rfl, ?_⟩
        have hn4 := ho4.1
        have hiff : (((l.n : Int) == 0) == ((o4.n : Int) == 0)) = true := by
          cases hFd : F with
          | nil =>
            subst hFd
            have : freeM [] = [] := by
              refine asc_ext (free_asc _) (by simp [Asc]) fun x => ?_
              rw [free_mem]
              constructor
              · rintro ⟨⟨y, hy⟩, _⟩; cases hy
              · intro h; cases h
            rw [this] at hn4
            simp at hln hn4
            rw [hln, hn4]
            rfl
          | cons e0 F0 =>
            have hne : F ≠ [] := by rw [hFd]; simp
            have := free_some (circ_nil.1 hc) hne
            have := List.length_pos_iff.2 this
            have := List.length_pos_iff.2 hne
            rw [show ((l.n : Int) == 0) = false by simp; omega, show ((o4.n : Int) == 0) = false by simp; omega]
            rfl
        rw [if_pos hiff]
        have hl4 := (hl2.ext0 f3).ext0 f4
        refine few_s hl4.sl.reads (by omega) fun g5 o5 ho5 f5 hn5 => ⟨o5, rfl, ?_⟩
        refine Circles_s ho5.sl.reads (by omega) hwF fun g6 o6 ks hk f6 => ⟨o6, rfl, ?_⟩
        rw [hc] at hk
        have hkl := hk.len
        have hkn := hk.own.1
        rw [if_pos (by simp at hkl; subst hkl; simp at hkn; simp; omega)]
        refine wakes07_s fun g7 f7 => ⟨_, rfl, ?_⟩
        exact hJ _ _ (hQ g7 (((((((e.trans0 f1).trans0 f2).trans0 f3).trans0 f4).trans0 f5).trans0 f6).trans0 f7))
      | true =>
        rw [if_neg (by decide)]
        obtain ⟨y, hy⟩ := vic_src hv
        generalize hvd : (vicM (circ F)).1 = v at *
        have e2 := (e.trans0 f1).trans0 f2
        have hlt : (F.filter fun e => e.1 != v).length < F.length := by
          have h1 := List.length_filter_le (fun e : Edge => e.1 != v) F
          rcases Nat.lt_or_ge (F.filter fun e => e.1 != v).length F.length with g | g
          · exact g
          · exfalso
            have := List.length_filter_eq_length_iff.1 (by omega : (F.filter fun e => e.1 != v).length = F.length)
            have := this _ hy
            simp at this
        intro Y hY
        have key2 : ∀ d j g3 st, d + j = F.length → Ext [] g2 g3 → Own T_2_int 2 encE2 g2.size g3 st ((F.take j).filter fun e => e.1 != v) → Y [.slice st.a st.n st.c, .int .i64 (j : Int)] g3 := by
          intro d
          induction d with
          | zero =>
            intro j g3 st hj f3 hst
            refine hY st _ _ ?_
            rw [if_neg (by simp; omega)]
            rw [List.take_of_length_le (by omega)] at hst
            have hstn := hst.1
            rw [if_neg (by simp; omega), wrap64 (by omega) (by omega)]
            have := ih (F.filter fun e => e.1 != v).length (by omega) (i + 1) g3 st _ rfl (by omega) (e2.trans0 f3) (hst.mono (by have := e2.sz; omega)) (fun e he => hsub e (List.mem_filter.1 he).1)
            simpa using this
          | succ d ih2 =>
            intro j g3 st hj f3 hst
            refine hY st _ _ ?_
            rw [if_pos (by simp; omega)]
            have hjl : j < F.length := by omega
            have htk : F.take (j + 1) = F.take j ++ [F[j]] := by rw [List.take_add_one, List.getElem?_eq_getElem hjl]; rfl
            have hl3 := hl2.ext0 f3
            obtain ⟨a, w1, w2, w3⟩ := rdE hl3.sl.reads (i := j) hjl
            intro J hJ
            rw [w1]
            simp only [nilW_some, Int.toNat_natCast]
            refine ⟨by omega, by omega, by omega, by omega, F[j].1, by simpa using w2, ?_⟩
            by_cases hne : F[j].1 = v
            · rw [if_neg (by simp [hne])]
              refine hJ st _ ?_
              rw [wrap64 (by omega) (by omega)]
              have := ih2 (j + 1) g3 st (by omega) f3 (by rw [htk, List.filter_append]; simpa [hne] using hst)
              rw [w1] at *
              simpa using this
            · rw [if_pos (by simp [hne])]
              refine ⟨by omega, by omega, _, w2, _, w3, ?_⟩
              have hfl := List.length_filter_le (fun e : Edge => e.1 != v) (F.take j)
              have htl : (F.take j).length ≤ 30 := by rw [List.length_take]; omega
              refine app1 (x := F[j]) hst rfl zcE2 encE2_len encE2_one (by omega) (by decide) f3.sz fun st' g4 hst' f4 hb4 => ?_
              refine hJ st' _ ?_
              rw [wrap64 (by omega) (by omega)]
              have := ih2 (j + 1) g4 st' (by omega) (f3.trans f4 fun b hb hlt => by have := hst.blk b hb; omega) (by rw [htk, List.filter_append]; simpa [hne] using hst')
              rw [w1] at *
              simpa using this
        have := key2 F.length 0 g2 ⟨none, 0, 0⟩ (by omega) (Ext.refl _ _) (by simpa using Own.nil _ _)
        simpa using this
  have := key E.length 0 h1 o1 E rfl (by omega) e1 ho1 (fun e he => he)
  simpa using this
theorem setS {α : Type} {T : TypeId} {sz : Nat} {enc : α → List Value} {lo : Nat} {h : Hp} {s : Sl} {xs : List α} {a : Addr} (ho : Own T sz enc lo h s xs) (ha : s.a = some a) (he : ∀ x, (enc x).length = sz) {i : Nat} (hi : i < xs.length) {x : α} {K : Hp → Prop}
    (H : ∀ h1, Own T sz enc lo h1 s (xs.set i x) → Ext (sBlk s) h h1 → K h1) : stOk h (Addr.add a (i * sz)) sz ∧ wth (wrs h (Addr.add a (i * sz)) 0 (enc x)) K := by
  obtain ⟨a', e, hh⟩ := ho.set he hi H
  rw [ha] at e
  cases e
  exact hh
theorem swap_mem {α : Type} {l : List α} {x y : Nat} (hx : x < l.length) (hy : y < l.length) {e : α} : e ∈ (l.set x l[y]).set y l[x] ↔ e ∈ l := by
  constructor
  · intro h
    rcases List.mem_or_eq_of_mem_set h with g | g
    · rcases List.mem_or_eq_of_mem_set g with g | g
      · exact g
      · rw [g]; exact List.getElem_mem _
    · rw [g]; exact List.getElem_mem _
  · intro h
    obtain ⟨j, hj, rfl⟩ := List.getElem_of_mem h
    by_cases h1 : j = x
    · subst h1
      exact List.mem_iff_getElem.2 ⟨y, by simpa using hy, by simp⟩
    · by_cases h2 : j = y
      · subst h2
        refine List.mem_iff_getElem.2 ⟨x, by simpa using hx, ?_⟩
        rw [List.getElem_set]
        split
        · rename_i g; subst g; rfl
        · rw [List.getElem_set, if_pos rfl]
      · refine List.mem_iff_getElem.2 ⟨j, by simpa using hj, ?_⟩
        rw [List.getElem_set, if_neg (fun g => h2 g.symm), List.getElem_set, if_neg (fun g => h1 g.symm)]
theorem WaitOrder_s {s t : Sl} {E : List Edge} {T : List Int} (hs : Reads 2 encE2 h s E) (ht : Reads 1 encIL h t T) (hw : ∀ e ∈ E, (Lit.int .i64 e.1).wf = true ∧ (Lit.int .i64 e.2).wf = true) (hQ : ∀ h', Ext [] h h' → Q [.bool true] h') : F_liverylaw07_WaitOrder s t h Q := by
  unfold F_liverylaw07_WaitOrder
  have hn := hs.1
  have htn := ht.1
  intro J1 hJ1
  have skip : J1 [.bool true] h := by
    refine hJ1 _ _ ?_
    rw [if_pos rfl]
    exact wakes07_s fun h' e => ⟨_, rfl, hQ h' e⟩
  by_cases h30 : E.length > 30
  · rw [if_pos (by simp; omega)]
    exact skip
  rw [if_neg (by simp; omega)]
  by_cases h100 : T.length > 100
  · rw [show (decide ((t.n : Int) > 100)) = true by simp; omega]
    exact skip
  rw [show (decide ((t.n : Int) > 100)) = false by simp; omega]
  refine hJ1 _ _ ?_
  rw [if_neg (by decide)]
  refine few_s hs (by omega) fun h1 o1 ho1 e1 hn1 => ⟨o1, rfl, ?_⟩
  intro X hX
  have fin : ∀ g l F, Ext [] h g → Own T_2_int 2 encE2 h.size g l F → (∀ e, e ∈ F ↔ e ∈ E) → F.length ≤ 1000 →
      S_liverylaw07_few ⟨s.a, s.n, s.c⟩ g fun (vs42 : List Value) (h43 : Hp) =>
        ∃ l44 : Sl, vs42 = [(Value.slice l44.a l44.n l44.c)] ∧
        S_wait_Circles ⟨l44.a, l44.n, l44.c⟩ h43 fun (vs45 : List Value) (h46 : Hp) =>
        ∃ l47 : Sl, vs45 = [(Value.slice l47.a l47.n l47.c)] ∧
        S_wait_Circles ⟨l.a, l.n, l.c⟩ h46 fun (vs48 : List Value) (h49 : Hp) =>
        ∃ l50 : Sl, vs48 = [(Value.slice l50.a l50.n l50.c)] ∧
        (if ((l47.n : Int) != (l50.n : Int)) = true then
          (Q [(Value.bool false)] h49) else
          (∀ X51 : List Value → Hp → Prop, (∀ n52 : Int, ∀ h53 : Hp, ((if (decide (n52 < (l47.n : Int))) = true then
                  (∀ J54 : List Value → Hp → Prop, (∀ b55 : Bool, ∀ h56 : Hp, ((if b55 = true then
                          (Q [(Value.bool false)] h56) else
                          (X51 [(Value.int .i64 (IntKind.wrap .i64 (n52 + (1 : Int))))] h56))) → J54 [(Value.bool b55)] h56) →
                    nilW l47.a fun a57 => ixOk n52 l47.n (∃ l58 : Sl, rd h53 (Addr.add a57 (Int.toNat n52 * 1)) = some (Value.slice l58.a l58.n l58.c) ∧
                      nilW l50.a fun a59 => ixOk n52 l50.n (∃ l60 : Sl, rd h53 (Addr.add a59 (Int.toNat n52 * 1)) = some (Value.slice l60.a l60.n l60.c) ∧
                        S_liverykeep_Ints ⟨l58.a, l58.n, l58.c⟩ ⟨l60.a, l60.n, l60.c⟩ h53 fun (vs61 : List Value) (h62 : Hp) =>
                        ∃ b63 : Bool, vs61 = [(Value.bool b63)] ∧
                        (if (!b63) = true then (J54 [(Value.bool true)] h62) else
                          (nilW l47.a fun a64 => ixOk n52 l47.n (∃ l65 : Sl, rd h62 (Addr.add a64 (Int.toNat n52 * 1)) = some (Value.slice l65.a l65.n l65.c) ∧
                              J54 [(Value.bool ((l65.n : Int) == (0 : Int)))] h62)))))) else
                  (S_liverylaw07_wakes  h53 fun (vs66 : List Value) (h67 : Hp) =>
                    ∃ b68 : Bool, vs66 = [(Value.bool b68)] ∧
                    Q [(Value.bool b68)] h67))) → X51 [(Value.int .i64 n52)] h53) →
            X51 [(Value.int .i64 (0 : Int))] h49)) := by
    intro g l F e hl hmem hFl
    have hwF : ∀ e ∈ F, (Lit.int .i64 e.1).wf = true ∧ (Lit.int .i64 e.2).wf = true := fun e he => hw e ((hmem e).1 he)
    refine few_s (hs.ext0 e) (by omega) fun g1 o1 ho1 f1 hn1 => ⟨o1, rfl, ?_⟩
    refine Circles_s ho1.sl.reads (by omega) hw fun g2 oa ka hka f2 => ⟨oa, rfl, ?_⟩
    refine Circles_s ((hl.ext0 f1).ext0 f2).sl.reads (by omega) hwF fun g3 ob kb hkb f3 => ⟨ob, rfl, ?_⟩
    rw [circ_congr hmem] at hkb
    have hka3 := hka.ext0 f3
    have hal := hka3.len
    have hbl := hkb.len
    have han := hka3.own.1
    have hbn := hkb.own.1
    rw [if_neg (by simp; omega)]
    have hcl := circ_len E
    have hnl := nodesS_len E
    intro Y hY
    have key : ∀ d i, d + i = (circ E).length → Y [.int .i64 (i : Int)] g3 := by
      intro d
      induction d with
      | zero =>
        intro i hi
        refine hY _ _ ?_
        rw [if_neg (by simp; omega)]
        exact wakes07_s fun h' e' => ⟨_, rfl, hQ h' ((((e.trans0 f1).trans0 f2).trans0 f3).trans0 e')⟩
      | succ d ih =>
        intro i hi
        refine hY _ _ ?_
        rw [if_pos (by simp; omega)]
        have hil : i < (circ E).length := by omega
        intro J hJ
        obtain ⟨a, w1, w2⟩ := rdSl hka3.own (i := i) (by omega)
        obtain ⟨b, u1, u2⟩ := rdSl hkb.own (i := i) (by omega)
        rw [w1, u1]
        simp only [nilW_some, Int.toNat_natCast]
        refine ⟨by omega, by omega, ka[i]'(by omega), w2, by omega, by omega, kb[i]'(by omega), u2, ?_⟩
        have hkl := (circ_each (List.getElem_mem hil)).1
        have hkne := List.length_pos_iff.2 (circ_ne (List.getElem_mem hil))
        refine Ints_s (hka3.each i (by omega) hil).sl.reads (hkb.each i (by omega) hil).sl.reads (by omega) ⟨_, rfl, ?_⟩
        rw [beq_self_eq_true, if_neg (by decide)]
        refine ⟨by omega, by omega, ka[i]'(by omega), w2, ?_⟩
        have hin := (hka3.each i (by omega) hil).1
        rw [show (((ka[i]'(by omega)).n : Int) == 0) = false by simp; omega]
        refine hJ _ _ ?_
        rw [if_neg (by decide), wrap64 (by omega) (by omega)]
        have := ih (i + 1) (by omega)
        simpa using this
    have := key (circ E).length 0 (by omega)
    simpa using this
  have key : ∀ d i g l F, d + i = T.length → Ext [] h g → Own T_2_int 2 encE2 h.size g l F → (∀ e, e ∈ F ↔ e ∈ E) → F.length ≤ E.length + i → X [.slice l.a l.n l.c, .int .i64 (i : Int)] g := by
    intro d
    induction d with
    | zero =>
      intro i g l F hi e hl hmem hFl
      refine hX l _ _ ?_
      intro J hJ
      rw [if_neg (by simp; omega)]
      refine hJ _ _ ?_
      rw [if_neg (by decide)]
      exact fin g l F e hl hmem (by omega)
    | succ d ih =>
      intro i g l F hi e hl hmem hFl
      refine hX l _ _ ?_
      have hln := hl.1
      intro J hJ
      rw [if_pos (by simp; omega)]
      by_cases h0 : F.length = 0
      · rw [show (decide ((l.n : Int) > 0)) = false by simp; omega]
        refine hJ _ _ ?_
        rw [if_neg (by decide)]
        exact fin g l F e hl hmem (by omega)
      · rw [show (decide ((l.n : Int) > 0)) = true by simp; omega]
        refine hJ _ _ ?_
        rw [if_pos rfl]
        intro J17 hJ17
        refine ⟨by omega, ?_⟩
        have hiT : i < T.length := by omega
        obtain ⟨at', w1, w2⟩ := rdI (ht.ext0 e) (i := i) hiT
        rw [w1]
        simp only [nilW_some, Int.toNat_natCast]
        refine ⟨by omega, by omega, _, w2, ?_⟩
        refine Mod_s (by omega) (by omega) fun y hy0 hy1 => ⟨_, rfl, ?_⟩
        obtain ⟨yn, rfl⟩ : ∃ yn : Nat, y = yn := ⟨y.toNat, by omega⟩
        have hyF : yn < F.length := by omega
        have hxm : Int.tmod (i : Int) (l.n : Int) = ((i % F.length : Nat) : Int) := by
          rw [hln, Int.tmod_eq_emod_of_nonneg (by omega)]
          exact (Int.natCast_emod i F.length).symm
        rw [hxm]
        have hxF : i % F.length < F.length := Nat.mod_lt _ (by omega)
        generalize i % F.length = xn at *
        obtain ⟨a, u1, u2, u3⟩ := rdE hl.sl.reads (i := yn) hyF
        obtain ⟨a', v1, v2, v3⟩ := rdE hl.sl.reads (i := xn) hxF
        obtain rfl : a' = a := by rw [u1] at v1; exact (Option.some.inj v1).symm
        rw [u1]
        simp only [nilW_some, Int.toNat_natCast]
        refine ⟨by omega, by omega, _, u2, _, u3, by omega, by omega, _, v2, _, v3, by omega, by omega, ?_⟩
        refine setS (x := F[yn]) hl u1 encE2_len hxF fun g1 ho1 f1 => ?_
        refine ⟨by omega, by omega, ?_⟩
        refine setS (x := F[xn]) ho1 u1 encE2_len (i := yn) (by simpa using hyF) fun g2 ho2 f2 => ?_
        have hlb : ∀ b ∈ sBlk l, h.size ≤ b := hl.blk
        have e2 : Ext [] h g2 := (e.trans f1 (fun b hb hlt => by have := hlb b hb; omega)).trans f2 (fun b hb hlt => by have := hlb b hb; omega)
        have hmem2 : ∀ e, e ∈ (F.set xn F[yn]).set yn F[xn] ↔ e ∈ E := fun e => by rw [swap_mem hxF hyF, hmem]
        have hl2 : ((F.set xn F[yn]).set yn F[xn]).length = F.length := by simp
        generalize hF2 : (F.set xn F[yn]).set yn F[xn] = F2 at *
        have ho2' : Own T_2_int 2 encE2 h.size g2 l F2 := ho2
        have hF2l : F2.length < 2 ^ 36 := by omega
        refine ⟨by decide, ?_⟩
        by_cases h3 : (Int.tmod (i : Int) 3 == 0) = true
        · rw [if_pos h3]
          have hxF2 : xn < F2.length := by omega
          obtain ⟨a2, x1, x2, x3⟩ := rdE ho2.sl.reads (i := xn) hxF2
          obtain rfl : a2 = a' := by rw [u1] at x1; exact (Option.some.inj x1).symm
          refine ⟨by omega, by omega, _, x2, _, x3, ?_⟩
          rw [← u1]
          refine app1 (x := F2[xn]) ho2' rfl zcE2 encE2_len encE2_one hF2l (by decide) e2.sz fun l3 g3 ho3 f3 hb3 => ?_
          refine hJ17 l3 _ ?_
          rw [wrap64 (by omega) (by omega)]
          have := ih (i + 1) g3 l3 (F2 ++ [F2[xn]]) (by omega) (e2.trans f3 (fun b hb hlt => by have := hlb b hb; omega)) ho3 (fun e => by
            rw [List.mem_append, List.mem_singleton]
            constructor
            · rintro (g5 | g5)
              · exact (hmem2 e).1 g5
              · rw [g5]; exact (hmem2 _).1 (List.getElem_mem _)
            · exact fun g5 => Or.inl ((hmem2 e).2 g5)) (by simp; omega)
          simpa using this
        · rw [if_neg h3, ← u1]
          refine hJ17 l _ ?_
          rw [wrap64 (by omega) (by omega)]
          have := ih (i + 1) g2 l F2 (by omega) e2 ho2' hmem2 (by omega)
          simpa using this
  have := key T.length 0 h1 o1 E (by omega) e1 ho1 (fun e => Iff.rfl) (by omega)
  simpa using this
end
end Go.Lift

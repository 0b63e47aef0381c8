/- Who waits for whom: the victim, the free; the law's helpers. -/
import Derived.Test.YtdfehndegjmngaaW07e
set_option linter.unusedSimpArgs false
set_option linter.unusedVariables false
namespace Go.Lift
open Go Go.Proofs
set_option maxRecDepth 100000
def vicStep (r : Int × Bool) (k : List Int) : Int × Bool := if (!r.2 || decide (k.getLastD 0 > r.1)) = true then (k.getLastD 0, true) else r
def vicM (K : List (List Int)) : Int × Bool := K.foldl vicStep (0, false)
theorem circ_ne {E : List Edge} {k : List Int} (hk : k ∈ circ E) : k ≠ [] := by
  unfold circ at hk
  obtain ⟨n, hn, rfl⟩ := List.mem_map.1 hk
  rw [List.mem_filter] at hn
  have := (isLeast_iff.1 hn.2).1
  exact List.ne_nil_of_mem (knot_mem.2 ⟨this, this⟩)
theorem circ_len (E : List Edge) : (circ E).length ≤ (nodesS E).length := by
  unfold circ
  rw [List.length_map]
  exact List.length_filter_le _ _
theorem nodesS_len (E : List Edge) : (nodesS E).length ≤ 2 * E.length := by
  have := nodup_sub_len (L := nodesS E) (M := E.map Prod.fst ++ E.map Prod.snd) (asc_nodup (nodesS_asc E)) fun x hx => by
    rw [List.mem_append, List.mem_map, List.mem_map]
    rcases nodesS_mem.1 hx with ⟨y, hy⟩ | ⟨y, hy⟩
    · exact Or.inl ⟨_, hy, rfl⟩
    · exact Or.inr ⟨_, hy, rfl⟩
  simp at this
  omega
theorem knot_len (E : List Edge) (n : Int) : (knotOf E n).length ≤ 2 * E.length := by
  have h1 : (knotOf E n).length ≤ (nodesS E).length := by unfold knotOf; exact List.length_filter_le _ _
  have := nodesS_len E
  omega
theorem circ_each {E : List Edge} {k : List Int} (hk : k ∈ circ E) : k.length ≤ 2 * E.length ∧ Asc k ∧ ∀ x ∈ k, (∃ y, (x, y) ∈ E) ∧ ∃ y, (y, x) ∈ E := by
  unfold circ at hk
  obtain ⟨n, hn, rfl⟩ := List.mem_map.1 hk
  exact ⟨knot_len E n, knot_asc E n, fun x hx => ⟨(knot_mem.1 hx).2.src, (knot_mem.1 hx).1.tgt⟩⟩
theorem vic_mem : ∀ (K : List (List Int)) (r : Int × Bool), (∀ k ∈ K, k ≠ []) → ((K.foldl vicStep r).2 = (r.2 || !K.isEmpty)) ∧ ((K.foldl vicStep r) = r ∨ ∃ k ∈ K, (K.foldl vicStep r).1 ∈ k)
  | [], r, _ => ⟨by simp, Or.inl rfl⟩
  | k :: K, r, h => by
    obtain ⟨h1, h2⟩ := vic_mem K (vicStep r k) fun k' hk' => h k' (List.mem_cons_of_mem _ hk')
    rw [List.foldl_cons]
    have hk := h k (by simp)
    have hl : k.getLastD 0 ∈ k := by
      cases k with
      | nil => exact absurd rfl hk
      | cons a k => rw [List.getLastD_cons]; exact List.getLastD_mem_cons
    have hs : (vicStep r k).2 = true := by
      unfold vicStep
      split
      · rfl
      · rename_i hn
        cases hr : r.2 with
        | true => rfl
        | false => rw [hr] at hn; simp at hn
    refine ⟨by rw [h1, hs]; simp, ?_⟩
    rcases h2 with g | ⟨k', hk', g⟩
    · rw [g]
      unfold vicStep
      split
      · exact Or.inr ⟨k, by simp, hl⟩
      · exact Or.inl rfl
    · exact Or.inr ⟨k', List.mem_cons_of_mem _ hk', g⟩
def freeM (E : List Edge) : List Int := (nodesS E).filter fun n => (tg E n).isEmpty
theorem free_mem {E : List Edge} {x : Int} : x ∈ freeM E ↔ (∃ y, (y, x) ∈ E) ∧ tg E x = [] := by
  unfold freeM
  rw [List.mem_filter, nodesS_mem, List.isEmpty_iff]
  constructor
  · rintro ⟨h1 | h1, h2⟩
    · obtain ⟨y, hy⟩ := h1
      have := mem_tg.2 hy
      rw [h2] at this
      cases this
    · exact ⟨h1, h2⟩
  · rintro ⟨h1, h2⟩
    exact ⟨Or.inr h1, h2⟩
theorem free_asc (E : List Edge) : Asc (freeM E) := (nodesS_asc E).sublist List.filter_sublist
section
variable {h : Hp} {Q : List Value → Hp → Prop}
theorem rdSl {h : Hp} {lo : Nat} {s : Sl} {ks : List Sl} (hs : Own T_sint 1 encSl lo h s ks) {i : Nat} (hi : i < ks.length) : ∃ a, s.a = some a ∧ rd h (Addr.add a (i * 1)) = some (.slice ks[i].a ks[i].n ks[i].c) := by
  obtain ⟨a, h1, h2⟩ := hs.sl.reads.rd encSl_len hi
  exact ⟨a, h1, by simpa using h2 0 (by omega)⟩
theorem Victim_s {s : Sl} {E : List Edge} (hs : Reads 2 encE2 h s E) (hl : E.length ≤ 2 ^ 12) (hw : ∀ e ∈ E, (Lit.int .i64 e.1).wf = true ∧ (Lit.int .i64 e.2).wf = true)
    (hQ : ∀ h', Ext [] h h' → Q [.int .i64 (vicM (circ E)).1, .bool (vicM (circ E)).2] h') : S_wait_Victim s h Q := by
  refine O_wait_Victim _ ?_
  unfold F_wait_Victim
  refine Circles_s hs hl hw fun h1 o ks hk e1 => ⟨o, rfl, ?_⟩
  have hkl := hk.len
  have hon := hk.own.1
  have hcl := circ_len E
  have hnl := nodesS_len E
  intro X hX
  have key : ∀ d i, d + i = (circ E).length → X [.int .i64 (vicM ((circ E).take i)).1, .bool (vicM ((circ E).take i)).2, .int .i64 (i : Int)] h1 := by
    intro d
    induction d with
    | zero =>
      intro i hi
      refine hX _ _ _ _ ?_
      rw [if_neg (by simp; omega), List.take_of_length_le (by omega)]
      exact hQ h1 e1
    | succ d ih =>
      intro i hi
      refine hX _ _ _ _ ?_
      rw [if_pos (by simp; omega)]
      have hil : i < (circ E).length := by omega
      intro J hJ
      obtain ⟨a, w1, w2⟩ := rdSl hk.own (i := i) (by omega)
      rw [w1]
      simp only [nilW_some, Int.toNat_natCast]
      refine ⟨by omega, by omega, ks[i]'(by omega), w2, ?_⟩
      have hko := hk.each i (by omega) hil
      have hne := circ_ne (List.getElem_mem hil)
      have hlen := (circ_each (List.getElem_mem hil)).1
      have hkn := hko.1
      have hpos : 0 < ((circ E)[i]).length := List.length_pos_iff.2 hne
      obtain ⟨ak, u1, u2⟩ := rdI hko.sl.reads (i := ((circ E)[i]).length - 1) (by omega)
      rw [u1, wrap64 (x := (((ks[i]'(by omega)).n : Int) - 1)) (by omega) (by omega), show (((ks[i]'(by omega)).n : Int) - 1) = ((((circ E)[i]).length - 1 : Nat) : Int) by omega]
      simp only [nilW_some, Int.toNat_natCast]
      refine ⟨by omega, by omega, _, u2, ?_⟩
      have hlast : ((circ E)[i])[((circ E)[i]).length - 1] = ((circ E)[i]).getLastD 0 := by
        rw [List.getLastD_eq_getLast?, List.getLast?_eq_some_getLast hne, List.getLast_eq_getElem]; rfl
      rw [hlast]
      have htk : (circ E).take (i + 1) = (circ E).take i ++ [(circ E)[i]] := by rw [List.take_add_one, List.getElem?_eq_getElem hil]; rfl
      have hstep : vicM ((circ E).take (i + 1)) = vicStep (vicM ((circ E).take i)) (circ E)[i] := by rw [htk]; unfold vicM; rw [List.foldl_append]; rfl
      have ihx := ih (i + 1) (by omega)
      rw [hstep] at ihx
      intro J2 hJ2
      have go : ∀ b, b = (!(vicM ((circ E).take i)).2 || decide (((circ E)[i]).getLastD 0 > (vicM ((circ E).take i)).1)) → J2 [.bool b] h1 := by
        intro b hb
        refine hJ2 _ _ ?_
        unfold vicStep at ihx
        rw [← hb] at ihx
        cases b with
        | true =>
          rw [if_pos rfl] at ihx ⊢
          refine hJ _ _ _ ?_
          rw [wrap64 (by omega) (by omega)]
          simpa using ihx
        | false =>
          rw [if_neg (by decide)] at ihx ⊢
          refine hJ _ _ _ ?_
          rw [wrap64 (by omega) (by omega)]
          simpa using ihx
      cases hb : (vicM ((circ E).take i)).2 with
      | false => rw [if_pos (by decide)]; exact go _ (by rw [hb]; rfl)
      | true => rw [if_neg (by decide)]; exact go _ (by rw [hb]; simp)
  have := key (circ E).length 0 (by omega)
  simpa [vicM] using this
theorem Free_s {s : Sl} {E : List Edge} (hs : Reads 2 encE2 h s E) (hl : E.length ≤ 2 ^ 12) (hw : ∀ e ∈ E, (Lit.int .i64 e.1).wf = true ∧ (Lit.int .i64 e.2).wf = true)
    (hQ : ∀ h' o, Own T_int 1 encIL h.size h' o (freeM E) → Ext [] h h' → Q [.slice o.a o.n o.c] h') : S_wait_Free s h Q := by
  refine O_wait_Free _ ?_
  unfold F_wait_Free
  refine graph_s hs (by omega) fun h1 C hg1 e1 => ⟨_, rfl, ?_⟩
  refine newI fun h2 s2 b2 e2 => ?_
  have hn := hs.1
  intro X hX
  have z1 := e1.sz
  have key : ∀ d i g T, d + i = E.length → Ext [] h1 g → h2.size ≤ g.size → IsMap encI encI g h1.size T → (T.map Prod.fst).Nodup → (∀ k, k ∈ T.map Prod.fst ↔ k ∈ (E.take i).map Prod.snd ∧ tg E k = []) → X [.int .i64 (i : Int)] g := by
    intro d
    induction d with
    | zero =>
      intro i g T hi e hz hm hnd hT
      refine hX _ _ ?_
      rw [if_neg (by simp; omega)]
      rw [List.take_of_length_le (by omega)] at hT
      have hTl : T.length ≤ E.length := by
        have := nodup_sub_len (L := T.map Prod.fst) (M := E.map Prod.snd) hnd fun x hx => ((hT x).1 hx).1
        simpa using this
      refine KeysB_s hm (fun x hx => by
        obtain ⟨p, hp, rfl⟩ := List.mem_map.1 ((hT x).1 hx).1
        exact (hw p hp).2) hnd (by omega) fun g2 o e2' ho => ⟨o, rfl, ?_⟩
      have : sortI (T.map Prod.fst) = freeM E := by
        refine asc_ext (sortI_asc hnd) (free_asc E) fun x => ?_
        rw [sortI_mem, hT, free_mem]
        constructor
        · rintro ⟨h5, h6⟩
          obtain ⟨p, hp, rfl⟩ := List.mem_map.1 h5
          exact ⟨⟨p.1, hp⟩, h6⟩
        · rintro ⟨⟨y, h5⟩, h6⟩
          exact ⟨List.mem_map.2 ⟨_, h5, rfl⟩, h6⟩
      rw [this] at ho
      exact hQ g2 o (ho.mono (by omega)) ((e1.trans0 e).trans0 e2')
    | succ d ih =>
      intro i g T hi e hz hm hnd hT
      refine hX _ _ ?_
      rw [if_pos (by simp; omega)]
      have hil : i < E.length := by omega
      have htk : E.take (i + 1) = E.take i ++ [E[i]] := by rw [List.take_add_one, List.getElem?_eq_getElem hil]; rfl
      intro J hJ
      obtain ⟨a, w1, w2, w3⟩ := rdE ((hs.ext0 e1).ext0 e) (i := i) hil
      rw [w1]
      simp only [nilW_some, Int.toNat_natCast]
      refine ⟨by omega, by omega, _, w2, _, w3, ?_⟩
      refine varI rfl rfl fun g1 t1 c1 f1 => ?_
      refine ⟨by omega, by omega, E[i].2, by simp [rd_blk c1], ?_⟩
      obtain ⟨es, m1, m2, l9, m3, m4⟩ := graph_get ((hg1.ext0 e).ext0 f1) E[i].2
      refine ⟨es, m1, m2, l9, m3, ?_⟩
      have hln := m4.1
      by_cases h0 : tg E E[i].2 = []
      · rw [h0] at hln
        rw [if_pos (by simp at hln ⊢; omega)]
        refine ⟨by omega, by omega, E[i].2, by simp [rd_blk c1], ?_⟩
        have hm1 := hm.ext f1 (by simp)
        obtain ⟨es19, y1, y2⟩ := hm1.mapAt
        have hget : ∃ v : Int, mgetD (.int .i64 E[i].2) es19 (.int .i64 0) = .int .i64 v := by
          rw [mgetD_ents y2 E[i].2]
          cases afind T E[i].2 with
          | none => exact ⟨0, rfl⟩
          | some v => exact ⟨v, rfl⟩
        obtain ⟨v, hv⟩ := hget
        refine ⟨es19, y1, keysLike_ents y2 _, v, hv, ?_⟩
        obtain ⟨es22, c23, o1, o2, o3⟩ := hm1.put E[i].2 (IntKind.wrap .i64 (v + 1))
        refine ⟨h1.size, es22, c23, rfl, o1, o2, ?_⟩
        refine setI o1 fun g3 t3 k3 f3 => ?_
        refine hJ _ ?_
        rw [wrap64 (by omega) (by omega)]
        have := ih (i + 1) g3 _ (by omega) ((e.trans0 f1).trans f3 (by intro b hb hlt; simp at hb; omega)) (by omega) (o3 g3 k3) (aput_nodup hnd _ _) (fun k => by
          have hk : k ∈ (aput T E[i].2 (IntKind.wrap .i64 (v + 1))).map Prod.fst ↔ k ∈ T.map Prod.fst ∨ k = E[i].2 := by
            rw [keys_aput]
            split
            · rename_i hin
              constructor
              · exact Or.inl
              · rintro (g5 | g5)
                · exact g5
                · rw [g5]; exact hin
            · simp
          rw [hk, hT, htk, List.map_append, List.mem_append]
          constructor
          · rintro (⟨g5, g6⟩ | g5)
            · exact ⟨Or.inl g5, g6⟩
            · exact ⟨Or.inr (by simp [g5]), by rw [g5]; exact h0⟩
          · rintro ⟨g5 | g5, g6⟩
            · exact Or.inl ⟨g5, g6⟩
            · exact Or.inr (by simpa using g5))
        simpa using this
      · have : 0 < (tg E E[i].2).length := List.length_pos_iff.2 h0
        rw [if_neg (by simp; omega)]
        refine hJ _ ?_
        rw [wrap64 (by omega) (by omega)]
        have := ih (i + 1) g1 T (by omega) (e.trans0 f1) (by omega) (hm.ext f1 (by simp)) hnd (fun k => by
          rw [hT, htk, List.map_append, List.mem_append]
          constructor
          · rintro ⟨g5, g6⟩; exact ⟨Or.inl g5, g6⟩
          · rintro ⟨g5 | g5, g6⟩
            · exact ⟨g5, g6⟩
            · simp at g5; subst g5; exact absurd g6 h0)
        simpa using this
  have := key E.length 0 h2 [] (by omega) e2 (Nat.le_refl _) ⟨#[], 0, b2, rfl, Born.nil 0⟩ (by simp) (by simp)
  simpa using this
theorem few_s {s : Sl} {E : List Edge} (hs : Reads 2 encE2 h s E) (hl : E.length ≤ 2 ^ 20) (hQ : ∀ h' o, Own T_2_int 2 encE2 h.size h' o E → Ext [] h h' → o.n = s.n → Q [.slice o.a o.n o.c] h') : S_liverylaw07_few s h Q := by
  refine O_liverylaw07_few _ ?_
  unfold F_liverylaw07_few
  have hn := hs.1
  rw [wthE]
  exact clone_body hs zcE2 encE2_len encE2_one (by omega) (by omega) fun s' h' ho he hn' => hQ h' s' ho he hn'
theorem Ints_s {a b : Sl} {xs ys : List Int} (ha : Reads 1 encIL h a xs) (hb : Reads 1 encIL h b ys) (hlen : xs.length < 2 ^ 60) (hQ : Q [.bool (xs == ys)] h) : S_liverykeep_Ints a b h Q := by
  refine O_liverykeep_Ints _ _ ?_
  unfold F_liverykeep_Ints
  have h1 := ha.1
  have h2 := hb.1
  by_cases hl : xs.length = ys.length
  · rw [if_neg (by simp; omega)]
    intro X hX
    have key : ∀ k i, k + i = xs.length → (∀ j, j < i → xs[j]? = ys[j]?) → X [.int .i64 (i : Int)] h := by
      intro k
      induction k with
      | zero =>
        intro i hi heq
        refine hX _ _ ?_
        rw [if_neg (by simp; omega)]
        have : xs = ys := by
          apply List.ext_getElem?
          intro j
          rcases Nat.lt_or_ge j i with g | g
          · exact heq j g
          · rw [List.getElem?_eq_none (by omega), List.getElem?_eq_none (by omega)]
        rw [this] at hQ
        simpa using hQ
      | succ k ih =>
        intro i hi heq
        refine hX _ _ ?_
        rw [if_pos (by simp; omega)]
        obtain ⟨b1, g1, g2⟩ := rdI ha (i := i) (by omega)
        obtain ⟨b2, g3, g4⟩ := rdI hb (i := i) (by omega)
        rw [g1, g3]
        simp only [nilW_some, Int.toNat_natCast]
        refine ⟨by omega, by omega, xs[i]'(by omega), g2, by omega, by omega, ys[i]'(by omega), g4, ?_⟩
        by_cases e : xs[i]'(by omega) = ys[i]'(by omega)
        · rw [if_neg (by simp [e])]
          rw [wrap64 (by omega) (by omega)]
          refine ih (i + 1) (by omega) ?_
          intro j hj
          rcases (by omega : j < i ∨ j = i) with g | g
          · exact heq j g
          · subst g
            rw [List.getElem?_eq_getElem (by omega), List.getElem?_eq_getElem (by omega), e]
        · rw [if_pos (by simp [e])]
          have : (xs == ys) = false := by
            rw [beq_eq_false_iff_ne]
            intro e2
            subst e2
            exact e rfl
          rw [this] at hQ
          exact hQ
    have := key xs.length 0 (by omega) (by intro j hj; omega)
    simpa using this
  · rw [if_pos (by simp; omega)]
    have : (xs == ys) = false := by
      rw [beq_eq_false_iff_ne]
      intro e2
      subst e2
      exact hl rfl
    rw [this] at hQ
    exact hQ
theorem Mod_s {a b : Int} (hb : 1 ≤ b) (hb2 : b < 2 ^ 31) (hQ : ∀ m, 0 ≤ m → m < b → Q [.int .i64 m] h) : S_liverykeep_Mod a b h Q := by
  refine O_liverykeep_Mod _ _ ?_
  unfold F_liverykeep_Mod
  rw [if_neg (by simp; omega)]
  have hlt := Int.tmod_lt_of_pos a (show 0 < b by omega)
  have hgt : -b < Int.tmod a b := by
    have h1 := Int.tmod_lt_of_pos (-a) (show 0 < b by omega)
    rw [Int.neg_tmod] at h1
    omega
  refine ⟨by omega, by omega, ?_⟩
  rw [wrap64 (by omega) (by omega)]
  exact hQ _ (Int.tmod_nonneg _ (by omega)) (Int.tmod_lt_of_pos _ (by omega))
end
end Go.Lift

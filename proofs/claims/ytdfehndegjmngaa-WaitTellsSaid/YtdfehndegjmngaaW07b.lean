/- Who waits for whom: whom one reaches. -/
import Derived.Test.YtdfehndegjmngaaW07a
set_option linter.unusedSimpArgs false
set_option linter.unusedVariables false
namespace Go.Lift
open Go Go.Proofs
set_option maxRecDepth 100000
/-- By one edge or more. -/
inductive Rch (E : List Edge) : Int → Int → Prop
  | one {a b : Int} : (a, b) ∈ E → Rch E a b
  | step {a b c : Int} : Rch E a b → (b, c) ∈ E → Rch E a c
theorem Rch.trans {E : List Edge} {a b c : Int} (h1 : Rch E a b) (h2 : Rch E b c) : Rch E a c := by
  induction h2 with
  | one h => exact .step h1 h
  | step _ h ih => exact .step ih h
theorem Rch.tgt {E : List Edge} {a b : Int} (h : Rch E a b) : ∃ x, (x, b) ∈ E := by
  cases h with
  | one h => exact ⟨_, h⟩
  | step _ h => exact ⟨_, h⟩
theorem Rch.src {E : List Edge} {a b : Int} (h : Rch E a b) : ∃ x, (a, x) ∈ E := by
  induction h with
  | one h => exact ⟨_, h⟩
  | step _ _ ih => exact ih
theorem Rch.mono {E E' : List Edge} (hE : ∀ e ∈ E, e ∈ E') {a b : Int} (h : Rch E a b) : Rch E' a b := by
  induction h with
  | one h => exact .one (hE _ h)
  | step _ h ih => exact .step ih (hE _ h)
def ones (L : List Int) : List (Int × Int) := L.map fun y => (y, 1)
theorem ones_keys (L : List Int) : (ones L).map Prod.fst = L := by unfold ones; rw [List.map_map]; exact List.map_id _
theorem ones_find (L : List Int) (k : Int) : afind (ones L) k = if k ∈ L then some 1 else none := by
  induction L with
  | nil => rfl
  | cons y L ih =>
    show (if k = y then some (1 : Int) else afind (ones L) k) = _
    by_cases h : k = y
    · simp [h]
    · simp [h, ih]
theorem nodup_sub_len {L M : List Int} (hn : L.Nodup) (hs : ∀ x ∈ L, x ∈ M) : L.length ≤ M.length := by
  induction L generalizing M with
  | nil => simp
  | cons x L ih =>
    rw [List.nodup_cons] at hn
    have hx := hs x (by simp)
    have := ih hn.2 (M := M.erase x) fun y hy => by
      have hne : y ≠ x := fun e => hn.1 (e ▸ hy)
      exact (List.mem_erase_of_ne hne).2 (hs y (List.mem_cons_of_mem _ hy))
    rw [List.length_erase_of_mem hx] at this
    have := List.length_pos_of_mem hx
    simp only [List.length_cons]
    omega
section
variable {lo : Nat} {h : Hp} {mg : Nat} {C : List (Int × (Sl × List Int))} {E : List Edge} {Q : List Value → Hp → Prop}
/-- What stands in the graph for a node. -/
theorem graph_get (hg : GraphAt lo h mg C E) (k : Int) : ∃ es, mapAt h (some mg) es ∧ KeysLike (.int .i64 k) es ∧ ∃ s : Sl, mgetD (.int .i64 k) es (.slice none 0 0) = evS s ∧ Own T_int 1 encIL lo h s (tg E k) := by
  obtain ⟨es, hm, hents⟩ := hg.map.mapAt
  refine ⟨es, hm, keysLike_ents hents _, ?_⟩
  rw [mgetD_ents hents k, afind_amap]
  have hv := hg.val k
  cases hf : afind C k with
  | none =>
    rw [hf] at hv
    have h0 : tg E k = [] := by
      by_cases h0 : tg E k = []
      · exact h0
      · rw [if_neg h0] at hv; cases hv
    exact ⟨⟨none, 0, 0⟩, rfl, by rw [h0]; exact Own.nil _ _⟩
  | some p =>
    rw [hf] at hv
    by_cases h0 : tg E k = []
    · rw [if_pos h0] at hv; cases hv
    · rw [if_neg h0] at hv
      have e : p.2 = tg E k := Option.some.inj hv
      exact ⟨p.1, rfl, by rw [← e]; exact hg.own _ _ hf⟩
/-- A map of ones: is a key there? -/
theorem ones_get {h : Hp} {m : Nat} {L : List Int} (hm : IsMap encI encI h m (ones L)) (k : Int) : ∃ es, mapAt h (some m) es ∧ KeysLike (.int .i64 k) es ∧ mgetD (.int .i64 k) es (.int .i64 0) = .int .i64 (if k ∈ L then 1 else 0) := by
  obtain ⟨es, h1, h2⟩ := hm.mapAt
  refine ⟨es, h1, keysLike_ents h2 _, ?_⟩
  rw [mgetD_ents h2 k, ones_find]
  by_cases hk : k ∈ L
  · rw [if_pos hk, if_pos hk]
  · rw [if_neg hk, if_neg hk]
theorem reach_s (hg : GraphAt lo h mg C E) (hE : E.length ≤ 2 ^ 20) (src : Int)
    (hQ : ∀ h' L, IsMap encI encI h' h.size (ones L) → L.Nodup → (∀ y, y ∈ L ↔ Rch E src y) → Ext [] h h' → Q [.map (some h.size)] h') : S_wait_reach (some mg) src h Q := by
  refine O_wait_reach _ _ ?_
  unfold F_wait_reach
  refine newI fun h1 s1 b1 e1 => newI fun h2 s2 b2 e2 => ?_
  intro X hX
  have key : ∀ d g s T L, (E.length - L.length) + T.length = d → Ext [] h g → IsMap encI encI g h.size (ones L) → OwnQ T_int encIL h1.size g s T → L.Nodup → (∀ y ∈ L, Rch E src y) → (∀ x ∈ T, x = src ∨ x ∈ L) →
      (∀ x, x = src ∨ x ∈ L → x ∈ T ∨ ∀ v ∈ tg E x, v ∈ L) → d ≤ 2 ^ 21 → X [.slice s.a s.n s.c] g := by
    intro d
    induction d with
    | zero =>
      intro g s T L hd e hm hs hnd hr hT hC hTl
      refine hX s _ ?_
      have hsn := hs.1
      have : T = [] := List.eq_nil_of_length_eq_zero (by omega)
      subst this
      rw [if_pos (by simp at hsn ⊢; omega)]
      refine hQ g L hm hnd (fun y => ⟨hr y, fun hy => ?_⟩) e
      induction hy with
      | one hab => exact ((hC _ (Or.inl rfl)).resolve_left (by simp)) _ (mem_tg.2 hab)
      | step _ hbc ih => exact ((hC _ (Or.inr ih)).resolve_left (by simp)) _ (mem_tg.2 hbc)
    | succ d ih =>
      intro g s T L hd e hm hs hnd hr hT hC hTl
      have hsn := hs.1
      cases T with
      | nil =>
        refine hX s _ ?_
        rw [if_pos (by simp at hsn ⊢; omega)]
        refine hQ g L hm hnd (fun y => ⟨hr y, fun hy => ?_⟩) e
        induction hy with
        | one hab => exact ((hC _ (Or.inl rfl)).resolve_left (by simp)) _ (mem_tg.2 hab)
        | step _ hbc ih => exact ((hC _ (Or.inr ih)).resolve_left (by simp)) _ (mem_tg.2 hbc)
      | cons x T =>
        refine hX s _ ?_
        simp only [List.length_cons] at hsn hd hTl
        rw [if_neg (by simp; omega)]
        obtain ⟨a, w1, w2⟩ := rdI hs.sl.reads (i := 0) (by simp)
        rw [w1]
        simp only [nilW_some]
        refine ⟨by omega, by omega, x, w2, ?_⟩
        have hgg := hg.ext0 e
        obtain ⟨es, m1, m2, l9, m3, m4⟩ := graph_get hgg x
        refine ⟨es, m1, m2, l9, m3, ?_⟩
        have htl := tg_len E x
        have hln := m4.1
        have hLN : ∀ L : List Int, L.Nodup → (∀ y ∈ L, Rch E src y) → L.length ≤ E.length := by
          intro L hn hr
          have := nodup_sub_len (M := E.map Prod.snd) hn fun y hy => by
            obtain ⟨z, hz⟩ := (hr y hy).tgt
            exact List.mem_map.2 ⟨_, hz, rfl⟩
          simpa using this
        have hxr : ∀ v ∈ tg E x, Rch E src v := by
          intro v hv
          rcases hT x (by simp) with g5 | g5
          · subst g5; exact .one (mem_tg.1 hv)
          · exact .step (hr x g5) (mem_tg.1 hv)
        intro Y hY
        have inner : ∀ k j g2 s2 T2 L2, k + j = (tg E x).length → Ext [] h g2 → IsMap encI encI g2 h.size (ones L2) → OwnQ T_int encIL h1.size g2 s2 (x :: T2) → L2.Nodup → (∀ y ∈ L2, Rch E src y) → (∀ y ∈ T2, y = src ∨ y ∈ L2) →
            (∀ y, y = src ∨ y ∈ L2 → y = x ∨ y ∈ T2 ∨ ∀ v ∈ tg E y, v ∈ L2) → (∀ v ∈ (tg E x).take j, v ∈ L2) → (E.length - L2.length) + T2.length = d → Y [.slice s2.a s2.n s2.c, .int .i64 (j : Int)] g2 := by
          intro k
          induction k with
          | zero =>
            intro j g2 s2 T2 L2 hj e2 hm2 hs2 hnd2 hr2 hT2 hC2 hv2 hd2
            refine hY s2 _ _ ?_
            have hs2n := hs2.1
            simp only [List.length_cons] at hs2n
            rw [if_neg (by simp; omega)]
            refine ⟨by omega, ?_⟩
            have htail := hs2.tail encIL_len
            rw [List.take_of_length_le (by omega)] at hv2
            have hl2 := hLN L2 hnd2 hr2
            refine ih g2 _ T2 L2 hd2 e2 hm2 htail hnd2 hr2 hT2 (fun y hy => ?_) (by omega)
            rcases hC2 y hy with g5 | g5 | g5
            · subst g5; exact Or.inr hv2
            · exact Or.inl g5
            · exact Or.inr g5
          | succ k ih2 =>
            intro j g2 s2 T2 L2 hj e2 hm2 hs2 hnd2 hr2 hT2 hC2 hv2 hd2
            refine hY s2 _ _ ?_
            have hjl : j < (tg E x).length := by omega
            rw [if_pos (by simp; omega)]
            intro J hJ
            have hg2 := hg.ext0 e2
            have hext : ∃ es2 s3, mapAt g2 (some mg) es2 ∧ mgetD (.int .i64 x) es2 (.slice none 0 0) = evS s3 ∧ Own T_int 1 encIL lo g2 s3 (tg E x) := by
              obtain ⟨es2, y1, _, s3, y3, y4⟩ := graph_get hg2 x
              exact ⟨es2, s3, y1, y3, y4⟩
            have m4' : Own T_int 1 encIL lo g2 l9 (tg E x) := by
              obtain ⟨es', q1, q2, l9', q3, q4⟩ := graph_get hg x
              obtain ⟨es2, s3, y1, y3, y4⟩ := hext
              have hk : ∀ (g : Hp) (es : Array MapEntry), Ext [] h g → mapAt g (some mg) es → es = es' := by
                intro g es eg hme
                rcases hme with ⟨z1, _⟩ | ⟨m', c', z1, z2⟩
                · cases z1
                · cases z1
                  rcases q1 with ⟨z3, _⟩ | ⟨m'', c'', z3, z4⟩
                  · cases z3
                  · cases z3
                    have := eg.get z4 (by simp)
                    rw [z2] at this
                    cases this
                    rfl
              have h1' := hk g es e m1
              have h2' := hk g2 es2 e2 y1
              subst h1' h2'
              rw [m3] at y3
              simp only [evS, Value.slice.injEq] at y3
              have : l9 = s3 := by
                obtain ⟨p1, p2, p3⟩ := y3
                cases l9; cases s3
                simp only at p1 p2 p3
                subst p1 p2 p3
                rfl
              rw [this]
              exact y4
            obtain ⟨a2, u1, u2⟩ := rdI m4'.sl.reads (i := j) hjl
            rw [u1]
            simp only [nilW_some, Int.toNat_natCast]
            refine ⟨by omega, by omega, _, u2, ?_⟩
            obtain ⟨es3, z1, z2, z3⟩ := ones_get hm2 (tg E x)[j]
            refine ⟨es3, z1, z2, _, z3, ?_⟩
            have htk : (tg E x).take (j + 1) = (tg E x).take j ++ [(tg E x)[j]] := by rw [List.take_add_one, List.getElem?_eq_getElem hjl]; rfl
            have hs2n := hs2.1
            simp only [List.length_cons] at hs2n
            have hl2 := hLN L2 hnd2 hr2
            by_cases hin : (tg E x)[j] ∈ L2
            · rw [if_pos hin, if_pos (by decide)]
              refine hJ s2 _ ?_
              rw [wrap64 (by omega) (by omega)]
              have := ih2 (j + 1) g2 s2 T2 L2 (by omega) e2 hm2 hs2 hnd2 hr2 hT2 hC2 (fun v hv => by
                rw [htk] at hv
                rcases List.mem_append.1 hv with g5 | g5
                · exact hv2 v g5
                · simp at g5; subst g5; exact hin) hd2
              simpa using this
            · rw [if_neg hin, if_neg (by decide)]
              obtain ⟨es4, c4, q1, q2, q3⟩ := hm2.put (tg E x)[j] 1
              refine ⟨h.size, es4, c4, rfl, q1, q2, ?_⟩
              refine setI q1 fun g3 t3 k3 f3 => ?_
              have hm3 := q3 g3 k3
              rw [aput_new (by rw [ones_keys]; exact hin)] at hm3
              have hm3' : IsMap encI encI g3 h.size (ones (L2 ++ [(tg E x)[j]])) := by
                unfold ones
                rw [List.map_append]
                exact hm3
              have z2 := e2.sz
              have hs3 : OwnQ T_int encIL h1.size g3 s2 (x :: T2) := hs2.ext f3 fun a ha hmem => by
                simp at hmem
                have := hs2.blk _ (mem_sBlk.2 ⟨a, ha, rfl⟩)
                omega
              have hz3 : h1.size ≤ g3.size := by
                have hb := blk_lt k3
                omega
              have hnd3 : (L2 ++ [(tg E x)[j]]).Nodup := by
                rw [List.nodup_append]
                refine ⟨hnd2, by simp, fun a ha b hb => ?_⟩
                simp at hb
                subst hb
                exact fun e => hin (e ▸ ha)
              have hr3 : ∀ y ∈ L2 ++ [(tg E x)[j]], Rch E src y := by
                intro y hy
                rcases List.mem_append.1 hy with g5 | g5
                · exact hr2 y g5
                · simp at g5; subst g5; exact hxr _ (List.getElem_mem _)
              have hl3 := hLN _ hnd3 hr3
              simp only [List.length_append, List.length_cons, List.length_nil] at hl3
              refine app1Q (x := (tg E x)[j]) hs3 rfl zcInt encIL_len encIL_one (by simp only [List.length_cons]; omega) (by decide) hz3 fun s4 g4 hs4 f4 hb4 => ?_
              refine hJ s4 _ ?_
              rw [wrap64 (by omega) (by omega)]
              have hm4 : IsMap encI encI g4 h.size (ones (L2 ++ [(tg E x)[j]])) := hm3'.ext f4 (fun hmem => by have := hs3.blk _ hmem; omega)
              have := ih2 (j + 1) g4 s4 (T2 ++ [(tg E x)[j]]) (L2 ++ [(tg E x)[j]]) (by omega) ((e2.trans f3 (by intro b hb hlt; simp at hb; omega)).trans f4 fun b hb hlt => by have := hs3.blk _ hb; omega) hm4 hs4 hnd3 hr3
                (fun y hy => by
                  rcases List.mem_append.1 hy with g5 | g5
                  · exact (hT2 y g5).imp id (List.mem_append_left _)
                  · exact Or.inr (List.mem_append_right _ g5))
                (fun y hy => by
                  by_cases hyj : y = (tg E x)[j]
                  · subst hyj; exact Or.inr (Or.inl (List.mem_append_right _ (by simp)))
                  · have hy' : y = src ∨ y ∈ L2 := hy.imp id fun g5 => by
                      rcases List.mem_append.1 g5 with g6 | g6
                      · exact g6
                      · simp at g6; exact absurd g6 hyj
                    rcases hC2 y hy' with g5 | g5 | g5
                    · exact Or.inl g5
                    · exact Or.inr (Or.inl (List.mem_append_left _ g5))
                    · exact Or.inr (Or.inr fun v hv => List.mem_append_left _ (g5 v hv)))
                (fun v hv => by
                  rw [htk] at hv
                  rcases List.mem_append.1 hv with g5 | g5
                  · exact List.mem_append_left _ (hv2 v g5)
                  · exact List.mem_append_right _ g5) (by simp only [List.length_append, List.length_cons, List.length_nil]; omega)
              simpa using this
        have := inner (tg E x).length 0 g s T L (by omega) e hm hs hnd hr (fun y hy => hT y (List.mem_cons_of_mem _ hy)) (fun y hy => by
          rcases hC y hy with g5 | g5
          · rcases List.mem_cons.1 g5 with g6 | g6
            · exact Or.inl g6
            · exact Or.inr (Or.inl g6)
          · exact Or.inr (Or.inr g5)) (by simp) (by omega)
        rw [w1] at this
        simpa using this
  have c1 := e2.get b1 (by simp)
  exact key (E.length + 1) h2 ⟨some ⟨h1.size, 0, none⟩, 1, 1⟩ [src] [] (by simp) (e1.trans0 e2) ⟨#[], 0, c1, rfl, Born.nil 0⟩
    ⟨rfl, Nat.le_refl _, fun e => (by cases e), fun a ha => by cases ha; exact ⟨h1.size, 0, _, rfl, Nat.le_refl _, b2, by simp, by simp⟩⟩ (by simp) (by simp) (by simp) (fun x hx => by simp at hx; subst hx; exact Or.inl (by simp)) (by omega)
end
end Go.Lift

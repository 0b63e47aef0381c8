/- The reference's leaves: Range. -/
import Derived.Test.YtempffmkbpglfaaL10o3
set_option linter.unusedSimpArgs false
set_option linter.unusedVariables false
namespace Go.Lift
open Go Go.Proofs
set_option maxRecDepth 100000
section
variable {lo n : Nat} {h h' : Hp} {q : Nat} {M : LeafM} {ls : Sl} {R : List RC} {Q : List Value → Hp → Prop}
theorem RangeR_s (hr : RefAt lo h q M ls R) (ok : OkM M n) (hn : n < 2 ^ 15) (a b : ByteArray)
    (hQ : ∀ h' sk sn, Ext [] h h' → Own T_string 1 encB h.size h' sk (M.rng a b).1 → Own T_int 1 encIL h.size h' sn (M.rng a b).2 → Q [.agg #[.slice sk.a sk.n sk.c, .slice sn.a sn.n sn.c]] h') : S_liveryref10_Leaves_Range (some ⟨q, 0, none⟩) a b h Q := by
  refine O_liveryref10_Leaves_Range _ _ _ ?_
  unfold F_liveryref10_Leaves_Range
  rw [emptyB]
  have hMl := ok.len
  refine newI fun h1 s1 b1 e1 => newI fun h2 s2 b2 e2 => ?_
  have c1 := e2.get b1 (by simp)
  have e02 := e1.trans0 e2
  have hr2 := hr.ext0 e02
  have hlt := atL_lt ok.ne a
  have hlt2 := atL_lt ok.ne b
  obtain ⟨n1, n2⟩ := ref_len hr
  have fin : ∀ g sk sn, Ext [] h g → Blk g h.size #[.slice none 0 0, .slice none 0 0] T_liveryref10_Span → Blk g h1.size #[.slice sk.a sk.n sk.c, .slice sn.a sn.n sn.c] T_liveryref10_Span → Own T_string 1 encB h.size g sk (M.rng a b).1 → Own T_int 1 encIL h.size g sn (M.rng a b).2 →
      (∃ l6 : Sl, rd g (Addr.add ⟨h1.size, 0, none⟩ 0) = some (Value.slice l6.a l6.n l6.c) ∧ ∃ l7 : Sl, rd g (Addr.add ⟨h1.size, 0, none⟩ 1) = some (Value.slice l7.a l7.n l7.c) ∧ stOk g ⟨h.size, 0, none⟩ 2 ∧ wth (wrs g ⟨h.size, 0, none⟩ 0 [(Value.slice l6.a l6.n l6.c), (Value.slice l7.a l7.n l7.c)]) fun h8 =>
        ∃ l9 : Sl, rd h8 (Addr.add ⟨h.size, 0, none⟩ 0) = some (Value.slice l9.a l9.n l9.c) ∧ ∃ l10 : Sl, rd h8 (Addr.add ⟨h.size, 0, none⟩ 1) = some (Value.slice l10.a l10.n l10.c) ∧ Q [(Value.agg #[(Value.slice l9.a l9.n l9.c), (Value.slice l10.a l10.n l10.c)])] h8) := by
    intro g sk sn eg v1 v2 hk hn'
    refine ⟨sk, by simp [rd_blk v2], sn, by simp [rd_blk v2], ?_⟩
    refine st_blk v1 (by simp) fun g2 t2 d2 f2 => ?_
    refine ⟨sk, by simp [rd_blk d2], sn, by simp [rd_blk d2], ?_⟩
    have ot : ∀ T, T_liveryref10_Span ≠ T → Other T g [h.size] := fun T hT b hb c fz => by simp at hb; subst hb; exact other_blk v1 hT c fz
    exact hQ g2 sk sn (eg.trans f2 (by intro b hb hlt; simp at hb; omega)) (hk.extT f2 (ot _ (by decide))) (hn'.extT f2 (ot _ (by decide)))
  intro J hJ
  have empty : emptyR a b = true → J [.bool true] h2 := by
    intro he
    refine hJ _ _ ?_
    rw [if_pos rfl]
    have e : M.rng a b = ([], []) := by unfold LeafM.rng; rw [if_pos he]
    exact fin h2 ⟨none, 0, 0⟩ ⟨none, 0, 0⟩ e02 c1 b2 (by rw [e]; exact Own.nil _ _) (by rw [e]; exact Own.nil _ _)
  have full : emptyR a b = false → J [.bool false] h2 := by
    intro he
    have erng : M.rng a b = (((partL M.l a b).flatMap OneM.keys).filter (inR a b), (partL M.l a b).map OneM.n) := by unfold LeafM.rng; rw [if_neg (by rw [he]; decide)]
    refine hJ _ _ ?_
    rw [if_neg (by decide)]
    simp only [nilW_some, addr_mk, rd_blk hr2.blk]
    refine ⟨ls, rfl, ?_⟩
    intro J6 hJ6
    have main : ∀ last : Nat, last = lastL M.l b → atL M.l a ≤ last → last < R.length → J6 [.int .i64 (last : Int)] h2 := by
      intro last hla hal hlc
      refine hJ6 _ _ ?_
      refine atR_s hr2 ok.wf ok.ne a (by omega) ⟨_, rfl, ?_⟩
      intro X hX
      have key : ∀ d i g sk sn, d + i = last + 1 - atL M.l a → Ext [] h g → h2.size ≤ g.size → Blk g h1.size #[.slice sk.a sk.n sk.c, .slice sn.a sn.n sn.c] T_liveryref10_Span → Own T_string 1 encB h2.size g sk (((M.l.drop (atL M.l a)).take i).flatMap OneM.keys |>.filter (inR a b)) → Own T_int 1 encIL h2.size g sn (((M.l.drop (atL M.l a)).take i).map OneM.n) →
          Blk g h.size #[.slice none 0 0, .slice none 0 0] T_liveryref10_Span → RefAt lo g q M ls R → X [.int .i64 ((atL M.l a + i : Nat) : Int)] g := by
        intro d
        induction d with
        | zero =>
          intro i g sk sn hi hE hz v2 ok' on v1 hrg
          refine hX _ _ ?_
          rw [if_neg (by simp; omega)]
          have hpart : (M.l.drop (atL M.l a)).take i = partL M.l a b := by
            unfold partL
            rw [List.drop_take, ← hla]
            congr 1
            omega
          rw [hpart] at ok' on
          exact fin g sk sn hE v1 v2 (by rw [erng]; exact ok'.mono (by omega)) (by rw [erng]; exact on.mono (by omega))
        | succ d ih =>
          intro i g sk sn hi hE hz v2 ok' on v1 hrg
          refine hX _ _ ?_
          rw [if_pos (by simp; omega)]
          refine ⟨sn, by simp [rd_blk v2], ?_⟩
          simp only [nilW_some, addr_mk, rd_blk hrg.blk]
          refine ⟨ls, rfl, ?_⟩
          have hiR : atL M.l a + i < R.length := by omega
          obtain ⟨hi2, m1, m2, m3, m4⟩ := ref_at hrg hiR
          obtain ⟨aa, w1, w2, w3, w4, w5⟩ := rdR hrg.own hiR
          rw [w1]
          simp only [nilW_some, Int.toNat_natCast]
          refine ⟨by omega, by omega, _, w2, ?_⟩
          have hdl : i < (M.l.drop (atL M.l a)).length := by simp; omega
          have hdg : (M.l.drop (atL M.l a))[i] = M.l[atL M.l a + i] := by simp
          have hti : (M.l.drop (atL M.l a)).take (i + 1) = (M.l.drop (atL M.l a)).take i ++ [M.l[atL M.l a + i]] := by
            rw [List.take_add_one, List.getElem?_eq_getElem hdl, Option.toList_some, hdg]
          refine newI fun g1 t1 d1 f1 => ?_
          have v21 := f1.get v2 (by simp)
          refine ⟨by simp [rd_blk v21], ?_⟩
          have on1 := on.ext0 f1
          refine ⟨[.int .i64 R[atL M.l a + i].m.n], by
            have := cellsAt_blk d1 (o := 0) (n := 1 * 1) (by simp)
            simpa using this, ?_⟩
          have hnl := on1.1
          refine app_own (ys := [R[atL M.l a + i].m.n]) on1 zcInt encIL_len (fun x _ => encIL_one x) rfl rfl (by simp at hnl ⊢; omega) (by simp at hnl ⊢; omega) (by omega) fun sn' g2 on2 f2 hn2 hb2 => ?_
          have sno : ∀ b ∈ sBlk sn, h2.size ≤ b := on.blk
          have v22 := f2.get v21 (fun hm => by have := sno _ hm; omega)
          have v12 := f2.get (f1.get v1 (by simp)) (fun hm => by have := sno _ hm; omega)
          have hr3 := (hrg.ext0 f1).extF f2 (fun b hb hm => by have := sno b hm; have := rfp_lt hr hb; omega)
          have ok2 := (ok'.ext0 f1).extT f2 (on1.other (by decide))
          refine st_blk v22 (by simp) fun g3 t3 d3 f3 => ?_
          have d3' : Blk g3 h1.size #[.slice sk.a sk.n sk.c, .slice sn'.a sn'.n sn'.c] T_liveryref10_Span := by simpa using d3
          have ot2 : ∀ T, T_liveryref10_Span ≠ T → Other T g2 [h1.size] := fun T hT b hb c fz => by simp at hb; subst hb; exact other_blk v22 hT c fz
          have hr4 := hr3.extF f3 (fun b hb hm => by simp at hm; have := rfp_lt hr hb; omega)
          have on3 := on2.extT f3 (ot2 _ (by decide))
          have ok3 := ok2.extT f3 (ot2 _ (by decide))
          have v13 := f3.get v12 (by simp; omega)
          have hE3 : Ext [] h g3 := ((hE.trans0 f1).trans f2 fun b hb hlt => by have := sno b hb; omega).trans f3 (by intro b hb hlt; simp at hb; omega)
          have hz3 : h2.size ≤ g3.size := by have := f2.sz; omega
          have hordi := (ok.ord _ (List.getElem_mem hi2)).2
          have hbig : ((((M.l.drop (atL M.l a)).take i).flatMap OneM.keys).filter (inR a b)).length ≤ 2 ^ 30 := by
            refine Nat.le_trans (List.length_filter_le _ _) ?_
            have h2 := flat_len ((M.l.drop (atL M.l a)).take i) (2 ^ 10) (fun o ho => (ok.ord o (List.mem_of_mem_drop (List.mem_of_mem_take ho))).2)
            have h3 : ((M.l.drop (atL M.l a)).take i).length ≤ 2 ^ 20 := by simp; omega
            have := Nat.mul_le_mul_right (2 ^ 10) h3
            omega
          rw [m1] at on3
          intro Z hZ
          have inner : ∀ d' j g' sk', d' + j = (M.l[atL M.l a + i]).keys.length → Ext [] h g' → h2.size ≤ g'.size → Blk g' h1.size #[.slice sk'.a sk'.n sk'.c, .slice sn'.a sn'.n sn'.c] T_liveryref10_Span → Own T_int 1 encIL h2.size g' sn' (((M.l.drop (atL M.l a)).take i).map OneM.n ++ [(M.l[atL M.l a + i]).n]) →
              Own T_string 1 encB h2.size g' sk' ((((M.l.drop (atL M.l a)).take i).flatMap OneM.keys |>.filter (inR a b)) ++ ((M.l[atL M.l a + i]).keys.take j).filter (inR a b)) → Blk g' h.size #[.slice none 0 0, .slice none 0 0] T_liveryref10_Span → RefAt lo g' q M ls R → Z [.int .i64 (j : Int)] g' := by
            intro d'
            induction d' with
            | zero =>
              intro j g' sk' hj hE' hz' w2' on2 ok2 w1' hrg'
              refine hZ _ _ ?_
              simp only [rd_blk hrg'.blk]
              refine ⟨ls, by simp, ?_⟩
              obtain ⟨ab, y1, y2, y3, y4, y5⟩ := rdR hrg'.own hiR
              rw [y1]
              simp only [nilW_some, Int.toNat_natCast]
              have hkn := (hrg'.keys _ (List.getElem_mem hiR)).1
              rw [m2] at hkn
              refine ⟨by omega, by omega, R[atL M.l a + i].ks, y5, ?_⟩
              rw [if_neg (by simp; omega), wrap64 (by omega) (by omega)]
              have := ih (i + 1) g' sk' sn' (by omega) hE' hz' w2' (by
                rw [hti, List.flatMap_append, List.filter_append]
                rw [List.take_of_length_le (l := (M.l[atL M.l a + i]).keys) (by omega)] at ok2
                simpa using ok2) (by
                rw [hti, List.map_append]
                exact on2) w1' hrg'
              simpa [Int.add_assoc] using this
            | succ d' ih' =>
              intro j g' sk' hj hE' hz' w2' on2 ok2 w1' hrg'
              refine hZ _ _ ?_
              simp only [rd_blk hrg'.blk]
              refine ⟨ls, by simp, ?_⟩
              obtain ⟨ab, y1, y2, y3, y4, y5⟩ := rdR hrg'.own hiR
              rw [y1]
              simp only [nilW_some, Int.toNat_natCast]
              have hkr := (hrg'.keys _ (List.getElem_mem hiR)).sl.reads
              rw [m2] at hkr
              have hkn := hkr.1
              refine ⟨by omega, by omega, R[atL M.l a + i].ks, y5, ?_⟩
              rw [if_pos (by simp; omega)]
              intro J2 hJ2
              refine ⟨ls, by simp [y1], ?_⟩
              rw [y1]
              simp only [nilW_some]
              refine ⟨by omega, by omega, R[atL M.l a + i].ks, y5, ?_⟩
              have hjl : j < (M.l[atL M.l a + i]).keys.length := by omega
              obtain ⟨ak, u1, u2⟩ := rdB hkr (i := j) hjl
              rw [u1]
              simp only [nilW_some, Int.toNat_natCast]
              refine ⟨by omega, by omega, _, u2, ?_⟩
              have htj : (M.l[atL M.l a + i]).keys.take (j + 1) = (M.l[atL M.l a + i]).keys.take j ++ [(M.l[atL M.l a + i]).keys[j]] := by
                rw [List.take_add_one, List.getElem?_eq_getElem hjl, Option.toList_some]
              intro J3 hJ3
              have go : ∀ v, v = inR a b (M.l[atL M.l a + i]).keys[j] → J3 [.bool v] g' := by
                intro v hv
                refine hJ3 _ _ ?_
                cases hb : inR a b (M.l[atL M.l a + i]).keys[j] with
                | true =>
                  rw [hv, hb, if_pos rfl]
                  refine ⟨sk', by simp [rd_blk w2'], ?_⟩
                  refine app1 (x := (M.l[atL M.l a + i]).keys[j]) ok2 rfl zc_str encB_len encB_one (by
                    have h5 := List.length_filter_le (inR a b) ((M.l[atL M.l a + i]).keys.take j)
                    rw [List.length_append]
                    have h6 : ((M.l[atL M.l a + i]).keys.take j).length ≤ 2 ^ 10 := by simp; omega
                    omega) (by decide) hz' fun sk2 g2' ok3' he3 hb3 => ?_
                  have sko : ∀ b ∈ sBlk sk', h2.size ≤ b := ok2.blk
                  have w22 := he3.get w2' (fun hm => by have := sko _ hm; omega)
                  have w12 := he3.get w1' (fun hm => by have := sko _ hm; omega)
                  have hrg2 := hrg'.extF he3 (fun b hb hm => by have := sko b hm; have := rfp_lt hr hb; omega)
                  refine st_blk w22 (by simp) fun g3' t4 d4 f4 => ?_
                  have d4' : Blk g3' h1.size #[.slice sk2.a sk2.n sk2.c, .slice sn'.a sn'.n sn'.c] T_liveryref10_Span := by simpa using d4
                  have ot4 : ∀ T, T_liveryref10_Span ≠ T → Other T g2' [h1.size] := fun T hT b hb c fz => by simp at hb; subst hb; exact other_blk w22 hT c fz
                  refine hJ2 _ ?_
                  rw [wrap64 (by omega) (by omega)]
                  have := ih' (j + 1) g3' sk2 (by omega) ((hE'.trans he3 fun b hb hlt => by have := sko b hb; omega).trans f4 (by intro b hb hlt; simp at hb; omega)) (by have := he3.sz; omega) d4' ((on2.extT he3 (ok2.other (by decide))).extT f4 (ot4 _ (by decide))) (by
                    rw [htj, List.filter_append, ← List.append_assoc]
                    have := ok3'.extT f4 (ot4 _ (by decide))
                    simpa [hb] using this) (f4.get w12 (by simp; omega)) (hrg2.extF f4 (fun b hb hm => by simp at hm; have := rfp_lt hr hb; omega))
                  simpa using this
                | false =>
                  rw [hv, hb, if_neg (by decide)]
                  refine hJ2 _ ?_
                  rw [wrap64 (by omega) (by omega)]
                  have := ih' (j + 1) g' sk' (by omega) hE' hz' w2' on2 (by
                    rw [htj, List.filter_append]
                    simpa [hb] using ok2) w1' hrg'
                  simpa using this
              have hs1 : Op.bytesLess (M.l[atL M.l a + i]).keys[j].toList a.toList = sLt (M.l[atL M.l a + i]).keys[j] a := rfl
              have hs2 : Op.bytesLess (M.l[atL M.l a + i]).keys[j].toList b.toList = sLt (M.l[atL M.l a + i]).keys[j] b := rfl
              rw [hs1, hs2]
              unfold inR at go
              cases q1 : sLt (M.l[atL M.l a + i]).keys[j] a with
              | true =>
                rw [if_neg (by decide)]
                exact go _ (by rw [q1]; rfl)
              | false =>
                rw [if_pos (by decide)]
                cases q2 : b.toList == [] with
                | true =>
                  rw [if_pos rfl]
                  exact go _ (by rw [q1, q2]; rfl)
                | false =>
                  rw [if_neg (by decide)]
                  exact go _ (by rw [q1, q2]; rfl)
          have := inner (M.l[atL M.l a + i]).keys.length 0 g3 sk (by omega) hE3 hz3 d3' on3 (by simpa using ok3) v13 hr4
          simpa using this
      have := key (last + 1 - atL M.l a) 0 h2 ⟨none, 0, 0⟩ ⟨none, 0, 0⟩ (by omega) e02 (Nat.le_refl _) b2 (by simpa using Own.nil _ _) (by simpa using Own.nil _ _) c1 hr2
      simpa using this
    cases hb0 : b.toList == [] with
    | true =>
      rw [if_neg (by decide)]
      rw [wrap64 (by omega) (by omega)]
      have e3 : ((ls.n : Int) - 1) = ((M.l.length - 1 : Nat) : Int) := by omega
      rw [e3]
      exact main _ (by unfold lastL; rw [hb0, if_pos rfl]) (by omega) (by omega)
    | false =>
      rw [if_pos (by decide)]
      refine atR_s hr2 ok.wf ok.ne b (by omega) ⟨_, rfl, ?_⟩
      refine main _ (by unfold lastL; rw [hb0, if_neg (by decide)]) (atL_mono ?_) (by omega)
      unfold emptyR at he
      rw [hb0] at he
      cases h4 : sLt b a with
      | false => rfl
      | true => rw [h4] at he; cases he
  unfold emptyR at empty full
  cases hb0 : b.toList == [] with
  | true =>
    rw [if_neg (by decide)]
    exact full (by rw [hb0]; rfl)
  | false =>
    rw [if_pos (by decide)]
    have hs : (Op.bytesLess b.toList a.toList || b.toList == a.toList) = (sLt b a || b.toList == a.toList) := rfl
    rw [hs]
    cases h4 : (sLt b a || b.toList == a.toList) with
    | true => exact empty (by rw [hb0, h4]; rfl)
    | false => exact full (by rw [hb0, h4]; rfl)
end
end Go.Lift

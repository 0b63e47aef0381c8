/- WaitTells. -/
import Derived.Test.YtdfehndegjmngaaW07j
set_option linter.unusedSimpArgs false
set_option linter.unusedVariables false
namespace Go.Lift
open Go Go.Proofs
set_option maxRecDepth 100000
section
variable {h : Hp} {Q : List Value → Hp → Prop}
theorem VictimR_s {s : Sl} {E : List Edge} (hs : Reads 2 encE2 h s E) (hl : E.length ≤ 2 ^ 12)
    (hQ : ∀ h', Ext [] h h' → Q [.int .i64 (vicM (circ E)).1, .bool (vicM (circ E)).2] h') : S_liveryref07_Victim s h Q := by
  refine O_liveryref07_Victim _ ?_
  unfold F_liveryref07_Victim
  refine CirclesR_s hs hl fun h1 o ks hk e1 => ⟨o, rfl, ?_⟩
  have hkl := hk.len
  have hon := hk.own.1
  have hcl := circ_len E
  have hnl := nodesS_len E
  intro X hX
  have key : ∀ d i, d + i = (circ E).length → X [.int .i64 (vicM ((circ E).take i)).1, .bool (vicM ((circ E).take i)).2, .int .i64 (i : Int)] h1 := by
    intro d
    induction d with
    | zero =>
      intro i hi
      refine hX _ _ _ _ ?_
      rw [if_neg (by simp; omega), List.take_of_length_le (by omega)]
      exact hQ h1 e1
    | succ d ih =>
      intro i hi
      refine hX _ _ _ _ ?_
      rw [if_pos (by simp; omega)]
      have hil : i < (circ E).length := by omega
      intro J hJ
      obtain ⟨a, w1, w2⟩ := rdSl hk.own (i := i) (by omega)
      rw [w1]
      simp only [nilW_some, Int.toNat_natCast]
      refine ⟨by omega, by omega, ks[i]'(by omega), w2, by omega, by omega, ks[i]'(by omega), w2, ?_⟩
      have hko := hk.each i (by omega) hil
      have hne := circ_ne (List.getElem_mem hil)
      have hlen := (circ_each (List.getElem_mem hil)).1
      have hkn := hko.1
      have hpos : 0 < ((circ E)[i]).length := List.length_pos_iff.2 hne
      obtain ⟨ak, u1, u2⟩ := rdI hko.sl.reads (i := ((circ E)[i]).length - 1) (by omega)
      rw [u1, wrap64 (x := (((ks[i]'(by omega)).n : Int) - 1)) (by omega) (by omega), show (((ks[i]'(by omega)).n : Int) - 1) = ((((circ E)[i]).length - 1 : Nat) : Int) by omega]
      simp only [nilW_some, Int.toNat_natCast]
      refine ⟨by omega, by omega, _, u2, ?_⟩
      have hlast : ((circ E)[i])[((circ E)[i]).length - 1] = ((circ E)[i]).getLastD 0 := by
        rw [List.getLastD_eq_getLast?, List.getLast?_eq_some_getLast hne, List.getLast_eq_getElem]; rfl
      rw [hlast]
      have htk : (circ E).take (i + 1) = (circ E).take i ++ [(circ E)[i]] := by rw [List.take_add_one, List.getElem?_eq_getElem hil]; rfl
      have hstep : vicM ((circ E).take (i + 1)) = vicStep (vicM ((circ E).take i)) (circ E)[i] := by rw [htk]; unfold vicM; rw [List.foldl_append]; rfl
      have ihx := ih (i + 1) (by omega)
      rw [hstep] at ihx
      intro J2 hJ2
      have go : ∀ b, b = (!(vicM ((circ E).take i)).2 || decide (((circ E)[i]).getLastD 0 > (vicM ((circ E).take i)).1)) → J2 [.bool b] h1 := by
        intro b hb
        refine hJ2 _ _ ?_
        unfold vicStep at ihx
        rw [← hb] at ihx
        cases b with
        | true =>
          rw [if_pos rfl] at ihx ⊢
          refine hJ _ _ _ ?_
          rw [wrap64 (by omega) (by omega)]
          simpa using ihx
        | false =>
          rw [if_neg (by decide)] at ihx ⊢
          refine hJ _ _ _ ?_
          rw [wrap64 (by omega) (by omega)]
          simpa using ihx
      cases hb : (vicM ((circ E).take i)).2 with
      | false => rw [if_pos (by decide)]; exact go _ (by rw [hb]; rfl)
      | true => rw [if_neg (by decide)]; exact go _ (by rw [hb]; simp)
  have := key (circ E).length 0 (by omega)
  simpa [vicM] using this
theorem FreeR_s {s : Sl} {E : List Edge} (hs : Reads 2 encE2 h s E) (hl : E.length ≤ 2 ^ 12)
    (hQ : ∀ h' o, Own T_int 1 encIL h.size h' o (freeM E) → Ext [] h h' → Q [.slice o.a o.n o.c] h') : S_liveryref07_Free s h Q := by
  refine O_liveryref07_Free _ ?_
  unfold F_liveryref07_Free
  have hn := hs.1
  refine nodes_s hs hl fun h1 l3 hl3 e1 => ⟨l3, rfl, ?_⟩
  have hnl := nodesS_len E
  have hl3n := hl3.1
  have hl3b := own_ltG hl3
  have z1 := e1.sz
  intro X hX
  have key : ∀ d i g lo2, d + i = (nodesS E).length → Ext [] h1 g → Own T_int 1 encIL h1.size g lo2 (((nodesS E).take i).filter fun n => (tg E n).isEmpty) → X [.slice lo2.a lo2.n lo2.c, .int .i64 (i : Int)] g := by
    intro d
    induction d with
    | zero =>
      intro i g lo2 hi e ho
      refine hX lo2 _ _ ?_
      rw [if_neg (by simp; omega)]
      rw [List.take_of_length_le (by omega)] at ho
      exact hQ g lo2 (ho.mono z1) (e1.trans0 e)
    | succ d ih =>
      intro i g lo2 hi e ho
      refine hX lo2 _ _ ?_
      rw [if_pos (by simp; omega)]
      have hiN : i < (nodesS E).length := by omega
      have htk : (nodesS E).take (i + 1) = (nodesS E).take i ++ [(nodesS E)[i]] := by rw [List.take_add_one, List.getElem?_eq_getElem hiN]; rfl
      obtain ⟨a, w1, w2⟩ := rdI (hl3.ext0 e).sl.reads (i := i) hiN
      intro J hJ Y hY
      have inner : ∀ d j b, d + j = E.length → b = !(tg (E.take j) (nodesS E)[i]).isEmpty → Y [.bool b, .int .i64 (j : Int)] g := by
        intro d
        induction d with
        | zero =>
          intro j b hj hb
          rw [List.take_of_length_le (by omega)] at hb
          refine hY _ _ _ ?_
          rw [if_neg (by simp; omega)]
          cases ht : (tg E (nodesS E)[i]).isEmpty with
          | true =>
            rw [hb, ht, if_pos (by decide), w1]
            simp only [nilW_some, Int.toNat_natCast]
            refine ⟨by omega, by omega, _, w2, ?_⟩
            have hfl := List.length_filter_le (fun n => (tg E n).isEmpty) ((nodesS E).take i)
            have htl : ((nodesS E).take i).length ≤ (nodesS E).length := by rw [List.length_take]; omega
            refine app1 (x := (nodesS E)[i]) ho rfl zcInt encIL_len encIL_one (by omega) (by decide) e.sz fun lo3 g2 ho3 f2 hb2 => ?_
            refine hJ lo3 _ ?_
            rw [wrap64 (by omega) (by omega)]
            have := ih (i + 1) g2 lo3 (by omega) (e.trans f2 fun b hb hlt => by have := ho.blk b hb; omega) (by rw [htk, List.filter_append]; simpa [ht] using ho3)
            simpa using this
          | false =>
            rw [hb, ht, if_neg (by decide)]
            refine hJ lo2 _ ?_
            rw [wrap64 (by omega) (by omega)]
            have := ih (i + 1) g lo2 (by omega) e (by rw [htk, List.filter_append]; simpa [ht] using ho)
            simpa using this
        | succ d ih2 =>
          intro j b hj hb
          refine hY _ _ _ ?_
          rw [if_pos (by simp; omega)]
          have hjl : j < E.length := by omega
          have htj : E.take (j + 1) = E.take j ++ [E[j]] := by rw [List.take_add_one, List.getElem?_eq_getElem hjl]; rfl
          have hts := tg_snoc (E.take j) E[j] (nodesS E)[i]
          intro J15 hJ15
          have go : ∀ b', b' = !(tg (E.take (j + 1)) (nodesS E)[i]).isEmpty → J15 [.bool b'] g := by
            intro b' hb'
            refine hJ15 _ _ ?_
            rw [wrap64 (by omega) (by omega)]
            have := ih2 (j + 1) b' (by omega) hb'
            simpa using this
          cases ht : (tg (E.take j) (nodesS E)[i]).isEmpty with
          | false =>
            rw [ht] at hb
            rw [hb, if_pos (by decide)]
            refine go _ ?_
            rw [htj, hts]
            have hne : tg (E.take j) (nodesS E)[i] ≠ [] := fun h5 => by rw [h5] at ht; cases ht
            split
            · simp
            · rw [ht]; rfl
          | true =>
            rw [ht] at hb
            rw [hb, if_neg (by decide)]
            obtain ⟨ae, u1, u2, u3⟩ := rdEk ((hs.ext0 e1).ext0 e) (i := j) hjl
            rw [u1, w1]
            simp only [nilW_some, Int.toNat_natCast]
            refine ⟨by omega, by omega, by omega, by omega, _, u2, by omega, by omega, _, w2, ?_⟩
            refine go _ ?_
            rw [htj, hts]
            have hnil : tg (E.take j) (nodesS E)[i] = [] := List.isEmpty_iff.1 ht
            by_cases hej : E[j].1 = (nodesS E)[i]
            · rw [if_pos hej, hnil]; simp [hej]
            · rw [if_neg hej, hnil]; simp [hej]
      have := inner E.length 0 false (by omega) (by simp [tg])
      simpa using this
  have := key (nodesS E).length 0 h1 ⟨none, 0, 0⟩ (by omega) (Ext.refl _ _) (by simpa using Own.nil _ _)
  simpa using this
theorem WaitTells_s {s : Sl} {E : List Edge} (hs : Reads 2 encE2 h s E) (hw : ∀ e ∈ E, (Lit.int .i64 e.1).wf = true ∧ (Lit.int .i64 e.2).wf = true) (hQ : ∀ h', Ext [] h h' → Q [.bool true] h') : F_liverylaw07_WaitTells s h Q := by
  unfold F_liverylaw07_WaitTells
  have hn := hs.1
  by_cases h40 : E.length > 40
  · rw [if_pos (by simp; omega)]
    exact wakes07_s fun h' e => ⟨_, rfl, hQ h' e⟩
  rw [if_neg (by simp; omega)]
  refine few_s hs (by omega) fun h1 l6 hl6 e1 hn1 => ⟨l6, rfl, ?_⟩
  refine Circles_s hl6.sl.reads (by omega) hw fun h2 oa ka hka e2 => ⟨oa, rfl, ?_⟩
  refine CirclesR_s ((hs.ext0 e1).ext0 e2) (by omega) fun h3 ob kb hkb e3 => ⟨ob, rfl, ?_⟩
  have hka3 := hka.ext0 e3
  have hal := hka3.len
  have hbl := hkb.len
  have han := hka3.own.1
  have hbn := hkb.own.1
  rw [if_neg (by simp; omega)]
  have hcl := circ_len E
  have hnl := nodesS_len E
  have e13 := (e1.trans0 e2).trans0 e3
  intro X hX
  have key : ∀ d i, d + i = (circ E).length → X [.int .i64 (i : Int)] h3 := by
    intro d
    induction d with
    | zero =>
      intro i hi
      refine hX _ _ ?_
      rw [if_neg (by simp; omega)]
      refine Victim_s ((hl6.ext0 e2).ext0 e3).sl.reads (by omega) hw fun h4 e4 => ⟨_, _, rfl, ?_⟩
      refine VictimR_s ((hs.ext0 e13).ext0 e4) (by omega) fun h5 e5 => ⟨_, _, rfl, ?_⟩
      have hl65 := (((hl6.ext0 e2).ext0 e3).ext0 e4).ext0 e5
      have e15 := (e13.trans0 e4).trans0 e5
      have hln := hl65.1
      intro Y hY
      have key2 : ∀ d j, d + j = E.length → Y [.int .i64 (j : Int)] h5 := by
        intro d
        induction d with
        | zero =>
          intro j hj
          refine hY _ _ ?_
          rw [if_neg (by simp; omega), if_pos (by simp), if_pos (by simp)]
          refine Free_s hl65.sl.reads (by omega) hw fun h6 oc hoc e6 => ⟨oc, rfl, ?_⟩
          refine FreeR_s (hs.ext0 (e15.trans0 e6)) (by omega) fun h7 od hod e7 => ⟨od, rfl, ?_⟩
          have hfl : (freeM E).length ≤ (nodesS E).length := by unfold freeM; exact List.length_filter_le _ _
          refine Ints_s (hoc.ext0 e7).sl.reads hod.sl.reads (by omega) ⟨_, rfl, ?_⟩
          rw [beq_self_eq_true, if_pos rfl]
          exact wakes07_s fun h8 e8 => ⟨_, rfl, hQ h8 (((e15.trans0 e6).trans0 e7).trans0 e8)⟩
        | succ d ih2 =>
          intro j hj
          refine hY _ _ ?_
          rw [if_pos (by simp; omega)]
          have hjl : j < E.length := by omega
          obtain ⟨a, w1, w2, w3⟩ := rdE hl65.sl.reads (i := j) hjl
          obtain ⟨b, u1, u2, u3⟩ := rdE (hs.ext0 e15) (i := j) hjl
          rw [w1, u1]
          simp only [nilW_some, Int.toNat_natCast]
          refine ⟨by omega, by omega, _, w2, _, w3, by omega, by omega, _, u2, _, u3, ?_⟩
          rw [if_neg (by simp), wrap64 (by omega) (by omega)]
          have := ih2 (j + 1) (by omega)
          simpa using this
      have := key2 E.length 0 (by omega)
      simpa using this
    | succ d ih =>
      intro i hi
      refine hX _ _ ?_
      rw [if_pos (by simp; omega)]
      have hil : i < (circ E).length := by omega
      obtain ⟨a, w1, w2⟩ := rdSl hka3.own (i := i) (by omega)
      obtain ⟨b, u1, u2⟩ := rdSl hkb.own (i := i) (by omega)
      rw [w1, u1]
      simp only [nilW_some, Int.toNat_natCast]
      refine ⟨by omega, by omega, ka[i]'(by omega), w2, by omega, by omega, kb[i]'(by omega), u2, ?_⟩
      have hkl := (circ_each (List.getElem_mem hil)).1
      refine Ints_s (hka3.each i (by omega) hil).sl.reads (hkb.each i (by omega) hil).sl.reads (by omega) ⟨_, rfl, ?_⟩
      rw [beq_self_eq_true, if_neg (by decide), wrap64 (by omega) (by omega)]
      have := ih (i + 1) (by omega)
      simpa using this
  have := key (circ E).length 0 (by omega)
  simpa using this
end
end Go.Lift

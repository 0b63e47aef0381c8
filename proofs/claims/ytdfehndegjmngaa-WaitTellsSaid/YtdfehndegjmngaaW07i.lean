/- The reference: Reach. -/
import Derived.Test.YtdfehndegjmngaaW07h
set_option linter.unusedSimpArgs false
set_option linter.unusedVariables false
namespace Go.Lift
open Go Go.Proofs
set_option maxRecDepth 100000
section
variable {h : Hp} {Q : List Value → Hp → Prop}
theorem ReachR_s {s : Sl} {E : List Edge} (hs : Reads 2 encE2 h s E) (hl : E.length ≤ 2 ^ 12) (src : Int)
    (hQ : ∀ h' o L, Own T_int 1 encIL h.size h' o L → L.length ≤ E.length → (∀ y, y ∈ L ↔ Rch E src y) → Ext [] h h' → Q [.slice o.a o.n o.c] h') : S_liveryref07_Reach s src h Q := by
  refine O_liveryref07_Reach _ _ ?_
  unfold F_liveryref07_Reach
  have hn := hs.1
  refine newI fun h1 s1 b1 e1 => ?_
  have hLN : ∀ L : List Int, L.Nodup → (∀ y ∈ L, Rch E src y) → L.length ≤ E.length := by
    intro L hn hr
    have := nodup_sub_len (M := E.map Prod.snd) hn fun y hy => by
      obtain ⟨z, hz⟩ := (hr y hy).tgt
      exact List.mem_map.2 ⟨_, hz, rfl⟩
    simpa using this
  intro X hX
  have key : ∀ d i g lm lt L, d + i = E.length + 1 → Ext [] h g → Own T_int 1 encIL h.size g lm L → Own T_int 1 encIL h.size g lt (src :: L) → (∀ b ∈ sBlk lm, b ∉ sBlk lt) → L.Nodup → (∀ y ∈ L, Rch E src y) → i ≤ L.length + 1 →
      (∀ x ∈ (src :: L).take i, ∀ v ∈ tg E x, v ∈ L) → X [.slice lm.a lm.n lm.c, .slice lt.a lt.n lt.c, .int .i64 (i : Int)] g := by
    intro d
    induction d with
    | zero =>
      intro i g lm lt L hi e hm ht hsep hnd hr hiL hC
      have hL := hLN L hnd hr
      have htn := ht.1
      simp only [List.length_cons] at htn
      refine hX lm lt _ _ ?_
      rw [if_neg (by simp; omega)]
      rw [List.take_of_length_le (by simp; omega)] at hC
      refine hQ g lm L hm hL (fun y => ⟨hr y, fun hy => ?_⟩) e
      induction hy with
      | one hab => exact hC _ (by simp) _ (mem_tg.2 hab)
      | step _ hbc ih => exact hC _ (List.mem_cons_of_mem _ ih) _ (mem_tg.2 hbc)
    | succ d ih =>
      intro i g lm lt L hi e hm ht hsep hnd hr hiL hC
      have htn := ht.1
      simp only [List.length_cons] at htn
      refine hX lm lt _ _ ?_
      by_cases hend : i = L.length + 1
      · rw [if_neg (by simp; omega)]
        have hL := hLN L hnd hr
        rw [List.take_of_length_le (by simp; omega)] at hC
        refine hQ g lm L hm hL (fun y => ⟨hr y, fun hy => ?_⟩) e
        induction hy with
        | one hab => exact hC _ (by simp) _ (mem_tg.2 hab)
        | step _ hbc ih => exact hC _ (List.mem_cons_of_mem _ ih) _ (mem_tg.2 hbc)
      · rw [if_pos (by simp; omega)]
        obtain ⟨x, hx⟩ : ∃ x, (src :: L)[i]? = some x := ⟨_, List.getElem?_eq_getElem (by simp; omega)⟩
        intro Y hY
        have inner : ∀ d k g lm lt L2, d + k = E.length → Ext [] h g → Own T_int 1 encIL h.size g lm L2 → Own T_int 1 encIL h.size g lt (src :: L2) → (∀ b ∈ sBlk lm, b ∉ sBlk lt) → L2.Nodup → (∀ y ∈ L2, Rch E src y) → L.length ≤ L2.length → (src :: L2)[i]? = some x → (∀ y ∈ (src :: L2).take i, ∀ v ∈ tg E y, v ∈ L2) →
            (∀ e ∈ E.take k, e.1 = x → e.2 ∈ L2) → Y [.slice lm.a lm.n lm.c, .slice lt.a lt.n lt.c, .int .i64 (k : Int)] g := by
          intro d
          induction d with
          | zero =>
            intro k g lm lt L2 hk e hm ht hsep hnd hr hle hx2 hC hE
            refine hY lm lt _ _ ?_
            rw [if_neg (by simp; omega), wrap64 (by omega) (by omega)]
            rw [List.take_of_length_le (by omega)] at hE
            have := ih (i + 1) g lm lt L2 (by omega) e hm ht hsep hnd hr (by omega) (fun y hy v hv => by
              rw [List.take_add_one, hx2] at hy
              rcases List.mem_append.1 hy with g5 | g5
              · exact hC y g5 v hv
              · simp at g5
                subst g5
                exact hE _ (mem_tg.1 hv) rfl)
            simpa using this
          | succ d ih2 =>
            intro k g lm lt L2 hk e hm ht hsep hnd hr hle hx2 hC hE
            refine hY lm lt _ _ ?_
            rw [if_pos (by simp; omega)]
            have hkl : k < E.length := by omega
            have htk : E.take (k + 1) = E.take k ++ [E[k]] := by rw [List.take_add_one, List.getElem?_eq_getElem hkl]; rfl
            have hL2 := hLN L2 hnd hr
            have hmb := own_ltG hm
            have htb := own_ltG ht
            have htn := ht.1
            have hmn := hm.1
            simp only [List.length_cons] at htn
            intro J hJ J16 hJ16
            obtain ⟨a, w1, w2, w3⟩ := rdEk (hs.ext0 e) (i := k) hkl
            rw [w1]
            simp only [nilW_some, Int.toNat_natCast]
            refine ⟨by omega, by omega, by omega, by omega, _, w2, ?_⟩
            have hiT : i < (src :: L2).length := by simp; omega
            obtain ⟨ka, u1, u2⟩ := rdI ht.sl.reads (i := i) hiT
            have hxe : (src :: L2)[i] = x := by
              rw [List.getElem?_eq_getElem hiT] at hx2
              exact Option.some.inj hx2
            rw [hxe] at u2
            rw [u1]
            simp only [nilW_some, Int.toNat_natCast]
            refine ⟨by omega, by omega, x, u2, ?_⟩
            have no : (E[k].1 = x → E[k].2 ∈ L2) → J16 [.bool false] g := by
              intro hno
              refine hJ16 _ _ ?_
              rw [if_neg (by decide)]
              refine hJ lm lt _ ?_
              rw [wrap64 (by omega) (by omega)]
              have := ih2 (k + 1) g lm lt L2 (by omega) e hm ht hsep hnd hr hle hx2 hC (fun e he h5 => by
                rw [htk] at he
                rcases List.mem_append.1 he with g5 | g5
                · exact hE e g5 h5
                · simp at g5; subst g5; exact hno h5)
              simpa using this
            by_cases hex : E[k].1 = x
            · rw [if_pos (by simp [hex])]
              refine ⟨by omega, by omega, by omega, by omega, _, w3, ?_⟩
              refine hasR_s hm.sl.reads (by omega) ⟨_, rfl, ?_⟩
              by_cases hin : E[k].2 ∈ L2
              · rw [List.contains_iff_mem.2 hin]
                exact no fun _ => hin
              · have hcf : L2.contains E[k].2 = false := by
                  cases hc : L2.contains E[k].2 with
                  | false => rfl
                  | true => exact absurd (List.contains_iff_mem.1 hc) hin
                rw [hcf]
                refine hJ16 _ _ ?_
                rw [if_pos (by decide), w1]
                simp only [nilW_some, Int.toNat_natCast]
                refine ⟨by omega, by omega, by omega, by omega, _, w3, ?_⟩
                refine app1 (x := E[k].2) hm rfl zcInt encIL_len encIL_one (by omega) (by decide) e.sz fun lm' g1 hm1 f1 hb1 => ?_
                have e1' : Ext [] h g1 := e.trans f1 fun b hb hlt => by have := hmb b hb; omega
                have ht1 : Own T_int 1 encIL h.size g1 lt (src :: L2) := ht.ext f1 fun a ha hmm => hsep _ hmm (mem_sBlk.2 ⟨a, ha, rfl⟩)
                obtain ⟨a2, x1, x2, x3⟩ := rdEk (hs.ext0 e1') (i := k) hkl
                obtain rfl : a2 = a := by rw [w1] at x1; exact (Option.some.inj x1).symm
                refine ⟨by omega, by omega, by omega, by omega, _, x3, ?_⟩
                have hxr : Rch E src E[k].2 := by
                  have hx3 := List.mem_of_getElem? hx2
                  have hek : (x, E[k].2) ∈ E := by rw [← hex]; exact List.getElem_mem _
                  rcases List.mem_cons.1 hx3 with g5 | g5
                  · subst g5; exact .one hek
                  · exact .step (hr x g5) hek
                have zg1 := e1'.sz
                refine app1 (x := E[k].2) ht1 rfl zcInt encIL_len encIL_one (by simp only [List.length_cons]; omega) (by decide) zg1 fun lt' g2 ht2 f2 hb2 => ?_
                have ht1b := own_ltG ht1
                have hm1b := own_ltG hm1
                have hsep1 : ∀ b ∈ sBlk lm', b ∉ sBlk lt := fun b hb hb' => by
                  rcases hb1 b hb with g5 | g5
                  · exact hsep b g5 hb'
                  · have := htb b hb'; omega
                refine hJ lm' lt' _ ?_
                rw [wrap64 (by omega) (by omega)]
                have hnd2 : (L2 ++ [E[k].2]).Nodup := by
                  rw [List.nodup_append]
                  refine ⟨hnd, by simp, fun a ha b hb => ?_⟩
                  simp at hb
                  subst hb
                  exact fun e => hin (e ▸ ha)
                have := ih2 (k + 1) g2 lm' lt' (L2 ++ [E[k].2]) (by omega) (e1'.trans f2 fun b hb hlt => by have := ht1b b hb; omega) (hm1.ext f2 fun a ha hmm => hsep1 _ (mem_sBlk.2 ⟨a, ha, rfl⟩) hmm) ht2 (fun b hb hb' => by
                  rcases hb2 b hb' with g5 | g5
                  · exact hsep1 b hb g5
                  · have := hm1b b hb; omega) hnd2 (fun y hy => by
                  rcases List.mem_append.1 hy with g5 | g5
                  · exact hr y g5
                  · simp at g5; subst g5; exact hxr) (by simp; omega) (by
                  rw [← List.cons_append, List.getElem?_append_left hiT]; exact hx2) (fun y hy v hv => by
                  rw [← List.cons_append, List.take_append_of_le_length (by omega)] at hy
                  exact List.mem_append_left _ (hC y hy v hv)) (fun e he h5 => by
                  rw [htk] at he
                  rcases List.mem_append.1 he with g5 | g5
                  · exact List.mem_append_left _ (hE e g5 h5)
                  · simp at g5; subst g5; simp)
                simpa using this
            · rw [if_neg (by simp [hex])]
              exact no fun g5 => absurd g5 hex
        have := inner E.length 0 g lm lt L (by omega) e hm ht hsep hnd hr (Nat.le_refl _) hx hC (by simp)
        simpa using this
  have := key (E.length + 1) 0 h1 ⟨none, 0, 0⟩ ⟨some ⟨h.size, 0, none⟩, 1, 1⟩ [] (by omega) e1 (Own.nil _ _) ⟨rfl, fun e => (by cases e), fun a ha => by cases ha; exact ⟨h.size, _, rfl, Nat.le_refl _, b1, by simp, by simp, by simp⟩⟩ (by simp [sBlk]) (by simp) (by simp) (by simp) (by simp)
  simpa using this
end
end Go.Lift

/- The evaluator's operations are sound, all of them. -/
import Derived.Test.YtgmbhlfecbpclacGreatDoorXk
set_option linter.unusedSimpArgs false
set_option linter.unusedVariables false
namespace Go.Lift
open Go
section
variable {P : Program} {E : EX} {C : XH} {h : Hp}
/-! ### append -/
theorem zeroCells_size (z : Array Value) (n : Nat) : (Builtin.zeroCells z n).size = n * z.size := by simp [Builtin.zeroCells]
theorem take_pre {l : List XV} {c : Array Value} (hl : l.length ≤ c.size) (hp : ∀ (i : Nat) (x : XV), l[i]? = some x → ∃ u, c[i]? = some u ∧ RV E x u) : RVs E l (c.toList.take l.length) := by
  refine RVs_iff.2 ⟨by simp; omega, fun i x hx => ?_⟩
  have hi : i < l.length := by
    rcases Nat.lt_or_ge i l.length with g | g
    · exact g
    · rw [List.getElem?_eq_none g] at hx; cases hx
  obtain ⟨u, h1, h2⟩ := hp i x hx
  exact ⟨u, by rw [List.getElem?_take_of_lt hi]; simpa using h1, h2⟩
theorem appS_sound {e : TypeId} {bytes sz : Nat} {s r : XV} {m : Nat} {new : List XV} {us : List Value} {av : Value} {C' : XH} {K : Sl → Hp → Prop} (H : RH P E C h) (hr : appS_X e bytes sz C s m new = some (r, C'))
    (hsz : szOf P e = some sz) (hz : (zc P e).size = sz) (hs : RV E s av) (hn : RVs E new us)
    (hK : ∀ E' s' h', Adv E C h E' C' h' → RH P E' C' h' → RV E' r (.slice s'.a s'.n s'.c) → K s' h') : ∃ s0 : Sl, av = .slice s0.a s0.n s0.c ∧ appS P e bytes sz h s0 m us K := by
  unfold appS_X at hr
  split at hr
  · rename_i a n c ex
    split at hr
    · rename_i hcond
      simp only [Bool.and_eq_true] at hcond
      obtain ⟨⟨⟨c1, c2⟩, c3⟩, c4⟩ := hcond
      have c1 := Nat.le_of_ble_eq_true c1
      have c2 := Nat.le_of_ble_eq_true c2
      have c3 := Nat.eq_of_beq_eq_true c3
      rw [lenX_0] at c3
      have hone := all_one hn (allOneX_of c4)
      have hlen : us.length = m * sz := by rw [hn.len]; exact c3
      split at hr
      · simp only [RV] at hs
        refine ⟨⟨none, 0, 0⟩, hs, ?_, ?_⟩
        · have hm1 : m ≤ 2 ^ 47 := by omega
          have hm2 : m * bytes ≤ 2 ^ 47 := Nat.le_trans (Nat.mul_le_mul_right _ (Nat.le_add_left _ _)) c2
          exact ⟨by simpa using hm1, by simpa using hm2, hlen, hone, fun _ => ⟨[], rfl⟩, fun _ a ha => by cases ha⟩
        · intro s' h' hA
          rcases m with _ | m
          · simp only [Option.some.injEq, Prod.mk.injEq] at hr; obtain ⟨rfl, rfl⟩ := hr
            cases hA with
            | room a h1 h2 => cases h2
            | none h1 h2 => exact hK _ _ _ (.refl _ _ _) H rfl
            | grow old cap h1 _ _ => simp at h1
          · simp only at hr
            have := newX_some hr
            simp only [Prod.mk.injEq] at this
            obtain ⟨rfl, rfl⟩ := this
            cases hA with
            | room a h1 h2 => cases h2
            | none h1 h2 => simp at h1
            | grow old cap h1 h2 h3 =>
              simp only [cellsAt] at h2
              subst h2
              simp only [Nat.zero_add, List.nil_append] at h3 ⊢
              have hsD : szD P e = sz := by simp [szD, hsz]
              obtain ⟨g1, g2⟩ := H.new (l := new) (c := us.toArray ++ Builtin.zeroCells (zc P e) (cap - (m + 1))) (e := e) (x := cap - (m + 1)) (fun i v hv => by
                obtain ⟨u, k1, k2⟩ := hn.get hv
                have hi : i < us.length := by
                  rcases Nat.lt_or_ge i us.length with g | g
                  · exact g
                  · rw [List.getElem?_eq_none g] at k1; cases k1
                exact ⟨u, by rw [Array.getElem?_append_left (by simpa using hi)]; simpa using k1, k2⟩) (by
                rw [Array.size_append, zeroCells_size, hz, hsD, c3, List.size_toArray, hlen]
                exact Nat.le_refl _)
              refine hK _ _ _ g2 g1 ⟨_, updE_new _ _ _, ?_⟩
              simp only
              rw [show m + 1 + (cap - (m + 1)) = cap by omega]
      · rename_i k o
        have hb : ∃ b c', E k = some b ∧ av = .slice (some ⟨b.1, o, none⟩) n c' ∧ c' = if ex then c else c + b.2 := by
          cases ex with
          | true => obtain ⟨b, h1, h2⟩ := hs; exact ⟨b, c, h1, h2, rfl⟩
          | false => obtain ⟨b, h1, h2⟩ := hs; exact ⟨b, _, h1, h2, rfl⟩
        obtain ⟨b, c', hb, rfl, hc'⟩ := hb
        refine ⟨⟨some ⟨b.1, o, none⟩, n, c'⟩, rfl, ?_⟩
        split at hr
        · rename_i hfit
          have hfit := Nat.le_of_ble_eq_true hfit
          have hfit' : n + m ≤ c' := by rw [hc']; split <;> omega
          split at hr
          · rename_i C1 hC
            simp only [fN_eq, Option.some.injEq, Prod.mk.injEq] at hr
            obtain ⟨rfl, rfl⟩ := hr
            obtain ⟨b', cc, e', h1, h2, h3, h4, h5, h6⟩ := stcX_of H hC hn
            rw [hb] at h1; cases h1
            refine ⟨⟨c1, c2, hlen, hone, fun g => by simp only at g; omega, fun _ a ha => ?_⟩, ?_⟩
            · cases ha
              simp only [addr_mk]
              rw [← hlen]; exact h4
            · intro s' h' hA
              cases hA with
              | room a g1 g2 =>
                cases g2
                simp only [addr_mk]
                refine hK _ _ _ h6 h5 ?_
                cases ex with
                | true => simp only [if_true] at hc'; subst hc'; exact ⟨b, hb, rfl⟩
                | false => simp only [Bool.false_eq_true, if_false] at hc'; subst hc'; exact ⟨b, hb, rfl⟩
              | none g1 g2 => cases g2
              | grow old cap g1 _ _ => simp only at g1; omega
          · cases hr
        · rename_i hfit
          have hfit : c < n + m := by
            rcases Nat.lt_or_ge c (n + m) with g | g
            · exact g
            · rw [Nat.ble_eq_true_of_le g] at hfit; cases hfit
          split at hr
          · rename_i old hold
            obtain ⟨b', olds, h1, h2, h3, h4⟩ := cellsX_rd H hold
            rw [hb] at h1; cases h1
            have hsD : szD P e = sz := by simp [szD, hsz]
            have hall : RVs E (old ++ new) (olds ++ us) := h2.app hn
            have hl2 : (old ++ new).length = (n + m) * sz := by rw [List.length_append, h3, c3, Nat.add_mul]
            have hl3 : (olds ++ us).length = (n + m) * sz := by rw [hall.len]; exact hl2
            have grown : ∀ {C0 : XH} (H0 : RH P E C0 h) (cap : Nat), n + m ≤ cap →
                RH P (updE E C0.length (h.size, cap - (n + m))) (C0 ++ [.cells (old ++ new) e]) (h.push (.cells ((olds ++ us).toArray ++ Builtin.zeroCells (zc P e) (cap - (n + m))) e)) ∧
                Adv E C0 h (updE E C0.length (h.size, cap - (n + m))) (C0 ++ [.cells (old ++ new) e]) (h.push (.cells ((olds ++ us).toArray ++ Builtin.zeroCells (zc P e) (cap - (n + m))) e)) := fun {C0} H0 cap hcap =>
              H0.new (fun i v hv => by
                obtain ⟨u, k1, k2⟩ := hall.get hv
                have hi : i < (olds ++ us).length := by
                  rcases Nat.lt_or_ge i (olds ++ us).length with g | g
                  · exact g
                  · rw [List.getElem?_eq_none g] at k1; cases k1
                exact ⟨u, by rw [Array.getElem?_append_left (by simpa using hi)]; simpa using k1, k2⟩) (by
                rw [Array.size_append, zeroCells_size, hz, hsD, hl2, List.size_toArray, hl3]
                exact Nat.le_refl _)
            split at hr
            · simp only [if_true] at hc'
              subst hc'
              simp only [fN_eq, appX_eq] at hr
              have := newX_some hr
              simp only [Prod.mk.injEq] at this
              obtain ⟨rfl, rfl⟩ := this
              refine ⟨⟨c1, c2, hlen, hone, fun _ => ⟨olds, h4⟩, fun g => by simp only at g; omega⟩, ?_⟩
              intro s' h' hA
              cases hA with
              | room a g1 g2 => simp only at g1; omega
              | none g1 g2 => cases g2
              | grow old' cap g1 g2 g3 =>
                have := cellsAt_det g2 h4
                subst this
                obtain ⟨k1, k2⟩ := grown H cap g3
                refine hK _ _ _ k2 k1 ⟨_, updE_new _ _ _, ?_⟩
                simp only at g3 ⊢
                rw [show n + m + (cap - (n + m)) = cap by omega]
            · simp only [Bool.false_eq_true, if_false] at hc'
              subst hc'
              split at hr
              · rename_i o0 _ l0 e0 hk
                rw [nthX_eq] at hk
                split at hr
                · rename_i hwhole
                  simp only [Bool.and_eq_true] at hwhole
                  have w1 := Nat.eq_of_beq_eq_true hwhole.1.1
                  have w2 := Nat.eq_of_beq_eq_true hwhole.1.2
                  have w3 := Nat.eq_of_beq_eq_true hwhole.2
                  rw [lenX_0] at w1
                  subst w2 w3
                  split at hr
                  · rename_i C1 hC
                    obtain ⟨_, rfl⟩ := setX_some hC
                    simp only [fN_eq, appX_eq] at hr
                    have := newX_some hr
                    simp only [Prod.mk.injEq] at this
                    obtain ⟨rfl, rfl⟩ := this
                    obtain ⟨b', q1, _, cc, q2, q3, q4⟩ := H.id hk
                    rw [hb] at q1; cases q1
                    refine ⟨⟨c1, c2, hlen, hone, fun _ => ⟨olds, h4⟩, fun g a ha => ?_⟩, ?_⟩
                    · cases ha
                      simp only at g
                      simp only [addr_mk]
                      refine stOk_blk q2 ?_
                      have : m * sz ≤ b.2 * sz := Nat.mul_le_mul_right _ (by omega)
                      rw [hsD] at q3
                      omega
                    · intro s' h' hA
                      cases hA with
                      | room a g1 g2 =>
                        cases g2
                        simp only at g1
                        have hms : m * sz ≤ b.2 * sz := Nat.mul_le_mul_right _ (by omega)
                        rw [hsD] at q3
                        have hfitc : n * sz + us.length ≤ cc.size := by omega
                        have hwr : wrs h (Addr.add ⟨b.1, 0, none⟩ (n * sz)) 0 us = h.setIfInBounds b.1 (.cells (putAt cc (n * sz) us) e0 (0, 0)) := by
                          rw [addr_mk, wrs_blk us q2]; simp
                        have ro : RO P (updE E C.length (b.1, b.2 - m)) (h.setIfInBounds b.1 (.cells (putAt cc (n * sz) us) e0 (0, 0))) (b.1, b.2 - m) (.cells (old ++ new) e0) := by
                          refine ⟨_, set_blk q2, ?_, fun i v hv => ?_⟩
                          · rw [putAt_size, hl2, hsD, ← Nat.add_mul]
                            rw [show n + m + (b.2 - m) = n + b.2 by omega, Nat.add_mul]
                            omega
                          · obtain ⟨u, k1, k2⟩ := hall.get hv
                            refine ⟨u, ?_, k2.grow (H.grow _)⟩
                            rw [putAt_get0 _ _ _ _ hfitc]
                            have hlo : olds.length = n * sz := h4.1
                            rw [List.getElem?_append] at k1
                            split at k1
                            · rename_i g
                              rw [if_neg (by omega)]
                              have := h4.2 i (by omega)
                              rw [addr_mk, rd_blk q2, Nat.zero_add] at this
                              rw [this]; exact k1
                            · rename_i g
                              have hi : i - olds.length < us.length := by
                                rcases Nat.lt_or_ge (i - olds.length) us.length with g | g
                                · exact g
                                · rw [List.getElem?_eq_none g] at k1; cases k1
                              rw [if_pos (by omega), ← hlo]; exact k1
                        obtain ⟨k1, k2⟩ := H.rename hk rfl hb (h' := h.setIfInBounds b.1 (.cells (putAt cc (n * sz) us) e0 (0, 0))) (by simp) (fun j hj => by rw [Array.getElem?_setIfInBounds]; simp [Ne.symm hj]) ro
                        rw [hwr]
                        refine hK _ _ _ k2 k1 ⟨_, by rw [List.length_set]; exact updE_new _ _ _, ?_⟩
                        simp only
                        rw [show n + m + (b.2 - m) = n + b.2 by omega]
                      | none g1 g2 => cases g2
                      | grow old' cap g1 g2 g3 =>
                        have := cellsAt_det g2 h4
                        subst this
                        obtain ⟨k1, k2⟩ := H.kill k
                        obtain ⟨k3, k4⟩ := grown k1 cap g3
                        rw [List.length_set] at k3 k4
                        refine hK _ _ _ (k2.trans k4) k3 ⟨_, by rw [List.length_set]; exact updE_new _ _ _, ?_⟩
                        simp only at g3 ⊢
                        rw [show n + m + (cap - (n + m)) = cap by omega]
                  · cases hr
                · cases hr
              · cases hr
          · cases hr
    · cases hr
  · cases hr
end
end Go.Lift

/- LeafOrder: keys stand in order over all leaves. -/
import Derived.Test.YtempffmkbpglfaaL10w
set_option linter.unusedSimpArgs false
set_option linter.unusedVariables false
namespace Go.Lift
open Go Go.Proofs
set_option maxRecDepth 100000
theorem lb_snd (l : List OneM) : (lb l).map Prod.snd = l := by
  cases l with
  | nil => rfl
  | cons o l =>
    show o :: (sb l).map Prod.snd = _
    unfold sb
    rw [List.map_map, show (Prod.snd ∘ fun p : OneM => (some p.bound, p)) = id from rfl, List.map_id]
theorem flat_ord {l : List OneM} (w : WF l) : InOrder (l.flatMap OneM.keys) := by
  unfold InOrder
  rw [List.pairwise_flatMap]
  refine ⟨fun o ho => wf_ord w o ho, ?_⟩
  rw [← lb_snd l, List.pairwise_map, List.pairwise_iff_getElem]
  intro i j hi hj hij a ha b hb
  obtain ⟨bb, g1, g2, g3⟩ := List.pairwise_iff_getElem.1 w.1 i j hi hj hij
  have := (w.2 _ (List.getElem_mem hj)).2 b hb bb g1
  exact sLt_le (g2 a ha) this
theorem split_at {l : List OneM} {i : Nat} (hi : i < l.length) : l = l.take i ++ l[i] :: l.drop (i + 1) := by
  conv => lhs; rw [← List.take_append_drop i l, List.drop_eq_getElem_cons hi]
theorem here {l : List OneM} (w : WF l) {i : Nat} (hi : i < l.length) {k : ByteArray} (hk : k ∈ l[i].keys) : atL l k = i ∧ ofL l k = l[i].n := by
  have e := split_at hi
  have hw := w
  rw [e] at hw
  have ws := wf_split.1 hw
  have h1 := ws.po.2 k hk
  have h2 : ∀ p ∈ l.drop (i + 1), sLt k p.bound = true := by
    intro p hp
    obtain ⟨bb, g1, g2, g3⟩ := ws.ob p hp
    cases g1
    exact g2 k hk
  have hlen : (l.take i).length = i := by simp; omega
  constructor
  · have := (at_iff ws k).2 ⟨h1, h2⟩
    rw [← e, hlen] at this
    exact this
  · have := ofL_here ws h1 h2
    rw [← e] at this
    exact this
theorem keys_at {M : LeafM} {n : Nat} (ok : OkM M n) {i : Nat} (hi : i < M.l.length) : keysOf M.l M.l[i].n = some M.l[i].keys := by
  unfold keysOf
  rw [find_at _ M.l i hi (fun p hp => ?_) (by simp)]
  · rfl
  · obtain ⟨j, hj, rfl⟩ := List.getElem_of_mem hp
    rw [List.length_take] at hj
    rw [List.getElem_take]
    have := List.pairwise_iff_getElem.1 ok.nd j i (by simp; omega) (by simpa using hi) (by omega)
    simpa using this
theorem sumL_flat (l : List OneM) : sumL l = ((l.flatMap OneM.keys).length : Int) := by
  have key : ∀ (l : List OneM) (a : Int), l.foldl (fun n o => n + (o.keys.length : Int)) a = a + ((l.flatMap OneM.keys).length : Int) := by
    intro l
    induction l with
    | nil => intro a; simp
    | cons o l ih =>
      intro a
      rw [List.foldl_cons, ih, List.flatMap_cons, List.length_append]
      omega
  unfold sumL
  rw [key l 0]
  omega
theorem flat_at {l : List OneM} {i : Nat} (hi : i < l.length) {j : Nat} (hj : j < l[i].keys.length) : (l.flatMap OneM.keys)[((l.take i).flatMap OneM.keys).length + j]? = some l[i].keys[j] := by
  have e : l.flatMap OneM.keys = (l.take i).flatMap OneM.keys ++ (l[i].keys ++ (l.drop (i + 1)).flatMap OneM.keys) := by
    conv => lhs; rw [split_at hi, List.flatMap_append, List.flatMap_cons]
  rw [e, List.getElem?_append_right (by omega), Nat.add_sub_cancel_left, List.getElem?_append_left hj, List.getElem?_eq_getElem hj]
theorem flat_len (l : List OneM) (k : Nat) (h : ∀ o ∈ l, o.keys.length ≤ k) : (l.flatMap OneM.keys).length ≤ l.length * k := by
  induction l with
  | nil => simp
  | cons o l ih =>
    have h3 := ih fun o' ho' => h o' (List.mem_cons_of_mem _ ho')
    have h4 := h o (by simp)
    rw [List.flatMap_cons, List.length_append, List.length_cons, Nat.add_mul]
    omega
theorem step_fan (M : LeafM) (c : Int) (k : ByteArray) : (M.step c k).1.fan = M.fan := by
  unfold LeafM.step LeafM.ins LeafM.rem LeafM.insAt LeafM.remAt
  split
  · split
    · rfl
    · split
      · rfl
      · split
        · rfl
        · split <;> rfl
  · split
    · rfl
    · split
      · rfl
      · split <;> rfl
section
variable {h : Hp} {Q : List Value → Hp → Prop}
theorem fair_len {xs : List StepL} (hf : fairB xs = true) : xs.length ≤ 200 := by
  unfold fairB at hf
  simp only [Bool.and_eq_true, decide_eq_true_eq] at hf
  exact hf.2
theorem LeafOrder_s {fan : Int} {a : Sl} {xs : List StepL} (ha : Reads 3 encT h a xs) (hlen : xs.length ≤ 9223372036854775807) (hQ : ∀ h', Ext [] h h' → Q [.bool true] h') : F_liverylaw10_LeafOrder fan a h Q := by
  unfold F_liverylaw10_LeafOrder
  refine Mod_s (by decide) (by decide) fun m hm0 hm6 => ⟨_, rfl, ?_⟩
  rw [wrap64 (x := 2 + m) (by omega) (by omega)]
  refine New_L (by omega) fun h1 x hv1 e1 => ⟨_, _, rfl, ?_⟩
  intro J hJ
  rw [if_neg (by decide)]
  refine fair_s (ha.ext0 e1) hlen ⟨_, rfl, ?_⟩
  cases hfa : fairB xs with
  | false =>
    refine hJ _ _ ?_
    rw [if_pos (by decide)]
    intro J2 hJ2
    rw [if_pos (by decide)]
    refine wakes10_s fun h2 e2 => ⟨_, rfl, ?_⟩
    exact hJ2 _ _ (hQ h2 (e1.trans0 e2))
  | true =>
    have hl200 := fair_len hfa
    refine hJ _ _ ?_
    rw [if_neg (by decide)]
    intro X hX
    have han := ha.1
    have key : ∀ d i g M, d + i = xs.length → Lv h.size (fun _ => False) g x M → Ext [] h g → OkM M i → M.fan = 2 + m → X [.int .i64 (i : Int)] g := by
      intro d
      induction d with
      | zero =>
        intro i g M hi hv e ok hfan
        refine hX _ _ ?_
        rw [if_neg (by simp; omega)]
        have okn : i < 2 ^ 15 := by omega
        refine All_L hv ok okn fun g1 sa hv1 e1 hoa => ⟨sa, rfl, ?_⟩
        have hsn := hoa.1
        rw [List.length_map] at hsn
        have hMl := ok.len
        have hMne : 0 < M.l.length := List.length_pos_iff.2 ok.ne
        have hord := flat_ord ok.wf
        have hFl : ∀ j, ((M.l.take j).flatMap OneM.keys).length ≤ 2 ^ 30 := by
          intro j
          have h1 := flat_len (M.l.take j) (2 ^ 10) fun o ho => (ok.ord o (List.mem_of_mem_take ho)).2
          have h2 : (M.l.take j).length ≤ 2 ^ 15 := by simp; omega
          have := Nat.mul_le_mul_right (2 ^ 10) h2
          omega
        intro Y hY
        have key2 : ∀ d j g2 last, d + j = M.l.length → Lv h.size (fun _ => False) g2 x M → Ext [] g1 g2 →
            (∀ p, p + 1 = ((M.l.take j).flatMap OneM.keys).length → (M.l.flatMap OneM.keys)[p]? = some last) →
            Y [.string last, .int .i64 (((M.l.take j).flatMap OneM.keys).length : Nat), .int .i64 (j : Int)] g2 := by
          intro d
          induction d with
          | zero =>
            intro j g2 last hj hv2 e2 hlast
            refine hY _ _ _ _ ?_
            rw [if_neg (by simp; omega)]
            refine Len_L hv2 ok okn ⟨_, rfl, ?_⟩
            rw [sumL_flat, List.take_of_length_le (by omega), if_pos (by simp), if_pos (by simp; omega)]
            refine wakes10_s fun g3 e3 => ⟨_, rfl, ?_⟩
            exact hQ g3 (((e.trans0 e1).trans0 e2).trans0 e3)
          | succ d ih2 =>
            intro j g2 last hj hv2 e2 hlast
            refine hY _ _ _ _ ?_
            rw [if_pos (by simp; omega)]
            have hjl : j < M.l.length := by omega
            have hoa2 := (hoa.ext0 e2).sl.reads
            obtain ⟨aa, w1, w2⟩ := rdI hoa2 (i := j) (by simp; omega)
            rw [w1]
            simp only [nilW_some, Int.toNat_natCast]
            refine ⟨by omega, by omega, _, w2, ?_⟩
            rw [List.getElem_map]
            refine Keys_L hv2 ok okn _ fun g3 sk hv3 e3 hok => ⟨sk, rfl, ?_⟩
            rw [keys_at ok hjl, Option.getD_some] at hok
            have hkn := hok.1
            have hkl := ok.keys _ (List.getElem_mem hjl)
            have hcl : ((M.l.take (j + 1)).flatMap OneM.keys).length = ((M.l.take j).flatMap OneM.keys).length + M.l[j].keys.length := by
              rw [List.take_add_one, List.getElem?_eq_getElem hjl, Option.toList_some, List.flatMap_append, List.length_append]
              simp
            have hFj := hFl j
            have hFj1 := hFl (j + 1)
            intro J3 hJ3
            have go : J3 [.bool false] g3 := by
              refine hJ3 _ _ ?_
              rw [if_neg (by decide)]
              intro Z hZ
              have key3 : ∀ d i2 g4 last2, d + i2 = M.l[j].keys.length → Lv h.size (fun _ => False) g4 x M → Ext [] g3 g4 →
                  (∀ p, p + 1 = ((M.l.take j).flatMap OneM.keys).length + i2 → (M.l.flatMap OneM.keys)[p]? = some last2) →
                  Z [.string last2, .int .i64 ((((M.l.take j).flatMap OneM.keys).length + i2 : Nat) : Int), .int .i64 (i2 : Int)] g4 := by
                intro d
                induction d with
                | zero =>
                  intro i2 g4 last2 hi2 hv4 e4 hlast2
                  refine hZ _ _ _ _ ?_
                  rw [if_neg (by simp; omega), wrap64 (by omega) (by omega)]
                  have := ih2 (j + 1) g4 last2 (by omega) hv4 ((e2.trans0 e3).trans0 e4) (by rw [hcl]; intro p hp; exact hlast2 p (by omega))
                  rw [hcl] at this
                  rw [show i2 = M.l[j].keys.length by omega]
                  simpa using this
                | succ d ih3 =>
                  intro i2 g4 last2 hi2 hv4 e4 hlast2
                  refine hZ _ _ _ _ ?_
                  have hil : i2 < M.l[j].keys.length := by omega
                  rw [if_pos (by simp; omega)]
                  have hok4 := (hok.ext0 e4).sl.reads
                  have hoa4 := (hoa.ext0 ((e2.trans0 e3).trans0 e4)).sl.reads
                  obtain ⟨ka, u1, u2⟩ := rdB hok4 (i := i2) hil
                  obtain ⟨aa4, v1, v2⟩ := rdI hoa4 (i := j) (by simp; omega)
                  rw [List.getElem_map] at v2
                  obtain rfl : aa4 = aa := by rw [w1] at v1; exact (Option.some.inj v1).symm
                  have hmem : M.l[j].keys[i2] ∈ M.l[j].keys := List.getElem_mem _
                  obtain ⟨hat, hof⟩ := here ok.wf hjl hmem
                  have hfa := flat_at hjl hil
                  intro J4 hJ4
                  have fin : J4 [.bool false] g4 := by
                    refine hJ4 _ _ ?_
                    rw [if_neg (by decide), u1]
                    simp only [nilW_some, Int.toNat_natCast]
                    refine ⟨by omega, by omega, _, u2, ?_⟩
                    rw [wrap64 (by omega) (by omega), wrap64 (by omega) (by omega)]
                    have := ih3 (i2 + 1) g4 M.l[j].keys[i2] (by omega) hv4 e4 (by
                      intro p hp
                      rw [show p = ((M.l.take j).flatMap OneM.keys).length + i2 by omega]
                      exact hfa)
                    simpa [Int.add_assoc] using this
                  have hhas : hasK (M.l[atL M.l M.l[j].keys[i2]]'(atL_lt ok.ne _)).keys M.l[j].keys[i2] = true := by
                    refine hasK_iff.2 ?_
                    simp only [hat]
                    exact hmem
                  by_cases h0 : 0 < ((M.l.take j).flatMap OneM.keys).length + i2
                  · rw [if_pos (decide_eq_true (by omega)), u1]
                    simp only [nilW_some, Int.toNat_natCast]
                    refine ⟨by omega, by omega, _, u2, ?_⟩
                    have hl2 := hlast2 (((M.l.take j).flatMap OneM.keys).length + i2 - 1) (by omega)
                    have hlt2 : sLt last2 M.l[j].keys[i2] = true := by
                      obtain ⟨p1, p2⟩ := List.getElem?_eq_some_iff.1 hl2
                      obtain ⟨p3, p4⟩ := List.getElem?_eq_some_iff.1 hfa
                      have := List.pairwise_iff_getElem.1 hord _ _ p1 p3 (by omega)
                      rw [p2, p4] at this
                      exact this
                    have hs1 : (Op.bytesLess M.l[j].keys[i2].toList last2.toList || M.l[j].keys[i2].toList == last2.toList) = false := by
                      have e1 : Op.bytesLess M.l[j].keys[i2].toList last2.toList = sLt M.l[j].keys[i2] last2 := rfl
                      rw [e1, sLt_asymm hlt2, Bool.false_or, beq_eq_false_iff_ne]
                      intro e
                      rw [toList_inj e, sLt_irrefl] at hlt2
                      cases hlt2
                    rw [hs1, if_neg (by decide)]
                    refine ⟨by omega, by omega, _, u2, ?_⟩
                    refine ⟨by omega, by omega, _, v2, ?_⟩
                    refine Of_L hv4 ok okn _ ⟨_, rfl, v2, ?_⟩
                    rw [hof, if_neg (by simp)]
                    refine ⟨by omega, by omega, _, u2, ?_⟩
                    refine Has_L hv4 ok okn _ ⟨_, rfl, ?_⟩
                    rw [hhas]
                    exact fin
                  · rw [if_neg (by rw [decide_eq_true_eq]; omega), u1]
                    simp only [nilW_some, Int.toNat_natCast]
                    refine ⟨by omega, by omega, _, u2, ?_⟩
                    refine ⟨by omega, by omega, _, v2, ?_⟩
                    refine Of_L hv4 ok okn _ ⟨_, rfl, v2, ?_⟩
                    rw [hof, if_neg (by simp)]
                    refine ⟨by omega, by omega, _, u2, ?_⟩
                    refine Has_L hv4 ok okn _ ⟨_, rfl, ?_⟩
                    rw [hhas]
                    exact fin
              have := key3 M.l[j].keys.length 0 g3 last (by omega) hv3 (Ext.refl _ _) (by simpa using hlast)
              simpa using this
            rw [if_neg (by simp; omega)]
            by_cases hk0 : M.l[j].keys.length = 0
            · rw [if_pos (by simp; omega)]
              have hone : ¬ 1 < M.l.length := fun h1 => ok.full h1 _ (List.getElem_mem hjl) (List.eq_nil_of_length_eq_zero hk0)
              rw [show (decide ((sa.n : Int) > 1)) = false by simp; omega]
              exact go
            · rw [if_neg (by simp; omega)]
              exact go
        have := key2 M.l.length 0 g1 (ByteArray.mk #[]) (by omega) hv1 (Ext.refl _ _) (by intro p hp; simp at hp)
        simpa using this
      | succ d ih =>
        intro i g M hi hv e ok hfan
        refine hX _ _ ?_
        rw [if_pos (by simp; omega)]
        have hil : i < xs.length := by omega
        obtain ⟨aa, w1, w2, w3, w4⟩ := rdT (ha.ext0 e) (i := i) hil
        rw [w1]
        simp only [nilW_some, Int.toNat_natCast]
        refine ⟨by omega, by omega, _, w2, _, w3, _, w4, ?_⟩
        refine do_s hv ok (by omega) _ _ _ fun g2 S hv2 e2 hS => ⟨_, _, _, _, rfl, ?_⟩
        rw [wrap64 (by omega) (by omega)]
        have hstep := step_ok ok xs[i].kind xs[i].key
        have := ih (i + 1) g2 _ (by omega) hv2 (e.trans e2 fun b hb hlt => by have := (hS b hb).1; omega) hstep.1 (by rw [step_fan]; exact hfan)
        simpa using this
    have := key xs.length 0 h1 _ (by omega) hv1 e1 (new_ok (by omega)) rfl
    simpa using this
end
end Go.Lift

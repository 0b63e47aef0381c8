/- The reference's leaves: Remove. -/
import Derived.Test.YtempffmkbpglfaaL10o2
set_option linter.unusedSimpArgs false
set_option linter.unusedVariables false
namespace Go.Lift
open Go Go.Proofs
set_option maxRecDepth 100000
theorem cutK_filter {xs : List ByteArray} (ho : InOrder xs) {k : ByteArray} (hk : hasK xs k = true) : xs.filter (fun s => !(s.toList == k.toList)) = cutK xs k := by
  have hm := hasK_iff.1 hk
  obtain ⟨j, hj, rfl⟩ := List.getElem_of_mem hm
  have hin := List.pairwise_iff_getElem.1 ho
  have hpos : posK xs xs[j] = j := posK_eq (by omega) (fun a ha hlt => hin a j ha hj hlt) fun a ha hle => by
    rcases (by omega : a = j ∨ j < a) with g | g
    · subst g; exact sLt_irrefl _
    · exact sLt_asymm (hin j a hj ha g)
  unfold cutK
  rw [hpos]
  have e : xs = xs.take j ++ xs[j] :: xs.drop (j + 1) := by
    conv => lhs; rw [← List.take_append_drop j xs, List.drop_eq_getElem_cons hj]
  have ne : ∀ {a b : ByteArray}, sLt a b = true → (a.toList == b.toList) = false := by
    intro a b h
    rw [beq_eq_false_iff_ne]
    intro e
    rw [toList_inj e, sLt_irrefl] at h
    cases h
  have ne2 : ∀ {a b : ByteArray}, sLt b a = true → (a.toList == b.toList) = false := by
    intro a b h
    rw [beq_eq_false_iff_ne]
    intro e
    rw [toList_inj e, sLt_irrefl] at h
    cases h
  have h1 : (xs.take j).filter (fun s => !(s.toList == xs[j].toList)) = xs.take j := by
    refine List.filter_eq_self.2 fun s hs => ?_
    obtain ⟨i, hi, rfl⟩ := List.getElem_of_mem hs
    rw [List.length_take] at hi
    rw [List.getElem_take, ne (hin i j (by omega) hj (by omega))]
    rfl
  have h2 : (xs.drop (j + 1)).filter (fun s => !(s.toList == xs[j].toList)) = xs.drop (j + 1) := by
    refine List.filter_eq_self.2 fun s hs => ?_
    obtain ⟨i, hi, rfl⟩ := List.getElem_of_mem hs
    rw [List.length_drop] at hi
    rw [List.getElem_drop, ne2 (hin j (j + 1 + i) hj (by omega) (by omega))]
    rfl
  have h3 : (xs.take j ++ xs[j] :: xs.drop (j + 1)).filter (fun s => !(s.toList == xs[j].toList)) = xs.take j ++ xs.drop (j + 1) := by
    rw [List.filter_append, List.filter_cons_of_neg (by simp), h1, h2]
  rw [← e] at h3
  exact h3
def dropT (R : List RC) (i : Nat) (h : 1 < R.length) : List RC := if i = 0 then R.set 1 ⟨R[1].ks, true, { R[1].m with bound := ByteArray.mk #[] }⟩ else R
theorem dropT_len (R : List RC) (i : Nat) (h : 1 < R.length) : (dropT R i h).length = R.length := by unfold dropT; split <;> simp
theorem dropT_at (R : List RC) (i : Nat) (h : 1 < R.length) {j : Nat} (hj : j < (dropT R i h).length) (hj2 : j < R.length) : (dropT R i h)[j].m.n = R[j].m.n ∧ (dropT R i h)[j].m.keys = R[j].m.keys ∧ (dropT R i h)[j].ks = R[j].ks ∧ (dropT R i h)[j].op = (R[j].op || decide (i = 0 ∧ j = 1)) ∧ (¬ (i = 0 ∧ j = 1) → (dropT R i h)[j] = R[j]) := by
  have e : (dropT R i h)[j]? = if i = 0 ∧ j = 1 then some ⟨R[1].ks, true, { R[1].m with bound := ByteArray.mk #[] }⟩ else R[j]? := by
    unfold dropT
    by_cases h0 : i = 0
    · rw [if_pos h0]
      by_cases h1 : j = 1
      · subst h1
        rw [if_pos ⟨h0, rfl⟩, List.getElem?_set_self h]
      · rw [if_neg (fun g => h1 g.2), List.getElem?_set_ne (fun g => h1 g.symm)]
    · rw [if_neg h0, if_neg (fun g => h0 g.1)]
  rw [List.getElem?_eq_getElem hj] at e
  by_cases h1 : i = 0 ∧ j = 1
  · rw [if_pos h1] at e
    rw [Option.some.inj e]
    obtain ⟨hi0, rfl⟩ := h1
    exact ⟨rfl, rfl, rfl, by simp [hi0], fun g => absurd ⟨hi0, rfl⟩ g⟩
  · rw [if_neg h1, List.getElem?_eq_getElem hj2] at e
    rw [Option.some.inj e]
    exact ⟨rfl, rfl, rfl, by simp [h1], fun _ => rfl⟩
section
variable {lo n : Nat} {h h' : Hp} {q : Nat} {M : LeafM} {ls : Sl} {R : List RC} {Q : List Value → Hp → Prop}
/-- The reference's list is another one: a leaf is gone. -/
theorem RefAt.del {hz : Hp} (hr : RefAt lo hz q M ls R) {i : Nat} (hi : i < R.length) (h1 : 1 < R.length) {out : Sl} (he : Ext [q] hz h') (hb : Blk h' q #[.slice out.a out.n out.c, .int .i64 M.fan, .int .i64 M.next] T_liveryref10_Leaves)
    (ho : Own T_liveryref10_Leaf 4 encR lo h' out (R.take i ++ (dropT R i h1).drop (i + 1))) :
    RefAt lo h' q ⟨M.fan, M.next, M.l.take i ++ M.l.drop (i + 1)⟩ out (R.take i ++ (dropT R i h1).drop (i + 1)) := by
  have hq : Other T_string hz [q] := fun b hb c fz => by simp at hb; subst hb; exact other_blk hr.blk (by decide) c fz
  have hRl := (ref_len hr).2
  have hTl := dropT_len R i h1
  refine ⟨hb, hr.le, ho, fun r hm => ?_, ref_rel ?_ ?_⟩
  · rcases List.mem_append.1 hm with g | g
    · exact (hr.keys r (List.mem_of_mem_take g)).extT he hq
    · obtain ⟨j, hj, rfl⟩ := List.getElem_of_mem (List.mem_of_mem_drop g)
      obtain ⟨t1, t2, t3, t4, t5⟩ := dropT_at R i h1 hj (by omega)
      rw [t2, t3]
      exact (hr.keys _ (List.getElem_mem _)).extT he hq
  · simp; omega
  · intro j g1 g2
    simp only [List.length_append, List.length_take, List.length_drop] at g1 g2
    have t1 : (R.take i).length = i := by simp; omega
    have t2 : (M.l.take i).length = i := by simp; omega
    rcases Nat.lt_or_ge j i with g | g
    · obtain ⟨_, m1, m2, m3, m4⟩ := ref_at hr (i := j) (by omega)
      have e1 : (R.take i ++ (dropT R i h1).drop (i + 1))[j]? = R[j]? := by
        rw [List.getElem?_append_left (by omega), List.getElem?_take_of_lt g]
      have e2 : (M.l.take i ++ M.l.drop (i + 1))[j]? = M.l[j]? := by
        rw [List.getElem?_append_left (by omega), List.getElem?_take_of_lt g]
      rw [List.getElem?_eq_getElem (by simp; omega), List.getElem?_eq_getElem (by omega)] at e1 e2
      rw [Option.some.inj e1, Option.some.inj e2]
      exact ⟨m1, m2, m3, m4⟩
    · obtain ⟨_, m1, m2, m3, m4⟩ := ref_at hr (i := j + 1) (by omega)
      obtain ⟨u1, u2, u3, u4, u5⟩ := dropT_at R i h1 (j := j + 1) (by omega) (by omega)
      have e1 : (R.take i ++ (dropT R i h1).drop (i + 1))[j]? = (dropT R i h1)[j + 1]? := by
        rw [List.getElem?_append_right (by omega), List.getElem?_drop]
        congr 1
        omega
      have e2 : (M.l.take i ++ M.l.drop (i + 1))[j]? = M.l[j + 1]? := by
        rw [List.getElem?_append_right (by omega), List.getElem?_drop]
        congr 1
        omega
      rw [List.getElem?_eq_getElem (by simp; omega), List.getElem?_eq_getElem (by omega)] at e1 e2
      rw [Option.some.inj e1, Option.some.inj e2]
      refine ⟨by rw [u1, m1], by rw [u2, m2], ?_, fun h0 => ?_⟩
      · rw [u4, m3]
        by_cases hj : j = 0
        · subst hj; simp; omega
        · simp [hj]
      · rw [u5 (by omega)]
        exact m4 (by omega)
theorem RemoveR_s (hr : RefAt lo h q M ls R) (ok : OkM M n) (hn : n < 2 ^ 15) (hlo : lo ≤ h.size) (k : ByteArray)
    (hQ : ∀ h' ls' R' S, RefAt lo h' q (M.rem k).1 ls' R' → Ext S h h' → (∀ b ∈ S, RFp q ls R b) → (∀ b, RFp q ls' R' b → RFp q ls R b ∨ h.size ≤ b) →
      Q [.agg #[.int .i64 (M.rem k).2.leaf, .int .i64 (M.rem k).2.mf, .int .i64 (M.rem k).2.mt, .int .i64 (M.rem k).2.err]] h') : S_liveryref10_Leaves_Remove (some ⟨q, 0, none⟩) k h Q := by
  refine O_liveryref10_Leaves_Remove _ _ ?_
  unfold F_liveryref10_Leaves_Remove
  have hMl := ok.len
  refine newI fun h1 s1 b1 e1 => ?_
  have hr1 := hr.ext0 e1
  have hlt := atL_lt ok.ne k
  have hrem := rem_eq (k := k) hlt
  unfold LeafM.remAt at hrem
  refine HasR_s hr1 ok.wf ok.ne k (by omega) (fun o ho => by have := (ok.ord o ho).2; omega) ⟨_, rfl, ?_⟩
  cases hh : hasK (M.l[atL M.l k]).keys k with
  | false =>
    rw [if_pos (by decide)]
    rw [hh, if_pos rfl] at hrem
    refine st_blk b1 (by simp) fun h2 s2 b2 e2 => ?_
    have e12 : Ext [] h h2 := e1.trans e2 (by intro b hb hlt; simp at hb; omega)
    refine ⟨_, by simp [rd_blk b2]; rfl, _, by simp [rd_blk b2]; rfl, _, by simp [rd_blk b2]; rfl, _, by simp [rd_blk b2]; rfl, ?_⟩
    have := hQ h2 ls R [] (by rw [hrem]; exact hr.ext0 e12) e12 (by simp) (fun b hb => Or.inl hb)
    rw [hrem] at this
    exact this
  | true =>
  rw [if_neg (by decide)]
  rw [hh, if_neg (by decide)] at hrem
  refine atR_s hr1 ok.wf ok.ne k (by omega) ⟨_, rfl, ?_⟩
  obtain ⟨n1, n2⟩ := ref_len hr
  have hiR : atL M.l k < R.length := by omega
  obtain ⟨_, m1, m2, m3, m4⟩ := ref_at hr hiR
  have hlst := own_lt hr.own
  have hqh : q < h.size := blk_lt hr.blk
  have hor := ok.ord _ (List.getElem_mem hlt)
  have hcf := cutK_filter hor.1 hh
  intro X hX
  have key : ∀ d p g out, d + p = (M.l[atL M.l k]).keys.length → Ext [] h1 g → Own T_string 1 encB h1.size g out (((M.l[atL M.l k]).keys.take p).filter (fun s => !(s.toList == k.toList))) → X [.slice out.a out.n out.c, .int .i64 (p : Int)] g := by
    intro d
    induction d with
    | succ d ih =>
      intro p g out hp eg hout
      refine hX out _ _ ?_
      have hr2 := hr1.ext0 eg
      simp only [nilW_some, addr_mk, rd_blk hr2.blk]
      refine ⟨ls, rfl, ?_⟩
      obtain ⟨a, w1, w2, w3, w4, w5⟩ := rdR hr2.own hiR
      have hk2 := hr2.keys _ (List.getElem_mem hiR)
      rw [m2] at hk2
      have hkn := hk2.1
      rw [w1]
      simp only [nilW_some, Int.toNat_natCast]
      refine ⟨by omega, by omega, R[atL M.l k].ks, w5, ?_⟩
      rw [if_pos (by simp; omega)]
      intro J hJ
      refine ⟨ls, by rw [w1]; rfl, ?_⟩
      rw [w1]
      simp only [nilW_some]
      refine ⟨by omega, by omega, R[atL M.l k].ks, w5, ?_⟩
      have hpl : p < (M.l[atL M.l k]).keys.length := by omega
      obtain ⟨ka, u1, u2⟩ := rdB hk2.sl.reads (i := p) hpl
      rw [u1]
      simp only [nilW_some, Int.toNat_natCast]
      refine ⟨by omega, by omega, _, u2, ?_⟩
      have htk : (M.l[atL M.l k]).keys.take (p + 1) = (M.l[atL M.l k]).keys.take p ++ [(M.l[atL M.l k]).keys[p]] := by
        rw [List.take_add_one, List.getElem?_eq_getElem hpl, Option.toList_some]
      cases hb : ((M.l[atL M.l k]).keys[p].toList == k.toList) with
      | true =>
        rw [if_neg (by decide)]
        refine hJ out _ ?_
        rw [wrap64 (by omega) (by omega)]
        have := ih (p + 1) g out (by omega) eg (by rw [htk, List.filter_append]; simpa [hb] using hout)
        simpa using this
      | false =>
        rw [if_pos (by decide)]
        refine ⟨ls, by rw [w1]; rfl, ?_⟩
        rw [w1]
        simp only [nilW_some]
        refine ⟨by omega, by omega, R[atL M.l k].ks, by rw [u1] at w5 ⊢; exact w5, ?_⟩
        rw [u1]
        simp only [nilW_some]
        refine ⟨by omega, by omega, _, u2, ?_⟩
        have hfl := List.length_filter_le (fun s => !(s.toList == k.toList)) ((M.l[atL M.l k]).keys.take p)
        have htl : ((M.l[atL M.l k]).keys.take p).length ≤ 2 ^ 10 := by rw [List.length_take]; omega
        refine app1 (x := (M.l[atL M.l k]).keys[p]) hout rfl zc_str encB_len encB_one (by omega) (by decide) eg.sz fun out' g2 hout' f2 hb2 => ?_
        refine hJ out' _ ?_
        rw [wrap64 (by omega) (by omega)]
        have := ih (p + 1) g2 out' (by omega) (eg.trans f2 fun b hb hlt => by have := hout.blk b hb; omega) (by
          rw [htk, List.filter_append]
          simpa [hb] using hout')
        simpa using this
    | zero =>
      intro p g out hp eg hout
      rw [List.take_of_length_le (by omega), hcf] at hout
      refine hX out _ _ ?_
      have hr2 := hr1.ext0 eg
      simp only [nilW_some, addr_mk, rd_blk hr2.blk]
      refine ⟨ls, rfl, ?_⟩
      obtain ⟨a, w1, w2, w3, w4, w5⟩ := rdR hr2.own hiR
      have hk2 := hr2.keys _ (List.getElem_mem hiR)
      rw [m2] at hk2
      have hkn := hk2.1
      rw [w1]
      simp only [nilW_some, Int.toNat_natCast]
      refine ⟨by omega, by omega, R[atL M.l k].ks, w5, ?_⟩
      rw [if_neg (by simp; omega)]
      refine ⟨ls, by rw [w1]; rfl, ?_⟩
      rw [w1]
      simp only [nilW_some]
      refine ⟨by omega, by omega, R[atL M.l k].m.n, w2, ?_⟩
      rw [m1]
      have zg := eg.sz
      refine varI rfl rfl fun g1 t1 d1 f1 => ?_
      have hr3 := hr2.ext0 f1
      have v1 := f1.get (eg.get b1 (by simp)) (by simp)
      have hl1 := hout.ext0 f1
      have hln := hl1.1
      intro J46 hJ46
      have yes : (0 < (cutK (M.l[atL M.l k]).keys k).length ∨ M.l.length = 1) → J46 [.bool true] g1 := by
        intro hor2
        rw [if_pos hor2] at hrem
        refine hJ46 _ _ ?_
        rw [if_pos rfl]
        simp only [rd_blk hr3.blk]
        refine ⟨ls, by simp, ?_⟩
        rw [w1]
        simp only [nilW_some]
        refine ⟨by omega, by omega, ?_⟩
        refine setF2 (x := ⟨out, R[atL M.l k].op, { R[atL M.l k].m with keys := cutK (M.l[atL M.l k]).keys k }⟩) hr3.own w1 encR_len hiR (by decide) (by
          intro c hc
          rcases (by omega : c = 0 ∨ c = 1 ∨ c = 2 ∨ c = 3) with rfl | rfl | rfl | rfl <;> rfl) fun g2 ho2 f2 t2 => ?_
        have d2 := f2.get d1 (fun hm => by have := hlst _ hm; omega)
        have v2 := f2.get v1 (fun hm => by have := hlst _ hm; omega)
        have hr4 := hr3.setK (hi2 := hlt) hiR f2 ho2 (hl1.extT f2 (hr3.own.other (by decide)) |>.mono (by omega))
        refine ⟨_, by simp [rd_blk d2]; rfl, _, by simp [rd_blk d2]; rfl, _, by simp [rd_blk d2]; rfl, _, by simp [rd_blk d2]; rfl, ?_⟩
        refine st_blk v2 (by simp) fun g3 t3 v3 f3 => ?_
        refine ⟨_, by simp [rd_blk v3]; rfl, _, by simp [rd_blk v3]; rfl, _, by simp [rd_blk v3]; rfl, _, by simp [rd_blk v3]; rfl, ?_⟩
        have hfp : ∀ b, RFp q ls (R.set (atL M.l k) ⟨out, R[atL M.l k].op, { R[atL M.l k].m with keys := cutK (M.l[atL M.l k]).keys k }⟩) b → RFp q ls R b ∨ h1.size ≤ b := by
          intro b hb
          rcases hb with g | g | ⟨r, hm, g⟩
          · exact Or.inl (Or.inl g)
          · exact Or.inl (Or.inr (Or.inl g))
          · rcases List.mem_or_eq_of_mem_set hm with g4 | g4
            · exact Or.inl (Or.inr (Or.inr ⟨r, g4, g⟩))
            · subst g4; exact Or.inr (hout.blk b g)
        have hr5 := hr4.extF f3 (fun b hb hm => by
          simp at hm
          rcases hfp b hb with g | g
          · have := rfp_lt hr g; omega
          · omega)
        have hq := hQ g3 ls _ (sBlk ls) (by rw [hrem]; exact hr5) ((((e1.trans0 eg).trans0 f1).mono (by simp)).trans f2 (fun b hb _ => hb) |>.trans f3 (by intro b hb hlt; simp at hb; omega)) (fun b hb => Or.inr (Or.inl hb)) (fun b hb => (hfp b hb).imp id fun g => by omega)
        rw [hrem] at hq
        exact hq
      have no : ¬ (0 < (cutK (M.l[atL M.l k]).keys k).length ∨ M.l.length = 1) → J46 [.bool false] g1 := by
        intro hor2
        rw [if_neg hor2] at hrem
        have hR1 : 1 < R.length := by omega
        refine hJ46 _ _ ?_
        rw [if_neg (by decide)]
        refine ⟨(M.l[atL M.l k]).n, by simp [rd_blk d1], ?_⟩
        refine st_blk d1 (by simp) fun g2 t2 d2 f2 => ?_
        have d2' : Blk g2 g.size #[.int .i64 (M.l[atL M.l k]).n, .int .i64 (M.l[atL M.l k]).n, .int .i64 0, .int .i64 0] T_liveryref10_Did := by simpa using d2
        have v2 := f2.get v1 (by simp; omega)
        have hr4 := hr3.extF f2 fun b hb hm => by simp at hm; have := rfp_lt hr hb; omega
        intro J64 hJ64
        have loop : ∀ g6 to, Ext [g.size] g2 g6 → Blk g6 g.size #[.int .i64 (M.l[atL M.l k]).n, .int .i64 (M.l[atL M.l k]).n, .int .i64 to, .int .i64 0] T_liveryref10_Did → to = ((M.l.take (atL M.l k) ++ M.l.drop (atL M.l k + 1)).getD (atL M.l k - 1) M.l[atL M.l k]).n → J64 [] g6 := by
          intro g6 to f6 d6 hto
          have v6 := f6.get v2 (by simp; omega)
          have hr6 := hr4.extF f6 fun b hb hm => by simp at hm; have := rfp_lt hr hb; omega
          have zz6 := f6.sz
          refine hJ64 _ ?_
          intro X65 hX65
          have hTl := dropT_len R (atL M.l k) hR1
          have plain : ∀ (gg : Hp) (out : Sl) (L : List RC) (j : Nat) (hj : j < R.length), j ≠ atL M.l k → Ext [] g6 gg → Own T_liveryref10_Leaf 4 encR g6.size gg out L → L.length ≤ 2 ^ 20 →
              (∀ gg' out', Ext [] g6 gg' → Own T_liveryref10_Leaf 4 encR g6.size gg' out' (L ++ [(dropT R (atL M.l k) hR1)[j]'(by omega)]) → Ext (sBlk out) gg gg' → X65 [.slice out'.a out'.n out'.c, .int .i64 ((j + 1 : Nat) : Int)] gg') → X65 [.slice out.a out.n out.c, .int .i64 (j : Int)] gg := by
            intro gg out L j hj hja eg6 hout hLl hcb
            refine hX65 out _ _ ?_
            have hrg := hr6.ext0 eg6
            simp only [rd_blk hrg.blk]
            refine ⟨ls, by simp, ?_⟩
            rw [if_pos (by simp; omega)]
            intro J71 hJ71
            refine ⟨ls, by simp, ?_⟩
            obtain ⟨aa, y1, y2, y3, y4, y5⟩ := rdR hrg.own hj
            obtain ⟨u1, u2, u3, u4, u5⟩ := dropT_at R (atL M.l k) hR1 (j := j) (by omega) hj
            rw [y1]
            simp only [nilW_some, Int.toNat_natCast]
            refine ⟨by omega, by omega, R[j].m.n, y2, R[j].op, y3, R[j].m.bound, y4, R[j].ks, y5, ?_⟩
            refine varI rfl rfl fun gg1 t7 c7 f7 => ?_
            rw [if_neg (by simp; omega)]
            intro J83 hJ83
            have eg71 := eg6.trans0 f7
            have zg6 := eg6.sz
            have rest : ∀ gg2 : Hp, Ext [gg.size] gg1 gg2 → gg2.size = gg1.size → Blk gg2 gg.size #[.int .i64 ((dropT R (atL M.l k) hR1)[j]'(by omega)).m.n, .bool ((dropT R (atL M.l k) hR1)[j]'(by omega)).op, .string ((dropT R (atL M.l k) hR1)[j]'(by omega)).m.bound, .slice ((dropT R (atL M.l k) hR1)[j]'(by omega)).ks.a ((dropT R (atL M.l k) hR1)[j]'(by omega)).ks.n ((dropT R (atL M.l k) hR1)[j]'(by omega)).ks.c] T_liveryref10_Leaf →
                ∀ J87 : List Value → Hp → Prop, (∀ h88 : Hp, (∃ n89 : Int, rd h88 (Addr.add (Addr.mk (Array.size gg) 0 none) 0) = some (Value.int .i64 n89) ∧ ∃ b90 : Bool, rd h88 (Addr.add (Addr.mk (Array.size gg) 0 none) 1) = some (Value.bool b90) ∧ ∃ s91 : ByteArray, rd h88 (Addr.add (Addr.mk (Array.size gg) 0 none) 2) = some (Value.string s91) ∧ ∃ l92 : Sl, rd h88 (Addr.add (Addr.mk (Array.size gg) 0 none) 3) = some (Value.slice l92.a l92.n l92.c) ∧ wth (Array.push h88 (Obj.cells #[(Value.int .i64 n89), (Value.bool b90), (Value.string s91), (Value.slice l92.a l92.n l92.c)] T_liveryref10_Leaf)) fun h93 =>
                    ∃ cs96 : List Value, cellsAt h93 (some (Addr.mk (Array.size h88) 0 none)) (1 * 4) cs96 ∧ appS PP T_liveryref10_Leaf 56 4 h93 ⟨out.a, out.n, out.c⟩ 1 cs96 fun (l94 : Sl) (h95 : Hp) => J71 [(Value.slice l94.a l94.n l94.c)] h95) → J87 [] h88) → J87 [] gg2 := by
              intro gg2 f8 t8 c8 J87 hJ87
              refine hJ87 _ ?_
              refine ⟨_, by simp [rd_blk c8]; rfl, _, by simp [rd_blk c8]; rfl, _, by simp [rd_blk c8]; rfl, ((dropT R (atL M.l k) hR1)[j]'(by omega)).ks, by simp [rd_blk c8], ?_⟩
              have eg72 : Ext [] gg gg2 := f7.trans f8 (by intro b hb hlt; simp at hb; omega)
              have hout2 := hout.ext0 eg72
              refine app1 (x := (dropT R (atL M.l k) hR1)[j]'(by omega)) hout2 rfl zcR encR_len encR_one (by omega) (by decide) (by have := eg72.sz; omega) fun out' gg3 hout' f9 hb9 => ?_
              refine hJ71 out' _ ?_
              rw [wrap64 (by omega) (by omega)]
              have := hcb gg3 out' ((eg6.trans0 eg72).trans f9 fun b hb hlt => by have := hout.blk b hb; omega) hout' ((eg72.mono (by simp)).trans f9 (fun b hb _ => hb))
              simpa using this
            have same : ¬ (atL M.l k = 0 ∧ j = 1) → J83 [.bool false] gg1 := by
              intro hns
              refine hJ83 _ _ ?_
              intro J87 hJ87
              rw [if_neg (by decide)]
              exact rest gg1 (Ext.refl _ _) rfl (by rw [u5 hns]; exact c7) J87 hJ87
            by_cases h0 : atL M.l k = 0
            · rw [if_pos (by simp [h0])]
              by_cases hj1 : j = 1
              · have hb1 : (((j : Nat) : Int) == 1) = true := by simp [hj1]
                rw [hb1]
                refine hJ83 _ _ ?_
                intro J87 hJ87
                rw [if_pos rfl]
                refine st_blk c7 (by simp) fun gg2 t8 c8 f8 => ?_
                have c8' : Blk gg2 gg.size #[.int .i64 R[j].m.n, .bool true, .string R[j].m.bound, .slice R[j].ks.a R[j].ks.n R[j].ks.c] T_liveryref10_Leaf := by simpa using c8
                refine st_blk c8' (by simp) fun gg3 t9 c9 f9 => ?_
                have hTj : (dropT R (atL M.l k) hR1)[j]'(by omega) = ⟨R[j].ks, true, { R[j].m with bound := ByteArray.mk #[] }⟩ := by
                  have e : (dropT R (atL M.l k) hR1)[j]? = some ⟨R[j].ks, true, { R[j].m with bound := ByteArray.mk #[] }⟩ := by
                    unfold dropT
                    subst hj1
                    rw [if_pos h0, List.getElem?_set_self hR1]
                  rw [List.getElem?_eq_getElem (by omega)] at e
                  exact Option.some.inj e
                exact rest gg3 (f8.trans f9 (fun b hb _ => hb)) (by omega) (by rw [hTj]; simpa using c9) J87 hJ87
              · have hb1 : (((j : Nat) : Int) == 1) = false := by simp; omega
                rw [hb1]
                exact same fun g => hj1 g.2
            · rw [if_neg (by simp [h0])]
              exact same fun g => h0 g.1
          have keyA : ∀ d j gg out, j + d = R.length → atL M.l k < j → Ext [] g6 gg → Own T_liveryref10_Leaf 4 encR g6.size gg out (R.take (atL M.l k) ++ ((dropT R (atL M.l k) hR1).drop (atL M.l k + 1)).take (j - (atL M.l k + 1))) →
              X65 [.slice out.a out.n out.c, .int .i64 (j : Int)] gg := by
            intro d
            induction d with
            | zero =>
              intro j gg out hj haj eg6 hout
              rw [List.take_of_length_le (l := (dropT R (atL M.l k) hR1).drop (atL M.l k + 1)) (by rw [List.length_drop]; omega)] at hout
              refine hX65 out _ _ ?_
              have hrg := hr6.ext0 eg6
              simp only [rd_blk hrg.blk]
              refine ⟨ls, by simp, ?_⟩
              rw [if_neg (by simp; omega)]
              refine st_blk hrg.blk (by simp) fun g8 t8 c8 f8 => ?_
              have d8 := f8.get (eg6.get d6 (by simp)) (by simp; omega)
              have v8 := f8.get (eg6.get v6 (by simp)) (by simp; omega)
              refine ⟨_, by simp [rd_blk d8]; rfl, _, by simp [rd_blk d8]; rfl, _, by simp [rd_blk d8]; rfl, _, by simp [rd_blk d8]; rfl, ?_⟩
              refine st_blk v8 (by simp) fun g9 t9 c9 f9 => ?_
              refine ⟨_, by simp [rd_blk c9]; rfl, _, by simp [rd_blk c9]; rfl, _, by simp [rd_blk c9]; rfl, _, by simp [rd_blk c9]; rfl, ?_⟩
              have hqo8 : ∀ T, T_liveryref10_Leaves ≠ T → Other T gg [q] := fun T hT b hb c fz => by simp at hb; subst hb; exact other_blk hrg.blk hT c fz
              have hdel := hrg.del hiR hR1 f8 (by simpa using c8) ((hout.extT f8 (hqo8 _ (by decide))).mono (by omega))
              have hfp : ∀ b, RFp q out (R.take (atL M.l k) ++ (dropT R (atL M.l k) hR1).drop (atL M.l k + 1)) b → RFp q ls R b ∨ h1.size ≤ b := by
                intro b hb
                rcases hb with g | g | ⟨r, hm, g⟩
                · exact Or.inl (Or.inl g)
                · have := hout.blk b g; exact Or.inr (by omega)
                · rcases List.mem_append.1 hm with hm | hm
                  · exact Or.inl (Or.inr (Or.inr ⟨r, List.mem_of_mem_take hm, g⟩))
                  · obtain ⟨i, hi, rfl⟩ := List.getElem_of_mem (List.mem_of_mem_drop hm)
                    obtain ⟨u1, u2, u3, u4, u5⟩ := dropT_at R (atL M.l k) hR1 hi (by omega)
                    rw [u3] at g
                    exact Or.inl (Or.inr (Or.inr ⟨_, List.getElem_mem _, g⟩))
              have hr9 := hdel.extF f9 (fun b hb hm => by
                simp at hm
                rcases hfp b hb with g | g
                · have := rfp_lt hr g; omega
                · omega)
              have eA : Ext [q] h g9 := ((((((e1.trans0 eg).trans0 f1).mono (by simp)).trans f2 (by intro b hb hlt; simp at hb; omega)).trans f6 (by intro b hb hlt; simp at hb; omega)).trans0 eg6).trans f8 (fun b hb _ => hb) |>.trans f9 (by intro b hb hlt; simp at hb; omega)
              have hq := hQ g9 out _ [q] (by rw [hrem]; exact hr9) eA (fun b hb => by simp at hb; exact Or.inl hb) (fun b hb => (hfp b hb).imp id fun g => by omega)
              rw [hrem] at hq
              rw [hto]
              exact hq
            | succ d ih =>
              intro j gg out hj haj eg6 hout
              have hjR : j < R.length := by omega
              refine plain gg out _ j hjR (by omega) eg6 hout (by simp; omega) fun gg' out' eg' hout' f' => ?_
              refine ih (j + 1) gg' out' (by omega) (by omega) eg' ?_
              rw [show j + 1 - (atL M.l k + 1) = (j - (atL M.l k + 1)) + 1 by omega, List.take_add_one, List.getElem?_drop, show atL M.l k + 1 + (j - (atL M.l k + 1)) = j by omega, List.getElem?_eq_getElem (by omega), Option.toList_some, ← List.append_assoc]
              exact hout'
          have keyB : ∀ d j gg out, j + d = atL M.l k → Ext [] g6 gg → Own T_liveryref10_Leaf 4 encR g6.size gg out (R.take j) → X65 [.slice out.a out.n out.c, .int .i64 (j : Int)] gg := by
            intro d
            induction d with
            | succ d ih =>
              intro j gg out hj eg6 hout
              have hjR : j < R.length := by omega
              refine plain gg out _ j hjR (by omega) eg6 hout (by simp; omega) fun gg' out' eg' hout' f' => ?_
              refine ih (j + 1) gg' out' (by omega) eg' ?_
              obtain ⟨u1, u2, u3, u4, u5⟩ := dropT_at R (atL M.l k) hR1 (j := j) (by omega) hjR
              rw [u5 (by omega)] at hout'
              rw [List.take_add_one, List.getElem?_eq_getElem hjR, Option.toList_some]
              exact hout'
            | zero =>
              intro j gg out hj eg6 hout
              obtain rfl : j = atL M.l k := by omega
              refine hX65 out _ _ ?_
              have hrg := hr6.ext0 eg6
              simp only [rd_blk hrg.blk]
              refine ⟨ls, by simp, ?_⟩
              rw [if_pos (by simp; omega)]
              intro J71 hJ71
              refine ⟨ls, by simp, ?_⟩
              obtain ⟨aa, y1, y2, y3, y4, y5⟩ := rdR hrg.own hiR
              rw [y1]
              simp only [nilW_some, Int.toNat_natCast]
              refine ⟨by omega, by omega, R[atL M.l k].m.n, y2, R[atL M.l k].op, y3, R[atL M.l k].m.bound, y4, R[atL M.l k].ks, y5, ?_⟩
              refine varI rfl rfl fun gg1 t7 c7 f7 => ?_
              rw [if_pos (by simp)]
              refine hJ71 out _ ?_
              rw [wrap64 (by omega) (by omega)]
              have := keyA (R.length - (atL M.l k + 1)) (atL M.l k + 1) gg1 out (by omega) (by omega) (eg6.trans0 f7) (by
                rw [Nat.sub_self, List.take_zero, List.append_nil]
                exact hout.ext0 f7)
              simpa using this
          have := keyB (atL M.l k) 0 g6 ⟨none, 0, 0⟩ (by omega) (Ext.refl _ _) (by simpa using Own.nil _ _)
          simpa using this
        have hRn : ∀ i (hi : i < R.length) (h2 : i < M.l.length), R[i].m.n = M.l[i].n := fun i hi h2 => (ref_at hr hi).2.1
        by_cases h0 : 0 < atL M.l k
        · rw [if_pos (by simp; omega)]
          simp only [rd_blk hr4.blk]
          refine ⟨ls, by simp, ?_⟩
          have hi1 : atL M.l k - 1 < R.length := by omega
          obtain ⟨aa, y1, y2, y3, y4, y5⟩ := rdR hr4.own hi1
          rw [y1, wrap64 (x := ((atL M.l k : Nat) : Int) - 1) (by omega) (by omega), show ((atL M.l k : Nat) : Int) - 1 = ((atL M.l k - 1 : Nat) : Int) by omega]
          simp only [nilW_some, Int.toNat_natCast]
          refine ⟨by omega, by omega, _, y2, ?_⟩
          refine st_blk d2' (by simp) fun g3 t3 c3 f3 => ?_
          refine loop g3 _ f3 (by simpa using c3) ?_
          rw [hRn _ hi1 (by omega), List.getD_eq_getElem?_getD, List.getElem?_append_left (by simp; omega), List.getElem?_take_of_lt (by omega), List.getElem?_eq_getElem (by omega)]
          rfl
        · rw [if_neg (by simp; omega)]
          simp only [rd_blk hr4.blk]
          refine ⟨ls, by simp, ?_⟩
          obtain ⟨aa, y1, y2, y3, y4, y5⟩ := rdR hr4.own hR1
          rw [y1]
          simp only [nilW_some]
          refine ⟨by omega, by omega, _, y2, ?_⟩
          refine st_blk d2' (by simp) fun g3 t3 c3 f3 => ?_
          refine loop g3 _ f3 (by simpa using c3) ?_
          have hg : ∀ (i : Nat) (d : OneM) (hl1 : 1 < M.l.length), i = 0 → M.l[1] = (M.l.take i ++ M.l.drop (i + 1)).getD (i - 1) d := by
            intro i d hl1 hi0
            subst hi0
            rw [List.getD_eq_getElem?_getD]
            simp only [List.take_zero, List.nil_append, Nat.zero_sub, List.getElem?_drop]
            rw [List.getElem?_eq_getElem hl1]
            rfl
          rw [hRn _ hR1 (by omega), hg (atL M.l k) M.l[atL M.l k] (by omega) (by omega)]
      by_cases h0 : 0 < (cutK (M.l[atL M.l k]).keys k).length
      · rw [if_pos (by simp; omega)]
        exact yes (Or.inl h0)
      · rw [if_neg (by simp; omega)]
        simp only [rd_blk hr3.blk]
        refine ⟨ls, by simp, ?_⟩
        by_cases h1' : M.l.length = 1
        · rw [show ((ls.n : Int) == 1) = true by simp; omega]
          exact yes (Or.inr h1')
        · rw [show ((ls.n : Int) == 1) = false by simp; omega]
          exact no (by omega)
  have := key (M.l[atL M.l k]).keys.length 0 h1 ⟨none, 0, 0⟩ (by omega) (Ext.refl _ _) (by simpa using Own.nil _ _)
  simpa using this
end
end Go.Lift

/- Names: New, Put, Drop. -/
import Derived.Test.YtogondadohdcoaaW12k
set_option linter.unusedSimpArgs false
set_option linter.unusedVariables false
namespace Go.Lift
open Go Go.Proofs Go.RowKit Go.Shelf
set_option maxRecDepth 100000
structure KG (G : Nat → Prop) (h h' : Hp) : Prop where
  sz : h.size ≤ h'.size
  old : ∀ b, G b → h'[b]? = h[b]?
structure NvS (G : Nat → Prop) (h : Hp) (cb t : Nat) (L : LM) (N : NM) : Prop where
  lt : ∀ b, G b → b < h.size
  cl : ClAt h cb L
  nm : ∃ mb C, NmS h t mb C ∧ mN C = N ∧ ∀ b, FN t mb C b → ¬ G b
  ng : ¬ G cb
def GX (G : Nat → Prop) (h h' : Hp) : Nat → Prop := fun b => G b ∨ (h.size ≤ b ∧ b < h'.size)
section
variable {G G' : Nat → Prop} {h h' h'' : Hp} {cb t : Nat} {L : LM} {N : NM} {Q : List Value → Hp → Prop}
theorem gx_l : ∀ b, G b → GX G h h' b := fun _ hb => Or.inl hb
theorem KG.refl (G : Nat → Prop) (h : Hp) : KG G h h := ⟨Nat.le_refl _, fun _ _ => rfl⟩
theorem KG.trans (h1 : KG G h h') (h2 : KG G h' h'') : KG G h h'' := ⟨Nat.le_trans h1.sz h2.sz, fun b hb => by rw [h2.old b hb, h1.old b hb]⟩
theorem KG.anti (h1 : KG G h h') (hs : ∀ b, G' b → G b) : KG G' h h' := ⟨h1.sz, fun b hb => h1.old b (hs b hb)⟩
theorem KG.get (h1 : KG G h h') {b : Nat} {o : Obj} (hb : h[b]? = some o) (hG : G b) : h'[b]? = some o := by rw [h1.old b hG, hb]
theorem kg_ext {L : List Nat} (he : Ext L h h') (hG : ∀ b, G b → b < h.size) (hL : ∀ b ∈ L, ¬ G b) : KG G h h' := ⟨he.sz, fun b hb => he.old b (hG b hb) fun hm => hL b hm hb⟩
theorem kg_ext0 (he : Ext [] h h') (hG : ∀ b, G b → b < h.size) : KG G h h' := kg_ext he hG (by simp)
theorem KG.rd (hk : KG G h h') {a : Addr} (ha : G a.block) : Go.Lift.rd h' a = Go.Lift.rd h a := by
  unfold Go.Lift.rd
  rw [hk.old _ ha]
theorem KG.reads {α : Type} {sz : Nat} {enc : α → List Value} {s : Sl} {xs : List α} (hk : KG G h h') (hr : Reads sz enc h s xs) (hg : xs ≠ [] → ∀ b ∈ sBlk s, G b) : Reads sz enc h' s xs := by
  refine ⟨hr.1, hr.2.1, ?_⟩
  by_cases hx : xs = []
  · have hn := hr.1
    subst hx
    rw [hn]
    simp only [List.length_nil, Nat.zero_mul, List.flatMap_nil]
    exact cellsAt_zero _ _
  have := hr.2.2
  cases ha : s.a with
  | none => rw [ha] at this; exact this
  | some a =>
    rw [ha] at this
    refine ⟨this.1, fun i hi => ?_⟩
    have h1 := this.2 i hi
    have hb : (Addr.add a i).block = a.block := by unfold Addr.add; split <;> rfl
    rw [KG.rd hk (a := a.add i) (by rw [hb]; exact hg hx _ (mem_sBlk.2 ⟨a, ha, rfl⟩))]
    exact h1
theorem reads_lt {α : Type} {sz : Nat} {enc : α → List Value} {s : Sl} {xs : List α} (he : ∀ x, (enc x).length = sz) (hz : 0 < sz) (hr : Reads sz enc h s xs) (hx : xs ≠ []) : ∀ b ∈ sBlk s, b < h.size := by
  intro b hb
  obtain ⟨a, h1, rfl⟩ := mem_sBlk.1 hb
  have hl : 0 < xs.length := List.length_pos_iff.2 hx
  obtain ⟨a', g1, g2⟩ := hr.rd he hl
  rw [h1] at g1
  cases g1
  have g3 := g2 0 hz
  have hbk : (Addr.add a (0 * sz + 0)).block = a.block := by unfold Addr.add; split <;> rfl
  have hne : (enc xs[0])[0]? ≠ none := by
    rw [List.getElem?_eq_getElem (by rw [he]; exact hz)]
    simp
  rw [← g3] at hne
  unfold Go.Lift.rd at hne
  rw [hbk] at hne
  rcases Nat.lt_or_ge a.block h.size with q | q
  · exact q
  · rw [Array.getElem?_eq_none q] at hne
    exact absurd rfl hne
theorem NvS.ext0 (hS : NvS G h cb t L N) (he : Ext [] h h') : NvS G h' cb t L N := by
  obtain ⟨h1, h2, ⟨mb, C, a1, a2, a3⟩, h4⟩ := hS
  have := he.sz
  exact ⟨fun b hb => by have := h1 b hb; omega, h2.ext0 he, ⟨mb, C, a1.ext0 he, a2, a3⟩, h4⟩
theorem NvS.anti (hS : NvS G h cb t L N) (hs : ∀ b, G' b → G b) : NvS G' h cb t L N := by
  obtain ⟨h1, h2, ⟨mb, C, a1, a2, a3⟩, h4⟩ := hS
  exact ⟨fun b hb => h1 b (hs b hb), h2, ⟨mb, C, a1, a2, fun b hb g => a3 b hb (hs b g)⟩, fun g => h4 (hs _ g)⟩
theorem NvS.more (hS : NvS G h cb t L N) (he : Ext [] h h') : NvS (GX G h h') h' cb t L N := by
  have h0 := hS.ext0 he
  have hz := he.sz
  obtain ⟨h1, h2, ⟨mb, C, a1, a2, a3⟩, h4⟩ := hS
  have l3 := h2.lt
  refine ⟨fun b hb => ?_, h0.cl, ⟨mb, C, a1.ext0 he, a2, fun b hb g => ?_⟩, ?_⟩
  · rcases hb with hb | hb
    · have := h1 b hb; omega
    · exact hb.2
  · rcases g with g | g
    · exact a3 b hb g
    · have := a1.lt hb; omega
  · rintro (g | g)
    · exact h4 g
    · omega
theorem NvS.log (hS : NvS G h cb t L N) {L' : LM} (hC : ClAt h' cb L') (he : Ext [cb] h h') : NvS G h' cb t L' N ∧ KG G h h' := by
  obtain ⟨h1, h2, ⟨mb, C, a1, a2, a3⟩, h4⟩ := hS
  have := he.sz
  have hc := cl_other h2 a1
  exact ⟨⟨fun b hb => by have := h1 b hb; omega, hC, ⟨mb, C, a1.ext he hc.1 hc.2, a2, a3⟩, h4⟩, kg_ext he h1 (by simp; exact h4)⟩
theorem New12_s (hG : ∀ b, G b → b < h.size) (hC : ClAt h cb L) (hc : ¬ G cb) (hQ : ∀ h' t, NvS G h' cb t L [] → Ext [] h h' → Q [.pointer (some ⟨t, 0, none⟩)] h') : S_name_New h Q := by
  refine O_name_New ?_
  unfold F_name_New
  refine newI fun h1 s1 b1 e1 => newI fun h2 s2 b2 e2 => ?_
  have b1' := e2.get b1 (by simp)
  have e12 := e1.trans0 e2
  refine hQ h2 h1.size ⟨fun b hb => by have := hG b hb; omega, hC.ext0 e12, ⟨h.size, [], ⟨b2, ⟨#[], 0, b1', rfl, Born.nil 0⟩, by simp, (fun k c hf => by cases hf), (fun k c hf => by cases hf), (fun k k' c c' hf => by cases hf)⟩, rfl, fun b hb g => ?_⟩, hc⟩ e12
  have := hG b g
  rcases hb with rfl | rfl | ⟨k, c, hf, _⟩
  · omega
  · omega
  · cases hf
theorem May_v (hS : NvS G h cb t L N) {M : Nat} (hok : NOk M N) (hM : M ≤ 2 ^ 20) (x : Int) (k : ByteArray)
    (hQ : ∀ h', Ext [] h h' → Q [.int .i64 (mayN L N x k).1, .int .i64 (mayN L N x k).2] h') : S_name_Names_May (some ⟨t, 0, none⟩) (some ⟨cb, 0, none⟩) x k h Q := by
  obtain ⟨h1, h2, ⟨mb, C, a1, rfl, a3⟩, h4⟩ := hS
  refine May_s h2 a1 x k ?_ hQ
  have := hok.vl k
  rw [← lC_m, List.length_map] at this
  omega
theorem lC_le {C : NC} {M : Nat} (hok : NOk M (mN C)) (k : ByteArray) : (lC C k).length ≤ M := by
  have := hok.vl k
  rw [← lC_m, List.length_map] at this
  exact this
theorem mark_pl {C : NC} {k : ByteArray} {c : CN} (hf : afind C k = some c) {i : Nat} (hi : i < c.l.length) (x : Int) : mN (aput C k ⟨c.s, c.l.set i { c.l[i] with xmax := x }⟩) = markN (mN C) k i x := by
  unfold markN
  have hv : vsN (mN C) k = c.l.map VW.m := by rw [← lC_m]; unfold lC; rw [hf]
  have e : endL x i (vsN (mN C) k) = plC ⟨c.s, c.l.set i { c.l[i] with xmax := x }⟩ := by
    rw [hv]
    unfold endL plC
    rw [List.getElem?_map, List.getElem?_eq_getElem hi]
    simp only [Option.map_some, List.map_set]
    rfl
  rw [e, aput_amap]
theorem add_pl {C : NC} {k : ByteArray} {s' : Sl} {v : VW} : mN (aput C k ⟨s', lC C k ++ [v]⟩) = addN (mN C) k v.m := by
  unfold addN
  rw [← lC_m]
  have e : (lC C k).map VW.m ++ [v.m] = plC ⟨s', lC C k ++ [v]⟩ := by unfold plC; simp
  rw [e, aput_amap]
theorem Drop_s (hS : NvS G h cb t L N) {M : Nat} (hok : NOk M N) (hM : M ≤ 2 ^ 20) (x : Int) (k : ByteArray)
    (hQ : ∀ h', NvS G h' cb t L (dropN L N x k) → KG G h h' → Q [.int .i64 (dropE L N x k)] h') : S_name_Names_Drop (some ⟨t, 0, none⟩) (some ⟨cb, 0, none⟩) x k h Q := by
  refine O_name_Names_Drop _ _ _ _ ?_
  unfold F_name_Names_Drop
  intro J hJ
  rw [if_neg (by simp)]
  have hSv := hS
  obtain ⟨h1, h2, ⟨mb, C, a1, hN, a3⟩, h4⟩ := hS
  subst hN
  refine State_s h2 x fun g1 e1 => ⟨_, rfl, ?_⟩
  refine hJ _ _ ?_
  unfold dropN at hQ
  by_cases hst : (txL L x).state = 1
  · have e : ((txL L x).state != 1) = false := by simp [hst]
    rw [e, if_neg (by decide)]
    have hlc := lC_le hok k
    refine May_s (h2.ext0 e1) (a1.ext0 e1) x k (by omega) fun g2 e2 => ⟨_, _, rfl, ?_⟩
    have e12 := e1.trans0 e2
    by_cases hm : (mayN L (mN C) x k).1 = 0
    · rw [if_neg (by simp [hm])]
      refine at_s (h2.ext0 e12) (a1.ext0 e12) x k (by omega) fun g3 e3 => ⟨_, rfl, ?_⟩
      have e13 := e12.trans0 e3
      by_cases ha : atN L (mN C) x k < 0
      · rw [if_pos (by simpa using ha)]
        have hd : dropE L (mN C) x k = 60 := by unfold dropE; rw [if_neg (by simp [hst]), if_neg (by simp [hm]), if_pos ha]
        have := hQ g3
        rw [hd, if_neg (by decide)] at this
        exact this (hSv.ext0 e13) (kg_ext0 e13 h1)
      · rw [if_neg (by simpa using ha)]
        have hd : dropE L (mN C) x k = 0 := by unfold dropE; rw [if_neg (by simp [hst]), if_neg (by simp [hm]), if_neg ha]
        rw [hd, if_pos rfl] at hQ
        simp only [nilW_some]
        have hN3 := a1.ext0 e13
        obtain ⟨es, m1, m2, m3⟩ := hN3.has k
        refine ⟨some mb, hN3.ptr, es, m1, m2, _, m3, ?_⟩
        unfold atN at ha hQ ⊢
        rcases atV_find L x (vsN (mN C) k) 0 with ⟨q1, _⟩ | ⟨j, q1, hj, _⟩
        · rw [q1] at ha; exact absurd (by omega) ha
        · rw [q1] at hQ ⊢
          simp only [Nat.zero_add, Int.toNat_natCast] at hQ ⊢
          cases hf : afind C k with
          | none =>
            have : vsN (mN C) k = [] := by rw [← lC_m]; unfold lC; rw [hf]; rfl
            rw [this] at hj
            simp at hj
          | some c =>
            have hsl : slC C k = c.s := by unfold slC; rw [hf]
            have hjl : j < c.l.length := by
              rw [← lC_m] at hj
              unfold lC at hj
              rw [hf] at hj
              simpa using hj
            have hcn := (hN3.inner k c hf).1
            rw [hsl]
            obtain ⟨a, w1, w2, w3⟩ := hN3.mark hf hjl x (K := fun h17 => Q [(Value.int .i64 (0 : Int))] h17) fun g4 hN4 e4 z4 => by
              have kg : KG G g3 g4 := kg_ext e4 (fun b hb => by have := h1 b hb; have := e13.sz; omega) fun b hb g => a3 b (Or.inr (Or.inr ⟨k, c, hf, hb⟩)) g
              have hcl4 : ClAt g4 cb L := (h2.ext0 e13).ext e4 fun hm => by
                have := (cl_other (h2.ext0 e13) hN3).1 cb (Or.inr (Or.inr ⟨k, c, hf, hm⟩))
                simp at this
              refine hQ g4 ⟨fun b hb => by have := h1 b hb; have := e13.sz; omega, hcl4, ⟨mb, _, hN4, mark_pl hf hjl x, fun b hb => a3 b (mark_FN hf hb)⟩, h4⟩ ((kg_ext0 e13 h1).trans kg)
            rw [w1]
            simp only [nilW_some]
            exact ⟨by omega, by omega, w2, w3⟩
    · rw [if_pos (by simp [hm])]
      have hd : dropE L (mN C) x k = (mayN L (mN C) x k).1 := by unfold dropE; rw [if_neg (by simp [hst]), if_pos hm]
      have := hQ g2
      rw [hd, if_neg hm] at this
      exact this (hSv.ext0 e12) (kg_ext0 e12 h1)
  · have e : ((txL L x).state != 1) = true := by simp [hst]
    rw [e, if_pos rfl]
    have hd : dropE L (mN C) x k = 1 := by unfold dropE; rw [if_pos hst]
    have := hQ g1
    rw [hd, if_neg (by decide)] at this
    exact this (hSv.ext0 e1) (kg_ext0 e1 h1)
end
end Go.Lift

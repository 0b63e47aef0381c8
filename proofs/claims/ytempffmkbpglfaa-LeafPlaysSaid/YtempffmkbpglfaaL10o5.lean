/- LeafPlays: both sides, one behind the other. -/
import Derived.Test.YtempffmkbpglfaaL10o4
set_option linter.unusedSimpArgs false
set_option linter.unusedVariables false
namespace Go.Lift
open Go Go.Proofs
set_option maxRecDepth 100000
theorem Lv.swap {lo : Nat} {G G' : Nat → Prop} {h h' : Hp} {x : Nat} {M : LeafM} {S : List Nat} (hv : Lv lo G h x M) (he : Ext S h h') (hS : ∀ b ∈ S, b < h.size → G b) (hG : ∀ b, G' b → (G b ∨ h.size ≤ b) ∧ b < h'.size) : Lv lo G' h' x M := by
  obtain ⟨h1, h2, ls, C, hl, h3⟩ := hv
  refine ⟨fun b hb => (hG b hb).2, Nat.le_trans h2 he.sz, ls, C, hl.extF he fun b hb hm => h3 b hb (hS b hm (fp_lt hl hb)), fun b hb hg => ?_⟩
  rcases (hG b hg).1 with g | g
  · exact h3 b hb g
  · have := fp_lt hl hb; omega
/-- Both sides in memory, apart from each other and from what else is held; one may have gone ahead. -/
def Ah (lo : Nat) (sv : Nat → Prop) (h : Hp) (x q : Nat) (M M' : LeafM) : Prop := ∃ ls R, RefAt lo h q M ls R ∧ Lv lo (fun b => RFp q ls R b ∨ sv b) h x M' ∧ ∀ b, sv b → ¬ RFp q ls R b
section
variable {lo n : Nat} {sv : Nat → Prop} {h h' : Hp} {x q : Nat} {M M' : LeafM} {Q : List Value → Hp → Prop}
theorem Ah.grow {sv' : Nat → Prop} (hb : Ah lo sv h x q M M') (he : Ext [] h h') (hs : ∀ b, sv' b → (sv b ∨ h.size ≤ b) ∧ b < h'.size) : Ah lo sv' h' x q M M' := by
  obtain ⟨ls, R, h1, h2, h3⟩ := hb
  refine ⟨ls, R, h1.ext0 he, h2.grow he fun b hb => ?_, fun b hb hr => ?_⟩
  · rcases hb with g | g
    · exact ⟨Or.inl (Or.inl g), by have := rfp_lt h1 g; have := he.sz; omega⟩
    · exact ⟨(hs b g).1.imp Or.inr id, (hs b g).2⟩
  · rcases (hs b hb).1 with g | g
    · exact h3 b g hr
    · have := rfp_lt h1 hr; omega
theorem Ah.e0 (hb : Ah lo sv h x q M M') (he : Ext [] h h') : Ah lo sv h' x q M M' := by
  have hl := hb
  obtain ⟨ls, R, h1, h2, h3⟩ := hl
  exact hb.grow he fun b hs => ⟨Or.inl hs, by have := h2.1 b (Or.inr hs); have := he.sz; omega⟩
theorem Ah.less {sv' : Nat → Prop} (hb : Ah lo sv h x q M M') (hs : ∀ b, sv' b → sv b) : Ah lo sv' h x q M M' := by
  have hl := hb
  obtain ⟨ls, R, h1, h2, h3⟩ := hl
  exact hb.grow (Ext.refl _ _) fun b hb => ⟨Or.inl (hs b hb), h2.1 b (Or.inr (hs b hb))⟩
theorem Ah.lo' (hb : Ah lo sv h x q M M') : lo ≤ h.size := by
  obtain ⟨ls, R, h1, h2, h3⟩ := hb
  exact h2.2.1
theorem both_ins (hb : Ah lo sv h x q M M) (ok : OkM M n) (hn : n < 2 ^ 15) (k : ByteArray)
    (hQ : ∀ h' S, Ah lo sv h' x q M (M.ins k).1 → Ext S h h' → (∀ b ∈ S, lo ≤ b ∧ ¬ sv b) → Q [.int .i64 (M.ins k).2.leaf, .agg #[.int .i64 (M.ins k).2.mf, .int .i64 (M.ins k).2.mt], .int .i64 (M.ins k).2.err] h') : S_leaf_Leaves_Insert (some ⟨x, 0, none⟩) k h Q := by
  obtain ⟨ls, R, h1, h2, h3⟩ := hb
  exact ins_L h2 ok hn k fun h' S hv he hS => hQ h' S ⟨ls, R, h1.extF he fun b hb hm => (hS b hm).2 (Or.inl hb), hv, h3⟩ he fun b hb => ⟨(hS b hb).1, fun g => (hS b hb).2 (Or.inr g)⟩
theorem both_rem (hb : Ah lo sv h x q M M) (ok : OkM M n) (hn : n < 2 ^ 15) (k : ByteArray)
    (hQ : ∀ h' S, Ah lo sv h' x q M (M.rem k).1 → Ext S h h' → (∀ b ∈ S, lo ≤ b ∧ ¬ sv b) → Q [.int .i64 (M.rem k).2.leaf, .agg #[.int .i64 (M.rem k).2.mf, .int .i64 (M.rem k).2.mt], .int .i64 (M.rem k).2.err] h') : S_leaf_Leaves_Remove (some ⟨x, 0, none⟩) k h Q := by
  obtain ⟨ls, R, h1, h2, h3⟩ := hb
  exact rem_L h2 ok hn k fun h' S hv he hS => hQ h' S ⟨ls, R, h1.extF he fun b hb hm => (hS b hm).2 (Or.inl hb), hv, h3⟩ he fun b hb => ⟨(hS b hb).1, fun g => (hS b hb).2 (Or.inr g)⟩
theorem ahead_ins {k : ByteArray} (hb : Ah lo sv h x q M (M.ins k).1) (ok : OkM M n) (hn : n < 2 ^ 15)
    (hQ : ∀ h' S, Ah lo sv h' x q (M.ins k).1 (M.ins k).1 → Ext S h h' → (∀ b ∈ S, lo ≤ b ∧ ¬ sv b) → Q [.agg #[.int .i64 (M.ins k).2.leaf, .int .i64 (M.ins k).2.mf, .int .i64 (M.ins k).2.mt, .int .i64 (M.ins k).2.err]] h') : S_liveryref10_Leaves_Insert (some ⟨q, 0, none⟩) k h Q := by
  obtain ⟨ls, R, h1, h2, h3⟩ := hb
  refine InsertR_s h1 ok hn h2.2.1 k fun h' ls' R' S hr' he hS hF => hQ h' S ⟨ls', R', hr', h2.swap he (fun b hb _ => Or.inl (hS b hb)) fun b hb => ?_, fun b hb hr => ?_⟩ he fun b hb => ⟨rfp_lo h1 (hS b hb), fun g => h3 b g (hS b hb)⟩
  · rcases hb with g | g
    · exact ⟨(hF b g).imp Or.inl id, rfp_lt hr' g⟩
    · exact ⟨Or.inl (Or.inr g), by have := h2.1 b (Or.inr g); have := he.sz; omega⟩
  · rcases hF b hr with g | g
    · exact h3 b hb g
    · have := h2.1 b (Or.inr hb); omega
theorem ahead_rem {k : ByteArray} (hb : Ah lo sv h x q M (M.rem k).1) (ok : OkM M n) (hn : n < 2 ^ 15)
    (hQ : ∀ h' S, Ah lo sv h' x q (M.rem k).1 (M.rem k).1 → Ext S h h' → (∀ b ∈ S, lo ≤ b ∧ ¬ sv b) → Q [.agg #[.int .i64 (M.rem k).2.leaf, .int .i64 (M.rem k).2.mf, .int .i64 (M.rem k).2.mt, .int .i64 (M.rem k).2.err]] h') : S_liveryref10_Leaves_Remove (some ⟨q, 0, none⟩) k h Q := by
  obtain ⟨ls, R, h1, h2, h3⟩ := hb
  refine RemoveR_s h1 ok hn h2.2.1 k fun h' ls' R' S hr' he hS hF => hQ h' S ⟨ls', R', hr', h2.swap he (fun b hb _ => Or.inl (hS b hb)) fun b hb => ?_, fun b hb hr => ?_⟩ he fun b hb => ⟨rfp_lo h1 (hS b hb), fun g => h3 b g (hS b hb)⟩
  · rcases hb with g | g
    · exact ⟨(hF b g).imp Or.inl id, rfp_lt hr' g⟩
    · exact ⟨Or.inl (Or.inr g), by have := h2.1 b (Or.inr g); have := he.sz; omega⟩
  · rcases hF b hr with g | g
    · exact h3 b hb g
    · have := h2.1 b (Or.inr hb); omega
theorem keysOf_neg {M : LeafM} (ok : OkM M n) : keysOf M.l (-1) = none := by
  unfold keysOf
  rw [List.find?_eq_none.2 (fun o ho => by have := (ok.num o ho).1; simp; omega)]
  rfl
theorem LeafPlays_s {fan : Int} {a : Sl} {xs : List StepL} (ha : Reads 3 encT h a xs) (hlen : xs.length ≤ 9223372036854775807) (hQ : ∀ h', Ext [] h h' → Q [.bool true] h') : F_liverylaw10_LeafPlays fan a h Q := by
  unfold F_liverylaw10_LeafPlays
  by_cases hf : 2 ≤ fan ∧ fan ≤ 64
  · refine New_L hf fun h1 x hv1 e1 => ⟨_, _, rfl, ?_⟩
    refine NewR_s (lo := h.size) hf e1.sz fun h2 q ls R hr2 e2 hF => ⟨_, _, rfl, ?_⟩
    have e02 := e1.trans0 e2
    have hb2 : Ah h.size (fun _ => False) h2 x q ⟨fan, 2, [⟨1, ByteArray.mk #[], []⟩]⟩ ⟨fan, 2, [⟨1, ByteArray.mk #[], []⟩]⟩ :=
      ⟨ls, R, hr2, hv1.grow e2 fun b hb => hb.elim (fun g => ⟨Or.inr (hF b g), rfp_lt hr2 g⟩) fun g => g.elim, fun b hb => hb.elim⟩
    intro J9 hJ9
    rw [if_neg (by decide)]
    refine hJ9 _ _ ?_
    rw [if_neg (by simp)]
    intro J12 hJ12
    rw [if_neg (by simp)]
    refine fair_s (ha.ext0 e02) hlen ⟨_, rfl, ?_⟩
    cases hfa : fairB xs with
    | false =>
      refine hJ12 _ _ ?_
      rw [if_pos (by decide)]
      refine wakes10_s fun h3 e3 => ⟨_, rfl, ?_⟩
      exact hQ h3 (e02.trans0 e3)
    | true =>
    have hl200 := fair_len hfa
    refine hJ12 _ _ ?_
    rw [if_neg (by decide)]
    intro X hX
    have han := ha.1
    have key : ∀ d i g M, d + i = xs.length → Ah h.size (fun _ => False) g x q M M → Ext [] h g → OkM M (2 * i) → X [.int .i64 (i : Int)] g := by
      intro d
      induction d with
      | zero =>
        intro i g M hi hb e ok
        refine hX _ _ ?_
        rw [if_neg (by simp; omega)]
        have okn : 2 * i < 2 ^ 15 := by omega
        obtain ⟨ls, R, hr, hv, _⟩ := hb
        obtain ⟨n1, n2⟩ := ref_len hr
        have hMl := ok.len
        intro Y hY
        have key2 : ∀ d j g1, d + j = R.length → RefAt h.size g1 q M ls R → Lv h.size (fun b => RFp q ls R b ∨ False) g1 x M → Ext [] h g1 → Y [.int .i64 (j : Int)] g1 := by
          intro d
          induction d with
          | zero =>
            intro j g1 hj hr1 hv1 e1
            refine hY _ _ ?_
            simp only [nilW_some, addr_mk, rd_blk hr1.blk]
            refine ⟨ls, rfl, ?_⟩
            rw [if_neg (by simp; omega)]
            refine Keys_L hv1 ok okn _ fun g2 s2 hv2 e2 ho2 => ⟨s2, rfl, ?_⟩
            rw [keysOf_neg ok] at ho2
            have := ho2.1
            rw [if_pos (by simp at this; simp; omega)]
            refine wakes10_s fun g3 e3 => ⟨_, rfl, ?_⟩
            exact hQ g3 ((e1.trans0 e2).trans0 e3)
          | succ d ih =>
            intro j g1 hj hr1 hv1 e1
            refine hY _ _ ?_
            simp only [nilW_some, addr_mk, rd_blk hr1.blk]
            refine ⟨ls, rfl, ?_⟩
            rw [if_pos (by simp; omega)]
            refine ⟨ls, rfl, ?_⟩
            have hjR : j < R.length := by omega
            obtain ⟨hj2, m1, m2, m3, m4⟩ := ref_at hr1 hjR
            obtain ⟨aa, w1, w2, w3, w4, w5⟩ := rdR hr1.own hjR
            rw [w1]
            simp only [nilW_some, Int.toNat_natCast]
            refine ⟨by omega, by omega, _, w2, ls, by rw [w1]; rfl, ?_⟩
            rw [w1]
            simp only [nilW_some]
            refine ⟨by omega, by omega, R[j].ks, w5, ?_⟩
            refine Keys_L hv1 ok okn _ fun g2 s2 hv2 e2 ho2 => ⟨s2, rfl, rd_ext0 e2 w5, ?_, ?_⟩
            · have := (hr1.ext0 e2).blk
              rw [rd_blk this, w1]; rfl
            · rw [m1, keys_at ok hj2, Option.getD_some] at ho2
              have hk := ((hr1.ext0 e2).keys _ (List.getElem_mem hjR)).sl.reads
              rw [m2] at hk
              have hkl := (ok.ord _ (List.getElem_mem hj2)).2
              refine Texts_s ho2.sl.reads hk (by omega) ⟨_, rfl, ?_⟩
              rw [decide_eq_true rfl, if_neg (by decide), wrap64 (by omega) (by omega)]
              have := ih (j + 1) g2 (by omega) (hr1.ext0 e2) hv2 (e1.trans0 e2)
              simpa using this
        have := key2 R.length 0 g (by omega) hr hv e
        simpa using this
      | succ d ih =>
        intro i g M hi hb e ok
        refine hX _ _ ?_
        rw [if_pos (by simp; omega)]
        have hil : i < xs.length := by omega
        obtain ⟨aa, w1, w2, w3, w4⟩ := rdT (ha.ext0 e) (i := i) hil
        rw [w1]
        simp only [nilW_some, Int.toNat_natCast]
        refine ⟨by omega, by omega, _, w2, _, w3, _, w4, ?_⟩
        refine varI rfl rfl fun g1 t1 b1 f1 => ?_
        have hb1 : Ah h.size (fun b => b = g.size) g1 x q M M := hb.grow f1 fun b hs => ⟨Or.inr (by omega), by omega⟩
        have eg1 := e.trans0 f1
        have hlo1 := hb.lo'
        refine ⟨xs[i].kind, by simp [rd_blk b1], ?_⟩
        intro J28 hJ28
        have after0 : ∀ g2 M2, Ah h.size (fun b => b = g.size) g2 x q M2 M2 → OkM M2 (2 * i + 1) → Ext [] h g2 → Blk g2 g.size #[.int .i64 xs[i].kind, .string xs[i].key, .string xs[i].to] T_liverylaw10_Step → J28 [] g2 := by
          intro g2 M2 hb2 ok2 e2 b2
          refine hJ28 _ ?_
          refine ⟨xs[i].kind, by simp [rd_blk b2], ?_⟩
          intro J31 hJ31
          have look : ∀ g3 M3, Ah h.size (fun b => b = g.size) g3 x q M3 M3 → OkM M3 (2 * i + 2) → Ext [] h g3 → Blk g3 g.size #[.int .i64 xs[i].kind, .string xs[i].key, .string xs[i].to] T_liverylaw10_Step → J31 [] g3 := by
            intro g3 M3 hb3 ok3 e3 b3
            refine hJ31 _ ?_
            have okn : 2 * i + 2 < 2 ^ 15 := by omega
            refine ⟨xs[i].key, by simp [rd_blk b3], xs[i].to, by simp [rd_blk b3], ?_⟩
            obtain ⟨ls, R, hr3, hv3, _⟩ := hb3
            refine Range_L hv3 ok3 okn _ _ fun g4 sk sn hv4 f4 hk4 hn4 => ⟨sk, sn, rfl, ?_⟩
            have b4 := f4.get b3 (by simp)
            refine ⟨xs[i].key, by simp [rd_blk b4], xs[i].to, by simp [rd_blk b4], ?_⟩
            refine RangeR_s (hr3.ext0 f4) ok3 okn _ _ fun g5 rk rn f5 hk5 hn5 => ⟨rk, rn, rfl, ?_⟩
            refine varI rfl rfl fun g6 t6 d6 f6 => ?_
            have f36 := (f4.trans0 f5).trans0 f6
            have hv6 := hv3.e0 f36
            have hr6 := hr3.ext0 f36
            have b6 := f36.get b3 (by simp)
            have hMl := ok3.len
            have hrl : (M3.rng xs[i].key xs[i].to).1.length ≤ 2 ^ 40 ∧ (M3.rng xs[i].key xs[i].to).2.length ≤ 2 ^ 40 := by
              unfold LeafM.rng
              split
              · simp
              · have h5 : (partL M3.l xs[i].key xs[i].to).length ≤ 2 ^ 15 := by unfold partL; simp; omega
                have h6 := flat_len (partL M3.l xs[i].key xs[i].to) (2 ^ 10) fun o ho => (ok3.ord o (List.mem_of_mem_take (List.mem_of_mem_drop ho))).2
                have h7 := List.length_filter_le (inR xs[i].key xs[i].to) ((partL M3.l xs[i].key xs[i].to).flatMap OneM.keys)
                have h8 := Nat.mul_le_mul_right (2 ^ 10) h5
                simp only [List.length_map]
                constructor <;> omega
            intro J47 hJ47
            refine ⟨rk, by simp [rd_blk d6], ?_⟩
            refine Texts_s ((hk4.ext0 f5).ext0 f6).sl.reads (hk5.ext0 f6).sl.reads (by omega) ⟨_, rfl, ?_⟩
            rw [decide_eq_true rfl, if_neg (by decide)]
            refine ⟨rn, by simp [rd_blk d6], ?_⟩
            refine Ints_s ((hn4.ext0 f5).ext0 f6).sl.reads (hn5.ext0 f6).sl.reads (by omega) ⟨_, rfl, ?_⟩
            rw [beq_self_eq_true, if_neg (by decide)]
            refine ⟨xs[i].key, by simp [rd_blk b6], xs[i].key, by simp [rd_blk b6], ?_⟩
            refine Has_L hv6 ok3 okn _ ⟨_, rfl, by simp [rd_blk b6], ?_⟩
            refine HasR_s hr6 ok3.wf ok3.ne _ (by omega) (fun o ho => by have := (ok3.ord o ho).2; omega) ⟨_, rfl, ?_⟩
            rw [if_neg (by simp)]
            refine ⟨xs[i].key, by simp [rd_blk b6], xs[i].key, by simp [rd_blk b6], ?_⟩
            refine Of_L hv6 ok3 okn _ ⟨_, rfl, by simp [rd_blk b6], ?_⟩
            refine OfR_s hr6 ok3.wf ok3.ne _ (by omega) ⟨_, rfl, ?_⟩
            rw [if_neg (by simp)]
            refine All_L hv6 ok3 okn fun g7 s7 hv7 f7 ho7 => ⟨s7, rfl, ?_⟩
            refine AllR_s (hr6.ext0 f7) (by omega) fun g8 s8 f8 ho8 => ⟨s8, rfl, ?_⟩
            refine Ints_s (ho7.ext0 f8).sl.reads ho8.sl.reads (by simp; omega) ⟨_, rfl, ?_⟩
            rw [beq_self_eq_true, if_neg (by decide)]
            have hv8 := hv7.e0 f8
            have hr8 := (hr6.ext0 f7).ext0 f8
            refine Len_L hv8 ok3 okn ⟨_, rfl, ?_⟩
            refine LenR_s hr8 (by omega) (fun o ho => by have := (ok3.ord o ho).2; omega) ⟨_, rfl, ?_⟩
            rw [bne_self_eq_false]
            refine hJ47 _ _ ?_
            rw [if_neg (by decide), wrap64 (by omega) (by omega)]
            have e8 := ((e3.trans0 f36).trans0 f7).trans0 f8
            have := ih (i + 1) g8 M3 (by omega) ⟨ls, R, hr8, hv8.less (fun b hb => hb.elim Or.inl fun g => g.elim), fun b hb => hb.elim⟩ e8 (by rw [show 2 * (i + 1) = 2 * i + 2 by omega]; exact ok3)
            simpa using this
          by_cases hk1 : xs[i].kind = 1
          · rw [if_pos (by simp [hk1])]
            refine ⟨xs[i].key, by simp [rd_blk b2], ?_⟩
            refine both_rem hb2 ok2 (by omega) _ fun g3 S hb3 f3 hS => ⟨_, _, _, _, rfl, ?_⟩
            refine varI rfl rfl fun g4 t4 d4 f4 => ?_
            have b3 := f3.get b2 (fun hm => (hS _ hm).2 rfl)
            have b4 := f4.get b3 (by simp)
            refine ⟨xs[i].key, by simp [rd_blk b4], ?_⟩
            have zz3 := f3.sz
            have hgl := blk_lt b2
            have hb4 : Ah h.size (fun b => b = g.size ∨ b = g3.size) g4 x q M2 (M2.rem xs[i].key).1 := hb3.grow f4 fun b hs => by
              rcases hs with g | g
              · exact ⟨Or.inl g, by omega⟩
              · exact ⟨Or.inr (by omega), by omega⟩
            refine ahead_rem hb4 ok2 (by omega) fun g5 S5 hb5 f5 hS5 => ⟨_, _, _, _, rfl, ?_⟩
            refine varI rfl rfl fun g6 t6 d6 f6 => ?_
            have b6 := f6.get (f5.get b4 (fun hm => (hS5 _ hm).2 (Or.inl rfl))) (by simp)
            have m6 := f6.get (f5.get d4 (fun hm => (hS5 _ hm).2 (Or.inr rfl))) (by simp)
            intro J107 hJ107
            refine ⟨_, by simp [rd_blk d6]; rfl, ?_⟩
            rw [if_neg (by simp)]
            refine ⟨_, by simp [rd_blk m6]; rfl, _, by simp [rd_blk d6]; rfl, ?_⟩
            rw [if_neg (by simp)]
            refine ⟨_, by simp [rd_blk m6]; rfl, _, by simp [rd_blk d6]; rfl, ?_⟩
            rw [if_neg (by simp)]
            refine ⟨_, by simp [rd_blk d6]; rfl, ?_⟩
            rw [bne_self_eq_false]
            refine hJ107 _ _ ?_
            rw [if_neg (by decide)]
            exact look g6 _ ((hb5.e0 f6).less fun b hb => Or.inl hb) (rem_ok ok2 _).1 ((((e2.trans f3 (fun b hb hlt => by have := (hS b hb).1; omega)).trans0 f4).trans f5 (fun b hb hlt => by have := (hS5 b hb).1; omega)).trans0 f6) b6
          · rw [if_neg (by simp [hk1])]
            exact look g2 M2 hb2 ok2.up e2 b2
        by_cases hk0 : xs[i].kind = 0
        · rw [if_pos (by simp [hk0])]
          refine ⟨xs[i].key, by simp [rd_blk b1], ?_⟩
          refine both_ins hb1 ok (by omega) _ fun g3 S hb3 f3 hS => ⟨_, _, _, _, rfl, ?_⟩
          refine varI rfl rfl fun g4 t4 d4 f4 => ?_
          have b3 := f3.get b1 (fun hm => (hS _ hm).2 rfl)
          have b4 := f4.get b3 (by simp)
          refine ⟨xs[i].key, by simp [rd_blk b4], ?_⟩
          have zz3 := f3.sz
          have hgl := blk_lt b1
          have hb4 : Ah h.size (fun b => b = g.size ∨ b = g3.size) g4 x q M (M.ins xs[i].key).1 := hb3.grow f4 fun b hs => by
            rcases hs with g | g
            · exact ⟨Or.inl g, by omega⟩
            · exact ⟨Or.inr (by omega), by omega⟩
          refine ahead_ins hb4 ok (by omega) fun g5 S5 hb5 f5 hS5 => ⟨_, _, _, _, rfl, ?_⟩
          refine varI rfl rfl fun g6 t6 d6 f6 => ?_
          have b6 := f6.get (f5.get b4 (fun hm => (hS5 _ hm).2 (Or.inl rfl))) (by simp)
          have m6 := f6.get (f5.get d4 (fun hm => (hS5 _ hm).2 (Or.inr rfl))) (by simp)
          intro J107 hJ107
          refine ⟨_, by simp [rd_blk d6]; rfl, ?_⟩
          rw [if_neg (by simp)]
          refine ⟨_, by simp [rd_blk m6]; rfl, _, by simp [rd_blk d6]; rfl, ?_⟩
          rw [if_neg (by simp)]
          refine ⟨_, by simp [rd_blk m6]; rfl, _, by simp [rd_blk d6]; rfl, ?_⟩
          rw [if_neg (by simp)]
          refine ⟨_, by simp [rd_blk d6]; rfl, ?_⟩
          rw [bne_self_eq_false]
          refine hJ107 _ _ ?_
          rw [if_neg (by decide)]
          exact after0 g6 _ ((hb5.e0 f6).less fun b hb => Or.inl hb) (ins_ok ok _).1 ((((eg1.trans f3 (fun b hb hlt => by have := (hS b hb).1; omega)).trans0 f4).trans f5 (fun b hb hlt => by have := (hS5 b hb).1; omega)).trans0 f6) b6
        · rw [if_neg (by simp [hk0])]
          exact after0 g1 M hb1 ok.up eg1 b1
    have := key xs.length 0 h2 _ (by omega) hb2 e02 (new_ok hf)
    simpa using this
  · have hnew : ∀ (g : Hp) (Q : List Value → Hp → Prop), Q [.pointer none, .int .i64 1] g → S_leaf_New fan g Q := by
      intro g Q hq
      refine O_leaf_New _ ?_
      unfold F_leaf_New
      intro J hJ
      by_cases h2 : fan < 2
      · rw [if_pos (by simp; omega)]
        refine hJ _ _ ?_
        rw [if_pos rfl]
        exact hq
      · rw [if_neg (by simp; omega)]
        refine hJ _ _ ?_
        rw [if_pos (by simp; omega)]
        exact hq
    have hnewR : ∀ (g : Hp) (Q : List Value → Hp → Prop), Q [.pointer none, .int .i64 1] g → S_liveryref10_New fan g Q := by
      intro g Q hq
      refine O_liveryref10_New _ ?_
      unfold F_liveryref10_New
      intro J hJ
      by_cases h2 : fan < 2
      · rw [if_pos (by simp; omega)]
        refine hJ _ _ ?_
        rw [if_pos rfl]
        exact hq
      · rw [if_neg (by simp; omega)]
        refine hJ _ _ ?_
        rw [if_pos (by simp; omega)]
        exact hq
    refine hnew _ _ ⟨_, _, rfl, ?_⟩
    refine hnewR _ _ ⟨_, _, rfl, ?_⟩
    intro J9 hJ9
    rw [if_neg (by decide)]
    refine hJ9 _ _ ?_
    rw [if_neg (by decide)]
    intro J12 hJ12
    rw [if_pos (by decide)]
    refine hJ12 _ _ ?_
    rw [if_pos rfl]
    exact wakes10_s fun h3 e3 => ⟨_, rfl, hQ h3 e3⟩
end
end Go.Lift

/- LeafCovers: a key comes into a leaf that was told of. -/
import Derived.Test.YtempffmkbpglfaaL10x
set_option linter.unusedSimpArgs false
set_option linter.unusedVariables false
namespace Go.Lift
open Go Go.Proofs
set_option maxRecDepth 100000
section
variable {h : Hp} {Q : List Value → Hp → Prop}
/-- A slice of integers is copied behind an empty one, and one more is added. -/
theorem app2 {lo f bn : Nat} {g : Hp} {sc : Sl} {cv : List Int} {m : Int} {K : Sl → Hp → Prop} (hf : Blk g f #[] T_int) (hlf : lo ≤ f) (hr : Reads 1 encIL g sc cv) (hb : Blk g bn #[.int .i64 m] T_int) (hne : bn ≠ f) (hl : cv.length ≤ 2 ^ 30)
    (H : ∀ s' g', Own T_int 1 encIL lo g' s' (cv ++ [m]) → Ext [f] g g' → K s' g') :
    ∃ cs : List Value, cellsAt g sc.a (sc.n * 1) cs ∧ appS PP T_int 8 1 g ⟨some ⟨f, 0, none⟩, 0, 0⟩ sc.n cs fun l1 g1 => ∃ cs2 : List Value, cellsAt g1 (some ⟨bn, 0, none⟩) (1 * 1) cs2 ∧ appS PP T_int 8 1 g1 ⟨l1.a, l1.n, l1.c⟩ 1 cs2 K := by
  have hn := hr.1
  have hlg : lo ≤ g.size := by have := blk_lt hf; omega
  have ho : Own T_int 1 encIL lo g ⟨some ⟨f, 0, none⟩, 0, 0⟩ [] := ⟨rfl, fun e => (by cases e), fun a ha => by cases ha; exact ⟨f, _, rfl, hlf, hf, Nat.le_refl _, by simp, by simp⟩⟩
  refine ⟨_, hr.2.2, ?_⟩
  refine app_own (ys := cv) ho zcInt encIL_len (fun x _ => encIL_one x) rfl hn (by simp; omega) (by simp; omega) hlg fun l1 g1 ho1 he1 hn1 hb1 => ?_
  have hsz := he1.sz
  have hfs : sBlk ⟨some ⟨f, 0, none⟩, 0, 0⟩ = [f] := rfl
  rw [hfs] at he1
  have hb' := he1.get hb (by simp; exact hne)
  simp only [List.nil_append] at ho1
  have hl1 := ho1.1
  refine ⟨[.int .i64 m], ?_, ?_⟩
  · have := cellsAt_blk hb' (o := 0) (n := 1 * 1) (by simp)
    simpa using this
  · refine app_own (ys := [m]) ho1 zcInt encIL_len (fun x _ => encIL_one x) rfl rfl (by simp only; omega) (by simp only; omega) (by omega) fun s' g' ho' he' hn' hb2 => H s' g' ho' ?_
    refine he1.trans he' fun b hb hlt => ?_
    rcases hb1 b hb with g2 | g2
    · rw [hfs] at g2; exact g2
    · omega
theorem LeafCovers_s {a1 a2 : Sl} {xs ys : List StepL} {kd : Int} {a b : ByteArray} (ha1 : Reads 3 encT h a1 xs) (ha2 : Reads 3 encT h a2 ys) (hl1 : xs.length ≤ 9223372036854775807) (hl2 : ys.length ≤ 9223372036854775807) (hQ : ∀ h', Ext [] h h' → Q [.bool true] h') : F_liverylaw10_LeafCovers a1 a2 kd a b h Q := by
  unfold F_liverylaw10_LeafCovers
  refine newI fun h1 s1 b1 e1 => ?_
  refine Mod_s (by decide) (by decide) fun m hm0 hm6 => ⟨_, rfl, ?_⟩
  rw [wrap64 (x := 2 + m) (by omega) (by omega)]
  refine New_L (by omega) fun h2 x hv2 e2 => ⟨_, _, rfl, ?_⟩
  intro J hJ
  have unfair : ∀ g, Ext [] h1 g → J [.bool true] g := by
    intro g hg
    refine hJ _ _ ?_
    rw [if_pos rfl]
    intro J2 hJ2
    rw [if_pos (by decide)]
    refine wakes10_s fun h3 e3 => ⟨_, rfl, ?_⟩
    exact hJ2 _ _ (hQ h3 ((e1.trans0 hg).trans0 e3))
  rw [if_neg (by decide)]
  refine fair_s ((ha1.ext0 e1).ext0 e2) hl1 ⟨_, rfl, ?_⟩
  cases hfa : fairB xs with
  | false => rw [if_pos (by decide)]; exact unfair h2 e2
  | true =>
  rw [if_neg (by decide)]
  refine fair_s ((ha2.ext0 e1).ext0 e2) hl2 ⟨_, rfl, ?_⟩
  cases hfb : fairB ys with
  | false => rw [if_pos (by decide)]; exact unfair h2 e2
  | true =>
  rw [if_neg (by decide)]
  have c2 := e2.get b1 (by simp)
  refine ⟨kd, by rw [addr_mk, rd_blk c2]; rfl, a, by rw [addr_mk, rd_blk c2]; rfl, b, by rw [addr_mk, rd_blk c2]; rfl, ?_⟩
  refine newI fun h3 s3 b3 e3 => ?_
  have hr3 : Reads 3 encT h3 ⟨some ⟨h2.size, 0, none⟩, 1, 1⟩ [⟨kd, a, b⟩] := by
    refine ⟨rfl, fun e => (by cases e), ?_⟩
    have := cellsAt_blk b3 (o := 0) (n := 1 * 3) (by simp)
    simpa using this
  refine fair_s hr3 (by simp) ⟨_, rfl, ?_⟩
  cases hfc : fairB [⟨kd, a, b⟩] with
  | false => exact unfair h3 (e2.trans0 e3)
  | true =>
  have hx200 := fair_len hfa
  have hy200 := fair_len hfb
  have hn1 := ha1.1
  have hn2 := ha2.1
  refine hJ _ _ ?_
  rw [if_neg (by decide)]
  intro X hX
  have key : ∀ d i g M, d + i = xs.length → Lv h1.size (fun _ => False) g x M → Ext [] h1 g → OkM M i → X [.int .i64 (i : Int)] g := by
    intro d
    induction d with
    | succ d ih =>
      intro i g M hi hv e ok
      refine hX _ _ ?_
      rw [if_pos (by simp; omega)]
      have hil : i < xs.length := by omega
      obtain ⟨aa, w1, w2, w3, w4⟩ := rdT ((ha1.ext0 e1).ext0 e) (i := i) hil
      rw [w1]
      simp only [nilW_some, Int.toNat_natCast]
      refine ⟨by omega, by omega, _, w2, _, w3, _, w4, ?_⟩
      refine do_s hv ok (by omega) _ _ _ fun g2 S hv2 e2 hS => ⟨_, _, _, _, rfl, ?_⟩
      rw [wrap64 (by omega) (by omega)]
      have := ih (i + 1) g2 _ (by omega) hv2 (e.trans e2 fun b hb hlt => by have := (hS b hb).1; omega) (step_ok ok xs[i].kind xs[i].key).1
      simpa using this
    | zero =>
      intro i g M hi hv e ok
      refine hX _ _ ?_
      rw [if_neg (by simp; omega)]
      have cg := e.get b1 (by simp)
      refine ⟨a, by rw [addr_mk, rd_blk cg]; rfl, b, by rw [addr_mk, rd_blk cg]; rfl, ?_⟩
      refine Range_L hv ok (by omega) a b fun g1 sk sc hv1 eg1 hok hoc => ⟨sk, sc, rfl, ?_⟩
      have e1' := e.trans0 eg1
      have cg1 := e1'.get b1 (by simp)
      have hcn := hoc.1
      intro J2 hJ2
      have empty : emptyR a b = true → J2 [.bool true] g1 := by
        intro he
        refine hJ2 _ _ ?_
        rw [if_pos rfl]
        intro J3 hJ3
        unfold LeafM.rng at hcn
        rw [if_pos he] at hcn
        rw [if_pos (by simp at hcn ⊢; omega)]
        refine wakes10_s fun g2 eg2 => ⟨_, rfl, ?_⟩
        exact hJ3 _ _ (hQ g2 ((e1.trans0 e1').trans0 eg2))
      have full : emptyR a b = false → J2 [.bool false] g1 := by
        intro he
        refine hJ2 _ _ ?_
        rw [if_neg (by decide)]
        have hcov : ∀ q, inR a b q = true → ofL M.l q ∈ (M.rng a b).2 := fun q hq => covers ok he hq
        have haa : inR a b a = true := by
          unfold inR
          unfold emptyR at he
          rw [sLt_irrefl]
          cases hb0 : b.toList == [] with
          | true => rfl
          | false =>
            rw [hb0] at he
            simp only [Bool.not_false, Bool.true_and, Bool.or_eq_false_iff] at he
            rcases sLt_total a b with g | g | g
            · subst g; simp at he
            · rw [g]; rfl
            · rw [g] at he; exact absurd he.1 (by decide)
        have hpos : 0 < (M.rng a b).2.length := List.length_pos_of_mem (hcov a haa)
        rw [if_neg (by simp; omega)]
        have hcl : (M.rng a b).2.length ≤ 2 ^ 10 := by
          unfold LeafM.rng
          rw [if_neg (by rw [he]; decide)]
          simp only [List.length_map, partL, List.length_drop, List.length_take]
          have := ok.len
          omega
        generalize hcv : (M.rng a b).2 = cv0 at *
        intro Y hY
        have key2 : ∀ d j g2 M2 sc2 cv, d + j = ys.length → Lv h1.size (fun b => b ∈ sBlk sc2) g2 x M2 → Ext [] h1 g2 → OkM M2 (i + j) → Own T_int 1 encIL h1.size g2 sc2 cv → cv.length ≤ 2 ^ 10 + j →
            (∀ q, inR a b q = true → ofL M2.l q ∈ cv) → Y [.slice sc2.a sc2.n sc2.c, .int .i64 (j : Int)] g2 := by
          intro d
          induction d with
          | zero =>
            intro j g2 M2 sc2 cv hj hv2 e2 ok2 ho2 hc2 hcov2
            refine hY _ _ _ ?_
            rw [if_neg (by simp; omega)]
            refine wakes10_s fun g3 eg3 => ⟨_, rfl, ?_⟩
            exact hQ g3 ((e1.trans0 e2).trans0 eg3)
          | succ d ih =>
            intro j g2 M2 sc2 cv hj hv2 e2 ok2 ho2 hc2 hcov2
            refine hY _ _ _ ?_
            rw [if_pos (by simp; omega)]
            have hjl : j < ys.length := by omega
            obtain ⟨aa, w1, w2, w3, w4⟩ := rdT ((ha2.ext0 e1).ext0 e2) (i := j) hjl
            rw [w1]
            simp only [nilW_some, Int.toNat_natCast]
            refine ⟨by omega, by omega, _, w3, by omega, by omega, _, w2, _, w3, _, w4, ?_⟩
            have hstep := step_ok ok2 ys[j].kind ys[j].key
            have hmod := hstep.2.1
            have hleaf := hstep.2.2
            have okS := hstep.1
            refine do_s hv2 ok2 (by omega) _ _ _ fun g3 S hv3 eg3 hS => ⟨_, _, _, _, rfl, ?_⟩
            generalize hM3 : (M2.step ys[j].kind ys[j].key).1 = M3 at *
            generalize hd : (M2.step ys[j].kind ys[j].key).2 = dd at *
            have e3 : Ext [] h1 g3 := e2.trans eg3 fun b hb hlt => by have := (hS b hb).1; omega
            have ho3 : Own T_int 1 encIL h1.size g3 sc2 cv := ho2.ext eg3 fun a ha hm => (hS _ hm).2 (mem_sBlk.2 ⟨a, ha, rfl⟩)
            refine varI rfl rfl fun g4 s4 b4 eg4 => ?_
            have e4 := e3.trans0 eg4
            have hv4 := hv3.e0 eg4
            have ho4 := ho3.ext0 eg4
            have hcn4 := ho4.1
            intro J64 hJ64
            have after : ∀ g5 sc5 cv5, Lv h1.size (fun b => b ∈ sBlk sc5) g5 x M3 → Ext [] h1 g5 → Own T_int 1 encIL h1.size g5 sc5 cv5 → cv5.length ≤ 2 ^ 10 + (j + 1) → (∀ q, inR a b q = true → ofL M3.l q ∈ cv5) →
                (∀ J70 : List Value → Hp → Prop, (∀ b71 : Bool, ∀ h72 : Hp, ((if b71 = true then (Q [(Value.bool false)] h72) else (Y [(Value.slice sc5.a sc5.n sc5.c), (Value.int .i64 (IntKind.wrap .i64 ((j : Int) + (1 : Int))))] h72))) → J70 [(Value.bool b71)] h72) →
                  J70 [.bool false] g5) := by
              intro g5 sc5 cv5 hv5 e5 ho5 hc5 hcov5 J70 hJ70
              refine hJ70 _ _ ?_
              rw [if_neg (by decide), wrap64 (by omega) (by omega)]
              have := ih (j + 1) g5 M3 sc5 cv5 (by omega) hv5 e5 (by rw [← Nat.add_assoc]; exact okS) ho5 hc5 hcov5
              simpa using this
            have main : ∀ bb, bb = true → dd.mf ≠ 0 → dd.mf ∈ cv → J64 [.bool bb] g4 := by
              intro bb hbb hmf hin
              subst hbb
              refine hJ64 _ _ ?_
              intro J67 hJ67
              rw [if_pos rfl]
              refine ⟨dd.mt, by rw [addr_mk, rd_blk b4]; rfl, ?_⟩
              have hcov5 : ∀ q, inR a b q = true → ofL M3.l q ∈ cv ++ [dd.mt] := by
                intro q hq
                rcases hmod q with g | ⟨_, g1, g2⟩
                · rw [g]; exact List.mem_append_left _ (hcov2 q hq)
                · rw [g2]; simp
              have fin : ∀ g5 sc5, Ext [] g4 g5 → Own T_int 1 encIL g4.size g5 sc5 (cv ++ [dd.mt]) → J67 [.slice sc5.a sc5.n sc5.c] g5 := by
                intro g5 sc5 e5 ho5
                have hv5 : Lv h1.size (fun b => b ∈ sBlk sc5) g5 x M3 := hv4.grow e5 fun b hb => ⟨Or.inr (ho5.blk b hb), own_lt ho5 b hb⟩
                have e15 := e4.trans0 e5
                refine hJ67 _ _ ?_
                intro J70 hJ70
                have nxt := after g5 sc5 (cv ++ [dd.mt]) hv5 e15 (ho5.mono e4.sz) (by simp; omega) hcov5 J70 hJ70
                have cg5 := e15.get b1 (by simp)
                obtain ⟨aa5, x1, x2, x3, x4⟩ := rdT ((ha2.ext0 e1).ext0 e15) (i := j) hjl
                obtain rfl : aa5 = aa := by rw [w1] at x1; exact (Option.some.inj x1).symm
                refine ⟨by omega, by omega, _, x2, ?_⟩
                by_cases hk : ys[j].kind = 0
                · rw [if_pos (by simp [hk])]
                  by_cases herr : dd.err = 0
                  · rw [if_pos (by simp [herr])]
                    have hlf := hleaf hk herr
                    refine ⟨a, by rw [addr_mk, rd_blk cg5]; rfl, ?_⟩
                    have q1 : Op.bytesLess ys[j].key.toList a.toList = sLt ys[j].key a := rfl
                    have q2 : Op.bytesLess ys[j].key.toList b.toList = sLt ys[j].key b := rfl
                    rw [q1]
                    have hhas : inR a b ys[j].key = true → (cv ++ [dd.mt]).contains dd.leaf = true := by
                      intro hin
                      rw [← hlf]
                      exact List.contains_iff_mem.2 (hcov5 _ hin)
                    cases h5 : sLt ys[j].key a with
                    | true => rw [if_neg (by decide)]; exact nxt
                    | false =>
                      rw [if_pos (by decide)]
                      refine ⟨b, by rw [addr_mk, rd_blk cg5]; rfl, ?_⟩
                      rw [emptyB]
                      cases h6 : b.toList == [] with
                      | true =>
                        rw [if_pos rfl]
                        refine HasI_s ho5.sl.reads (by simp; omega) ⟨_, rfl, ?_⟩
                        rw [hhas (by unfold inR; rw [h5, h6]; rfl)]
                        exact nxt
                      | false =>
                        rw [if_neg (by decide)]
                        refine ⟨b, by rw [addr_mk, rd_blk cg5]; rfl, ?_⟩
                        rw [q2]
                        cases h7 : sLt ys[j].key b with
                        | true =>
                          rw [if_pos rfl]
                          refine HasI_s ho5.sl.reads (by simp; omega) ⟨_, rfl, ?_⟩
                          rw [hhas (by unfold inR; rw [h5, h6, h7]; rfl)]
                          exact nxt
                        | false => rw [if_neg (by decide)]; exact nxt
                  · rw [if_neg (by simp [herr])]
                    exact nxt
                · rw [if_neg (by simp [hk])]
                  exact nxt
              refine ⟨?_, ?_⟩
              · refine newI fun g5 s5 b5 e5 => ?_
                have m5 := e5.get b4 (by simp)
                refine ⟨by rw [addr_mk, rd_blk m5]; rfl, ⟨?_, ?_⟩⟩
                · refine ⟨_, (ho4.ext0 e5).sl.reads.2.2, ?_⟩
                  have hof : Own T_int 1 encIL g4.size g5 ⟨some ⟨g4.size, 0, none⟩, 0, 0⟩ [] := ⟨rfl, fun e => (by cases e), fun a ha => by cases ha; exact ⟨g4.size, _, rfl, Nat.le_refl _, b5, Nat.le_refl _, by simp, by simp⟩⟩
                  refine app_own (ys := cv) hof zcInt encIL_len (fun x _ => encIL_one x) rfl hcn4 (by simp only; omega) (by simp only; omega) (by omega) fun l1 g6 ho6 he6 hn6 hb6 => ?_
                  have hfs : sBlk ⟨some ⟨g4.size, 0, none⟩, 0, 0⟩ = [g4.size] := rfl
                  rw [hfs] at he6 hb6
                  have m6 := he6.get m5 (by simp; omega)
                  have z6 := he6.sz
                  simp only [List.nil_append] at ho6
                  refine ⟨by rw [addr_mk, rd_blk m6]; rfl, ?_⟩
                  refine app1 (x := dd.mt) ho6 rfl zcInt encIL_len encIL_one (by omega) (by decide) (by omega) fun s' g' ho' he' hb' => fin g' s' ?_ ho'
                  refine (e5.trans he6 (fun b hb hlt => by simp at hb; omega)).trans he' fun b hb hlt => ?_
                  rcases hb6 b hb with g | g
                  · simp at g; omega
                  · omega
                · refine newI fun g6 s6 b6 e6 => ?_
                  refine app2 (lo := g4.size) (e6.get b5 (by simp)) (Nat.le_refl _) ((ho4.ext0 e5).ext0 e6).sl.reads b6 (by omega) (by omega) fun s' g' ho' he' => fin g' s' (((e5.trans0 e6)).trans he' (by intro b hb hlt; simp at hb; omega)) ho'
              · refine newI fun g5 s5 b5 e5 => newI fun g6 s6 b6 e6 => ?_
                refine app2 (lo := g4.size) b6 (by omega) ((ho4.ext0 e5).ext0 e6).sl.reads (e6.get b5 (by simp)) (by omega) (by omega) fun s' g' ho' he' => fin g' s' (((e5.trans0 e6)).trans he' (by intro b hb hlt; simp at hb; omega)) ho'
            refine ⟨dd.mf, by rw [addr_mk, rd_blk b4]; rfl, ?_⟩
            have stay : (dd.mf = 0 ∨ dd.mf ∉ cv) → J64 [.bool false] g4 := by
              intro hor
              have hcov5 : ∀ q, inR a b q = true → ofL M3.l q ∈ cv := by
                intro q hq
                rcases hmod q with g | ⟨g0, g1, g2⟩
                · rw [g]; exact hcov2 q hq
                · exfalso
                  rcases hor with g | g
                  · exact g0 g
                  · exact g (by rw [← g1]; exact hcov2 q hq)
              refine hJ64 _ _ ?_
              intro J67 hJ67
              rw [if_neg (by decide)]
              refine hJ67 _ _ ?_
              intro J70 hJ70
              have nxt := after g4 sc2 cv hv4 e4 ho4 (by omega) hcov5 J70 hJ70
              have cg5 := e4.get b1 (by simp)
              obtain ⟨aa5, x1, x2, x3, x4⟩ := rdT ((ha2.ext0 e1).ext0 e4) (i := j) hjl
              obtain rfl : aa5 = aa := by rw [w1] at x1; exact (Option.some.inj x1).symm
              refine ⟨by omega, by omega, _, x2, ?_⟩
              by_cases hk : ys[j].kind = 0
              · rw [if_pos (by simp [hk])]
                by_cases herr : dd.err = 0
                · rw [if_pos (by simp [herr])]
                  have hlf := hleaf hk herr
                  refine ⟨a, by rw [addr_mk, rd_blk cg5]; rfl, ?_⟩
                  have q1 : Op.bytesLess ys[j].key.toList a.toList = sLt ys[j].key a := rfl
                  have q2 : Op.bytesLess ys[j].key.toList b.toList = sLt ys[j].key b := rfl
                  rw [q1]
                  have hhas : inR a b ys[j].key = true → cv.contains dd.leaf = true := by
                    intro hin
                    rw [← hlf]
                    exact List.contains_iff_mem.2 (hcov5 _ hin)
                  cases h5 : sLt ys[j].key a with
                  | true => rw [if_neg (by decide)]; exact nxt
                  | false =>
                    rw [if_pos (by decide)]
                    refine ⟨b, by rw [addr_mk, rd_blk cg5]; rfl, ?_⟩
                    rw [emptyB]
                    cases h6 : b.toList == [] with
                    | true =>
                      rw [if_pos rfl]
                      refine HasI_s ho4.sl.reads (by omega) ⟨_, rfl, ?_⟩
                      rw [hhas (by unfold inR; rw [h5, h6]; rfl)]
                      exact nxt
                    | false =>
                      rw [if_neg (by decide)]
                      refine ⟨b, by rw [addr_mk, rd_blk cg5]; rfl, ?_⟩
                      rw [q2]
                      cases h7 : sLt ys[j].key b with
                      | true =>
                        rw [if_pos rfl]
                        refine HasI_s ho4.sl.reads (by omega) ⟨_, rfl, ?_⟩
                        rw [hhas (by unfold inR; rw [h5, h6, h7]; rfl)]
                        exact nxt
                      | false => rw [if_neg (by decide)]; exact nxt
                · rw [if_neg (by simp [herr])]
                  exact nxt
              · rw [if_neg (by simp [hk])]
                exact nxt
            by_cases hmf : dd.mf = 0
            · rw [if_neg (by simp [hmf])]
              exact stay (Or.inl hmf)
            · rw [if_pos (by simp [hmf])]
              refine ⟨dd.mf, by rw [addr_mk, rd_blk b4]; rfl, ?_⟩
              refine HasI_s ho4.sl.reads (by omega) ⟨_, rfl, ?_⟩
              cases hc : cv.contains dd.mf with
              | true => exact main _ rfl hmf (List.contains_iff_mem.1 hc)
              | false => exact stay (Or.inr fun hm => by rw [List.contains_iff_mem.2 hm] at hc; cases hc)
        have := key2 ys.length 0 g1 M sc cv0 (by omega) (hv.grow eg1 fun b hb => ⟨Or.inr (hoc.blk b hb), own_lt hoc b hb⟩) e1' ok (hoc.mono e.sz) (by omega) hcov
        simpa using this
      refine ⟨b, by rw [addr_mk, rd_blk cg1]; rfl, ?_⟩
      rw [emptyB]
      unfold emptyR at empty full
      cases hb0 : b.toList == [] with
      | true =>
        rw [if_neg (by decide)]
        exact full (by rw [hb0]; rfl)
      | false =>
        rw [if_pos (by decide)]
        refine ⟨b, by rw [addr_mk, rd_blk cg1]; rfl, a, by rw [addr_mk, rd_blk cg1]; rfl, ?_⟩
        have hs : (Op.bytesLess b.toList a.toList || b.toList == a.toList) = (sLt b a || b.toList == a.toList) := rfl
        rw [hs]
        cases h4 : (sLt b a || b.toList == a.toList) with
        | true => exact empty (by rw [hb0, h4]; rfl)
        | false => exact full (by rw [hb0, h4]; rfl)
  have := key xs.length 0 h3 _ (by omega) (hv2.e0 e3) (e2.trans0 e3) (new_ok (by omega))
  simpa using this
end
end Go.Lift

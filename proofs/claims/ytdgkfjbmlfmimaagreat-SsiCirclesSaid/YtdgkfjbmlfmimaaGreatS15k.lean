/- SsiLate, SsiSkew: true, whatever the input. -/
import Derived.Test.YtdgkfjbmlfmimaaGreatS15j
set_option linter.unusedSimpArgs false
set_option linter.unusedVariables false
namespace Go.Lift.E14
open Go Go.Proofs Go.RowKit
set_option maxRecDepth 100000
section
variable {kk : Prop} {w : Nat → Nat} {G G' : Nat → Prop} {h h' : Hp} {s cb t e me mo ms dm sm : Nat} {C : CC} {kp : Sl} {M : SsiM} {Q : List Value → Hp → Prop}
/-- Something else has changed. -/
theorem SsAt.other (hA : SsAt kk w G h s cb t e me mo ms dm sm C kp M) {S : List Nat} (he : Ext S h h') (hS : ∀ b ∈ S, w b = 0) : SsAt kk (wx w h 0) G h' s cb t e me mo ms dm sm C kp M := by
  have hz := he.sz
  have k1 : ∀ {b j : Nat}, b < h.size → w b = j → j ≠ 0 → h'[b]? = h[b]? := fun {b j} hb hw hj => he.old _ hb (fun hm => by have := hS _ hm; omega)
  have lc := hA.cl.lt
  have le := blk_lt hA.ed
  have lm := hA.em.lt
  have lo := hA.eo.lt
  have ld := hA.dd.lt
  have lf := hA.sf.lt
  exact ⟨fun b hb => by have := hA.gw b hb; rw [wx_lt this.2]; omega, blk_kg hA.blk (k1 hA.lts hA.ws (by omega)), by rw [wx_lt hA.lts]; exact hA.ws, cl_kg hA.cl (k1 lc hA.wc (by omega)), by rw [wx_lt lc]; exact hA.wc, blk_kg hA.ed (k1 le hA.we (by omega)), by rw [wx_lt le]; exact hA.we,
    map_kg hA.em (k1 lm hA.wm (by omega)), by rw [wx_lt lm]; exact hA.wm, map_kg hA.eo (k1 lo hA.wo (by omega)), by rw [wx_lt lo]; exact hA.wo, hA.ne, tab_kg hA.tb (fun b hb => k1 (hA.ltt hb) (hA.wt b hb) (by omega)), hA.mc, fun b hb => by rw [wx_lt (hA.ltt hb)]; exact hA.wt b hb,
    map_kg hA.dd (k1 ld hA.wd (by omega)), by rw [wx_lt ld]; exact hA.wd, map_kg hA.sf (k1 lf hA.wf (by omega)), by rw [wx_lt lf]; exact hA.wf, fun b hb => Nat.lt_of_lt_of_le (hA.ltk hb) hz, fun q => q_kg (hA.kq q) (fun b hb => k1 (hA.ltk hb) (hA.wk b hb) (by omega)), fun b hb => by rw [wx_lt (hA.ltk hb)]; exact hA.wk b hb⟩
theorem Ss.eG (hS : Ss G h s cb t e M) {S : List Nat} (he : Ext S h h') (hG : ∀ b ∈ S, G b) : Ss G h' s cb t e M := by
  obtain ⟨w, me, mo, ms, dm, sm, C, kp, hA⟩ := hS
  exact ⟨_, _, _, _, _, _, _, _, hA.other he fun b hb => (hA.gw b (hG b hb)).1⟩
theorem Mod4_z (k : Int) (hQ : ∀ v : Int, 0 ≤ v → v ≤ 3 → Q [.int .i64 v] h) : S_liverykeep_Mod k 4 h Q := by
  refine O_liverykeep_Mod _ _ ?_
  unfold F_liverykeep_Mod
  rw [if_neg (by decide)]
  refine ⟨by decide, by decide, ?_⟩
  have h1 : -4 < Int.tmod k 4 := Int.lt_tmod_of_pos k (by decide)
  have h2 : Int.tmod k 4 < 4 := Int.tmod_lt_of_pos k (by decide)
  rw [wrap64 (by omega) (by omega), Int.tmod_eq_emod_of_nonneg (by omega)]
  exact hQ _ (by omega) (by omega)
/-- The kind of a thing is set. -/
theorem kind_z {b : Nat} {y : ThingM} {v : Int} {K : Hp → Prop} (hv : 0 ≤ v ∧ v ≤ 3) (hb : Blk h b (encT y).toArray T_siread_Thing) (H : ∀ h', Blk h' b (encT { y with kind := 1 + v }).toArray T_siread_Thing → Ext [b] h h' → h'.size = h.size → K h') :
    stOk h (Addr.add (Addr.mk b 0 none) 0) 1 ∧ wth (wrs h (Addr.add (Addr.mk b 0 none) 0) 0 [(Value.int .i64 (IntKind.wrap .i64 ((1 : Int) + v)))]) K := by
  rw [wrap64 (by omega) (by omega)]
  exact st_blk hb (by simp) fun h' z b' e' => H h' (by simpa [putAt] using b') e' z
theorem boolInt_z (c : Bool) (hQ : Q [.int .i64 (if c = true then 1 else 0)] h) : S_liverylaw15_boolInt c h Q := by
  refine O_liverylaw15_boolInt _ ?_
  unfold F_liverylaw15_boolInt
  cases c with
  | true => rw [if_pos rfl] at hQ ⊢; exact hQ
  | false => rw [if_neg (by decide)] at hQ ⊢; exact hQ
theorem HasZ {P : Nat → Prop} {S : SM} (hV : Sv P h t S) (o : Int) (x : ThingM) (hQ : ∀ h', Ext [] h h' → Q [.bool (decide (x ∈ thgs S.m o))] h') : S_siread_Table_Has (some ⟨t, 0, none⟩) o x.kind x.name x.rel x.index x.n h Q := Has_s hV x hQ
theorem SsiLate_s (y : ThingM) (c : Bool) (hQ : ∀ h', Ext [] h h' → Q [.bool true] h') : F_liverylaw15_SsiLate y.kind y.name y.rel y.index y.n c h Q := by
  unfold F_liverylaw15_SsiLate
  refine newI fun h1 s1 b1' e1 => ?_
  have b1 : Blk h1 h.size (encT y).toArray T_siread_Thing := b1'
  have r1 : ∀ k, rd h1 (Addr.add (Addr.mk h.size 0 none) k) = (encT y)[k]? := fun k => by
    rw [addr_mk, rd_blk b1]
    simp
  intro J2 hJ2
  have dflt : J2 [.bool true] h1 := by
    refine hJ2 _ _ ?_
    rw [if_pos rfl]
    exact wakes_z fun h' e' => ⟨_, rfl, hQ h' (e1.trans0 e')⟩
  have main : J2 [.bool false] h1 := by
    refine hJ2 _ _ ?_
    rw [if_neg (by decide)]
    refine Made_z (G := fun b => b < h1.size) (by decide) (by decide) (by decide) (fun b hb => hb) fun h2 s cb t e hS2 e2 => ⟨_, _, _, rfl, ?_⟩
    rw [if_neg (by decide)]
    have b2 := e2.get b1 (by simp)
    refine ⟨_, by rw [addr_mk, rd_blk b2]; rfl, ?_⟩
    refine Mod4_z _ fun v v0 v3 => ⟨_, rfl, ?_⟩
    refine kind_z ⟨v0, v3⟩ b2 fun h3 b3 e3 z3 => ?_
    obtain ⟨x, hx⟩ : ∃ x : ThingM, { y with kind := 1 + v } = x := ⟨_, rfl⟩
    rw [hx] at b3
    have hk : 1 ≤ x.kind ∧ x.kind ≤ 4 := by rw [← hx]; simp only; omega
    have hb0 : h.size < h1.size := by omega
    have hS3 : Ss (fun b => b < h1.size) h3 s cb t e (newM 9 99 9) := hS2.eG e3 fun b hb => by simp at hb; omega
    have kg3 : KG (fun b => b < h.size) h h3 := (kg_ext0 (e1.trans0 e2) fun b hb => hb).trans (kg_ext e3 (fun b hb => by have := e2.sz; omega) fun b hb g => by simp at hb; omega)
    have m0 : Mk 0 (newM 9 99 9) := newM_ok (by decide) (by decide) (by decide)
    have lift : ∀ {g g' : Hp}, KG (fun b => b < h1.size) g g' → KG (fun b => b < h.size) g g' := fun k => k.anti fun b hb => by omega
    have rb : ∀ {g : Hp}, KG (fun b => b < h1.size) h3 g → Blk g h.size (encT x).toArray T_siread_Thing := fun k => k.get b3 hb0
    have r5 : ∀ {g : Hp}, KG (fun b => b < h1.size) h3 g → ∀ k, rd g (Addr.add (Addr.mk h.size 0 none) k) = (encT x)[k]? := fun kg k => by
      rw [addr_mk, rd_blk (rb kg)]
      simp
    refine Begin_z hS3 m0 false fun h4 hS4 k4 => ⟨_, _, rfl, ?_⟩
    have m1 := m0.begin (by decide) false
    refine Begin_z hS4 m1 true fun h5 hS5 k5 => ⟨_, _, rfl, ?_⟩
    have m2 := m1.begin (by decide) true
    have k35 := k4.trans k5
    rw [late_a] at hS5 m2
    refine rd5I (rb k35) ?_
    refine Read_z hS5 m2 2 x fun h6 hS6 k6 => ⟨rfl, ?_⟩
    have m3 := m2.read (by decide) 2 x
    have k36 := k35.trans k6
    rw [late_b x hk] at hS6 m3
    intro J33 hJ33
    refine Safe_z hS6 2 ⟨_, rfl, ?_⟩
    rw [if_neg (by show ¬ decide (cnt [] 2 > 0) = true; decide)]
    refine rd5I (rb k36) ?_
    refine Table_z hS6 ⟨_, rfl, r5 k36 0, r5 k36 1, r5 k36 2, r5 k36 3, r5 k36 4, ?_⟩
    obtain ⟨P, hV, _, _, _⟩ := hS6.onS
    refine HasZ hV 2 x fun h7 e7 => ⟨_, rfl, ?_⟩
    have hS7 := hS6.e0 e7
    have k37 := k36.trans (hS6.kgE e7)
    rw [show decide (x ∈ thgs (lS x).m 2) = true from decide_eq_true (late_k x), if_neg (by decide)]
    refine commitK_z hS7 m3 (by decide) 2 fun h8 hS8 k8 => ⟨_, rfl, ?_⟩
    have m4 := m3.commit (by decide) 2
    have k38 := k37.trans k8
    rw [late_c] at hS8 m4 ⊢
    rw [if_neg (by simp)]
    refine rd5I (rb k38) ?_
    refine Table_z hS8 ⟨_, rfl, r5 k38 0, r5 k38 1, r5 k38 2, r5 k38 3, r5 k38 4, ?_⟩
    obtain ⟨P2, hV2, _, _, _⟩ := hS8.onS
    refine HasZ hV2 2 x fun h9 e9 => ⟨_, rfl, ?_⟩
    have hS9 := hS8.e0 e9
    have k39 := k38.trans (hS8.kgE e9)
    rw [show decide (x ∈ thgs (lS x).m 2) = true from decide_eq_true (late_k x)]
    refine hJ33 _ _ ?_
    rw [if_neg (by decide)]
    refine rd5I (rb k39) ?_
    refine wroteK_z hS9 m4 (by decide) 1 x fun h10 hS10 k10 => ⟨rfl, ?_⟩
    have m5 := m4.wrote (by decide) 1 x
    have k310 := k39.trans k10
    simp only at hS10 m5
    rw [late_f] at hS10 m5
    refine Edges_z hS10 ⟨_, rfl, ?_⟩
    obtain ⟨P3, hE, _, _, _⟩ := hS10.onE
    have nn5 := m5.nn
    refine In_s hE m5.e (by omega) 1 fun h11 l e11 ho => ⟨l, rfl, ?_⟩
    rw [late_i] at ho
    refine newI fun h12 z12 b12 e12 => ?_
    have e1012 := e11.trans0 e12
    have hr : Reads 1 encIL h12 ⟨some ⟨h11.size, 0, none⟩, 1, 1⟩ [2] := by
      refine ⟨rfl, fun e => (by cases e), ?_⟩
      have := cellsAt_blk b12 (o := 0) (n := 1 * 1) (by simp)
      simpa using this
    refine Ints_s (ho.ext0 e12).sl.reads hr (by simp) ⟨_, rfl, ?_⟩
    rw [if_neg (by decide)]
    have hS12 := hS10.e0 e1012
    have k312 := k310.trans (hS10.kgE e1012)
    intro J53 hJ53
    have fin : ∀ (S' : SM) (E' : EM) (L' : LM) g, Ss (fun b => b < h1.size) g s cb t e ⟨L', S', E', 9, [], [], []⟩ → Mk 6 ⟨L', S', E', 9, [], [], []⟩ → KG (fun b => b < h1.size) h3 g → ofS S' 2 = [] → ((allE E').length : Int) = (if c = true then 1 else 0) → J53 [.bool false] g := by
      intro S' E' L' g hSg mg kg hof hal
      refine hJ53 _ _ ?_
      rw [if_neg (by decide)]
      refine Table_z hSg ⟨_, rfl, ?_⟩
      obtain ⟨P4, hV4, _, _, _⟩ := hSg.onS
      have nn6 := mg.nn
      refine OfV_s hV4 mg.s (by omega) fun g2 l2 e2' ho2 => ⟨l2, rfl, ?_⟩
      rw [hof] at ho2
      have hl2 := ho2.1
      rw [if_pos (by simp at hl2 ⊢; omega)]
      have hSg2 := hSg.e0 e2'
      refine Edges_z hSg2 ⟨_, rfl, ?_⟩
      obtain ⟨P5, hE5, _, _, _⟩ := hSg2.onE
      refine All_s hE5 mg.e (by omega) fun g3 l3 e3' ho3 => ⟨l3, rfl, ?_⟩
      have hl3 := ho3.1
      refine boolInt_z c ⟨_, rfl, ?_⟩
      rw [if_pos (by rw [hl3]; simpa using hal)]
      have kk : KG (fun b => b < h.size) h g3 := (kg3.trans (lift kg)).trans (lift (hSg.kgE (e2'.trans0 e3')))
      exact wakes_z fun h' e' => ⟨_, rfl, hQ h' (Ext.trans0 ⟨kk.sz, fun b hb _ => kk.old b hb⟩ e')⟩
    cases c with
    | true =>
      rw [if_pos rfl]
      refine commitK_z hS12 m5 (by decide) 1 fun h13 hS13 k13 => ⟨_, rfl, ?_⟩
      have m6 := m5.commit (by decide) 1
      rw [late_g] at hS13 m6 ⊢
      rw [if_neg (by simp), if_neg (by decide)]
      exact fin _ _ _ h13 hS13 m6 (k312.trans k13) (late_l m5.s).1 (by rw [late_j.1]; rfl)
    | false =>
      rw [if_neg (by decide), if_pos (by rfl)]
      refine Abort_z hS12 m5 1 fun h13 hS13 k13 => ⟨_, rfl, ?_⟩
      have m6 := m5.abort (by decide) 1
      rw [late_h] at hS13 m6
      have hru : runsB lL4 1 = true := by decide +kernel
      rw [if_pos hru]
      exact fin _ _ _ h13 hS13 m6 (k312.trans k13) (late_l m5.s).2 (by rw [late_j.2]; rfl)
  refine ⟨_, r1 1, ?_⟩
  by_cases q1 : ((y.name.size : Int) > 100)
  · rw [if_pos (by simpa using q1)]
    exact dflt
  · rw [if_neg (by simpa using q1)]
    refine ⟨_, r1 3, ?_⟩
    by_cases q2 : ((y.index.size : Int) > 100)
    · rw [decide_eq_true q2]
      exact dflt
    · rw [decide_eq_false q2]
      exact main
theorem SsiSkew_s (y0 y1 : ThingM) (oth : Int) (ho : 0 ≤ oth ∧ oth ≤ 255) (hQ : ∀ h', Ext [] h h' → Q [.bool true] h') :
    F_liverylaw15_SsiSkew y0.kind y0.name y0.rel y0.index y0.n y1.kind y1.name y1.rel y1.index y1.n oth h Q := by
  unfold F_liverylaw15_SsiSkew
  refine newI fun h1 s1 b1' e1 => newI fun h2 s2 b2' e2 => ?_
  have b1 : Blk h2 h.size (encT y0).toArray T_siread_Thing := e2.get b1' (by simp)
  have b2 : Blk h2 h1.size (encT y1).toArray T_siread_Thing := b2'
  have e02 := e1.trans0 e2
  have r1 : ∀ k, rd h2 (Addr.add (Addr.mk h.size 0 none) k) = (encT y0)[k]? := fun k => by
    rw [addr_mk, rd_blk b1]
    simp
  have r2 : ∀ k, rd h2 (Addr.add (Addr.mk h1.size 0 none) k) = (encT y1)[k]? := fun k => by
    rw [addr_mk, rd_blk b2]
    simp
  intro J2 hJ2
  have dflt : J2 [.bool true] h2 := by
    refine hJ2 _ _ ?_
    rw [if_pos rfl]
    exact wakes_z fun h' e' => ⟨_, rfl, hQ h' (e02.trans0 e')⟩
  have main : J2 [.bool false] h2 := by
    refine hJ2 _ _ ?_
    rw [if_neg (by decide)]
    refine Made_z (G := fun b => b < h2.size) (by decide) (by decide) (by decide) (fun b hb => hb) fun h3 s cb t e hS3 e3 => ⟨_, _, _, rfl, ?_⟩
    rw [if_neg (by decide)]
    have b13 := e3.get b1 (by simp)
    have b23 := e3.get b2 (by simp)
    refine ⟨_, by rw [addr_mk, rd_blk b13]; rfl, _, by rw [addr_mk, rd_blk b23]; rfl, ?_⟩
    refine Mod4_z _ fun v v0 v3 => ⟨_, rfl, by rw [addr_mk, rd_blk b23]; rfl, ?_⟩
    refine Mod4_z _ fun u u0 u3 => ⟨_, rfl, ?_⟩
    refine kind_z ⟨v0, v3⟩ b13 fun h4 b14 e4 z4 => ?_
    have b24 := e4.get b23 (by simp; omega)
    refine kind_z ⟨u0, u3⟩ b24 fun h5 b25 e5 z5 => ?_
    have b15 := e5.get b14 (by simp; omega)
    obtain ⟨x, hx⟩ : ∃ x : ThingM, { y0 with kind := 1 + v } = x := ⟨_, rfl⟩
    obtain ⟨y, hy⟩ : ∃ y : ThingM, { y1 with kind := 1 + u } = y := ⟨_, rfl⟩
    rw [hx] at b15
    rw [hy] at b25
    have hkx : 1 ≤ x.kind ∧ x.kind ≤ 4 := by rw [← hx]; simp only; omega
    have hky : 1 ≤ y.kind ∧ y.kind ≤ 4 := by rw [← hy]; simp only; omega
    have l1 : h.size < h2.size := by omega
    have l2 : h1.size < h2.size := by omega
    have hz3 := e3.sz
    have hS5 : Ss (fun b => b < h2.size) h5 s cb t e (newM 50 500 50) := (hS3.eG e4 fun b hb => by simp at hb; omega).eG e5 fun b hb => by simp at hb; omega
    have kg5 : KG (fun b => b < h.size) h h5 := ((kg_ext0 (e02.trans0 e3) fun b hb => hb).trans (kg_ext e4 (fun b hb => by omega) fun b hb g => by simp at hb; omega)).trans (kg_ext e5 (fun b hb => by omega) fun b hb g => by simp at hb; omega)
    have m0 : Mk 0 (newM 50 500 50) := newM_ok (by decide) (by decide) (by decide)
    have lift : ∀ {g g' : Hp}, KG (fun b => b < h2.size) g g' → KG (fun b => b < h.size) g g' := fun k => k.anti fun b hb => by omega
    have rx : ∀ {g : Hp}, KG (fun b => b < h2.size) h5 g → Blk g h.size (encT x).toArray T_siread_Thing := fun k => k.get b15 l1
    have ry : ∀ {g : Hp}, KG (fun b => b < h2.size) h5 g → Blk g h1.size (encT y).toArray T_siread_Thing := fun k => k.get b25 l2
    obtain ⟨n, hn, hn2, hn6⟩ : ∃ n : Nat, IntKind.wrap .i64 ((2 : Int) + (Int.tmod (IntKind.wrap .i64 oth) (5 : Int))) = (n : Int) ∧ 2 ≤ n ∧ n ≤ 6 := by
      have q1 : Int.tmod oth 5 = oth % 5 := Int.tmod_eq_emod_of_nonneg (by omega)
      rw [wrap64 (x := oth) (by omega) (by omega), q1, wrap64 (by omega) (by omega)]
      exact ⟨(2 + oth % 5).toNat, by omega, by omega, by omega⟩
    intro X hX
    rw [hn] at hX
    have key : ∀ d i g, d + i = n → Ss (fun b => b < h2.size) g s cb t e (kN i) → Mk i (kN i) → KG (fun b => b < h2.size) h5 g → X [.int .i64 (i : Int)] g := by
      intro d
      induction d with
      | zero =>
        intro i g hi hSg mg kg
        have : i = n := by omega
        subst this
        refine hX _ _ ?_
        refine ⟨by decide, ?_⟩
        rw [if_neg (by simp)]
        refine rd5I (rx kg) ?_
        refine Read_z hSg mg 1 x fun h6 hS6 k6 => ⟨rfl, ?_⟩
        have m1 := mg.read (by omega) 1 x
        have kg6 := kg.trans k6
        refine rd5I (ry kg6) ?_
        refine Read_z hS6 m1 2 y fun h7 hS7 k7 => ⟨rfl, ?_⟩
        have m2 := m1.read (by omega) 2 y
        have kg7 := kg6.trans k7
        rw [skew_reads hn2 hn6 x y hkx hky] at hS7 m2
        refine rd5I (ry kg7) ?_
        refine wroteK_z hS7 m2 (by omega) 1 y fun h8 hS8 k8 => ⟨rfl, ?_⟩
        have m3 := m2.wrote (by omega) 1 y
        have kg8 := kg7.trans k8
        refine rd5I (rx kg8) ?_
        refine wroteK_z hS8 m3 (by omega) 2 x fun h9 hS9 k9 => ⟨rfl, ?_⟩
        have m4 := m3.wrote (by omega) 2 x
        have kg9 := kg8.trans k9
        rw [skew_wrote hn2 hn6 x y] at hS9 m4
        intro J hJ
        have fin : ∀ a b : Int, ((a = 1 ∧ b = 2) ∨ (a = 2 ∧ b = 1)) → J [.int .i64 a, .int .i64 b] h9 := by
          intro a b hab
          obtain ⟨q1, q2, q3⟩ := skew_end hn2 hn6 (kS x y) hab
          refine hJ _ _ _ ?_
          refine commitK_z hS9 m4 (by omega) a fun h10 hS10 k10 => ⟨_, rfl, ?_⟩
          have m5 := m4.commit (by omega) a
          refine commitK_z hS10 m5 (by omega) b fun h11 hS11 k11 => ⟨_, rfl, ?_⟩
          rw [q1, q2, if_pos (by rfl), if_pos (by rfl)]
          refine State_s hS11.cl b fun h12 e12 => ⟨_, rfl, ?_⟩
          rw [q3, if_pos (by rfl)]
          have kk : KG (fun b => b < h.size) h h12 := kg5.trans (lift (((kg9.trans k10).trans k11).trans (hS11.kgE e12)))
          exact wakes_z fun h' e' => ⟨_, rfl, hQ h' (Ext.trans0 ⟨kk.sz, fun b hb _ => kk.old b hb⟩ e')⟩
        by_cases q : oth ≥ 128
        · rw [if_pos (by simpa using q)]
          exact fin 2 1 (Or.inr ⟨rfl, rfl⟩)
        · rw [if_neg (by simpa using q)]
          exact fin 1 2 (Or.inl ⟨rfl, rfl⟩)
      | succ d ih =>
        intro i g hi hSg mg kg
        refine hX _ _ ?_
        refine ⟨by decide, ?_⟩
        rw [if_pos (by simp; omega)]
        refine Begin_z hSg mg false fun h6 hS6 k6 => ⟨_, _, rfl, ?_⟩
        have m1 := mg.begin (by omega) false
        rw [skew_begin (by omega)] at hS6 m1
        have hne : ¬ (kN i).L.l.length = 200 := by simp; omega
        rw [if_neg hne, if_neg (by decide), wrap64 (by omega) (by omega)]
        exact ih (i + 1) h6 (by omega) hS6 m1 (kg.trans k6)
    exact key n 0 h5 (by omega) hS5 m0 (KG.refl _ _)
  refine ⟨_, r1 1, ?_⟩
  by_cases q1 : ((y0.name.size : Int) > 100)
  · rw [if_pos (by simpa using q1)]
    exact dflt
  · rw [if_neg (by simpa using q1)]
    refine ⟨_, r2 1, ?_⟩
    by_cases q2 : ((y1.name.size : Int) > 100)
    · rw [if_pos (by simpa using q2)]
      exact dflt
    · rw [if_neg (by simpa using q2)]
      refine ⟨_, r1 3, ?_⟩
      by_cases q3 : ((y0.index.size : Int) > 100)
      · rw [if_pos (by simpa using q3)]
        exact dflt
      · rw [if_neg (by simpa using q3)]
        refine ⟨_, r2 3, ?_⟩
        by_cases q4 : ((y1.index.size : Int) > 100)
        · rw [decide_eq_true q4]
          exact dflt
        · rw [decide_eq_false q4]
          exact main
end
end Go.Lift.E14

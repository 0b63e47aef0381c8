/- SsiAlone: true, whatever the input. -/
import Derived.Test.YtdgkfjbmlfmimaaGreatS15l
set_option linter.unusedSimpArgs false
set_option linter.unusedVariables false
namespace Go.Lift.E14
open Go Go.Proofs Go.RowKit
set_option maxRecDepth 100000
structure AloneI (n : Nat) (me : Int) (M : SsiM) : Prop where
  e : M.E = ⟨[], []⟩
  d : M.doomed = []
  k : M.kept = []
  c : M.S.csn = 0
  lk : LOk n M.L
  o : ∀ x, (x ≠ me ∨ me = 0) → thgs M.S.m x = []
  r : ∀ x, (txL M.L x).state = 1 ↔ me ≠ 0 ∧ x = me
  s : me ≠ 0 → (txL M.L me).snap = M.L.clock
  m0 : 0 ≤ me ∧ me ≤ 200
theorem run_nil {L : LM} (h : ∀ x, (txL L x).state ≠ 1) : runningL L = [] := by
  unfold runningL
  refine List.filter_eq_nil_iff.2 fun x _ hx => ?_
  unfold runsB at hx
  exact h x (of_decide_eq_true hx)
theorem hor_nil {L : LM} (h : ∀ x, (txL L x).state ≠ 1) : horizonL L = L.clock := by
  unfold horizonL
  rw [run_nil h]
  rfl
theorem all_nil {N : Nat} {S : SM} (h : SOk N S) (ht : ∀ x, thgs S.m x = []) : S.fine = 0 := by
  rw [h.fine]
  have : totF S.m = 0 := by
    unfold totF
    have hz : ∀ p ∈ S.m, nF p.2 = 0 := fun p hp => by
      have h1 := afind_of_mem h.nd (n := p.1) (q := p.2) hp
      have h2 := ht p.1
      unfold thgs at h2
      rw [h1] at h2
      have h3 : p.2 = [] := h2
      rw [h3]
      rfl
    have hm : S.m.map (fun p => nF p.2) = S.m.map fun _ => 0 := List.map_congr_left fun p hp => hz p hp
    rw [hm]
    generalize S.m = l
    induction l with
    | nil => rfl
    | cons a l ih => simpa using ih
  rw [this]
  rfl
section
variable {n : Nat} {me : Int} {M : SsiM}
theorem AloneI.runs (h : AloneI n me M) : runsB M.L me = decide (me ≠ 0) := by
  unfold runsB
  exact decide_eq_decide.2 ((h.r me).trans ⟨fun q => q.1, fun q => ⟨q, rfl⟩⟩)
theorem AloneI.beside (h : AloneI n me M) (hm : me ≠ 0) (w : Int) : besideL M.L me w = false := by
  rw [← Bool.not_eq_true]
  intro hb
  obtain ⟨⟨q1, q2, q3, q4, q5⟩, q6, q7⟩ := beside_iff.1 hb
  have hw : (txL M.L w).state ≠ 1 := fun e => q3 ((h.r w).1 e).2.symm
  have hst := h.lk.st w q2
  have h2 : (txL M.L w).state = 2 := by omega
  have hc := (h.lk.csn w q2 h2).2.1
  exact q6 ⟨h2, by rw [h.s hm]; exact hc⟩
theorem AloneI.saw (h : AloneI n me M) (w : Int) : sawM M me w = M := by
  unfold sawM
  split
  · rename_i hr
    unfold readsB at hr
    rw [h.runs] at hr
    simp only [Bool.and_eq_true, decide_eq_true_eq] at hr
    unfold behindM
    rw [if_neg (by rw [h.beside hr.1]; simp)]
  · rfl
theorem wsteps_self (x : Int) : ∀ (l : List Int) (M : SsiM), (∀ y ∈ l, y = x) → l.foldl (wstep x) M = M
  | [], _, _ => rfl
  | y :: l, M, h => by
    rw [List.foldl_cons, wstep_self (h y (by simp))]
    exact wsteps_self x l M fun z hz => h z (by simp [hz])
theorem AloneI.wrote {N : Nat} (h : AloneI n me M) (ok : SOk N M.S) (y : ThingM) : wroteM M me y = M := by
  unfold wroteM
  split
  · rename_i hr
    rw [h.runs] at hr
    have hm := of_decide_eq_true hr
    refine wsteps_self me _ M fun z hz => ?_
    obtain ⟨t, ht, _⟩ := (mem_ownersS ok _).1 hz
    refine Classical.byContradiction fun hne => ?_
    rw [h.o z (Or.inl hne)] at ht
    cases ht
  · rfl
theorem AloneI.read {N : Nat} (h : AloneI n me M) (ok : SOk N M.S) (y : ThingM) : AloneI n me (readM M me y) := by
  unfold readM
  split
  · rename_i hr
    unfold readsB at hr
    rw [h.runs] at hr
    simp only [Bool.and_eq_true, decide_eq_true_eq] at hr
    refine ⟨h.e, h.d, h.k, ?_, h.lk, ?_, h.r, h.s, h.m0⟩
    · simp only
      unfold TakeS
      split
      · have := (takeS_ok ok h.m0 y).2.2.2.2.2
        rw [this]
        exact h.c
      · exact h.c
    · intro x hx
      simp only
      have hne : x ≠ me := hx.elim id fun e => absurd e hr.1
      unfold TakeS
      split
      · rw [(takeS_ok ok h.m0 y).2.2.1 x hne]
        exact h.o x hx
      · exact h.o x hx
  · exact h
theorem AloneI.begin (h : AloneI n 0 M) (hf : M.L.l.length < 200) (r : Bool) : AloneI n ((M.L.l.length : Int) + 1) (beginM M r) := by
  obtain ⟨b1, b2, b3, b4⟩ := begin_tx (L := M.L) r (by omega)
  unfold beginM
  rw [if_neg (by omega)]
  refine ⟨h.e, h.d, h.k, h.c, h.lk.begin r, fun x _ => h.o x (Or.inr rfl), fun x => ?_, fun _ => ?_, by omega⟩
  · simp only
    constructor
    · intro hs
      refine ⟨by omega, Classical.byContradiction fun hne => ?_⟩
      by_cases hh : hasL M.L x
      · rw [b2 x hh] at hs
        exact ((h.r x).1 hs).1 rfl
      · rw [txL_no (fun q => ((b1 x).1 q).elim hh hne)] at hs
        cases hs
    · rintro ⟨_, rfl⟩
      rw [b3]
  · simp only
    rw [b3, b4]
theorem AloneI.ends {N : Nat} (h : AloneI n me M) (hm : me ≠ 0) (ok : SOk N M.S) {L' : LM} {n' : Nat} {S1 : SM} (hL : LOk n' L') (hr : ∀ x, (txL L' x).state ≠ 1) (h1 : S1 = dropS M.S me) (h2 : SOk N S1) :
    AloneI n' 0 { M with L := L', S := dropS S1 0, E := ⟨[], []⟩, kept := [], doomed := [] } := by
  obtain ⟨_, a2, a3, _, _, _, a7⟩ := dropS_ok ok h.m0
  obtain ⟨_, c2, c3, _, _, _, c7⟩ := dropS_ok h2 (o := 0) (by decide)
  refine ⟨rfl, rfl, rfl, by simp only; rw [c7, if_pos rfl], hL, fun x _ => ?_, fun x => ⟨fun e => absurd e (hr x), fun e => absurd rfl e.1⟩, fun e => absurd rfl e, by decide⟩
  simp only
  by_cases h0 : x = 0
  · rw [h0]
    exact c2
  · rw [c3 x h0, h1]
    by_cases hx : x = me
    · rw [hx]
      exact a2
    · rw [a3 x hx]
      exact h.o x (Or.inl hx)
theorem AloneI.commit {N : Nat} (h : AloneI n me M) (hm : me ≠ 0) (ok : SOk N M.S) : (commitM M me).2 = 0 ∧ AloneI (n + 1) 0 (commitM M me).1 := by
  have hru := h.runs
  rw [decide_eq_true hm] at hru
  have hrl := runsB_iff.1 hru
  obtain ⟨c1, c2, c3⟩ := commit_tx hrl
  have hr' : ∀ x, (txL (commitL M.L me) x).state ≠ 1 := fun x => by
    rw [c2 x]
    split
    · simp
    · rename_i hne
      exact fun e => hne ((h.r x).1 e).2
  unfold commitM
  rw [if_neg (by rw [hru]; decide), if_neg (by rw [h.d]; simp [cnt, afind])]
  refine ⟨rfl, ?_⟩
  simp only
  rw [h.e, ahead_nil, h.k]
  have hg : goneB (commitL M.L me) me = true := by
    unfold goneB
    refine decide_eq_true ?_
    rw [hor_nil hr', c2 me, if_pos rfl, c3]
    exact Int.le_refl _
  have hcl : cleanM { doomAll M [] with L := commitL M.L me, kept := [] ++ [me] } = { M with L := commitL M.L me, S := dropS (dropS M.S me) 0, E := ⟨[], []⟩, kept := [], doomed := [] } := by
    unfold cleanM doomAll
    simp only [List.nil_append, List.filter_cons, List.filter_nil, hg, Bool.not_true, Bool.false_eq_true, if_false, if_true, List.foldl_cons, List.foldl_nil, foldK, run_nil hr', and_self, h.e, h.d]
  rw [hcl]
  exact h.ends hm ok (h.lk.commit me) hr' rfl (dropS_any ok me).1
theorem AloneI.abort {N : Nat} (h : AloneI n me M) (hm : me ≠ 0) (ok : SOk N M.S) : AloneI n 0 (abortM M me) := by
  have hru := h.runs
  rw [decide_eq_true hm] at hru
  have hrl := runsB_iff.1 hru
  obtain ⟨c1, c2, c3⟩ := abort_tx hrl
  have hr' : ∀ x, (txL (abortL M.L me) x).state ≠ 1 := fun x => by
    rw [c2 x]
    split
    · simp
    · rename_i hne
      exact fun e => hne ((h.r x).1 e).2
  unfold abortM
  rw [if_pos hru]
  have hde : dropE M.E me = ⟨[], []⟩ := by rw [h.e]; rfl
  have hcl : cleanM { M with L := abortL M.L me, S := dropS M.S me, E := dropE M.E me } = { M with L := abortL M.L me, S := dropS (dropS M.S me) 0, E := ⟨[], []⟩, kept := [], doomed := [] } := by
    unfold cleanM
    simp only [h.k, List.filter_nil, List.foldl_nil, foldK, run_nil hr', and_self, if_true, hde, h.d]
  rw [hcl]
  exact h.ends hm ok (h.lk.abort me) hr' rfl (dropS_any ok me).1
end
theorem AloneI.up {n n' : Nat} {me : Int} {M : SsiM} (h : AloneI n me M) (hn : n ≤ n') : AloneI n' me M := ⟨h.e, h.d, h.k, h.c, h.lk.up hn, h.o, h.r, h.s, h.m0⟩
theorem AloneI.new (each all keep : Int) : AloneI 0 0 (newM each all keep) :=
  ⟨rfl, rfl, rfl, rfl, lok_new, fun x _ => rfl, fun x => ⟨fun e => (by
    have : ¬ hasL (newM each all keep).L x := fun q => by have q1 := q.1; have q2 := q.2; simp at q2; omega
    rw [txL_no this] at e
    cases e), fun e => absurd rfl e.1⟩, fun e => absurd rfl e, by decide⟩
theorem run_one {n : Nat} {me : Int} {M : SsiM} (h : AloneI n me M) : (runningL M.L).length ≤ 1 := by
  have hn : (runningL M.L).Nodup := by
    unfold runningL
    refine List.Pairwise.filter _ ?_
    unfold nums
    refine List.pairwise_map.2 ?_
    exact List.nodup_range.imp fun {a b} hab e => hab (by omega)
  have ha : ∀ x ∈ runningL M.L, x = me := fun x hx => ((h.r x).1 (running_has hx).2).2
  match hr : runningL M.L, hn, ha with
  | [], _, _ => simp
  | [_], _, _ => simp
  | a :: b :: l, hn, ha =>
    have h1 := ha a (by simp)
    have h2 := ha b (by simp)
    rw [h1, h2] at hn
    simp at hn
theorem len_le {M : SsiM} (r : Bool) : (beginM M r).L.l.length ≤ M.L.l.length + 1 := by
  unfold beginM
  split
  · omega
  · simp only
    unfold beginL
    split
    · omega
    · simp
theorem len_commit (L : LM) (x : Int) : (commitL L x).l.length = L.l.length := by
  unfold commitL
  split
  · simp [setL]
  · rfl
theorem len_abort (L : LM) (x : Int) : (abortL L x).l.length = L.l.length := by
  unfold abortL
  split
  · simp [setL]
  · rfl
theorem len_abortM (M : SsiM) (x : Int) : (abortM M x).L.l.length = M.L.l.length := by
  unfold abortM
  split
  · exact len_abort M.L x
  · rfl
theorem len_commitM (M : SsiM) (x : Int) : (commitM M x).1.L.l.length = M.L.l.length := by
  unfold commitM
  split
  · rfl
  · split
    · exact len_abortM M x
    · exact len_commit M.L x
theorem len_readM (M : SsiM) (x : Int) (y : ThingM) : (readM M x y).L = M.L := by
  unfold readM
  split <;> rfl
section
variable {h : Hp} {Q : List Value → Hp → Prop}
theorem rdU3 {b : Nat} {n0 n1 n2 n : Int} {T : TypeId} {K : Int → Prop} (i : Nat) (hb : Blk h b #[.int .u8 n0, .int .u8 n1, .int .u8 n2] T) (hi : i < 3) (hn : (#[.int .u8 n0, .int .u8 n1, .int .u8 n2] : Array Value)[i]? = some (.int .u8 n)) (H : K n) :
    ixOk (i : Int) 3 (∃ n : Int, rd h (Addr.add (Addr.mk b 0 none) (Int.toNat (i : Int) * 1)) = some (.int .u8 n) ∧ K n) := by
  have r : rd h (Addr.add (Addr.mk b 0 none) (Int.toNat (i : Int) * 1)) = (#[.int .u8 n0, .int .u8 n1, .int .u8 n2] : Array Value)[i]? := by rw [Int.toNat_natCast, addr_mk, rd_blk hb, Nat.zero_add, Nat.mul_one]
  exact ⟨by omega, by omega, _, r.trans hn, H⟩
theorem modU {x m : Int} (hx : 0 ≤ x ∧ x ≤ 255) (hm : 0 < m) : Int.tmod (IntKind.wrap .i64 x) m = x % m := by
  rw [wrap64 (by omega) (by omega)]
  exact Int.tmod_eq_emod_of_nonneg hx.1
theorem SsiAlone_s {a : Sl} {xs : List StepZ} {n0 n1 n2 : Int} (ha : Reads 9 encZ h a xs) (hlen : xs.length ≤ 9223372036854775807) (h0 : 0 ≤ n0 ∧ n0 ≤ 255) (h1' : 0 ≤ n1 ∧ n1 ≤ 255) (h2' : 0 ≤ n2 ∧ n2 ≤ 255) (hQ : ∀ h', Ext [] h h' → Q [.bool true] h') : F_liverylaw15_SsiAlone n0 n1 n2 a h Q := by
  unfold F_liverylaw15_SsiAlone
  have han := ha.1
  refine newI fun h1 s1 b1' e1 => ?_
  have b1 : Blk h1 h.size #[.int .u8 n0, .int .u8 n1, .int .u8 n2] T_3_uint8 := b1'
  refine rdU3 0 b1 (by decide) rfl ?_
  refine ⟨by decide, ?_⟩
  refine rdU3 1 b1 (by decide) rfl ?_
  refine ⟨by decide, ?_⟩
  refine rdU3 2 b1 (by decide) rfl ?_
  refine ⟨by decide, ?_⟩
  rw [modU h0 (by decide), modU h1' (by decide), modU h2' (by decide)]
  have q0 : 0 ≤ n0 % 6 ∧ n0 % 6 ≤ 5 := by omega
  have q1 : 0 ≤ n1 % 20 ∧ n1 % 20 ≤ 19 := by omega
  have q2 : 0 ≤ n2 % 5 ∧ n2 % 5 ≤ 4 := by omega
  rw [wrap64 (x := 1 + n0 % 6) (by omega) (by omega), wrap64 (x := 1 + n1 % 20) (by omega) (by omega)]
  refine Made_z (G := fun b => b < h1.size) (by omega) (by omega) (by omega) (fun b hb => hb) fun h2 s cb t e hS2 e2 => ⟨_, _, _, rfl, ?_⟩
  have e02 := e1.trans0 e2
  intro J6 hJ6
  rw [if_neg (by decide)]
  refine Fair_z (ha.ext0 e02) hlen ⟨_, rfl, ?_⟩
  cases hf : fairZ xs with
  | false =>
    refine hJ6 _ _ ?_
    rw [if_pos (by rfl)]
    intro J9 hJ9
    rw [if_pos rfl]
    exact wakes_z fun h' e' => ⟨_, rfl, hJ9 _ _ (hQ h' (e02.trans0 e'))⟩
  | true =>
  have hl120 := fairZ_len hf
  refine hJ6 _ _ ?_
  rw [if_neg (by decide)]
  intro X hX
  have kg2 : KG (fun b => b < h.size) h h2 := kg_ext0 e02 fun b hb => hb
  have hS2' : Ss (fun b => b < h.size) h2 s cb t e (newM (1 + n0 % 6) (1 + n1 % 20) (n2 % 5)) := hS2.less fun b hb => by omega
  have m0 : Mk 0 (newM (1 + n0 % 6) (1 + n1 % 20) (n2 % 5)) := newM_ok (by omega) (by omega) (by omega)
  have key : ∀ d i g me M, d + i = xs.length → Ss (fun b => b < h.size) g s cb t e M → AloneI i me M → M.L.l.length ≤ i → Mk i M → KG (fun b => b < h.size) h g → X [.int .i64 me, .int .i64 (i : Int)] g := by
    intro d
    induction d with
    | zero =>
      intro i g me M hi hSg inv hln mg kg
      refine hX _ _ _ ?_
      rw [if_neg (by simp; omega)]
      have hnn := mg.nn
      refine Edges_z hSg ⟨_, rfl, ?_⟩
      obtain ⟨P, hE, _, _, _⟩ := hSg.onE
      refine All_s hE mg.e (by omega) fun g1 l1 e1 ho1 => ⟨l1, rfl, ?_⟩
      have hal : allE M.E = [] := by
        rw [inv.e]
        exact (by decide +kernel : allE ⟨[], []⟩ = [])
      rw [hal] at ho1
      have hl1 := ho1.1
      rw [if_pos (by rw [hl1]; rfl)]
      have hS1 := hSg.e0 e1
      refine Running_s hS1.cl fun g2 l2 e2 ho2 => ⟨l2, rfl, ?_⟩
      have hl2 := ho2.1
      have hr1 := run_one inv
      rw [if_pos (by simp; omega)]
      exact wakes_z fun h' e' => ⟨_, rfl, hQ h' (((kgx (kg.trans (hSg.kgE e1))).trans0 e2).trans0 e')⟩
    | succ d ih =>
      intro i g me M hi hSg inv hln mg kg
      have hil : i < xs.length := by omega
      refine hX _ _ _ ?_
      rw [if_pos (by simp; omega)]
      refine atZ (ha.ext0 (kgx kg)) hil ?_
      refine keepZ (st := xs[i]) fun g1 d1 bs => ?_
      have hlt := blk_lt bs
      have hS1 : Ss (fun b => b < h.size ∨ b = g.size) g1 s cb t e M := hSg.grow d1 fun b hb => by
        rcases hb with k | k
        · exact ⟨Or.inl k, by have := hSg.lt k; omega⟩
        · exact ⟨Or.inr (by omega), by omega⟩
      have kg1 : KG (fun b => b < h.size) h g1 := kg.trans (hSg.kgE d1)
      have hnn := mg.nn
      intro J35 hJ35
      have nx : ∀ g2 me2 M2, Ss (fun b => b < h.size ∨ b = g.size) g2 s cb t e M2 → AloneI (i + 1) me2 M2 → M2.L.l.length ≤ i + 1 → Mk (i + 1) M2 → KG (fun b => b < h.size ∨ b = g.size) g1 g2 → J35 [.int .i64 me2] g2 := by
        intro g2 me2 M2 hS2 inv2 hln2 m2 k2
        refine hJ35 _ _ ?_
        intro J38 hJ38
        have hnn2 := m2.nn
        have tail : J38 [.bool false] g2 := by
          refine hJ38 _ _ ?_
          rw [if_neg (by decide)]
          intro J41 hJ41
          have go : ∀ g3, Ext [] g2 g3 → J41 [.bool false] g3 := fun g3 e3 => by
            refine hJ41 _ _ ?_
            rw [if_neg (by decide), wrap64 (by omega) (by omega)]
            exact ih (i + 1) g3 me2 M2 (by omega) ((hS2.e0 e3).less fun b hb => Or.inl hb) inv2 hln2 m2 ((kg1.trans (k2.anti fun b hb => Or.inl hb)).trans ((hS2.kgE e3).anti fun b hb => Or.inl hb))
          by_cases hm : me2 = 0
          · rw [if_pos (by simp [hm])]
            have hall : ∀ x, thgs M2.S.m x = [] := fun x => inv2.o x (Or.inr hm)
            refine Table_z hS2 ⟨_, rfl, ?_⟩
            obtain ⟨P, hV, _, _, _⟩ := hS2.onS
            refine Fine_s hV ⟨_, rfl, ?_⟩
            rw [all_nil m2.s hall, if_neg (by decide)]
            refine Table_z hS2 ⟨_, rfl, ?_⟩
            refine OfV_s hV m2.s (by omega) fun g3 l e3 ho => ⟨l, rfl, ?_⟩
            have hof : ofS M2.S 0 = [] := by
              unfold ofS
              rw [hall 0]
              exact (by decide +kernel : sortC cmpT [] = [])
            rw [hof] at ho
            have hl := ho.1
            rw [if_neg (by rw [hl]; decide)]
            have hS3 := hS2.e0 e3
            refine Table_z hS3 ⟨_, rfl, ?_⟩
            obtain ⟨P2, hV2, _, _, _⟩ := hS3.onS
            refine Old_s hV2 ⟨_, rfl, ?_⟩
            rw [inv2.c]
            exact go g3 e3
          · rw [if_neg (by simpa using hm)]
            exact go g2 (Ext.refl _ _)
        by_cases hm : me2 = 0
        · rw [if_neg (by simp [hm])]
          exact tail
        · rw [if_pos (by simpa using hm)]
          refine Doomed_z hS2 _ ⟨_, rfl, ?_⟩
          rw [inv2.d]
          exact tail
      have same : J35 [.int .i64 me] g1 := nx g1 me M hS1 (inv.up (by omega)) (by omega) (mk_up (j := 0) mg (by omega) (Nat.mul_le_mul_left _ (by omega)) (by omega)) (KG.refl _ _)
      intro J65 hJ65
      have rest : J65 [.bool false] g1 := by
        refine hJ65 _ _ ?_
        rw [if_neg (by decide)]
        intro J73 hJ73
        have rest2 : J73 [.bool false] g1 := by
          refine hJ73 _ _ ?_
          rw [if_neg (by decide)]
          intro J79 hJ79
          have rest3 : J79 [.bool false] g1 := by
            refine hJ79 _ _ ?_
            rw [if_neg (by decide)]
            refine ⟨_, rdZb bs 0, ?_⟩
            by_cases k3 : xs[i].kind = 3
            · rw [if_pos (by simp [k3])]
              refine rdZx bs ?_
              refine Read_z hS1 mg _ xs[i].x fun g2 hS2 k2 => ⟨rfl, ?_⟩
              exact nx g2 me _ hS2 ((inv.read mg.s xs[i].x).up (by omega)) (by rw [len_readM]; omega) (mg.read (by omega) _ _) k2
            · rw [if_neg (by simpa using k3)]
              refine ⟨_, rdZb bs 0, ?_⟩
              by_cases k4 : xs[i].kind = 4
              · rw [if_pos (by simp [k4])]
                refine rdZx bs ?_
                refine wroteK_z hS1 mg (by omega) _ xs[i].x fun g2 hS2 k2 => ⟨rfl, ?_⟩
                have m2 := mg.wrote (by omega) me xs[i].x
                rw [inv.wrote mg.s] at hS2 m2
                exact nx g2 me M hS2 (inv.up (by omega)) (by omega) m2 k2
              · rw [if_neg (by simpa using k4)]
                refine ⟨_, rdZb bs 0, ?_⟩
                by_cases k5 : xs[i].kind = 5
                · rw [if_pos (by simp [k5])]
                  refine ⟨_, rdZb bs 2, ?_⟩
                  refine sawK_z hS1 mg (by omega) _ _ fun g2 hS2 k2 => ⟨rfl, ?_⟩
                  have m2 := mg.saw (by omega) me xs[i].other
                  rw [inv.saw] at hS2 m2
                  exact nx g2 me M hS2 (inv.up (by omega)) (by omega) m2 k2
                · rw [if_neg (by simpa using k5)]
                  exact same
          refine ⟨_, rdZb bs 0, ?_⟩
          by_cases k2 : xs[i].kind = 2
          · rw [if_pos (by simp [k2])]
            by_cases hm : me = 0
            · rw [show (me != 0) = false by simp [hm]]
              exact rest3
            · rw [show (me != 0) = true by simpa using hm]
              refine hJ79 _ _ ?_
              rw [if_pos rfl]
              exact Abort_z hS1 mg _ fun g2 hS2 k2 => ⟨_, rfl, nx g2 0 _ hS2 ((inv.abort hm mg.s).up (by omega)) (by rw [len_abortM]; omega) (mg.abort (by omega) _) k2⟩
          · rw [if_neg (by simpa using k2)]
            exact rest3
        refine ⟨_, rdZb bs 0, ?_⟩
        by_cases k1 : xs[i].kind = 1
        · rw [if_pos (by simp [k1])]
          by_cases hm : me = 0
          · rw [show (me != 0) = false by simp [hm]]
            exact rest2
          · rw [show (me != 0) = true by simpa using hm]
            refine hJ73 _ _ ?_
            rw [if_pos rfl]
            obtain ⟨c1, c2⟩ := inv.commit hm mg.s
            refine commitK_z hS1 mg (by omega) _ fun g2 hS2 k2 => ⟨_, rfl, ?_⟩
            rw [c1, if_neg (by decide)]
            exact nx g2 0 _ hS2 c2 (by rw [len_commitM]; omega) (mg.commit (by omega) _) k2
        · rw [if_neg (by simpa using k1)]
          exact rest2
      refine ⟨_, rdZb bs 0, ?_⟩
      by_cases k0 : xs[i].kind = 0
      · rw [if_pos (by simp [k0])]
        by_cases hm : me = 0
        · rw [show (me == 0) = true by simp [hm]]
          refine hJ65 _ _ ?_
          rw [if_pos rfl]
          refine ⟨_, rdZb bs 3, ?_⟩
          have hne : ¬ M.L.l.length = 200 := by omega
          refine Begin_z hS1 mg _ fun g2 hS2 k2 => ⟨_, _, rfl, ?_⟩
          rw [if_neg hne, if_neg hne, if_neg (by decide)]
          subst hm
          have hlb := len_le (M := M) xs[i].reads
          exact nx g2 _ _ hS2 ((inv.begin (by omega) xs[i].reads).up (by omega)) (by omega) (mg.begin (by omega) _) k2
        · rw [show (me == 0) = false by simpa using hm]
          exact rest
      · rw [if_neg (by simpa using k0)]
        exact rest
  exact key xs.length 0 h2 0 _ (by omega) hS2' (AloneI.new _ _ _) (by simp) m0 kg2
end
end Go.Lift.E14

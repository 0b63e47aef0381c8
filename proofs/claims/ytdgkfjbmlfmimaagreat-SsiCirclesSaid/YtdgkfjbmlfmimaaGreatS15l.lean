/- SsiSafe: true, whatever the input. -/
import Derived.Test.YtdgkfjbmlfmimaaGreatS15k
set_option linter.unusedSimpArgs false
set_option linter.unusedVariables false
namespace Go.Lift.E14
open Go Go.Proofs Go.RowKit
set_option maxRecDepth 100000
theorem zcStepZ : (zc PP T_liverylaw15_Step).size = 9 := by kernel_rfl
section
variable {h : Hp} {s : Sl} {xs : List StepZ} {i : Nat}
theorem atZ (hs : Reads 9 encZ h s xs) (hi : i < xs.length) {K : Int → Int → Int → Bool → Int → ByteArray → Int → ByteArray → Int → Prop}
    (H : K xs[i].kind xs[i].xid xs[i].other xs[i].reads xs[i].x.kind xs[i].x.name xs[i].x.rel xs[i].x.index xs[i].x.n) :
    nilW s.a fun a => ixOk (i : Int) s.n (∃ n24 : Int, rd h (Addr.add (Addr.add a (Int.toNat (i : Int) * 9)) 0) = some (Value.int .i64 n24) ∧ ∃ n25 : Int, rd h (Addr.add (Addr.add a (Int.toNat (i : Int) * 9)) 1) = some (Value.int .i64 n25) ∧ ∃ n26 : Int, rd h (Addr.add (Addr.add a (Int.toNat (i : Int) * 9)) 2) = some (Value.int .i64 n26) ∧ ∃ b27 : Bool, rd h (Addr.add (Addr.add a (Int.toNat (i : Int) * 9)) 3) = some (Value.bool b27) ∧ ∃ n28 : Int, rd h (Addr.add (Addr.add a (Int.toNat (i : Int) * 9)) 4) = some (Value.int .i64 n28) ∧ ∃ s29 : ByteArray, rd h (Addr.add (Addr.add a (Int.toNat (i : Int) * 9)) 5) = some (Value.string s29) ∧ ∃ n30 : Int, rd h (Addr.add (Addr.add a (Int.toNat (i : Int) * 9)) 6) = some (Value.int .i64 n30) ∧ ∃ s31 : ByteArray, rd h (Addr.add (Addr.add a (Int.toNat (i : Int) * 9)) 7) = some (Value.string s31) ∧ ∃ n32 : Int, rd h (Addr.add (Addr.add a (Int.toNat (i : Int) * 9)) 8) = some (Value.int .i64 n32) ∧ K n24 n25 n26 b27 n28 s29 n30 s31 n32) := by
  have hn := hs.1
  obtain ⟨a, h1, h2⟩ := rdSz hs hi
  rw [h1, nilW_some, Int.toNat_natCast]
  exact ⟨by omega, by omega, _, h2 0 (by decide), _, h2 1 (by decide), _, h2 2 (by decide), _, h2 3 (by decide), _, h2 4 (by decide), _, h2 5 (by decide), _, h2 6 (by decide), _, h2 7 (by decide), _, h2 8 (by decide), H⟩
theorem keepZ {st : StepZ} {T : TypeId} {K : Hp → Prop} (H : ∀ g, Ext [] h g → Blk g h.size (encZ st).toArray T → K g) :
    wth (Array.push h (Obj.cells #[(Value.int .i64 (0 : Int)), (Value.int .i64 (0 : Int)), (Value.int .i64 (0 : Int)), (Value.bool false), (Value.int .i64 (0 : Int)), (Value.string (ByteArray.mk #[])), (Value.int .i64 (0 : Int)), (Value.string (ByteArray.mk #[])), (Value.int .i64 (0 : Int))] T)) fun h1 =>
    stOk h1 (Addr.mk (Array.size h) 0 none) 9 ∧ wth (wrs h1 (Addr.mk (Array.size h) 0 none) 0 [(Value.int .i64 st.kind), (Value.int .i64 st.xid), (Value.int .i64 st.other), (Value.bool st.reads), (Value.int .i64 st.x.kind), (Value.string st.x.name), (Value.int .i64 st.x.rel), (Value.string st.x.index), (Value.int .i64 st.x.n)]) K :=
  newI fun h1 s1 b1 e1 => st_blk b1 (by simp) fun g sg bg eg => H g (e1.trans eg fun b hb hlt => by simp at hb; omega) (by
    have : putAt #[(Value.int .i64 (0 : Int)), (Value.int .i64 (0 : Int)), (Value.int .i64 (0 : Int)), (Value.bool false), (Value.int .i64 (0 : Int)), (Value.string (ByteArray.mk #[])), (Value.int .i64 (0 : Int)), (Value.string (ByteArray.mk #[])), (Value.int .i64 (0 : Int))] 0 (encZ st) = (encZ st).toArray := by
      simp [putAt, encZ]
    rw [← this]
    exact bg)
variable {b : Nat} {st : StepZ} {T : TypeId}
theorem rdZb (hb : Blk h b (encZ st).toArray T) (k : Nat) : rd h (Addr.add (Addr.mk b 0 none) k) = (encZ st)[k]? := by
  rw [addr_mk, rd_blk hb]
  simp
theorem rdZx (hb : Blk h b (encZ st).toArray T) {K : Int → ByteArray → Int → ByteArray → Int → Prop} (H : K st.x.kind st.x.name st.x.rel st.x.index st.x.n) :
    ∃ n23 : Int, rd h (Addr.add (Addr.add (Addr.mk b 0 none) 4) 0) = some (Value.int .i64 n23) ∧ ∃ s24 : ByteArray, rd h (Addr.add (Addr.add (Addr.mk b 0 none) 4) 1) = some (Value.string s24) ∧ ∃ n25 : Int, rd h (Addr.add (Addr.add (Addr.mk b 0 none) 4) 2) = some (Value.int .i64 n25) ∧ ∃ s26 : ByteArray, rd h (Addr.add (Addr.add (Addr.mk b 0 none) 4) 3) = some (Value.string s26) ∧ ∃ n27 : Int, rd h (Addr.add (Addr.add (Addr.mk b 0 none) 4) 4) = some (Value.int .i64 n27) ∧ K n23 s24 n25 s26 n27 :=
  ⟨_, by rw [addr_add_add]; exact rdZb hb 4, _, by rw [addr_add_add]; exact rdZb hb 5, _, by rw [addr_add_add]; exact rdZb hb 6, _, by rw [addr_add_add]; exact rdZb hb 7, _, by rw [addr_add_add]; exact rdZb hb 8, H⟩
end
/-! Nothing that was read. -/
theorem dropS_nil {S : SM} (h : S.m = []) (o : Int) : (dropS S o).m = [] := by
  have hl : loseS S o (fun _ => true) = S := by
    unfold loseS
    rw [h]
    rfl
  unfold dropS
  rw [hl]
  simp only [h]
  rfl
theorem foldS_nil {S : SM} (h : S.m = []) (o c : Int) : (foldS S o c).m = [] := by
  unfold foldS
  split
  · exact h
  · have : ofS S o = [] := by
      unfold ofS
      rw [h]
      exact (by decide +kernel : sortC cmpT [] = [])
    simp only [this, List.foldl_nil]
    exact dropS_nil h o
theorem drops_nil : ∀ (l : List Int) {S : SM}, S.m = [] → (l.foldl dropS S).m = []
  | [], _, h => h
  | x :: l, _, h => drops_nil l (dropS_nil h x)
theorem foldK_nil (L : LM) (keep : Int) : ∀ (l : List Int) {S : SM}, S.m = [] → (foldK L keep l S).1.m = []
  | [], _, h => h
  | x :: l, S, h => by
    unfold foldK
    split
    · exact foldK_nil L keep l (foldS_nil h x _)
    · exact h
theorem cleanM_nil {M : SsiM} (h : M.S.m = []) : (cleanM M).S.m = [] := by
  have h1 := foldK_nil M.L M.keep (M.kept.filter fun x => !goneB M.L x) (drops_nil (M.kept.filter (goneB M.L)) h)
  unfold cleanM
  simp only
  split
  · exact dropS_nil h1 0
  · exact h1
theorem cleanM_fld (M : SsiM) : (cleanM M).L = M.L ∧ (cleanM M).E = M.E ∧ (cleanM M).doomed = M.doomed ∧ (cleanM M).safe = M.safe := ⟨rfl, rfl, rfl, rfl⟩
theorem own_nil {S : SM} (h : S.m = []) (p : ThingM → Bool) : ownersS S p = [] := by
  unfold ownersS
  rw [h]
  exact List.mergeSort_nil
theorem in_nil (x : Int) : inE ⟨[], []⟩ x = [] ∧ outE ⟨[], []⟩ x = [] := ⟨List.mergeSort_nil, List.mergeSort_nil⟩
theorem ahead_nil (L : LM) (x : Int) : aheadE L ⟨[], []⟩ x = [] := by
  unfold aheadE
  rw [(in_nil x).1]
  rfl
theorem runs_commit {L : LM} {x y : Int} (hne : y ≠ x) : runsB (commitL L x) y = runsB L y := by
  by_cases hr : runsL L x
  · unfold runsB
    rw [(commit_tx hr).2.1 y, if_neg hne]
  · rw [commit_no hr]
theorem runs_abort {L : LM} {x y : Int} (hne : y ≠ x) : runsB (abortL L x) y = runsB L y := by
  by_cases hr : runsL L x
  · unfold runsB
    rw [(abort_tx hr).2.1 y, if_neg hne]
  · rw [abort_no hr]
structure SafeI (me : Int) (M : SsiM) : Prop where
  m : M.S.m = []
  e : M.E = ⟨[], []⟩
  d : M.doomed = []
  r : runsB M.L me = true
  f : cnt M.safe me ≠ 0
section
variable {me : Int} {M : SsiM}
theorem SafeI.read (h : SafeI me M) (y : ThingM) : readM M me y = M ∧ ∀ w, sawM M me w = M := by
  have : readsB M me = false := by unfold readsB; rw [decide_eq_false h.f, Bool.and_false]
  unfold readM sawM
  rw [this]
  exact ⟨rfl, fun _ => rfl⟩
theorem SafeI.wrote (h : SafeI me M) (x : Int) (y : ThingM) : wroteM M x y = M := by
  unfold wroteM
  rw [own_nil h.m]
  split <;> rfl
theorem SafeI.abort (h : SafeI me M) {x : Int} (hx : x ≠ me) : SafeI me (abortM M x) := by
  unfold abortM
  split
  · obtain ⟨q1, q2, q3, q4⟩ := cleanM_fld { M with L := abortL M.L x, S := dropS M.S x, E := dropE M.E x }
    refine ⟨cleanM_nil (dropS_nil h.m x), ?_, q3.trans h.d, ?_, ?_⟩
    · rw [q2]
      simp only [h.e]
      rfl
    · rw [q1]
      simp only
      rw [runs_abort (fun e => hx e.symm)]
      exact h.r
    · rw [q4]
      exact h.f
  · exact h
theorem SafeI.commit (h : SafeI me M) {x : Int} (hx : x ≠ me) : SafeI me (commitM M x).1 := by
  unfold commitM
  split
  · exact h
  · split
    · exact h.abort hx
    · simp only
      obtain ⟨q1, q2, q3, q4⟩ := cleanM_fld { doomAll M (aheadE M.L M.E x) with L := commitL M.L x, kept := M.kept ++ [x] }
      refine ⟨cleanM_nil h.m, q2.trans h.e, ?_, ?_, ?_⟩
      · rw [q3]
        unfold doomAll
        simp only
        rw [h.e, ahead_nil, h.d]
        rfl
      · rw [q1]
        simp only
        rw [runs_commit (fun e => hx e.symm)]
        exact h.r
      · rw [q4]
        exact h.f
theorem SafeI.last (h : SafeI me M) : (commitM M me).2 = 0 := by
  unfold commitM
  rw [if_neg (by rw [h.r]; decide), if_neg (by rw [h.d]; simp [cnt, afind])]
end
abbrev tR : TxM := ⟨1, 0, 0, true⟩
abbrev tW : TxM := ⟨1, 0, 0, false⟩
def sfN (n : Nat) : List (Int × Int) := (List.range n).map fun i => (((i : Nat) : Int) + 1, 1)
abbrev mR (n : Nat) : SsiM := ⟨⟨List.replicate n tR, 0⟩, ⟨3, 20, [], 0, 0⟩, ⟨[], []⟩, 2, [], [], sfN n⟩
abbrev mW (n j : Nat) : SsiM := ⟨⟨List.replicate n tR ++ List.replicate j tW, 0⟩, ⟨3, 20, [], 0, 0⟩, ⟨[], []⟩, 2, [], [], sfN n⟩
theorem safe_b {n : Nat} (hn : n ≤ 3) : beginM (mR n) true = mR (n + 1) ∧ decide (cnt (mR (n + 1)).safe ((n : Int) + 1) > 0) = true ∧ (mR n).L.l.length = n := by
  rcases (by omega : n = 0 ∨ n = 1 ∨ n = 2 ∨ n = 3) with rfl | rfl | rfl | rfl <;> exact ⟨by kernel_rfl, by kernel_rfl, by kernel_rfl⟩
theorem safe_w {n j : Nat} (hn1 : 1 ≤ n) (hn : n ≤ 4) (hj : j ≤ 2) : beginM (mW n j) false = mW n (j + 1) ∧ decide (cnt (mW n (j + 1)).safe ((((n + j : Nat) : Int)) + 1) > 0) = false ∧ (mW n j).L.l.length = n + j := by
  rcases (by omega : n = 1 ∨ n = 2 ∨ n = 3 ∨ n = 4) with rfl | rfl | rfl | rfl <;> rcases (by omega : j = 0 ∨ j = 1 ∨ j = 2) with rfl | rfl | rfl <;> exact ⟨by kernel_rfl, by kernel_rfl, by kernel_rfl⟩
theorem safe_i {n : Nat} (hn1 : 1 ≤ n) (hn : n ≤ 4) : SafeI (n : Int) (mW n 3) := by
  refine ⟨rfl, rfl, rfl, ?_, ?_⟩
  · rcases (by omega : n = 1 ∨ n = 2 ∨ n = 3 ∨ n = 4) with rfl | rfl | rfl | rfl <;> decide +kernel
  · rcases (by omega : n = 1 ∨ n = 2 ∨ n = 3 ∨ n = 4) with rfl | rfl | rfl | rfl <;> decide +kernel
theorem mW0 (n : Nat) : mR n = mW n 0 := by simp
section
variable {h : Hp} {Q : List Value → Hp → Prop}
theorem kgx {g g' : Hp} (hk : KG (fun b => b < g.size) g g') : Ext [] g g' := ⟨hk.sz, fun b hb _ => hk.old b hb⟩
theorem SsiSafe_s {a : Sl} {xs : List StepZ} {oth : Int} (ha : Reads 9 encZ h a xs) (hlen : xs.length ≤ 9223372036854775807) (ho : 0 ≤ oth ∧ oth ≤ 255) (hQ : ∀ h', Ext [] h h' → Q [.bool true] h') : F_liverylaw15_SsiSafe a oth h Q := by
  unfold F_liverylaw15_SsiSafe
  have han := ha.1
  refine Made_z (G := fun b => b < h.size) (by decide) (by decide) (by decide) (fun b hb => hb) fun h2 s cb t e hS2 e2 => ⟨_, _, _, rfl, ?_⟩
  have kg2 : KG (fun b => b < h.size) h h2 := kg_ext0 e2 fun b hb => hb
  intro J6 hJ6
  rw [if_neg (by decide)]
  refine Fair_z (ha.ext0 e2) hlen ⟨_, rfl, ?_⟩
  cases hf : fairZ xs with
  | false =>
    refine hJ6 _ _ ?_
    rw [if_pos (by rfl)]
    intro J9 hJ9
    rw [if_pos rfl]
    exact wakes_z fun h' e' => ⟨_, rfl, hJ9 _ _ (hQ h' (e2.trans0 e'))⟩
  | true =>
  have hl120 := fairZ_len hf
  refine hJ6 _ _ ?_
  rw [if_neg (by decide)]
  obtain ⟨q, hq, hq3⟩ : ∃ q : Nat, Int.tmod (IntKind.wrap .i64 oth) (4 : Int) = (q : Int) ∧ q ≤ 3 := by
    have q1 : Int.tmod oth 4 = oth % 4 := Int.tmod_eq_emod_of_nonneg (by omega)
    rw [wrap64 (x := oth) (by omega) (by omega), q1]
    exact ⟨(oth % 4).toNat, by omega, by omega⟩
  intro X hX
  rw [hq] at hX
  have m0 : Mk 0 (mR 0) := newM_ok (by decide) (by decide) (by decide)
  have main : ∀ g, Ss (fun b => b < h.size) g s cb t e (mR q) → Mk q (mR q) → KG (fun b => b < h.size) h g → X [.int .i64 (q : Int)] g := by
    intro g hSg mg kg
    refine hX _ _ ?_
    refine ⟨by decide, ?_⟩
    rw [if_neg (by simp)]
    obtain ⟨s1, s2, s3⟩ := safe_b hq3
    have hne : ¬ (mR q).L.l.length = 200 := by rw [s3]; omega
    refine Begin_z hSg mg true fun g1 hS1 k1 => ⟨_, _, rfl, ?_⟩
    have m1 := mg.begin (by omega) true
    rw [s1] at hS1 m1
    rw [if_neg hne, if_neg hne, s3]
    have kg1 := kg.trans k1
    intro J26 hJ26
    rw [if_neg (by decide)]
    refine Safe_z hS1 _ ⟨_, rfl, ?_⟩
    rw [s2]
    refine hJ26 _ _ ?_
    rw [if_neg (by decide)]
    obtain ⟨n, hn⟩ : ∃ n : Nat, q + 1 = n := ⟨_, rfl⟩
    have hnc : ((q : Int) + 1) = (n : Int) := by omega
    rw [hnc]
    rw [hn, mW0] at hS1 m1
    intro Y hY
    have key2 : ∀ d j g', d + j = 3 → Ss (fun b => b < h.size) g' s cb t e (mW n j) → Mk (n + j) (mW n j) → KG (fun b => b < h.size) h g' → Y [.int .i64 (j : Int)] g' := by
      intro d
      induction d with
      | succ d ih =>
        intro j g' hj hSg' mg' kg'
        refine hY _ _ ?_
        rw [if_pos (by simp; omega)]
        obtain ⟨w1, w2, w3⟩ := safe_w (n := n) (j := j) (by omega) (by omega) (by omega)
        have hne' : ¬ (mW n j).L.l.length = 200 := by rw [w3]; omega
        refine Begin_z hSg' mg' false fun g3 hS3 k3 => ⟨_, _, rfl, ?_⟩
        have m3 := mg'.begin (by omega) false
        rw [w1] at hS3 m3
        rw [if_neg hne', if_neg hne', w3]
        intro J36 hJ36
        rw [if_neg (by decide)]
        refine Safe_z hS3 _ ⟨_, rfl, ?_⟩
        rw [w2]
        refine hJ36 _ _ ?_
        rw [if_neg (by decide), wrap64 (by omega) (by omega)]
        exact ih (j + 1) g3 (by omega) hS3 m3 (kg'.trans k3)
      | zero =>
        intro j g' hj hSg' mg' kg'
        have : j = 3 := by omega
        subst this
        refine hY _ _ ?_
        rw [if_neg (by decide)]
        intro Z hZ
        have hme : (n : Int) ≠ 0 := by omega
        have key3 : ∀ d i g M, d + i = xs.length → Ss (fun b => b < h.size) g s cb t e M → SafeI (n : Int) M → Mk (7 + i) M → KG (fun b => b < h.size) h g → Z [.int .i64 (i : Int)] g := by
          intro d
          induction d with
          | zero =>
            intro i g M hi hSg inv mg kg
            refine hZ _ _ ?_
            rw [if_neg (by simp; omega)]
            refine commitK_z hSg mg (by omega) _ fun g1 hS1 k1 => ⟨_, rfl, ?_⟩
            rw [inv.last, if_pos (by rfl)]
            exact wakes_z fun h' e' => ⟨_, rfl, hQ h' ((kgx (kg.trans k1)).trans0 e')⟩
          | succ d ih =>
            intro i g M hi hSg inv mg kg
            have hil : i < xs.length := by omega
            refine hZ _ _ ?_
            rw [if_pos (by simp; omega)]
            refine atZ (ha.ext0 (kgx kg)) hil ?_
            refine keepZ (st := xs[i]) fun g1 d1 bs => ?_
            have hlt := blk_lt bs
            have hS1 : Ss (fun b => b < h.size ∨ b = g.size) g1 s cb t e M := hSg.grow d1 fun b hb => by
              rcases hb with k | k
              · exact ⟨Or.inl k, by have := hSg.lt k; omega⟩
              · exact ⟨Or.inr (by omega), by omega⟩
            have kg1 : KG (fun b => b < h.size) h g1 := kg.trans (hSg.kgE d1)
            refine ⟨_, rdZb bs 0, ?_⟩
            intro J58 hJ58
            have nx : ∀ g2 M2, Ss (fun b => b < h.size ∨ b = g.size) g2 s cb t e M2 → SafeI (n : Int) M2 → Mk (7 + i + 1) M2 → KG (fun b => b < h.size ∨ b = g.size) g1 g2 → J58 [] g2 := by
              intro g2 M2 hS2 inv2 m2 k2
              refine hJ58 _ ?_
              intro J60 hJ60
              have hnn := m2.nn
              refine Table_z hS2 ⟨_, rfl, ?_⟩
              obtain ⟨P, hV, _, _, _⟩ := hS2.onS
              refine OfV_s hV m2.s (by omega) fun g3 l e3 ho => ⟨l, rfl, ?_⟩
              have hof : ofS M2.S n = [] := by
                unfold ofS
                rw [inv2.m]
                exact (by decide +kernel : sortC cmpT [] = [])
              rw [hof] at ho
              have hl := ho.1
              rw [if_neg (by rw [hl]; decide)]
              have hS3 := hS2.e0 e3
              refine Edges_z hS3 ⟨_, rfl, ?_⟩
              obtain ⟨P2, hE, _, _, _⟩ := hS3.onE
              refine Out_s hE m2.e (by omega) _ fun g4 l4 e4 ho4 => ⟨l4, rfl, ?_⟩
              rw [inv2.e, (in_nil _).2] at ho4
              have hl4 := ho4.1
              rw [if_neg (by rw [hl4]; decide)]
              have hS4 := hS3.e0 e4
              refine Edges_z hS4 ⟨_, rfl, ?_⟩
              obtain ⟨P3, hE3, _, _, _⟩ := hS4.onE
              refine In_s hE3 m2.e (by omega) _ fun g5 l5 e5 ho5 => ⟨l5, rfl, ?_⟩
              rw [inv2.e, (in_nil _).1] at ho5
              have hl5 := ho5.1
              rw [if_neg (by rw [hl5]; decide)]
              have hS5 := hS4.e0 e5
              refine Doomed_z hS5 _ ⟨_, rfl, ?_⟩
              refine hJ60 _ _ ?_
              rw [if_neg (by rw [inv2.d]; show ¬ decide (cnt [] (n : Int) > 0) = true; simp [cnt, afind]), wrap64 (by omega) (by omega)]
              have e25 := (e3.trans0 e4).trans0 e5
              exact ih (i + 1) g5 M2 (by omega) (hS5.less fun b hb => Or.inl hb) inv2 (by rw [show 7 + (i + 1) = 7 + i + 1 by omega]; exact m2) ((kg1.trans (k2.anti fun b hb => Or.inl hb)).trans ((hS2.kgE e25).anti fun b hb => Or.inl hb))
            by_cases k1 : xs[i].kind = 1
            · rw [if_pos (by simp [k1])]
              refine ⟨_, rdZb bs 1, ?_⟩
              by_cases hx : xs[i].xid = n
              · rw [if_neg (by simp [hx])]
                exact nx g1 M hS1 inv (mk_up (j := 0) mg (by omega) (Nat.mul_le_mul_left _ (by omega)) (by omega)) (KG.refl _ _)
              · rw [if_pos (by simpa using hx)]
                refine ⟨_, rdZb bs 1, ?_⟩
                exact commitK_z hS1 mg (by omega) _ fun g2 hS2 k2 => ⟨_, rfl, nx g2 _ hS2 (inv.commit hx) (mg.commit (by omega) _) k2⟩
            · rw [if_neg (by simpa using k1)]
              by_cases k2 : xs[i].kind = 2
              · rw [if_pos (by simp [k2])]
                refine ⟨_, rdZb bs 1, ?_⟩
                by_cases hx : xs[i].xid = n
                · rw [if_neg (by simp [hx])]
                  exact nx g1 M hS1 inv (mk_up (j := 0) mg (by omega) (Nat.mul_le_mul_left _ (by omega)) (by omega)) (KG.refl _ _)
                · rw [if_pos (by simpa using hx)]
                  refine ⟨_, rdZb bs 1, ?_⟩
                  exact Abort_z hS1 mg _ fun g2 hS2 k2 => ⟨_, rfl, nx g2 _ hS2 (inv.abort hx) (mg.abort (by omega) _) k2⟩
              · rw [if_neg (by simpa using k2)]
                by_cases k3 : xs[i].kind = 3
                · rw [if_pos (by simp [k3])]
                  refine rdZx bs ?_
                  refine Read_z hS1 mg _ xs[i].x fun g2 hS2 k2 => ⟨rfl, ?_⟩
                  have m2 := mg.read (by omega) n xs[i].x
                  rw [(inv.read xs[i].x).1] at hS2 m2
                  exact nx g2 M hS2 inv m2 k2
                · rw [if_neg (by simpa using k3)]
                  by_cases k4 : xs[i].kind = 4
                  · rw [if_pos (by simp [k4])]
                    refine ⟨_, rdZb bs 1, ?_⟩
                    refine Reads_s hS1.cl _ fun g2 e2' => ⟨_, rfl, ?_⟩
                    have hS2 := hS1.e0 e2'
                    have k12 := hS1.kgE e2'
                    have bs2 := e2'.get bs (by simp)
                    cases hrd : (txL M.L xs[i].xid).reads with
                    | true =>
                      rw [if_neg (by decide)]
                      exact nx g2 M hS2 inv (mk_up (j := 0) mg (by omega) (Nat.mul_le_mul_left _ (by omega)) (by omega)) k12
                    | false =>
                      rw [if_pos (by rfl)]
                      refine ⟨_, rdZb bs2 1, ?_⟩
                      refine rdZx bs2 ?_
                      refine wroteK_z hS2 mg (by omega) _ xs[i].x fun g3 hS3 k3 => ⟨rfl, ?_⟩
                      have m3 := mg.wrote (by omega) xs[i].xid xs[i].x
                      rw [inv.wrote] at hS3 m3
                      exact nx g3 M hS3 inv m3 (k12.trans k3)
                  · rw [if_neg (by simpa using k4)]
                    by_cases k5 : xs[i].kind = 5
                    · rw [if_pos (by simp [k5])]
                      refine ⟨_, rdZb bs 2, ?_⟩
                      refine sawK_z hS1 mg (by omega) _ _ fun g2 hS2 k2 => ⟨rfl, ?_⟩
                      have m2 := mg.saw (by omega) n xs[i].other
                      rw [(inv.read xs[i].x).2] at hS2 m2
                      exact nx g2 M hS2 inv m2 k2
                    · rw [if_neg (by simpa using k5)]
                      exact nx g1 M hS1 inv (mk_up (j := 0) mg (by omega) (Nat.mul_le_mul_left _ (by omega)) (by omega)) (KG.refl _ _)
        exact key3 xs.length 0 g' (mW n 3) (by omega) hSg' (safe_i (by omega) (by omega)) (mk_up (j := 0) mg' (by omega) (Nat.mul_le_mul_left _ (by omega)) (by omega)) kg'
    exact key2 3 0 g1 (by omega) hS1 m1 kg1
  have key : ∀ d i g, d + i = q → Ss (fun b => b < h.size) g s cb t e (mR i) → Mk i (mR i) → KG (fun b => b < h.size) h g → X [.int .i64 (i : Int)] g := by
    intro d
    induction d with
    | zero =>
      intro i g hi hSg mg kg
      have : i = q := by omega
      subst this
      exact main g hSg mg kg
    | succ d ih =>
      intro i g hi hSg mg kg
      refine hX _ _ ?_
      refine ⟨by decide, ?_⟩
      rw [if_pos (by simp; omega)]
      obtain ⟨s1, s2, s3⟩ := safe_b (n := i) (by omega)
      have hne : ¬ (mR i).L.l.length = 200 := by rw [s3]; omega
      refine Begin_z hSg mg true fun g1 hS1 k1 => ⟨_, _, rfl, ?_⟩
      have m1 := mg.begin (by omega) true
      rw [s1] at hS1 m1
      rw [if_neg hne, if_neg (by decide), wrap64 (by omega) (by omega)]
      exact ih (i + 1) g1 (by omega) hS1 m1 (kg.trans k1)
  exact key q 0 h2 (by omega) hS2 m0 kg2
end
end Go.Lift.E14

/- Locks: turns. -/
import Derived.Test.YtgobalogbijliaaW06j
set_option linter.unusedSimpArgs false
set_option linter.unusedVariables false
namespace Go.Lift
open Go Go.Proofs
set_option maxRecDepth 100000
theorem Lk.mv {lo : Nat} {G G' : Nat → Prop} {h h' : Hp} {t : Nat} {T : TM} {S : List Nat} (hv : Lk lo G h t T) (he : Ext S h h') (hS : ∀ b ∈ S, b < h.size → G b) (hG : ∀ b, G' b → (G b ∨ h.size ≤ b) ∧ b < h'.size) : Lk lo G' h' t T := by
  obtain ⟨h1, h2, hok, mb, C, hT, hC, h3⟩ := hv
  refine ⟨fun b hb => (hG b hb).2, Nat.le_trans h2 he.sz, hok, mb, C, hT.extF he fun b hb hm => h3 b hb (hS b hm (hT.lt hb).2), hC, fun b hb hg => ?_⟩
  rcases (hG b hg).1 with g | g
  · exact h3 b hb g
  · have := (hT.lt hb).2; omega
/-- One has the name, the others wait. -/
def inT (at_ : Int) (W : List Int) : TM := [(sT, ⟨[(at_, 256)], W.map fun k => (k, 8)⟩)]
theorem waits_in {at_ : Int} {W : List Int} {k : Int} : waitsT (inT at_ W) k = if k ∈ W then some (sT, 8) else none := by
  unfold inT
  simp only [waitsT]
  by_cases hk : k ∈ W
  · rw [if_pos hk]
    cases hf : (W.map fun k => (k, (8 : Int))).find? (fun r => r.1 == k) with
    | none =>
      rw [List.find?_eq_none] at hf
      exact absurd (by simp) (hf (k, 8) (List.mem_map.2 ⟨k, hk, rfl⟩))
    | some r =>
      obtain ⟨x, hx, rfl⟩ := List.mem_map.1 (List.mem_of_find?_eq_some hf)
      rfl
  · rw [if_neg hk]
    cases hf : (W.map fun k => (k, (8 : Int))).find? (fun r => r.1 == k) with
    | none => rfl
    | some r =>
      obtain ⟨x, hx, rfl⟩ := List.mem_map.1 (List.mem_of_find?_eq_some hf)
      have := List.find?_some hf
      simp at this
      subst this
      exact absurd hx hk
theorem has_in (at_ : Int) (W : List Int) : hasT (inT at_ W) sT = [(at_, 256)] ∧ waitT (inT at_ W) sT = W.map fun k => (k, 8) := by
  unfold hasT waitT inT
  simp [afind]
theorem take_in {at_ : Int} {W : List Int} {k : Int} (hk : 1 ≤ k ∧ k ≤ 200) (hne : at_ ≠ k) : takeE (inT at_ W) k sT 8 = if k ∈ W then (inT at_ W, 76) else (inT at_ (W ++ [k]), 75) := by
  obtain ⟨g1, g2⟩ := has_in at_ W
  unfold takeE
  have hc : (decide (k < 1) || decide (k > 200) || !isM 8 || decide (sT.size > 8)) = false := by
    have h1 : decide (k < 1) = false := decide_eq_false (by omega)
    have h2 : decide (k > 200) = false := decide_eq_false (by omega)
    rw [h1, h2]
    rfl
  rw [hc, waits_in]
  simp only [Bool.false_eq_true, if_false]
  by_cases hw : k ∈ W
  · rw [if_pos hw, if_pos hw]
    rfl
  · rw [if_neg hw, if_neg hw]
    have hm : modesT (inT at_ W) k sT = 0 := by
      unfold modesT hasM
      rw [g1]
      simp [afind, Ne.symm hne]
    rw [hm, g1, g2]
    have hfree : freeQ [(at_, 256)] (W.map fun k => (k, 8)) k 8 = false := by
      unfold freeQ metA
      have : anyM 256 8 = true := by decide
      simp [this, hne]
    rw [hfree]
    simp only [Option.isSome_none, Bool.false_eq_true, if_false, Nat.zero_and, bne_self_eq_false]
    unfold inT
    simp [aput]
theorem grant_bar (w : Int) : ∀ (R V : List (Int × Int)), (∀ r ∈ R, r.1 ≠ w ∧ r.2 = 8) → grantE [(w, 256)] V [w] R = ([(w, 256)], V ++ R, [w])
  | [], V, _ => by simp [grantE]
  | r :: R, V, h => by
    have h0 := h r (by simp)
    have hfree : freeQ [(w, 256)] V r.1 r.2 = false := by
      unfold freeQ metA
      have : anyM 256 8 = true := by decide
      rw [h0.2]
      simp [this, Ne.symm h0.1]
    unfold grantE
    rw [hfree]
    simp only [Bool.false_eq_true, if_false]
    rw [grant_bar w R (V ++ [r]) fun r' hr' => h r' (List.mem_cons_of_mem _ hr')]
    simp
theorem rel_nil (at_ : Int) : releaseE [sT] (inT at_ []) at_ = ([], []) := by
  unfold releaseE inT
  simp only [List.foldl_cons, List.foldl_nil, relE, afind, if_true, List.map_nil]
  simp [hasM, afind, adel, grantE]
theorem rel_cons {at_ w : Int} {W : List Int} (hn : (w :: W).Nodup) (hat : at_ ∉ w :: W) : releaseE [sT] (inT at_ (w :: W)) at_ = (inT w W, [w]) := by
  have hf : ((w :: W).map fun k => (k, (8 : Int))).filter (fun r => r.1 != at_) = (w :: W).map fun k => (k, 8) := List.filter_eq_self.2 fun r hr => by
    obtain ⟨x, hx, rfl⟩ := List.mem_map.1 hr
    have : x ≠ at_ := fun e => hat (e ▸ hx)
    simpa using this
  have h1 : grantE [] [] [] ((w :: W).map fun k => (k, (8 : Int))) = ([(w, 256)], W.map fun k => (k, 8), [w]) := by
    rw [List.map_cons]
    unfold grantE
    have hfree : freeQ [] [] w 8 = true := rfl
    have hb : hasM [] w ||| bitM 8 = 256 := by unfold hasM afind; decide
    rw [if_pos hfree]
    simp only [hb, aput, List.nil_append]
    rw [grant_bar w _ _ fun r hr => ?_]
    · simp
    · obtain ⟨x, hx, rfl⟩ := List.mem_map.1 hr
      rw [List.nodup_cons] at hn
      exact ⟨fun e => hn.1 (e ▸ hx), rfl⟩
  unfold releaseE
  simp only [List.foldl_cons, List.foldl_nil]
  unfold relE
  have h2 : afind (inT at_ (w :: W)) sT = some ⟨[(at_, 256)], (w :: W).map fun k => (k, 8)⟩ := by simp [inT, afind]
  simp only [h2]
  have h3 : (hasM [(at_, 256)] at_ == 0) = false := by simp [hasM, afind]
  have h4 : adel [(at_, 256)] at_ = ([] : List (Int × Nat)) := by simp [adel]
  rw [h3, hf, h4, h1]
  simp [inT, aput]
section
variable {h : Hp} {Q : List Value → Hp → Prop}
abbrev enc8 (n : Int) : List Value := [.int .u8 n]
def inB (W : List Int) : List Value := (List.range 20).map fun i => .bool (decide (((i : Nat) : Int) + 1 ∈ W))
theorem inB_len (W : List Int) : (inB W).length = 20 := by simp [inB]
theorem inB_get (W : List Int) {i : Nat} (hi : i < 20) : (inB W)[i]? = some (.bool (decide (((i : Nat) : Int) + 1 ∈ W))) := by
  unfold inB
  rw [List.getElem?_map, List.getElem?_range hi]
  rfl
theorem inB_set (W : List Int) {i : Nat} (hi : i < 20) : (inB W).set i (.bool true) = inB (W ++ [(i : Int) + 1]) := by
  apply List.ext_getElem?
  intro j
  rcases Nat.lt_or_ge j 20 with hj | hj
  · rw [inB_get _ hj, List.getElem?_set]
    by_cases e : i = j
    · subst e
      rw [if_pos rfl, if_pos (by rw [inB_len]; exact hi)]
      simp
    · rw [if_neg e, inB_get _ hj]
      have : ((j : Int) + 1 = (i : Int) + 1) = False := by
        apply propext
        constructor
        · intro g; omega
        · exact False.elim
      simp [List.mem_append, this]
  · rw [List.getElem?_eq_none (by rw [List.length_set, inB_len]; exact hj), List.getElem?_eq_none (by rw [inB_len]; exact hj)]
theorem LockTurns_s {s : Sl} {xs : List Int} (hs : Reads 1 enc8 h s xs) (hx : ∀ x ∈ xs, (Lit.int .u8 x).wf = true) (hQ : ∀ h', Ext [] h h' → Q [.bool true] h') : F_liverylaw06_LockTurns s h Q := by
  unfold F_liverylaw06_LockTurns
  refine new_L (G := fun _ => False) (fun b hb => hb.elim) fun h1 t hv1 e1 => ⟨_, rfl, ?_⟩
  intro J hJ
  rw [if_neg (by simp)]
  refine take_K hv1 (T' := inT 100 []) (r := 0) (by kernel_rfl) fun h2 S2 hv2 e2 hS2 => ⟨_, rfl, hJ _ _ ?_⟩
  rw [if_neg (by decide)]
  have f2 := ext_lo e1 e2 fun b hb => (hS2 b hb).1
  have z2 := f2.sz
  refine newI fun h7 s7 b7 e7 => ?_
  have f7 := f2.trans0 e7
  have hsn := hs.1
  intro X hX
  have key : ∀ d i g l W, i ≤ 60 → d + i = min xs.length 60 → Ext [] h g → h7.size ≤ g.size → Lk h.size (fun b => b = h2.size ∨ b ∈ sBlk l) g t (inT 100 W) → Own T_int 1 encIL h7.size g l W → W.length ≤ i → W.Nodup → (∀ w ∈ W, 1 ≤ w ∧ w ≤ 20) → Blk g h2.size (inB W).toArray T_20_bool →
      X [.slice l.a l.n l.c, .int .i64 (i : Int)] g := by
    intro d
    induction d with
    | zero =>
      intro i g l W hi60 hi eg zg hv ho hWl hWn hWr bg
      refine hX _ _ _ ?_
      have hln := ho.1
      intro J2 hJ2
      have go : J2 [.bool false] g := by
        refine hJ2 _ _ ?_
        rw [if_neg (by decide)]
        intro Y hY
        have key2 : ∀ d j g2 at_, d + j = W.length → Ext [] h g2 → g.size ≤ g2.size → Lk h.size (fun b => b ∈ sBlk l) g2 t (inT at_ (W.drop j)) → Own T_int 1 encIL h7.size g2 l W → at_ ∉ W.drop j → Y [.int .i64 at_, .int .i64 (j : Int)] g2 := by
          intro d
          induction d with
          | zero =>
            intro j g2 at_ hj eg2 zg2 hv2 ho2 hat
            refine hY _ _ _ ?_
            rw [if_neg (by simp; omega)]
            rw [List.drop_eq_nil_of_le (by omega)] at hv2
            refine release_K hv2 (N := [sT]) (names_one _ _) (by simp [inT]) (T' := []) (O := []) (rel_nil at_) fun g3 s3 S3 hv3 ho3 hs3 e3 hS3 => ⟨s3, rfl, ?_⟩
            have hn3 := ho3.1
            rw [if_pos (by simpa using hn3)]
            refine names_L hv3 (by simp) fun g4 s4 hv4 e4 ho4 => ⟨s4, rfl, ?_⟩
            have hn4 := ho4.1
            rw [names_nil] at hn4
            rw [if_pos (by simpa using hn4)]
            exact wakes_s fun g5 e5 => ⟨_, rfl, hQ g5 (((ext_lo eg2 e3 fun b hb => (hS3 b hb).1).trans0 e4).trans0 e5)⟩
          | succ d ih =>
            intro j g2 at_ hj eg2 zg2 hv2 ho2 hat
            refine hY _ _ _ ?_
            rw [if_pos (by simp; omega)]
            intro J3 hJ3
            have hjl : j < W.length := by omega
            have hdr : W.drop j = W[j] :: W.drop (j + 1) := List.drop_eq_getElem_cons hjl
            rw [hdr] at hv2 hat
            have hnd : (W[j] :: W.drop (j + 1)).Nodup := by rw [← hdr]; exact hWn.sublist (List.drop_sublist _ _)
            obtain ⟨a, w1, w2⟩ := rdI ho2.sl.reads hjl
            rw [w1]
            simp only [nilW_some, Int.toNat_natCast]
            refine ⟨by omega, by omega, W[j], w2, ?_⟩
            have fin : ∀ g5, Ext [] h g5 → g2.size ≤ g5.size → Lk h.size (fun b => b ∈ sBlk l) g5 t (inT W[j] (W.drop (j + 1))) → Own T_int 1 encIL h7.size g5 l W →
                (nilW (some a) fun a53 => ixOk (j : Int) l.n (∃ n54 : Int, rd g5 (Addr.add a53 (Int.toNat (j : Int) * 1)) = some (Value.int .i64 n54) ∧
                                      S_lock_Table_Modes (some ⟨t, 0, none⟩) n54 (ByteArray.mk #[116]) g5 fun (vs55 : List Value) (h56 : Hp) =>
                                      ∃ n57 : Int, vs55 = [(Value.int .i64 n57)] ∧
                                      J3 [(Value.bool (n57 != (256 : Int)))] h56)) := by
              intro g5 eg5 zg5 hv5 ho5
              obtain ⟨a', w1', w2'⟩ := rdI ho5.sl.reads hjl
              rw [w1] at w1'
              cases w1'
              simp only [nilW_some, Int.toNat_natCast]
              refine ⟨by omega, by omega, W[j], w2', ?_⟩
              refine modes_L hv5 W[j] sT ⟨_, rfl, hJ3 _ _ ?_⟩
              have hm : modesT (inT W[j] (W.drop (j + 1))) W[j] sT = 256 := by
                unfold modesT
                rw [(has_in _ _).1]
                simp [hasM, afind]
              rw [hm, if_neg (by decide), w1]
              simp only [nilW_some, Int.toNat_natCast]
              refine ⟨by omega, by omega, W[j], w2', ?_⟩
              rw [wrap64 (by omega) (by omega)]
              rw [List.nodup_cons] at hnd
              have := ih (j + 1) g5 W[j] (by omega) eg5 (by omega) hv5 ho5 hnd.1
              simpa using this
            constructor
            · refine release_K hv2 (N := [sT]) (names_one _ _) (by simp [inT]) (rel_cons hnd hat) fun g3 s3 S3 hv3 ho3 hs3 e3 hS3 => ⟨s3, rfl, ?_⟩
              have f3 := ext_lo eg2 e3 fun b hb => (hS3 b hb).1
              have ho3' := ho2.ext e3 fun a' ha hm => (hS3 _ hm).2 (mem_sBlk.2 ⟨a', ha, rfl⟩)
              obtain ⟨a', w1', w2'⟩ := rdI ho3'.sl.reads hjl
              rw [w1] at w1'
              cases w1'
              refine ⟨w2', ?_⟩
              refine newI fun g4 s4 b4 e4 => ?_
              refine Ints_s (ho3.ext0 e4).sl.reads (reads_lit (xs := [W[j]]) b4 rfl rfl) (by simp) ⟨_, rfl, ?_⟩
              rw [if_neg (by simp)]
              have z3 := e3.sz
              have z4 := e4.sz
              have := fin g4 (f3.trans0 e4) (by omega) (hv3.e0 e4) (ho3'.ext0 e4)
              simpa only [nilW_some, Int.toNat_natCast] using this
            · refine newI fun g4 s4 b4 e4 => ?_
              have hv4 : Lk h.size (fun b => b ∈ sBlk l ∨ b = g2.size) g4 t (inT at_ (W[j] :: W.drop (j + 1))) := hv2.mv e4 (by simp) fun b hb => by
                rcases hb with hb | hb
                · exact ⟨Or.inl hb, by have := hv2.1 b hb; omega⟩
                · exact ⟨Or.inr (by omega), by omega⟩
              refine release_K hv4 (N := [sT]) (names_one _ _) (by simp [inT]) (rel_cons hnd hat) fun g3 s3 S3 hv3 ho3 hs3 e3 hS3 => ⟨s3, rfl, ?_⟩
              have f3 := ext_lo (eg2.trans0 e4) e3 fun b hb => (hS3 b hb).1
              have ho3' := (ho2.ext0 e4).ext e3 fun a' ha hm => (hS3 _ hm).2 (Or.inl (mem_sBlk.2 ⟨a', ha, rfl⟩))
              have b3 := e3.get b4 fun hm => (hS3 _ hm).2 (Or.inr rfl)
              refine Ints_s ho3.sl.reads (reads_lit (xs := [W[j]]) b3 rfl rfl) (by simp) ⟨_, rfl, ?_⟩
              rw [if_neg (by simp)]
              have z3 := e3.sz
              have := fin g3 f3 (by omega) (hv3.less fun b hb => Or.inl hb) ho3'
              simpa only [nilW_some, Int.toNat_natCast] using this
        have := key2 W.length 0 g 100 (by omega) eg (Nat.le_refl _) (hv.less fun b hb => Or.inr hb) ho fun hm => by have := hWr 100 hm; omega
        simpa using this
      by_cases hlt : i < xs.length
      · rw [if_pos (by simp; omega)]
        have : (decide ((i : Int) < 60)) = false := decide_eq_false (by omega)
        rw [this]
        exact go
      · rw [if_neg (by simp; omega)]
        exact go
    | succ d ih =>
      intro i g l W hi60 hi eg zg hv ho hWl hWn hWr bg
      refine hX _ _ _ ?_
      have hil : i < xs.length := by omega
      intro J2 hJ2
      rw [if_pos (by simp; omega)]
      have h60 : (decide ((i : Int) < 60)) = true := decide_eq_true (by omega)
      rw [h60]
      refine hJ2 _ _ ?_
      rw [if_pos rfl]
      intro J3 hJ3
      obtain ⟨a, w1, w2⟩ := (hs.ext0 eg).rd (fun _ => rfl) hil
      have w2 := w2 0 (by omega)
      rw [w1]
      simp only [nilW_some, Int.toNat_natCast]
      refine ⟨by omega, by omega, xs[i], by simpa using w2, by decide, ?_⟩
      have hxi := wf_u8 (hx _ (List.getElem_mem hil))
      obtain ⟨k, hk, hk20⟩ : ∃ k : Nat, Int.tmod (IntKind.wrap .i64 xs[i]) 20 = (k : Int) ∧ k < 20 := by
        rw [wrap64 (x := xs[i]) (by omega) (by omega), Int.tmod_eq_emod_of_nonneg hxi.1]
        exact ⟨(xs[i] % 20).toNat, by omega, by omega⟩
      rw [hk, wrap64 (x := (1 : Int) + (k : Int)) (by omega) (by omega)]
      have htk := take_in (at_ := 100) (W := W) (k := 1 + (k : Int)) (by omega) (by omega)
      have hmem : ((k : Int) + 1 ∈ W) ↔ (1 + (k : Int) ∈ W) := by rw [Int.add_comm]
      have hblen := inB_len W
      have hbk : ∀ g', Blk g' h2.size (inB W).toArray T_20_bool → rd g' (Addr.add (Addr.mk h2.size 0 none) (k * 1)) = some (.bool (decide (1 + (k : Int) ∈ W))) := by
        intro g' b
        rw [addr_mk, rd_blk b]
        rw [List.getElem?_toArray]
        simp only [Nat.zero_add, Nat.mul_one]
        rw [inB_get W hk20]
        simp [hmem]
      simp only [Int.toNat_natCast]
      by_cases hw : 1 + (k : Int) ∈ W
      · rw [if_pos hw] at htk
        refine take_K hv htk fun g3 S3 hv3 e3 hS3 => ⟨_, rfl, ?_⟩
        have f3 := ext_lo eg e3 fun b hb => (hS3 b hb).1
        have b3 := e3.get bg fun hm => (hS3 _ hm).2 (Or.inl rfl)
        have ho3 := ho.ext e3 fun a' ha hm => (hS3 _ hm).2 (Or.inr (mem_sBlk.2 ⟨a', ha, rfl⟩))
        have z3 := e3.sz
        intro J4 hJ4
        refine ⟨by omega, by omega, _, hbk g3 b3, ?_⟩
        rw [decide_eq_true hw, if_pos rfl, if_neg (by decide)]
        refine ⟨by omega, by omega, _, by rw [hbk g3 b3, decide_eq_true hw], ?_⟩
        rw [if_neg (by decide)]
        refine hJ4 _ _ ?_
        rw [if_neg (by decide)]
        refine ⟨by omega, by omega, _, by rw [hbk g3 b3, decide_eq_true hw], ?_⟩
        rw [if_neg (by decide)]
        refine hJ3 _ _ ?_
        rw [wrap64 (by omega) (by omega)]
        have := ih (i + 1) g3 l W (by omega) (by omega) f3 (by omega) hv3 ho3 (by omega) hWn hWr b3
        simpa using this
      · rw [if_neg hw] at htk
        refine take_K hv htk fun g3 S3 hv3 e3 hS3 => ⟨_, rfl, ?_⟩
        have f3 := ext_lo eg e3 fun b hb => (hS3 b hb).1
        have b3 := e3.get bg fun hm => (hS3 _ hm).2 (Or.inl rfl)
        have ho3 := ho.ext e3 fun a' ha hm => (hS3 _ hm).2 (Or.inr (mem_sBlk.2 ⟨a', ha, rfl⟩))
        have z3 := e3.sz
        intro J4 hJ4
        refine ⟨by omega, by omega, _, hbk g3 b3, ?_⟩
        rw [decide_eq_false hw, if_neg (by decide)]
        refine ⟨by omega, by omega, _, by rw [hbk g3 b3, decide_eq_false hw], ?_⟩
        rw [if_pos (by decide)]
        refine hJ4 _ _ ?_
        rw [if_neg (by decide)]
        refine ⟨by omega, by omega, _, by rw [hbk g3 b3, decide_eq_false hw], ?_⟩
        rw [if_pos (by decide)]
        refine ⟨by omega, by omega, ?_⟩
        rw [addr_mk]
        refine st_blk b3 (by simp [hblen]; omega) fun g4 s4 b4 e4 => ?_
        have hput : putAt (inB W).toArray (0 + k * 1) [.bool true] = (inB (W ++ [1 + (k : Int)])).toArray := by
          have h1 := inB_set W hk20
          rw [Int.add_comm 1 (k : Int), ← h1]
          apply Array.toList_inj.1
          rw [putAt_all _ _ (by simp [hblen]; omega)]
          simp only [Nat.zero_add, Nat.mul_one, List.length_singleton]
          rw [List.set_eq_take_append_cons_drop, if_pos (by simp [hblen]; omega)]
          simp
        rw [hput] at b4
        have hlnot : h2.size ∉ sBlk l := fun hm => by have := (own_ltG ho _ hm).1; omega
        have ho4 := ho3.ext e4 fun a' ha hm => by simp at hm; exact hlnot (hm ▸ mem_sBlk.2 ⟨a', ha, rfl⟩)
        have hv4 := hv3.eG e4 fun b hb _ => by simp at hb; exact Or.inl hb
        refine app1 (x := 1 + (k : Int)) ho4 rfl zc_int encIL_len encIL_one (by omega) (by omega) (by omega) fun l5 g5 ho5 e5 hb5 => ?_
        have z5 := e5.sz
        refine hJ3 _ _ ?_
        rw [wrap64 (by omega) (by omega)]
        have f5 : Ext [] h g5 := (f3.trans e4 fun b hb hlt => by simp at hb; omega).trans e5 fun b hb hlt => by have := (own_ltG ho b hb).1; omega
        have hv5 : Lk h.size (fun b => b = h2.size ∨ b ∈ sBlk l5) g5 t (inT 100 (W ++ [1 + (k : Int)])) := hv4.mv e5 (fun b hb _ => Or.inr hb) fun b hb => by
          rcases hb with rfl | hb
          · exact ⟨Or.inl (Or.inl rfl), by have := blk_lt b4; omega⟩
          · refine ⟨?_, (own_ltG ho5 b hb).2⟩
            rcases hb5 b hb with g | g
            · exact Or.inl (Or.inr g)
            · exact Or.inr g
        have := ih (i + 1) g5 l5 (W ++ [1 + (k : Int)]) (by omega) (by omega) f5 (by omega) hv5 ho5 (by simp; omega) (by
          rw [List.nodup_append]
          refine ⟨hWn, by simp, fun a ha b hb => ?_⟩
          simp at hb
          subst hb
          exact fun e => hw (e ▸ ha)) (fun w hwm => by
          rcases List.mem_append.1 hwm with g | g
          · exact hWr w g
          · simp at g
            omega) (e5.get b4 hlnot)
        simpa using this
  have := key (min xs.length 60) 0 h7 ⟨none, 0, 0⟩ [] (by omega) (by omega) f7 (Nat.le_refl _) (hv2.mv e7 (by simp) fun b hb => by
    rcases hb with rfl | hb
    · exact ⟨Or.inr (Nat.le_refl _), by omega⟩
    · simp [sBlk] at hb) (Own.nil _ _) (by simp) (by simp) (by simp) (by
    have : (inB []).toArray = #[(Value.bool false), (Value.bool false), (Value.bool false), (Value.bool false), (Value.bool false), (Value.bool false), (Value.bool false), (Value.bool false), (Value.bool false), (Value.bool false), (Value.bool false), (Value.bool false), (Value.bool false), (Value.bool false), (Value.bool false), (Value.bool false), (Value.bool false), (Value.bool false), (Value.bool false), (Value.bool false)] := by kernel_rfl
    rw [this]
    exact b7)
  simpa using this
end
end Go.Lift

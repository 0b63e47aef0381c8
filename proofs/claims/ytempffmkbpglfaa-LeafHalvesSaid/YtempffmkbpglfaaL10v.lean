/- LeafHalves: keys that come in their order. -/
import Derived.Test.YtempffmkbpglfaaL10w
set_option linter.unusedSimpArgs false
set_option linter.unusedVariables false
namespace Go.Lift
open Go Go.Proofs
set_option maxRecDepth 100000
theorem wrapu8 {x : Int} (h1 : 0 ≤ x) (h2 : x ≤ 255) : IntKind.wrap .u8 x = x := by
  unfold IntKind.wrap IntKind.bits IntKind.signed
  simp only [Bool.false_and, Bool.false_eq_true, if_false]
  omega
def kb (n : Nat) : ByteArray := ByteArray.mk #[UInt8.ofNat n]
theorem kb_lt {i j : Nat} (h : i < j) (hj : j < 256) : sLt (kb i) (kb j) = true := by
  unfold sLt kb
  rw [ByteArray.toList_eq, ByteArray.toList_eq]
  have : (UInt8.ofNat i) < (UInt8.ofNat j) := by
    rw [UInt8.lt_iff_toNat_lt, UInt8.toNat_ofNat', UInt8.toNat_ofNat']
    omega
  simp [Op.bytesLess, this]
structure Hv (f half k : Nat) (M : LeafM) (A : List OneM) (o : OneM) : Prop where
  eq : M.l = A ++ [o]
  a : ∀ i (hi : i < A.length), A[i].n = (i : Int) + 1 ∧ A[i].keys.length = half
  on : o.n = (A.length : Int) + 1
  sum : k = half * A.length + o.keys.length
  ol : o.keys.length ≤ f
  nx : M.next = (A.length : Int) + 2
  fan : M.fan = f
  kl : ∀ s ∈ o.keys, sLt s (kb k) = true
  bl : ∀ b, lbOf A o = some b → sLt b (kb k) = true
theorem hv_step {f half k n : Nat} {M : LeafM} {A : List OneM} {o : OneM} (hh : half = (f + 2) / 2) (hf : 2 ≤ f) (v : Hv f half k M A o) (ok : OkM M n) (hk : k < 255) :
    (M.ins (kb k)).2.err = 0 ∧ ∃ A' o', Hv f half (k + 1) (M.ins (kb k)).1 A' o' := by
  have hlt := atL_lt ok.ne (kb k)
  rw [ins_eq (by show ¬ (1 : Nat) > 1024; decide) hlt]
  have w := wf_split.1 (v.eq ▸ ok.wf)
  have ha : atL M.l (kb k) = A.length := by
    rw [v.eq]
    exact (at_iff w (kb k)).2 ⟨fun b hb => sLt_asymm (v.bl b hb), fun p hp => by simp at hp⟩
  have ho : M.l[atL M.l (kb k)] = o := by
    have e : M.l[atL M.l (kb k)]? = some o := by rw [ha, v.eq]; simp
    rw [List.getElem?_eq_getElem hlt] at e
    exact Option.some.inj e
  rw [ho]
  unfold LeafM.insAt
  have hno : hasK o.keys (kb k) = false := by
    cases h : hasK o.keys (kb k) with
    | false => rfl
    | true =>
      have := v.kl _ (hasK_iff.1 h)
      rw [sLt_irrefl] at this
      cases this
  rw [hno, if_neg (by decide)]
  have hpos : posK o.keys (kb k) = o.keys.length := posK_eq (Nat.le_refl _) (fun a ha _ => v.kl _ (List.getElem_mem _)) fun a ha h => by omega
  have hput : putK o.keys (kb k) = o.keys ++ [kb k] := by unfold putK; rw [hpos]; simp
  rw [hput]
  have hup : sLt (kb k) (kb (k + 1)) = true := kb_lt (by omega) (by omega)
  have hkl : ∀ s ∈ o.keys ++ [kb k], sLt s (kb (k + 1)) = true := by
    intro s hs
    rcases List.mem_append.1 hs with g | g
    · exact sLt_trans (v.kl s g) hup
    · simp at g; subst g; exact hup
  have hlen : (o.keys ++ [kb k]).length = o.keys.length + 1 := by simp
  have hset : M.l.set (atL M.l (kb k)) { o with keys := o.keys ++ [kb k] } = A ++ [{ o with keys := o.keys ++ [kb k] }] := by
    rw [ha, v.eq, List.set_append_right _ _ (by omega)]; simp
  have hfan := v.fan
  by_cases hle : ((o.keys ++ [kb k]).length : Int) ≤ M.fan
  · rw [if_pos hle]
    refine ⟨rfl, A, { o with keys := o.keys ++ [kb k] }, hset, v.a, v.on, ?_, ?_, v.nx, hfan, hkl, ?_⟩
    · have := v.sum; simp only [hlen]; omega
    · simp only; omega
    · intro b hb
      rw [lbOf_n (o := { o with keys := o.keys ++ [kb k] }) (o' := o) rfl] at hb
      exact sLt_trans (v.bl b hb) hup
  · rw [if_neg hle]
    have hol := v.ol
    have hfull : o.keys.length = f := by omega
    have hcut : ((o.keys ++ [kb k]).length + 1) / 2 = half := by rw [hlen, hfull, hh]
    simp only [hcut]
    have hcl : half < (o.keys ++ [kb k]).length := by omega
    have hgd : (o.keys ++ [kb k]).getD half (ByteArray.mk #[]) = (o.keys ++ [kb k])[half] := by rw [List.getD_eq_getElem?_getD, List.getElem?_eq_getElem hcl]; rfl
    refine ⟨trivial, A ++ [{ o with keys := (o.keys ++ [kb k]).take half }], ⟨M.next, (o.keys ++ [kb k]).getD half (ByteArray.mk #[]), (o.keys ++ [kb k]).drop half⟩, ?_, ?_, ?_, ?_, ?_, ?_, hfan, ?_, ?_⟩
    · simp only
      rw [ha, v.eq]
      simp
    · intro i hi
      simp only [List.length_append, List.length_cons, List.length_nil] at hi
      rcases (by omega : i < A.length ∨ i = A.length) with g | g
      · rw [List.getElem_append_left g]; exact v.a i g
      · subst g
        rw [List.getElem_append_right (Nat.le_refl _)]
        simp only [Nat.sub_self, List.getElem_cons_zero]
        exact ⟨v.on, by rw [List.length_take]; omega⟩
    · simp only [List.length_append, List.length_cons, List.length_nil]
      rw [v.nx]; omega
    · simp only [List.length_append, List.length_cons, List.length_nil, List.length_drop]
      have := v.sum
      rw [Nat.mul_add]
      omega
    · simp only [List.length_drop]; omega
    · simp only [List.length_append, List.length_cons, List.length_nil]
      rw [v.nx]; omega
    · intro s hs
      exact hkl s (List.mem_of_mem_drop hs)
    · intro b hb
      have e : lbOf (A ++ [{ o with keys := (o.keys ++ [kb k]).take half }]) (⟨M.next, (o.keys ++ [kb k]).getD half (ByteArray.mk #[]), (o.keys ++ [kb k]).drop half⟩ : OneM) = some ((o.keys ++ [kb k])[half]) := by
        rw [hgd]; cases A <;> rfl
      rw [e] at hb
      cases hb
      exact hkl _ (List.getElem_mem _)
theorem hv_new (f half : Nat) : Hv f half 0 ⟨f, 2, [⟨1, ByteArray.mk #[], []⟩]⟩ [] ⟨1, ByteArray.mk #[], []⟩ :=
  ⟨rfl, fun i hi => by simp at hi, rfl, by simp, by simp, rfl, rfl, by simp, fun b hb => by cases hb⟩
theorem hv_num {f half k : Nat} {M : LeafM} {A : List OneM} {o : OneM} (v : Hv f half k M A o) : ∀ i (hi : i < M.l.length), M.l[i].n = (i : Int) + 1 := by
  intro i hi
  have hi2 : i < (A ++ [o]).length := by rw [← v.eq]; exact hi
  have e : M.l[i] = (A ++ [o])[i] := by
    have h1 : M.l[i]? = (A ++ [o])[i]? := by rw [v.eq]
    rw [List.getElem?_eq_getElem hi, List.getElem?_eq_getElem hi2] at h1
    exact Option.some.inj h1
  rw [e]
  simp only [List.length_append, List.length_cons, List.length_nil] at hi2
  rcases (by omega : i < A.length ∨ i = A.length) with g | g
  · rw [List.getElem_append_left g]; exact (v.a i g).1
  · subst g
    rw [List.getElem_append_right (Nat.le_refl _)]
    simp only [Nat.sub_self, List.getElem_cons_zero]
    exact v.on
theorem hv_keys {f half k : Nat} {M : LeafM} {A : List OneM} {o : OneM} (v : Hv f half k M A o) {i : Nat} (hi : i < M.l.length) : keysOf M.l ((i : Int) + 1) = some M.l[i].keys := by
  have hn := hv_num v
  unfold keysOf
  rw [find_at _ M.l i hi (fun p hp => ?_) (by rw [hn i hi]; simp)]
  · rfl
  · obtain ⟨j, hj, rfl⟩ := List.getElem_of_mem hp
    rw [List.length_take] at hj
    rw [List.getElem_take, hn j (by omega)]
    simp
    omega
theorem hv_sum {f half k : Nat} {M : LeafM} {A : List OneM} {o : OneM} (v : Hv f half k M A o) : sumL M.l = k := by
  have key : ∀ (A : List OneM) (a : Int), (∀ i (hi : i < A.length), A[i].keys.length = half) → A.foldl (fun n o => n + (o.keys.length : Int)) a = a + half * A.length := by
    intro A
    induction A with
    | nil => intro a _; simp
    | cons p A ih =>
      intro a h
      rw [List.foldl_cons, ih _ fun i hi => h (i + 1) (by simpa using hi)]
      have := h 0 (by simp)
      simp only [List.getElem_cons_zero] at this
      rw [this, List.length_cons, Int.natCast_add, Int.mul_add]
      omega
  rw [v.eq]
  unfold sumL
  rw [List.foldl_append, key A 0 fun i hi => (v.a i hi).2]
  have := v.sum
  simp only [List.foldl_cons, List.foldl_nil]
  rw [this, Int.natCast_add, Int.natCast_mul]
  omega
section
variable {h : Hp} {Q : List Value → Hp → Prop}
theorem LeafHalves_s {fan m : Int} (hfan : 0 ≤ fan ∧ fan ≤ 255) (hm : 0 ≤ m ∧ m ≤ 255) (hQ : ∀ h', Ext [] h h' → Q [.bool true] h') : F_liverylaw10_LeafHalves fan m h Q := by
  unfold F_liverylaw10_LeafHalves
  obtain ⟨f, hfe, hf2, hf11⟩ : ∃ f : Nat, IntKind.wrap .i64 ((2 : Int) + Int.tmod (IntKind.wrap .i64 fan) 10) = (f : Int) ∧ 2 ≤ f ∧ f ≤ 11 := by
    rw [wrap64 (x := fan) (by omega) (by omega), Int.tmod_eq_emod_of_nonneg hfan.1, wrap64 (by omega) (by omega)]
    exact ⟨(2 + fan % 10).toNat, by omega, by omega, by omega⟩
  obtain ⟨half, hhe⟩ : ∃ half : Nat, half = (f + 2) / 2 := ⟨_, rfl⟩
  obtain ⟨N, hN⟩ : ∃ N : Nat, IntKind.wrap .i64 m = (N : Int) ∧ N ≤ 255 := ⟨m.toNat, by rw [wrap64 (by omega) (by omega)]; omega, by omega⟩
  rw [hfe, hN.1]
  have hhalf : IntKind.wrap .i64 (Int.tdiv (IntKind.wrap .i64 ((f : Int) + 2)) 2) = (half : Int) := by
    rw [wrap64 (x := (f : Int) + 2) (by omega) (by omega), Int.tdiv_eq_ediv_of_nonneg (by omega), wrap64 (by omega) (by omega)]
    omega
  rw [hhalf]
  refine ⟨by decide, ?_⟩
  refine New_L (by omega) fun h1 x hv1 e1 => ⟨_, _, rfl, ?_⟩
  intro J hJ
  rw [if_neg (by decide)]
  refine hJ _ _ ?_
  rw [if_neg (by simp)]
  intro X hX
  have key : ∀ d k g M A o, d + k = N → Lv h.size (fun _ => False) g x M → Ext [] h g → OkM M k → Hv f half k M A o → X [.int .i64 (k : Int)] g := by
    intro d
    induction d with
    | zero =>
      intro k g M A o hk hv e ok hh
      refine hX _ _ ?_
      rw [if_neg (by simp; omega)]
      have okn : k < 2 ^ 15 := by omega
      refine All_L hv ok okn fun g1 sa hv1 e1 hoa => ⟨sa, rfl, ?_⟩
      have hsn := hoa.1
      rw [List.length_map] at hsn
      have hlA : M.l.length = A.length + 1 := by rw [hh.eq]; simp
      have hlen := ok.len
      refine ⟨by decide, ?_⟩
      intro Y hY
      have key2 : ∀ d i g2, d + i = M.l.length → Lv h.size (fun _ => False) g2 x M → Ext [] g1 g2 → Y [.int .i64 (i : Int)] g2 := by
        intro d
        induction d with
        | zero =>
          intro i g2 hi hv2 e2
          refine hY _ _ ?_
          rw [if_neg (by simp; omega)]
          refine Len_L hv2 ok okn ⟨_, rfl, ?_⟩
          rw [hv_sum hh, if_pos (by simp; omega), if_pos (by simp; omega)]
          have hoa2 := (hoa.ext0 e2).sl.reads
          obtain ⟨aa, w1, w2⟩ := rdI hoa2 (i := M.l.length - 1) (by simp; omega)
          rw [wrap64 (x := (sa.n : Int) - 1) (by omega) (by omega)]
          have e3 : ((sa.n : Int) - 1) = ((M.l.length - 1 : Nat) : Int) := by omega
          rw [e3, w1]
          simp only [nilW_some, Int.toNat_natCast]
          refine ⟨by omega, by omega, _, w2, ?_⟩
          have hnm := hv_num hh (M.l.length - 1) (by omega)
          rw [List.getElem_map, hnm]
          refine Keys_L hv2 ok okn _ fun g3 sk hv3 e3' hok => ⟨sk, rfl, ?_⟩
          rw [hv_keys hh (by omega)] at hok
          have hkn := hok.1
          have hlast : M.l[M.l.length - 1]'(by omega) = o := by
            have e4 : M.l[M.l.length - 1]? = some o := by rw [hlA, Nat.add_sub_cancel, hh.eq]; simp
            rw [List.getElem?_eq_getElem (by omega)] at e4
            exact Option.some.inj e4
          rw [hlast] at hkn
          simp only [Option.getD_some] at hkn
          have hsum := hh.sum
          have hprod : (half : Int) * ((M.l.length - 1 : Nat) : Int) = ((half * A.length : Nat) : Int) := by
            rw [Int.natCast_mul, hlA, Nat.add_sub_cancel]
          rw [hprod, wrap64 (x := ((half * A.length : Nat) : Int)) (by omega) (by omega), wrap64 (by omega) (by omega)]
          rw [if_pos (by simp; omega)]
          refine wakes10_s fun g4 e4 => ⟨_, rfl, ?_⟩
          exact hQ g4 ((((e.trans0 e1).trans0 e2).trans0 e3').trans0 e4)
        | succ d ih =>
          intro i g2 hi hv2 e2
          refine hY _ _ ?_
          rw [if_pos (by simp; omega)]
          intro J2 hJ2
          have hoa2 := (hoa.ext0 e2).sl.reads
          obtain ⟨aa, w1, w2⟩ := rdI hoa2 (i := i) (by simp; omega)
          rw [w1]
          simp only [nilW_some, Int.toNat_natCast]
          refine ⟨by omega, by omega, _, w2, ?_⟩
          have hnm := hv_num hh i (by omega)
          rw [List.getElem_map, hnm] at w2 ⊢
          rw [wrap64 (x := (i : Int) + 1) (by omega) (by omega), if_neg (by simp)]
          have next : ∀ g3, Lv h.size (fun _ => False) g3 x M → Ext [] g1 g3 → J2 [.bool false] g3 := by
            intro g3 hv3 e3
            refine hJ2 _ _ ?_
            rw [if_neg (by decide), wrap64 (by omega) (by omega)]
            have := ih (i + 1) g3 (by omega) hv3 e3
            simpa using this
          by_cases hlt : i + 1 < M.l.length
          · rw [if_pos (by simp; omega)]
            refine ⟨by omega, by omega, _, w2, ?_⟩
            refine Keys_L hv2 ok okn _ fun g3 sk hv3 e3 hok => ⟨sk, rfl, ?_⟩
            rw [hv_keys hh (by omega)] at hok
            have hkn := hok.1
            have hAi : M.l[i]'(by omega) = A[i]'(by omega) := by
              have e4 : M.l[i]? = some (A[i]'(by omega)) := by rw [hh.eq, List.getElem?_append_left (by omega), List.getElem?_eq_getElem]
              rw [List.getElem?_eq_getElem (by omega)] at e4
              exact Option.some.inj e4
            rw [hAi] at hkn
            simp only [Option.getD_some] at hkn
            rw [(hh.a i (by omega)).2] at hkn
            rw [show ((sk.n : Int) != (half : Int)) = false by simp; omega]
            exact next g3 hv3 (e2.trans0 e3)
          · rw [if_neg (by simp; omega)]
            exact next g2 hv2 e2
      have := key2 M.l.length 0 g1 (by omega) hv1 (Ext.refl _ _)
      simpa using this
    | succ d ih =>
      intro k g M A o hk hv e ok hh
      refine hX _ _ ?_
      rw [if_pos (by simp; omega)]
      refine newI fun g1 s1 b1 e1 => ?_
      refine ⟨kb k, ?_, ?_⟩
      · refine ⟨rfl, fun i hi => ?_⟩
        obtain rfl : i = 0 := by omega
        rw [addr_mk, rd_blk b1]
        have : (IntKind.wrap .u8 (k : Int)) = (k : Int) := wrapu8 (by omega) (by omega)
        rw [this]
        simp [kb, UInt8.toNat_ofNat']
        omega
      · obtain ⟨he, A', o', hh'⟩ := hv_step hhe hf2 hh ok (by omega)
        refine ins_L (hv.e0 e1) ok (by omega) (kb k) fun g2 S hv2 e2 hS => ⟨_, _, _, _, rfl, ?_⟩
        refine varI rfl rfl fun g3 s3 b3 e3 => ?_
        rw [he, if_neg (by decide)]
        rw [wrap64 (by omega) (by omega)]
        have := ih (k + 1) g3 _ A' o' (by omega) (hv2.e0 e3) (((e.trans0 e1).trans e2 fun b hb hlt => by have := (hS b hb).1; omega).trans0 e3) (ins_ok ok _).1 hh'
        simpa using this
  have := key N 0 h1 _ [] _ (by omega) hv1 e1 (new_ok (by omega)) (hv_new f half)
  simpa using this
end
end Go.Lift

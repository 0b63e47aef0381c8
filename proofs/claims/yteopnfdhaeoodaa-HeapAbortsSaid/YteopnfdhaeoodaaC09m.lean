/- HeapMost: a relation has just so many versions; vacuum makes room. -/
import Derived.Test.YteopnfdhaeoodaaC09v
set_option linter.unusedSimpArgs false
set_option linter.unusedVariables false
namespace Go.Lift
open Go Go.Proofs
set_option maxRecDepth 100000
def vInt (n : Int) : List Val := [⟨2, n, 0, ByteArray.mk #[]⟩]
def baseT (n : Nat) : List (Int × Tup) := (List.range n).map fun i : Nat => ((i : Int), ⟨1, 0, vInt i⟩)
def baseR (n : Nat) : RelM := ⟨baseT n, n⟩
theorem baseT_succ (n : Nat) : baseT (n + 1) = baseT n ++ [((n : Int), ⟨1, 0, vInt n⟩)] := by simp [baseT, List.range_succ]
theorem baseT_keys (n : Nat) : (baseT n).map Prod.fst = ints n := by simp [baseT, ints]
theorem baseT_len (n : Nat) : (baseT n).length = n := by simp [baseT]
theorem baseT_find {n : Nat} {t : Int} (h : 0 ≤ t ∧ t < n) : afind (baseT n) t = some ⟨1, 0, vInt t⟩ := by
  apply afind_of_mem (by rw [baseT_keys]; exact ints_nodup n)
  simp only [baseT, List.mem_map, List.mem_range, Prod.mk.injEq]
  exact ⟨t.toNat, by omega, by omega, by rw [show ((t.toNat : Nat) : Int) = t by omega]⟩
theorem base_ins (n : Nat) : (baseR n).ins 1 (vInt n) = baseR (n + 1) := by simp [baseR, RelM.ins, baseT_succ]
theorem filter_one {l : List Int} (hn : l.Nodup) {k : Int} (hk : k ∈ l) : l.filter (fun t => decide (t = k)) = [k] := by
  induction l with
  | nil => cases hk
  | cons a l ih =>
    rw [List.nodup_cons] at hn
    rw [List.filter_cons]
    by_cases e : a = k
    · subst e
      simp only [decide_true, if_true]
      rw [List.filter_eq_nil_iff.2]
      intro t ht e
      simp at e
      exact hn.1 (e ▸ ht)
    · have : k ∈ l := by
        rw [List.mem_cons] at hk
        rcases hk with h | h
        · exact absurd h.symm e
        · exact h
      simp only [e, decide_false, Bool.false_eq_true, if_false]
      exact ih hn.2 this
theorem adel_len1 {V : Type} {T : List (Int × V)} {k : Int} (hk : k ∈ T.map Prod.fst) : (adel T k).length + 1 = T.length := by
  induction T with
  | nil => cases hk
  | cons q T ih =>
    obtain ⟨a, u⟩ := q
    simp only [List.map_cons, List.mem_cons] at hk
    simp only [adel]
    by_cases e : k = a
    · rw [if_pos e]; rfl
    · rw [if_neg e]
      simp only [List.length_cons]
      rw [ih (hk.resolve_left e)]
def LM : LogM := (((log0.begin false).commit 1).begin false).commit 2
theorem goneM_two (v : List Val) : goneM LM ⟨1, 2, v⟩ = true := by rfl
theorem goneM_zero (v : List Val) : goneM LM ⟨1, 0, v⟩ = false := by rfl
def RD (k : Int) : RelM := (baseR 512).del 2 k
section
variable {k : Int} (hk : 0 ≤ k ∧ k < 512)
include hk
theorem RD_T : (RD k).T = aput (baseT 512) k ⟨1, 2, vInt k⟩ := by
  unfold RD RelM.del RelM.get RelM.find
  have := baseT_find (n := 512) (t := k) (by omega)
  show aput (baseT 512) k { (afind (baseT 512) k).getD tup0 with xmax := 2 } = _
  rw [this]
  rfl
theorem RD_keys : (RD k).T.map Prod.fst = ints 512 := by
  rw [RD_T hk, keys_aput, baseT_keys, if_pos (ints_mem.2 (by omega))]
theorem RD_get {t : Int} (ht : 0 ≤ t ∧ t < 512) : goneM LM ((RD k).get t) = decide (t = k) := by
  unfold RelM.get RelM.find
  rw [RD_T hk, afind_aput]
  by_cases e : t = k
  · rw [if_pos e]
    simp only [Option.getD_some, goneM_two, e, decide_true]
  · rw [if_neg e, baseT_find (by omega)]
    simp only [Option.getD_some, goneM_zero, e, decide_false]
theorem RD_vac : (RD k).vacuum LM = ((RD k).rem k, [k]) := by
  have hn : ((RD k).T.map Prod.fst).Nodup := by rw [RD_keys hk]; exact ints_nodup 512
  rw [vacuum_eq LM hn]
  congr 1
  · unfold RelM.rem
    congr 1
    rw [adel_filter hn]
    apply List.filter_congr
    rintro ⟨t, v⟩ hp
    have h1 : t ∈ ints 512 := by rw [← RD_keys hk]; exact List.mem_map.2 ⟨_, hp, rfl⟩
    have h2 : (RD k).get t = v := by unfold RelM.get RelM.find; rw [afind_of_mem hn hp]; rfl
    rw [← RD_get hk (ints_mem.1 h1), h2]
  · have : (RD k).keys = ints 512 := by unfold RelM.keys; rw [RD_keys hk]; exact sortI_sorted (ints_sorted 512)
    rw [this]
    have e : (ints 512).filter (fun t => goneM LM ((RD k).get t)) = (ints 512).filter fun t => decide (t = k) := by
      apply List.filter_congr
      intro t ht
      exact RD_get hk (ints_mem.1 ht)
    rw [e]
    exact filter_one (ints_nodup 512) (ints_mem.2 (by omega))
theorem RV_len : ((RD k).rem k).T.length = 511 := by
  have h1 := adel_len1 (T := (RD k).T) (k := k) (by rw [RD_keys hk]; exact ints_mem.2 (by omega))
  have h2 : (RD k).T.length = 512 := by
    have := congrArg List.length (RD_keys hk)
    rw [List.length_map, ints_len] at this
    exact this
  show (adel (RD k).T k).length = 511
  omega
theorem RV_find (row : List Val) : (((RD k).rem k).ins 3 row).find k = none := by
  have hn : ((RD k).T.map Prod.fst).Nodup := by rw [RD_keys hk]; exact ints_nodup 512
  unfold RelM.find
  rw [afind_none]
  intro hm
  have h1 : (adel (RD k).T k).map Prod.fst ++ [((RD k).next : Int)] = (((RD k).rem k).ins 3 row).T.map Prod.fst := by simp [RelM.ins, RelM.rem]
  rw [← h1, List.mem_append] at hm
  rcases hm with g | g
  · have h2 : afind (adel (RD k).T k) k = none := by rw [afind_adel hn, if_pos rfl]
    exact (afind_none _ _).1 h2 g
  · simp at g
    have : (RD k).next = 512 := rfl
    omega
end
section
variable {h : Hp} {p r m : Nat} {L : LogM} {R : RelM} {Q : List Value → Hp → Prop}
theorem HeapMost_s {h0 : Hp} {n : Int} (hn : 0 ≤ n ∧ n ≤ 255) (hQ : ∀ h', Ext [] h0 h' → Q [.bool true] h') : F_liverylaw09_HeapMost n h0 Q := by
  unfold F_liverylaw09_HeapMost
  refine New_s fun h1 l1 e1 s1 => ⟨_, rfl, ?_⟩
  refine HNew_s fun h2 r2 e2 => ⟨_, rfl, ?_⟩
  have st : St h0 h2 h0.size (h1.size + 1) h1.size log0 (baseR 0) := ⟨l1.ext e2 (by simp), r2, e1.trans0 e2, Nat.le_refl _, by omega, by omega⟩
  generalize h0.size = p at *
  generalize h1.size + 1 = r at *
  generalize h1.size = m at *
  clear l1 r2 e1 e2 s1
  intro J hJ
  rw [if_neg (by simp)]
  refine hJ _ _ ?_
  rw [if_neg (by simp)]
  refine Begin_s st.log fun h3 l3 e3 => ⟨_, _, rfl, ?_⟩
  have st := st.eL e3 l3
  intro X hX
  have key : ∀ d i h, d + i = 512 → St h0 h p r m (log0.begin false) (baseR i) → X [.int .i64 (i : Int)] h := by
    intro d
    induction d with
    | succ d ih =>
      intro i h hi st
      refine hX _ _ ?_
      rw [if_pos (by simp; omega)]
      refine one9_s fun h5 s hs hsn e5 => ⟨s, rfl, ?_⟩
      have st := st.e0 e5
      have hf : (baseR i).full = false := by simp [RelM.full, baseR, baseT_len]; omega
      refine Insert_s st.rel hs.reads (show s.n ≤ 2 ^ 20 by omega) fun h6 r6 e6 => ⟨_, _, rfl, ?_⟩
      have st := st.eR e6 r6
      have hc1 : (1 : Int) ≤ 1 ∧ (baseR i).full = false := ⟨by decide, hf⟩
      have hc2 : ¬ (baseR i).full = true := by simp [hf]
      rw [if_pos hc1] at st
      rw [if_pos hc1, if_pos hc1.1, if_neg hc2]
      intro J2 hJ2
      rw [if_neg (by decide)]
      refine hJ2 _ _ ?_
      rw [if_neg (by simp [baseR])]
      rw [wrap64 (by omega) (by omega)]
      have := ih (i + 1) h6 (by omega) (by rw [← base_ins]; exact st)
      simpa using this
    | zero =>
      intro i h hi st
      have : i = 512 := by omega
      subst this
      refine hX _ _ ?_
      rw [if_neg (by simp)]
      have hf : (baseR 512).full = true := by simp [RelM.full, baseR, baseT_len]
      refine Insert_s st.rel (Reads.nil _ _) (by decide) fun h6 r6 e6 => ⟨_, _, rfl, ?_⟩
      have st := st.eR e6 r6
      have hc5 : ¬ ((1 : Int) ≤ 1 ∧ (baseR 512).full = false) := by simp [hf]
      rw [if_neg hc5] at st
      rw [if_pos (show (1 : Int) ≤ 1 by decide), if_pos hf]
      refine Commit_s st.log (by decide) fun h7 l7 e7 => ⟨_, _, rfl, ?_⟩
      have st := st.eL e7 l7
      refine Begin_s st.log fun h8 l8 e8 => ⟨_, _, rfl, ?_⟩
      have st := st.eL e8 l8
      intro J3 hJ3
      rw [if_neg (by decide), wrap64 (x := n) (by omega) (by omega)]
      have hfd : ((baseR 512).find n).isSome = true := by
        unfold RelM.find
        have := baseT_find (n := 512) (t := n) (by omega)
        show (afind (baseT 512) n).isSome = true
        rw [this]; rfl
      refine Delete_s st.rel fun h9 r9 e9 => ⟨_, rfl, ?_⟩
      have st := st.eR e9 r9
      have hc6 : (1 : Int) ≤ 2 ∧ ((baseR 512).find n).isSome = true := ⟨by decide, hfd⟩
      rw [if_pos hc6] at st
      rw [if_pos hc6.1, if_pos hfd]
      refine hJ3 _ _ ?_
      rw [if_neg (by decide)]
      refine Commit_s st.log (by decide) fun h10 l10 e10 => ⟨_, _, rfl, ?_⟩
      have st : St h0 h10 p r m LM (RD n) := st.eL e10 l10
      have hvac := RD_vac (k := n) (by omega)
      refine Vacuum_s st.log st.rel fun h11 s r11 e11 ho => ⟨s, rfl, ?_⟩
      rw [hvac] at r11 ho
      have st : St h0 h11 p r m LM ((RD n).rem n) := st.eR (e11.mono (by simp)) r11
      have ho1 := ho.sl
      refine Begin_s st.log fun h12 l12 e12 => ⟨_, _, rfl, ?_⟩
      have hs12 := ho1.ext e12 (Other.one st.log.1 (by intro c fz e; simp [T_clog_Log, T_int] at e))
      have st := st.eL e12 l12
      refine one9_s fun h13 s13 hs13 hsn13 e13 => ⟨s13, rfl, ?_⟩
      have st := st.e0 e13
      have hl := RV_len (k := n) (by omega)
      have hnf : ((RD n).rem n).full = false := by
        unfold RelM.full
        rw [hl]
        rfl
      refine Insert_s st.rel hs13.reads (show s13.n ≤ 2 ^ 20 by omega) fun h14 r14 e14 => ⟨_, _, rfl, ?_⟩
      have hs14 := (hs12.ext0 e13).ext e14 (by
        obtain ⟨C, hc, _⟩ := st.rel.mem
        obtain ⟨es, c, k1, _⟩ := hc.map
        refine Other.two k1 (by intro c fz e; cases e) hc.blk ?_
        intro c fz e
        simp [T_heap_Rel, T_int] at e)
      have st := st.eR e14 r14
      have hc3 : (1 : Int) ≤ 3 ∧ ((RD n).rem n).full = false := ⟨by decide, hnf⟩
      have hc4 : ¬ ((RD n).rem n).full = true := by simp [hnf]
      rw [if_pos hc3] at st
      rw [if_pos hc3, if_pos hc3.1, if_neg hc4]
      rw [wrap64 (x := n) (by omega) (by omega)]
      have hfn := RV_find (k := n) (by omega) [⟨2, 1, 0, ByteArray.mk #[]⟩]
      refine Get_s st.rel fun h15 g e15 hg hgl hgn => ⟨_, _, g, _, rfl, ?_⟩
      have st := st.e0 e15
      refine varI rfl rfl fun h16 s16 b16 e16 => ?_
      have st := st.e0 e16
      rw [wthE]
      have e17 := Ext.push [] h16 (Obj.cells #[Value.int .i64 n] T_int)
      have st := st.e0 e17
      refine Ints_s (((hs14.ext0 e15).ext0 e16).ext0 e17) (ints_one h16 n) (by simp) ⟨_, rfl, ?_⟩
      rw [if_pos (by simp), if_pos (by decide), if_pos (by rfl), hfn, if_pos (by decide)]
      refine All_s st.rel fun h18 s18 e18 ho18 => ⟨s18, rfl, ?_⟩
      have hlen : s18.n = 512 := by
        rw [ho18.1]
        unfold sortI
        rw [List.length_mergeSort, List.length_map]
        simp [RelM.ins, hl]
      rw [if_pos (by simp [hlen])]
      refine wakes_s fun h19 e19 => ⟨_, rfl, ?_⟩
      exact hQ _ ((st.ext.trans0 e18).trans0 e19)
  exact key 512 0 h3 (by omega) st
end
end Go.Lift

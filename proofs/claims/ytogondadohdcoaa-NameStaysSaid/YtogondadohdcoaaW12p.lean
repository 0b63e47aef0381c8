/- Names: none; the law that wakes; NameNone. -/
import Derived.Test.YtogondadohdcoaaW12o
set_option linter.unusedSimpArgs false
set_option linter.unusedVariables false
namespace Go.Lift
open Go Go.Proofs Go.RowKit Go.Shelf
set_option maxRecDepth 100000
theorem sortI_one (x : Int) : sortI [x] = [x] := by unfold sortI; exact List.mergeSort_singleton _
theorem sortI_nil : sortI [] = [] := by unfold sortI; exact List.mergeSort_nil
def colA : ColM := ⟨ByteArray.mk #[97], 2, false, 0, 0, 0, sE⟩
def tabT (k : ByteArray) (rel : Int) : TM := ⟨k, [colA], rel⟩
theorem goodV_null : goodV 0 0 0 sE = true := by unfold goodV bareV; simp
theorem oneC_A : oneC colA = true := by
  unfold oneC
  have h1 : nameB colA.name = true := by decide +kernel
  have h2 : goodV colA.dk colA.dn colA.df colA.ds = true := goodV_null
  rw [h1, h2]
  decide
theorem goodR_A : goodR [colA] = true := by
  have h : colI [colA] 0 = true := by
    unfold colI
    simp only [List.getElem?_cons_zero]
    rw [oneC_A, idxP_cons, if_pos (by simp)]
    rfl
  unfold goodR
  show (true && (colI [colA] 0 && true)) = true
  rw [h]
  rfl
theorem may_nil {L : LM} {N : NM} {x : Int} {k : ByteArray} (h : unseenN L N x k = []) : mayN L N x k = (0, 0) := by
  unfold mayN
  rw [h]
  rfl
theorem may_one {L : LM} {N : NM} {x w : Int} {k : ByteArray} (h : unseenN L N x k = [w]) (hw : (txL L w).state = 1) : mayN L N x k = (75, w) := by
  unfold mayN
  rw [h]
  simp [hw]
theorem may_zero {L : LM} {N : NM} {x : Int} {k : ByteArray} (h : (mayN L N x k).1 = 0) : unseenN L N x k = [] := by
  unfold mayN at h
  split at h
  · cases h
  · split at h
    · assumption
    · cases h
theorem unseen_nil {L : LM} {N : NM} {x : Int} {k : ByteArray} : unseenN L N x k = [] ↔ ∀ v ∈ vsN N k, whoP L x v.xmin = false ∧ whoP L x v.xmax = false := by
  have hm : unseenN L N x k = [] ↔ ∀ y, y ∉ metsV L x (vsN N k) := by
    unfold unseenN sortI
    rw [List.eq_nil_iff_forall_not_mem]
    simp only [List.mem_mergeSort]
  rw [hm]
  simp only [mem_metsV, not_and, Bool.not_eq_true]
  constructor
  · intro h v hv
    exact ⟨h v.xmin ⟨v, hv, Or.inl rfl⟩, h v.xmax ⟨v, hv, Or.inr rfl⟩⟩
  · rintro h y ⟨v, hv, rfl | rfl⟩
    · exact (h v hv).1
    · exact (h v hv).2
theorem putE_tab {L : LM} {N : NM} {x rel : Int} {k : ByteArray} (h1 : (txL L x).state = 1) (h2 : nameB k = true) (h3 : 1 ≤ rel ∧ rel ≤ 100) (h4 : unseenN L N x k = []) :
    putE L N x (tabT k rel) = if atN L N x k < 0 ∧ othersN L N x k ≥ 6 then 3 else 0 := by
  unfold putE
  rw [if_neg]
  · have hm : (mayN L N x (tabT k rel).name).1 = 0 := by show (mayN L N x k).1 = 0; rw [may_nil h4]
    rw [if_neg (by simp [hm])]
    rfl
  · rintro (q | q | q | q | q)
    · exact q h1
    · rw [show nameB (tabT k rel).name = true from h2] at q; cases q
    · rw [show goodR (tabT k rel).cl = true from goodR_A] at q; cases q
    · have : rel < 1 := q; omega
    · have : rel > 100 := q; omega
section
variable {G G' : Nat → Prop} {h h' h'' : Hp} {cb t : Nat} {L : LM} {N : NM} {Q : List Value → Hp → Prop}
theorem tab_s (k : ByteArray) (rel : Int) (hQ : ∀ h' s, Ext [] h h' → SlOf T_api_Column 7 encC h' s [colA] → (∀ b ∈ sBlk s, h.size ≤ b ∧ b < h'.size) → Q [.agg #[.string k, .slice s.a s.n s.c, .int .i64 rel]] h') : S_liverylaw12_tab k rel h Q := by
  refine O_liverylaw12_tab _ _ ?_
  unfold F_liverylaw12_tab
  refine newI fun h1 s1 b1 e1 => newI fun h2 s2 b2 e2 => ?_
  refine st_blk (e2.get b1 (by simp)) (by simp) fun h3 s3 b3 e3 => ?_
  refine ⟨k, by simp [rd_blk b3], ⟨some ⟨h1.size, 0, none⟩, 1, 1⟩, by simp [rd_blk b3], rel, by simp [rd_blk b3], ?_⟩
  have b23 := e3.get b2 (by simp; omega)
  refine hQ h3 ⟨some ⟨h1.size, 0, none⟩, 1, 1⟩ ((e1.trans0 e2).trans e3 fun b hb hlt => by simp at hb; omega) ⟨rfl, (fun hn => by cases hn), fun a ha => ?_⟩ fun b hb => ?_
  · cases ha
    exact ⟨h1.size, 0, _, _, rfl, b23, by simp, rfl⟩
  · simp [sBlk] at hb
    omega
theorem PutTab_s (hS : NvS G h cb t L N) {M : Nat} (hok : NOk M N) (hM : M < 2 ^ 20) (x : Int) (k : ByteArray) (rel : Int)
    (hQ : ∀ h', NvS G h' cb t L (putN L N x (tabT k rel)) → KG G h h' → Q [.int .i64 (putE L N x (tabT k rel))] h') :
    S_liverylaw12_tab k rel h fun vs22 h23 => ∃ s24 : ByteArray, ∃ l25 : Sl, ∃ n26 : Int, vs22 = [(Value.agg #[(Value.string s24), (Value.slice l25.a l25.n l25.c), (Value.int .i64 n26)])] ∧
                    S_name_Names_Put (some ⟨t, 0, none⟩) (some ⟨cb, 0, none⟩) x s24 ⟨l25.a, l25.n, l25.c⟩ n26 h23 Q := by
  refine tab_s k rel fun h1 s e1 hc hb => ⟨k, s, rel, rfl, ?_⟩
  refine Put_s (hS.more e1) hok hM x ⟨k, s, [colA], rel⟩ hc.reads (fun _ b hb' => Or.inr (hb b hb')) fun h2 hS2 k2 => ?_
  exact hQ h2 (hS2.anti gx_l) ((kg_ext0 e1 hS.lt).trans (k2.anti gx_l))
theorem See_v (hS : NvS G h cb t L N) {M : Nat} (hok : NOk M N) (hM : M ≤ 2 ^ 20) (x : Int) (k : ByteArray)
    (hN0 : seeN L N x k = none → ∀ h', Ext [] h h' → Q [.agg #[.string sE, .slice none 0 0, .int .i64 0], .bool false] h')
    (hS1 : ∀ v, seeN L N x k = some v → ∀ h' s', Own T_api_Column 7 encC h.size h' s' v.t.cl → Ext [] h h' → Q [.agg #[.string v.t.name, .slice s'.a s'.n s'.c, .int .i64 v.t.rel], .bool true] h') : S_name_Names_See (some ⟨t, 0, none⟩) (some ⟨cb, 0, none⟩) x k h Q := by
  obtain ⟨h1, h2, ⟨mb, C, a1, rfl, a3⟩, h4⟩ := hS
  exact See_s h2 a1 x k (by have := lC_le hok k; omega) hN0 hS1
theorem Unseen_v (hS : NvS G h cb t L N) {M : Nat} (hok : NOk M N) (hM : M ≤ 2 ^ 20) (x : Int) (k : ByteArray)
    (hQ : ∀ h' s, Ext [] h h' → Own T_int 1 encIL h.size h' s (unseenN L N x k) → Q [.slice s.a s.n s.c] h') : S_name_Names_Unseen (some ⟨t, 0, none⟩) (some ⟨cb, 0, none⟩) x k h Q := by
  obtain ⟨h1, h2, ⟨mb, C, a1, rfl, a3⟩, h4⟩ := hS
  exact Unseen_s h2 a1 x k (by have := lC_le hok k; omega) hQ
/-- Are two lists alike? -/
theorem Ints_s {a b : Sl} {xs ys : List Int} (ha : Reads 1 encIL h a xs) (hb : Reads 1 encIL h b ys) (hl : xs.length ≤ 2 ^ 40) (hQ : Q [.bool (decide (xs = ys))] h) : S_liverykeep_Ints a b h Q := by
  refine O_liverykeep_Ints _ _ ?_
  unfold F_liverykeep_Ints
  have ha1 := ha.1
  have hb1 := hb.1
  by_cases hn : xs.length = ys.length
  · rw [if_neg (by simp; omega)]
    intro X hX
    have key : ∀ d i, d + i = xs.length → xs.take i = ys.take i → X [.int .i64 (i : Int)] h := by
      intro d
      induction d with
      | zero =>
        intro i hi ht
        refine hX _ _ ?_
        rw [if_neg (by simp; omega)]
        rw [List.take_of_length_le (by omega), List.take_of_length_le (by omega)] at ht
        simpa [ht] using hQ
      | succ d ih =>
        intro i hi ht
        refine hX _ _ ?_
        rw [if_pos (by simp; omega)]
        obtain ⟨a1, u1, u2⟩ := ha.rd encIL_len (i := i) (by omega)
        obtain ⟨b1, v1, v2⟩ := hb.rd encIL_len (i := i) (by omega)
        have u2 := u2 0 (by omega)
        have v2 := v2 0 (by omega)
        rw [u1, v1]
        simp only [nilW_some, Int.toNat_natCast]
        refine ⟨by omega, by omega, _, by simpa using u2, by omega, by omega, _, by simpa using v2, ?_⟩
        have hx : xs.take (i + 1) = xs.take i ++ [xs[i]'(by omega)] := by rw [List.take_add_one, List.getElem?_eq_getElem (by omega)]; rfl
        have hy : ys.take (i + 1) = ys.take i ++ [ys[i]'(by omega)] := by rw [List.take_add_one, List.getElem?_eq_getElem (by omega)]; rfl
        by_cases he : xs[i]'(by omega) = ys[i]'(by omega)
        · rw [if_neg (by simpa using he), wrap64 (by omega) (by omega)]
          have := ih (i + 1) (by omega) (by rw [hx, hy, ht, he])
          simpa using this
        · rw [if_pos (by simpa using he)]
          have hne : xs ≠ ys := fun e => he (by subst e; rfl)
          simpa [hne] using hQ
    have := key xs.length 0 (by omega) (by simp)
    simpa using this
  · rw [if_pos (by simp; omega)]
    have hne : xs ≠ ys := fun e => hn (by rw [e])
    simpa [hne] using hQ
theorem reads_lit {h : Hp} {b n : Nat} {xs : List Int} {cs : Array Value} {T : TypeId} (hb : Blk h b cs T) (hc : cs.toList = xs.flatMap encIL) (hl : xs.length = n) : Reads 1 encIL h ⟨some ⟨b, 0, none⟩, n, n⟩ xs := by
  refine ⟨hl.symm, fun e => (by cases e), ?_⟩
  have hfl : (xs.flatMap encIL).length = xs.length := by rw [flatMap_length encIL_len]; omega
  have := cellsAt_blk hb (o := 0) (n := n * 1) (by have := congrArg List.length hc; rw [hfl, Array.length_toList] at this; omega)
  rw [List.drop_zero, List.take_of_length_le (by rw [hc, hfl]; omega), hc] at this
  exact this
theorem SeeN_s {p : Option Addr} {x : Int} {k : ByteArray} (hQ : ∀ h', Ext [] h h' → Q [.agg #[.string sE, .slice none 0 0, .int .i64 0], .bool false] h') : S_name_Names_See none p x k h Q := by
  refine O_name_Names_See _ _ _ _ ?_
  unfold F_name_Names_See
  refine newI fun h1 s1 b1 e1 => ?_
  refine O_name_Names_at _ _ _ _ ?_
  unfold F_name_Names_at
  rw [if_pos (by rfl)]
  refine ⟨_, rfl, ?_⟩
  rw [if_pos (by decide)]
  refine st_blk b1 (by simp) fun h3 s3 b3 e3 => ?_
  refine ⟨sE, by simp [rd_blk b3], ⟨none, 0, 0⟩, by simp [rd_blk b3], 0, by simp [rd_blk b3], ?_⟩
  exact hQ h3 (e1.trans e3 fun b hb hlt => by simp at hb; omega)
theorem UnseenN_s {p : Option Addr} {x : Int} {k : ByteArray} (hQ : Q [.slice none 0 0] h) : S_name_Names_Unseen none p x k h Q := by
  refine O_name_Names_Unseen _ _ _ _ ?_
  unfold F_name_Names_Unseen
  rw [if_pos (by rfl)]
  exact hQ
theorem MayN_s {p : Option Addr} {x : Int} {k : ByteArray} (hQ : ∀ h', Ext [] h h' → Q [.int .i64 1, .int .i64 0] h') : S_name_Names_May none p x k h Q := by
  refine O_name_Names_May _ _ _ _ ?_
  unfold F_name_Names_May
  refine newI fun h1 s1 b1 e1 => ?_
  rw [if_pos (by rfl)]
  exact hQ h1 e1
theorem PutN_s {p : Option Addr} {x : Int} {k : ByteArray} {s : Sl} {r : Int} (hQ : ∀ h', Ext [] h h' → Q [.int .i64 1] h') : S_name_Names_Put none p x k s r h Q := by
  refine O_name_Names_Put _ _ _ _ _ _ ?_
  unfold F_name_Names_Put
  refine newI fun h1 s1 b1 e1 => ?_
  intro J hJ
  rw [if_pos (by rfl)]
  refine hJ _ _ ?_
  rw [if_pos rfl]
  exact hQ h1 e1
theorem DropN_s {p : Option Addr} {x : Int} {k : ByteArray} (hQ : Q [.int .i64 1] h) : S_name_Names_Drop none p x k h Q := by
  refine O_name_Names_Drop _ _ _ _ ?_
  unfold F_name_Names_Drop
  intro J hJ
  rw [if_pos (by rfl)]
  refine hJ _ _ ?_
  rw [if_pos rfl]
  exact hQ
theorem AllN_s {p : Option Addr} {x : Int} (hQ : Q [.slice none 0 0] h) : S_name_Names_All none p x h Q := by
  refine O_name_Names_All _ _ _ ?_
  unfold F_name_Names_All
  rw [if_pos (by rfl)]
  exact hQ
abbrev sT : ByteArray := ByteArray.mk #[116]
abbrev sU : ByteArray := ByteArray.mk #[117]
def wL2 : LM := ⟨[⟨1, 0, 0, false⟩, ⟨1, 0, 0, false⟩], 0⟩
theorem wL2_eq : beginL (beginL ⟨[], 0⟩ false) false = wL2 := by kernel_rfl
def wN : NM := [(sT, [⟨1, 0, tabT sT 3⟩])]
theorem nok_nil : NOk 0 [] := ⟨by simp, by simp, fun k => by simp [vsN, afind], fun k v hv => by simp [vsN, afind] at hv⟩
theorem nameT : nameB sT = true := by decide +kernel
theorem nameU : nameB sU = true := by decide +kernel
theorem wPutE : putE wL2 [] 1 (tabT sT 3) = 0 := by
  rw [putE_tab (by kernel_rfl) nameT (by omega) (by rw [unseen_nil]; intro v hv; simp [vsN, afind] at hv)]
  rw [if_neg]
  rintro ⟨_, h⟩
  simp [othersN] at h
theorem wPutN : putN wL2 [] 1 (tabT sT 3) = wN := by
  unfold putN
  rw [if_pos wPutE]
  rfl
theorem vs_wN : vsN wN sT = [⟨1, 0, tabT sT 3⟩] := by unfold vsN wN afind; rw [if_pos rfl]; rfl
theorem wUn : unseenN wL2 wN 2 sT = [1] := by
  unfold unseenN
  rw [vs_wN]
  have k : metsV wL2 2 [⟨1, 0, tabT sT 3⟩] = [1] := by kernel_rfl
  rw [k, sortI_one]
theorem wMay : mayN wL2 wN 2 sT = (75, 1) := may_one wUn (by kernel_rfl)
theorem wSee2 : seeN wL2 wN 2 sT = none := by
  unfold seeN
  rw [vs_wN]
  kernel_rfl
theorem wSee1 : seeN wL2 wN 1 sT = some ⟨1, 0, tabT sT 3⟩ := by
  unfold seeN
  rw [vs_wN]
  kernel_rfl
theorem wAll : (allN wL2 wN 1).length = 1 := by
  unfold allN
  have h : (wN.map Prod.fst).filter (fun k => (seeN wL2 wN 1 k).isSome) = [sT] := by
    show [sT].filter _ = _
    rw [List.filter_cons, wSee1]
    rfl
  rw [h]
  have : sortC cmpS [sT] = [sT] := List.mergeSort_singleton _
  rw [this, List.filterMap_cons, wSee1]
  rfl
theorem wakes12_s (hQ : ∀ h', Ext [] h h' → Q [.bool true] h') : S_liverylaw12_wakes h Q := by
  refine O_liverylaw12_wakes ?_
  unfold F_liverylaw12_wakes
  refine New08_s fun h1 cb hC1 e1 hcb => ⟨_, rfl, ?_⟩
  have hG1 : ∀ b, b < h.size → b < h1.size := fun b hb => by have := e1.sz; omega
  refine New12_s (G := fun b => b < h.size) hG1 hC1 (by omega) fun h2 t hE2 e2 => ⟨_, rfl, ?_⟩
  have k2 := kg_ext0 (G := fun b => b < h.size) (e1.trans0 e2) fun b hb => hb
  have kgx : ∀ g, KG (fun b => b < h.size) h g → Ext [] h g := fun g hk => ⟨hk.sz, fun b hb _ => hk.old b hb⟩
  intro J hJ
  rw [if_neg (by simp)]
  refine hJ _ _ ?_
  rw [if_neg (by simp)]
  refine Begin_s hE2.cl false fun h3 hC3 e3 _ => ⟨_, _, rfl, ?_⟩
  obtain ⟨hE3, k3⟩ := hE2.log hC3 e3
  refine Begin_s hE3.cl false fun h4 hC4 e4 _ => ⟨_, _, rfl, ?_⟩
  obtain ⟨hE4, k4⟩ := hE3.log hC4 e4
  rw [wL2_eq] at hE4
  refine PutTab_s hE4 nok_nil (by omega) 1 sT 3 fun h5 hE5 k5 => ⟨_, rfl, ?_⟩
  rw [wPutE, if_neg (by decide)]
  rw [wPutN] at hE5
  have hok : NOk 1 wN := by have := nok_nil.put wL2 1 (tabT sT 3); rwa [wPutN] at this
  refine May_v hE5 hok (by omega) 2 sT fun h6 e6 => ⟨_, _, rfl, ?_⟩
  have hE6 := hE5.ext0 e6
  rw [wMay]
  refine See_v hE6 hok (by omega) 2 sT (fun _ h7 e7 => ⟨sE, ⟨none, 0, 0⟩, 0, false, rfl, ?_⟩) (fun v hv => by rw [wSee2] at hv; cases hv)
  refine newI fun h8 s8 b8 e8 => ?_
  refine st_blk b8 (by simp) fun h9 s9 b9 e9 => ?_
  have e79 : Ext [] h7 h9 := e8.trans e9 fun b hb hlt => by simp at hb; omega
  have hE9 := (hE6.ext0 e7).ext0 e79
  refine See_v hE9 hok (by omega) 1 sT (fun hn => by rw [wSee1] at hn; cases hn) (fun v hv h10 s' o10 e10 => ⟨v.t.name, s', v.t.rel, true, rfl, ?_⟩)
  rw [wSee1] at hv
  cases hv
  refine newI fun h11 s11 b11 e11 => ?_
  refine st_blk b11 (by simp) fun h12 s12 b12 e12 => ?_
  have e1012 : Ext [] h10 h12 := e11.trans e12 fun b hb hlt => by simp at hb; omega
  have hE12 := (hE9.ext0 e10).ext0 e1012
  rw [if_pos (by decide), if_pos (by decide), if_pos (by decide), if_pos rfl]
  refine ⟨3, by rw [addr_mk, rd_blk b12]; rfl, ?_⟩
  rw [if_pos (by decide)]
  refine Unseen_v hE12 hok (by omega) 2 sT fun h13 s13 e13 o13 => ⟨s13, rfl, ?_⟩
  rw [wUn] at o13
  refine newI fun h14 s14 b14 e14 => ?_
  refine Ints_s (xs := [1]) (ys := [1]) (o13.ext0 e14).sl.reads (reads_lit b14 rfl rfl) (by simp) ⟨_, rfl, ?_⟩
  rw [if_pos (by decide)]
  have hE14 := (hE12.ext0 e13).ext0 e14
  refine All_s hE14 hok (by omega) 1 fun h15 s15 ts e15 o15 _ hts => ⟨s15, rfl, ?_⟩
  have hn : s15.n = 1 := by rw [o15.1, ← List.length_map (f := TW.m), hts, wAll]
  rw [hn]
  have kk : KG (fun b => b < h.size) h h5 := ((k2.trans k3).trans k4).trans k5
  exact hQ h15 ((((((((kgx _ kk).trans0 e6).trans0 e7).trans0 e79).trans0 e10).trans0 e1012).trans0 e13).trans0 e14 |>.trans0 e15)
theorem NameNone_s (x : Int) (s : ByteArray) (hQ : ∀ h', Ext [] h h' → Q [.bool true] h') : F_liverylaw12_NameNone x s h Q := by
  unfold F_liverylaw12_NameNone
  split
  · exact wakes12_s fun h1 e1 => ⟨_, rfl, hQ h1 e1⟩
  · refine New08_s fun h1 cb hC1 e1 hcb => ⟨_, rfl, ?_⟩
    refine SeeN_s fun h2 e2 => ⟨sE, ⟨none, 0, 0⟩, 0, false, rfl, ?_⟩
    refine newI fun h3 s3 b3 e3 => ?_
    refine st_blk b3 (by simp) fun h4 s4 b4 e4 => ?_
    have e14 : Ext [] h1 h4 := (e2.trans0 e3).trans e4 fun b hb hlt => by have := e2.sz; simp at hb; omega
    refine MayN_s fun h5 e5 => ⟨_, _, rfl, ?_⟩
    rw [if_pos (by decide), if_pos (by decide), if_pos (by decide)]
    refine UnseenN_s ⟨⟨none, 0, 0⟩, rfl, ?_⟩
    rw [if_pos (by decide)]
    refine tab_s sT 1 fun h6 s' e6 _ _ => ⟨sT, s', 1, rfl, ?_⟩
    refine PutN_s fun h7 e7 => ⟨_, rfl, ?_⟩
    rw [if_pos (by decide)]
    refine DropN_s ⟨_, rfl, ?_⟩
    rw [if_pos (by decide)]
    refine AllN_s ⟨⟨none, 0, 0⟩, rfl, ?_⟩
    rw [if_pos (by decide)]
    exact wakes12_s fun h8 e8 => ⟨_, rfl, hQ h8 (((((e1.trans0 e14).trans0 e5).trans0 e6).trans0 e7).trans0 e8)⟩
end
end Go.Lift

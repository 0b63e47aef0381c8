/- Steps of the laws; NameOne. -/
import Derived.Test.YtogondadohdcoaaW12p
set_option linter.unusedSimpArgs false
set_option linter.unusedVariables false
namespace Go.Lift
open Go Go.Proofs Go.RowKit Go.Shelf
set_option maxRecDepth 100000
structure StN where
  kind : Int
  xid : Int
  t : TW
abbrev encSt (x : StN) : List Value := [.int .i64 x.kind, .int .i64 x.xid, .string x.t.name, .slice x.t.s.a x.t.s.n x.t.s.c, .int .i64 x.t.rel]
theorem encSt_len (x : StN) : (encSt x).length = 5 := rfl
def okL (i : Nat) (L : LM) : Prop := L.l.length ≤ i ∧ L.clock ≤ (i : Int)
theorem okL.mono {i j : Nat} {L : LM} (h : okL i L) (hij : i ≤ j) : okL j L := ⟨by have := h.1; omega, by have := h.2; omega⟩
theorem okL.begin {i : Nat} {L : LM} (h : okL i L) (r : Bool) : okL (i + 1) (beginL L r) := by
  unfold beginL
  split
  · exact h.mono (by omega)
  · exact ⟨by have := h.1; simp; omega, by have := h.2; simp only; omega⟩
theorem okL.commit {i : Nat} {L : LM} (h : okL i L) (x : Int) : okL (i + 1) (commitL L x) := by
  unfold commitL
  split
  · exact ⟨by have := h.1; simp only [setL_len]; omega, by have := h.2; simp only; omega⟩
  · exact h.mono (by omega)
theorem okL.abort {i : Nat} {L : LM} (h : okL i L) (x : Int) : okL (i + 1) (abortL L x) := by
  unfold abortL
  split
  · exact ⟨by have := h.1; rw [setL_len]; omega, by have := h.2; show L.clock ≤ _; omega⟩
  · exact h.mono (by omega)
section
variable {G G' : Nat → Prop} {h h' h'' : Hp} {cb t : Nat} {L : LM} {N : NM} {Q : List Value → Hp → Prop}
theorem rdS5 {s : Sl} {xs : List StN} (hs : Reads 5 encSt h s xs) {i : Nat} (hi : i < xs.length) : ∃ a, s.a = some a ∧ ∀ (K : Int → Int → ByteArray → Sl → Int → Prop), K xs[i].kind xs[i].xid xs[i].t.name xs[i].t.s xs[i].t.rel →
    ∃ n1 : Int, rd h (Addr.add (Addr.add a (i * 5)) 0) = some (Value.int .i64 n1) ∧ ∃ n2 : Int, rd h (Addr.add (Addr.add a (i * 5)) 1) = some (Value.int .i64 n2) ∧ ∃ s3 : ByteArray, rd h (Addr.add (Addr.add a (i * 5)) 2) = some (Value.string s3) ∧ ∃ l4 : Sl, rd h (Addr.add (Addr.add a (i * 5)) 3) = some (Value.slice l4.a l4.n l4.c) ∧ ∃ n5 : Int, rd h (Addr.add (Addr.add a (i * 5)) 4) = some (Value.int .i64 n5) ∧ K n1 n2 s3 l4 n5 := by
  obtain ⟨a, h1, h2⟩ := hs.rd encSt_len hi
  refine ⟨a, h1, fun K H => ?_⟩
  have r : ∀ k, k < 5 → rd h (Addr.add (Addr.add a (i * 5)) k) = (encSt xs[i])[k]? := fun k hk => by rw [addr_add_add]; exact h2 k hk
  exact ⟨_, r 0 (by omega), _, r 1 (by omega), _, r 2 (by omega), _, r 3 (by omega), _, r 4 (by omega), H⟩
theorem LargeV_s (k n : Int) (f : Nat) (s : ByteArray) (hQ : ∀ h' b, Ext [] h h' → Q [.bool b] h') : S_liverykeep_LargeValue k n f s h Q := by
  refine O_liverykeep_LargeValue _ _ _ _ ?_
  unfold F_liverykeep_LargeValue
  exact newI fun h1 s1 b1 e1 => ⟨s, by simp [rd_blk b1], hQ h1 _ e1⟩
theorem LargeC_s {s : Sl} {xs : List ColM} (hs : Reads 7 encC h s xs) (hQ : ∀ h' b, Ext [] h h' → Q [.bool b] h') : S_liverykeep_LargeColumns s h Q := by
  refine O_liverykeep_LargeColumns _ ?_
  unfold F_liverykeep_LargeColumns
  have hn := hs.1
  split
  · exact hQ h _ (Ext.refl _ _)
  · rename_i hn50
    have h50 : xs.length ≤ 50 := by simp at hn50; omega
    intro X hX
    have key : ∀ d i g, d + i = xs.length → Ext [] h g → X [.int .i64 (i : Int)] g := by
      intro d
      induction d with
      | zero =>
        intro i g hi eg
        refine hX _ _ ?_
        rw [if_neg (by simp; omega)]
        exact hQ g _ eg
      | succ d ih =>
        intro i g hi eg
        refine hX _ _ ?_
        rw [if_pos (by simp; omega)]
        intro J hJ
        have kJ : ∀ b g2, Ext [] h g2 → J [.bool b] g2 := by
          intro b g2 e2
          refine hJ _ _ ?_
          split
          · exact hQ g2 _ e2
          · rw [wrap64 (by omega) (by omega)]
            have := ih (i + 1) g2 (by omega) e2
            simpa using this
        obtain ⟨a, u1, u2⟩ := (hs.ext0 eg).rd encC_len (i := i) (by omega)
        rw [u1]
        simp only [nilW_some, Int.toNat_natCast]
        refine ⟨by omega, by omega, _, by rw [addr_add_add]; exact u2 0 (by omega), ?_⟩
        split
        · exact kJ _ g eg
        · refine ⟨by omega, by omega, _, by rw [addr_add_add, addr_add_add]; exact u2 3 (by omega), _, by rw [addr_add_add, addr_add_add]; exact u2 4 (by omega), _, by rw [addr_add_add, addr_add_add]; exact u2 5 (by omega), _, by rw [addr_add_add, addr_add_add]; exact u2 6 (by omega), LargeV_s _ _ _ _ fun g2 b e2 => ⟨_, rfl, kJ _ g2 (eg.trans0 e2)⟩⟩
    exact key xs.length 0 h (by omega) (Ext.refl _ _)
theorem Fair_s {s : Sl} {xs : List StN} (hs : Reads 5 encSt h s xs) (hc : ∀ x ∈ xs, Reads 7 encC h x.t.s x.t.cl) (hl : xs.length ≤ 9223372036854775807) (hQ : ∀ h' b, Ext [] h h' → (b = true → xs.length ≤ 120) → Q [.bool b] h') : S_liverylaw12_Fair s h Q := by
  refine O_liverylaw12_Fair _ ?_
  unfold F_liverylaw12_Fair
  have hn := hs.1
  intro X hX
  have key : ∀ d i g, d + i = xs.length → Ext [] h g → X [.int .i64 (i : Int)] g := by
    intro d
    induction d with
    | zero =>
      intro i g hi eg
      refine hX _ _ ?_
      rw [if_neg (by simp; omega)]
      exact hQ g _ eg fun hb => by simp at hb; omega
    | succ d ih =>
      intro i g hi eg
      refine hX _ _ ?_
      rw [if_pos (by simp; omega)]
      intro J hJ
      have kJ : ∀ b g2, Ext [] h g2 → J [.bool b] g2 := by
        intro b g2 e2
        refine hJ _ _ ?_
        split
        · exact hQ g2 _ e2 fun hb => by cases hb
        · rw [wrap64 (by omega) (by omega)]
          have := ih (i + 1) g2 (by omega) e2
          simpa using this
      obtain ⟨a, u1, u2⟩ := (hs.ext0 eg).rd encSt_len (i := i) (by omega)
      rw [u1]
      simp only [nilW_some, Int.toNat_natCast]
      refine ⟨by omega, by omega, _, by rw [addr_add_add, addr_add_add]; exact u2 2 (by omega), ?_⟩
      split
      · exact kJ _ g eg
      · refine ⟨by omega, by omega, xs[i].t.s, by rw [addr_add_add, addr_add_add]; exact u2 3 (by omega), ?_⟩
        exact LargeC_s ((hc _ (List.getElem_mem _)).ext0 eg) fun g2 b e2 => ⟨_, rfl, kJ _ g2 (eg.trans0 e2)⟩
  exact key xs.length 0 h (by omega) (Ext.refl _ _)
/-- What NameOne keeps. -/
structure OneI (i : Nat) (L : LM) (N : NM) (last : Int) : Prop where
  okl : okL i L
  nok : NOk i N
  keys : ∀ k ∈ N.map Prod.fst, k = sT
  last : last = 0 ∨ ∃ v ∈ vsN N sT, v.xmin = last
theorem putE_may {x : Int} {u : TM} (h : putE L N x u = 0) : unseenN L N x u.name = [] := by
  unfold putE at h
  split at h
  · cases h
  · split at h
    · contradiction
    · rename_i h1
      exact may_zero (by simpa using h1)
theorem unseen_sees {x y : Int} {k : ByteArray} (h : unseenN L N x k = []) {v : VM} (hv : v ∈ vsN N k) (hy : y = v.xmin) (h0 : y ≠ 0) (h3 : (txL L y).state ≠ 3) : seesL L x y = true := by
  have := (unseen_nil.1 h v hv).1
  rw [← hy] at this
  unfold whoP at this
  simpa [h0, h3] using this
theorem OneI.put {i : Nat} {last x : Int} (hI : OneI i L N last) {rel : Int} (hE : putE L N x (tabT sT rel) = 0) : OneI (i + 1) L (putN L N x (tabT sT rel)) x := by
  refine ⟨hI.okl.mono (by omega), hI.nok.put L x _, ?_, Or.inr ?_⟩
  · unfold putN
    rw [if_pos hE]
    unfold addN
    intro k hk
    have hsub : ∀ (M : NM), (∀ k ∈ M.map Prod.fst, k = sT) → ∀ l, ∀ k ∈ (aput M sT l).map Prod.fst, k = sT := by
      intro M hM l k hk
      rw [keys_aput] at hk
      split at hk
      · exact hM k hk
      · rcases List.mem_append.1 hk with hk | hk
        · exact hM k hk
        · simpa using hk
    refine hsub _ ?_ _ k hk
    split
    · exact hI.keys
    · exact hsub N hI.keys _
  · unfold putN
    rw [if_pos hE]
    unfold addN
    rw [show (tabT sT rel).name = sT from rfl, vsN_aput, if_pos rfl]
    exact ⟨_, List.mem_append_right _ (List.mem_singleton.2 rfl), rfl⟩
theorem all_one {i : Nat} {last : Int} (hI : OneI i L N last) (x : Int) : (allN L N x).length ≤ 1 ∧ ∀ u ∈ allN L N x, u.name = sT := by
  constructor
  · unfold allN
    have h1 : (N.map Prod.fst).length ≤ 1 := by
      have hn := hI.nok.nd
      have hk := hI.keys
      generalize N.map Prod.fst = ks at hn hk
      match ks, hn, hk with
      | [], _, _ => simp
      | [a], _, _ => simp
      | a :: b :: ks, hn, hk =>
        have e1 := hk a (by simp)
        have e2 := hk b (by simp)
        rw [List.nodup_cons] at hn
        exact absurd (by simp [e1, e2]) hn.1
    have h2 := List.length_filterMap_le (fun k => (seeN L N x k).map VM.t) (sortC cmpS ((N.map Prod.fst).filter fun k => (seeN L N x k).isSome))
    rw [sortC_len] at h2
    have h3 := List.length_filter_le (fun k => (seeN L N x k).isSome) (N.map Prod.fst)
    omega
  · intro u hu
    unfold allN at hu
    obtain ⟨k, hk, he⟩ := List.mem_filterMap.1 hu
    rw [sortC_mem] at hk
    have hk2 := hI.keys k (List.mem_filter.1 hk).1
    cases hs : seeN L N x k with
    | none => rw [hs] at he; cases he
    | some v =>
      rw [hs] at he
      simp only [Option.map_some, Option.some.injEq] at he
      rw [← he, seeN_name hI.nok hs, hk2]
theorem NameOne_s {s : Sl} {xs : List StN} (hs : Reads 5 encSt h s xs) (hc : ∀ x ∈ xs, Reads 7 encC h x.t.s x.t.cl) (hl : xs.length ≤ 9223372036854775807) (hQ : ∀ h', Ext [] h h' → Q [.bool true] h') : F_liverylaw12_NameOne s h Q := by
  unfold F_liverylaw12_NameOne
  have hn := hs.1
  refine New08_s fun h1 cb hC1 e1 hcb => ⟨_, rfl, ?_⟩
  have hG1 : ∀ b, b < h.size → b < h1.size := fun b hb => by have := e1.sz; omega
  refine New12_s (G := fun b => b < h.size) hG1 hC1 (by omega) fun h2 t hE2 e2 => ⟨_, rfl, ?_⟩
  have e12 := e1.trans0 e2
  have k2 := kg_ext0 (G := fun b => b < h.size) e12 fun b hb => hb
  have kgx : ∀ g, KG (fun b => b < h.size) h g → Ext [] h g := fun g hk => ⟨hk.sz, fun b hb _ => hk.old b hb⟩
  intro J hJ
  rw [if_neg (by simp), if_neg (by simp)]
  refine Fair_s (hs.ext0 e12) (fun x hx => (hc x hx).ext0 e12) hl fun h3 b e3 hb => ⟨_, rfl, ?_⟩
  refine hJ _ _ ?_
  have hE3 := hE2.ext0 e3
  have k3 := k2.trans (kg_ext0 e3 hE2.lt)
  cases b with
  | false =>
    rw [if_pos (by rfl)]
    intro J2 hJ2
    rw [if_pos (by rfl), if_pos (by rfl)]
    refine wakes12_s fun h4 e4 => ⟨_, rfl, ?_⟩
    exact hJ2 _ _ (hQ h4 ((kgx _ k3).trans0 e4))
  | true =>
    rw [if_neg (by decide)]
    have h120 := hb rfl
    intro X hX
    have key : ∀ d i g L N last, d + i = xs.length → NvS (fun b => b < h.size) g cb t L N → KG (fun b => b < h.size) h g → OneI i L N last → X [.int .i64 last, .int .i64 (i : Int)] g := by
      intro d
      induction d with
      | zero =>
        intro i g L N last hi hS kg hI
        refine hX _ _ _ ?_
        rw [if_neg (by simp; omega)]
        exact wakes12_s fun h4 e4 => ⟨_, rfl, hQ h4 ((kgx _ kg).trans0 e4)⟩
      | succ d ih =>
        intro i g L N last hi hS kg hI
        refine hX _ _ _ ?_
        rw [if_pos (by simp; omega)]
        obtain ⟨a, u1, u2⟩ := rdS5 (hs.ext0 (kgx _ kg)) (i := i) (by omega)
        rw [u1]
        simp only [nilW_some, Int.toNat_natCast]
        refine ⟨by omega, by omega, u2 _ ?_⟩
        generalize xs[i]'(by omega) = v
        refine newI fun g1 s1 b1 e1 => ?_
        refine st_blk b1 (by simp) fun g2 s2 b2 e2 => ?_
        have eg2 : Ext [] g g2 := e1.trans e2 fun b hb hlt => by simp at hb; omega
        have hS2 := hS.more eg2
        have kg2 : KG (fun b => b < h.size) h g2 := kg.trans (kg_ext0 eg2 hS.lt)
        have b2' : Blk g2 g.size (encSt v).toArray T_liverylaw12_Step := b2
        have hcell : GX (fun b => b < h.size) g g2 g.size := Or.inr ⟨by omega, by omega⟩
        refine ⟨v.kind, by simp [rd_blk b2'], ?_⟩
        intro J29 hJ29
        have key29 : ∀ g3 L3 N3 last3, NvS (GX (fun b => b < h.size) g g2) g3 cb t L3 N3 → KG (GX (fun b => b < h.size) g g2) g2 g3 → OneI (i + 1) L3 N3 last3 → J29 [.int .i64 last3] g3 := by
          intro g3 L3 N3 last3 hS3 k23 hI3
          refine hJ29 _ _ ?_
          intro X32 hX32
          have key32 : ∀ (d2 j : Nat) g4, d2 + j = 8 → NvS (GX (fun b => b < h.size) g g2) g4 cb t L3 N3 → KG (GX (fun b => b < h.size) g g2) g2 g4 → X32 [.int .i64 (j : Int)] g4 := by
            intro d2
            induction d2 with
            | zero =>
              intro j g4 hj hS4 k24
              refine hX32 _ _ ?_
              rw [if_neg (by simp; omega), wrap64 (by omega) (by omega)]
              have := ih (i + 1) g4 L3 N3 last3 (by omega) (hS4.anti gx_l) (kg2.trans (k24.anti gx_l)) hI3
              simpa using this
            | succ d2 ih2 =>
              intro j g4 hj hS4 k24
              refine hX32 _ _ ?_
              rw [if_pos (by simp; omega)]
              refine All_s hS4 hI3.nok (by omega) (j : Int) fun g5 s5 ts e5 o5 _ hts => ⟨s5, rfl, ?_⟩
              have ha := all_one hI3 (j : Int)
              rw [← hts, List.length_map] at ha
              have hn5 := o5.1
              intro J38 hJ38
              have k38 : J38 [.bool false] g5 := by
                refine hJ38 _ _ ?_
                rw [if_neg (by decide), wrap64 (by omega) (by omega)]
                have := ih2 (j + 1) g5 (by omega) (hS4.ext0 e5) (k24.trans (kg_ext0 e5 hS4.lt))
                simpa using this
              rw [if_neg (by simp; omega)]
              by_cases h1 : ts.length = 1
              · rw [if_pos (by simp [hn5, h1])]
                obtain ⟨a5, v1, v2⟩ := o5.sl.reads.rd encTW_len (i := 0) (by omega)
                have v2 := v2 0 (by omega)
                rw [v1]
                simp only [nilW_some]
                refine ⟨by omega, by omega, ts[0].name, by simpa using v2, ?_⟩
                have hnm : ts[0].name = sT := ha.2 ts[0].m (List.mem_map.2 ⟨_, List.getElem_mem _, rfl⟩)
                rw [hnm]
                have : (!(sT.toList == sT.toList)) = false := by simp
                rw [this]
                exact k38
              · rw [if_neg (by simp [hn5]; omega)]
                exact k38
          have := key32 7 1 g3 (by omega) hS3 k23
          simpa using this
        by_cases hk0 : v.kind = 0
        · rw [if_pos (by simp [hk0])]
          refine Begin_s hS2.cl false fun g3 hC3 e3 _ => ⟨_, _, rfl, ?_⟩
          obtain ⟨hS3, k3⟩ := hS2.log hC3 e3
          exact key29 g3 _ N last hS3 k3 ⟨hI.okl.begin false, hI.nok.mono (by omega), hI.keys, hI.last⟩
        rw [if_neg (by simp [hk0])]
        by_cases hk1 : v.kind = 1
        · rw [if_pos (by simp [hk1])]
          refine ⟨v.xid, by simp [rd_blk b2'], ?_⟩
          refine Commit_s hS2.cl v.xid (by have := hI.okl.2; omega) fun g3 hC3 e3 _ => ⟨_, _, rfl, ?_⟩
          obtain ⟨hS3, k3⟩ := hS2.log hC3 e3
          exact key29 g3 _ N last hS3 k3 ⟨hI.okl.commit _, hI.nok.mono (by omega), hI.keys, hI.last⟩
        rw [if_neg (by simp [hk1])]
        by_cases hk2 : v.kind = 2
        · rw [if_pos (by simp [hk2])]
          refine ⟨v.xid, by simp [rd_blk b2'], ?_⟩
          refine Abort_s hS2.cl v.xid fun g3 hC3 e3 _ => ⟨_, rfl, ?_⟩
          obtain ⟨hS3, k3⟩ := hS2.log hC3 e3
          exact key29 g3 _ N last hS3 k3 ⟨hI.okl.abort _, hI.nok.mono (by omega), hI.keys, hI.last⟩
        rw [if_neg (by simp [hk2])]
        refine ⟨by omega, ?_⟩
        have hrel : ∃ rel : Int, IntKind.wrap .i64 ((1 : Int) + (Int.tmod (i : Int) (100 : Int))) = rel := ⟨_, rfl⟩
        obtain ⟨rel, hrel⟩ := hrel
        rw [hrel]
        refine tab_s sT rel fun g3 s3 e3 hc3 hb3 => ⟨sT, s3, rel, rfl, ?_⟩
        refine newI fun g4 s4 b4 e4 => ?_
        refine st_blk b4 (by simp) fun g5 s5 b5 e5 => ?_
        have e35 : Ext [] g3 g5 := e4.trans e5 fun b hb hlt => by simp at hb; omega
        have e25 := e3.trans0 e35
        have b2'' := e25.get b2' (by simp)
        have hz35 := e35.sz
        have hz23 := e3.sz
        refine ⟨v.xid, by simp [rd_blk b2''], sT, by simp [rd_blk b5], s3, by simp [rd_blk b5], rel, by simp [rd_blk b5], ?_⟩
        refine Put_s (hS2.more e25) (hI.nok) (by omega) v.xid ⟨sT, s3, [colA], rel⟩ (hc3.ext0 e35).reads (fun _ b hb' => Or.inr (by have := hb3 b hb'; omega)) fun g6 hS6 k6 => ⟨_, rfl, ?_⟩
        have k26 : KG (GX (fun b => b < h.size) g g2) g2 g6 := (kg_ext0 e25 hS2.lt).trans (k6.anti gx_l)
        have hS6' := hS6.anti (G' := GX (fun b => b < h.size) g g2) gx_l
        have b6 := k26.get b2' hcell
        have htt : (⟨sT, s3, [colA], rel⟩ : TW).m = tabT sT rel := rfl
        rw [htt] at hS6' ⊢
        by_cases hE : putE L N v.xid (tabT sT rel) = 0
        · rw [if_pos (by simp [hE])]
          intro J70 hJ70
          have k70 : ∀ g7, Ext [] g6 g7 → J70 [.bool false] g7 := by
            intro g7 e7
            refine hJ70 _ _ ?_
            rw [if_neg (by decide)]
            refine ⟨v.xid, by simp [rd_blk (e7.get b6 (by simp))], ?_⟩
            exact key29 g7 L _ v.xid (hS6'.ext0 e7) (k26.trans (kg_ext0 e7 hS6'.lt)) (hI.put hE)
          by_cases hl0 : last = 0
          · rw [if_neg (by simp [hl0])]
            exact k70 g6 (Ext.refl _ _)
          · rw [if_pos (by simp [hl0])]
            refine State_s hS6'.cl last fun g7 e7 => ⟨_, rfl, ?_⟩
            by_cases h3 : (txL L last).state = 3
            · rw [if_neg (by simp [h3])]
              exact k70 g7 e7
            · rw [if_pos (by simp [h3])]
              refine ⟨v.xid, by simp [rd_blk (e7.get b6 (by simp))], ?_⟩
              refine Sees_s (hS6'.cl.ext0 e7) v.xid last ⟨_, rfl, ?_⟩
              have hsee : seesL L v.xid last = true := by
                rcases hI.last with q | ⟨w, hw, hwx⟩
                · exact absurd q hl0
                · exact unseen_sees (putE_may hE) hw hwx.symm hl0 h3
              rw [hsee]
              exact k70 g7 e7
        · rw [if_neg (by simp [hE])]
          have hNn : putN L N v.xid (tabT sT rel) = N := by unfold putN; rw [if_neg hE]
          rw [hNn] at hS6'
          exact key29 g6 L N last hS6' k26 ⟨hI.okl.mono (by omega), hI.nok.mono (by omega), hI.keys, hI.last⟩
    exact key xs.length 0 h3 ⟨[], 0⟩ [] 0 (by omega) hE3 k3 ⟨⟨by simp, by simp⟩, nok_nil, by simp, Or.inl rfl⟩
end
end Go.Lift

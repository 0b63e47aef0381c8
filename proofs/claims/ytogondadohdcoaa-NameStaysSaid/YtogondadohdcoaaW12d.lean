/- Names: in memory; what reads them. -/
import Derived.Test.YtogondadohdcoaaW12c
set_option linter.unusedSimpArgs false
set_option linter.unusedVariables false
namespace Go.Lift
open Go Go.Proofs Go.RowKit Go.Shelf
set_option maxRecDepth 100000
structure CN where
  s : Sl
  l : List VW
abbrev NC := List (ByteArray × CN)
def plC (c : CN) : List VM := c.l.map VW.m
abbrev mN (C : NC) : NM := amap plC C
abbrev ekS (s : ByteArray) : Value := .string s
abbrev evS (s : Sl) : Value := .slice s.a s.n s.c
theorem beq_bytes12 (a b : ByteArray) : (a == b) = decide (a = b) := by
  rw [Bool.eq_iff_iff, ba_beq, decide_eq_true_eq]
instance keyS12 : KeyEnc ekS := ⟨fun a b => by simp only [keyB, keyS]; exact beq_bytes12 a b, fun a b => by simp [likeK, likeS]⟩
structure NmS (h : Hp) (t mb : Nat) (C : NC) : Prop where
  blk : Blk h t #[.map (some mb)] T_name_Names
  outer : IsMap ekS evS h mb (amap CN.s C)
  nd : (C.map Prod.fst).Nodup
  inner : ∀ k c, afind C k = some c → Own T_name_version 5 encVW 0 h c.s c.l
  cols : ∀ k c, afind C k = some c → ∀ v ∈ c.l, SlOf T_api_Column 7 encC h v.t.s v.t.cl ∧ v.t.cl.length ≤ 2 ^ 30
  sep : ∀ k k' c c', afind C k = some c → afind C k' = some c' → k ≠ k' → ∀ b ∈ sBlk c.s, b ∉ sBlk c'.s
def FN (t mb : Nat) (C : NC) (b : Nat) : Prop := b = t ∨ b = mb ∨ ∃ k c, afind C k = some c ∧ b ∈ sBlk c.s
def slC (C : NC) (k : ByteArray) : Sl := match afind C k with | some c => c.s | none => ⟨none, 0, 0⟩
def lC (C : NC) (k : ByteArray) : List VW := match afind C k with | some c => c.l | none => []
theorem lC_m (C : NC) (k : ByteArray) : (lC C k).map VW.m = vsN (mN C) k := by
  unfold lC vsN
  rw [afind_amap]
  cases afind C k <;> rfl
theorem atV_cons (L : LM) (x : Int) (v : VM) (l : List VM) (i : Nat) : atV L x (v :: l) i = if seesV L x v = true then (i : Int) else atV L x l (i + 1) := rfl
section
variable {h h' : Hp} {cb t mb : Nat} {C : NC} {L : LM} {Q : List Value → Hp → Prop}
theorem map_not_cells {b : Nat} {K V : Type} {ek : K → Value} {ev : V → Value} {T : List (K × V)} (hm : IsMap ek ev h b T) {c : Array Value} {Ty : TypeId} {fz : Nat × Nat} (hb : h[b]? = some (.cells c Ty fz)) : False := by
  obtain ⟨es, cl, h1, _⟩ := hm
  rw [hb] at h1
  cases h1
theorem NmS.ext {S : List Nat} (hN : NmS h t mb C) (he : Ext S h h') (hS : ∀ b, FN t mb C b → b ∉ S) (hO : Other T_api_Column h S) : NmS h' t mb C :=
  ⟨he.get hN.blk (hS _ (Or.inl rfl)), hN.outer.ext he (hS _ (Or.inr (Or.inl rfl))), hN.nd, fun k c hf => (hN.inner k c hf).ext he fun a ha => hS _ (Or.inr (Or.inr ⟨k, c, hf, mem_sBlk.2 ⟨a, ha, rfl⟩⟩)),
    fun k c hf v hv => ⟨(hN.cols k c hf v hv).1.ext he hO, (hN.cols k c hf v hv).2⟩, hN.sep⟩
theorem NmS.ext0 (hN : NmS h t mb C) (he : Ext [] h h') : NmS h' t mb C := hN.ext he (fun _ _ => by simp) (Other.nil h)
theorem NmS.lt (hN : NmS h t mb C) {b : Nat} (hb : FN t mb C b) : b < h.size := by
  rcases hb with rfl | rfl | ⟨k, c, hf, hb⟩
  · exact blk_lt hN.blk
  · exact hN.outer.lt
  · obtain ⟨a, h1, h2⟩ := mem_sBlk.1 hb
    obtain ⟨b', c', g1, _, g3, _⟩ := (hN.inner k c hf).2.2 a h1
    rw [g1] at h2
    simp only at h2
    subst h2
    exact blk_lt g3
theorem cl_other (hC : ClAt h cb L) (hN : NmS h t mb C) : (∀ b, FN t mb C b → b ∉ [cb]) ∧ Other T_api_Column h [cb] := by
  obtain ⟨c, c1, c2, _⟩ := hC.cells
  refine ⟨fun b hb hm => ?_, Other.one c1 (by intro c' fz e; cases e)⟩
  simp only [List.mem_singleton] at hm
  subst hm
  rcases hb with rfl | rfl | ⟨k, d, hf, hb⟩
  · have := hN.blk
    unfold Blk at this c1
    rw [c1] at this
    cases this
  · exact map_not_cells hN.outer c1
  · obtain ⟨a, h1, h2⟩ := mem_sBlk.1 hb
    exact own_ne (hN.inner k d hf) c1 (by intro c' fz e; cases e) a h1 h2
theorem NmS.own (hN : NmS h t mb C) (k : ByteArray) : Own T_name_version 5 encVW 0 h (slC C k) (lC C k) := by
  unfold slC lC
  cases hf : afind C k with
  | none => exact Own.nil _ _
  | some c => exact hN.inner k c hf
theorem NmS.colsL (hN : NmS h t mb C) (k : ByteArray) : ∀ v ∈ lC C k, SlOf T_api_Column 7 encC h v.t.s v.t.cl ∧ v.t.cl.length ≤ 2 ^ 30 := by
  unfold lC
  cases hf : afind C k with
  | none => simp
  | some c => exact hN.cols k c hf
theorem NmS.has (hN : NmS h t mb C) (k : ByteArray) : ∃ es, mapAt h (some mb) es ∧ KeysLike (.string k) es ∧ mgetD (.string k) es (.slice none 0 0) = .slice (slC C k).a (slC C k).n (slC C k).c := by
  obtain ⟨es, h1, h2⟩ := hN.outer.mapAt
  refine ⟨es, h1, keysLike_ents (ek := ekS) h2 k, ?_⟩
  rw [mgetD_ents (ek := ekS) h2 k]
  unfold slC
  rw [afind_amap]
  cases afind C k <;> rfl
theorem NmS.ptr (hN : NmS h t mb C) : rd h (Addr.add ⟨t, 0, none⟩ 0) = some (.map (some mb)) := by rw [addr_mk, rd_blk hN.blk]; rfl
theorem rd5V {v : Nat} {x : VW} {T : TypeId} {K : Int → Int → ByteArray → Sl → Int → Prop} (hb : Blk h v (encVW x).toArray T) (H : K x.xmin x.xmax x.t.name x.t.s x.t.rel) :
    ∃ n1 : Int, rd h (Addr.add (Addr.mk v 0 none) 0) = some (Value.int .i64 n1) ∧ ∃ n2 : Int, rd h (Addr.add (Addr.mk v 0 none) 1) = some (Value.int .i64 n2) ∧ ∃ s3 : ByteArray, rd h (Addr.add (Addr.mk v 0 none) 2) = some (Value.string s3) ∧ ∃ l4 : Sl, rd h (Addr.add (Addr.mk v 0 none) 3) = some (Value.slice l4.a l4.n l4.c) ∧ ∃ n5 : Int, rd h (Addr.add (Addr.mk v 0 none) 4) = some (Value.int .i64 n5) ∧ K n1 n2 s3 l4 n5 := by
  have r : ∀ i, rd h (Addr.add (Addr.mk v 0 none) i) = (encVW x).toArray[i]? := fun i => by rw [addr_mk, rd_blk hb, Nat.zero_add]
  exact ⟨_, r 0, _, r 1, _, r 2, _, r 3, _, r 4, H⟩
theorem rdV {s : Sl} {xs : List VW} (hs : Reads 5 encVW h s xs) {i : Nat} (hi : i < xs.length) : ∃ a, s.a = some a ∧ ∀ (K : Int → Int → ByteArray → Sl → Int → Prop), K xs[i].xmin xs[i].xmax xs[i].t.name xs[i].t.s xs[i].t.rel →
    ∃ n1 : Int, rd h (Addr.add (Addr.add a (i * 5)) 0) = some (Value.int .i64 n1) ∧ ∃ n2 : Int, rd h (Addr.add (Addr.add a (i * 5)) 1) = some (Value.int .i64 n2) ∧ ∃ s3 : ByteArray, rd h (Addr.add (Addr.add a (i * 5)) 2) = some (Value.string s3) ∧ ∃ l4 : Sl, rd h (Addr.add (Addr.add a (i * 5)) 3) = some (Value.slice l4.a l4.n l4.c) ∧ ∃ n5 : Int, rd h (Addr.add (Addr.add a (i * 5)) 4) = some (Value.int .i64 n5) ∧ K n1 n2 s3 l4 n5 := by
  obtain ⟨a, h1, h2⟩ := hs.rd encVW_len hi
  refine ⟨a, h1, fun K H => ?_⟩
  have r : ∀ k, k < 5 → rd h (Addr.add (Addr.add a (i * 5)) k) = (encVW xs[i])[k]? := fun k hk => by rw [addr_add_add]; exact h2 k hk
  exact ⟨_, r 0 (by omega), _, r 1 (by omega), _, r 2 (by omega), _, r 3 (by omega), _, r 4 (by omega), H⟩
theorem sees_s (hC : ClAt h cb L) (v : VW) (x : Int) (hQ : ∀ h', Ext [] h h' → Q [.bool (seesV L x v.m)] h') : S_name_version_sees v.xmin v.xmax v.t.name v.t.s v.t.rel (some ⟨cb, 0, none⟩) x h Q := by
  refine O_name_version_sees _ _ _ _ _ _ _ ?_
  unfold F_name_version_sees
  refine newI fun h1 s1 b1 e1 => ?_
  have hC1 := hC.ext0 e1
  have hQ1 : ∀ h', Ext [] h1 h' → Q [.bool (seesL L x v.xmin && !(decide (v.xmax ≠ 0 ∧ (txL L v.xmax).state ≠ 3) && seesL L x v.xmax))] h' := fun h' e => hQ h' (e1.trans0 e)
  intro J hJ
  have key : ∀ h', Ext [] h1 h' → J [.bool (decide (v.xmax ≠ 0 ∧ (txL L v.xmax).state ≠ 3))] h' := by
    intro h' e
    have b' := e.get b1 (by simp)
    refine hJ _ _ ⟨v.xmin, by simp [rd_blk b'], ?_⟩
    refine Sees_s (hC1.ext0 e) x v.xmin ⟨_, rfl, ?_⟩
    have := hQ1 h' e
    by_cases h3 : seesL L x v.xmin = true
    · rw [if_pos h3]
      rw [h3, Bool.true_and] at this
      by_cases h4 : v.xmax ≠ 0 ∧ (txL L v.xmax).state ≠ 3
      · rw [decide_eq_true h4, if_pos rfl]
        rw [decide_eq_true h4, Bool.true_and] at this
        refine ⟨v.xmax, by simp [rd_blk b'], Sees_s (hC1.ext0 e) x v.xmax ⟨_, rfl, this⟩⟩
      · rw [decide_eq_false h4, if_neg (by decide)]
        rw [decide_eq_false h4] at this
        exact this
    · rw [if_neg h3]
      simp only [Bool.not_eq_true] at h3
      rw [h3] at this
      exact this
  refine ⟨v.xmax, by simp [rd_blk b1], ?_⟩
  by_cases h0 : v.xmax = 0
  · rw [if_neg (by simp [h0])]
    have := key h1 (Ext.refl _ _)
    rw [decide_eq_false (by simp [h0])] at this
    exact this
  · rw [if_pos (by simp [h0])]
    refine ⟨v.xmax, by simp [rd_blk b1], State_s hC1 v.xmax fun h2 e2 => ⟨_, rfl, ?_⟩⟩
    have := key h2 e2
    have e : ((txL L v.xmax).state != 3) = decide (v.xmax ≠ 0 ∧ (txL L v.xmax).state ≠ 3) := by
      rw [Bool.eq_iff_iff]
      simp [h0]
    rw [e]
    exact this
theorem at_s (hC : ClAt h cb L) (hN : NmS h t mb C) (x : Int) (k : ByteArray) (hl : (lC C k).length ≤ 2 ^ 30) (hQ : ∀ h', Ext [] h h' → Q [.int .i64 (atN L (mN C) x k)] h') : S_name_Names_at (some ⟨t, 0, none⟩) (some ⟨cb, 0, none⟩) x k h Q := by
  refine O_name_Names_at _ _ _ _ ?_
  unfold F_name_Names_at
  rw [if_neg (by simp)]
  simp only [nilW_some]
  obtain ⟨es, h1, h2, h3⟩ := hN.has k
  refine ⟨some mb, hN.ptr, es, h1, h2, _, h3, ?_⟩
  have hr := (hN.own k).sl.reads
  unfold atN at hQ
  rw [← lC_m] at hQ
  generalize lC C k = l at hr hQ hl
  generalize slC C k = s at hr
  have hrn := hr.1
  intro X hX
  have key : ∀ d i g, d + i = l.length → Ext [] h g → atV L x (l.map VW.m) 0 = atV L x ((l.drop i).map VW.m) i → X [.int .i64 (i : Int)] g := by
    intro d
    induction d with
    | zero =>
      intro i g hi eg ha
      refine hX _ _ ?_
      rw [if_neg (by simp; omega)]
      have := hQ g eg
      rw [ha, List.drop_of_length_le (by omega)] at this
      exact this
    | succ d ih =>
      intro i g hi eg ha
      refine hX _ _ ?_
      rw [if_pos (by simp; omega)]
      obtain ⟨a, u1, u2⟩ := rdV (hr.ext0 eg) (i := i) (by omega)
      rw [u1]
      simp only [nilW_some, Int.toNat_natCast]
      refine ⟨by omega, by omega, u2 _ ?_⟩
      have hd : l.drop i = l[i] :: l.drop (i + 1) := List.drop_eq_getElem_cons (by omega)
      generalize l[i]'(by omega) = v at hd
      refine newI fun g1 s1 b1 e1 => ?_
      refine st_blk b1 (by simp) fun g2 s2 b2 e2 => ?_
      have b2' : Blk g2 g.size (encVW v).toArray T_name_version := b2
      have eg2 : Ext [] h g2 := (eg.trans0 e1).trans e2 fun b hb hlt => by have := eg.sz; simp at hb; omega
      refine rd5V b2' ?_
      refine sees_s (hC.ext0 eg2) v x fun g3 e3 => ⟨_, rfl, ?_⟩
      rw [hd, List.map_cons] at ha
      rw [atV_cons] at ha
      by_cases hv : seesV L x v.m = true
      · rw [if_neg (by simp [hv])]
        rw [if_pos hv] at ha
        have := hQ g3 (eg2.trans0 e3)
        rw [ha] at this
        exact this
      · rw [if_pos (by simp [hv])]
        rw [if_neg hv] at ha
        rw [wrap64 (by omega) (by omega)]
        have := ih (i + 1) g3 (by omega) (eg2.trans0 e3) ha
        simpa using this
  exact key l.length 0 h (by omega) (Ext.refl _ _) (by simp)
theorem clone_s {s : Sl} {cl : List ColM} (hs : Reads 7 encC h s cl) (hl : cl.length ≤ 2 ^ 30)
    (hQ : ∀ h' s', Own T_api_Column 7 encC h.size h' s' cl → Ext [] h h' → Q [.slice s'.a s'.n s'.c] h') : S_slices_Clone_sapi_Column_api_Column s h Q := by
  refine O_slices_Clone_sapi_Column_api_Column _ ?_
  unfold F_slices_Clone_sapi_Column_api_Column
  have hn := hs.1
  cases ha : s.a with
  | none =>
    rw [if_pos (by rfl)]
    have := hs.2.1 ha
    subst this
    exact hQ h ⟨none, 0, 0⟩ (Own.nil _ _) (Ext.refl _ _)
  | some a =>
    rw [if_neg (by simp)]
    rw [wthE, ← ha]
    exact clone_body hs zc_col encC_len encC_one (by omega) (by omega) fun s' h' ho he hn' => hQ h' s' ho he
theorem copied_s {t : TW} (hs : Reads 7 encC h t.s t.cl) (hl : t.cl.length ≤ 2 ^ 30)
    (hQ : ∀ h' s', Own T_api_Column 7 encC h.size h' s' t.cl → Ext [] h h' → Q [.agg #[.string t.name, .slice s'.a s'.n s'.c, .int .i64 t.rel]] h') : S_name_copied t.name t.s t.rel h Q := by
  refine O_name_copied _ _ _ ?_
  unfold F_name_copied
  refine newI fun h1 s1 b1 e1 => newI fun h2 s2 b2 e2 => ?_
  have b1' := e2.get b1 (by simp)
  refine ⟨t.s, by simp [rd_blk b1'], ?_⟩
  have e12 := e1.trans0 e2
  refine clone_s (hs.ext0 e12) hl fun h3 s' o3 e3 => ⟨s', rfl, ?_⟩
  have b3 := e3.get b1' (by simp)
  have c3 := e3.get b2 (by simp)
  simp only [addr_mk]
  refine st_blk b3 (by simp) fun h4 s4 b4 e4 => ?_
  have o4 := o3.ext e4 fun a ha hm => by
    obtain ⟨b', c', g1, g2, _⟩ := o3.2.2 a ha
    rw [g1] at hm
    simp at hm
    omega
  have c4 := e4.get c3 (by simp; omega)
  refine ⟨t.name, by rw [rd_blk b4]; rfl, s', by rw [rd_blk b4]; rfl, t.rel, by rw [rd_blk b4]; rfl, ?_⟩
  refine st_blk c4 (by simp) fun h5 s5 b5 e5 => ?_
  refine ⟨t.name, by rw [rd_blk b5]; rfl, s', by rw [rd_blk b5]; rfl, t.rel, by rw [rd_blk b5]; rfl, ?_⟩
  have o5 := o4.ext e5 fun a ha hm => by
    obtain ⟨b', c', g1, g2, _⟩ := o4.2.2 a ha
    rw [g1] at hm
    simp at hm
    omega
  exact hQ h5 s' (o5.mono (by omega)) (((e12.trans0 e3).trans e4 fun b hb hlt => by simp at hb; omega).trans e5 fun b hb hlt => by simp at hb; omega)
theorem rdT1 {s : Sl} {xs : List VW} (hs : Reads 5 encVW h s xs) {i : Nat} (hi : i < xs.length) : ∃ a, s.a = some a ∧ ∀ (K : ByteArray → Sl → Int → Prop), K xs[i].t.name xs[i].t.s xs[i].t.rel →
    ∃ s3 : ByteArray, rd h (Addr.add (Addr.add (Addr.add a (i * 5)) 2) 0) = some (Value.string s3) ∧ ∃ l4 : Sl, rd h (Addr.add (Addr.add (Addr.add a (i * 5)) 2) 1) = some (Value.slice l4.a l4.n l4.c) ∧ ∃ n5 : Int, rd h (Addr.add (Addr.add (Addr.add a (i * 5)) 2) 2) = some (Value.int .i64 n5) ∧ K s3 l4 n5 := by
  obtain ⟨a, h1, h2⟩ := hs.rd encVW_len hi
  refine ⟨a, h1, fun K H => ?_⟩
  have r : ∀ k, k < 3 → rd h (Addr.add (Addr.add (Addr.add a (i * 5)) 2) k) = (encVW xs[i])[2 + k]? := fun k hk => by rw [addr_add_add, addr_add_add]; exact h2 _ (by omega)
  exact ⟨_, r 0 (by omega), _, r 1 (by omega), _, r 2 (by omega), H⟩
theorem See_s (hC : ClAt h cb L) (hN : NmS h t mb C) (x : Int) (k : ByteArray) (hl : (lC C k).length ≤ 2 ^ 30)
    (hN0 : seeN L (mN C) x k = none → ∀ h', Ext [] h h' → Q [.agg #[.string sE, .slice none 0 0, .int .i64 0], .bool false] h')
    (hS : ∀ v, seeN L (mN C) x k = some v → ∀ h' s', Own T_api_Column 7 encC h.size h' s' v.t.cl → Ext [] h h' → Q [.agg #[.string v.t.name, .slice s'.a s'.n s'.c, .int .i64 v.t.rel], .bool true] h') : S_name_Names_See (some ⟨t, 0, none⟩) (some ⟨cb, 0, none⟩) x k h Q := by
  refine O_name_Names_See _ _ _ _ ?_
  unfold F_name_Names_See
  refine newI fun h1 s1 b1 e1 => ?_
  refine at_s (hC.ext0 e1) (hN.ext0 e1) x k hl fun h2 e2 => ⟨_, rfl, ?_⟩
  have b2 := e2.get b1 (by simp)
  have e12 := e1.trans0 e2
  have hz2 := e2.sz
  unfold seeN at hN0 hS
  unfold atN
  have hlm := lC_m C k
  rcases atV_find L x (vsN (mN C) k) 0 with ⟨q1, q2⟩ | ⟨j, q1, hj, q2, q3⟩
  · rw [q1, if_pos (by decide)]
    refine st_blk b2 (by simp) fun h3 s3 b3 e3 => ?_
    refine ⟨sE, by simp [rd_blk b3], ⟨none, 0, 0⟩, by simp [rd_blk b3], 0, by simp [rd_blk b3], ?_⟩
    exact hN0 q2 h3 (e12.trans e3 fun b hb hlt => by simp at hb; omega)
  · rw [q1, Nat.zero_add, if_neg (by simp)]
    simp only [nilW_some]
    have hN2 := hN.ext0 e12
    obtain ⟨es, m1, m2, m3⟩ := hN2.has k
    refine ⟨some mb, hN2.ptr, es, m1, m2, _, m3, ?_⟩
    have hr := (hN2.own k).sl.reads
    have hcl := hN2.colsL k
    have hjl : j < (lC C k).length := by have := congrArg List.length hlm; rw [List.length_map] at this; omega
    have hvj : (vsN (mN C) k)[j] = ((lC C k)[j]'hjl).m := by
      have : (vsN (mN C) k)[j]? = ((lC C k).map VW.m)[j]? := by rw [hlm]
      rw [List.getElem?_eq_getElem hj, List.getElem?_map, List.getElem?_eq_getElem hjl] at this
      exact Option.some.inj this
    have hn := hr.1
    obtain ⟨a, u1, u2⟩ := rdT1 hr (i := j) hjl
    rw [u1]
    simp only [nilW_some, Int.toNat_natCast]
    refine ⟨by omega, by omega, u2 _ ?_⟩
    have hv := hcl _ (List.getElem_mem hjl)
    rw [hvj] at q2
    generalize (lC C k)[j]'hjl = v at hv q2
    refine copied_s (t := v.t) hv.1.reads hv.2 fun h3 s' o3 e3 => ⟨v.t.name, s', v.t.rel, rfl, ?_⟩
    have b3 := e3.get b2 (by simp)
    refine st_blk b3 (by simp) fun h4 s4 b4 e4 => ?_
    refine ⟨v.t.name, by simp [rd_blk b4], s', by simp [rd_blk b4], v.t.rel, by simp [rd_blk b4], ?_⟩
    have o4 := o3.ext e4 fun a ha hm => by
      obtain ⟨b', c', g1, g2, _⟩ := o3.2.2 a ha
      rw [g1] at hm
      simp at hm
      omega
    exact hS v.m q2 h4 s' (o4.mono (by omega)) ((e12.trans0 e3).trans e4 fun b hb hlt => by simp at hb; omega)
end
end Go.Lift

/- The store's parts in memory: who may be committed; an index; a relation's versions. -/
import Derived.Test.YtgdiihffjogdiaaGreatDoorS15i
import Derived.Test.YtgdiihffjogdiaaGreatDoorI11g
import Derived.Test.YtgdiihffjogdiaaGreatDoorT12
import Derived.Test.YtgdiihffjogdiaaGreatDoorLvB1
set_option linter.unusedSimpArgs false
set_option linter.unusedVariables false
namespace Go.Lift.E14
open Go Go.Proofs Go.RowKit
section
variable {kk : Prop} {w : Nat → Nat} {G G' : Nat → Prop} {h h' : Hp} {s cb t e me mo ms dm sm : Nat} {C : CC} {kp : Sl} {M : SsiM}
/-- What is not others' stays. -/
theorem SsAt.keep (hA : SsAt kk w G h s cb t e me mo ms dm sm C kp M) (hk : ∀ b, b < h.size → ¬ G b → h'[b]? = h[b]?) (hz : h.size ≤ h'.size) (hG : ∀ b, G' b → (G b ∨ h.size ≤ b) ∧ b < h'.size) : SsAt kk (wx w h 0) G' h' s cb t e me mo ms dm sm C kp M := by
  have k1 : ∀ {b j : Nat}, b < h.size → w b = j → j ≠ 0 → h'[b]? = h[b]? := fun {b j} hb hw hj => hk _ hb fun g => by have := (hA.gw b g).1; omega
  have lc := hA.cl.lt
  have le := blk_lt hA.ed
  have lm := hA.em.lt
  have lo := hA.eo.lt
  have ld := hA.dd.lt
  have lf := hA.sf.lt
  refine ⟨fun b hb => ?_, blk_kg hA.blk (k1 hA.lts hA.ws (by omega)), by rw [wx_lt hA.lts]; exact hA.ws, cl_kg hA.cl (k1 lc hA.wc (by omega)), by rw [wx_lt lc]; exact hA.wc, blk_kg hA.ed (k1 le hA.we (by omega)), by rw [wx_lt le]; exact hA.we,
    map_kg hA.em (k1 lm hA.wm (by omega)), by rw [wx_lt lm]; exact hA.wm, map_kg hA.eo (k1 lo hA.wo (by omega)), by rw [wx_lt lo]; exact hA.wo, hA.ne, tab_kg hA.tb (fun b hb => k1 (hA.ltt hb) (hA.wt b hb) (by omega)), hA.mc, fun b hb => by rw [wx_lt (hA.ltt hb)]; exact hA.wt b hb,
    map_kg hA.dd (k1 ld hA.wd (by omega)), by rw [wx_lt ld]; exact hA.wd, map_kg hA.sf (k1 lf hA.wf (by omega)), by rw [wx_lt lf]; exact hA.wf, fun b hb => Nat.lt_of_lt_of_le (hA.ltk hb) hz, fun q => q_kg (hA.kq q) (fun b hb => k1 (hA.ltk hb) (hA.wk b hb) (by omega)), fun b hb => by rw [wx_lt (hA.ltk hb)]; exact hA.wk b hb⟩
  refine ⟨?_, (hG b hb).2⟩
  rcases (hG b hb).1 with g | g
  · rw [wx_lt (hA.gw b g).2]
    exact (hA.gw b g).1
  · unfold wx
    rw [if_neg (by omega)]
end
theorem Ss.keep {G G' : Nat → Prop} {h h' : Hp} {s cb t e : Nat} {M : SsiM} (hS : Ss G h s cb t e M) (hk : ∀ b, b < h.size → ¬ G b → h'[b]? = h[b]?) (hz : h.size ≤ h'.size) (hG : ∀ b, G' b → (G b ∨ h.size ≤ b) ∧ b < h'.size) : Ss G' h' s cb t e M := by
  obtain ⟨w, me, mo, ms, dm, sm, C, kp, hA⟩ := hS
  exact ⟨_, _, _, _, _, _, _, _, hA.keep hk hz hG⟩
end Go.Lift.E14
namespace Go.Lift.X
open Go Go.Proofs Go.RowKit
section
variable {lo n : Nat} {G : Nat → Prop} {h : Hp} {x : Nat} {M : LeafM} {Q : List Value → Hp → Prop}
theorem Lv.growS {G' : Nat → Prop} {h' : Hp} {S : List Nat} (hv : Lv lo G h x M) (he : Ext S h h') (hS : ∀ b ∈ S, b < h.size → G b) (hG : ∀ b, G' b → (G b ∨ h.size ≤ b) ∧ b < h'.size) : Lv lo G' h' x M := by
  obtain ⟨h1, h2, ls, C, hl, h3⟩ := hv
  refine ⟨fun b hb => (hG b hb).2, by have := he.sz; omega, ls, C, hl.extF he (fun b hb hm => h3 b hb (hS b hm (fp_lt hl hb))), fun b hb hg => ?_⟩
  rcases (hG b hg).1 with g | g
  · exact h3 b hb g
  · have := fp_lt hl hb
    omega
theorem Ix.growS {G' : Nat → Prop} {h' : Hp} {S : List Nat} (hx : Ix lo G h x M) (he : Ext S h h') (hS : ∀ b ∈ S, b < h.size → G b) (hG : ∀ b, G' b → (G b ∨ h.size ≤ b) ∧ b < h'.size) : Ix lo G' h' x M := by
  obtain ⟨q, hv, hb, hn, hl⟩ := hx
  have hlt := blk_lt hb
  refine ⟨q, hv.growS he (fun b hb hlt => Or.inl (hS b hb hlt)) fun b hb => ?_, he.get hb (fun hm => hn (hS _ hm hlt)), fun g => ?_, hl⟩
  · rcases hb with g | g
    · have := hG b g
      exact ⟨this.1.imp Or.inl id, this.2⟩
    · have := he.sz
      exact ⟨Or.inl (Or.inr g), by omega⟩
  · rcases (hG x g).1 with g | g
    · exact hn g
    · omega
end
end Go.Lift.X
namespace Go.Lift.T
open Go Go.Proofs Go.RowKit Go.Lift.E14
set_option maxRecDepth 100000
section
variable {o : Nat → Prop} {h h' : Hp}
/-- Who may be committed. -/
def SsP (s cb t e : Nat) (M : SsiM) : Part := fun o h => (∀ b, o b → b < h.size) ∧ Ss (gl o h) h s cb t e M
theorem SsP.ok {s cb t e : Nat} {M : SsiM} : PartOK (SsP s cb t e M) := fun _ _ _ ⟨hl, hS⟩ hk hz =>
  ⟨fun b hb => Nat.lt_of_lt_of_le (hl b hb) hz, hS.keep (fun b hb hn => hk b (Classical.byContradiction fun q => hn ⟨hb, q⟩)) hz fun _ hb => gl_or hb⟩
/-- It has changed. -/
theorem SsP.op {s cb t e : Nat} {M M' : SsiM} (hP : SsP s cb t e M o h) (hS : Ss (gl o h) h' s cb t e M') (hk : KG (gl o h) h h') : SsP s cb t e M' (nw o h h') h' ∧ Ks o h h' :=
  ⟨⟨fun b hb => hb.elim (fun q => Nat.lt_of_lt_of_le (hP.1 b q) hk.sz) fun q => q.2, by rw [gl_nw hk.sz]; exact hS⟩, hk.sz, fun b hb hn => hk.old b ⟨hb, hn⟩⟩
/-- An index. -/
def IxP (x : Nat) (M : X.LeafM) : Part := fun o h => (∀ b, o b → b < h.size) ∧ X.Ix 2 (gl o h) h x M
theorem Ix.keep {lo : Nat} {G G' : Nat → Prop} {x : Nat} {M : X.LeafM} (hx : X.Ix lo G h x M) (hk : ∀ b, b < h.size → ¬ G b → h'[b]? = h[b]?) (hz : h.size ≤ h'.size) (hG : ∀ b, G' b → (G b ∨ h.size ≤ b) ∧ b < h'.size) : X.Ix lo G' h' x M := by
  obtain ⟨S, he, hS⟩ := (⟨hz, hk⟩ : Ks G h h').ext
  exact hx.growS he (fun b hb _ => hS b hb) hG
theorem IxP.ok {x : Nat} {M : X.LeafM} : PartOK (IxP x M) := fun _ _ _ ⟨hl, hS⟩ hk hz =>
  ⟨fun b hb => Nat.lt_of_lt_of_le (hl b hb) hz, Ix.keep hS (fun b hb hn => hk b (Classical.byContradiction fun q => hn ⟨hb, q⟩)) hz fun _ hb => gl_or hb⟩
theorem IxP.op {x : Nat} {M M' : X.LeafM} {S : List Nat} (hP : IxP x M o h) (hS : X.Ix 2 (gl o h) h' x M') (he : Ext S h h') (hb : ∀ b ∈ S, ¬ gl o h b) : IxP x M' (nw o h h') h' ∧ Ks o h h' :=
  have hk : Ks o h h' := ks_ext he fun b hm hl => Classical.byContradiction fun q => hb b hm ⟨hl, q⟩
  ⟨⟨fun b hb => hb.elim (fun q => Nat.lt_of_lt_of_le (hP.1 b q) hk.sz) fun q => q.2, by rw [gl_nw hk.sz]; exact hS⟩, hk⟩
end
end Go.Lift.T
namespace Go.Lift.T
open Go Go.Proofs Go.RowKit
set_option maxRecDepth 100000
abbrev encV (v : X.V4) : List Value := [.int .i64 v.k, .int .i64 v.n, .float .f64 v.f, .string v.s]
theorem encV_len (v : X.V4) : (encV v).length = 4 := rfl
theorem encV_one (v : X.V4) : ∀ u ∈ encV v, oneCell u = true := by
  intro u hu
  simp only [List.mem_cons, List.mem_nil_iff, or_false] at hu
  rcases hu with rfl | rfl | rfl | rfl <;> rfl
structure TupC where
  xmin : Int
  xmax : Int
  row : Sl
def tupV (t : TupC) : Value := .agg #[.int .i64 t.xmin, .int .i64 t.xmax, .slice t.row.a t.row.n t.row.c]
structure Tup where
  xmin : Int
  xmax : Int
  row : List X.V4
def tup0 : Tup := ⟨0, 0, []⟩
structure RelM where
  T : List (Int × Tup)
  next : Int
def absT (p : TupC × List X.V4) : Tup := ⟨p.1.xmin, p.1.xmax, p.2⟩
abbrev RowAt (h : Hp) (s : Sl) (vs : List X.V4) : Prop := SlOf T_api_Value 4 encV h s vs
abbrev RowIn (h : Hp) (s : Sl) (vs : List X.V4) : Prop := Reads 4 encV h s vs
/-- The memory of a relation, in just these blocks. -/
structure HpC (o : Nat → Prop) (h : Hp) (r m : Nat) (next : Int) (C : List (Int × (TupC × List X.V4))) : Prop where
  blk : Blk h r #[.map (some m), .int .i64 next] T_heap_Rel
  map : IsMap encI tupV h m (amap Prod.fst C)
  rows : ∀ p ∈ C, RowAt h p.2.1.row p.2.2 ∧ p.2.1.row.n ≤ 2 ^ 20 ∧ ∀ b ∈ sBlk p.2.1.row, o b
  ir : o r
  im : o m
  lt : ∀ b, o b → b < h.size
structure RelOk (R : RelM) : Prop where
  nx : 0 ≤ R.next ∧ R.next ≤ 65536
  nd : (R.T.map Prod.fst).Nodup
  lt : ∀ k ∈ R.T.map Prod.fst, 0 ≤ k ∧ k < R.next
  len : (R.T.length : Int) ≤ R.next
def HpP (r : Nat) (R : RelM) : Part := fun o h => (∃ m C, HpC o h r m R.next C ∧ R.T = amap absT C) ∧ RelOk R
def RelM.find (R : RelM) (t : Int) : Option Tup := afind R.T t
def RelM.get (R : RelM) (t : Int) : Tup := (R.find t).getD tup0
def RelM.ins (R : RelM) (x : Int) (row : List X.V4) : RelM := ⟨R.T ++ [(R.next, ⟨x, 0, row⟩)], R.next + 1⟩
def RelM.full (R : RelM) : Bool := decide (512 ≤ R.T.length) || R.next == 65536
section
variable {o : Nat → Prop} {h h' : Hp} {r m : Nat} {R : RelM} {Q : List Value → Hp → Prop}
theorem slof_keep {s : Sl} {vs : List X.V4} (hs : RowAt h s vs) (hk : ∀ b ∈ sBlk s, h'[b]? = h[b]?) : RowAt h' s vs := by
  refine ⟨hs.1, hs.2.1, fun a ha => ?_⟩
  obtain ⟨b, o, c, fz, h1, h2, h3⟩ := hs.2.2 a ha
  exact ⟨b, o, c, fz, h1, by rw [hk b (mem_sBlk.2 ⟨a, ha, by rw [h1]⟩)]; exact h2, h3⟩
theorem HpP.ok {r : Nat} {R : RelM} : PartOK (HpP r R) := fun _ _ _ ⟨⟨m, C, hc, hT⟩, hR⟩ hk hz =>
  ⟨⟨m, C, ⟨by unfold Blk; rw [hk _ hc.ir]; exact hc.blk, E14.map_kg hc.map (hk _ hc.im), fun p hp => ⟨slof_keep (hc.rows p hp).1 fun b hb => hk b ((hc.rows p hp).2.2 b hb), (hc.rows p hp).2⟩, hc.ir, hc.im, fun b hb => Nat.lt_of_lt_of_le (hc.lt b hb) hz⟩, hT⟩, hR⟩
theorem HNew_t (hQ : ∀ h' r, HpP r ⟨[], 0⟩ (nw (fun _ => False) h h') h' → Ext [] h h' → Q [.pointer (some ⟨r, 0, none⟩)] h') : S_heap_New h Q := by
  refine O_heap_New ?_
  delta F_heap_New rI rB rS rP rM rL vI vB vS vP vM vL vC vA ad nb gb wi bl bz tn isn sib pu oc
  refine newI fun h1 s1 b1 e1 => newI fun h2 s2 b2 e2 => ?_
  refine hQ h2 h1.size ⟨⟨h.size, [], ⟨b2, ⟨#[], 0, e2.get b1 (by simp), rfl, Born.nil 0⟩, by simp, Or.inr ⟨by omega, by omega⟩, Or.inr ⟨by omega, by omega⟩, fun b hb => hb.elim False.elim fun q => q.2⟩, rfl⟩, by simp, by simp, by simp, by simp⟩ (e1.trans0 e2)
theorem VClone_s {s : Sl} {vs : List X.V4} (hs : RowIn h s vs) (hb : s.n ≤ 2 ^ 20) (hQ : ∀ h' s', RowAt h' s' vs → s'.n = s.n → (∀ b ∈ sBlk s', h.size ≤ b ∧ b < h'.size) → Ext [] h h' → Q [.slice s'.a s'.n s'.c] h') : S_slices_Clone_sapi_Value_api_Value s h Q := by
  refine O_slices_Clone_sapi_Value_api_Value _ ?_
  delta F_slices_Clone_sapi_Value_api_Value rI rB rS rP rM rL vI vB vS vP vM vL vC vA ad nb gb wi bl bz tn isn sib pu oc
  split
  · rename_i e
    have e := Option.isNone_iff_eq_none.1 e
    have h1 := hs.2.1 e
    have h2 := hs.1
    subst h1
    have := hQ h ⟨none, 0, 0⟩ (SlOf.nil _ _) (by simpa using h2.symm) (by simp [sBlk]) (Ext.refl _ _)
    exact this
  · simp only [wthE]
    exact clone_body hs (by kernel_rfl) encV_len encV_one (by omega) (by omega) fun s' h' ho he hn => hQ h' s' ho.sl hn (fun b hb => own_ltG ho b hb) he
theorem RelOk.nin (hr : RelOk R) : R.next ∉ R.T.map Prod.fst := fun hm => by have := hr.lt _ hm; omega
theorem RelOk.ins (hr : RelOk R) (x : Int) (row : List X.V4) (hf : R.full = false) : RelOk (R.ins x row) := by
  have hn : R.next ≠ 65536 := fun e => by simp [RelM.full, e] at hf
  have h1 := hr.nx
  refine ⟨by show 0 ≤ R.next + 1 ∧ R.next + 1 ≤ 65536; omega, ?_, fun k hk => ?_, ?_⟩
  · simp only [RelM.ins, List.map_append, List.map_cons, List.map_nil]
    rw [List.nodup_append]
    exact ⟨hr.nd, by simp, fun a ha b hb e => by simp at hb; subst hb; exact hr.nin (e ▸ ha)⟩
  · simp only [RelM.ins, List.map_append, List.map_cons, List.map_nil, List.mem_append, List.mem_singleton] at hk ⊢
    rcases hk with hk | hk
    · have := hr.lt k hk; omega
    · omega
  · have := hr.len
    simp only [RelM.ins, List.length_append, List.length_cons, List.length_nil]
    omega
def insR (R : RelM) (x : Int) (row : List X.V4) : RelM := if 1 ≤ x ∧ R.full = false then R.ins x row else R
def insE (R : RelM) (x : Int) : Int := if 1 ≤ x then if R.full = true then 74 else 0 else 1
theorem HpC.kmr (hc : ∃ C, HpC o h r m R.next C) : m ≠ r := by
  obtain ⟨C, hc⟩ := hc
  obtain ⟨es, c, h1, _⟩ := hc.map
  intro e
  subst e
  have := hc.blk.symm.trans h1
  simp at this
theorem HInsert_t (hr : HpP r R o h) {x : Int} {s : Sl} {vs : List X.V4} (hs : RowIn h s vs) (hn : s.n ≤ 2 ^ 20)
    (hQ : ∀ h', HpP r (insR R x vs) (nw o h h') h' → Ks o h h' → Q [.int .i64 (if 1 ≤ x ∧ R.full = false then R.next else 0), .int .i64 (insE R x)] h') :
    S_heap_Rel_Insert (some ⟨r, 0, none⟩) x s h Q := by
  refine O_heap_Rel_Insert _ _ _ ?_
  delta F_heap_Rel_Insert rI rB rS rP rM rL vI vB vS vP vM vL vC vA ad nb gb wi bl bz tn isn sib pu oc
  obtain ⟨⟨m, C, hc, hT⟩, hR⟩ := hr
  obtain ⟨es, hm, he⟩ := hc.map.mapAt
  have hlen : es.size = R.T.length := by rw [ents_size he, hT]; simp [amap]
  have hnx := hR.nx
  have same : nw o h h = o := by
    funext b
    exact propext ⟨fun g => g.elim id fun q => absurd q.2 (by omega), Or.inl⟩
  have stay : insR R x vs = R → Q [.int .i64 (if 1 ≤ x ∧ R.full = false then R.next else 0), .int .i64 (insE R x)] h := fun e => hQ h (by rw [e, same]; exact ⟨⟨m, C, hc, hT⟩, hR⟩) (Ks.refl _ _)
  unfold insE at hQ stay
  intro J1 hJ1
  rw [if_neg (by simp)]
  refine hJ1 _ _ ?_
  by_cases hx : x < 1
  · rw [if_pos (by simpa using hx)]
    have := stay (by unfold insR; rw [if_neg (by omega)])
    rw [if_neg (by omega), if_neg (by omega)] at this
    exact this
  · rw [if_neg (by simpa using hx)]
    intro J4 hJ4
    simp only [nilW_some, addr_mk, rd_blk hc.blk]
    refine ⟨some m, rfl, es, hm, ?_⟩
    have hfull : R.full = true → Q [.int .i64 0, .int .i64 74] h := by
      intro hf
      have := stay (by unfold insR; rw [if_neg (by simp [hf])])
      rw [if_neg (by simp [hf]), if_pos (by omega), if_pos hf] at this
      exact this
    by_cases h5 : 512 ≤ R.T.length
    · rw [if_pos (by simp; omega)]
      refine hJ4 _ _ ?_
      rw [if_pos rfl]
      exact hfull (by simp [RelM.full, h5])
    · rw [if_neg (by simp; omega)]
      refine ⟨R.next, rfl, ?_⟩
      refine hJ4 _ _ ?_
      by_cases h6 : R.next = 65536
      · rw [if_pos (by simp [h6])]
        exact hfull (by simp [RelM.full, h6])
      · rw [if_neg (by simp [h6])]
        have hf : R.full = false := by simp [RelM.full, h6]; omega
        unfold insR at hQ
        rw [if_pos ⟨by omega, hf⟩, if_pos ⟨by omega, hf⟩, if_pos (by omega), if_neg (by simp [hf])] at hQ
        simp only [nilW_some, addr_mk, rd_blk hc.blk]
        refine ⟨some m, rfl, R.next, rfl, ?_⟩
        refine VClone_s hs hn fun h2 s' hs' hn' hb' e2 => ⟨s', rfl, ?_⟩
        have b2 := e2.get hc.blk (by simp)
        have m2 := hc.map.ext e2 (by simp)
        obtain ⟨es2, c2, g1, g2, g3⟩ := m2.put R.next ⟨x, 0, s'⟩
        simp only [rd_blk b2]
        refine ⟨rfl, rfl, m, es2, c2, rfl, g1, g2, ?_⟩
        have hmr : m ≠ r := HpC.kmr ⟨C, hc⟩
        refine setI g1 fun h3 s3 k3 e3 => ?_
        have g3 := g3 h3 k3
        have b3 := e3.get b2 (by simpa using hmr.symm)
        simp only [rd_blk b3]
        refine ⟨R.next, rfl, ?_⟩
        rw [wrap64 (by omega) (by omega)]
        refine st_blk b3 (by simp) fun h4 s4 b4 e4 => ?_
        simp only [rd_blk b4]
        refine ⟨R.next + 1, rfl, ?_⟩
        rw [show R.next + 1 - 1 = R.next by omega, wrap64 (by omega) (by omega)]
        have e5 : Ext [m, r] h2 h4 := (e3.mono (by simp)).trans e4 (by simp)
        have e6 : Ext [m, r] h h4 := (e2.mono (by simp)).trans e5 (by simp)
        have ne : ∀ {g : Hp} {s : Sl} {us : List X.V4}, Ext [m, r] g h4 → (∃ es c, g[m]? = some (.map es c)) → Blk g r #[.map (some m), .int .i64 R.next] T_heap_Rel → RowAt g s us → RowAt h4 s us := fun eg ⟨es, c, q1⟩ q2 hs => by
          refine hs.ext eg (Other.two q1 (by intro c fz e; cases e) q2 ?_)
          intro c fz e
          simp [T_heap_Rel, T_api_Value] at e
        have hme : ∃ es c, h[m]? = some (.map es c) := by obtain ⟨es, c, q, _⟩ := hc.map; exact ⟨es, c, q⟩
        refine hQ h4 ⟨⟨m, C ++ [(R.next, ⟨x, 0, s'⟩, vs)], ⟨by simpa [RelM.ins] using b4, ?_, ?_, Or.inl hc.ir, Or.inl hc.im, fun b hb => hb.elim (fun q => by have := hc.lt b q; have := e6.sz; omega) fun q => q.2⟩, by simp [RelM.ins, hT, amap, absT]⟩, hR.ins x vs hf⟩
          (ks_ext e6 fun b hb _ => by simp at hb; rcases hb with rfl | rfl <;> first | exact hc.im | exact hc.ir)
        · have := g3.ext e4 (by simpa using hmr)
          rw [aput_new (by rw [keys_amap]; have := hR.nin; rw [hT, keys_amap] at this; exact this)] at this
          simpa [amap] using this
        · intro q hq
          rw [List.mem_append] at hq
          rcases hq with hq | hq
          · exact ⟨ne e6 hme hc.blk (hc.rows q hq).1, (hc.rows q hq).2.1, fun b hb => Or.inl ((hc.rows q hq).2.2 b hb)⟩
          · simp at hq; subst hq
            have hz4 : h2.size ≤ h4.size := by omega
            have hn2 : s'.n = s.n := hn'
            refine ⟨ne e5 ⟨es2, c2, g1⟩ b2 hs', (by show s'.n ≤ 2 ^ 20; omega), fun b hb => Or.inr ?_⟩
            have := hb' b hb
            omega
end
end Go.Lift.T
namespace Go.Lift.T
open Go Go.Proofs Go.RowKit Go.Lift.E14
set_option maxRecDepth 100000
inductive Tg
  | no | st | ss | nm
  | rl (n : Nat) | hp (n : Nat) | ix (n j : Nat)
  deriving DecidableEq
structure EC where
  eb : Nat
  ix : Nat
  name : ByteArray
  col : ByteArray
  uq : Bool
  st : Int
  mr : Int
  dr : Int
  lf : X.LeafM
structure RC where
  rb : Nat
  hr : Nat
  hp : RelM
  es : List EC
structure TC where
  s : Nat
  rm : Nat
  ss : Nat
  cb : Nat
  t : Nat
  e : Nat
  nmb : Nat
  lkb : Nat
  M : SsiM
  R : List RC
  fan : Int
abbrev pt (b : Nat) : Value := .pointer (some ⟨b, 0, none⟩)
def encX (e : EC) : Array Value := #[.string e.name, .string e.col, .bool e.uq, .int .i64 e.st, .int .i64 e.mr, .int .i64 e.dr, pt e.ix]
abbrev encPt (e : EC) : List Value := [pt e.eb]
def relsF : Nat → List RC → List (Int × Nat)
  | _, [] => []
  | i, r :: l => ((i : Int) + 1, r.rb) :: relsF (i + 1) l
def relAt (R : List RC) (n : Int) : Option RC := if 1 ≤ n then R[(n - 1).toNat]? else none
theorem relsF_len : ∀ (R : List RC) (i : Nat), (relsF i R).length = R.length
  | [], _ => rfl
  | _ :: R, i => by rw [relsF, List.length_cons, relsF_len R, List.length_cons]
theorem relsF_find : ∀ (R : List RC) (i : Nat) (n : Int), (i : Int) + 1 ≤ n → afind (relsF i R) n = (R[(n - 1 - i).toNat]?).map RC.rb
  | [], i, n, _ => by simp [relsF, afind]
  | r :: R, i, n, h => by
    rw [relsF, afind]
    by_cases e : n = (i : Int) + 1
    · rw [if_pos e, show (n - 1 - (i : Int)).toNat = 0 by omega]
      rfl
    · rw [if_neg e, relsF_find R (i + 1) n (by omega), show (n - 1 - (i : Int)).toNat = (n - 1 - ((i + 1 : Nat) : Int)).toNat + 1 by omega]
      rfl
theorem relsF_low : ∀ (R : List RC) (i : Nat) (n : Int), n ≤ (i : Int) → afind (relsF i R) n = none
  | [], i, n, _ => rfl
  | r :: R, i, n, h => by rw [relsF, afind, if_neg (by omega), relsF_low R (i + 1) n (by omega)]
theorem relsF_at (R : List RC) (n : Int) : afind (relsF 0 R) n = (relAt R n).map RC.rb := by
  unfold relAt
  by_cases h : 1 ≤ n
  · rw [if_pos h, relsF_find R 0 n (by omega), show (n - 1 - ((0 : Nat) : Int)).toNat = (n - 1).toNat by omega]
  · rw [if_neg h, relsF_low R 0 n (by omega)]
    rfl
theorem relsF_app (r : RC) : ∀ (R : List RC) (i : Nat), relsF i (R ++ [r]) = relsF i R ++ [(((i + R.length : Nat) : Int) + 1, r.rb)]
  | [], i => rfl
  | a :: R, i => by rw [List.cons_append, relsF, relsF_app r R, relsF, List.cons_append, List.length_cons, show i + 1 + R.length = i + (R.length + 1) by omega]
theorem relsF_same : ∀ (R R' : List RC) (i : Nat), R.map RC.rb = R'.map RC.rb → relsF i R = relsF i R'
  | [], [], _, _ => rfl
  | [], _ :: _, _, h => by simp at h
  | _ :: _, [], _, h => by simp at h
  | a :: R, b :: R', i, h => by
    simp only [List.map_cons, List.cons.injEq] at h
    rw [relsF, relsF, h.1, relsF_same R R' (i + 1) h.2]
/-- The store itself, and which relations there are. -/
def StP (C : TC) : Part := fun o h => o C.s ∧ o C.rm ∧ Blk h C.s #[pt C.cb, pt C.nmb, pt C.lkb, pt C.ss, .map (some C.rm), .int .i64 C.fan] T_table_Store ∧ IsMap encI pt h C.rm (relsF 0 C.R)
/-- A relation and the definitions of its indexes. -/
def RlP (r : RC) : Part := fun o h => (∀ b, o b → b < h.size) ∧ o r.rb ∧ ∃ l : Sl, Blk h r.rb #[pt r.hr, .slice l.a l.n l.c] T_table_rel ∧ Own T_ptable_entries 1 encPt 0 h l r.es ∧ (∀ b ∈ sBlk l, o b ∧ b ≠ r.rb ∧ ∀ e ∈ r.es, b ≠ e.eb) ∧
  (∀ e ∈ r.es, o e.eb ∧ e.eb ≠ r.rb ∧ Blk h e.eb (encX e) T_table_entries) ∧ (r.es.map EC.eb).Nodup
def oP {α : Type} (f : α → Part) : Option α → Part
  | some a => f a
  | none => fun _ _ => True
theorem oP_ok {α : Type} {f : α → Part} (hf : ∀ a, PartOK (f a)) : ∀ x, PartOK (oP f x)
  | some a => hf a
  | none => fun _ _ _ _ _ _ => trivial
def entAt (C : TC) (n j : Nat) : Option EC := (C.R[n]?).bind fun r => r.es[j]?
def tX (NP : Part) (C : TC) : Tg → Part
  | .no => fun _ _ => True
  | .st => StP C
  | .ss => SsP C.ss C.cb C.t C.e C.M
  | .nm => NP
  | .rl n => oP RlP C.R[n]?
  | .hp n => oP (fun r => HpP r.hr r.hp) C.R[n]?
  | .ix n j => oP (fun e => IxP e.ix e.lf) (entAt C n j)
section
variable {o : Nat → Prop} {h h' : Hp} {NP : Part} {G G' : Nat → Prop} {C : TC}
theorem StP.ok : PartOK (StP C) := fun _ _ _ ⟨a, b, c, d⟩ hk _ => ⟨a, b, blk_kg c (hk _ a), map_kg d (hk _ b)⟩
theorem RlP.ok {r : RC} : PartOK (RlP r) := fun _ _ _ ⟨g, a, l, b, c, d, e, f⟩ hk hz =>
  ⟨fun b hb => Nat.lt_of_lt_of_le (g b hb) hz, a, l, blk_kg b (hk _ a), own_kg c fun b hb => hk b (d b hb).1, d, fun x hx => ⟨(e x hx).1, (e x hx).2.1, blk_kg (e x hx).2.2 (hk _ (e x hx).1)⟩, f⟩
theorem tX_ok (hN : PartOK NP) : ∀ k, PartOK (tX NP C k)
  | .no => fun _ _ _ _ _ _ => trivial
  | .st => StP.ok
  | .ss => SsP.ok
  | .nm => hN
  | .rl _ => oP_ok (fun _ => RlP.ok) _
  | .hp _ => oP_ok (fun _ => HpP.ok) _
  | .ix _ _ => oP_ok (fun _ => IxP.ok) _
/-- Parts that stand in memory, apart from others' blocks. -/
def TbX (X : Tg → Part) (G : Nat → Prop) (h : Hp) : Prop := (∀ k, PartOK (X k)) ∧ ∃ w, (∀ b, G b → b < h.size ∧ w b = Tg.no) ∧ Parts X .no w h
abbrev Tb (NP : Part) (G : Nat → Prop) (h : Hp) (C : TC) : Prop := TbX (tX NP C) G h
def updX (X : Tg → Part) (k : Tg) (P : Part) : Tg → Part := fun j => if j = k then P else X j
theorem updX_k (X : Tg → Part) (k : Tg) (P : Part) : updX X k P k = P := if_pos rfl
theorem updX_ne {X : Tg → Part} {k : Tg} {P : Part} {j : Tg} (h : j ≠ k) : updX X k P j = X j := if_neg h
section
variable {X : Tg → Part}
theorem TbX.lt (hT : TbX X G h) {b : Nat} (hb : G b) : b < h.size := by
  obtain ⟨_, w, hG, _⟩ := hT
  exact (hG b hb).1
/-- What is others' changes, or is new. -/
theorem TbX.step {S : List Nat} (hT : TbX X G h) (he : Ext S h h') (hS : ∀ b ∈ S, b < h.size → G b) (hG' : ∀ b, G' b → (G b ∨ h.size ≤ b) ∧ b < h'.size) : TbX X G' h' := by
  obtain ⟨hN, w, hG, hP⟩ := hT
  refine ⟨hN, wz w h .no, fun b hb => ⟨(hG' b hb).2, ?_⟩, hP.put hN (ks_ext he fun b hb hlt => hG b (hS b hb hlt)) (fun g => absurd rfl g) fun _ _ => rfl⟩
  rcases (hG' b hb).1 with g | g
  · rw [wz_lt (hG b g).1]
    exact (hG b g).2
  · exact wz_ge g
theorem TbX.grow (hT : TbX X G h) (he : Ext [] h h') (hG' : ∀ b, G' b → (G b ∨ h.size ≤ b) ∧ b < h'.size) : TbX X G' h' := hT.step he (by simp) hG'
theorem TbX.e0 (hT : TbX X G h) (he : Ext [] h h') : TbX X G h' := hT.grow he fun _ hb => ⟨Or.inl hb, Nat.lt_of_lt_of_le (hT.lt hb) he.sz⟩
theorem TbX.eS {S : List Nat} (hT : TbX X G h) (he : Ext S h h') (hS : ∀ b ∈ S, b < h.size → G b) : TbX X G h' := hT.step he hS fun _ hb => ⟨Or.inl hb, Nat.lt_of_lt_of_le (hT.lt hb) he.sz⟩
theorem TbX.less (hT : TbX X G h) (hG : ∀ b, G' b → G b) : TbX X G' h := hT.grow (Ext.refl _ _) fun b hb => ⟨Or.inl (hG b hb), hT.lt (hG b hb)⟩
/-- What is new is others'. -/
theorem TbX.more (hT : TbX X G h) (he : Ext [] h h') : TbX X (GX G h h') h' := hT.grow he fun b hb => by
  rcases hb with g | g
  · exact ⟨Or.inl g, Nat.lt_of_lt_of_le (hT.lt g) he.sz⟩
  · exact ⟨Or.inr g.1, g.2⟩
theorem TbX.kg (hT : TbX X G h) (he : Ext [] h h') : KG G h h' := kg_ext0 he fun _ hb => hT.lt hb
/-- One part is asked, or changed. -/
theorem TbX.on (hT : TbX X G h) (k : Tg) (hk : k ≠ .no) : ∃ o, X k o h ∧ (∀ b, o b → b < h.size ∧ ¬ G b) ∧ ∀ {h' : Hp} {Y : Tg → Part}, PartOK (Y k) → Ks o h h' → Y k (nw o h h') h' → (∀ j, j ≠ k → Y j = X j) → TbX Y G h' ∧ KG G h h' := by
  obtain ⟨hN, w, hG, hP⟩ := hT
  refine ⟨own w h k, hP k hk, fun b hb => ⟨hb.1, fun g => hk (hb.2.symm.trans (hG b g).2)⟩, fun {h' Y} hY hs hn he => ⟨⟨fun j => ?_, wz w h k, fun b hb => ⟨Nat.lt_of_lt_of_le (hG b hb).1 hs.sz, ?_⟩, hP.put hN hs (fun _ => hn) he⟩, hs.sz, fun b hb => ?_⟩⟩
  · by_cases e : j = k
    · rw [e]
      exact hY
    · rw [he j e]
      exact hN j
  · rw [wz_lt (hG b hb).1]
    exact (hG b hb).2
  · exact hs.old b (hG b hb).1 fun g => hk (g.2.symm.trans (hG b hb).2)
end
/-- One part of a store is asked, or changed. -/
theorem Tb.on (hT : Tb NP G h C) (k : Tg) (hk : k ≠ .no) : ∃ o, tX NP C k o h ∧ (∀ b, o b → b < h.size ∧ ¬ G b) ∧ ∀ {h' : Hp} {C' : TC}, Ks o h h' → tX NP C' k (nw o h h') h' → (∀ j, j ≠ k → tX NP C' j = tX NP C j) → Tb NP G h' C' ∧ KG G h h' := by
  obtain ⟨o, h1, h2, h3⟩ := TbX.on hT k hk
  exact ⟨o, h1, h2, fun {h' C'} a b c => h3 (tX_ok (hT.1 .nm) k) a b c⟩
theorem Tb.st (hT : Tb NP G h C) : Blk h C.s #[pt C.cb, pt C.nmb, pt C.lkb, pt C.ss, .map (some C.rm), .int .i64 C.fan] T_table_Store ∧ IsMap encI pt h C.rm (relsF 0 C.R) := by
  obtain ⟨_, w, _, hP⟩ := hT
  exact (hP .st nofun).2.2
theorem Tb.ssi (hT : Tb NP G h C) : ∃ G', Ss G' h C.ss C.cb C.t C.e C.M := by
  obtain ⟨_, w, _, hP⟩ := hT
  exact ⟨_, (hP .ss nofun).2⟩
theorem Tb.cl (hT : Tb NP G h C) : ClAt h C.cb C.M.L := by
  obtain ⟨_, hS⟩ := Tb.ssi hT
  exact hS.cl
theorem Tb.rl (hT : Tb NP G h C) {n : Nat} {r : RC} (hr : C.R[n]? = some r) : ∃ o, RlP r o h := by
  obtain ⟨_, w, _, hP⟩ := hT
  have := hP (.rl n) nofun
  unfold tX at this
  simp only [hr] at this
  exact ⟨_, this⟩
end
end Go.Lift.T
namespace Go.Lift.T
open Go Go.Proofs Go.RowKit Go.Lift.E14
set_option maxRecDepth 100000
def insS (cf : EC → EC → Int) (x : EC) : List EC → List EC → List EC
  | [], A => x :: A
  | y :: R, A => if cf x y < 0 then insS cf x R (y :: A) else (y :: R).reverse ++ x :: A
def isort (cf : EC → EC → Int) (xs : List EC) : List EC := xs.foldl (fun acc x => insS cf x acc.reverse []) []
theorem insS_perm (cf : EC → EC → Int) (x : EC) : ∀ (R A : List EC), (insS cf x R A).Perm (R.reverse ++ x :: A)
  | [], A => by simp [insS]
  | y :: R, A => by
    unfold insS
    split
    · refine (insS_perm cf x R (y :: A)).trans ?_
      rw [List.reverse_cons, List.append_assoc]
      exact List.Perm.append_left _ (List.Perm.swap _ _ _)
    · exact List.Perm.refl _
theorem isort_perm (cf : EC → EC → Int) (xs : List EC) : (isort cf xs).Perm xs := by
  have key : ∀ (xs acc : List EC), (xs.foldl (fun acc x => insS cf x acc.reverse []) acc).Perm (acc ++ xs) := by
    intro xs
    induction xs with
    | nil => intro acc; simp
    | cons x xs ih =>
      intro acc
      rw [List.foldl_cons]
      refine (ih _).trans ?_
      refine ((insS_perm cf x acc.reverse []).append_right xs).trans ?_
      rw [List.reverse_reverse, List.append_assoc]
      simp
  exact key xs []
theorem isort_take (cf : EC → EC → Int) (xs : List EC) {i : Nat} (hi : i < xs.length) : isort cf (xs.take (i + 1)) = insS cf xs[i] (isort cf (xs.take i)).reverse [] := by
  unfold isort
  rw [List.take_succ_eq_append_getElem hi, List.foldl_append]
  rfl
theorem encPt_one (e : EC) : ∀ v ∈ encPt e, oneCell v = true := by intro v hv; simp at hv; subst hv; rfl
section
variable {lo : Nat} {h : Hp} {l : Sl} {xs : List EC} {Q : List Value → Hp → Prop}
theorem rdE (ho : Own T_ptable_entries 1 encPt lo h l xs) {i : Nat} (hi : i < xs.length) : ∃ a, l.a = some a ∧ rd h (Addr.add a (i * 1)) = some (pt xs[i].eb) := by
  obtain ⟨b, o, ha, hr⟩ := ho.sl.rd (fun _ => rfl) hi
  refine ⟨_, ha, ?_⟩
  have := hr 0 (by omega)
  rw [addr_mk]
  simpa using this
theorem insSort_t {d : Nat} {e : Array Value} {cf : EC → EC → Int} {c : Int} (hc : c = (xs.length : Int)) (ho : Own T_ptable_entries 1 encPt lo h l xs) (hl : xs.length < 2 ^ 30) (St : Hp → Prop) (hs : St h) (hst : ∀ g g', St g → Ext (sBlk l) g g' → St g')
    (hcmp : ∀ x y g K, x ∈ xs → y ∈ xs → St g → (∀ g', Ext [] g g' → K [.int .i64 (cf x y)] g') → Fn PP d ((#[] ++ #[pt x.eb, pt y.eb]) ++ e) g K)
    (hQ : ∀ h', St h' → Own T_ptable_entries 1 encPt lo h' l (isort cf xs) → Ext (sBlk l) h h' → Q [] h') : S_slices_insertionSortCmpFunc_ptable_entries l 0 c d e h Q := by
  subst hc
  refine O_slices_insertionSortCmpFunc_ptable_entries _ _ _ _ _ ?_
  delta F_slices_insertionSortCmpFunc_ptable_entries rI rB rS rP rM rL vI vB vS vP vM vL vC vA ad nb gb wi bl bz tn isn sib pu oc
  have hn := ho.1
  intro X1 hX1
  have outer : ∀ k i g, (k + i = xs.length ∨ k = 0 ∧ xs.length ≤ i) → 1 ≤ i → i ≤ 2 ^ 31 → St g → Ext (sBlk l) h g → Own T_ptable_entries 1 encPt lo g l (isort cf (xs.take i) ++ xs.drop i) → X1 [.int .i64 (i : Int)] g := by
    intro k
    induction k with
    | zero =>
      intro i g hi h1 h2 sg eg og
      refine hX1 _ _ ?_
      rw [if_neg (by simp; omega)]
      rw [List.take_of_length_le (by omega), List.drop_of_length_le (by omega), List.append_nil] at og
      exact hQ g sg og eg
    | succ k ih =>
      intro i g hi h1 h2 sg eg og
      have hi' : i < xs.length := by omega
      refine hX1 _ _ ?_
      rw [if_pos (by simp; omega)]
      intro X4 hX4
      have hlen : (isort cf (xs.take i)).length = i := by rw [(isort_perm cf _).length_eq, List.length_take]; omega
      have hmem : ∀ y ∈ isort cf (xs.take i), y ∈ xs := fun y hy => List.mem_of_mem_take ((isort_perm cf _).mem_iff.1 hy)
      have inner : ∀ (R A : List EC) (g : Hp), R.length + A.length = i → (∀ y ∈ R, y ∈ xs) → St g → Ext (sBlk l) h g → Own T_ptable_entries 1 encPt lo g l (R.reverse ++ xs[i] :: (A ++ xs.drop (i + 1))) →
          insS cf xs[i] R A = isort cf (xs.take (i + 1)) → X4 [.int .i64 (R.length : Int)] g := by
        intro R
        induction R with
        | nil =>
          intro A g hRA _ sg eg og hA
          refine hX4 _ _ ?_
          intro J7 hJ7
          rw [if_neg (by simp)]
          refine hJ7 _ _ ?_
          rw [if_neg (by simp)]
          rw [wrap64 (by omega) (by omega)]
          have := ih (i + 1) g (by omega) (by omega) (by omega) sg eg (by
            rw [← hA]
            simpa [insS] using og)
          simpa using this
        | cons y R ihR =>
          intro A g hRA hR sg eg og hA
          refine hX4 _ _ ?_
          intro J7 hJ7
          simp only [List.length_cons] at hRA
          have hxs : ((y :: R).reverse ++ xs[i] :: (A ++ xs.drop (i + 1))).length = xs.length := by simp; omega
          have gx : ((y :: R).reverse ++ xs[i] :: (A ++ xs.drop (i + 1)))[R.length + 1]'(by rw [hxs]; omega) = xs[i] := by simp [List.getElem_append_right]
          have gy : ((y :: R).reverse ++ xs[i] :: (A ++ xs.drop (i + 1)))[R.length]'(by rw [hxs]; omega) = y := by simp [List.getElem_append_right]
          have e1 : IntKind.wrap .i64 (((y :: R).length : Int) - 1) = (R.length : Int) := by rw [wrap64 (by simp only [List.length_cons]; omega) (by simp only [List.length_cons]; omega)]; simp
          have e2 : Int.toNat ((y :: R).length : Int) = R.length + 1 := by simp
          obtain ⟨a, ha, hx⟩ := rdE og (i := R.length + 1) (by rw [hxs]; omega)
          obtain ⟨a', ha', hy⟩ := rdE og (i := R.length) (by rw [hxs]; omega)
          rw [ha] at ha'
          obtain rfl := Option.some.inj ha'
          rw [gx] at hx
          rw [gy] at hy
          rw [if_pos (by simp), ha]
          simp only [nilW_some, e1, e2, Int.toNat_natCast]
          refine ⟨by omega, by simp only [List.length_cons]; omega, _, hx, by omega, by omega, _, hy, ?_⟩
          refine hcmp xs[i] y g _ (List.getElem_mem _) (hR y (List.mem_cons_self)) sg fun g1 f1 => ⟨_, rfl, ?_⟩
          have sg1 := hst _ _ sg (f1.mono (by simp))
          have og1 := og.ext0 f1
          have eg1 := eg.trans0 f1
          refine hJ7 _ _ ?_
          obtain ⟨a2, ha2, hx1⟩ := rdE og1 (i := R.length + 1) (by rw [hxs]; omega)
          obtain ⟨a3, ha3, hy1⟩ := rdE og1 (i := R.length) (by rw [hxs]; omega)
          rw [ha] at ha2 ha3
          obtain rfl := Option.some.inj ha2
          obtain rfl := Option.some.inj ha3
          rw [gx] at hx1
          rw [gy] at hy1
          by_cases hc : cf xs[i] y < 0
          · rw [if_pos (by simpa using hc), ha]
            simp only [nilW_some, e1, e2, Int.toNat_natCast]
            refine ⟨by omega, by omega, _, hy1, by omega, by simp only [List.length_cons]; omega, _, hx1, by omega, by simp only [List.length_cons]; omega, ?_⟩
            obtain ⟨a4, ha4, w1⟩ := og1.set (fun _ => rfl) (i := R.length + 1) (x := y) (by rw [hxs]; omega) (K := fun h15 => 0 ≤ (R.length : Int) ∧ (R.length : Int) < (l.n : Int) ∧ (stOk h15 (Addr.add a (R.length * 1)) 1 ∧ wth (wrs h15 (Addr.add a (R.length * 1)) 0 [pt xs[i].eb]) fun h17 => X4 [.int .i64 (R.length : Int)] h17)) fun g2 og2 f2 => by
                refine ⟨by omega, by omega, ?_⟩
                obtain ⟨a5, ha5, w2⟩ := og2.set (fun _ => rfl) (i := R.length) (x := xs[i]) (by rw [List.length_set, hxs]; omega) (K := fun h17 => X4 [.int .i64 (R.length : Int)] h17) fun g3 og3 f3 => by
                    have eg3 := (eg1.trans f2 fun b hb _ => hb).trans f3 fun b hb _ => hb
                    refine ihR (y :: A) g3 (by simp; omega) (fun z hz => hR z (List.mem_cons_of_mem _ hz)) (hst _ _ (hst _ _ sg1 f2) f3) eg3 ?_ ?_
                    · have eq : ((((y :: R).reverse ++ xs[i] :: (A ++ xs.drop (i + 1))).set (R.length + 1) y).set R.length xs[i]) = R.reverse ++ xs[i] :: ((y :: A) ++ xs.drop (i + 1)) := by
                        simp [List.set_append]
                      rw [← eq]
                      exact og3
                    · rw [← hA, insS, if_pos hc]
                rw [ha] at ha5
                obtain rfl := Option.some.inj ha5
                exact w2
            rw [ha] at ha4
            obtain rfl := Option.some.inj ha4
            exact w1
          · rw [if_neg (by simpa using hc)]
            rw [wrap64 (by omega) (by omega)]
            rw [insS, if_neg hc] at hA
            have := ih (i + 1) g1 (by omega) (by omega) (by omega) sg1 eg1 (by
              rw [← hA]
              simpa using og1)
            simpa using this
      have := inner (isort cf (xs.take i)).reverse [] g (by simp [hlen]) (fun y hy => hmem y (by simpa using hy)) sg eg (by
        rw [List.reverse_reverse, List.nil_append, ← List.drop_eq_getElem_cons hi']
        exact og) (isort_take cf xs hi').symm
      rw [List.length_reverse, hlen] at this
      exact this
  have start : Own T_ptable_entries 1 encPt lo h l (isort cf (xs.take 1) ++ xs.drop 1) := by
    cases xs with
    | nil => exact ho
    | cons x xs => exact ho
  have := outer (xs.length - 1) 1 h (by omega) (by omega) (by decide) hs (Ext.refl _ _) start
  rw [wrap64 (by decide) (by decide)]
  exact this
end
end Go.Lift.T
namespace Go.Lift.T
open Go Go.Proofs Go.RowKit Go.Lift.E14
set_option maxRecDepth 100000
section
variable {lo : Nat} {h : Hp} {l : Sl} {xs : List EC} {Q : List Value → Hp → Prop}
theorem sortE_t {d : Nat} {e : Array Value} {cf : EC → EC → Int} (ho : Own T_ptable_entries 1 encPt lo h l xs) (hl : xs.length < 20) (St : Hp → Prop) (hs : St h) (hst : ∀ g g', St g → Ext (sBlk l) g g' → St g')
    (hcmp : ∀ x y g K, x ∈ xs → y ∈ xs → St g → (∀ g', Ext [] g g' → K [.int .i64 (cf x y)] g') → Fn PP d ((#[] ++ #[pt x.eb, pt y.eb]) ++ e) g K)
    (hQ : ∀ h', St h' → Own T_ptable_entries 1 encPt lo h' l (isort cf xs) → Ext (sBlk l) h h' → Q [] h') : S_slices_SortStableFunc_sptable_entries_ptable_entries l d e h Q := by
  refine O_slices_SortStableFunc_sptable_entries_ptable_entries _ _ _ ?_
  delta F_slices_SortStableFunc_sptable_entries_ptable_entries rI rB rS rP rM rL vI vB vS vP vM vL vC vA ad nb gb wi bl bz tn isn sib pu oc
  refine O_slices_stableCmpFunc_ptable_entries _ _ _ _ ?_
  delta F_slices_stableCmpFunc_ptable_entries rI rB rS rP rM rL vI vB vS vP vM vL vC vA ad nb gb wi bl bz tn isn sib pu oc
  have hn := ho.1
  intro X1 hX1
  refine hX1 _ _ _ ?_
  rw [if_neg (by simp; omega)]
  refine insSort_t (by omega) ho (by omega) St hs hst hcmp fun h1 s1 o1 e1 => ⟨rfl, ?_⟩
  intro X9 hX9
  refine hX9 _ _ ?_
  rw [if_neg (by simp; omega)]
  exact ⟨rfl, hQ h1 s1 o1 e1⟩
end
def standsB (L : LM) (e : EC) : Bool := decide ((txL L e.mr).state ≠ 3) && (decide (e.dr = 0) || decide ((txL L e.dr).state ≠ 2))
abbrev cfE (a b : EC) : Int := cmpS a.name b.name
def standM (L : LM) (es : List EC) : List EC := isort cfE (es.filter (standsB L))
def standR (C : TC) (n : Int) : List EC := match relAt C.R n with | some r => standM C.M.L r.es | none => []
/-- Not too many indexes. -/
def FewE (C : TC) : Prop := ∀ r ∈ C.R, r.es.length < 2 ^ 30 ∧ (r.es.filter (standsB C.M.L)).length < 20
theorem relAt_mem {R : List RC} {n : Int} {r : RC} (h : relAt R n = some r) : R[(n - 1).toNat]? = some r ∧ r ∈ R ∧ 1 ≤ n := by
  unfold relAt at h
  split at h
  · rename_i h1
    exact ⟨h, List.mem_of_getElem? h, h1⟩
  · cases h
section
variable {NP : Part} {G : Nat → Prop} {h : Hp} {C : TC} {Q : List Value → Hp → Prop}
theorem rdSt (hT : Tb NP G h C) (k : Nat) : rd h (Addr.add ⟨C.s, 0, none⟩ k) = (#[pt C.cb, pt C.nmb, pt C.lkb, pt C.ss, Value.map (some C.rm), .int .i64 C.fan] : Array Value)[k]? := by
  rw [addr_mk, rd_blk hT.st.1, Nat.zero_add]
theorem rel_t (hT : Tb NP G h C) (n : Int) (hQ : Q [match relAt C.R n with | some r => pt r.rb | none => .pointer none] h) : S_table_Store_rel (some ⟨C.s, 0, none⟩) n h Q := by
  refine O_table_Store_rel _ _ ?_
  delta F_table_Store_rel rI rB rS rP rM rL vI vB vS vP vM vL vC vA ad nb gb wi bl bz tn isn sib pu oc
  rw [if_neg (by simp)]
  simp only [nilW_some]
  obtain ⟨es, hm, he⟩ := hT.st.2.mapAt
  refine ⟨_, rdSt hT 4, es, hm, keysLike_ents he n, ?_⟩
  have := mgetD_ents he n (.pointer none)
  rw [relsF_at] at this
  cases hr : relAt C.R n with
  | none =>
    rw [hr] at this hQ
    exact ⟨none, this, hQ⟩
  | some r =>
    rw [hr] at this hQ
    exact ⟨some ⟨r.rb, 0, none⟩, this, hQ⟩
theorem Ssi_t (hT : Tb NP G h C) (hQ : Q [pt C.ss] h) : S_table_Store_Ssi (some ⟨C.s, 0, none⟩) h Q := by
  refine O_table_Store_Ssi _ ?_
  delta F_table_Store_Ssi rI rB rS rP rM rL vI vB vS vP vM vL vC vA ad nb gb wi bl bz tn isn sib pu oc
  rw [if_neg (by simp)]
  simp only [nilW_some]
  exact ⟨_, rdSt hT 3, hQ⟩
theorem stands_t (hT : Tb NP G h C) {e : EC} (he : Blk h e.eb (encX e) T_table_entries) (hQ : ∀ h', Ext [] h h' → Q [.bool (standsB C.M.L e)] h') : S_table_Store_stands (some ⟨C.s, 0, none⟩) (some ⟨e.eb, 0, none⟩) h Q := by
  refine O_table_Store_stands _ _ ?_
  delta F_table_Store_stands rI rB rS rP rM rL vI vB vS vP vM vL vC vA ad nb gb wi bl bz tn isn sib pu oc
  simp only [nilW_some, addr0]
  have rE : ∀ {g : Hp}, Ext [] h g → ∀ k, rd g (Addr.add ⟨e.eb, 0, none⟩ k) = (encX e)[k]? := fun eg k => by rw [addr_mk, rd_blk (eg.get he (by simp)), Nat.zero_add]
  refine ⟨_, by simpa using rdSt hT 0, e.mr, rE (Ext.refl _ _) 4, ?_⟩
  refine State_s hT.cl e.mr fun h1 e1 => ⟨_, rfl, ?_⟩
  unfold standsB at hQ
  by_cases h1s : (txL C.M.L e.mr).state = 3
  · rw [if_neg (by simp [h1s])]
    have := hQ h1 e1
    rw [decide_eq_false (by simp [h1s])] at this
    exact this
  · rw [if_pos (by simpa using h1s)]
    rw [decide_eq_true h1s, Bool.true_and] at hQ
    refine ⟨e.dr, rE e1 5, ?_⟩
    by_cases hd : e.dr = 0
    · rw [if_pos (by simpa using hd)]
      have := hQ h1 e1
      rw [decide_eq_true hd, Bool.true_or] at this
      exact this
    · rw [if_neg (by simpa using hd)]
      rw [decide_eq_false hd, Bool.false_or] at hQ
      have hT1 := hT.e0 e1
      refine ⟨_, by simpa using rdSt hT1 0, e.dr, rE e1 5, ?_⟩
      refine State_s (Tb.cl hT1) e.dr fun h2 e2 => ⟨_, rfl, ?_⟩
      have := hQ h2 (e1.trans0 e2)
      rw [show ((txL C.M.L e.dr).state != 2) = decide ((txL C.M.L e.dr).state ≠ 2) by by_cases q : (txL C.M.L e.dr).state = 2 <;> simp [q]]
      exact this
theorem standing1_t {a b : EC} (ha : Blk h a.eb (encX a) T_table_entries) (hb : Blk h b.eb (encX b) T_table_entries) (hQ : Q [.int .i64 (cfE a b)] h) : Fn PP 104 ((#[] ++ #[pt a.eb, pt b.eb]) ++ #[]) h Q := by
  refine O_table_Store_standing_1 (some ⟨a.eb, 0, none⟩) (some ⟨b.eb, 0, none⟩) ?_
  delta F_table_Store_standing_1 rI rB rS rP rM rL vI vB vS vP vM vL vC vA ad nb gb wi bl bz tn isn sib pu oc
  simp only [nilW_some, addr0]
  refine ⟨a.name, by rw [rd_blk ha]; rfl, b.name, by rw [rd_blk hb]; rfl, ?_⟩
  exact CmpS_s _ _ ⟨_, rfl, hQ⟩
theorem standing_t (hT : Tb NP G h C) (hf : FewE C) (n : Int) (hQ : ∀ h' l, Ext [] h h' → Own T_ptable_entries 1 encPt h.size h' l (standR C n) → Q [.slice l.a l.n l.c] h') : S_table_Store_standing (some ⟨C.s, 0, none⟩) n h Q := by
  refine O_table_Store_standing _ _ ?_
  delta F_table_Store_standing rI rB rS rP rM rL vI vB vS vP vM vL vC vA ad nb gb wi bl bz tn isn sib pu oc
  refine rel_t hT n ?_
  unfold standR at hQ
  cases hr : relAt C.R n with
  | none =>
    rw [hr] at hQ
    exact ⟨none, rfl, by rw [if_pos (by rfl)]; exact hQ h ⟨none, 0, 0⟩ (Ext.refl _ _) (Own.nil _ _)⟩
  | some r =>
    rw [hr] at hQ
    obtain ⟨o, hlt, hor, l, hb, ho, hl, hes, hnd⟩ := hT.rl (relAt_mem hr).1
    have hfew := hf r (relAt_mem hr).2.1
    refine ⟨some ⟨r.rb, 0, none⟩, rfl, ?_⟩
    rw [if_neg (by simp)]
    simp only [nilW_some]
    refine ⟨l, by rw [addr_mk, rd_blk hb]; rfl, ?_⟩
    have hn := ho.1
    intro X hX
    refine loopI2 (va := fun a : Sl => Value.slice a.a a.n a.c) r.es.length (fun i a g => Ext [] h g ∧ Own T_ptable_entries 1 encPt h.size g a ((r.es.take i).filter (standsB C.M.L))) ?_ ?_ ⟨none, 0, 0⟩ h ⟨Ext.refl _ _, Own.nil _ _⟩
    · rintro a g ⟨eg, og⟩
      refine hX a _ _ ?_
      rw [if_neg (by simp; omega)]
      rw [List.take_of_length_le (Nat.le_refl _)] at og
      have hold := own_ltG og
      refine sortE_t (cf := cfE) og (by omega) (fun k => Ext [] h k) eg (fun k k' q1 q2 => q1.trans q2 fun b hb hlt => by have := hold b hb; omega) ?_ fun h2 s2 o2 e2 => ⟨rfl, ?_⟩
      · intro x y k K hx hy sk hK
        exact standing1_t (sk.get (hes x (List.mem_filter.1 hx).1).2.2 (by simp)) (sk.get (hes y (List.mem_filter.1 hy).1).2.2 (by simp)) (hK k (Ext.refl _ _))
      · exact hQ h2 a s2 o2
    · rintro i a g hi ⟨eg, og⟩ hnext
      refine hX a _ _ ?_
      rw [if_pos (by simp; omega)]
      intro J hJ
      obtain ⟨ad, had, hrd⟩ := rdE (ho.ext0 eg) hi
      rw [had]
      simp only [nilW_some, Int.toNat_natCast]
      refine ⟨by omega, by omega, some ⟨r.es[i].eb, 0, none⟩, hrd, ?_⟩
      have hw : IntKind.wrap .i64 ((i : Int) + 1) = ((i + 1 : Nat) : Int) := by rw [wrap64 (by omega) (by omega)]; simp
      have step : ∀ (p : Bool), standsB C.M.L r.es[i] = p → (r.es.take (i + 1)).filter (standsB C.M.L) = (r.es.take i).filter (standsB C.M.L) ++ (if p = true then [r.es[i]] else []) := fun p hp => by
        rw [List.take_succ_eq_append_getElem hi, List.filter_append, List.filter_cons, hp]
        cases p <;> rfl
      refine stands_t (hT.e0 eg) (eg.get (hes r.es[i] (List.getElem_mem _)).2.2 (by simp)) fun g1 e1 => ⟨_, rfl, ?_⟩
      cases hp : standsB C.M.L r.es[i] with
      | false =>
        rw [if_pos (by rfl)]
        refine hJ a _ ?_
        rw [hw]
        refine hnext a g1 ⟨eg.trans0 e1, ?_⟩
        rw [step _ hp]
        simpa using og.ext0 e1
      | true =>
        rw [if_neg (by decide)]
        have hold := own_ltG (og.ext0 e1)
        refine app1 (T := T_ptable_entries) (sz := 1) (enc := encPt) (og.ext0 e1) (x := r.es[i]) rfl (by kernel_rfl) (fun _ => rfl) encPt_one (by have := List.length_filter_le (standsB C.M.L) (r.es.take i); rw [List.length_take] at this; omega) (by omega) (by have := (eg.trans0 e1).sz; omega) fun a' g2 o2 e2 _ => ?_
        refine hJ a' _ ?_
        rw [hw]
        refine hnext a' g2 ⟨(eg.trans0 e1).trans e2 fun b hb hlt => by have := hold b hb; omega, ?_⟩
        rw [step _ hp]
        exact o2
theorem idxE_t {f : Nat} {cs : Array Value} {p : EC → Bool} {l : Sl} {xs : List EC} (hs : Own T_ptable_entries 1 encPt 0 h l xs) (hl : xs.length ≤ 2 ^ 30)
    (hf : ∀ (x : EC) g K, x ∈ xs → Ext [] h g → (∀ g', Ext [] g g' → K [.bool (p x)] g') → Fn PP f ((#[] ++ #[pt x.eb]) ++ cs) g K)
    (hQ : ∀ h', Ext [] h h' → Q [.int .i64 (N.idxP p xs 0)] h') : S_slices_IndexFunc_sptable_entries_ptable_entries l f cs h Q := by
  refine O_slices_IndexFunc_sptable_entries_ptable_entries _ _ _ ?_
  delta F_slices_IndexFunc_sptable_entries_ptable_entries rI rB rS rP rM rL vI vB vS vP vM vL vC vA ad nb gb wi bl bz tn isn sib pu oc
  have hn := hs.1
  intro X hX
  have key : ∀ d i g, d + i = xs.length → Ext [] h g → N.idxP p xs 0 = N.idxP p (xs.drop i) i → X [.int .i64 (i : Int)] g := by
    intro d
    induction d with
    | zero =>
      intro i g hi eg ha
      refine hX _ _ ?_
      rw [if_neg (by simp; omega)]
      have := hQ g eg
      rw [ha, List.drop_of_length_le (by omega)] at this
      exact this
    | succ d ih =>
      intro i g hi eg ha
      refine hX _ _ ?_
      rw [if_pos (by simp; omega)]
      obtain ⟨a, u1, u2⟩ := rdE (hs.ext0 eg) (i := i) (by omega)
      rw [u1]
      simp only [nilW_some, Int.toNat_natCast]
      refine ⟨by omega, by omega, _, u2, ?_⟩
      have hd : xs.drop i = xs[i] :: xs.drop (i + 1) := List.drop_eq_getElem_cons (by omega)
      refine hf xs[i] g _ (List.getElem_mem _) eg fun g3 e3 => ⟨_, rfl, ?_⟩
      generalize xs[i]'(by omega) = v at hd
      rw [hd, N.idxP_cons] at ha
      by_cases hv : p v = true
      · rw [if_pos hv]
        rw [if_pos hv] at ha
        have := hQ g3 (eg.trans0 e3)
        rw [ha] at this
        exact this
      · rw [if_neg hv]
        rw [if_neg hv] at ha
        rw [wrap64 (by omega) (by omega)]
        have := ih (i + 1) g3 (by omega) (eg.trans0 e3) ha
        simpa using this
  exact key xs.length 0 h (by omega) (Ext.refl _ _) (by simp)
/-- The index of a name that stands. -/
def getM (C : TC) (n : Int) (k : ByteArray) : Option EC := (standR C n).find? fun e => decide (e.name = k)
theorem standR_mem {n : Int} {e : EC} (he : e ∈ standR C n) : ∃ (r : RC) (j : Nat), relAt C.R n = some r ∧ r.es[j]? = some e ∧ standsB C.M.L e = true := by
  unfold standR at he
  cases hr : relAt C.R n with
  | none => rw [hr] at he; cases he
  | some r =>
    rw [hr] at he
    have := (isort_perm cfE _).mem_iff.1 he
    rw [List.mem_filter] at this
    obtain ⟨j, hj⟩ := List.mem_iff_getElem?.1 this.1
    exact ⟨r, j, rfl, hj, this.2⟩
theorem standR_len (hf : FewE C) (n : Int) : (standR C n).length < 20 := by
  unfold standR
  cases hr : relAt C.R n with
  | none => simp
  | some r =>
    have := (hf r (relAt_mem hr).2.1).2
    simp only
    unfold standM
    rw [(isort_perm cfE _).length_eq]
    exact this
theorem Tb.ent (hT : Tb NP G h C) {n : Int} {e : EC} (he : e ∈ standR C n) : Blk h e.eb (encX e) T_table_entries := by
  obtain ⟨r, j, hr, hj, _⟩ := standR_mem he
  obtain ⟨o, hlt, hor, l, hb, ho, hl, hes, hnd⟩ := hT.rl (relAt_mem hr).1
  exact (hes e (List.mem_of_getElem? hj)).2.2
theorem toList_inj' {a b : ByteArray} (e : a.toList = b.toList) : a = b := btlInj e
theorem get_t (hT : Tb NP G h C) (hf : FewE C) (n : Int) (k : ByteArray) (hQ : ∀ h', Ext [] h h' → Q [match getM C n k with | some e => pt e.eb | none => .pointer none] h') : S_table_Store_get (some ⟨C.s, 0, none⟩) n k h Q := by
  refine O_table_Store_get _ _ _ ?_
  delta F_table_Store_get rI rB rS rP rM rL vI vB vS vP vM vL vC vA ad nb gb wi bl bz tn isn sib pu oc
  refine newI fun h1 s1 b1 e1 => ?_
  refine standing_t (hT.e0 e1) hf n fun h2 l e2 o2 => ⟨l, rfl, ?_⟩
  have hlen := standR_len hf n
  have b2 := e2.get b1 (by simp)
  refine idxE_t (p := fun e => decide (e.name = k)) (o2.mono (by omega)) (by omega) (fun x g K hx eg hK => ?_) fun h3 e3 => ⟨_, rfl, ?_⟩
  · refine O_table_Store_get_1 (some ⟨x.eb, 0, none⟩) ⟨h.size, 0, none⟩ ?_
    delta F_table_Store_get_1 rI rB rS rP rM rL vI vB vS vP vM vL vC vA ad nb gb wi bl bz tn isn sib pu oc
    simp only [nilW_some, addr0]
    refine ⟨x.name, by rw [rd_blk (((e1.trans0 e2).trans0 eg).get (hT.ent hx) (by simp))]; rfl, k, by rw [rd_blk (eg.get b2 (by simp))]; rfl, ?_⟩
    rw [btlEq]
    exact hK g (Ext.refl _ _)
  · have e03 := (e1.trans0 e2).trans0 e3
    have fin := hQ h3 e03
    unfold getM at fin
    rcases N.idxP_find (fun e : EC => decide (e.name = k)) (standR C n) 0 with ⟨i1, i2, _⟩ | ⟨j, i1, _, hj, i2⟩
    · rw [i1, if_neg (by decide)]
      rw [i2] at fin
      exact fin
    · rw [i1, if_pos (by simp)]
      rw [i2] at fin
      obtain ⟨a, u1, u2⟩ := rdE (o2.ext0 e3) (i := j) hj
      rw [u1]
      have hn := o2.1
      simp only [nilW_some, Nat.zero_add, Int.toNat_natCast]
      exact ⟨by omega, by omega, _, u2, fin⟩
end
end Go.Lift.T

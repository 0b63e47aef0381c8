/- Locks: all of a holder go. -/
import Derived.Test.YtgobalogbijliaaW06f
set_option linter.unusedSimpArgs false
set_option linter.unusedVariables false
namespace Go.Lift
open Go Go.Proofs
set_option maxRecDepth 100000
def relStep (k : Int) (X : TM × List Int) (n : ByteArray) : TM × List Int :=
  match afind X.1 n with
  | none => X
  | some q => if hasM q.has k = 0 ∧ ∀ r ∈ q.waits, r.1 ≠ k then X else
    (if (grantQ (adel q.has k) [] [] (q.waits.filter fun r => r.1 != k)).1 = [] ∧ (grantQ (adel q.has k) [] [] (q.waits.filter fun r => r.1 != k)).2.1 = [] then adel X.1 n
      else aput X.1 n ⟨(grantQ (adel q.has k) [] [] (q.waits.filter fun r => r.1 != k)).1, (grantQ (adel q.has k) [] [] (q.waits.filter fun r => r.1 != k)).2.1⟩,
     X.2 ++ (grantQ (adel q.has k) [] [] (q.waits.filter fun r => r.1 != k)).2.2)
def releaseT (T : TM) (k : Int) : TM × List Int := (namesT T).foldl (relStep k) (T, [])
theorem adel_aput {K V : Type} [DecidableEq K] (T : List (K × V)) (k : K) (v : V) : adel (aput T k v) k = adel T k := by
  induction T with
  | nil => simp [aput, adel]
  | cons p T ih =>
    obtain ⟨a, u⟩ := p
    simp only [aput, adel]
    by_cases e : k = a
    · simp [e, adel]
    · simp only [if_neg e, adel, ih]
theorem grantQ_out : ∀ (R : List (Int × Int)) (L : List (Int × Nat)) (W : List (Int × Int)) (O : List Int), (grantQ L W O R).2.2.length ≤ O.length + R.length
  | [], L, W, O => by simp [grantQ]
  | r :: R, L, W, O => by
    rw [grantQ_cons]
    split
    · have := grantQ_out R L (W ++ [r]) O
      simp only [List.length_cons]; omega
    · have := grantQ_out R (aput L r.1 (hasM L r.1 ||| bitM r.2)) W (O ++ [r.1])
      simp only [List.length_cons, List.length_append, List.length_nil] at this ⊢; omega
theorem QOk.rel {m : QM} (hq : QOk m) (k : Int) : QOk ⟨adel m.has k, m.waits.filter fun r => r.1 != k⟩ :=
  ⟨fun p hp => hq.set p (mem_adel hp), fun p hp => hq.hold p (mem_adel hp), (adel_nodup hq.nd k).1, fun r hr => hq.wait r (List.mem_filter.1 hr).1, hq.once.sublist (List.filter_sublist.map _)⟩
section
variable {lo : Nat} {h : Hp} {t mb : Nat} {C : List (ByteArray × QC)} {Q : List Value → Hp → Prop}
theorem Ft_ne (hT : TabAt lo h t mb C) {b : Nat} {cs : Array Value} {T : TypeId} {fz : Nat × Nat} (hb : h[b]? = some (.cells cs T fz)) (h0 : T ≠ T_lock_Table) (h1 : T ≠ T_lock_queue) (h2 : T ≠ T_lock_request) : ¬ Ft t mb C b := by
  rintro (rfl | rfl | ⟨n, c, hf, hq⟩)
  · exact h0 (blk_ty hT.blk hb).symm
  · obtain ⟨es, cl, g, _⟩ := hT.names
    rw [hb] at g
    cases g
  · exact fq_ne (hT.qs n c hf) hb h1 h2 hq
theorem TabAt.del (hT : TabAt lo h t mb C) {n : ByteArray} {h' : Hp} (he : Ext [mb] h h') (hm : IsMap encStV evPt h' mb (adel (amap QC.q C) n)) : TabAt lo h' t mb (adel C n) ∧ ∀ b, Ft t mb (adel C n) b → Ft t mb C b := by
  have hfa : ∀ j, afind (adel C n) j = if j = n then none else afind C j := fun j => afind_adel hT.nd n j
  have hsub : ∀ j d, afind (adel C n) j = some d → afind C j = some d := fun j d hj => by
    rw [hfa] at hj
    by_cases e : j = n
    · rw [if_pos e] at hj; cases hj
    · rw [if_neg e] at hj; exact hj
  obtain ⟨es, cl, g, _⟩ := hT.names
  constructor
  · refine ⟨he.get hT.blk (by simp; intro e; rw [← e] at g; exact blk_map hT.blk g), by rw [← adel_amap]; exact hm, (adel_nodup hT.nd n).1, fun j d hj => ?_, fun j j' d d' hj hj' => hT.sep j j' d d' (hsub j d hj) (hsub j' d' hj'), fun j d hj => hT.smb j d (hsub j d hj), hT.lot, hT.lom⟩
    have hj' := hsub j d hj
    refine (hT.qs j d hj').extF he fun b hb hmm => ?_
    simp at hmm
    subst hmm
    exact fq_map (hT.qs j d hj') g (hT.smb j d hj') hb
  · rintro b (rfl | rfl | ⟨j, d, hj, hb⟩)
    · exact Or.inl rfl
    · exact Or.inr (Or.inl rfl)
    · exact Or.inr (Or.inr ⟨j, d, hsub j d hj, hb⟩)
theorem Release_s (hT : TabAt lo h t mb C) (hok : TOk (amap QC.m C)) (k : Int) (hlo : lo ≤ h.size) (hl : C.length ≤ 2 ^ 16)
    (hQ : ∀ h' C' s' S, TabAt lo h' t mb C' → amap QC.m C' = (releaseT (amap QC.m C) k).1 → Own T_int 1 encIL h.size h' s' (releaseT (amap QC.m C) k).2 → Ext S h h' → (∀ b ∈ S, b < h.size → Ft t mb C b) → (∀ b, Ft t mb C' b → Ft t mb C b ∨ h.size ≤ b) → Q [.slice s'.a s'.n s'.c] h') :
    S_lock_Table_Release (some ⟨t, 0, none⟩) k h Q := by
  refine O_lock_Table_Release _ _ ?_
  unfold F_lock_Table_Release
  refine newI fun h1 s1 b1 e1 => ?_
  rw [if_neg (by simp)]
  refine Names_s (hT.ext0 e1) hok (by omega) fun h3 l4 e3 ho4 => ⟨l4, rfl, ?_⟩
  have e03 := e1.trans0 e3
  have hT3 := hT.ext0 e03
  have z3 := e3.sz
  have hx3 := e3.get b1 (by simp)
  have hn4 := ho4.1
  have hord : (namesT (amap QC.m C)).Nodup := by unfold namesT; exact sortS_nodup hok.nd
  have hlen : (namesT (amap QC.m C)).length = C.length := by unfold namesT; rw [sortS_len, List.length_map]; simp [amap]
  have hmem : ∀ n, n ∈ namesT (amap QC.m C) → ∃ c, afind C n = some c := fun n hn => by
    unfold namesT at hn
    rw [sortS_mem, keys_amap] at hn
    obtain ⟨⟨a, c⟩, hc, rfl⟩ := List.mem_map.1 hn
    exact ⟨c, afind_of_mem hT.nd hc⟩
  intro X hX
  have key : ∀ d i g l C1 O S, d + i = (namesT (amap QC.m C)).length → Ext S h3 g → (∀ b ∈ S, b < h3.size → Ft t mb C b) → TabAt lo g t mb C1 → (amap QC.m C1, O) = ((namesT (amap QC.m C)).take i).foldl (relStep k) (amap QC.m C, []) →
      (∀ n ∈ (namesT (amap QC.m C)).drop i, afind C1 n = afind C n) → (∀ b, Ft t mb C1 b → Ft t mb C b ∨ h3.size ≤ b) → Own T_int 1 encIL h3.size g l O → O.length ≤ 200 * i → X [.slice l.a l.n l.c, .int .i64 (i : Int)] g := by
    intro d
    induction d with
    | zero =>
      intro i g l C1 O S hi eg hS hT1 hfo hrest hF hoO hOl
      refine hX _ _ _ ?_
      rw [if_neg (by simp; omega)]
      rw [List.take_of_length_le (by omega)] at hfo
      have hr : (amap QC.m C1, O) = releaseT (amap QC.m C) k := hfo
      have z0 := e03.sz
      refine hQ g C1 l S hT1 (by rw [← hr]) ?_ ((e03.mono (by simp)).trans eg fun b hb _ => hb) (fun b hb hlt => hS b hb (by omega)) fun b hb => (hF b hb).imp id fun g => by omega
      rw [← hr]
      exact hoO.mono z0
    | succ d ih =>
      intro i g l C1 O S hi eg hS hT1 hfo hrest hF hoO hOl
      refine hX _ _ _ ?_
      rw [if_pos (by simp; omega)]
      intro J hJ
      have hil : i < (namesT (amap QC.m C)).length := by omega
      have zg := eg.sz
      have hlowS : ∀ b, h.size ≤ b → b < h3.size → b ∉ S := fun b hb hb' hm => by
        have := (hT.lt (hS b hm hb')).2
        omega
      have ho4g : Own T_string 1 encB h1.size g l4 (namesT (amap QC.m C)) := ho4.ext eg fun a ha hm => by
        have := own_ltG ho4 _ (mem_sBlk.2 ⟨a, ha, rfl⟩)
        exact hlowS _ (by omega) this.2 hm
      have hxg : Blk g h.size #[.int .i64 k] T_int := eg.get hx3 (hlowS _ (Nat.le_refl _) (by omega))
      have htk : (namesT (amap QC.m C)).take (i + 1) = (namesT (amap QC.m C)).take i ++ [(namesT (amap QC.m C))[i]] := by rw [List.take_add_one, List.getElem?_eq_getElem hil]; rfl
      have hdr : (namesT (amap QC.m C)).drop i = (namesT (amap QC.m C))[i] :: (namesT (amap QC.m C)).drop (i + 1) := List.drop_eq_getElem_cons hil
      obtain ⟨c, hc⟩ := hmem _ (List.getElem_mem hil)
      have hf1 : afind C1 (namesT (amap QC.m C))[i] = some c := by rw [hrest _ (by rw [hdr]; exact List.mem_cons_self), hc]
      have hnext : ∀ n ∈ (namesT (amap QC.m C)).drop (i + 1), n ≠ (namesT (amap QC.m C))[i] ∧ afind C1 n = afind C n := fun n hn => by
        refine ⟨fun e => ?_, hrest n (by rw [hdr]; exact List.mem_cons_of_mem _ hn)⟩
        have h1 : ((namesT (amap QC.m C))[i] :: (namesT (amap QC.m C)).drop (i + 1)).Nodup := by rw [← hdr]; exact hord.sublist (List.drop_sublist _ _)
        rw [List.nodup_cons] at h1
        exact h1.1 (e ▸ hn)
      have hfo1 : ((namesT (amap QC.m C)).take (i + 1)).foldl (relStep k) (amap QC.m C, []) = relStep k (amap QC.m C1, O) (namesT (amap QC.m C))[i] := by
        rw [htk, List.foldl_append, ← hfo]
        rfl
      have hfm : afind (amap QC.m C1) (namesT (amap QC.m C))[i] = some c.m := by rw [afind_amap, hf1]; rfl
      have hqk : QOk c.m := (hok.q _ c.m (by rw [afind_amap, hc]; rfl)).1
      obtain ⟨a4, w1, w2⟩ := (ho4g.sl.reads).rd encB_len hil
      have w2' := w2 0 (by omega)
      rw [w1]
      simp only [nilW_some, Int.toNat_natCast]
      refine ⟨by omega, by omega, (namesT (amap QC.m C))[i], by simpa using w2', ?_⟩
      simp only [addr_mk, rd_blk hT1.blk]
      refine ⟨some mb, rfl, ?_⟩
      obtain ⟨es, t1, t2, p, t3, t4⟩ := tab_get hT1 (namesT (amap QC.m C))[i]
      refine ⟨es, t1, t2, p, t3, ?_⟩
      rw [hf1] at t4
      subst t4
      have hq := hT1.qs _ c hf1
      have hlw := hqk.lenW
      have hnw := hq.waits.1
      intro J2 hJ2
      have skip : hasM c.m.has k = 0 → (∀ r ∈ c.m.waits, r.1 ≠ k) → ∀ g', Ext [] g g' → J2 [.bool true] g' := by
        intro h0 hall g' f1
        refine hJ2 _ _ ?_
        rw [if_pos rfl]
        refine hJ _ _ ?_
        rw [wrap64 (by omega) (by omega)]
        have := ih (i + 1) g' l C1 O S (by omega) (eg.trans f1 (by simp)) hS (hT1.ext0 f1) ?_ (fun n hn => (hnext n hn).2) hF (hoO.ext0 f1) (by omega)
        · simpa using this
        · rw [hfo1]
          unfold relStep
          rw [hfm]
          simp only
          rw [if_pos ⟨h0, hall⟩]
      have goon : ¬ (hasM c.m.has k = 0 ∧ ∀ r ∈ c.m.waits, r.1 ≠ k) → ∀ g', Ext [] g g' → J2 [.bool false] g' := by
        intro hnot g' f1
        refine hJ2 _ _ ?_
        rw [if_neg (by decide)]
        have hT1' := hT1.ext0 f1
        have hq1 := hq.ext0 f1
        have hx1 := f1.get hxg (by simp)
        simp only [Option.map_some, nilW_some, addr_mk, rd_blk hq1.blk]
        refine ⟨some c.hs, rfl, k, by rw [rd_blk hx1]; rfl, ?_⟩
        obtain ⟨es4, c4, y1, y2, y3⟩ := hq1.has.del k
        refine ⟨c.hs, es4, c4, rfl, y1, y2, ?_⟩
        refine setI y1 fun g2 u2 k2 f2 => ?_
        have hqh : c.q ≠ c.hs := fun e => by rw [← e] at y1; exact blk_map hq1.blk y1
        have hwh : ∀ b ∈ sBlk c.ws, b ≠ c.hs := fun b hb e => by
          obtain ⟨c', g⟩ := own_blk hq1.waits hb
          rw [e] at g
          exact blk_map g y1
        have hqw : c.q ∉ sBlk c.ws := fun hb => by
          obtain ⟨c', g⟩ := own_blk hq1.waits hb
          exact ne_qr (blk_ty hq1.blk g)
        have hxF : ¬ Ft t mb C1 h.size := Ft_ne hT1 hxg (by decide) (by decide) (by decide)
        have hxq : ∀ b, Fq c b → b ≠ h.size := fun b hb e => hxF (Or.inr (Or.inr ⟨_, c, hf1, e ▸ hb⟩))
        have q2 : Blk g2 c.q #[.map (some c.hs), .slice c.ws.a c.ws.n c.ws.c] T_lock_queue := f2.get hq1.blk (by simp; exact hqh)
        have m2 := y3 g2 k2
        have o2 := hq1.waits.ext f2 fun a ha hm => by simp at hm; exact hwh _ (mem_sBlk.2 ⟨a, ha, rfl⟩) hm
        have x2 := f2.get hx1 (by simp; exact fun e => hxq _ (Or.inr (Or.inl rfl)) e.symm)
        simp only [rd_blk q2]
        refine ⟨c.ws, rfl, ?_⟩
        refine DeleteF_s o2 x2 (by omega) fun g3 s3 o3 f3 hs3 => ⟨s3, rfl, ?_⟩
        have q3 := f3.get q2 hqw
        have m3 := m2.ext f3 fun hb => hwh _ hb rfl
        have x3 := f3.get x2 fun hb => hxq _ (Or.inr (Or.inr hb)) rfl
        refine st_blk q3 (by simp) fun g4 u4 q4 f4 => ?_
        have m4 := m3.ext f4 (by simp; exact fun e => hqh e.symm)
        have o4 := o3.ext f4 fun a ha hm => by simp at hm; exact hqw (hm ▸ hs3 _ (mem_sBlk.2 ⟨a, ha, rfl⟩))
        have x4 := f4.get x3 (by simp; exact fun e => hxq _ (Or.inl rfl) e.symm)
        have z1 := f1.sz
        have z2 := f2.sz
        have z3' := f3.sz
        have z4 := f4.sz
        have q4' : QAt lo g4 ⟨c.q, c.hs, s3, ⟨adel c.m.has k, c.m.waits.filter fun r => r.1 != k⟩⟩ := ⟨by simpa using q4, m4, o4, hq.loq, hq.loh⟩
        refine Grant_s (c := ⟨c.q, c.hs, s3, ⟨adel c.m.has k, c.m.waits.filter fun r => r.1 != k⟩⟩) q4' (hqk.rel k) (by have := e03.sz; omega) fun g5 s5 c5 S5 hq5 a1 a2 a3 a4' f5 ho5 _ => ⟨s5, rfl, ?_⟩
        simp only at a1 a2 a3 f5 ho5
        have z5 := f5.sz
        have hgo := grantQ_out (c.m.waits.filter fun r => r.1 != k) (adel c.m.has k) [] []
        have hfl := List.length_filter_le (fun r => r.1 != k) c.m.waits
        simp only [List.length_nil] at hgo
        -- the frame up to here
        have f05 : Ext (c.q :: c.hs :: sBlk c.ws) g g5 := by
          refine ((((f1.mono (by simp)).trans f2 fun b hb _ => ?_).trans f3 fun b hb _ => ?_).trans f4 fun b hb _ => ?_).trans f5 fun b hb _ => ?_
          · simp at hb; simp [hb]
          · exact List.mem_cons_of_mem _ (List.mem_cons_of_mem _ hb)
          · simp at hb; simp [hb]
          · simp at hb; rcases hb with h | h <;> simp [h]
        have hFq : ∀ b ∈ (c.q :: c.hs :: sBlk c.ws), Fq c b := fun b hb => by
          rcases List.mem_cons.1 hb with rfl | hb
          · exact Or.inl rfl
          · rcases List.mem_cons.1 hb with rfl | hb
            · exact Or.inr (Or.inl rfl)
            · exact Or.inr (Or.inr hb)
        have hF5 : ∀ b, Fq c5 b → Fq c b ∨ g.size ≤ b := fun b hb => by
          rcases hb with h | h | h
          · exact Or.inl (Or.inl (h.trans a1))
          · exact Or.inl (Or.inr (Or.inl (h.trans a2)))
          · exact Or.inr (by have := a4' b h; omega)
        obtain ⟨hT5, hFt5⟩ := hT1.upd hf1 f05 (fun b hb _ => hFq b hb) hq5 a1 a2 hF5
        have hoO5 : Own T_int 1 encIL h3.size g5 l O := hoO.ext f05 fun a ha hm => by
          have hb := mem_sBlk.2 ⟨a, ha, rfl⟩
          obtain ⟨c', gg⟩ := own_blk hoO hb
          exact fq_ne hq gg (by decide) (by decide) (hFq _ hm)
        refine ⟨_, ho5.sl.reads.2.2, ?_⟩
        have hlO := hoO.1
        have hl5 := ho5.1
        refine app_own (ys := (grantQ (adel c.m.has k) [] [] (c.m.waits.filter fun r => r.1 != k)).2.2) hoO5 zc_int encIL_len (fun x _ => encIL_one x) rfl hl5 (by simp only; omega) (by simp only; omega) (by omega) fun l6 g6 ho6 f6 hn6 hb6 => ?_
        have hlF : ∀ b, Ft t mb (aput C1 (namesT (amap QC.m C))[i] c5) b → b ∉ sBlk l := fun b hb hb' => by
          obtain ⟨c', gg⟩ := own_blk hoO5 hb'
          exact Ft_ne hT5 gg (by decide) (by decide) (by decide) hb
        have hT6 := hT5.extF f6 hlF
        have hfa : afind (aput C1 (namesT (amap QC.m C))[i] c5) (namesT (amap QC.m C))[i] = some c5 := by rw [afind_aput, if_pos rfl]
        have hq6 := hT6.qs _ c5 hfa
        have hblk6 := hq6.blk
        rw [a1] at hblk6
        simp only [rd_blk hblk6]
        refine ⟨some c5.hs, rfl, ?_⟩
        obtain ⟨es6, r1, r2⟩ := hq6.has.mapAt
        refine ⟨es6, r1, c5.ws, rfl, ?_⟩
        have hsz6 := ents_size r2
        have hnw6 := hq6.waits.1
        have hg1 : c5.m.has = (grantQ (adel c.m.has k) [] [] (c.m.waits.filter fun r => r.1 != k)).1 := by rw [a3]
        have hg2 : c5.m.waits = (grantQ (adel c.m.has k) [] [] (c.m.waits.filter fun r => r.1 != k)).2.1 := by rw [a3]
        have f36 : Ext ((c.q :: c.hs :: sBlk c.ws) ++ sBlk l) g g6 := (f05.mono fun b hb _ => List.mem_append_left _ hb).trans f6 fun b hb _ => List.mem_append_right _ hb
        have z6 := f6.sz
        have hFold : ∀ b, Fq c b → b < h3.size → Ft t mb C b := fun b hb hlt => by
          rcases hF b (Or.inr (Or.inr ⟨_, c, hf1, hb⟩)) with g | g
          · exact g
          · omega
        have hlow : ∀ b ∈ sBlk l, h3.size ≤ b := fun b hb => (own_ltG hoO b hb).1
        have hF6 : ∀ b, Ft t mb (aput C1 (namesT (amap QC.m C))[i] c5) b → Ft t mb C b ∨ h3.size ≤ b := fun b hb => by
          rcases hFt5 b hb with g | g
          · exact hF b g
          · exact Or.inr (by omega)
        have eg6 : Ext (S ++ (c.q :: c.hs :: sBlk c.ws)) h3 g6 := by
          refine (eg.mono fun b hb _ => List.mem_append_left _ hb).trans f36 fun b hb hlt => ?_
          rcases List.mem_append.1 hb with g | g
          · exact List.mem_append_right _ g
          · have := hlow b g; omega
        have hS6 : ∀ b ∈ S ++ (c.q :: c.hs :: sBlk c.ws), b < h3.size → Ft t mb C b := fun b hb hlt => by
          rcases List.mem_append.1 hb with g | g
          · exact hS b g hlt
          · exact hFold b (hFq b g) hlt
        have hO6 : (O ++ (grantQ (adel c.m.has k) [] [] (c.m.waits.filter fun r => r.1 != k)).2.2).length ≤ 200 * (i + 1) := by
          rw [List.length_append]; omega
        have hfo2 : relStep k (amap QC.m C1, O) (namesT (amap QC.m C))[i] = (if c5.m.has = [] ∧ c5.m.waits = [] then adel (amap QC.m C1) (namesT (amap QC.m C))[i] else aput (amap QC.m C1) (namesT (amap QC.m C))[i] c5.m, O ++ (grantQ (adel c.m.has k) [] [] (c.m.waits.filter fun r => r.1 != k)).2.2) := by
          unfold relStep
          rw [hfm]
          simp only
          rw [if_neg hnot, hg1, hg2, a3]
        have hl5H : c5.m.has.length ≤ 2 ^ 61 ∧ c5.m.waits.length ≤ 2 ^ 61 := by
          have hE : ∀ (R : List (Int × Int)) (L : List (Int × Nat)) (W : List (Int × Int)) (O : List Int), (grantQ L W O R).1.length ≤ L.length + R.length ∧ (grantQ L W O R).2.1.length ≤ W.length + R.length := by
            intro R
            induction R with
            | nil => intro L W O; simp [grantQ]
            | cons r R ihR =>
              intro L W O
              rw [grantQ_cons]
              split
              · have := ihR L (W ++ [r]) O
                simp only [List.length_cons, List.length_append, List.length_nil] at this ⊢; omega
              · have := ihR (aput L r.1 (hasM L r.1 ||| bitM r.2)) W (O ++ [r.1])
                have := aput_length L r.1 (hasM L r.1 ||| bitM r.2)
                simp only [List.length_cons] at *
                split at this <;> omega
          have := hE (c.m.waits.filter fun r => r.1 != k) (adel c.m.has k) [] []
          have h7 := (hqk.rel k).lenH
          simp only [List.length_nil] at this h7
          rw [hg1, hg2]
          omega
        rw [hsz6, hnw6, wrap64 (by omega) (by omega)]
        by_cases hempty : c5.m.has = [] ∧ c5.m.waits = []
        · rw [if_pos (by simp [hempty.1, hempty.2])]
          simp only [rd_blk hT6.blk]
          refine ⟨some mb, rfl, ?_⟩
          obtain ⟨es7, c7, v1, v2, v3⟩ := hT6.names.del (namesT (amap QC.m C))[i]
          refine ⟨mb, es7, c7, rfl, v1, v2, ?_⟩
          refine setI v1 fun g7 u7 k7 f7 => ?_
          obtain ⟨hT7, hFt7⟩ := hT6.del f7 (v3 g7 k7)
          rw [adel_aput] at hT7 hFt7
          refine hJ _ _ ?_
          rw [wrap64 (by omega) (by omega)]
          have := ih (i + 1) g7 l6 (adel C1 (namesT (amap QC.m C))[i]) (O ++ (grantQ (adel c.m.has k) [] [] (c.m.waits.filter fun r => r.1 != k)).2.2) (mb :: (S ++ (c.q :: c.hs :: sBlk c.ws))) (by omega) ?_ ?_ hT7 ?_ ?_ ?_ ?_ hO6
          · simpa using this
          · exact (eg6.mono fun b hb _ => List.mem_cons_of_mem _ hb).trans f7 fun b hb _ => by simp at hb; simp [hb]
          · intro b hb hlt
            rcases List.mem_cons.1 hb with rfl | hb
            · exact Or.inr (Or.inl rfl)
            · exact hS6 b hb hlt
          · rw [hfo1, hfo2, if_pos hempty, adel_amap]
          · intro n hn
            rw [afind_adel hT1.nd, if_neg (hnext n hn).1]
            exact (hnext n hn).2
          · intro b hb
            exact hF6 b (hFt7 b hb)
          · refine ho6.ext f7 fun a ha hm => ?_
            simp at hm
            obtain ⟨c', gg⟩ := own_blk ho6 (mem_sBlk.2 ⟨a, ha, rfl⟩)
            rw [hm] at gg
            exact blk_map gg v1
        · rw [if_neg (by
            intro hz
            simp only [beq_iff_eq] at hz
            exact hempty ⟨List.eq_nil_of_length_eq_zero (by omega), List.eq_nil_of_length_eq_zero (by omega)⟩)]
          refine hJ _ _ ?_
          rw [wrap64 (by omega) (by omega)]
          have := ih (i + 1) g6 l6 (aput C1 (namesT (amap QC.m C))[i] c5) (O ++ (grantQ (adel c.m.has k) [] [] (c.m.waits.filter fun r => r.1 != k)).2.2) (S ++ (c.q :: c.hs :: sBlk c.ws)) (by omega) eg6 hS6 hT6 ?_ ?_ hF6 ho6 hO6
          · simpa using this
          · rw [hfo1, hfo2, if_neg hempty, ← aput_amap]
          · intro n hn
            rw [afind_aput, if_neg (hnext n hn).1]
            exact (hnext n hn).2
      simp only [Option.map_some, nilW_some, addr_mk, rd_blk hq.blk]
      refine ⟨some c.hs, rfl, k, by rw [rd_blk hxg]; rfl, ?_⟩
      obtain ⟨es2, v1, v2, v, v3, v4⟩ := hasM_get hq.has k
      refine ⟨es2, v1, v2, v, v3, ?_⟩
      subst v4
      by_cases h0 : hasM c.m.has k = 0
      · rw [if_pos (by simp [h0])]
        refine ⟨c.ws, rfl, ?_⟩
        refine O_slices_ContainsFunc_slock_request_lock_request _ _ _ ?_
        unfold F_slices_ContainsFunc_slock_request_lock_request
        refine IndexF_s (f := 36) fn36 hq.waits.sl.reads hxg (by omega) (fun hall g1 f1 => ⟨_, rfl, _, rfl, ?_⟩) fun j hj hjk _ g1 f1 => ⟨_, rfl, _, rfl, ?_⟩
        · exact skip h0 hall g1 f1
        · have : (!decide (((j : Nat) : Int) ≥ 0)) = false := by simp
          rw [this]
          refine goon (fun hh => ?_) g1 f1
          exact hh.2 _ (List.getElem_mem hj) hjk
      · rw [if_neg (by simp; omega)]
        exact goon (fun hh => h0 hh.1) g (Ext.refl _ _)
  have := key C.length 0 h3 ⟨none, 0, 0⟩ C [] [] (by omega) (Ext.refl _ _) (by simp) hT3 rfl (fun n _ => rfl) (fun b hb => Or.inl hb) (Own.nil _ _) (by simp)
  simpa using this
end
end Go.Lift

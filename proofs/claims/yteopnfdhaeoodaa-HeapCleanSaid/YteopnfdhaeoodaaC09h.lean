/- Versions of rows: what is visible, vacuum, copy. -/
import Derived.Test.YteopnfdhaeoodaaC09k
import Derived.Test.YteopnfdhaeoodaaC09g
set_option linter.unusedSimpArgs false
set_option linter.unusedVariables false
namespace Go.Lift
open Go Go.Proofs
set_option maxRecDepth 100000
def RelM.keys (R : RelM) : List Int := sortI (R.T.map Prod.fst)
def RelM.visible (R : RelM) (L : LogM) (x : Int) : List Int := R.keys.filter (R.sees L x)
def overM (L : LogM) (t : Tup) : Bool := t.xmax != 0 && ((L.at t.xmax).st == 2 && decide ((L.at t.xmax).csn ≤ L.horizon))
def goneM (L : LogM) (t : Tup) : Bool := (L.at t.xmin).st == 3 || overM L t
def RelM.rem (R : RelM) (t : Int) : RelM := ⟨adel R.T t, R.next⟩
def RelM.add (R : RelM) (t : Tup) : RelM := ⟨R.T ++ [(R.next, t)], R.next + 1⟩
def RelM.vacStep (L : LogM) (s : RelM × List Int) (t : Int) : RelM × List Int := if goneM L (s.1.get t) = true then (s.1.rem t, s.2 ++ [t]) else s
def RelM.vacuum (R : RelM) (L : LogM) : RelM × List Int := R.keys.foldl (RelM.vacStep L) (R, [])
def RelM.copyStep (R : RelM) (L : LogM) (o : RelM) (t : Int) : RelM := if goneM L (R.get t) = true then o else o.add (R.get t)
def RelM.copy (R : RelM) (L : LogM) : RelM := R.keys.foldl (R.copyStep L) ⟨[], 0⟩
theorem keys_len (R : RelM) : R.keys.length = R.T.length := by unfold RelM.keys sortI; rw [List.length_mergeSort, List.length_map]
section
variable {h : Hp} {p r m : Nat} {L : LogM} {R : RelM} {Q : List Value → Hp → Prop}
theorem adel_len {K V : Type} [DecidableEq K] (T : List (K × V)) (k : K) : (adel T k).length ≤ T.length := by
  induction T with
  | nil => simp [adel]
  | cons q T ih =>
    obtain ⟨a, u⟩ := q
    simp only [adel]
    split
    · simp
    · simp; exact ih
theorem IsRel.look (hr : IsRel h r m R) (t : Int) : ∃ es clk, h[m]? = some (.map es clk) ∧ KeysLike (encI t) es ∧ mhas (encI t) es = (R.find t).isSome ∧ ∃ c : TupC, mgetD (encI t) es (tupV ⟨0, 0, ⟨none, 0, 0⟩⟩) = tupV c ∧
    c.xmin = (R.get t).xmin ∧ c.xmax = (R.get t).xmax ∧ c.row.n ≤ 2 ^ 20 ∧ RowAt h c.row (R.get t).row := by
  obtain ⟨C, hc, hT⟩ := hr.mem
  have hf := RelM.find_eq hT t
  obtain ⟨es, clk, h1, he, _⟩ := hc.map
  have hg := mgetD_ents he t (tupV ⟨0, 0, ⟨none, 0, 0⟩⟩)
  have hh := mhas_ents he t
  rw [afind_amap] at hg hh
  refine ⟨es, clk, h1, keysLike_ents he t, ?_, ?_⟩
  · rw [hh, hf, Option.isSome_map, Option.isSome_map]
  · rw [hg]
    unfold RelM.get
    rw [hf]
    cases hcf : afind C t with
    | none => exact ⟨⟨0, 0, ⟨none, 0, 0⟩⟩, rfl, rfl, rfl, by simp, SlOf.nil _ _⟩
    | some q => exact ⟨q.1, rfl, rfl, rfl, hc.small _ (afind_mem hcf), hc.rows _ (afind_mem hcf)⟩
theorem IsRel.remW (hr : IsRel h r m R) (t : Int) : ∃ es clk, h[m]? = some (.map es clk) ∧ KeysLike (encI t) es ∧ ∀ h', h'[m]? = some (mdel (encI t) es clk) → Ext [m] h h' → IsRel h' r m (R.rem t) := by
  obtain ⟨C, hc, hT⟩ := hr.mem
  obtain ⟨es, clk, h1, h2, h3⟩ := hc.map.del t
  refine ⟨es, clk, h1, h2, fun h' g1 g2 => ?_⟩
  have hmr : r ≠ m := ne_cells hc.blk h1 (by simp)
  have ho : Other T_api_Value h [m] := Other.one h1 (by intro c fz e; cases e)
  have hsub := adel_nodup hr.nd t
  refine ⟨⟨adel C t, ⟨g2.get hc.blk (by simpa using hmr), by rw [← adel_amap]; exact h3 h' g1, fun q hq => (hc.rows q (mem_adel hq)).ext g2 ho, fun q hq => hc.small q (mem_adel hq)⟩, ?_⟩, hr.nx, hsub.1, fun k hk => hr.lt k (hsub.2 k hk), ?_⟩
  · show adel R.T t = _
    rw [hT, adel_amap]
  · have h4 := adel_len R.T t
    have h5 := hr.len
    show ((adel R.T t).length : Int) ≤ R.next
    omega
theorem IsRel.addW (hr : IsRel h r m R) (hnx : R.next < 65536) : ∃ es clk, h[m]? = some (.map es clk) ∧ KeysLike (encI R.next) es ∧ ∀ (h' : Hp) (s : Sl) (t : Tup), h'[m]? = some (mput (encI R.next) (tupV ⟨t.xmin, t.xmax, s⟩) es clk) →
    Blk h' r #[.map (some m), .int .i64 (R.next + 1)] T_heap_Rel → Ext [m, r] h h' → RowAt h' s t.row → s.n ≤ 2 ^ 20 → IsRel h' r m (R.add t) := by
  obtain ⟨C, hc, hT⟩ := hr.mem
  obtain ⟨es, clk, h1, h2, h3⟩ := hc.map
  refine ⟨es, clk, h1, keysLike_ents h2 _, fun h' s t g1 g2 g3 g4 g5 => ?_⟩
  have hnew := ends_lt hr
  obtain ⟨es', c', k1, k2⟩ := mput_ents h2 R.next (⟨t.xmin, t.xmax, s⟩ : TupC) clk
  have k3 := h3.put _ _ k1
  rw [k1] at g1
  rw [aput_new (by rw [keys_amap]; rw [hT, keys_amap] at hnew; exact hnew)] at k2
  refine ⟨⟨C ++ [(R.next, ⟨t.xmin, t.xmax, s⟩, t.row)], ⟨by simpa [RelM.add] using g2, ⟨es', c', g1, by simpa [amap] using k2, k3⟩, ?_, ?_⟩, ?_⟩, ?_, ?_, ?_, ?_⟩
  · intro q hq
    rw [List.mem_append] at hq
    rcases hq with hq | hq
    · exact (hc.rows q hq).ext g3 (rel_other hr)
    · simp at hq; subst hq; exact g4
  · intro q hq
    rw [List.mem_append] at hq
    rcases hq with hq | hq
    · exact hc.small q hq
    · simp at hq; subst hq; exact g5
  · simp [RelM.add, hT, amap, absT]
  · have := hr.nx
    show 0 ≤ R.next + 1 ∧ R.next + 1 ≤ 65536
    omega
  · simp only [RelM.add, List.map_append, List.map_cons, List.map_nil]
    rw [List.nodup_append]
    refine ⟨hr.nd, by simp, ?_⟩
    intro a ha b hb
    simp at hb; subst hb
    exact fun e => hnew (e ▸ ha)
  · intro k hk
    have := hr.nx
    simp only [RelM.add, List.map_append, List.map_cons, List.map_nil, List.mem_append, List.mem_singleton] at hk ⊢
    rcases hk with hk | hk
    · have := hr.lt k hk; omega
    · omega
  · have := hr.len
    simp only [RelM.add, List.length_append, List.length_cons, List.length_nil]
    omega
theorem over_s (hl : IsLog h p L) {a b : Int} {s : Sl} {t : Tup} (ht : t.xmax = b) (hQ : ∀ h', Ext [] h h' → Q [.bool (overM L t)] h') : S_heap_over (some ⟨p, 0, none⟩) a b s h Q := by
  refine O_heap_over _ _ _ _ ?_
  unfold F_heap_over
  subst ht
  unfold overM at hQ
  refine newI fun h1 s1 b1 e1 => ?_
  have l1 := hl.ext e1 (by simp)
  refine ⟨t.xmax, by simp [rd_blk b1], ?_⟩
  by_cases hx : t.xmax = 0
  · rw [if_neg (by simp [hx])]
    have := hQ h1 e1
    simpa [hx] using this
  · rw [if_pos (by simp [hx])]
    refine ⟨t.xmax, by simp [rd_blk b1], ?_⟩
    refine State_s l1 fun h2 e2 => ⟨_, rfl, ?_⟩
    have b2 := e2.get b1 (by simp)
    have l2 := l1.ext e2 (by simp)
    have e12 := e1.trans0 e2
    by_cases hs : (L.at t.xmax).st = 2
    · rw [if_pos (by rw [hs]; rfl)]
      refine ⟨t.xmax, by simp [rd_blk b2], ?_⟩
      refine Csn_s l2 fun h3 e3 => ⟨_, rfl, ?_⟩
      refine Horizon_s (l2.ext e3 (by simp)) fun h4 e4 => ⟨_, rfl, ?_⟩
      have := hQ h4 ((e12.trans0 e3).trans0 e4)
      have hx' : (t.xmax != 0) = true := by simpa using hx
      simpa [hx', hs] using this
    · rw [if_neg (fun e => hs (eq_of_beq e))]
      have := hQ h2 e12
      have h0 : ((L.at t.xmax).st == 2) = false := by simpa using hs
      simpa [h0] using this
theorem Visible_s (hl : IsLog h p L) (hr : IsRel h r m R) {x : Int} (hQ : ∀ h' s, Ext [] h h' → Own T_int 1 encIL h.size h' s (R.visible L x) → Q [.slice s.a s.n s.c] h') : S_heap_Rel_Visible (some ⟨r, 0, none⟩) (some ⟨p, 0, none⟩) x h Q := by
  refine O_heap_Rel_Visible _ _ _ ?_
  unfold F_heap_Rel_Visible
  refine newI fun h1 s1 b1 e1 => newI fun h2 s2 b2 e2 => newI fun h3 s3 b3 e3 => ?_
  have c1 := e3.get (e2.get b1 (by simp)) (by simp)
  have c2 := e3.get b2 (by simp)
  have e03 := (e1.trans0 e2).trans0 e3
  refine ⟨_, by rw [rd_blk c1]; rfl, ?_⟩
  refine All_s (hr.ext0 e03) fun h4 s e4 ho => ⟨s, rfl, ?_⟩
  have e04 := e03.trans0 e4
  have hlen := keys_len R
  have hl5 := hr.len
  have hnx := hr.nx
  refine DeleteFunc_s (pr := fun t => !R.sees L x t) (Inv := fun h' => IsLog h' p L ∧ IsRel h' r m R ∧ Blk h' h.size #[.pointer (some ⟨r, 0, none⟩)] T_pheap_Rel ∧ Blk h' h1.size #[.pointer (some ⟨p, 0, none⟩)] T_pclog_Log ∧ Blk h' h2.size #[.int .i64 x] T_int)
    ho ⟨hl.ext e04 (by simp), hr.ext0 e04, e4.get c1 (by simp), e4.get c2 (by simp), e4.get b3 (by simp)⟩ ?_ ?_ (by unfold RelM.keys at hlen; rw [hlen]; omega) ?_
  · rintro g1 g2 ys ⟨i1, i2, i3, i4, i5⟩ hoy he
    have hbl : ∀ b, b < h3.size → b ∉ sBlk s := fun b hb hm => by have := ho.blk b hm; omega
    have lr := i2.ne_log i1
    have hp3 : p < h3.size := by have := hl.lt; have := e03.sz; omega
    obtain ⟨C, hc, _⟩ := hr.mem
    obtain ⟨es, ck, hmm, _⟩ := hc.map
    have hr3 : r < h3.size := by have := blk_lt hc.blk; have := e03.sz; omega
    have hm3 : m < h3.size := by have := blk_lt hmm; have := e03.sz; omega
    refine ⟨i1.ext he (hbl _ hp3), i2.ext he (hbl _ hr3) (hbl _ hm3) ?_, he.get i3 (hbl _ (by omega)), he.get i4 (hbl _ (by omega)), he.get i5 (hbl _ (by omega))⟩
    exact hoy.other (by decide)
  · rintro n g1 K hn ⟨i1, i2, i3, i4, i5⟩ hK
    refine O_heap_Rel_Visible_1 _ _ _ _ ?_
    unfold F_heap_Rel_Visible_1
    refine ⟨_, by rw [rd_blk i3]; rfl, _, by rw [rd_blk i4]; rfl, _, by rw [rd_blk i5]; rfl, ?_⟩
    refine Sees_s i1 i2 fun g2 e => ⟨_, rfl, ?_⟩
    exact hK g2 e
  · intro h5 s5 _ ho5 e5
    refine ⟨s5, rfl, ?_⟩
    refine hQ h5 s5 (e04.trans e5 fun b hb hlt => by have := ho.blk b hb; omega) ?_
    have := ho5.mono (lo' := h.size) (by omega)
    simpa [RelM.visible, RelM.keys] using this
theorem IsRel.r_lt (hr : IsRel h r m R) : r < h.size ∧ m < h.size := by
  obtain ⟨C, hc, _⟩ := hr.mem
  obtain ⟨es, ck, hmm, _⟩ := hc.map
  exact ⟨blk_lt hc.blk, blk_lt hmm⟩
theorem IsRel.rd_m (hr : IsRel h r m R) : rd h ⟨r, 0, none⟩ = some (.map (some m)) := by
  obtain ⟨C, hc, _⟩ := hr.mem
  rw [rd_blk hc.blk]; rfl
theorem IsRel.rd_n (hr : IsRel h r m R) : rd h ⟨r, 1, none⟩ = some (.int .i64 R.next) := by
  obtain ⟨C, hc, _⟩ := hr.mem
  rw [rd_blk hc.blk]; rfl
theorem IsRel.bk (hr : IsRel h r m R) : Blk h r #[.map (some m), .int .i64 R.next] T_heap_Rel := by
  obtain ⟨C, hc, _⟩ := hr.mem
  exact hc.blk
theorem Vacuum_s (hl : IsLog h p L) (hr : IsRel h r m R) (hQ : ∀ h' s, IsRel h' r m (R.vacuum L).1 → Ext [m] h h' → Own T_int 1 encIL h.size h' s (R.vacuum L).2 → Q [.slice s.a s.n s.c] h') :
    S_heap_Rel_Vacuum (some ⟨r, 0, none⟩) (some ⟨p, 0, none⟩) h Q := by
  refine O_heap_Rel_Vacuum _ _ ?_
  unfold F_heap_Rel_Vacuum
  refine All_s hr fun h1 ks e1 hks => ⟨ks, rfl, ?_⟩
  intro X hX
  have hlk := keys_len R
  have hkl : R.keys.length < 2 ^ 36 := by have := hr.len; have := hr.nx; omega
  have hks : Own T_int 1 encIL h.size h1 ks R.keys := hks
  have hkn := hks.1
  have key : ∀ d i g2 (R2 : RelM) (G : List Int) s, d + i = R.keys.length → IsRel g2 r m R2 → IsLog g2 p L → Ext [m] h g2 → Own T_int 1 encIL h.size g2 ks R.keys → Own T_int 1 encIL h.size g2 s G → (∀ b ∈ sBlk s, b ∉ sBlk ks) → G.length ≤ i →
      (R.keys.take i).foldl (RelM.vacStep L) (R, []) = (R2, G) → X [.slice s.a s.n s.c, .int .i64 (i : Int)] g2 := by
    intro d
    induction d with
    | zero =>
      intro i g2 R2 G s hd i1 i2 i3 i4 i5 i6 i8 i7
      refine hX s _ _ ?_
      rw [if_neg (by simp; omega)]
      rw [List.take_of_length_le (by omega)] at i7
      have e : R.vacuum L = (R2, G) := i7
      refine hQ g2 s ?_ i3 ?_
      · rw [e]; exact i1
      · rw [e]; exact i5
    | succ d ih =>
      intro i g2 R2 G s hd i1 i2 i3 i4 i5 i6 i8 i7
      refine hX s _ _ ?_
      rw [if_pos (by simp; omega)]
      intro J8 hJ8
      rw [wrap64 (by omega) (by omega)] at hJ8
      obtain ⟨a, g1, gr⟩ := sl_get i4.sl (i := i) (by omega)
      rw [g1]
      simp only [nilW_some, Int.toNat_natCast]
      refine ⟨by omega, by omega, _, gr, ?_⟩
      have hfold : (R.keys.take (i + 1)).foldl (RelM.vacStep L) (R, []) = RelM.vacStep L (R2, G) (R.keys[i]'(by omega)) := by
        rw [List.take_add_one, List.getElem?_eq_getElem (by omega), Option.toList_some, List.foldl_append, i7]
        rfl
      generalize hk : R.keys[i]'(by omega) = k at *
      obtain ⟨es, clk, m1, m2, m3, c, m4, m5, m6, m7, m8⟩ := i1.look k
      refine ⟨some m, i1.rd_m, es, Or.inr ⟨m, clk, rfl, m1⟩, m2, c.xmin, c.xmax, c.row, m4, ?_⟩
      refine varI rfl rfl fun g3 s3 b3 e3 => ?_
      rw [m5, m6] at b3
      intro J hJ
      have l3 := i2.ext e3 (by simp)
      refine ⟨(R2.get k).xmin, by simp [rd_blk b3], ?_⟩
      refine State_s l3 fun g4 e4 => ⟨_, rfl, ?_⟩
      have l4 := l3.ext e4 (by simp)
      have b4 := e4.get b3 (by simp)
      have e24 := e3.trans0 e4
      have keep : ∀ g5, Ext [] g2 g5 → goneM L (R2.get k) = false → J [.bool true] g5 := by
        intro g5 e5 hg
        refine hJ _ _ ?_
        rw [if_pos (by decide)]
        refine hJ8 s _ ?_
        have := ih (i + 1) g5 R2 G s (by omega) (i1.ext0 e5) (i2.ext e5 (by simp)) (i3.trans0 e5) (i4.ext0 e5) (i5.ext0 e5) i6 (by omega) (by rw [hfold]; unfold RelM.vacStep; rw [if_neg (by simp [hg])])
        simpa using this
      have drop : ∀ g5, Ext [] g2 g5 → goneM L (R2.get k) = true → J [.bool false] g5 := by
        intro g5 e5 hg
        refine hJ _ _ ?_
        rw [if_neg (by decide)]
        have r5 := i1.ext0 e5
        refine ⟨some m, r5.rd_m, ?_⟩
        obtain ⟨es5, clk5, n1, n2, n3⟩ := r5.remW k
        refine ⟨m, es5, clk5, rfl, n1, n2, ?_⟩
        refine setI n1 fun g6 s6 k6 e6 => ?_
        have r6 := n3 g6 k6 e6
        have hm := i1.r_lt
        have hm1 := hr.r_lt
        have hms : ∀ b ∈ sBlk s, b ∉ [m] := fun b hb hm' => by have := i5.blk b hb; simp at hm'; omega
        have hmk : ∀ b ∈ sBlk ks, b ∉ [m] := fun b hb hm' => by have := i4.blk b hb; simp at hm'; omega
        have o6 := (i5.ext0 e5).ext e6 (fun a ha => hms _ (mem_sBlk.2 ⟨a, ha, rfl⟩))
        have k6' := (i4.ext0 e5).ext e6 (fun a ha => hmk _ (mem_sBlk.2 ⟨a, ha, rfl⟩))
        have l6 := (i2.ext e5 (by simp)).ext e6 (by have := i1.ne_log i2; simp; exact this.2.1)
        refine app1 (x := k) (cx := #[Value.int .i64 k]) o6 rfl zcInt encIL_len encIL_one (by omega) (by decide) (by have := i3.sz; have := e5.sz; have := e6.sz; omega) fun s' g7 ho' he' hbl => ?_
        refine hJ8 s' _ ?_
        have hpl := hl.lt
        have hsb : ∀ b ∈ sBlk s, h.size ≤ b := i5.blk
        have := ih (i + 1) g7 (R2.rem k) (G ++ [k]) s' (by omega) (r6.ext he' (fun hb => by have := hsb _ hb; omega) (fun hb => by have := hsb _ hb; omega) (o6.other (by decide)))
          (l6.ext he' (fun hb => by have := hsb _ hb; omega)) (((i3.trans0 e5).trans e6 (by simp)).trans he' fun b hb hlt => by have := hsb _ hb; omega)
          (k6'.ext he' fun a ha hb => i6 _ hb (mem_sBlk.2 ⟨a, ha, rfl⟩)) ho'
          (fun b hb hb2 => by
            rcases hbl b hb with g | g
            · exact i6 b g hb2
            · obtain ⟨a2, ha2, hab⟩ := mem_sBlk.1 hb2
              obtain ⟨b', c', q1, q2, q3, _⟩ := k6'.2.2 a2 ha2
              have := blk_lt q3
              rw [q1] at hab
              simp at hab
              omega)
          (by simp; omega) (by rw [hfold]; unfold RelM.vacStep; rw [if_pos hg])
        simpa using this
      by_cases hx : (L.at (R2.get k).xmin).st = 3
      · rw [if_neg (by simp [hx])]
        exact drop g4 e24 (by simp [goneM, hx])
      · rw [if_pos (by simp [hx])]
        refine ⟨_, by simp [rd_blk b4]; rfl, _, by simp [rd_blk b4]; rfl, c.row, by simp [rd_blk b4], ?_⟩
        refine over_s l4 (t := R2.get k) rfl fun g5 e5 => ⟨_, rfl, ?_⟩
        have h0 : ((L.at (R2.get k).xmin).st == 3) = false := by simpa using hx
        cases ho : overM L (R2.get k) with
        | true => exact drop g5 (e24.trans0 e5) (by simp [goneM, ho])
        | false => exact keep g5 (e24.trans0 e5) (by simp [goneM, h0, ho])
  have := key R.keys.length 0 h1 R [] ⟨none, 0, 0⟩ (by omega) (hr.ext0 e1) (hl.ext e1 (by simp)) (e1.mono (by simp)) hks (Own.nil _ _) (by intro b hb; simp [sBlk] at hb) (by simp) rfl
  simpa using this
theorem copy_next (R : RelM) (L : LogM) (ks : List Int) (o : RelM) : (ks.foldl (R.copyStep L) o).next ≤ o.next + ks.length := by
  induction ks generalizing o with
  | nil => simp
  | cons k ks ih =>
    simp only [List.foldl_cons, List.length_cons]
    have := ih (R.copyStep L o k)
    have h2 : (R.copyStep L o k).next ≤ o.next + 1 := by
      unfold RelM.copyStep
      split
      · omega
      · show o.next + 1 ≤ o.next + 1; omega
    omega
theorem Copy_s (hl : IsLog h p L) (hr : IsRel h r m R) (hQ : ∀ h' r' m', IsRel h' r' m' (R.copy L) → Ext [] h h' → h.size ≤ r' → h.size ≤ m' → Q [.pointer (some ⟨r', 0, none⟩)] h') :
    S_heap_Rel_Copy (some ⟨r, 0, none⟩) (some ⟨p, 0, none⟩) h Q := by
  refine O_heap_Rel_Copy _ _ ?_
  unfold F_heap_Rel_Copy
  rw [if_neg (by simp)]
  refine HNew_s fun h1 ro e1 => ⟨_, rfl, ?_⟩
  have hro := ro.r_lt
  have hr1 := hr.ext0 e1
  refine All_s hr1 fun h2 ks e2 hks => ⟨ks, rfl, ?_⟩
  intro X hX
  have hlk := keys_len R
  have hrl := hr.len
  have hrn := hr.nx
  have hkl : R.keys.length < 2 ^ 36 := by omega
  have hks : Own T_int 1 encIL h1.size h2 ks R.keys := hks
  have hkn := hks.1
  have hrlt := hr.r_lt
  have hplt := hl.lt
  have key : ∀ d i g2 (O : RelM), d + i = R.keys.length → IsRel g2 r m R → IsLog g2 p L → Ext [] h g2 → Own T_int 1 encIL h1.size g2 ks R.keys → IsRel g2 (h.size + 1) h.size O →
      (R.keys.take i).foldl (R.copyStep L) ⟨[], 0⟩ = O → X [.int .i64 (i : Int)] g2 := by
    intro d
    induction d with
    | zero =>
      intro i g2 O hd i1 i2 i3 i4 i5 i7
      refine hX _ _ ?_
      rw [if_neg (by simp; omega)]
      rw [List.take_of_length_le (by omega)] at i7
      have e : R.copy L = O := i7
      exact hQ g2 (h.size + 1) h.size (by rw [e]; exact i5) i3 (by omega) (by omega)
    | succ d ih =>
      intro i g2 O hd i1 i2 i3 i4 i5 i7
      refine hX _ _ ?_
      rw [if_pos (by simp; omega)]
      intro J8 hJ8
      rw [wrap64 (by omega) (by omega)] at hJ8
      obtain ⟨a, g1, gr⟩ := sl_get i4.sl (i := i) (by omega)
      rw [g1]
      simp only [nilW_some, Int.toNat_natCast]
      refine ⟨by omega, by omega, _, gr, ?_⟩
      have hfold : (R.keys.take (i + 1)).foldl (R.copyStep L) ⟨[], 0⟩ = R.copyStep L O (R.keys[i]'(by omega)) := by
        rw [List.take_add_one, List.getElem?_eq_getElem (by omega), Option.toList_some, List.foldl_append, i7]
        rfl
      have hOn : O.next ≤ i := by
        have := copy_next R L (R.keys.take i) ⟨[], 0⟩
        rw [i7] at this
        simp at this
        omega
      generalize hk : R.keys[i]'(by omega) = k at *
      obtain ⟨es, clk, m1, m2, m3, c, m4, m5, m6, m7, m8⟩ := i1.look k
      refine ⟨some m, i1.rd_m, es, Or.inr ⟨m, clk, rfl, m1⟩, m2, c.xmin, c.xmax, c.row, m4, ?_⟩
      refine varI rfl rfl fun g3 s3 b3 e3 => ?_
      rw [m5, m6] at b3
      intro J hJ
      have l3 := i2.ext e3 (by simp)
      refine ⟨(R.get k).xmin, by simp [rd_blk b3], ?_⟩
      refine State_s l3 fun g4 e4 => ⟨_, rfl, ?_⟩
      have l4 := l3.ext e4 (by simp)
      have b4 := e4.get b3 (by simp)
      have e24 := e3.trans0 e4
      have skip : ∀ g5, Ext [] g2 g5 → goneM L (R.get k) = true → J [.bool true] g5 := by
        intro g5 e5 hg
        refine hJ _ _ ?_
        rw [if_pos (by decide)]
        refine hJ8 _ ?_
        have := ih (i + 1) g5 O (by omega) (i1.ext0 e5) (i2.ext e5 (by simp)) (i3.trans0 e5) (i4.ext0 e5) (i5.ext0 e5) (by rw [hfold]; unfold RelM.copyStep; rw [if_pos hg])
        simpa using this
      have take : ∀ g5, Ext [] g2 g5 → Blk g5 g2.size #[.int .i64 (R.get k).xmin, .int .i64 (R.get k).xmax, .slice c.row.a c.row.n c.row.c] T_api_Tuple → goneM L (R.get k) = false → J [.bool false] g5 := by
        intro g5 e5 b5 hg
        refine hJ _ _ ?_
        rw [if_neg (by decide)]
        refine ⟨c.row, by simp [rd_blk b5], ?_⟩
        refine Clone_s (m8.ext0 e5).reads m7 fun g6 s' hs' hn' e6 => ⟨s', rfl, ?_⟩
        have hn2 : s'.n = c.row.n := hn'
        have b6 := e6.get b5 (by simp)
        simp only [addr_mk]
        refine st_blk b6 (by simp) fun g7 s7 b7 e7 => ?_
        have e57 : Ext [g2.size] g2 g7 := ((e5.trans0 e6).mono (by simp)).trans e7 (by simp)
        have oth : Other T_api_Value g6 [g2.size] := Other.one b6 (by intro c fz e; simp [T_api_Tuple, T_api_Value] at e)
        have e27 : Ext [] g2 g7 := (e5.trans0 e6).trans e7 (by intro b hb hlt; simp at hb; omega)
        have o7 := i5.ext0 e27
        refine ⟨some h.size, o7.rd_m, O.next, o7.rd_n, ?_⟩
        refine ⟨_, by simp [rd_blk b7]; rfl, _, by simp [rd_blk b7]; rfl, s', by simp [rd_blk b7], ?_⟩
        obtain ⟨es5, clk5, n1, n2, n3⟩ := o7.addW (by omega)
        refine ⟨h.size, es5, clk5, rfl, n1, n2, ?_⟩
        refine setI n1 fun g8 s8 k8 e8 => ?_
        have bo8 := e8.get o7.bk (by simp)
        refine ⟨O.next, by rw [rd_blk bo8]; rfl, ?_⟩
        have hOx := i5.nx
        rw [wrap64 (by omega) (by omega)]
        refine st_blk bo8 (by simp) fun g9 s9 b9 e9 => ?_
        have k9 := e9.get k8 (by simp)
        have e79 : Ext [h.size, h.size + 1] g7 g9 := (e8.mono (by simp)).trans e9 (by simp)
        have hs7 := (hs'.ext e7 oth)
        have hs9 := hs7.ext e79 (rel_other o7)
        have r9 := n3 g9 s' (R.get k) k9 (by simpa using b9) e79 hs9 (by omega)
        refine hJ8 _ ?_
        have hh1 := e1.sz
        have r1lt : h.size + 1 < h1.size := hro.1
        have i1' := (i1.ext0 e27).ext e79 (by simp; omega) (by simp; omega) (rel_other o7)
        have := ih (i + 1) g9 (O.add (R.get k)) (by omega) i1' ((i2.ext e27 (by simp)).ext e79 (by simp; omega)) ((i3.trans0 e27).trans e79 (by intro b hb hlt; simp at hb; omega))
          ((i4.ext0 e27).ext e79 fun a ha hb => by have := i4.blk _ (mem_sBlk.2 ⟨a, ha, rfl⟩); simp at hb; omega) r9 (by rw [hfold]; unfold RelM.copyStep; rw [if_neg (by simp [hg])])
        simpa using this
      by_cases hx : (L.at (R.get k).xmin).st = 3
      · rw [if_pos (by simp [hx])]
        exact skip g4 e24 (by simp [goneM, hx])
      · rw [if_neg (by simp [hx])]
        refine ⟨_, by simp [rd_blk b4]; rfl, _, by simp [rd_blk b4]; rfl, c.row, by simp [rd_blk b4], ?_⟩
        refine over_s l4 (t := R.get k) rfl fun g5 e5 => ⟨_, rfl, ?_⟩
        have h0 : ((L.at (R.get k).xmin).st == 3) = false := by simpa using hx
        cases ho : overM L (R.get k) with
        | true => exact skip g5 (e24.trans0 e5) (by simp [goneM, ho])
        | false => exact take g5 (e24.trans0 e5) (e5.get b4 (by simp)) (by simp [goneM, h0, ho])
  have := key R.keys.length 0 h2 ⟨[], 0⟩ (by omega) (hr1.ext0 e2) ((hl.ext e1 (by simp)).ext e2 (by simp)) (e1.trans0 e2) hks (ro.ext0 e2) rfl
  simpa using this
end
end Go.Lift

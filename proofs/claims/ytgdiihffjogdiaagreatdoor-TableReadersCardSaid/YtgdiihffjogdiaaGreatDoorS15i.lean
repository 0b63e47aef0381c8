/- Who may still be committed: in memory; what stays when a part changes. -/
import Derived.Test.YtgdiihffjogdiaaGreatDoorW13m
import Derived.Test.YtgdiihffjogdiaaGreatDoorW14h
import Derived.Test.YtgdiihffjogdiaaGreatDoorLvT
set_option linter.unusedSimpArgs false
set_option linter.unusedVariables false
namespace Go.Lift.E14
open Go Go.Proofs Go.RowKit
set_option maxRecDepth 100000
structure SsiM where
  L : LM
  S : SM
  E : EM
  keep : Int
  kept : List Int
  doomed : List (Int × Int)
  safe : List (Int × Int)
theorem KG.of {G : Nat → Prop} {h h' : Hp} (hk : Go.Lift.KG G h h') : KG G h h' := ⟨hk.sz, hk.old⟩
section
variable {h h' : Hp}
theorem blk_kg {b : Nat} {c : Array Value} {T : TypeId} (hb : Blk h b c T) (e : h'[b]? = h[b]?) : Blk h' b c T := by
  unfold Blk at hb ⊢
  rw [e]
  exact hb
theorem map_kg {K V : Type} {ek : K → Value} {ev : V → Value} {m : Nat} {T : List (K × V)} (hm : IsMap ek ev h m T) (e : h'[m]? = h[m]?) : IsMap ek ev h' m T := by
  obtain ⟨es, c, h1, h2⟩ := hm
  exact ⟨es, c, by rw [e]; exact h1, h2⟩
theorem cl_kg {b : Nat} {L : LM} (hc : ClAt h b L) (e : h'[b]? = h[b]?) : ClAt h' b L := by
  obtain ⟨⟨c, c1, c2⟩, l, k⟩ := hc
  exact ⟨⟨c, blk_kg c1 e, c2⟩, l, k⟩
theorem tab_kg {lo t mb : Nat} {C : CC} {each all fine csn : Int} (hT : TabS lo h t mb C each all fine csn) (e : ∀ b, FS t mb C b → h'[b]? = h[b]?) : TabS lo h' t mb C each all fine csn :=
  ⟨blk_kg hT.blk (e _ (Or.inl rfl)), map_kg hT.outer (e _ (Or.inr (Or.inl rfl))), hT.nd, fun o c hf => map_kg (hT.inner o c hf) (e _ (Or.inr (Or.inr ⟨o, c, hf, rfl⟩))), hT.tnd, hT.lob, hT.sep, hT.smb, hT.lot, hT.lom⟩
theorem q_kg {T : TypeId} {α : Type} {enc : α → List Value} {lo : Nat} {s : Sl} {xs : List α} (hq : OwnQ T enc lo h s xs) (e : ∀ b ∈ sBlk s, h'[b]? = h[b]?) : OwnQ T enc lo h' s xs := by
  refine ⟨hq.1, hq.2.1, hq.2.2.1, fun a ha => ?_⟩
  obtain ⟨b, o, c, h1, h2, h3, h4⟩ := hq.2.2.2 a ha
  exact ⟨b, o, c, h1, h2, blk_kg h3 (e b (mem_sBlk.2 ⟨a, ha, by rw [h1]⟩)), h4⟩
theorem own_kg {T : TypeId} {α : Type} {sz lo : Nat} {enc : α → List Value} {s : Sl} {xs : List α} (ho : Own T sz enc lo h s xs) (e : ∀ b ∈ sBlk s, h'[b]? = h[b]?) : Own T sz enc lo h' s xs := by
  refine ⟨ho.1, ho.2.1, fun a ha => ?_⟩
  obtain ⟨b, c, h1, h2, h3, h4⟩ := ho.2.2 a ha
  exact ⟨b, c, h1, h2, blk_kg h3 (e b (mem_sBlk.2 ⟨a, ha, by rw [h1]⟩)), h4⟩
end
/-- Everything that belongs to one, and to which part each block belongs: 0 others', 1 itself, 2 log and edges, 3 what was read, 4 who is doomed, 5 who is safe, 6 those that keep. -/
structure SsAt (kk : Prop) (w : Nat → Nat) (G : Nat → Prop) (h : Hp) (s cb t e me mo ms dm sm : Nat) (C : CC) (kp : Sl) (M : SsiM) : Prop where
  gw : ∀ b, G b → w b = 0 ∧ b < h.size
  blk : Blk h s #[.pointer (some ⟨cb, 0, none⟩), .pointer (some ⟨t, 0, none⟩), .pointer (some ⟨e, 0, none⟩), .int .i64 M.keep, .slice kp.a kp.n kp.c, .map (some dm), .map (some sm)] T_ssi_Ssi
  ws : w s = 1
  cl : ClAt h cb M.L
  wc : w cb = 2
  ed : Blk h e #[.pointer (some ⟨cb, 0, none⟩), .map (some me), .map (some mo)] T_edge_Edges
  we : w e = 2
  em : IsMap ekP evU h me (tP M.E.m)
  wm : w me = 2
  eo : IsMap encI encI h mo M.E.old
  wo : w mo = 2
  ne : me ≠ mo
  tb : TabS 0 h t ms C M.S.each M.S.all M.S.fine M.S.csn
  mc : mS C = M.S.m
  wt : ∀ b, FS t ms C b → w b = 3
  dd : IsMap encI encI h dm M.doomed
  wd : w dm = 4
  sf : IsMap encI encI h sm M.safe
  wf : w sm = 5
  kl : ∀ b ∈ sBlk kp, b < h.size
  kq : kk → OwnQ T_int encIL 0 h kp M.kept
  wk : ∀ b ∈ sBlk kp, w b = 6
def wx (w : Nat → Nat) (h : Hp) (k : Nat) : Nat → Nat := fun b => if b < h.size then w b else k
theorem wx_lt {w : Nat → Nat} {h : Hp} {k b : Nat} (hb : b < h.size) : wx w h k b = w b := by unfold wx; rw [if_pos hb]
/-- All but one part. -/
abbrev NP (w : Nat → Nat) (h : Hp) (k : Nat) : Nat → Prop := fun b => b < h.size ∧ w b ≠ k
section
variable {kk : Prop} {w : Nat → Nat} {G G' : Nat → Prop} {h h' : Hp} {s cb t e me mo ms dm sm : Nat} {C : CC} {kp : Sl} {M : SsiM}
theorem SsAt.lts (hA : SsAt kk w G h s cb t e me mo ms dm sm C kp M) : s < h.size := blk_lt hA.blk
theorem SsAt.ltk (hA : SsAt kk w G h s cb t e me mo ms dm sm C kp M) {b : Nat} (hb : b ∈ sBlk kp) : b < h.size := hA.kl b hb
theorem SsAt.ltt (hA : SsAt kk w G h s cb t e me mo ms dm sm C kp M) {b : Nat} (hb : FS t ms C b) : b < h.size := (hA.tb.lt hb).2
/-- The log and the edges, apart from the rest. -/
theorem SsAt.ev (hA : SsAt kk w G h s cb t e me mo ms dm sm C kp M) : EvS (NP w h 2) h cb e M.L M.E :=
  ⟨fun b hb => hb.1, hA.cl, ⟨me, mo, hA.ed, hA.em, hA.eo, hA.ne, fun g => g.2 hA.wm, fun g => g.2 hA.wo⟩, fun g => g.2 hA.wc, fun g => g.2 hA.we⟩
/-- What was read, apart from the rest. -/
theorem SsAt.sv (hA : SsAt kk w G h s cb t e me mo ms dm sm C kp M) : Sv (NP w h 3) h t M.S :=
  ⟨fun b hb => hb.1, ms, C, hA.tb, hA.mc, fun b hb g => g.2 (hA.wt b hb)⟩
/-- The log and the edges have changed. -/
theorem SsAt.edges (hA : SsAt kk w G h s cb t e me mo ms dm sm C kp M) {L' : LM} {E' : EM} (hE : EvS (NP w h 2) h' cb e L' E') (hk : KG (NP w h 2) h h') :
    ∃ me' mo', SsAt kk (wx w h 2) G h' s cb t e me' mo' ms dm sm C kp { M with L := L', E := E' } := by
  obtain ⟨e1, e2, ⟨mb, ob, a1, a2, a3, a4, a5, a6⟩, e4⟩ := hE
  have hz := hk.sz
  have nw : ∀ {b : Nat}, ¬ NP w h 2 b → wx w h 2 b = 2 := fun {b} hn => by
    unfold wx
    split
    · rename_i hlt
      exact Classical.byContradiction fun g => hn ⟨hlt, g⟩
    · rfl
  have k1 : ∀ {b j : Nat}, b < h.size → w b = j → j ≠ 2 → h'[b]? = h[b]? := fun hb hw hj => hk.old _ ⟨hb, by omega⟩
  have ld := hA.dd.lt
  have lf := hA.sf.lt
  exact ⟨mb, ob, fun b hb => by have := hA.gw b hb; rw [wx_lt this.2]; omega, blk_kg hA.blk (k1 hA.lts hA.ws (by omega)), by rw [wx_lt hA.lts]; exact hA.ws, e2, nw e4.1, a1, nw e4.2, a2, nw a5, a3, nw a6, a4,
    tab_kg hA.tb (fun b hb => k1 (hA.ltt hb) (hA.wt b hb) (by omega)), hA.mc, fun b hb => by rw [wx_lt (hA.ltt hb)]; exact hA.wt b hb,
    map_kg hA.dd (k1 ld hA.wd (by omega)), by rw [wx_lt ld]; exact hA.wd, map_kg hA.sf (k1 lf hA.wf (by omega)), by rw [wx_lt lf]; exact hA.wf,
    fun b hb => Nat.lt_of_lt_of_le (hA.ltk hb) hz, fun q => q_kg (hA.kq q) (fun b hb => k1 (hA.ltk hb) (hA.wk b hb) (by omega)), fun b hb => by rw [wx_lt (hA.ltk hb)]; exact hA.wk b hb⟩
/-- What was read has changed. -/
theorem SsAt.table (hA : SsAt kk w G h s cb t e me mo ms dm sm C kp M) {S' : SM} (hS : Sv (NP w h 3) h' t S') (hk : KG (NP w h 3) h h') :
    ∃ ms' C', SsAt kk (wx w h 3) G h' s cb t e me mo ms' dm sm C' kp { M with S := S' } := by
  obtain ⟨s1, ms', C', hT, hC, hF⟩ := hS
  have hz := hk.sz
  have nw : ∀ {b : Nat}, ¬ NP w h 3 b → wx w h 3 b = 3 := fun {b} hn => by
    unfold wx
    split
    · rename_i hlt
      exact Classical.byContradiction fun g => hn ⟨hlt, g⟩
    · rfl
  have k1 : ∀ {b j : Nat}, b < h.size → w b = j → j ≠ 3 → h'[b]? = h[b]? := fun hb hw hj => hk.old _ ⟨hb, by omega⟩
  have lc := hA.cl.lt
  have le := blk_lt hA.ed
  have lm := hA.em.lt
  have lo := hA.eo.lt
  have ld := hA.dd.lt
  have lf := hA.sf.lt
  exact ⟨ms', C', fun b hb => by have := hA.gw b hb; rw [wx_lt this.2]; omega, blk_kg hA.blk (k1 hA.lts hA.ws (by omega)), by rw [wx_lt hA.lts]; exact hA.ws, cl_kg hA.cl (k1 lc hA.wc (by omega)), by rw [wx_lt lc]; exact hA.wc, blk_kg hA.ed (k1 le hA.we (by omega)), by rw [wx_lt le]; exact hA.we,
    map_kg hA.em (k1 lm hA.wm (by omega)), by rw [wx_lt lm]; exact hA.wm, map_kg hA.eo (k1 lo hA.wo (by omega)), by rw [wx_lt lo]; exact hA.wo, hA.ne, hT, hC, fun b hb => nw (hF b hb),
    map_kg hA.dd (k1 ld hA.wd (by omega)), by rw [wx_lt ld]; exact hA.wd, map_kg hA.sf (k1 lf hA.wf (by omega)), by rw [wx_lt lf]; exact hA.wf,
    fun b hb => Nat.lt_of_lt_of_le (hA.ltk hb) hz, fun q => q_kg (hA.kq q) (fun b hb => k1 (hA.ltk hb) (hA.wk b hb) (by omega)), fun b hb => by rw [wx_lt (hA.ltk hb)]; exact hA.wk b hb⟩
/-- Who is doomed has changed. -/
theorem SsAt.doom (hA : SsAt kk w G h s cb t e me mo ms dm sm C kp M) {d : List (Int × Int)} (hd : IsMap encI encI h' dm d) (he : Ext [dm] h h') : SsAt kk w G h' s cb t e me mo ms dm sm C kp { M with doomed := d } := by
  have hz := he.sz
  have k1 : ∀ {b j : Nat}, b < h.size → w b = j → j ≠ 4 → h'[b]? = h[b]? := fun {b j} hb hw hj => he.old _ hb (fun hm => by simp at hm; subst hm; have := hA.wd; omega)
  exact ⟨fun b hb => by have := hA.gw b hb; omega, blk_kg hA.blk (k1 hA.lts hA.ws (by omega)), hA.ws, cl_kg hA.cl (k1 hA.cl.lt hA.wc (by omega)), hA.wc, blk_kg hA.ed (k1 (blk_lt hA.ed) hA.we (by omega)), hA.we,
    map_kg hA.em (k1 hA.em.lt hA.wm (by omega)), hA.wm, map_kg hA.eo (k1 hA.eo.lt hA.wo (by omega)), hA.wo, hA.ne, tab_kg hA.tb (fun b hb => k1 (hA.ltt hb) (hA.wt b hb) (by omega)), hA.mc, hA.wt,
    hd, hA.wd, map_kg hA.sf (k1 hA.sf.lt hA.wf (by omega)), hA.wf, fun b hb => Nat.lt_of_lt_of_le (hA.ltk hb) hz, fun q => q_kg (hA.kq q) (fun b hb => k1 (hA.ltk hb) (hA.wk b hb) (by omega)), hA.wk⟩
/-- Who is safe has changed. -/
theorem SsAt.saved (hA : SsAt kk w G h s cb t e me mo ms dm sm C kp M) {d : List (Int × Int)} (hd : IsMap encI encI h' sm d) (he : Ext [sm] h h') : SsAt kk w G h' s cb t e me mo ms dm sm C kp { M with safe := d } := by
  have hz := he.sz
  have k1 : ∀ {b j : Nat}, b < h.size → w b = j → j ≠ 5 → h'[b]? = h[b]? := fun {b j} hb hw hj => he.old _ hb (fun hm => by simp at hm; subst hm; have := hA.wf; omega)
  exact ⟨fun b hb => by have := hA.gw b hb; omega, blk_kg hA.blk (k1 hA.lts hA.ws (by omega)), hA.ws, cl_kg hA.cl (k1 hA.cl.lt hA.wc (by omega)), hA.wc, blk_kg hA.ed (k1 (blk_lt hA.ed) hA.we (by omega)), hA.we,
    map_kg hA.em (k1 hA.em.lt hA.wm (by omega)), hA.wm, map_kg hA.eo (k1 hA.eo.lt hA.wo (by omega)), hA.wo, hA.ne, tab_kg hA.tb (fun b hb => k1 (hA.ltt hb) (hA.wt b hb) (by omega)), hA.mc, hA.wt,
    map_kg hA.dd (k1 hA.dd.lt hA.wd (by omega)), hA.wd, hd, hA.wf, fun b hb => Nat.lt_of_lt_of_le (hA.ltk hb) hz, fun q => q_kg (hA.kq q) (fun b hb => k1 (hA.ltk hb) (hA.wk b hb) (by omega)), hA.wk⟩
/-- Nothing of it has changed. -/
theorem SsAt.grow (hA : SsAt kk w G h s cb t e me mo ms dm sm C kp M) (he : Ext [] h h') (hG : ∀ b, G' b → (G b ∨ h.size ≤ b) ∧ b < h'.size) : SsAt kk (wx w h 0) G' h' s cb t e me mo ms dm sm C kp M := by
  have hz := he.sz
  have k1 : ∀ {b : Nat}, b < h.size → h'[b]? = h[b]? := fun {b} hb => he.old _ hb (by simp)
  have lc := hA.cl.lt
  have le := blk_lt hA.ed
  have lm := hA.em.lt
  have lo := hA.eo.lt
  have ld := hA.dd.lt
  have lf := hA.sf.lt
  refine ⟨fun b hb => ?_, blk_kg hA.blk (k1 hA.lts), by rw [wx_lt hA.lts]; exact hA.ws, cl_kg hA.cl (k1 lc), by rw [wx_lt lc]; exact hA.wc, blk_kg hA.ed (k1 le), by rw [wx_lt le]; exact hA.we,
    map_kg hA.em (k1 lm), by rw [wx_lt lm]; exact hA.wm, map_kg hA.eo (k1 lo), by rw [wx_lt lo]; exact hA.wo, hA.ne, tab_kg hA.tb (fun b hb => k1 (hA.ltt hb)), hA.mc, fun b hb => by rw [wx_lt (hA.ltt hb)]; exact hA.wt b hb,
    map_kg hA.dd (k1 ld), by rw [wx_lt ld]; exact hA.wd, map_kg hA.sf (k1 lf), by rw [wx_lt lf]; exact hA.wf, fun b hb => Nat.lt_of_lt_of_le (hA.ltk hb) hz, fun q => q_kg (hA.kq q) (fun b hb => k1 (hA.ltk hb)), fun b hb => by rw [wx_lt (hA.ltk hb)]; exact hA.wk b hb⟩
  refine ⟨?_, (hG b hb).2⟩
  rcases (hG b hb).1 with g | g
  · rw [wx_lt (hA.gw b g).2]
    exact (hA.gw b g).1
  · unfold wx
    rw [if_neg (by omega)]
/-- The list of those that keep may be anything, for a while. -/
theorem SsAt.looseK (k : Nat) (hA : SsAt kk w G h s cb t e me mo ms dm sm C kp M) (he : Ext (sBlk kp) h h') : SsAt False (wx w h k) G h' s cb t e me mo ms dm sm C kp M := by
  have hz := he.sz
  have k1 : ∀ {b j : Nat}, b < h.size → w b = j → j ≠ 6 → h'[b]? = h[b]? := fun {b j} hb hw hj => he.old _ hb (fun hm => by have := hA.wk _ hm; omega)
  have lc := hA.cl.lt
  have le := blk_lt hA.ed
  have lm := hA.em.lt
  have lo := hA.eo.lt
  have ld := hA.dd.lt
  have lf := hA.sf.lt
  exact ⟨fun b hb => by have := hA.gw b hb; rw [wx_lt this.2]; omega, blk_kg hA.blk (k1 hA.lts hA.ws (by omega)), by rw [wx_lt hA.lts]; exact hA.ws, cl_kg hA.cl (k1 lc hA.wc (by omega)), by rw [wx_lt lc]; exact hA.wc, blk_kg hA.ed (k1 le hA.we (by omega)), by rw [wx_lt le]; exact hA.we,
    map_kg hA.em (k1 lm hA.wm (by omega)), by rw [wx_lt lm]; exact hA.wm, map_kg hA.eo (k1 lo hA.wo (by omega)), by rw [wx_lt lo]; exact hA.wo, hA.ne, tab_kg hA.tb (fun b hb => k1 (hA.ltt hb) (hA.wt b hb) (by omega)), hA.mc, fun b hb => by rw [wx_lt (hA.ltt hb)]; exact hA.wt b hb,
    map_kg hA.dd (k1 ld hA.wd (by omega)), by rw [wx_lt ld]; exact hA.wd, map_kg hA.sf (k1 lf hA.wf (by omega)), by rw [wx_lt lf]; exact hA.wf, fun b hb => Nat.lt_of_lt_of_le (hA.ltk hb) hz, fun q => q.elim, fun b hb => by rw [wx_lt (hA.ltk hb)]; exact hA.wk b hb⟩
theorem SsAt.loose (hA : SsAt kk w G h s cb t e me mo ms dm sm C kp M) (he : Ext (sBlk kp) h h') : SsAt False (wx w h 0) G h' s cb t e me mo ms dm sm C kp M := hA.looseK 0 he
/-- The list and the field are laid anew. -/
theorem SsAt.lay (hA : SsAt kk w G h s cb t e me mo ms dm sm C kp M) {kp' : Sl} {l : List Int} {K : Hp → Prop} (hq : OwnQ T_int encIL 0 h kp' l) (hs : ∀ b ∈ sBlk kp', w b = 6)
    (H : ∀ h', SsAt True w G h' s cb t e me mo ms dm sm C kp' { M with kept := l } → Ext [s] h h' → h'.size = h.size → K h') :
    stOk h (Addr.add (Addr.mk s 0 none) 4) 1 ∧ wth (wrs h (Addr.add (Addr.mk s 0 none) 4) 0 [(Value.slice kp'.a kp'.n kp'.c)]) K := by
  rw [addr_mk]
  refine st_blk hA.blk (by simp) fun h' z b' e' => H h' ?_ e' z
  have k1 : ∀ {b j : Nat}, b < h.size → w b = j → j ≠ 1 → h'[b]? = h[b]? := fun {b j} hb hw hj => e'.old _ hb (fun hm => by simp at hm; subst hm; have := hA.ws; omega)
  exact ⟨fun b hb => by have := hA.gw b hb; omega, by simpa [putAt] using b', hA.ws, cl_kg hA.cl (k1 hA.cl.lt hA.wc (by omega)), hA.wc, blk_kg hA.ed (k1 (blk_lt hA.ed) hA.we (by omega)), hA.we,
    map_kg hA.em (k1 hA.em.lt hA.wm (by omega)), hA.wm, map_kg hA.eo (k1 hA.eo.lt hA.wo (by omega)), hA.wo, hA.ne, tab_kg hA.tb (fun b hb => k1 (hA.ltt hb) (hA.wt b hb) (by omega)), hA.mc, hA.wt,
    map_kg hA.dd (k1 hA.dd.lt hA.wd (by omega)), hA.wd, map_kg hA.sf (k1 hA.sf.lt hA.wf (by omega)), hA.wf, fun b hb => by have := (hq.blk b hb).2; omega, fun _ => q_kg hq (fun b hb => k1 (hq.blk b hb).2 (hs b hb) (by omega)), hs⟩
end
/-- One in memory, apart from G; its log, its table, its edges. -/
def Ss (G : Nat → Prop) (h : Hp) (s cb t e : Nat) (M : SsiM) : Prop := ∃ w me mo ms dm sm C kp, SsAt True w G h s cb t e me mo ms dm sm C kp M
section
variable {G G' : Nat → Prop} {h h' : Hp} {s cb t e : Nat} {M : SsiM}
theorem Ss.lt (hS : Ss G h s cb t e M) {b : Nat} (hb : G b) : b < h.size := by
  obtain ⟨w, me, mo, ms, dm, sm, C, kp, hA⟩ := hS
  exact (hA.gw b hb).2
theorem Ss.grow (hS : Ss G h s cb t e M) (he : Ext [] h h') (hG : ∀ b, G' b → (G b ∨ h.size ≤ b) ∧ b < h'.size) : Ss G' h' s cb t e M := by
  obtain ⟨w, me, mo, ms, dm, sm, C, kp, hA⟩ := hS
  exact ⟨_, _, _, _, _, _, _, _, hA.grow he hG⟩
theorem Ss.e0 (hS : Ss G h s cb t e M) (he : Ext [] h h') : Ss G h' s cb t e M := hS.grow he fun b hb => ⟨Or.inl hb, Nat.lt_of_lt_of_le (hS.lt hb) he.sz⟩
theorem Ss.less (hS : Ss G h s cb t e M) (hG : ∀ b, G' b → G b) : Ss G' h s cb t e M := hS.grow (Ext.refl _ _) fun b hb => ⟨Or.inl (hG b hb), hS.lt (hG b hb)⟩
/-- The log and the edges are asked, or changed. -/
theorem Ss.onE (hS : Ss G h s cb t e M) : ∃ P : Nat → Prop, EvS P h cb e M.L M.E ∧ (∀ b, G b → P b) ∧ P s ∧ ∀ {h' : Hp} {L' : LM} {E' : EM}, EvS P h' cb e L' E' → KG P h h' → Ss G h' s cb t e { M with L := L', E := E' } := by
  obtain ⟨w, me, mo, ms, dm, sm, C, kp, hA⟩ := hS
  refine ⟨NP w h 2, hA.ev, fun b hb => ⟨(hA.gw b hb).2, by have := (hA.gw b hb).1; omega⟩, ⟨hA.lts, by have := hA.ws; omega⟩, fun hE hk => ?_⟩
  obtain ⟨me', mo', h1⟩ := hA.edges hE hk
  exact ⟨_, _, _, _, _, _, _, _, h1⟩
/-- What was read is asked, or changed. -/
theorem Ss.onS (hS : Ss G h s cb t e M) : ∃ P : Nat → Prop, Sv P h t M.S ∧ (∀ b, G b → P b) ∧ P s ∧ ∀ {h' : Hp} {S' : SM}, Sv P h' t S' → KG P h h' → Ss G h' s cb t e { M with S := S' } := by
  obtain ⟨w, me, mo, ms, dm, sm, C, kp, hA⟩ := hS
  refine ⟨NP w h 3, hA.sv, fun b hb => ⟨(hA.gw b hb).2, by have := (hA.gw b hb).1; omega⟩, ⟨hA.lts, by have := hA.ws; omega⟩, fun hE hk => ?_⟩
  obtain ⟨ms', C', h1⟩ := hA.table hE hk
  exact ⟨_, _, _, _, _, _, _, _, h1⟩
end
end Go.Lift.E14
namespace Go.Lift.E14
open Go Go.Proofs Go.RowKit
set_option maxRecDepth 100000
theorem zcInt : (zc PP T_int).size = 1 := by kernel_rfl
def runsB (L : LM) (x : Int) : Bool := decide ((txL L x).state = 1)
def nums (k : Nat) : List Int := (List.range k).map fun i : Nat => ((i : Int) + 1)
theorem nums_succ (k : Nat) : nums (k + 1) = nums k ++ [(k : Int) + 1] := by simp [nums, List.range_succ]
theorem nums_mem {k : Nat} {x : Int} : x ∈ nums k ↔ 1 ≤ x ∧ x ≤ k := by
  simp only [nums, List.mem_map, List.mem_range]
  constructor
  · rintro ⟨i, h1, h2⟩; omega
  · intro h1; exact ⟨(x - 1).toNat, by omega, by omega⟩
theorem nums_len (k : Nat) : (nums k).length = k := by simp [nums]
def runningL (L : LM) : List Int := (nums L.l.length).filter (runsB L)
def horizonL (L : LM) : Int := (runningL L).foldl (fun m x => mnI m (txL L x).snap) L.clock
section
variable {h : Hp} {b : Nat} {L : LM} {Q : List Value → Hp → Prop}
theorem rdTx (hC : ClAt h b L) {x : Int} (hx : hasL L x) {k : Nat} (hk : k < 4) : rd h ⟨b, x.toNat * 4 + k, none⟩ = (encX (txL L x))[k]? := by
  obtain ⟨⟨c, c1, c2, c3, c4, c5⟩, l1, l2⟩ := hC
  obtain ⟨hi, e1, e2⟩ := txL_has hx
  have := c3 _ hi k hk
  rw [rd_blk c1, e1, ← this, e2]
theorem rdLen (hC : ClAt h b L) : rd h (Addr.add ⟨b, 0, none⟩ 804) = some (.int .i64 L.l.length) := by
  obtain ⟨⟨c, c1, c2, c3, c4, c5⟩, l1, l2⟩ := hC
  rw [addr_mk, rd_blk c1, Nat.zero_add, c4]
theorem Clock_s (hC : ClAt h b L) (hQ : Q [.int .i64 L.clock] h) : S_clog_Log_Clock (some ⟨b, 0, none⟩) h Q := by
  refine O_clog_Log_Clock _ ?_
  delta F_clog_Log_Clock rI rB rS rP rM rL vI vB vS vP vM vL vC vA ad nb gb wi bl bz tn isn sib pu oc
  rw [if_neg (by simp), nilW_some]
  obtain ⟨⟨c, c1, c2, c3, c4, c5⟩, l1, l2⟩ := hC
  exact ⟨_, by rw [addr_mk, rd_blk c1, Nat.zero_add, c5], hQ⟩
theorem Running_s (hC : ClAt h b L) (hQ : ∀ h' s, Ext [] h h' → Own T_int 1 encIL h.size h' s (runningL L) → Q [.slice s.a s.n s.c] h') : S_clog_Log_Running (some ⟨b, 0, none⟩) h Q := by
  refine O_clog_Log_Running _ ?_
  delta F_clog_Log_Running rI rB rS rP rM rL vI vB vS vP vM vL vC vA ad nb gb wi bl bz tn isn sib pu oc
  intro X hX
  have hn := hC.len
  have key : ∀ d k s h1, d + k = L.l.length → Ext [] h h1 → Own T_int 1 encIL h.size h1 s ((nums k).filter (runsB L)) → X [.slice s.a s.n s.c, .int .i64 ((k : Int) + 1)] h1 := by
    intro d
    induction d with
    | zero =>
      intro k s h1 hd e1 ho
      refine hX s _ _ ?_
      intro J hJ
      have l1 := hC.ext0 e1
      rw [if_pos (by rfl), nilW_some]
      refine ⟨_, rdLen l1, ?_⟩
      refine hJ _ _ ?_
      rw [if_neg (by simp; omega)]
      have : k = L.l.length := by omega
      subst this
      exact hQ h1 s e1 ho
    | succ d ih =>
      intro k s h1 hd e1 ho
      refine hX s _ _ ?_
      intro J hJ
      have l1 := hC.ext0 e1
      rw [if_pos (by rfl), nilW_some]
      refine ⟨_, rdLen l1, ?_⟩
      refine hJ _ _ ?_
      rw [if_pos (by simp; omega)]
      intro J2 hJ2
      rw [wrap64 (by omega) (by omega)] at hJ2
      rw [nilW_some]
      have hx : hasL L ((k : Int) + 1) := ⟨by omega, by omega⟩
      have hrd := rdTx l1 hx (k := 0) (by omega)
      have hrd2 : rd h1 (Addr.add (Addr.add (Addr.add (Addr.mk b 0 none) 0) (Int.toNat ((k : Int) + 1) * 4)) 0) = some (.int .i64 (txL L ((k : Int) + 1)).state) := by
        rw [addr0, addr0, addr_mk, Nat.zero_add]
        exact hrd
      refine ⟨by omega, by omega, _, hrd2, ?_⟩
      have hns := nums_succ k
      by_cases hr : (txL L ((k : Int) + 1)).state = 1
      · rw [if_pos (by rw [hr]; rfl)]
        refine newI fun g z b1 d1 => ?_
        have ho1 := ho.ext0 d1
        have hln : ((nums k).filter (runsB L)).length ≤ 2 ^ 30 := by
          have := List.length_filter_le (runsB L) (nums k)
          rw [nums_len] at this
          omega
        refine oneG (k := (k : Int) + 1) encIL_len encIL_one zcInt (by decide) ho1 b1 hln (by have := e1.sz; have := d1.sz; omega) fun s' h' ho' he' hb' => ?_
        refine hJ2 s' _ ?_
        have e2 : Ext [] h h' := (e1.trans0 d1).trans he' fun b hb hlt => by have := ho1.blk b hb; omega
        have := ih (k + 1) s' h' (by omega) e2 (by
          rw [hns, List.filter_append]
          have e0 : runsB L ((k : Int) + 1) = true := by unfold runsB; simpa using hr
          simpa [e0] using ho')
        simpa using this
      · rw [if_neg (fun e => hr (eq_of_beq e))]
        refine hJ2 s _ ?_
        have := ih (k + 1) s h1 (by omega) e1 (by
          rw [hns, List.filter_append]
          have e0 : runsB L ((k : Int) + 1) = false := by unfold runsB; simpa using hr
          simpa [e0] using ho)
        simpa using this
  have := key L.l.length 0 ⟨none, 0, 0⟩ h (by omega) (Ext.refl _ _) (by simpa [nums] using Own.nil _ _)
  simpa using this
theorem running_has {x : Int} (hx : x ∈ runningL L) : hasL L x ∧ (txL L x).state = 1 := by
  obtain ⟨h1, h2⟩ := List.mem_filter.1 hx
  have := nums_mem.1 h1
  unfold runsB at h2
  exact ⟨this, of_decide_eq_true h2⟩
theorem running_len (L : LM) : (runningL L).length ≤ L.l.length := by
  have := List.length_filter_le (runsB L) (nums L.l.length)
  rw [nums_len] at this
  exact this
theorem Horizon_s (hC : ClAt h b L) (hQ : ∀ h', Ext [] h h' → Q [.int .i64 (horizonL L)] h') : S_clog_Log_Horizon (some ⟨b, 0, none⟩) h Q := by
  refine O_clog_Log_Horizon _ ?_
  delta F_clog_Log_Horizon rI rB rS rP rM rL vI vB vS vP vM vL vC vA ad nb gb wi bl bz tn isn sib pu oc
  refine Clock_s hC ⟨_, rfl, ?_⟩
  refine Running_s hC fun h1 s e1 ho => ⟨s, rfl, ?_⟩
  intro X hX
  have hn := hC.len
  have hsn := ho.1
  have hrl := running_len L
  have hC1 := hC.ext0 e1
  have key : ∀ d i, d + i = (runningL L).length → X [.int .i64 (((runningL L).take i).foldl (fun m x => mnI m (txL L x).snap) L.clock), .int .i64 (i : Int)] h1 := by
    intro d
    induction d with
    | zero =>
      intro i hi
      refine hX _ _ _ ?_
      rw [if_neg (by simp; omega), List.take_of_length_le (by omega)]
      exact hQ h1 e1
    | succ d ih =>
      intro i hi
      have hil : i < (runningL L).length := by omega
      refine hX _ _ _ ?_
      rw [if_pos (by simp; omega)]
      obtain ⟨a, w1, w2⟩ := rdI ho.sl.reads (i := i) hil
      obtain ⟨r1, r2⟩ := running_has (List.getElem_mem hil)
      rw [w1]
      simp only [nilW_some, Int.toNat_natCast]
      have q1 := r1.1
      have q2 := r1.2
      refine ⟨by omega, by omega, _, w2, by omega, by omega, (txL L (runningL L)[i]).snap, ?_, ?_⟩
      · have := rdTx hC1 r1 (k := 2) (by omega)
        show rd h1 (Addr.add (Addr.add (Addr.mk b 0 none) _) 2) = _
        rw [addr_mk, addr_mk, Nat.zero_add]
        exact this
      · rw [wrap64 (by omega) (by omega)]
        have := ih (i + 1) (by omega)
        rw [List.take_add_one, List.getElem?_eq_getElem hil, Option.toList_some, List.foldl_append] at this
        exact this
  have := key (runningL L).length 0 (by omega)
  simpa using this
end
/-! A list gone through by a function that may change other things. -/
section
variable {h : Hp} {s : Sl} {xs : List Int} {f : Nat} {cs : Array Value} {Q : List Value → Hp → Prop} {St : Nat → Hp → Prop}
/-- From the place i on, what is read there is what stood there. -/
def RdFrom (s : Sl) (xs : List Int) (i : Nat) (g : Hp) : Prop := ∀ j (hj : j < xs.length), i ≤ j → ∃ a, s.a = some a ∧ rd g (Addr.add a (j * 1)) = some (.int .i64 xs[j])
theorem IndexFunc_z (p : Int → Bool) (hn : s.n = xs.length) (hl : xs.length < 2 ^ 60) (hr : ∀ k g, St k g → RdFrom s xs 0 g)
    (hf : ∀ k (hk : k < xs.length) g K, St k g → (∀ g', St (k + 1) g' → K [.bool (p xs[k])] g') → Fn PP f ((#[] ++ #[(Value.int .i64 xs[k])]) ++ cs) g K)
    (h0 : St 0 h) (hyes : ∀ i (hi : i < xs.length) g, (∀ j (hj : j < i), p xs[j] = false) → p xs[i] = true → St (i + 1) g → Q [.int .i64 (i : Int)] g)
    (hno : ∀ g, (∀ x ∈ xs, p x = false) → St xs.length g → Q [.int .i64 (-1)] g) : S_slices_IndexFunc_sint_int s f cs h Q := by
  refine O_slices_IndexFunc_sint_int _ _ _ ?_
  delta F_slices_IndexFunc_sint_int rI rB rS rP rM rL vI vB vS vP vM vL vC vA ad nb gb wi bl bz tn isn sib pu oc
  intro X hX
  have key : ∀ d i g, d + i = xs.length → (∀ j (hj : j < xs.length), j < i → p xs[j] = false) → St i g → X [.int .i64 (i : Int)] g := by
    intro d
    induction d with
    | zero =>
      intro i g hi hall hst
      refine hX _ _ ?_
      rw [if_neg (by simp; omega)]
      refine hno g (fun x hx => ?_) (by rwa [show xs.length = i by omega])
      obtain ⟨j, hj, rfl⟩ := List.getElem_of_mem hx
      exact hall j hj (by omega)
    | succ d ih =>
      intro i g hi hall hst
      have hil : i < xs.length := by omega
      refine hX _ _ ?_
      rw [if_pos (by simp; omega)]
      obtain ⟨a, w1, w2⟩ := hr i g hst i hil (by omega)
      rw [w1]
      simp only [nilW_some, Int.toNat_natCast]
      refine ⟨by omega, by omega, _, w2, ?_⟩
      refine hf i hil g _ hst fun g' hst' => ⟨_, rfl, ?_⟩
      cases hp : p xs[i] with
      | true =>
        rw [if_pos rfl]
        exact hyes i hil g' (fun j hj => hall j (by omega) hj) hp hst'
      | false =>
        rw [if_neg (by decide), wrap64 (by omega) (by omega)]
        refine ih (i + 1) g' (by omega) (fun j hj hji => ?_) hst'
        rcases (by omega : j < i ∨ j = i) with q | q
        · exact hall j hj q
        · subst q
          exact hp
  exact key xs.length 0 h (by omega) (fun j _ hj => by omega) h0
theorem ContainsFunc_z (p : Int → Bool) (hn : s.n = xs.length) (hl : xs.length < 2 ^ 60) (hr : ∀ k g, St k g → RdFrom s xs 0 g)
    (hf : ∀ k (hk : k < xs.length) g K, St k g → (∀ g', St (k + 1) g' → K [.bool (p xs[k])] g') → Fn PP f ((#[] ++ #[(Value.int .i64 xs[k])]) ++ cs) g K)
    (h0 : St 0 h) (hQ : ∀ k g, St k g → Q [.bool (xs.any p)] g) : S_slices_ContainsFunc_sint_int s f cs h Q := by
  refine O_slices_ContainsFunc_sint_int _ _ _ ?_
  delta F_slices_ContainsFunc_sint_int rI rB rS rP rM rL vI vB vS vP vM vL vC vA ad nb gb wi bl bz tn isn sib pu oc
  refine IndexFunc_z p hn hl hr hf h0 (fun i hi g _ hp hst => ⟨_, rfl, ?_⟩) fun g hall hst => ⟨_, rfl, ?_⟩
  · have := hQ _ g hst
    rw [show xs.any p = true from List.any_eq_true.2 ⟨_, List.getElem_mem hi, hp⟩] at this
    rw [show (decide ((i : Int) ≥ 0)) = true by simp]
    exact this
  · have := hQ _ g hst
    rw [show xs.any p = false from List.any_eq_false.2 fun x hx => by rw [hall x hx]; decide] at this
    exact this
end
end Go.Lift.E14
namespace Go.Lift.E14
open Go Go.Proofs Go.RowKit
set_option maxRecDepth 100000
theorem flt_succ {α : Type} (p : α → Bool) (L : List α) {k : Nat} (hk : k < L.length) : (L.take (k + 1)).filter p = (L.take k).filter p ++ (if p L[k] = true then [L[k]] else []) := by
  rw [List.take_add_one, List.getElem?_eq_getElem hk, Option.toList_some, List.filter_append]
  congr 1
  rw [List.filter_cons]
  simp
section
variable {h : Hp} {s : Sl} {xs : List Int} {f lo : Nat} {cs : Array Value} {Q : List Value → Hp → Prop} {St : Nat → Hp → Prop}
theorem q_cells {b o : Nat} {c : Array Value} {n : Nat} {xs : List Int} (hn : n = xs.length) (h5 : (c.toList.drop o).take n = xs.flatMap encIL) : ∀ m (hm : m < xs.length), c[o + m]? = some (.int .i64 xs[m]) := by
  intro m hm
  have h1 : ((c.toList.drop o).take n)[m]? = (xs.flatMap encIL)[m]? := by rw [h5]
  rw [List.getElem?_take_of_lt (by omega), List.getElem?_drop, Array.getElem?_toList] at h1
  rw [h1, ← List.map_eq_flatMap (f := fun x : Int => Value.int .i64 x), List.getElem?_map, List.getElem?_eq_getElem hm]
  rfl
theorem cells_q {b o : Nat} {c : Array Value} {xs : List Int} (hc : o + xs.length ≤ c.size) (hm : ∀ m (hm : m < xs.length), c[o + m]? = some (.int .i64 xs[m])) : (c.toList.drop o).take xs.length = xs.flatMap encIL := by
  apply List.ext_getElem?
  intro m
  rw [← List.map_eq_flatMap (f := fun x : Int => Value.int .i64 x), List.getElem?_map]
  by_cases h : m < xs.length
  · rw [List.getElem?_take_of_lt h, List.getElem?_drop, Array.getElem?_toList, hm m h, List.getElem?_eq_getElem h]
    rfl
  · rw [List.getElem?_eq_none (by simp; omega), List.getElem?_eq_none (by omega)]
    rfl
theorem DeleteFunc_z (p : Int → Bool) (hq : OwnQ T_int encIL lo h s xs) (hl : xs.length < 2 ^ 30) (hst : ∀ k g g', St k g → Ext (sBlk s) g g' → St k g')
    (hf : ∀ k (hk : k < xs.length) g K, St k g → (∀ g', St (k + 1) g' → g.size ≤ g'.size → (∀ b ∈ sBlk s, g'[b]? = g[b]?) → K [.bool (p xs[k])] g') → Fn PP f ((#[] ++ #[(Value.int .i64 xs[k])]) ++ cs) g K)
    (h0 : St 0 h) (hQ : ∀ g s', St xs.length g → OwnQ T_int encIL lo g s' (xs.filter fun x => !p x) → (∀ b ∈ sBlk s', b ∈ sBlk s) → Q [.slice s'.a s'.n s'.c] g) : S_slices_DeleteFunc_sint_int s f cs h Q := by
  refine O_slices_DeleteFunc_sint_int _ _ _ ?_
  delta F_slices_DeleteFunc_sint_int rI rB rS rP rM rL vI vB vS vP vM vL vC vA ad nb gb wi bl bz tn isn sib pu oc
  have hn := hq.1
  have hcap := hq.2.1
  refine IndexFunc_z (St := fun k g => St k g ∧ h.size ≤ g.size ∧ ∀ b ∈ sBlk s, g[b]? = h[b]?) p hn (by omega) (fun k g hg j hj _ => ?_) (fun k hk g K hg hK => ?_) ⟨h0, Nat.le_refl _, fun _ _ => rfl⟩ (fun i hi g hall hp hg => ⟨_, rfl, ?_⟩) fun g hall hg => ⟨_, rfl, ?_⟩
  · exact rdI (q_kg hq hg.2.2).sl.reads hj
  · refine hf k hk g K hg.1 fun g' h1 h2 h3 => hK g' ⟨h1, by omega, fun b hb => by rw [h3 b hb, hg.2.2 b hb]⟩
  · rw [if_neg (by simp)]
    obtain ⟨a0, ha0⟩ : ∃ a, s.a = some a := by
      cases hsa : s.a with
      | none => have := (hq.2.2.1 hsa).1; rw [this] at hi; simp at hi
      | some a => exact ⟨a, rfl⟩
    obtain ⟨b, o, c0, h1, h2, h3, h4, h5⟩ := hq.2.2.2 a0 ha0
    subst h1
    have hsb : sBlk s = [b] := by unfold sBlk; rw [ha0]
    have hbg : Blk g b c0 T_int := blk_kg h3 (hg.2.2 b (by rw [hsb]; simp))
    have hc0 := q_cells (b := b) hn h5
    intro X hX
    have key : ∀ d j i g c, d + j = xs.length → ((xs.take j).filter fun x => !p x).length = i → i ≤ j → St j g → h.size ≤ g.size → Blk g b c T_int → c.size = c0.size → (∀ m (hm : m < ((xs.take j).filter fun x => !p x).length), c[o + m]? = some (.int .i64 ((xs.take j).filter fun x => !p x)[m])) → (∀ m (hm : m < xs.length), j ≤ m → c[o + m]? = some (.int .i64 xs[m])) →
        X [.int .i64 (i : Int), .int .i64 (j : Int)] g := by
      intro d
      induction d with
      | zero =>
        intro j i g c hj hi2 hij hst' hz hb hcs hF _
        refine hX _ _ _ ?_
        rw [if_neg (by simp; omega)]
        rw [List.take_of_length_le (by omega)] at hi2 hF
        have hin : i ≤ s.n := by omega
        have hzl : ∀ m, (Builtin.zeroCells (zc PP T_int) m).toList.length = m := fun m => by rw [Array.length_toList, zeroCells_size, zcInt, Nat.mul_one]
        refine ⟨⟨by omega, by omega⟩, ⟨by kernel_rfl, fun a ha => ?_⟩, ?_⟩
        · rw [Int.toNat_natCast] at ha ⊢
          rw [zcInt, Nat.mul_one]
          by_cases hsi : s.c = i
          · rw [show s.n - i = 0 by omega]
            intro k hk
            omega
          · unfold slAd at ha
            rw [if_neg hsi, ha0] at ha
            simp only [Option.map_some, addr_mk, Nat.mul_one, Option.some.injEq] at ha
            subst ha
            exact stOk_blk hb (by omega)
        · rw [Int.toNat_natCast]
          have fin : ∀ g2 c2, St xs.length g2 → Blk g2 b c2 T_int → c2.size = c0.size → (∀ m (hm : m < (xs.filter fun x => !p x).length), c2[o + m]? = some (.int .i64 (xs.filter fun x => !p x)[m])) →
              (0 ≤ (i : Int) ∧ (i : Int) ≤ (s.c : Nat)) ∧ Q [(Value.slice (slAd s.a 0 s.c 1) (i - 0) (s.c - 0))] g2 := by
            intro g2 c2 st2 hb2 hcs2 hF2
            refine ⟨⟨by omega, by omega⟩, ?_⟩
            have ea : slAd s.a 0 s.c 1 = some ⟨b, o, none⟩ := by
              unfold slAd
              rw [ha0]
              split <;> simp
            rw [ea]
            refine hQ g2 ⟨some ⟨b, o, none⟩, i - 0, s.c - 0⟩ st2 ⟨by simp only; omega, by simp only; omega, fun e => (by cases e), fun a ha => ?_⟩ fun b' hb' => ?_
            · cases ha
              refine ⟨b, o, c2, rfl, h2, hb2, by simp only; omega, ?_⟩
              have := cells_q (b := b) (o := o) (c := c2) (xs := xs.filter fun x => !p x) (by omega) hF2
              rw [hi2] at this
              simpa using this
            · rw [hsb]
              simpa [sBlk] using hb'
          have stj : St xs.length g := by rwa [show xs.length = j by omega]
          by_cases hni : s.n - i = 0
          · rw [if_pos hni]
            exact fin g c stj hb hcs hF
          · rw [if_neg hni]
            have ea : slAd s.a i s.c 1 = some ⟨b, o + i, none⟩ := by
              unfold slAd
              rw [if_neg (by omega), ha0]
              simp
            rw [ea]
            show wth (wrs g ⟨b, o + i, none⟩ 0 _) _
            refine (st_blk hb (o := o + i) (n := s.n - i) (by omega) fun g2 z2 b2 e2 => ?_).2
            refine fin g2 _ (hst _ _ _ stj (by rw [hsb]; exact e2)) b2 (by rw [putAt_size]; exact hcs) fun m hm => ?_
            rw [putAt_get0 _ _ _ _ (by rw [hzl]; omega), if_neg (by omega)]
            exact hF m hm
      | succ d ih =>
        intro j i g c hj hi2 hij hst' hz hb hcs hF hR
        have hjl : j < xs.length := by omega
        refine hX _ _ _ ?_
        rw [if_pos (by simp; omega)]
        intro J hJ
        rw [ha0]
        simp only [nilW_some, Int.toNat_natCast, addr_mk, Nat.mul_one]
        refine ⟨by omega, by omega, xs[j], by rw [rd_blk hb]; exact hR j hjl (by omega), ?_⟩
        refine hf j hjl g _ hst' fun g' st' z' kb => ⟨_, rfl, ?_⟩
        have hb' : Blk g' b c T_int := blk_kg hb (kb b (by rw [hsb]; simp))
        have fs := flt_succ (fun x => !p x) xs hjl
        cases hp : p xs[j] with
        | true =>
          rw [if_neg (by simp)]
          refine hJ _ _ ?_
          rw [wrap64 (by omega) (by omega)]
          rw [hp] at fs
          simp only [Bool.not_true, Bool.false_eq_true, if_false, List.append_nil] at fs
          refine ih (j + 1) i g' c (by omega) (by rw [fs]; exact hi2) (by omega) st' (by omega) hb' hcs (by rw [fs]; exact hF) fun m hm hjm => hR m hm (by omega)
        | false =>
          rw [if_pos (by simp)]
          refine ⟨by omega, by omega, ?_⟩
          refine st_blk hb' (o := o + i) (n := 1) (by omega) fun g2 z2 b2 e2 => ?_
          refine hJ _ _ ?_
          rw [wrap64 (x := (j : Int) + 1) (by omega) (by omega), wrap64 (by omega) (by omega)]
          rw [hp] at fs
          simp only [Bool.not_false, if_true] at fs
          have hget : ∀ m, (putAt c (o + i) [(Value.int .i64 xs[j])])[m]? = if m = o + i then some (.int .i64 xs[j]) else c[m]? := fun m => by
            rw [putAt_get0 _ _ _ _ (by simp; omega)]
            by_cases e : m = o + i
            · subst e
              rw [if_pos (by simp), if_pos rfl]
              simp
            · rw [if_neg (by simp; omega), if_neg e]
          refine ih (j + 1) (i + 1) g2 _ (by omega) (by rw [fs, List.length_append, hi2]; rfl) (by omega) (hst _ _ _ st' (by rw [hsb]; exact e2)) (by omega) b2 (by rw [putAt_size]; exact hcs) (fun m hm => ?_) fun m hm hjm => ?_
          · rw [hget]
            have hm' := hm
            rw [fs, List.length_append, hi2] at hm'
            simp at hm'
            by_cases e : m = i
            · subst e
              rw [if_pos rfl]
              simp only [fs]
              rw [List.getElem_append_right (by omega)]
              simp
            · rw [if_neg (by omega)]
              simp only [fs]
              rw [List.getElem_append_left (by omega)]
              exact hF m (by omega)
          · rw [hget, if_neg (by omega)]
            exact hR m hm (by omega)
    have ft : (xs.take (i + 1)).filter (fun x => !p x) = xs.take i := by
      rw [flt_succ (fun x => !p x) xs hi, hp]
      simp only [Bool.not_true, Bool.false_eq_true, if_false, List.append_nil]
      refine List.filter_eq_self.2 fun x hx => ?_
      obtain ⟨j, hj, rfl⟩ := List.getElem_of_mem hx
      rw [List.length_take] at hj
      rw [List.getElem_take, hall j (by omega)]
      rfl
    rw [wrap64 (by omega) (by omega)]
    have := key (xs.length - (i + 1)) (i + 1) i g c0 (by omega) (by rw [ft, List.length_take]; omega) (by omega) hg.1 hg.2.1 hbg rfl (fun m hm => by
      have hm' := hm
      rw [ft, List.length_take] at hm'
      simp only [ft]
      rw [List.getElem_take]
      exact hc0 m (by omega)) fun m hm _ => hc0 m hm
    simpa using this
  · rw [if_pos (by rfl)]
    have e : xs.filter (fun x => !p x) = xs := List.filter_eq_self.2 fun x hx => by rw [hall x hx]; rfl
    exact hQ g s hg.1 (by rw [e]; exact q_kg hq hg.2.2) fun b hb => hb
end
end Go.Lift.E14
namespace Go.Lift.E14
open Go Go.Proofs Go.RowKit
set_option maxRecDepth 100000
def bump (l : List (Int × Int)) (x : Int) : List (Int × Int) := aput l x ((afind l x).getD 0 + 1)
def cnt (l : List (Int × Int)) (x : Int) : Int := (afind l x).getD 0
def doomAll (M : SsiM) (l : List Int) : SsiM := { M with doomed := l.foldl bump M.doomed }
def lookM (M : SsiM) (p : Int) : SsiM := if (spoiltE M.L M.E p).2 = true then doomAll M (if runsB M.L p = true then [p] else (spoiltE M.L M.E p).1) else M
def behindM (M : SsiM) (a b : Int) : SsiM := if besideL M.L a b = true ∧ (a, b) ∉ M.E.m then lookM (lookM { M with E := addE M.L M.E a b } b) a else M
def readsB (M : SsiM) (x : Int) : Bool := runsB M.L x && decide (cnt M.safe x = 0)
def readM (M : SsiM) (x : Int) (y : ThingM) : SsiM := if readsB M x = true then { M with S := TakeS M.S x y } else M
def wstep (x : Int) (M : SsiM) (who : Int) : SsiM :=
  if who = x then M else if who > 0 then behindM M who x
  else if oldOk M.L M.E x M.S.csn then lookM { M with E := oldInE M.L M.E x M.S.csn } x else M
def wroteM (M : SsiM) (x : Int) (y : ThingM) : SsiM := if runsB M.L x = true then (ownersS M.S (ownP y)).foldl (wstep x) M else M
def goneB (L : LM) (x : Int) : Bool := decide ((txL L x).csn ≤ horizonL L)
def foldK (L : LM) (keep : Int) : List Int → SM → SM × List Int
  | [], S => (S, [])
  | k :: l, S => if keep < ((l.length + 1 : Nat) : Int) then foldK L keep l (foldS S k (txL L k).csn) else (S, k :: l)
def cleanM (M : SsiM) : SsiM :=
  let r := foldK M.L M.keep (M.kept.filter fun x => !goneB M.L x) ((M.kept.filter (goneB M.L)).foldl dropS M.S)
  { M with S := if r.2 = [] ∧ runningL M.L = [] then dropS r.1 0 else r.1, kept := r.2 }
def abortM (M : SsiM) (x : Int) : SsiM := if runsB M.L x = true then cleanM { M with L := abortL M.L x, S := dropS M.S x, E := dropE M.E x } else M
def commitM (M : SsiM) (x : Int) : SsiM × Int :=
  if runsB M.L x = false then (M, 76)
  else if cnt M.doomed x > 0 then (abortM M x, 72)
  else (cleanM { doomAll M (aheadE M.L M.E x) with L := commitL M.L x, kept := M.kept ++ [x] }, 0)
def aloneB (L : LM) : Bool := !(runningL L).any fun x => !(txL L x).reads
def beginM (M : SsiM) (r : Bool) : SsiM :=
  if M.L.l.length = 200 then M else { M with L := beginL M.L r, safe := if r = true ∧ aloneB M.L = true then bump M.safe ((M.L.l.length : Int) + 1) else M.safe }
/-- What it keeps to: so many edges, things; so often doomed. -/
structure MOk (N D : Nat) (M : SsiM) : Prop where
  s : SOk N M.S
  e : EOk N M.E
  k : M.kept.length ≤ N
  d : ∀ x, 0 ≤ cnt M.doomed x ∧ cnt M.doomed x ≤ D
  f : ∀ x, 0 ≤ cnt M.safe x ∧ cnt M.safe x ≤ D
  c : 0 ≤ M.L.clock ∧ M.L.clock ≤ D
  p : 0 ≤ M.keep ∧ M.keep ≤ 1000
  nn : N ≤ 2 ^ 18
  dd : D ≤ 2 ^ 39
theorem cnt_bump (l : List (Int × Int)) (x y : Int) : cnt (bump l x) y = cnt l y + if y = x then 1 else 0 := by
  unfold cnt bump
  rw [afind_aput]
  by_cases h : y = x
  · subst h
    rw [if_pos rfl, if_pos rfl]
    rfl
  · rw [if_neg h, if_neg h, Int.add_zero]
theorem cnt_bumps (ys : List Int) : ∀ (l : List (Int × Int)) (x : Int), cnt l x ≤ cnt (ys.foldl bump l) x ∧ cnt (ys.foldl bump l) x ≤ cnt l x + ys.length := by
  induction ys with
  | nil => intro l x; simp
  | cons y ys ih =>
    intro l x
    have h1 := ih (bump l y) x
    have h2 := cnt_bump l y x
    rw [List.foldl_cons, List.length_cons]
    split at h2 <;> omega
section
variable {N D : Nat} {M : SsiM}
theorem MOk.up (h : MOk N D M) {N' D' : Nat} (hN : N ≤ N') (hD : D ≤ D') (h1 : N' ≤ 2 ^ 18) (h2 : D' ≤ 2 ^ 39) : MOk N' D' M :=
  ⟨h.s.up (by have := h.s.bnd; omega), h.e.up hN, by have := h.k; omega, fun x => by have := h.d x; omega, fun x => by have := h.f x; omega, by have := h.c; omega, h.p, h1, h2⟩
theorem MOk.dooms (h : MOk N D M) (l : List Int) {n : Nat} (hl : l.length ≤ n) (hD : D + n ≤ 2 ^ 39) : MOk N (D + n) (doomAll M l) :=
  ⟨h.s, h.e, h.k, fun x => by have := h.d x; have := cnt_bumps l M.doomed x; unfold doomAll; simp only; omega, fun x => by have := h.f x; unfold doomAll; simp only; omega, by have := h.c; unfold doomAll; simp only; omega, h.p, h.nn, hD⟩
theorem spolen {L : LM} (csn : Int) : ∀ (l : List Int) (acc : List Int × Bool), (l.foldl (spStep L csn) acc).1.length ≤ acc.1.length + l.length := by
  intro l
  induction l with
  | nil => intro acc; simp
  | cons y l ih =>
    intro acc
    rw [List.foldl_cons, List.length_cons]
    have h1 := ih (spStep L csn acc y)
    have h2 : (spStep L csn acc y).1.length ≤ acc.1.length + 1 := by
      unfold spStep
      split
      · omega
      · split
        · omega
        · simp only
          split
          · simp
          · omega
    omega
theorem spoilt_len (h : MOk N D M) (p : Int) : (spoiltE M.L M.E p).1.length ≤ N := by
  unfold spoiltE
  split
  · simp
  · split
    · simp
    · have h1 := spolen (L := M.L) (firstE M.L M.E p) (inE M.E p) ([], decide (oldE M.E p ≥ firstE M.L M.E p))
      have h2 := (inE_len h.e p).1
      simp only [List.length_nil] at h1
      omega
theorem ahead_len (h : MOk N D M) (p : Int) : (aheadE M.L M.E p).length ≤ N := by
  unfold aheadE
  have h1 := List.length_filter_le (fun q => decide ((txL M.L q).state = 1) && (inE M.E q).any (aheadB M.L p)) (inE M.E p)
  have h2 := (inE_len h.e p).1
  omega
theorem lookM_ok (h : MOk N D M) (p : Int) (hD : D + N + 1 ≤ 2 ^ 39) : MOk N (D + N + 1) (lookM M p) := by
  unfold lookM
  split
  · refine h.dooms _ (n := N + 1) ?_ (by omega)
    split
    · simp
    · have := spoilt_len h p
      omega
  · exact h.up (Nat.le_refl _) (by omega) h.nn (by omega)
end
section
variable {G : Nat → Prop} {h : Hp} {s cb t e N D : Nat} {M : SsiM} {Q : List Value → Hp → Prop}
theorem Ss.fld (hS : Ss G h s cb t e M) : rd h (Addr.add ⟨s, 0, none⟩ 0) = some (.pointer (some ⟨cb, 0, none⟩)) ∧ rd h (Addr.add ⟨s, 0, none⟩ 1) = some (.pointer (some ⟨t, 0, none⟩)) ∧ rd h (Addr.add ⟨s, 0, none⟩ 2) = some (.pointer (some ⟨e, 0, none⟩)) ∧ rd h (Addr.add ⟨s, 0, none⟩ 3) = some (.int .i64 M.keep) := by
  obtain ⟨w, me, mo, ms, dm, sm, C, kp, hA⟩ := hS
  have r : ∀ i, rd h (Addr.add ⟨s, 0, none⟩ i) = (#[.pointer (some ⟨cb, 0, none⟩), .pointer (some ⟨t, 0, none⟩), .pointer (some ⟨e, 0, none⟩), .int .i64 M.keep, .slice kp.a kp.n kp.c, .map (some dm), .map (some sm)] : Array Value)[i]? := fun i => by rw [addr_mk, rd_blk hA.blk, Nat.zero_add]
  exact ⟨r 0, r 1, r 2, r 3⟩
theorem Ss.cl (hS : Ss G h s cb t e M) : ClAt h cb M.L := by
  obtain ⟨w, me, mo, ms, dm, sm, C, kp, hA⟩ := hS
  exact hA.cl
theorem Ss.kgE {h' : Hp} (he : Ext [] h h') (hS : Ss G h s cb t e M) : KG G h h' := kg_ext0 he fun b hb => hS.lt hb
/-- Who is doomed: read, and changed. -/
theorem Ss.onD (hS : Ss G h s cb t e M) : ∃ dm, rd h (Addr.add ⟨s, 0, none⟩ 5) = some (.map (some dm)) ∧ IsMap encI encI h dm M.doomed ∧ ∀ {h' : Hp} {d : List (Int × Int)}, IsMap encI encI h' dm d → Ext [dm] h h' → Ss G h' s cb t e { M with doomed := d } ∧ KG G h h' := by
  obtain ⟨w, me, mo, ms, dm, sm, C, kp, hA⟩ := hS
  refine ⟨dm, by rw [addr_mk, rd_blk hA.blk]; rfl, hA.dd, fun hd he => ⟨⟨_, _, _, _, _, _, _, _, hA.doom hd he⟩, kg_ext he (fun b hb => (hA.gw b hb).2) fun b hb g => ?_⟩⟩
  simp at hb
  subst hb
  have := (hA.gw _ g).1
  have := hA.wd
  omega
theorem Ss.onF (hS : Ss G h s cb t e M) : ∃ sm, rd h (Addr.add ⟨s, 0, none⟩ 6) = some (.map (some sm)) ∧ IsMap encI encI h sm M.safe ∧ ∀ {h' : Hp} {d : List (Int × Int)}, IsMap encI encI h' sm d → Ext [sm] h h' → Ss G h' s cb t e { M with safe := d } ∧ KG G h h' := by
  obtain ⟨w, me, mo, ms, dm, sm, C, kp, hA⟩ := hS
  refine ⟨sm, by rw [addr_mk, rd_blk hA.blk]; rfl, hA.sf, fun hd he => ⟨⟨_, _, _, _, _, _, _, _, hA.saved hd he⟩, kg_ext he (fun b hb => (hA.gw b hb).2) fun b hb g => ?_⟩⟩
  simp at hb
  subst hb
  have := (hA.gw _ g).1
  have := hA.wf
  omega
theorem runs_z (hS : Ss G h s cb t e M) (x : Int) (hQ : ∀ h', Ext [] h h' → Q [.bool (runsB M.L x)] h') : S_ssi_Ssi_runs (some ⟨s, 0, none⟩) x h Q := by
  refine O_ssi_Ssi_runs _ _ ?_
  delta F_ssi_Ssi_runs rI rB rS rP rM rL vI vB vS vP vM vL vC vA ad nb gb wi bl bz tn isn sib pu oc
  rw [if_pos (by rfl), nilW_some]
  refine ⟨_, hS.fld.1, ?_⟩
  refine State_s hS.cl x fun h' e' => ⟨_, rfl, ?_⟩
  have := hQ h' e'
  unfold runsB at this
  rw [show ((txL M.L x).state == 1) = decide ((txL M.L x).state = 1) by rw [Bool.eq_iff_iff]; simp]
  exact this
theorem Doomed_z (hS : Ss G h s cb t e M) (x : Int) (hQ : Q [.bool (decide (cnt M.doomed x > 0))] h) : S_ssi_Ssi_Doomed (some ⟨s, 0, none⟩) x h Q := by
  refine O_ssi_Ssi_Doomed _ _ ?_
  delta F_ssi_Ssi_Doomed rI rB rS rP rM rL vI vB vS vP vM vL vC vA ad nb gb wi bl bz tn isn sib pu oc
  rw [if_pos (by rfl), nilW_some]
  obtain ⟨dm, r, hm, _⟩ := hS.onD
  obtain ⟨es, k1, k2, k3⟩ := old_get hm x
  exact ⟨_, r, es, k1, k2, _, k3, hQ⟩
/-- One after the other is doomed. -/
theorem dooms_z {l : Sl} {ys : List Int} {lo : Nat} {X : List Value → Hp → Prop} {Z : Hp → Prop} (hl : ys.length ≤ 2 ^ 30) (hb : ∀ x, 0 ≤ cnt M.doomed x ∧ cnt M.doomed x ≤ 2 ^ 40)
    (hS : Ss G h s cb t e M) (ho : Own T_int 1 encIL lo h l ys) (hG : ∀ b ∈ sBlk l, G b)
    (hX : ∀ (n : Int) (h15 : Hp), (if (decide (n < (l.n : Int))) = true then
        (nilW l.a fun a16 => ixOk n l.n (∃ n17 : Int, rd h15 (Addr.add a16 (Int.toNat n * 1)) = some (Value.int .i64 n17) ∧
            nilW (some (⟨s, 0, none⟩ : Addr)) fun a18 => ∃ r19 : Option Nat, rd h15 (Addr.add a18 5) = some (Value.map r19) ∧
            ∃ es20 : Array MapEntry, mapAt h15 r19 es20 ∧ KeysLike (Value.int .i64 n17) es20 ∧ ∃ n21 : Int, mgetD (Value.int .i64 n17) es20 (Value.int .i64 (0 : Int)) = (Value.int .i64 n21) ∧
            ∃ (m23 : Nat) (es24 : Array MapEntry) (c25 : Nat), r19 = some m23 ∧ h15[m23]? = some (.map es24 c25) ∧ KeysLike (Value.int .i64 n17) es24 ∧ wth (Array.setIfInBounds h15 m23 (mput (Value.int .i64 n17) (Value.int .i64 (IntKind.wrap .i64 (n21 + (1 : Int)))) es24 c25)) fun h26 =>
            X [(Value.int .i64 (IntKind.wrap .i64 (n + (1 : Int))))] h26)) else Z h15) → X [(Value.int .i64 n)] h15)
    (hZ : ∀ h', Ss G h' s cb t e (doomAll M ys) → KG G h h' → Z h') : X [.int .i64 0] h := by
  have hn := ho.1
  have key : ∀ d i g, d + i = ys.length → Ss G g s cb t e (doomAll M (ys.take i)) → KG G h g → X [.int .i64 (i : Int)] g := by
    intro d
    induction d with
    | zero =>
      intro i g hi hSg hk
      refine hX _ _ ?_
      rw [if_neg (by simp; omega)]
      rw [List.take_of_length_le (by omega)] at hSg
      exact hZ g hSg hk
    | succ d ih =>
      intro i g hi hSg hk
      have hil : i < ys.length := by omega
      refine hX _ _ ?_
      rw [if_pos (by simp; omega)]
      obtain ⟨a, w1, w2⟩ := rdI (own_kg ho fun b hb => hk.old b (hG b hb)).sl.reads (i := i) hil
      rw [w1]
      simp only [nilW_some, Int.toNat_natCast]
      refine ⟨by omega, by omega, _, w2, ?_⟩
      obtain ⟨dm, r, hm, up⟩ := hSg.onD
      obtain ⟨es, k1, k2, k3⟩ := old_get hm ys[i]
      refine ⟨_, r, es, k1, k2, _, k3, ?_⟩
      obtain ⟨es', c, p1, p2, p3⟩ := hm.put ys[i] ((afind (doomAll M (ys.take i)).doomed ys[i]).getD 0 + 1)
      have hc := cnt_bumps (ys.take i) M.doomed ys[i]
      have hb1 := hb ys[i]
      rw [List.length_take] at hc
      have hcc : (afind (doomAll M (ys.take i)).doomed ys[i]).getD 0 = cnt ((ys.take i).foldl bump M.doomed) ys[i] := rfl
      refine ⟨dm, es', c, rfl, p1, p2, ?_⟩
      rw [wrap64 (by rw [hcc]; omega) (by rw [hcc]; omega)]
      refine setI p1 fun g2 z2 b2 e2 => ?_
      rw [wrap64 (by omega) (by omega)]
      obtain ⟨u1, u2⟩ := up (p3 g2 b2) e2
      refine ih (i + 1) g2 (by omega) ?_ (hk.trans u2)
      have : doomAll M (ys.take (i + 1)) = { doomAll M (ys.take i) with doomed := aput (doomAll M (ys.take i)).doomed ys[i] ((afind (doomAll M (ys.take i)).doomed ys[i]).getD 0 + 1) } := by
        unfold doomAll
        rw [List.take_add_one, List.getElem?_eq_getElem hil, Option.toList_some, List.foldl_append]
        rfl
      rw [this]
      exact u1
  exact key ys.length 0 h (by omega) hS (KG.refl _ _)
theorem look_z (hS : Ss G h s cb t e M) (ok : MOk N D M) (p : Int) (hQ : ∀ h', Ss G h' s cb t e (lookM M p) → KG G h h' → Q [] h') : S_ssi_Ssi_look (some ⟨s, 0, none⟩) p h Q := by
  refine O_ssi_Ssi_look _ _ ?_
  delta F_ssi_Ssi_look rI rB rS rP rM rL vI vB vS vP vM vL vC vA ad nb gb wi bl bz tn isn sib pu oc
  rw [nilW_some]
  refine ⟨_, hS.fld.2.2.1, ?_⟩
  obtain ⟨P, hE, _, _, _⟩ := hS.onE
  have hnn := ok.nn
  have hdd := ok.dd
  refine Spoilt_s hE ok.e (by omega) p fun h1 l e1 ho => ⟨l, _, rfl, ?_⟩
  have hS1 := hS.e0 e1
  unfold lookM at hQ
  cases hsp : (spoiltE M.L M.E p).2 with
  | false =>
    rw [if_pos (by rfl)]
    rw [hsp, if_neg (by decide)] at hQ
    exact hQ h1 hS1 (hS.kgE e1)
  | true =>
    rw [if_neg (by decide)]
    rw [hsp, if_pos rfl] at hQ
    refine runs_z hS1 p fun h2 e2 => ⟨_, rfl, ?_⟩
    have hS2 := hS1.e0 e2
    have e02 := e1.trans0 e2
    have bd : ∀ x, 0 ≤ cnt M.doomed x ∧ cnt M.doomed x ≤ 2 ^ 40 := fun x => by have := ok.d x; omega
    have fin : ∀ (ys : List Int) (l2 : Sl) h3, ys.length ≤ 2 ^ 30 → Ext [] h h3 → Own T_int 1 encIL h.size h3 l2 ys → (∀ h', Ss G h' s cb t e (doomAll M ys) → KG G h h' → Q [] h') → ∀ X : List Value → Hp → Prop, (∀ n14 : Int, ∀ h15 : Hp, ((if (decide (n14 < (l2.n : Int))) = true then
              (nilW l2.a fun a16 => ixOk n14 l2.n (∃ n17 : Int, rd h15 (Addr.add a16 (Int.toNat n14 * 1)) = some (Value.int .i64 n17) ∧
                  nilW (some (⟨s, 0, none⟩ : Addr)) fun a18 => ∃ r19 : Option Nat, rd h15 (Addr.add a18 5) = some (Value.map r19) ∧
                  ∃ es20 : Array MapEntry, mapAt h15 r19 es20 ∧ KeysLike (Value.int .i64 n17) es20 ∧ ∃ n21 : Int, mgetD (Value.int .i64 n17) es20 (Value.int .i64 (0 : Int)) = (Value.int .i64 n21) ∧
                  ∃ (m23 : Nat) (es24 : Array MapEntry) (c25 : Nat), r19 = some m23 ∧ h15[m23]? = some (.map es24 c25) ∧ KeysLike (Value.int .i64 n17) es24 ∧ wth (Array.setIfInBounds h15 m23 (mput (Value.int .i64 n17) (Value.int .i64 (IntKind.wrap .i64 (n21 + (1 : Int)))) es24 c25)) fun h26 =>
                  X [(Value.int .i64 (IntKind.wrap .i64 (n14 + (1 : Int))))] h26)) else
              (Q [] h15))) → X [(Value.int .i64 n14)] h15) → X [(Value.int .i64 (0 : Int))] h3 := by
      intro ys l2 h3 hl e3 o3 hq X hX
      have sub := own_ltG o3
      have hS3 : Ss (fun b => G b ∨ b ∈ sBlk l2) h3 s cb t e M := hS.grow e3 fun b hb => by
        rcases hb with g | g
        · exact ⟨Or.inl g, by have := hS.lt g; have := e3.sz; omega⟩
        · exact ⟨Or.inr (sub b g).1, (sub b g).2⟩
      refine dooms_z (Z := fun g => Q [] g) hl bd hS3 o3 (fun b hb => Or.inr hb) hX fun h' q1 q2 => ?_
      exact hq h' (q1.less fun b hb => Or.inl hb) ((hS.kgE e3).trans (q2.anti fun b hb => Or.inl hb))
    intro J hJ
    cases hr : runsB M.L p with
    | true =>
      rw [hr, if_pos rfl] at hQ
      rw [if_pos rfl]
      refine newI fun h3 z3 b3 e3 => ?_
      refine hJ ⟨some ⟨h2.size, 0, none⟩, 1, 1⟩ h3 ?_
      intro X hX
      refine fin [p] ⟨some ⟨h2.size, 0, none⟩, 1, 1⟩ h3 (by simp) (e02.trans0 e3) ⟨rfl, fun e => (by cases e), fun a ha => ?_⟩ hQ X hX
      cases ha
      exact ⟨h2.size, _, rfl, e02.sz, b3, Nat.le_refl _, by simp, by simp⟩
    | false =>
      rw [hr, if_neg (by decide)] at hQ
      rw [if_neg (by decide)]
      refine hJ l h2 ?_
      intro X hX
      have hsl := spoilt_len ok p
      exact fin _ l h2 (by omega) e02 (ho.ext0 e2) hQ X hX
theorem behind_z (hS : Ss G h s cb t e M) (ok : MOk N D M) (hN : N + 1 ≤ 2 ^ 18) (hD : D + N + 2 ≤ 2 ^ 39) (a b : Int) (hQ : ∀ h', Ss G h' s cb t e (behindM M a b) → KG G h h' → Q [] h') : S_ssi_Ssi_behind (some ⟨s, 0, none⟩) a b h Q := by
  refine O_ssi_Ssi_behind _ _ _ ?_
  delta F_ssi_Ssi_behind rI rB rS rP rM rL vI vB vS vP vM vL vC vA ad nb gb wi bl bz tn isn sib pu oc
  rw [nilW_some]
  refine ⟨_, hS.fld.2.2.1, ?_⟩
  obtain ⟨P, hE, hGP, _, up⟩ := hS.onE
  refine Add_s hE a b fun h1 hE1 k1 => ⟨_, rfl, ?_⟩
  have hS1 := up hE1 k1
  have kg1 : KG G h h1 := k1.anti hGP
  unfold behindM at hQ
  by_cases hc : besideL M.L a b = true ∧ (a, b) ∉ M.E.m
  · rw [if_pos (by simpa using hc)]
    rw [if_pos hc] at hQ
    have ok1 : MOk (N + 1) D { M with E := addE M.L M.E a b } := ⟨ok.s.up (by have := ok.s.bnd; omega), ok.e.add a b, by have := ok.k; simp only; omega, ok.d, ok.f, ok.c, ok.p, hN, ok.dd⟩
    refine look_z hS1 ok1 b fun h2 hS2 k2 => ⟨rfl, ?_⟩
    have ok2 := lookM_ok ok1 b (by omega)
    refine look_z hS2 ok2 a fun h3 hS3 k3 => ⟨rfl, ?_⟩
    exact hQ h3 hS3 ((kg1.trans k2).trans k3)
  · rw [if_neg (by simpa using hc)]
    rw [if_neg hc] at hQ
    have : addE M.L M.E a b = M.E := by unfold addE; rw [if_neg hc]
    rw [this] at hS1
    exact hQ h1 hS1 kg1
end
end Go.Lift.E14
namespace Go.Lift.E14
open Go Go.Proofs Go.RowKit
set_option maxRecDepth 100000
section
variable {N D : Nat} {M : SsiM}
theorem behindM_ok (h : MOk N D M) (a b : Int) (hN : N + 1 ≤ 2 ^ 18) (hD : D + 600000 ≤ 2 ^ 39) : MOk (N + 1) (D + 600000) (behindM M a b) := by
  have hn := h.nn
  unfold behindM
  split
  · have h1 : MOk (N + 1) D { M with E := addE M.L M.E a b } := ⟨h.s.up (by have := h.s.bnd; omega), h.e.add a b, by have := h.k; simp only; omega, h.d, h.f, h.c, h.p, hN, h.dd⟩
    have h2 := lookM_ok h1 b (by omega)
    have h3 := lookM_ok h2 a (by omega)
    exact h3.up (Nat.le_refl _) (by omega) hN hD
  · exact h.up (by omega) (by omega) hN hD
theorem wstep_ok (h : MOk N D M) (x who : Int) (hN : N + 1 ≤ 2 ^ 18) (hD : D + 600000 ≤ 2 ^ 39) : MOk (N + 1) (D + 600000) (wstep x M who) := by
  have hn := h.nn
  unfold wstep
  split
  · exact h.up (by omega) (by omega) hN hD
  · split
    · exact behindM_ok h who x hN hD
    · split
      · have h1 : MOk N D { M with E := oldInE M.L M.E x M.S.csn } := ⟨h.s, h.e.oldIn x _, h.k, h.d, h.f, h.c, h.p, h.nn, h.dd⟩
        exact (lookM_ok h1 x (by omega)).up (by omega) (by omega) hN hD
      · exact h.up (by omega) (by omega) hN hD
theorem lookM_S (M : SsiM) (p : Int) : (lookM M p).S = M.S ∧ (lookM M p).L = M.L ∧ (lookM M p).keep = M.keep ∧ (lookM M p).kept = M.kept ∧ (lookM M p).safe = M.safe := by
  unfold lookM doomAll
  split <;> exact ⟨rfl, rfl, rfl, rfl, rfl⟩
theorem behindM_S (M : SsiM) (a b : Int) : (behindM M a b).S = M.S ∧ (behindM M a b).L = M.L ∧ (behindM M a b).keep = M.keep ∧ (behindM M a b).kept = M.kept ∧ (behindM M a b).safe = M.safe := by
  unfold behindM
  split
  · obtain ⟨a1, a2, a3, a4, a5⟩ := lookM_S (lookM { M with E := addE M.L M.E a b } b) a
    obtain ⟨b1, b2, b3, b4, b5⟩ := lookM_S { M with E := addE M.L M.E a b } b
    exact ⟨a1.trans b1, a2.trans b2, a3.trans b3, a4.trans b4, a5.trans b5⟩
  · exact ⟨rfl, rfl, rfl, rfl, rfl⟩
theorem wstep_S (M : SsiM) (x who : Int) : (wstep x M who).S = M.S ∧ (wstep x M who).L = M.L ∧ (wstep x M who).keep = M.keep ∧ (wstep x M who).kept = M.kept ∧ (wstep x M who).safe = M.safe := by
  unfold wstep
  split
  · exact ⟨rfl, rfl, rfl, rfl, rfl⟩
  · split
    · exact behindM_S M who x
    · split
      · exact lookM_S { M with E := oldInE M.L M.E x M.S.csn } x
      · exact ⟨rfl, rfl, rfl, rfl, rfl⟩
theorem readM_ok (h : MOk N D M) (x : Int) (y : ThingM) (hN : N + 1 ≤ 2 ^ 18) : MOk (N + 1) D (readM M x y) := by
  unfold readM
  split
  · refine ⟨?_, h.e.up (by omega), by have := h.k; simp only; omega, h.d, h.f, h.c, h.p, hN, h.dd⟩
    unfold TakeS
    split
    · rename_i ho
      exact (takeS_ok h.s (by unfold okT at ho; omega) y).1
    · exact h.s.up (by have := h.s.bnd; omega)
  · exact h.up (by omega) (by omega) hN h.dd
theorem wsteps_ok (x : Int) (l : List Int) : ∀ {N D : Nat} {M : SsiM}, MOk N D M → N + l.length ≤ 2 ^ 18 → D + 600000 * l.length ≤ 2 ^ 39 → MOk (N + l.length) (D + 600000 * l.length) (l.foldl (wstep x) M) := by
  induction l with
  | nil =>
    intro N D M h _ _
    simpa using h
  | cons y l ih =>
    intro N D M h h1 h2
    rw [List.length_cons] at h1 h2 ⊢
    obtain ⟨c, hc⟩ : ∃ c, 600000 * l.length = c := ⟨_, rfl⟩
    rw [Nat.mul_add, Nat.mul_one, hc] at h2
    have h5 : N + 1 ≤ 2 ^ 18 := by omega
    have h6 : D + 600000 ≤ 2 ^ 39 := Nat.le_trans (by rw [Nat.add_comm c]; exact Nat.add_le_add_left (Nat.le_add_right _ _) _) h2
    have h3 := wstep_ok h x y h5 h6
    have h4 := @ih (N + 1) (D + 600000) (wstep x M y) h3 (by omega) (by rw [hc, Nat.add_assoc, Nat.add_comm 600000]; exact h2)
    rw [List.foldl_cons]
    have e1 : N + (l.length + 1) = N + 1 + l.length := by omega
    have e2 : D + 600000 * (l.length + 1) = D + 600000 + 600000 * l.length := by rw [Nat.mul_add, Nat.mul_one, Nat.add_assoc, Nat.add_comm 600000]
    rw [e1, e2]
    exact h4
theorem wstep_self {x who : Int} (h : who = x) : wstep x M who = M := by unfold wstep; rw [if_pos h]
theorem wstep_pos {x who : Int} (h : ¬ who = x) (hp : who > 0) : wstep x M who = behindM M who x := by unfold wstep; rw [if_neg h, if_pos hp]
theorem wstep_old {x who : Int} (h : ¬ who = x) (hp : ¬ who > 0) (ho : oldOk M.L M.E x M.S.csn) : wstep x M who = lookM { M with E := oldInE M.L M.E x M.S.csn } x := by unfold wstep; rw [if_neg h, if_neg hp, if_pos ho]
theorem wstep_no {x who : Int} (h : ¬ who = x) (hp : ¬ who > 0) (ho : ¬ oldOk M.L M.E x M.S.csn) : wstep x M who = M := by unfold wstep; rw [if_neg h, if_neg hp, if_neg ho]
end
section
variable {G : Nat → Prop} {h : Hp} {s cb t e N D : Nat} {M : SsiM} {Q : List Value → Hp → Prop}
theorem Read_z (hS : Ss G h s cb t e M) (ok : MOk N D M) (x : Int) (y : ThingM) (hQ : ∀ h', Ss G h' s cb t e (readM M x y) → KG G h h' → Q [] h') : S_ssi_Ssi_Read (some ⟨s, 0, none⟩) x y.kind y.name y.rel y.index y.n h Q := by
  refine O_ssi_Ssi_Read _ _ _ _ _ _ _ ?_
  delta F_ssi_Ssi_Read rI rB rS rP rM rL vI vB vS vP vM vL vC vA ad nb gb wi bl bz tn isn sib pu oc
  refine newI fun h1 s1 b1 e1 => ?_
  have bx : Blk h1 h.size (encT y).toArray T_siread_Thing := b1
  have hS1 : Ss (fun b => G b ∨ b = h.size) h1 s cb t e M := hS.grow e1 fun b hb => by
    rcases hb with g | g
    · exact ⟨Or.inl g, by have := hS.lt g; omega⟩
    · exact ⟨Or.inr (by omega), by omega⟩
  intro J hJ
  have hno : readsB M x = false → ∀ g, Ext [] h1 g → J [.bool false] g := fun hr g eg => by
    refine hJ _ _ ?_
    rw [if_neg (by decide)]
    unfold readM at hQ
    rw [if_neg (by rw [hr]; decide)] at hQ
    exact hQ g (hS.e0 (e1.trans0 eg)) (hS.kgE (e1.trans0 eg))
  refine runs_z hS1 x fun h2 e2 => ⟨_, rfl, ?_⟩
  cases hr : runsB M.L x with
  | false =>
    rw [if_neg (by decide)]
    exact hno (by unfold readsB; rw [hr]; rfl) h2 e2
  | true =>
    rw [if_pos rfl, nilW_some]
    have hS2 := hS1.e0 e2
    obtain ⟨sm, r, hm, _⟩ := hS2.onF
    obtain ⟨es, k1, k2, k3⟩ := old_get hm x
    refine ⟨_, r, es, k1, k2, _, k3, ?_⟩
    by_cases h0 : cnt M.safe x = 0
    · rw [show ((afind M.safe x).getD 0 == 0) = true by unfold cnt at h0; rw [h0]; rfl]
      refine hJ _ _ ?_
      rw [if_pos rfl, nilW_some]
      refine ⟨_, hS2.fld.2.1, ?_⟩
      refine rd5I (e2.get bx (by simp)) ?_
      obtain ⟨P, hV, hGP, hPs, up⟩ := hS2.onS
      refine TakeV_s hV ok.s (by have := ok.nn; omega) y fun h3 hV3 k3' => ⟨_, rfl, ?_⟩
      have hS3 := up hV3 (KG.of k3')
      have hrm : readM M x y = { M with S := TakeS M.S x y } := by
        unfold readM readsB
        rw [hr, h0]
        rfl
      rw [hrm] at hQ
      exact hQ h3 (hS3.less fun b hb => Or.inl hb) ((hS.kgE (e1.trans0 e2)).trans ((KG.of k3').anti fun b hb => hGP b (Or.inl hb)))
    · rw [show ((afind M.safe x).getD 0 == 0) = false by simpa [cnt] using h0]
      exact hno (by unfold readsB; rw [hr, decide_eq_false h0]; rfl) h2 e2
theorem Wrote_z (hS : Ss G h s cb t e M) (ok : MOk N D M) (hN : N + 202 ≤ 2 ^ 18) (hD : D + 600000 * 202 ≤ 2 ^ 39) (x : Int) (y : ThingM) (hQ : ∀ h', Ss G h' s cb t e (wroteM M x y) → KG G h h' → Q [] h') : S_ssi_Ssi_Wrote (some ⟨s, 0, none⟩) x y.kind y.name y.rel y.index y.n h Q := by
  refine O_ssi_Ssi_Wrote _ _ _ _ _ _ _ ?_
  delta F_ssi_Ssi_Wrote rI rB rS rP rM rL vI vB vS vP vM vL vC vA ad nb gb wi bl bz tn isn sib pu oc
  refine newI fun h1 s1 b1 e1 => ?_
  have bx : Blk h1 h.size (encT y).toArray T_siread_Thing := b1
  have hS1 : Ss G h1 s cb t e M := hS.e0 e1
  refine runs_z hS1 x fun h2 e2 => ⟨_, rfl, ?_⟩
  have e02 := e1.trans0 e2
  unfold wroteM at hQ
  cases hr : runsB M.L x with
  | false =>
    rw [if_pos (by rfl)]
    rw [hr, if_neg (by decide)] at hQ
    exact hQ h2 (hS.e0 e02) (hS.kgE e02)
  | true =>
    rw [if_neg (by decide), nilW_some]
    rw [hr, if_pos rfl] at hQ
    have hS2 := hS1.e0 e2
    refine ⟨_, hS2.fld.2.1, ?_⟩
    refine rd5I (e2.get bx (by simp)) ?_
    obtain ⟨P, hV, hGP, hPs, up⟩ := hS2.onS
    refine Owners_s hV ok.s y fun h3 l e3 ho => ⟨l, rfl, ?_⟩
    have e03 := e02.trans0 e3
    obtain ⟨ow, how⟩ : ∃ ow, ownersS M.S (ownP y) = ow := ⟨_, rfl⟩
    have hlen : ow.length ≤ 201 := how ▸ ownersS_len ok.s (ownP y)
    rw [how] at ho hQ
    have hln := ho.1
    have sub := own_ltG ho
    have hz2 := e02.sz
    have hS3 : Ss (fun b => G b ∨ b ∈ sBlk l) h3 s cb t e M := hS.grow e03 fun b hb => by
      rcases hb with g | g
      · exact ⟨Or.inl g, by have := hS.lt g; have := e03.sz; omega⟩
      · exact ⟨Or.inr (by have := (sub b g).1; omega), (sub b g).2⟩
    intro X hX
    have key : ∀ d i g, d + i = ow.length → Ss (fun b => G b ∨ b ∈ sBlk l) g s cb t e ((ow.take i).foldl (wstep x) M) → KG (fun b => G b ∨ b ∈ sBlk l) h3 g → X [.int .i64 (i : Int)] g := by
      intro d
      induction d with
      | zero =>
        intro i g hi hSg hk
        refine hX _ _ ?_
        rw [if_neg (by simp; omega)]
        rw [List.take_of_length_le (by omega)] at hSg
        exact hQ g (hSg.less fun b hb => Or.inl hb) ((hS.kgE e03).trans (hk.anti fun b hb => Or.inl hb))
      | succ d ih =>
        intro i g hi hSg hk
        have hil : i < ow.length := by omega
        refine hX _ _ ?_
        rw [if_pos (by simp; omega)]
        intro J hJ
        obtain ⟨a, w1, w2⟩ := rdI (own_kg ho fun b hb => hk.old b (Or.inr hb)).sl.reads (i := i) hil
        rw [w1]
        simp only [nilW_some, Int.toNat_natCast]
        refine ⟨by omega, by omega, _, w2, ?_⟩
        have hlt : (ow.take i).length = i := by rw [List.length_take]; omega
        have hnn := ok.nn
        have oki := wsteps_ok x (ow.take i) ok (by omega) (by rw [hlt]; omega)
        rw [hlt] at oki
        have hst : (ow.take (i + 1)).foldl (wstep x) M = wstep x ((ow.take i).foldl (wstep x) M) ow[i] := by rw [List.take_add_one, List.getElem?_eq_getElem hil, Option.toList_some, List.foldl_append]; rfl
        have nx : ∀ g2, Ss (fun b => G b ∨ b ∈ sBlk l) g2 s cb t e (wstep x ((ow.take i).foldl (wstep x) M) ow[i]) → KG (fun b => G b ∨ b ∈ sBlk l) g g2 → J [] g2 := fun g2 q1 q2 => by
          refine hJ _ ?_
          rw [wrap64 (by omega) (by omega)]
          exact ih (i + 1) g2 (by omega) (by rw [hst]; exact q1) (hk.trans q2)
        by_cases hw : ow[i] = x
        · rw [if_pos (by simp [hw])]
          refine nx g ?_ (KG.refl _ _)
          rw [wstep_self hw]
          exact hSg
        · rw [if_neg (by simpa using hw)]
          by_cases hp : ow[i] > 0
          · rw [if_pos (by simpa using hp)]
            refine behind_z hSg oki (by omega) (by omega) ow[i] x fun g2 q1 q2 => ⟨rfl, nx g2 ?_ q2⟩
            rw [wstep_pos hw hp]
            exact q1
          · rw [if_neg (by simpa using hp)]
            refine ⟨_, hSg.fld.2.2.1, _, hSg.fld.2.1, ?_⟩
            obtain ⟨P2, hV2, _, _, _⟩ := hSg.onS
            refine Old_s hV2 ⟨_, rfl, hSg.fld.2.2.1, ?_⟩
            obtain ⟨P3, hE3, hGP3, _, up3⟩ := hSg.onE
            refine OldIn_s hE3 x _ fun g2 hE4 k4 => ⟨_, rfl, ?_⟩
            have hS4 := up3 hE4 k4
            have kg4 : KG (fun b => G b ∨ b ∈ sBlk l) g g2 := k4.anti hGP3
            by_cases hoo : oldOk ((ow.take i).foldl (wstep x) M).L ((ow.take i).foldl (wstep x) M).E x ((ow.take i).foldl (wstep x) M).S.csn
            · rw [if_pos (by simpa using hoo)]
              have ok4 : MOk (N + i) (D + 600000 * i) { (ow.take i).foldl (wstep x) M with E := oldInE ((ow.take i).foldl (wstep x) M).L ((ow.take i).foldl (wstep x) M).E x ((ow.take i).foldl (wstep x) M).S.csn } := ⟨oki.s, oki.e.oldIn x _, oki.k, oki.d, oki.f, oki.c, oki.p, oki.nn, oki.dd⟩
              refine look_z hS4 ok4 x fun g3 q1 q2 => ⟨rfl, nx g3 ?_ (kg4.trans q2)⟩
              rw [wstep_old hw hp hoo]
              exact q1
            · rw [if_neg (by simpa using hoo)]
              refine nx g2 ?_ kg4
              rw [wstep_no hw hp hoo]
              have : oldInE ((ow.take i).foldl (wstep x) M).L ((ow.take i).foldl (wstep x) M).E x ((ow.take i).foldl (wstep x) M).S.csn = ((ow.take i).foldl (wstep x) M).E := by unfold oldInE; rw [if_neg hoo]
              rw [this] at hS4
              exact hS4
    exact key ow.length 0 h3 (by omega) hS3 (KG.refl _ _)
end
end Go.Lift.E14
namespace Go.Lift.E14
open Go Go.Proofs Go.RowKit
set_option maxRecDepth 100000
section
variable {G : Nat → Prop} {h : Hp} {s cb t e N D : Nat} {M : SsiM} {Q : List Value → Hp → Prop}
theorem begin1_z (hS : Ss G h s cb t e M) {v : Nat} (hv : Blk h v #[.pointer (some ⟨s, 0, none⟩)] T_pssi_Ssi) (x : Int) (hQ : ∀ h', Ext [] h h' → Q [.bool (!(txL M.L x).reads)] h') : Fn PP 53 ((#[] ++ #[(Value.int .i64 x)]) ++ #[.pointer (some ⟨v, 0, none⟩)]) h Q := by
  refine O_ssi_Ssi_Begin_1 _ _ ?_
  delta F_ssi_Ssi_Begin_1 rI rB rS rP rM rL vI vB vS vP vM vL vC vA ad nb gb wi bl bz tn isn sib pu oc
  refine ⟨_, by rw [rd_blk hv]; rfl, ?_⟩
  rw [nilW_some]
  refine ⟨_, hS.fld.1, ?_⟩
  exact Reads_s hS.cl x fun h' e' => ⟨_, rfl, hQ h' e'⟩
theorem Begin_z (hS : Ss G h s cb t e M) (ok : MOk N D M) (r : Bool) (hQ : ∀ h', Ss G h' s cb t e (beginM M r) → KG G h h' → Q [.int .i64 (if M.L.l.length = 200 then 0 else (M.L.l.length : Int) + 1), .int .i64 (if M.L.l.length = 200 then 74 else 0)] h') : S_ssi_Ssi_Begin (some ⟨s, 0, none⟩) r h Q := by
  refine O_ssi_Ssi_Begin _ _ ?_
  delta F_ssi_Ssi_Begin rI rB rS rP rM rL vI vB vS vP vM vL vC vA ad nb gb wi bl bz tn isn sib pu oc
  refine newI fun h1 s1 b1 e1 => ?_
  have bv : Blk h1 h.size #[.pointer (some ⟨s, 0, none⟩)] T_pssi_Ssi := b1
  have rv : ∀ {g : Hp}, Ext [] h1 g → rd g (Addr.mk h.size 0 none) = some (Value.pointer (some ⟨s, 0, none⟩)) := fun eg => by rw [rd_blk (eg.get bv (by simp))]; rfl
  refine ⟨_, rv (Ext.refl _ _), ?_⟩
  rw [if_neg (by simp)]
  refine ⟨_, rv (Ext.refl _ _), ?_⟩
  rw [nilW_some]
  have hS1 := hS.e0 e1
  refine ⟨_, hS1.fld.1, ?_⟩
  refine Running_s hS1.cl fun h2 l e2 ho => ⟨l, rfl, ?_⟩
  have hrl := running_len M.L
  have hcl := hS.cl.len
  refine ContainsFunc_z (St := fun k g => Ext [] h2 g) (xs := runningL M.L) (fun x => !(txL M.L x).reads) ho.1 (by omega) (fun k g hg j hj _ => rdI (ho.ext0 hg).sl.reads hj) (fun k hk g K hg hK => ?_) (Ext.refl _ _) fun k h3 e3 => ⟨_, rfl, ?_⟩
  · exact begin1_z (hS1.e0 (e2.trans0 hg)) ((e2.trans0 hg).get bv (by simp)) _ fun g' eg' => hK g' (hg.trans0 eg')
  have e13 := e2.trans0 e3
  have e03 := e1.trans0 e13
  refine ⟨_, rv e13, ?_⟩
  rw [nilW_some]
  have hS3 := hS.e0 e03
  refine ⟨_, hS3.fld.1, ?_⟩
  obtain ⟨P, hE, hGP, hPs, up⟩ := (hS.grow (G' := fun b => G b ∨ b = h.size) e03 fun b hb => by
    have := e13.sz
    rcases hb with g | g
    · exact ⟨Or.inl g, by have := hS.lt g; have := e03.sz; omega⟩
    · exact ⟨Or.inr (by omega), by omega⟩).onE
  refine Begin_s hE.cl r fun h4 hC4 e4 z4 => ⟨_, _, rfl, ?_⟩
  obtain ⟨hE4, k4⟩ := hE.log hC4 e4
  have hS4 := up hE4 k4
  have kg4 : KG (fun b => G b ∨ b = h.size) h3 h4 := k4.anti hGP
  have rv4 : ∀ {g : Hp}, KG (fun b => G b ∨ b = h.size) h3 g → rd g (Addr.mk h.size 0 none) = some (Value.pointer (some ⟨s, 0, none⟩)) := fun kg => by rw [rd_blk (kg.get (e13.get bv (by simp)) (Or.inr rfl))]; rfl
  intro J hJ
  have plain : ∀ b : Bool, (b = true → False) → (∀ h', Ss G h' s cb t e { M with L := beginL M.L r } → KG G h h' → Q [.int .i64 (if M.L.l.length = 200 then 0 else (M.L.l.length : Int) + 1), .int .i64 (if M.L.l.length = 200 then 74 else 0)] h') → J [.bool b] h4 := fun b hb hq => by
    cases b with
    | true => exact (hb rfl).elim
    | false =>
      refine hJ _ _ ?_
      intro J2 hJ2
      rw [if_neg (by decide)]
      refine hJ2 _ ?_
      exact hq h4 (hS4.less fun b hb => Or.inl hb) ((hS.kgE e03).trans (kg4.anti fun b hb => Or.inl hb))
  unfold beginM at hQ
  by_cases hf : M.L.l.length = 200
  · rw [if_neg (by rw [if_pos hf]; decide)]
    have hb : beginL M.L r = M.L := by unfold beginL; rw [if_pos hf]
    refine plain false (by simp) fun h' q1 q2 => ?_
    rw [hb] at q1
    rw [if_pos hf] at hQ
    exact hQ h' q1 q2
  · rw [if_pos (by rw [if_neg hf]; rfl)]
    rw [if_neg hf] at hQ
    cases r with
    | false =>
      rw [if_neg (by decide)]
      refine plain false (by simp) fun h' q1 q2 => ?_
      simpa using hQ h' (by simpa using q1) q2
    | true =>
      rw [if_pos rfl]
      have hal : aloneB M.L = !((runningL M.L).any fun x => !(txL M.L x).reads) := rfl
      cases ha : (runningL M.L).any fun x => !(txL M.L x).reads with
      | true =>
        rw [ha] at hal
        refine plain _ (by simp) fun h' q1 q2 => ?_
        rw [if_neg (by rw [hal]; simp)] at hQ
        exact hQ h' q1 q2
      | false =>
        rw [ha] at hal
        rw [if_pos ⟨rfl, hal⟩] at hQ
        refine hJ _ _ ?_
        intro J2 hJ2
        rw [if_pos (by rfl)]
        refine ⟨_, rv4 kg4, ?_⟩
        rw [nilW_some]
        obtain ⟨sm, rr, hm, upf⟩ := hS4.onF
        refine ⟨_, rr, ?_⟩
        rw [if_neg hf] at hQ ⊢
        obtain ⟨es, k1, k2, k3⟩ := old_get hm ((M.L.l.length : Int) + 1)
        refine ⟨es, k1, k2, _, k3, ?_⟩
        obtain ⟨es', c, p1, p2, p3⟩ := hm.put ((M.L.l.length : Int) + 1) ((afind M.safe ((M.L.l.length : Int) + 1)).getD 0 + 1)
        refine ⟨sm, es', c, rfl, p1, p2, ?_⟩
        have hb1 := ok.f ((M.L.l.length : Int) + 1)
        have hcc : (afind M.safe ((M.L.l.length : Int) + 1)).getD 0 = cnt M.safe ((M.L.l.length : Int) + 1) := rfl
        have hdd := ok.dd
        rw [wrap64 (by rw [hcc]; omega) (by rw [hcc]; omega)]
        refine setI p1 fun h5 z5 b5 e5 => ?_
        refine hJ2 _ ?_
        obtain ⟨u1, u2⟩ := upf (p3 h5 b5) e5
        have := hQ h5 (u1.less fun b hb => Or.inl hb) (((hS.kgE e03).trans (kg4.anti fun b hb => Or.inl hb)).trans (u2.anti fun b hb => Or.inl hb))
        simp only [if_neg hf] at this ⊢
        exact this
/-- What happens to one that keeps what it read. -/
theorem clean1_z {kk : Prop} {w : Nat → Nat} {me mo ms dm sm : Nat} {C : CC} {kp : Sl} (hA : SsAt kk w G h s cb t e me mo ms dm sm C kp M) (ok : SOk N M.S) (hN : N ≤ 2 ^ 20) {v : Nat} (hv : Blk h v #[.pointer (some ⟨s, 0, none⟩)] T_pssi_Ssi) (hG : G v) (x : Int)
    (hQ : ∀ h' w' ms' C', SsAt kk w' G h' s cb t e me mo ms' dm sm C' kp { M with S := if goneB M.L x = true then dropS M.S x else M.S } → h.size ≤ h'.size → (∀ b, b < h.size → w b ≠ 3 → h'[b]? = h[b]?) → (∀ b, b < h.size → w' b = w b) → Q [.bool (goneB M.L x)] h') :
    Fn PP 134 ((#[] ++ #[(Value.int .i64 x)]) ++ #[.pointer (some ⟨v, 0, none⟩)]) h Q := by
  refine O_ssi_Ssi_clean_1 _ _ ?_
  delta F_ssi_Ssi_clean_1 rI rB rS rP rM rL vI vB vS vP vM vL vC vA ad nb gb wi bl bz tn isn sib pu oc
  have rv : ∀ {g : Hp}, Ext [] h g → rd g (Addr.mk v 0 none) = some (Value.pointer (some ⟨s, 0, none⟩)) := fun eg => by rw [rd_blk (eg.get hv (by simp))]; rfl
  have rs : ∀ {g : Hp}, Ext [] h g → rd g (Addr.add (Addr.mk s 0 none) 0) = some (Value.pointer (some ⟨cb, 0, none⟩)) ∧ rd g (Addr.add (Addr.mk s 0 none) 1) = some (Value.pointer (some ⟨t, 0, none⟩)) := fun eg => by
    have := eg.get hA.blk (by simp)
    exact ⟨by rw [addr_mk, rd_blk this]; rfl, by rw [addr_mk, rd_blk this]; rfl⟩
  refine ⟨_, rv (Ext.refl _ _), ?_⟩
  rw [nilW_some]
  refine ⟨_, (rs (Ext.refl _ _)).1, _, rv (Ext.refl _ _), ?_⟩
  rw [nilW_some]
  refine ⟨_, (rs (Ext.refl _ _)).1, ?_⟩
  refine Csn_s hA.cl x fun h1 e1 => ⟨_, rfl, (rs e1).1, rv e1, ?_⟩
  refine Horizon_s (hA.cl.ext0 e1) fun h2 e2 => ⟨_, rfl, ?_⟩
  have e02 := e1.trans0 e2
  have hz := e02.sz
  have hA2 := hA.grow (G' := G) e02 fun b hb => ⟨Or.inl hb, by have := (hA.gw b hb).2; omega⟩
  intro J hJ
  have hgo : goneB M.L x = decide ((txL M.L x).csn ≤ horizonL M.L) := rfl
  by_cases hg : (txL M.L x).csn ≤ horizonL M.L
  · rw [if_pos (by simpa using hg)]
    rw [hgo, decide_eq_true hg, if_pos rfl] at hQ
    refine ⟨_, rv e02, ?_⟩
    rw [nilW_some]
    refine ⟨_, (rs e02).2, ?_⟩
    refine Drop_s hA2.sv ok hN x fun h3 hV k3 => ⟨rfl, ?_⟩
    refine hJ _ ?_
    obtain ⟨ms', C', hA3⟩ := hA2.table hV (KG.of k3)
    rw [decide_eq_true hg]
    refine hQ h3 _ ms' C' hA3 (by have := k3.sz; omega) (fun b hb hw => ?_) fun b hb => ?_
    · rw [k3.old b ⟨by omega, by rw [wx_lt hb]; exact hw⟩]
      exact e02.old b hb (by simp)
    · rw [wx_lt (by omega), wx_lt hb]
  · rw [if_neg (by simpa using hg)]
    rw [hgo, decide_eq_false hg, if_neg (by decide)] at hQ
    refine hJ _ ?_
    rw [decide_eq_false hg]
    exact hQ h2 _ ms C hA2 hz (fun b hb _ => e02.old b hb (by simp)) fun b hb => wx_lt hb
theorem foldD_ok {N : Nat} : ∀ (l : List Int) {S : SM}, SOk N S → SOk N (l.foldl dropS S) ∧ (l.foldl dropS S).each = S.each ∧ (l.foldl dropS S).all = S.all
  | [], S, h => ⟨h, rfl, rfl⟩
  | x :: l, S, h => by
    obtain ⟨h1, h2, h3⟩ := dropS_any h x
    obtain ⟨g1, g2, g3⟩ := foldD_ok l h1
    exact ⟨g1, g2.trans h2, g3.trans h3⟩
theorem foldK_ok {N : Nat} (L : LM) (keep : Int) : ∀ (l : List Int) {S : SM}, SOk N S → SOk N (foldK L keep l S).1 ∧ (foldK L keep l S).2.length ≤ l.length
  | [], S, h => ⟨h, Nat.le_refl _⟩
  | x :: l, S, h => by
    unfold foldK
    split
    · have := foldK_ok L keep l (foldS_ok h (o := x) (txL L x).csn).1
      exact ⟨this.1, by have := this.2; rw [List.length_cons]; omega⟩
    · exact ⟨h, Nat.le_refl _⟩
theorem cleanM_ok (ok : MOk N D M) : MOk N D (cleanM M) := by
  have h1 := (foldD_ok (M.kept.filter (goneB M.L)) ok.s).1
  have h2 := foldK_ok M.L M.keep (M.kept.filter fun x => !goneB M.L x) h1
  have h3 := List.length_filter_le (fun x => !goneB M.L x) M.kept
  unfold cleanM
  refine ⟨?_, ok.e, by have := ok.k; have := h2.2; simp only; omega, ok.d, ok.f, ok.c, ok.p, ok.nn, ok.dd⟩
  simp only
  split
  · exact (dropS_any h2.1 0).1
  · exact h2.1
theorem clean_z (hS : Ss G h s cb t e M) (ok : MOk N D M) (hQ : ∀ h', Ss G h' s cb t e (cleanM M) → KG G h h' → Q [] h') : S_ssi_Ssi_clean (some ⟨s, 0, none⟩) h Q := by
  refine O_ssi_Ssi_clean _ ?_
  delta F_ssi_Ssi_clean rI rB rS rP rM rL vI vB vS vP vM vL vC vA ad nb gb wi bl bz tn isn sib pu oc
  refine newI fun h1 s1 b1 e1 => ?_
  have bv : Blk h1 h.size #[.pointer (some ⟨s, 0, none⟩)] T_pssi_Ssi := b1
  have hnn := ok.nn
  obtain ⟨w, me, mo, ms, dm, sm, C, kp, hA0⟩ := hS.grow (G' := fun b => G b ∨ b = h.size) e1 fun b hb => by
    rcases hb with g | g
    · exact ⟨Or.inl g, by have := hS.lt g; omega⟩
    · exact ⟨Or.inr (by omega), by omega⟩
  have rv0 : rd h1 (Addr.mk h.size 0 none) = some (Value.pointer (some ⟨s, 0, none⟩)) := by rw [rd_blk bv]; rfl
  refine ⟨_, rv0, _, rv0, ?_⟩
  rw [nilW_some]
  refine ⟨kp, by rw [addr_mk, rd_blk hA0.blk]; rfl, ?_⟩
  have hkl := ok.k
  have lw : w h.size = 0 := (hA0.gw _ (Or.inr rfl)).1
  refine DeleteFunc_z (lo := 0) (St := fun k g => ∃ w' ms' C', SsAt False w' (fun b => G b ∨ b = h.size) g s cb t e me mo ms' dm sm C' kp { M with S := ((M.kept.take k).filter (goneB M.L)).foldl dropS M.S } ∧ KG (fun b => G b ∨ b = h.size) h1 g ∧ ∀ b, b ∈ sBlk kp → w' b = 6) (goneB M.L) (hA0.kq trivial) (by omega) (fun k g g' hst he => ?_) (fun k hk g K hst hK => ?_) ⟨_, ms, C, hA0.loose (Ext.refl _ _), KG.refl _ _, fun b hb => by rw [wx_lt (hA0.ltk hb)]; exact hA0.wk b hb⟩ fun g kp' hst hq hsub => ⟨kp', rfl, ?_⟩
  · obtain ⟨w', ms', C', q1, q2, q3⟩ := hst
    refine ⟨_, ms', C', q1.loose he, q2.trans (kg_ext he (fun b hb => (q1.gw b hb).2) fun b hb g => ?_), fun b hb => by rw [wx_lt (q1.ltk hb)]; exact q3 b hb⟩
    have := (q1.gw b g).1
    have := q3 b hb
    omega
  · obtain ⟨w', ms', C', q1, q2, q3⟩ := hst
    have okk := (foldD_ok ((M.kept.take k).filter (goneB M.L)) ok.s).1
    refine clean1_z q1 okk (by omega) (q2.get bv (Or.inr rfl)) (Or.inr rfl) M.kept[k] fun g' w2 ms2 C2 a1 a2 a3 a4 => ?_
    refine hK g' ⟨w2, ms2, C2, ?_, q2.trans ⟨a2, fun b hb => a3 b (q1.gw b hb).2 (by have := (q1.gw b hb).1; omega)⟩, fun b hb => by rw [a4 b (q1.ltk hb)]; exact q3 b hb⟩ a2 fun b hb => a3 b (q1.ltk hb) (by have := q3 b hb; omega)
    rw [flt_succ (goneB M.L) M.kept hk, List.foldl_append]
    simp only at a1
    split at a1
    · rename_i hg
      rw [if_pos hg]
      exact a1
    · rename_i hg
      rw [if_neg hg]
      exact a1
  obtain ⟨w1, ms1, C1, q1, q2, q3⟩ := hst
  rw [List.take_length] at q1
  refine ⟨by rw [rd_blk (q2.get bv (Or.inr rfl))]; rfl, ?_⟩
  rw [nilW_some]
  refine q1.lay hq (fun b hb => q3 b (hsub b hb)) fun h3 hA3 e3 z3 => ?_
  have k03 : KG (fun b => G b ∨ b = h.size) h1 h3 := q2.trans (kg_ext e3 (fun b hb => (q1.gw b hb).2) fun b hb g => by
    simp at hb
    subst hb
    have := (q1.gw _ g).1
    have := q1.ws
    omega)
  intro X hX
  have ok1 := (foldD_ok (M.kept.filter (goneB M.L)) ok.s).1
  have key : ∀ (l : List Int) (S : SM) g, SOk N S → l.length ≤ N → Ss (fun b => G b ∨ b = h.size) g s cb t e { M with S := S, kept := l } → KG (fun b => G b ∨ b = h.size) h1 g →
      (∀ g', Ss (fun b => G b ∨ b = h.size) g' s cb t e { M with S := if (foldK M.L M.keep l S).2 = [] ∧ runningL M.L = [] then dropS (foldK M.L M.keep l S).1 0 else (foldK M.L M.keep l S).1, kept := (foldK M.L M.keep l S).2 } → KG (fun b => G b ∨ b = h.size) h1 g' → Q [] g') → X [] g := by
    intro l
    induction l with
    | nil =>
      intro S g okS hl hSg hk hfin
      refine hX g ?_
      have rv : ∀ {g2 : Hp}, KG (fun b => G b ∨ b = h.size) h1 g2 → rd g2 (Addr.mk h.size 0 none) = some (Value.pointer (some ⟨s, 0, none⟩)) := fun kg => by rw [rd_blk (kg.get bv (Or.inr rfl))]; rfl
      obtain ⟨w, me, mo, ms, dm, sm, C, kp, hA⟩ := hSg
      have hkn := (hA.kq trivial).1
      refine ⟨_, rv hk, ?_⟩
      rw [nilW_some]
      refine ⟨kp, by rw [addr_mk, rd_blk hA.blk]; rfl, _, rv hk, ?_⟩
      rw [nilW_some]
      refine ⟨_, by rw [addr_mk, rd_blk hA.blk]; rfl, ?_⟩
      have hkp := ok.p
      rw [if_neg (by simp at hkn ⊢; omega)]
      intro J hJ
      refine ⟨_, rv hk, ?_⟩
      rw [nilW_some]
      refine ⟨kp, by rw [addr_mk, rd_blk hA.blk]; rfl, ?_⟩
      rw [if_pos (by simp at hkn ⊢; omega)]
      refine ⟨_, rv hk, ?_⟩
      rw [nilW_some]
      refine ⟨_, by rw [addr_mk, rd_blk hA.blk]; rfl, ?_⟩
      have hSg : Ss (fun b => G b ∨ b = h.size) g s cb t e { M with S := S, kept := [] } := ⟨w, me, mo, ms, dm, sm, C, kp, hA⟩
      refine Running_s hSg.cl fun g2 l2 e2 ho => ⟨l2, rfl, ?_⟩
      have hln := ho.1
      have hS2 := hSg.e0 e2
      have hk2 := hk.trans (hSg.kgE e2)
      unfold foldK at hfin
      by_cases hr : runningL M.L = []
      · rw [if_pos ⟨rfl, hr⟩] at hfin
        simp only at hln
        rw [hr] at hln
        rw [show ((l2.n : Int) == 0) = true by rw [hln]; rfl]
        refine hJ _ _ ?_
        rw [if_pos rfl]
        refine ⟨_, rv hk2, ?_⟩
        rw [nilW_some]
        refine ⟨_, hS2.fld.2.1, ?_⟩
        obtain ⟨P, hV, hGP, _, up⟩ := hS2.onS
        refine Drop_s hV okS (by omega) 0 fun g3 hV3 k3 => ⟨rfl, ?_⟩
        exact hfin g3 (up hV3 (KG.of k3)) (hk2.trans ((KG.of k3).anti hGP))
      · rw [if_neg (fun q => hr q.2)] at hfin
        have : l2.n ≠ 0 := fun e0 => hr (List.eq_nil_of_length_eq_zero (by simp only at hln; omega))
        rw [show ((l2.n : Int) == 0) = false by simp; omega]
        refine hJ _ _ ?_
        rw [if_neg (by decide)]
        exact hfin g2 hS2 hk2
    | cons k l ih =>
      intro S g okS hl hSg hk hfin
      refine hX g ?_
      have rv : ∀ {g2 : Hp}, KG (fun b => G b ∨ b = h.size) h1 g2 → rd g2 (Addr.mk h.size 0 none) = some (Value.pointer (some ⟨s, 0, none⟩)) := fun kg => by rw [rd_blk (kg.get bv (Or.inr rfl))]; rfl
      have hSg0 := hSg
      obtain ⟨w, me, mo, ms, dm, sm, C, kp, hA⟩ := hSg
      have hkn := (hA.kq trivial).1
      simp only [List.length_cons] at hkn hl
      refine ⟨_, rv hk, ?_⟩
      rw [nilW_some]
      refine ⟨kp, by rw [addr_mk, rd_blk hA.blk]; rfl, _, rv hk, ?_⟩
      rw [nilW_some]
      refine ⟨_, by rw [addr_mk, rd_blk hA.blk]; rfl, ?_⟩
      unfold foldK at hfin
      by_cases hlt : M.keep < ((l.length + 1 : Nat) : Int)
      · rw [if_pos hlt] at hfin
        rw [if_pos (by simp; omega)]
        obtain ⟨a, w1', w2'⟩ := rdI (hA.kq trivial).sl.reads (i := 0) (by simp)
        refine ⟨_, rv hk, ?_⟩
        rw [nilW_some]
        refine ⟨_, by rw [addr_mk, rd_blk hA.blk]; rfl, _, rv hk, ?_⟩
        rw [nilW_some]
        refine ⟨kp, by rw [addr_mk, rd_blk hA.blk]; rfl, ?_⟩
        rw [w1', nilW_some]
        refine ⟨by omega, by omega, k, w2', _, rv hk, ?_⟩
        rw [nilW_some]
        refine ⟨_, by rw [addr_mk, rd_blk hA.blk]; rfl, _, rv hk, ?_⟩
        rw [nilW_some]
        refine ⟨kp, by rw [addr_mk, rd_blk hA.blk]; rfl, ?_⟩
        rw [w1', nilW_some]
        refine ⟨by omega, by omega, k, w2', ?_⟩
        refine Csn_s hA.cl k fun g2 e2 => ⟨_, rfl, ?_⟩
        have hz2 := e2.sz
        have hA2 := hA.grow (G' := fun b => G b ∨ b = h.size) e2 fun b hb => ⟨Or.inl hb, by have := (hA.gw b hb).2; omega⟩
        have hk2 := hk.trans (hSg0.kgE e2)
        refine ⟨rd_ext0 e2 w2', by rw [addr_mk, rd_blk hA2.blk, ← w1']; rfl, rv hk2, by rw [addr_mk, rd_blk hA2.blk]; rfl, rv hk2, ?_⟩
        refine Fold_s hA2.sv okS (by omega) k _ fun g3 hV3 k3 => ⟨rfl, ?_⟩
        obtain ⟨ms3, C3, hA3⟩ := hA2.table hV3 (KG.of k3)
        have hk3 : KG (fun b => G b ∨ b = h.size) h1 g3 := hk2.trans ((KG.of k3).anti fun b hb => ⟨(hA2.gw b hb).2, by have := (hA2.gw b hb).1; omega⟩)
        refine ⟨_, rv hk3, _, rv hk3, ?_⟩
        rw [nilW_some]
        refine ⟨kp, by rw [addr_mk, rd_blk hA3.blk]; rfl, ⟨by omega, by omega⟩, ?_⟩
        rw [nilW_some]
        have hq3 := (hA3.kq trivial).tail encIL_len
        have hsub : ∀ b ∈ sBlk (⟨slAd kp.a 1 kp.c 1, kp.n - 1, kp.c - 1⟩ : Sl), b ∈ sBlk kp := by
          intro b hb
          obtain ⟨a2, ha2, hab⟩ := mem_sBlk.1 hb
          refine mem_sBlk.2 ?_
          simp only [slAd] at ha2
          split at ha2
          · exact ⟨a2, ha2, hab⟩
          · rw [w1'] at ha2 ⊢
            simp only [Option.map_some, Option.some.injEq] at ha2
            refine ⟨a, rfl, ?_⟩
            rw [← hab, ← ha2]
            unfold Addr.add
            split <;> rfl
        refine hA3.lay hq3 (fun b hb => hA3.wk b (hsub b hb)) fun g4 hA4 e4 z4 => ?_
        have hk4 : KG (fun b => G b ∨ b = h.size) h1 g4 := hk3.trans (kg_ext e4 (fun b hb => (hA3.gw b hb).2) fun b hb g => by
          simp at hb
          subst hb
          have := (hA3.gw _ g).1
          have := hA3.ws
          omega)
        exact ih (foldS S k (txL M.L k).csn) g4 (foldS_ok okS _).1 (by omega) ⟨_, _, _, _, _, _, _, _, hA4⟩ hk4 hfin
      · rw [if_neg hlt] at hfin
        rw [if_neg (by simp; omega)]
        intro J hJ
        refine ⟨_, rv hk, ?_⟩
        rw [nilW_some]
        refine ⟨kp, by rw [addr_mk, rd_blk hA.blk]; rfl, ?_⟩
        rw [if_neg (by simp; omega)]
        refine hJ _ _ ?_
        rw [if_neg (by decide)]
        rw [if_neg (by simp)] at hfin
        exact hfin g hSg0 hk
  have hl2 := List.length_filter_le (fun x => !goneB M.L x) M.kept
  refine key _ _ h3 ok1 (by omega) ⟨_, _, _, _, _, _, _, _, hA3⟩ k03 fun g' hS' hk' => ?_
  exact hQ g' (hS'.less fun b hb => Or.inl hb) ((hS.kgE e1).trans (hk'.anti fun b hb => Or.inl hb))
end
end Go.Lift.E14
namespace Go.Lift.E14
open Go Go.Proofs Go.RowKit
set_option maxRecDepth 100000
section
variable {N D : Nat} {M : SsiM}
theorem abort_clock (L : LM) (x : Int) : (abortL L x).clock = L.clock := by
  unfold abortL
  split <;> rfl
theorem commit_clock (L : LM) (x : Int) : L.clock ≤ (commitL L x).clock ∧ (commitL L x).clock ≤ L.clock + 1 := by
  unfold commitL
  split
  · simp only
    omega
  · omega
theorem abortM_ok (ok : MOk N D M) (x : Int) : MOk N D (abortM M x) := by
  unfold abortM
  split
  · exact cleanM_ok ⟨(dropS_any ok.s x).1, ok.e.drop x, ok.k, ok.d, ok.f, by simp only; rw [abort_clock]; exact ok.c, ok.p, ok.nn, ok.dd⟩
  · exact ok
theorem commitM_ok (ok : MOk N D M) (x : Int) (hN : N + 1 ≤ 2 ^ 18) (hD : D + N + 1 ≤ 2 ^ 39) : MOk (N + 1) (D + N + 1) (commitM M x).1 := by
  unfold commitM
  split
  · exact ok.up (by omega) (by omega) hN hD
  · split
    · exact (abortM_ok ok x).up (by omega) (by omega) hN hD
    · have h1 := ok.dooms (aheadE M.L M.E x) (ahead_len ok x) (by omega)
      have h2 := commit_clock M.L x
      refine cleanM_ok ⟨h1.s.up (by have := h1.s.bnd; omega), h1.e.up (by omega), by have := h1.k; unfold doomAll at this ⊢; simp only [List.length_append, List.length_cons, List.length_nil] at this ⊢; omega, fun y => ⟨(h1.d y).1, Int.le_trans (h1.d y).2 (by omega)⟩, fun y => ⟨(h1.f y).1, Int.le_trans (h1.f y).2 (by omega)⟩, by have := ok.c; simp only; omega, h1.p, hN, hD⟩
theorem beginM_ok (ok : MOk N D M) (r : Bool) (hD : D + 1 ≤ 2 ^ 39) : MOk N (D + 1) (beginM M r) := by
  unfold beginM
  split
  · exact ok.up (Nat.le_refl _) (by omega) ok.nn hD
  · refine ⟨ok.s, ok.e, ok.k, fun x => by have := ok.d x; simp only; omega, fun x => ?_, ?_, ok.p, ok.nn, hD⟩
    · have := ok.f x
      simp only
      split
      · rw [cnt_bump]
        split <;> omega
      · omega
    · have h1 : (beginL M.L r).clock = M.L.clock := by
        unfold beginL
        split <;> rfl
      have := ok.c
      simp only
      omega
theorem wroteM_ok (ok : MOk N D M) (x : Int) (y : ThingM) (hN : N + 202 ≤ 2 ^ 18) (hD : D + 121200000 ≤ 2 ^ 39) : MOk (N + 202) (D + 121200000) (wroteM M x y) := by
  unfold wroteM
  split
  · have hl := ownersS_len ok.s (ownP y)
    have h1 : 600000 * (ownersS M.S (ownP y)).length ≤ 121200000 := Nat.le_trans (Nat.mul_le_mul_left _ hl) (by decide)
    have h2 := wsteps_ok x (ownersS M.S (ownP y)) ok (by omega) (Nat.le_trans (Nat.add_le_add_left h1 _) hD)
    exact h2.up (by omega) (Nat.add_le_add_left h1 _) hN hD
  · exact ok.up (by omega) (by omega) hN hD
end
section
variable {G : Nat → Prop} {h : Hp} {s cb t e N D : Nat} {M : SsiM} {Q : List Value → Hp → Prop}
theorem Abort_z (hS : Ss G h s cb t e M) (ok : MOk N D M) (x : Int) (hQ : ∀ h', Ss G h' s cb t e (abortM M x) → KG G h h' → Q [.int .i64 (if runsB M.L x = true then 0 else 76)] h') : S_ssi_Ssi_Abort (some ⟨s, 0, none⟩) x h Q := by
  refine O_ssi_Ssi_Abort _ _ ?_
  delta F_ssi_Ssi_Abort rI rB rS rP rM rL vI vB vS vP vM vL vC vA ad nb gb wi bl bz tn isn sib pu oc
  rw [if_neg (by simp)]
  refine runs_z hS x fun h1 e1 => ⟨_, rfl, ?_⟩
  have hS1 := hS.e0 e1
  have hnn := ok.nn
  unfold abortM at hQ
  cases hr : runsB M.L x with
  | false =>
    rw [if_pos (by rfl)]
    rw [hr, if_neg (by decide), if_neg (by decide)] at hQ
    exact hQ h1 hS1 (hS.kgE e1)
  | true =>
    rw [if_neg (by decide), nilW_some]
    rw [hr, if_pos rfl, if_pos rfl] at hQ
    refine ⟨_, hS1.fld.1, ?_⟩
    obtain ⟨P, hE, hGP, _, up⟩ := hS1.onE
    refine Abort_s hE.cl x fun h2 hC2 e2 z2 => ⟨_, rfl, ?_⟩
    obtain ⟨hE2, k2⟩ := hE.log hC2 e2
    have hS2 := up hE2 k2
    have kg2 : KG G h h2 := (hS.kgE e1).trans (k2.anti hGP)
    rw [nilW_some]
    refine ⟨_, hS2.fld.2.1, ?_⟩
    obtain ⟨P2, hV, hGP2, _, up2⟩ := hS2.onS
    refine Drop_s hV ok.s (by omega) x fun h3 hV3 k3 => ⟨rfl, ?_⟩
    have hS3 := up2 hV3 (KG.of k3)
    have kg3 := kg2.trans ((KG.of k3).anti hGP2)
    rw [nilW_some]
    refine ⟨_, hS3.fld.2.2.1, ?_⟩
    obtain ⟨P3, hE3, hGP3, _, up3⟩ := hS3.onE
    refine Drop14_s hE3 ok.e x fun h4 hE4 k4 => ⟨rfl, ?_⟩
    have hS4 := up3 hE4 k4
    have kg4 := kg3.trans (k4.anti hGP3)
    have ok4 : MOk N D { M with L := abortL M.L x, S := dropS M.S x, E := dropE M.E x } := ⟨(dropS_any ok.s x).1, ok.e.drop x, ok.k, ok.d, ok.f, by simp only; rw [abort_clock]; exact ok.c, ok.p, ok.nn, ok.dd⟩
    exact clean_z hS4 ok4 fun h5 hS5 k5 => ⟨rfl, hQ h5 hS5 (kg4.trans k5)⟩
theorem Commit_z (hS : Ss G h s cb t e M) (ok : MOk N D M) (hN : N + 1 ≤ 2 ^ 18) (hD : D + N + 1 ≤ 2 ^ 39) (x : Int) (hQ : ∀ h', Ss G h' s cb t e (commitM M x).1 → KG G h h' → Q [.int .i64 (commitM M x).2] h') : S_ssi_Ssi_Commit (some ⟨s, 0, none⟩) x h Q := by
  refine O_ssi_Ssi_Commit _ _ ?_
  delta F_ssi_Ssi_Commit rI rB rS rP rM rL vI vB vS vP vM vL vC vA ad nb gb wi bl bz tn isn sib pu oc
  rw [if_neg (by simp)]
  refine runs_z hS x fun h1 e1 => ⟨_, rfl, ?_⟩
  have hS1 := hS.e0 e1
  have hnn := ok.nn
  have hdd := ok.dd
  unfold commitM at hQ
  cases hr : runsB M.L x with
  | false =>
    rw [if_pos (by rfl)]
    rw [hr, if_pos rfl] at hQ
    exact hQ h1 hS1 (hS.kgE e1)
  | true =>
    rw [if_neg (by decide)]
    rw [hr, if_neg (by decide)] at hQ
    refine Doomed_z hS1 x ⟨_, rfl, ?_⟩
    by_cases hd : cnt M.doomed x > 0
    · rw [if_pos (by simpa using hd)]
      rw [if_pos hd] at hQ
      exact Abort_z hS1 ok x fun h2 hS2 k2 => ⟨_, rfl, hQ h2 hS2 ((hS.kgE e1).trans k2)⟩
    · rw [if_neg (by simpa using hd), nilW_some]
      rw [if_neg hd] at hQ
      refine ⟨_, hS1.fld.2.2.1, ?_⟩
      obtain ⟨P, hE, _, _, _⟩ := hS1.onE
      refine Ahead_s hE ok.e (by omega) x fun h2 l e2 ho => ⟨l, rfl, ?_⟩
      have e02 := e1.trans0 e2
      have sub := own_ltG ho
      have hz1 := e1.sz
      have hS2 : Ss (fun b => G b ∨ b ∈ sBlk l) h2 s cb t e M := hS.grow e02 fun b hb => by
        rcases hb with g | g
        · exact ⟨Or.inl g, by have := hS.lt g; have := e02.sz; omega⟩
        · exact ⟨Or.inr (by have := (sub b g).1; omega), (sub b g).2⟩
      have hal := ahead_len ok x
      intro X hX
      refine dooms_z (by omega) (fun y => by have := ok.d y; omega) hS2 ho (fun b hb => Or.inr hb) hX fun h3 hS3 k3 => ?_
      have kg3 : KG G h h3 := (hS.kgE e02).trans (k3.anti fun b hb => Or.inl hb)
      have hS3' : Ss G h3 s cb t e (doomAll M (aheadE M.L M.E x)) := hS3.less fun b hb => Or.inl hb
      rw [nilW_some]
      refine ⟨_, hS3'.fld.1, ?_⟩
      obtain ⟨P3, hE3, hGP3, _, up3⟩ := hS3'.onE
      have hck := ok.c
      refine Commit_s hE3.cl x (by show M.L.clock < 2 ^ 40; omega) fun h4 hC4 e4 z4 => ⟨_, _, rfl, ?_⟩
      obtain ⟨hE4, k4⟩ := hE3.log hC4 e4
      have hS4 := up3 hE4 k4
      have kg4 := kg3.trans (k4.anti hGP3)
      rw [nilW_some]
      obtain ⟨w, me, mo, ms, dm, sm, C, kp, hA⟩ := hS4
      refine ⟨kp, by rw [addr_mk, rd_blk hA.blk]; rfl, ?_⟩
      have hkl := ok.k
      refine app1Q (x := x) (hA.kq trivial) rfl zcInt encIL_len encIL_one (by show M.kept.length < 2 ^ 36; omega) (by decide) (Nat.zero_le _) fun kp' h5 hq5 e5 hb5 => ?_
      rw [nilW_some]
      have hA5 := hA.looseK 6 e5
      refine hA5.lay hq5 (fun b hb => ?_) fun h6 hA6 e6 z6 => ?_
      · rcases hb5 b hb with g | g
        · rw [wx_lt (hA.ltk g)]
          exact hA.wk b g
        · unfold wx
          rw [if_neg (by omega)]
      · have kg6 : KG G h h6 := (kg4.trans (kg_ext e5 (fun b hb => (hA.gw b hb).2) fun b hb g => by have := (hA.gw b g).1; have := hA.wk b hb; omega)).trans (kg_ext e6 (fun b hb => (hA5.gw b hb).2) fun b hb g => by
          simp at hb
          subst hb
          have := (hA5.gw _ g).1
          have := hA5.ws
          omega)
        have h1 := ok.dooms (aheadE M.L M.E x) hal (by omega)
        have h2 := commit_clock M.L x
        have ok6 : MOk (N + 1) (D + N + 1) { doomAll M (aheadE M.L M.E x) with L := commitL M.L x, kept := M.kept ++ [x] } := ⟨h1.s.up (by have := h1.s.bnd; omega), h1.e.up (by omega), by have := h1.k; unfold doomAll at this ⊢; simp only [List.length_append, List.length_cons, List.length_nil] at this ⊢; omega, fun y => ⟨(h1.d y).1, Int.le_trans (h1.d y).2 (by omega)⟩, fun y => ⟨(h1.f y).1, Int.le_trans (h1.f y).2 (by omega)⟩, by have := ok.c; simp only; omega, h1.p, hN, hD⟩
        exact clean_z (M := { doomAll M (aheadE M.L M.E x) with L := commitL M.L x, kept := M.kept ++ [x] }) ⟨_, _, _, _, _, _, _, _, hA6⟩ ok6 fun h7 hS7 k7 => ⟨rfl, hQ h7 hS7 (kg6.trans k7)⟩
abbrev newM (each all keep : Int) : SsiM := ⟨⟨[], 0⟩, ⟨each, all, [], 0, 0⟩, ⟨[], []⟩, keep, [], [], []⟩
theorem newM_ok {each all keep : Int} (he : 1 ≤ each ∧ each ≤ 10000) (ha : 1 ≤ all ∧ all ≤ 10000) (hk : 0 ≤ keep ∧ keep ≤ 1000) : MOk 0 0 (newM each all keep) :=
  ⟨SOk.new he ha, ⟨by simp, by simp, by simp⟩, by simp, fun x => by simp [cnt, afind], fun x => by simp [cnt, afind], by simp, hk, by decide, by decide⟩
theorem New_z {each all keep : Int} (he : 1 ≤ each ∧ each ≤ 10000) (ha : 1 ≤ all ∧ all ≤ 10000) (hk : 0 ≤ keep ∧ keep ≤ 1000) (hC : ClAt h cb ⟨[], 0⟩) (hG : ∀ b, G b → b < h.size ∧ b ≠ cb)
    (hQ : ∀ h' s t e, Ss G h' s cb t e (newM each all keep) → Ext [] h h' → Q [.pointer (some ⟨s, 0, none⟩), .int .i64 0] h') : S_ssi_New (some ⟨cb, 0, none⟩) each all keep h Q := by
  refine O_ssi_New _ _ _ _ ?_
  delta F_ssi_New rI rB rS rP rM rL vI vB vS vP vM vL vC vA ad nb gb wi bl bz tn isn sib pu oc
  intro J hJ
  rw [if_neg (by simp), if_neg (by simp; omega), show (decide (keep > 1000)) = false by simp; omega]
  refine hJ _ _ ?_
  rw [if_neg (by decide)]
  refine New_s (G := fun b => b < h.size) (fun b hb => hb) he ha fun h1 t hV1 e1 => ⟨_, _, rfl, ?_⟩
  rw [if_neg (by decide)]
  have hC1 := hC.ext0 e1
  refine New14_s (G := fun b => b < h1.size ∧ b ≠ cb) (fun b hb => hb.1) hC1 (fun g => g.2 rfl) fun h2 e hE2 e2 => ⟨_, rfl, ?_⟩
  refine newI fun h3 z3 b3 e3 => newI fun h4 z4 b4 e4 => newI fun h5 z5 b5 e5 => ?_
  have e25 := (e3.trans0 e4).trans0 e5
  have e15 := e2.trans0 e25
  obtain ⟨v1, ms, C, hT, hC0, hF⟩ := hV1
  have hz1 := e1.sz
  have hz2 := e2.sz
  have hcl := hC.lt
  obtain ⟨g1, g2, ⟨me, mo, a1, a2, a3, a4, a5, a6⟩, g4⟩ := hE2
  have cbne := (EvS.cb_ne (G := fun b => b < h1.size ∧ b ≠ cb) ⟨g1, g2, ⟨me, mo, a1, a2, a3, a4, a5, a6⟩, g4⟩)
  have le := blk_lt a1
  have lm := a2.lt
  have lo := a3.lt
  obtain ⟨cc, c1, _⟩ := g2.cells
  have nm := map_ne_cells a2 c1
  have no := map_ne_cells a3 c1
  have ge : h1.size ≤ e := Nat.le_of_not_lt fun hl => g4.2 ⟨hl, fun q => cbne q.symm⟩
  have gm : h1.size ≤ me := Nat.le_of_not_lt fun hl => a5 ⟨hl, fun q => nm q.symm⟩
  have go : h1.size ≤ mo := Nat.le_of_not_lt fun hl => a6 ⟨hl, fun q => no q.symm⟩
  have ft : ∀ b, FS t ms C b → h.size ≤ b ∧ b < h1.size := fun b hb => ⟨Nat.le_of_not_lt fun hl => hF b hb hl, (hT.lt hb).2⟩
  let w : Nat → Nat := fun b => if b = cb then 2 else if b < h.size then 0 else if b < h1.size then 3 else if b < h2.size then 2 else if b = h2.size then 4 else if b = h3.size then 5 else if b = h4.size then 1 else 0
  refine hQ h5 h4.size t e ⟨w, me, mo, ms, h2.size, h3.size, C, ⟨none, 0, 0⟩, ?_⟩ (e1.trans0 e15)
  have map0 : ∀ {g : Hp} {b : Nat}, g[b]? = some (Obj.map #[] 0) → IsMap encI encI g b ([] : List (Int × Int)) := fun hb => ⟨#[], 0, hb, rfl, by simp [Born]⟩
  have wd1 : w cb = 2 := by simp [w]
  have wr2 : ∀ b, h1.size ≤ b → b < h2.size → w b = 2 := fun b q1 q2 => by
    simp only [w]
    rw [if_neg (by omega), if_neg (by omega), if_neg (by omega), if_pos q2]
  refine ⟨fun b hb => ?_, b5, ?_, hC1.ext0 e15, wd1, e25.get a1 (by simp), wr2 e ge le, a2.ext e25 (by simp), wr2 me gm lm, a3.ext e25 (by simp), wr2 mo go lo, a4, hT.ext0 e15, hC0, fun b hb => ?_, map0 ((e4.trans0 e5).get b3 (by simp)), ?_, map0 (e5.get b4 (by simp)), ?_, by simp [sBlk], fun _ => ⟨rfl, Nat.le_refl _, fun _ => ⟨rfl, rfl⟩, fun a ha => by cases ha⟩, by simp [sBlk]⟩
  · obtain ⟨q1, q2⟩ := hG b hb
    have := (e1.trans0 e15).sz
    refine ⟨?_, by omega⟩
    simp only [w]
    rw [if_neg q2, if_pos q1]
  · simp only [w]
    rw [if_neg (by omega), if_neg (by omega), if_neg (by omega), if_neg (by omega), if_neg (by omega), if_neg (by omega), if_pos trivial]
  · obtain ⟨q1, q2⟩ := ft b hb
    simp only [w]
    rw [if_neg (by omega), if_neg (by omega), if_pos q2]
  · simp only [w]
    rw [if_neg (by omega), if_neg (by omega), if_neg (by omega), if_neg (by omega), if_pos trivial]
  · simp only [w]
    rw [if_neg (by omega), if_neg (by omega), if_neg (by omega), if_neg (by omega), if_neg (by omega), if_pos trivial]
theorem Table_z (hS : Ss G h s cb t e M) (hQ : Q [.pointer (some ⟨t, 0, none⟩)] h) : S_ssi_Ssi_Table (some ⟨s, 0, none⟩) h Q := by
  refine O_ssi_Ssi_Table _ ?_
  delta F_ssi_Ssi_Table rI rB rS rP rM rL vI vB vS vP vM vL vC vA ad nb gb wi bl bz tn isn sib pu oc
  rw [if_neg (by simp), nilW_some]
  exact ⟨_, hS.fld.2.1, hQ⟩
theorem Edges_z (hS : Ss G h s cb t e M) (hQ : Q [.pointer (some ⟨e, 0, none⟩)] h) : S_ssi_Ssi_Edges (some ⟨s, 0, none⟩) h Q := by
  refine O_ssi_Ssi_Edges _ ?_
  delta F_ssi_Ssi_Edges rI rB rS rP rM rL vI vB vS vP vM vL vC vA ad nb gb wi bl bz tn isn sib pu oc
  rw [if_neg (by simp), nilW_some]
  exact ⟨_, hS.fld.2.2.1, hQ⟩
end
end Go.Lift.E14
namespace Go.Lift.E14
open Go Go.Proofs Go.RowKit
set_option maxRecDepth 100000
/-- So many calls were made. -/
abbrev Mk (k : Nat) (M : SsiM) : Prop := MOk (202 * k) (122000000 * k) M
theorem mk_le {k : Nat} (hk : k < 1000) : 202 * k + 202 ≤ 2 ^ 18 ∧ 122000000 * k + 122000000 ≤ 2 ^ 39 := by
  refine ⟨by omega, ?_⟩
  have h1 : 122000000 * k + 122000000 = 122000000 * (k + 1) := rfl
  rw [h1]
  exact Nat.le_trans (Nat.mul_le_mul_left _ (show k + 1 ≤ 1000 by omega)) (by decide)
section
variable {k : Nat} {M : SsiM}
theorem Mk.step (h : Mk k M) {M' : SsiM} (hk : k < 1000) (H : ∀ N D, MOk N D M → N + 202 ≤ 2 ^ 18 → D + 122000000 ≤ 2 ^ 39 → MOk (N + 202) (D + 122000000) M') : Mk (k + 1) M' := by
  obtain ⟨h1, h2⟩ := mk_le hk
  have := H _ _ h h1 h2
  exact this
theorem Mk.begin (h : Mk k M) (hk : k < 1000) (r : Bool) : Mk (k + 1) (beginM M r) := h.step hk fun N D q h1 h2 => (beginM_ok q r (Nat.le_trans (Nat.add_le_add_left (by decide) _) h2)).up (by omega) (Nat.add_le_add_left (by decide) _) h1 h2
theorem Mk.read (h : Mk k M) (hk : k < 1000) (x : Int) (y : ThingM) : Mk (k + 1) (readM M x y) := h.step hk fun N D q h1 h2 => (readM_ok q x y (by omega)).up (by omega) (Nat.le_add_right _ _) h1 h2
theorem Mk.wrote (h : Mk k M) (hk : k < 1000) (x : Int) (y : ThingM) : Mk (k + 1) (wroteM M x y) := h.step hk fun N D q h1 h2 => (wroteM_ok q x y h1 (Nat.le_trans (Nat.add_le_add_left (by decide) _) h2)).up (Nat.le_refl _) (Nat.add_le_add_left (by decide) _) h1 h2
theorem Mk.commit (h : Mk k M) (hk : k < 1000) (x : Int) : Mk (k + 1) (commitM M x).1 := h.step hk fun N D q h1 h2 => (commitM_ok q x (by omega) (by
  have : N ≤ 2 ^ 18 := by omega
  rw [Nat.add_assoc]
  exact Nat.le_trans (Nat.add_le_add_left (show N + 1 ≤ 122000000 from Nat.le_trans (Nat.add_le_add_right this 1) (by decide)) _) h2)).up (by omega) (by
  have : N ≤ 2 ^ 18 := by omega
  rw [Nat.add_assoc]
  exact Nat.add_le_add_left (Nat.le_trans (Nat.add_le_add_right this 1) (by decide)) _) h1 h2
end
section
variable {G : Nat → Prop} {h : Hp} {s cb t e k : Nat} {M : SsiM} {Q : List Value → Hp → Prop}
theorem commitK_z (hS : Ss G h s cb t e M) (ok : Mk k M) (hk : k < 1000) (x : Int) (hQ : ∀ h', Ss G h' s cb t e (commitM M x).1 → KG G h h' → Q [.int .i64 (commitM M x).2] h') : S_ssi_Ssi_Commit (some ⟨s, 0, none⟩) x h Q := by
  obtain ⟨h1, h2⟩ := mk_le hk
  refine Commit_z hS ok (by omega) ?_ x hQ
  have : 202 * k ≤ 2 ^ 18 := by omega
  rw [Nat.add_assoc]
  exact Nat.le_trans (Nat.add_le_add_left (show 202 * k + 1 ≤ 122000000 from Nat.le_trans (Nat.add_le_add_right this 1) (by decide)) _) h2
theorem wroteK_z (hS : Ss G h s cb t e M) (ok : Mk k M) (hk : k < 1000) (x : Int) (y : ThingM) (hQ : ∀ h', Ss G h' s cb t e (wroteM M x y) → KG G h h' → Q [] h') : S_ssi_Ssi_Wrote (some ⟨s, 0, none⟩) x y.kind y.name y.rel y.index y.n h Q := by
  obtain ⟨h1, h2⟩ := mk_le hk
  exact Wrote_z hS ok h1 (Nat.le_trans (Nat.add_le_add_left (by decide) _) h2) x y hQ
end
end Go.Lift.E14
namespace Go.Lift.E14
open Go Go.Proofs Go.RowKit
set_option maxRecDepth 100000
structure StepZ where
  kind : Int
  xid : Int
  other : Int
  reads : Bool
  x : ThingM
section
variable {h : Hp} {s : Sl} {xs : List StepZ} {i : Nat} {Q : List Value → Hp → Prop}
end
section
variable {h : Hp} {Q : List Value → Hp → Prop}
end
end Go.Lift.E14

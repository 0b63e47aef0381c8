/- Edges: in memory, and what their functions do. -/
import Derived.Test.YtfkamdkocmkkpaaW14c
set_option linter.unusedSimpArgs false
set_option linter.unusedVariables false
namespace Go.Lift
open Go Go.Proofs Go.RowKit Go.Shelf
set_option maxRecDepth 100000
abbrev evU (_ : Unit) : Value := .int .i64 1
abbrev encI (n : Int) : Value := .int .i64 n
structure EM where
  m : List (Int × Int)
  old : List (Int × Int)
def tP (l : List (Int × Int)) : List ((Int × Int) × Unit) := l.map fun x => (x, ())
theorem tP_keys (l : List (Int × Int)) : (tP l).map Prod.fst = l := by unfold tP; rw [List.map_map]; exact List.map_id l
theorem afind_tP (l : List (Int × Int)) (x : Int × Int) : afind (tP l) x = if x ∈ l then some () else none := by
  unfold tP
  induction l with
  | nil => simp [afind]
  | cons a l ih =>
    simp only [List.map_cons, afind, ih, List.mem_cons]
    by_cases e : x = a <;> simp [e]
theorem aput_tP {l : List (Int × Int)} {x : Int × Int} (hx : x ∉ l) : aput (tP l) x () = tP (l ++ [x]) := by
  rw [aput_new (by rw [tP_keys]; exact hx)]
  unfold tP
  simp
theorem filter_tP (l : List (Int × Int)) (d : Int × Int → Bool) : (tP l).filter (fun q => !d q.1) = tP (l.filter fun q => !d q) := by
  unfold tP
  rw [List.filter_map]
  rfl
def touchP (x : Int) (q : Int × Int) : Bool := decide (q.1 = x) || decide (q.2 = x)
def addE (L : LM) (E : EM) (a b : Int) : EM := if besideL L a b = true ∧ (a, b) ∉ E.m then { E with m := E.m ++ [(a, b)] } else E
def dropE (E : EM) (x : Int) : EM := ⟨E.m.filter fun q => !touchP x q, adel E.old x⟩
def oldE (E : EM) (x : Int) : Int := (afind E.old x).getD 0
def oldOk (L : LM) (E : EM) (b csn : Int) : Prop := (txL L b).state ≠ 0 ∧ (txL L b).state ≠ 3 ∧ ¬ csn ≤ (txL L b).snap ∧ ¬ csn ≤ oldE E b
instance (L : LM) (E : EM) (b csn : Int) : Decidable (oldOk L E b csn) := by unfold oldOk; exact inferInstance
def oldInE (L : LM) (E : EM) (b csn : Int) : EM := if oldOk L E b csn then { E with old := aput E.old b csn } else E
def inE (E : EM) (x : Int) : List Int := sortI ((E.m.filter fun q => decide (q.2 = x)).map Prod.fst)
def outE (E : EM) (x : Int) : List Int := sortI ((E.m.filter fun q => decide (q.1 = x)).map Prod.snd)
def stepF (L : LM) (p least t3 : Int) : Int :=
  if (txL L t3).csn = 0 ∨ ((txL L p).csn ≠ 0 ∧ (txL L p).csn ≤ (txL L t3).csn) then least
  else if least = 0 ∨ (txL L t3).csn < least then (txL L t3).csn else least
def firstE (L : LM) (E : EM) (p : Int) : Int := (outE E p).foldl (stepF L p) 0
def spStep (L : LM) (csn : Int) (acc : List Int × Bool) (t1 : Int) : List Int × Bool :=
  if (txL L t1).state = 3 ∨ ((txL L t1).state = 2 ∧ (txL L t1).csn < csn) then acc
  else if (txL L t1).reads = true ∧ (txL L t1).snap < csn then acc
  else (if (txL L t1).state = 1 then acc.1 ++ [t1] else acc.1, true)
def spoiltE (L : LM) (E : EM) (p : Int) : List Int × Bool :=
  if (txL L p).state = 3 then ([], false)
  else if firstE L E p = 0 then ([], false)
  else (inE E p).foldl (spStep L (firstE L E p)) ([], decide (oldE E p ≥ firstE L E p))
def aheadB (L : LM) (t3 t1 : Int) : Bool := (decide (t1 = t3) || decide ((txL L t1).state = 1)) && !(txL L t1).reads
def aheadE (L : LM) (E : EM) (t3 : Int) : List Int := (inE E t3).filter fun p => decide ((txL L p).state = 1) && (inE E p).any (aheadB L t3)
def allE (E : EM) : List (Int × Int) := sortC cmpP E.m
structure EOk (N : Nat) (E : EM) : Prop where
  nd : E.m.Nodup
  od : (E.old.map Prod.fst).Nodup
  len : E.m.length ≤ N
structure KG (G : Nat → Prop) (h h' : Hp) : Prop where
  sz : h.size ≤ h'.size
  old : ∀ b, G b → h'[b]? = h[b]?
structure EvS (G : Nat → Prop) (h : Hp) (cb e : Nat) (L : LM) (E : EM) : Prop where
  lt : ∀ b, G b → b < h.size
  cl : ClAt h cb L
  ed : ∃ mb ob, Blk h e #[.pointer (some ⟨cb, 0, none⟩), .map (some mb), .map (some ob)] T_edge_Edges ∧ IsMap ekP evU h mb (tP E.m) ∧ IsMap encI encI h ob E.old ∧ mb ≠ ob ∧ ¬ G mb ∧ ¬ G ob
  ng : ¬ G cb ∧ ¬ G e
section
variable {G G' : Nat → Prop} {h h' h'' : Hp} {cb e : Nat} {L : LM} {E : EM} {Q : List Value → Hp → Prop}
theorem KG.refl (G : Nat → Prop) (h : Hp) : KG G h h := ⟨Nat.le_refl _, fun _ _ => rfl⟩
theorem KG.trans (h1 : KG G h h') (h2 : KG G h' h'') : KG G h h'' := ⟨Nat.le_trans h1.sz h2.sz, fun b hb => by rw [h2.old b hb, h1.old b hb]⟩
theorem KG.anti (h1 : KG G h h') (hs : ∀ b, G' b → G b) : KG G' h h' := ⟨h1.sz, fun b hb => h1.old b (hs b hb)⟩
theorem KG.get (h1 : KG G h h') {b : Nat} {o : Obj} (hb : h[b]? = some o) (hG : G b) : h'[b]? = some o := by rw [h1.old b hG, hb]
theorem kg_ext {L : List Nat} (he : Ext L h h') (hG : ∀ b, G b → b < h.size) (hL : ∀ b ∈ L, ¬ G b) : KG G h h' := ⟨he.sz, fun b hb => he.old b (hG b hb) fun hm => hL b hm hb⟩
theorem kg_ext0 (he : Ext [] h h') (hG : ∀ b, G b → b < h.size) : KG G h h' := kg_ext he hG (by simp)
theorem map_ne_cells {b m : Nat} {K V : Type} {ek : K → Value} {ev : V → Value} {T : List (K × V)} {c : Array Value} {Ty : TypeId} (hm : IsMap ek ev h m T) (hb : Blk h b c Ty) : b ≠ m := by
  rintro rfl
  obtain ⟨es, cl, h1, _⟩ := hm
  unfold Blk at hb
  rw [h1] at hb
  cases hb
theorem EvS.ext0 (hE : EvS G h cb e L E) (he : Ext [] h h') : EvS G h' cb e L E := by
  obtain ⟨h1, h2, ⟨mb, ob, a1, a2, a3, a4⟩, h4⟩ := hE
  have := he.sz
  exact ⟨fun b hb => by have := h1 b hb; omega, h2.ext0 he, ⟨mb, ob, he.get a1 (by simp), a2.ext he (by simp), a3.ext he (by simp), a4⟩, h4⟩
theorem EvS.cb_ne (hE : EvS G h cb e L E) : cb ≠ e := by
  rintro rfl
  obtain ⟨c, h1, h2, _⟩ := hE.cl.cells
  obtain ⟨mb, ob, a1, _⟩ := hE.ed
  unfold Blk at h1 a1
  rw [h1] at a1
  simp only [Option.some.injEq, Obj.cells.injEq] at a1
  have : c.size = 3 := by rw [a1.1]; rfl
  omega
/-- The log changes. -/
theorem EvS.log (hE : EvS G h cb e L E) {L' : LM} (hC : ClAt h' cb L') (he : Ext [cb] h h') : EvS G h' cb e L' E ∧ KG G h h' := by
  have hne := hE.cb_ne
  obtain ⟨h1, h2, ⟨mb, ob, a1, a2, a3, a4⟩, h4⟩ := hE
  obtain ⟨c, c1, _⟩ := h2.cells
  have n1 := map_ne_cells a2 c1
  have n2 := map_ne_cells a3 c1
  have := he.sz
  exact ⟨⟨fun b hb => by have := h1 b hb; omega, hC, ⟨mb, ob, he.get a1 (by simp; exact hne.symm), a2.ext he (by simp; exact n1.symm), a3.ext he (by simp; exact n2.symm), a4⟩, h4⟩, kg_ext he h1 (by simp; exact h4.1)⟩
theorem EvS.anti (hE : EvS G h cb e L E) (hs : ∀ b, G' b → G b) : EvS G' h cb e L E := by
  obtain ⟨h1, h2, ⟨mb, ob, a1, a2, a3, a4, a5, a6⟩, h4⟩ := hE
  exact ⟨fun b hb => h1 b (hs b hb), h2, ⟨mb, ob, a1, a2, a3, a4, fun g => a5 (hs _ g), fun g => a6 (hs _ g)⟩, fun g => h4.1 (hs _ g), fun g => h4.2 (hs _ g)⟩
def GX (G : Nat → Prop) (h h' : Hp) : Nat → Prop := fun b => G b ∨ (h.size ≤ b ∧ b < h'.size)
theorem gx_l : ∀ b, G b → GX G h h' b := fun _ hb => Or.inl hb
theorem EvS.more (hE : EvS G h cb e L E) (he : Ext [] h h') : EvS (GX G h h') h' cb e L E := by
  have h0 := hE.ext0 he
  have hz := he.sz
  obtain ⟨h1, h2, ⟨mb, ob, a1, a2, a3, a4, a5, a6⟩, h4⟩ := hE
  obtain ⟨mb', ob', b1, b2, b3, b4, b5, b6⟩ := h0.ed
  have : mb' = mb ∧ ob' = ob := by
    have := he.get a1 (by simp)
    unfold Blk at b1
    rw [this] at b1
    simp at b1
    exact ⟨b1.1.symm, b1.2.symm⟩
  obtain ⟨rfl, rfl⟩ := this
  have l1 := a2.lt
  have l2 := a3.lt
  have l3 := h2.lt
  have l4 := blk_lt a1
  refine ⟨fun b hb => ?_, h0.cl, ⟨mb', ob', b1, b2, b3, b4, ?_, ?_⟩, ?_, ?_⟩
  · rcases hb with hb | hb
    · have := h1 b hb; omega
    · exact hb.2
  · rintro (g | g)
    · exact a5 g
    · omega
  · rintro (g | g)
    · exact a6 g
    · omega
  · rintro (g | g)
    · exact h4.1 g
    · omega
  · rintro (g | g)
    · exact h4.2 g
    · omega
theorem EvS.ptr (hE : EvS G h cb e L E) : rd h (Addr.add ⟨e, 0, none⟩ 0) = some (.pointer (some ⟨cb, 0, none⟩)) := by
  obtain ⟨mb, ob, a1, _⟩ := hE.ed
  rw [addr_mk, rd_blk a1]
  rfl
theorem none_s (hE : EvS G h cb e L E) (hQ : Q [.bool false] h) : S_edge_Edges_none (some ⟨e, 0, none⟩) h Q := by
  refine O_edge_Edges_none _ ?_
  unfold F_edge_Edges_none
  rw [if_neg (by simp)]
  simp only [nilW_some]
  exact ⟨_, hE.ptr, hQ⟩
theorem noneN_s (hQ : Q [.bool true] h) : S_edge_Edges_none none h Q := by
  refine O_edge_Edges_none _ ?_
  unfold F_edge_Edges_none
  rw [if_pos (by rfl)]
  exact hQ
theorem noneO_s {b : Nat} {v w : Value} (hb : Blk h b #[.pointer none, v, w] T_edge_Edges) (hQ : Q [.bool true] h) : S_edge_Edges_none (some ⟨b, 0, none⟩) h Q := by
  refine O_edge_Edges_none _ ?_
  unfold F_edge_Edges_none
  rw [if_neg (by simp)]
  simp only [nilW_some]
  exact ⟨none, by rw [addr_mk, rd_blk hb]; rfl, hQ⟩
theorem has_pair {m : Nat} {l : List (Int × Int)} (hm : IsMap ekP evU h m (tP l)) (x : Int × Int) : ∃ es, mapAt h (some m) es ∧ KeysLike (ekP x) es ∧ ∃ n : Int, mgetD (ekP x) es (.int .i64 0) = .int .i64 n ∧ decide (n > 0) = decide (x ∈ l) ∧ (x ∉ l → n = 0) := by
  obtain ⟨es, h1, h2⟩ := hm.mapAt
  refine ⟨es, h1, keysLike_ents h2 x, ?_⟩
  rw [mgetD_ents h2 x, afind_tP]
  by_cases hx : x ∈ l
  · rw [if_pos hx]; exact ⟨1, rfl, by simp [hx], fun hn => absurd hx hn⟩
  · rw [if_neg hx]; exact ⟨0, rfl, by simp [hx], fun _ => rfl⟩
theorem Add_s (hE : EvS G h cb e L E) (a b : Int) (hQ : ∀ h', EvS G h' cb e L (addE L E a b) → KG G h h' → Q [.bool (decide (besideL L a b = true ∧ (a, b) ∉ E.m))] h') : S_edge_Edges_Add (some ⟨e, 0, none⟩) a b h Q := by
  refine O_edge_Edges_Add _ _ _ ?_
  unfold F_edge_Edges_Add
  intro J hJ
  simp only [nilW_some] at hJ
  have jT : ¬ (besideL L a b = true ∧ (a, b) ∉ E.m) → J [.bool true] h := fun hn => by
    refine hJ _ _ ?_
    rw [if_pos rfl]
    have := hQ h
    unfold addE at this
    rw [if_neg hn, decide_eq_false hn] at this
    exact this hE (.refl _ _)
  refine none_s hE ⟨_, rfl, ?_⟩
  rw [if_neg (by decide)]
  simp only [nilW_some]
  refine ⟨_, hE.ptr, ?_⟩
  refine Beside_s hE.cl a b ⟨_, rfl, ?_⟩
  by_cases hb : besideL L a b = true
  · rw [hb, if_neg (by decide)]
    obtain ⟨g1, g2, ⟨mb, ob, a1, a2, a3, a4, a5, a6⟩, g4⟩ := hE
    have rm : rd h (Addr.add ⟨e, 0, none⟩ 1) = some (.map (some mb)) := by rw [addr_mk, rd_blk a1]; rfl
    obtain ⟨es, k1, k2, n, k3, k4, k5⟩ := has_pair a2 (a, b)
    refine ⟨_, rm, es, k1, k2, n, k3, ?_⟩
    rw [k4]
    by_cases hm : (a, b) ∈ E.m
    · rw [decide_eq_true hm]
      exact jT fun hh => hh.2 hm
    · rw [decide_eq_false hm]
      refine hJ _ _ ?_
      rw [if_neg (by decide)]
      have hn0 := k5 hm
      subst hn0
      refine ⟨_, rm, es, k1, k2, 0, k3, ?_⟩
      obtain ⟨es2, c2, q1, q2, q3, q4⟩ := a2.bump (k := (a, b)) (by rw [afind_tP, if_neg hm]) (.int .i64 0) ()
      refine ⟨mb, es2, c2, rfl, q1, q2, 0, q3, setI q1 fun g1' s1 b1 e1 => ?_⟩
      obtain ⟨⟨es3, r1, r2, r3⟩, es4, c4, es5, r4, r5, r6⟩ := q4 g1' b1
      refine ⟨⟨es3, r1, r2, r3 _⟩, mb, es4, c4, es5, rfl, r4, r5, setI r4 fun g2' s2 b2 e2 => ?_⟩
      have hm2 := r6 g2' b2
      rw [aput_tP hm] at hm2
      have n1 := map_ne_cells a2 a1
      obtain ⟨c, c1, _⟩ := g2.cells
      have n2 := map_ne_cells a2 c1
      have e12 : Ext [mb] h g2' := e1.trans e2 fun b hb _ => hb
      have := hQ g2'
      unfold addE at this
      rw [if_pos ⟨hb, hm⟩, decide_eq_true ⟨hb, hm⟩] at this
      have hz := e12.sz
      exact this ⟨fun b hb => by have := g1 b hb; omega, g2.ext e12 (by simp; exact n2), ⟨mb, ob, e12.get a1 (by simp; exact n1), hm2, a3.ext e12 (by simp; exact fun e => a4 e.symm), a4, a5, a6⟩, g4⟩ (kg_ext e12 g1 (by simp; exact a5))
  · have hb' : besideL L a b = false := by simpa using hb
    rw [hb', if_pos (by decide)]
    exact jT fun hh => hb hh.1
theorem old_get {m : Nat} {T : List (Int × Int)} (hm : IsMap encI encI h m T) (x : Int) : ∃ es, mapAt h (some m) es ∧ KeysLike (.int .i64 x) es ∧ mgetD (.int .i64 x) es (.int .i64 0) = .int .i64 ((afind T x).getD 0) := by
  obtain ⟨es, h1, h2⟩ := hm.mapAt
  refine ⟨es, h1, keysLike_ents h2 x, ?_⟩
  rw [mgetD_ents h2 x]
  cases afind T x <;> rfl
theorem EvS.oldR (hE : EvS G h cb e L E) (x : Int) : ∃ ob, rd h (Addr.add ⟨e, 0, none⟩ 2) = some (.map (some ob)) ∧ ∃ es, mapAt h (some ob) es ∧ KeysLike (.int .i64 x) es ∧ mgetD (.int .i64 x) es (.int .i64 0) = .int .i64 (oldE E x) := by
  obtain ⟨mb, ob, a1, a2, a3, _⟩ := hE.ed
  obtain ⟨es, k1, k2, k3⟩ := old_get a3 x
  exact ⟨ob, by rw [addr_mk, rd_blk a1]; rfl, es, k1, k2, k3⟩
theorem Old14_s (hE : EvS G h cb e L E) (x : Int) (hQ : Q [.int .i64 (oldE E x)] h) : S_edge_Edges_Old (some ⟨e, 0, none⟩) x h Q := by
  refine O_edge_Edges_Old _ _ ?_
  unfold F_edge_Edges_Old
  refine none_s hE ⟨_, rfl, ?_⟩
  rw [if_neg (by decide)]
  simp only [nilW_some]
  obtain ⟨ob, r1, es, k1, k2, k3⟩ := hE.oldR x
  exact ⟨_, r1, es, k1, k2, _, k3, hQ⟩
theorem OldIn_s (hE : EvS G h cb e L E) (b csn : Int) (hQ : ∀ h', EvS G h' cb e L (oldInE L E b csn) → KG G h h' → Q [.bool (decide (oldOk L E b csn))] h') : S_edge_Edges_OldIn (some ⟨e, 0, none⟩) b csn h Q := by
  refine O_edge_Edges_OldIn _ _ _ ?_
  unfold F_edge_Edges_OldIn
  intro J hJ
  simp only [nilW_some] at hJ
  have jT : ∀ g, Ext [] h g → ¬ oldOk L E b csn → J [.bool true] g := fun g eg hn => by
    refine hJ _ _ ?_
    rw [if_pos rfl]
    have := hQ g
    unfold oldInE at this
    rw [if_neg hn, decide_eq_false hn] at this
    exact this (hE.ext0 eg) (kg_ext0 eg hE.lt)
  refine none_s hE ⟨_, rfl, ?_⟩
  rw [if_neg (by decide)]
  simp only [nilW_some]
  refine ⟨_, hE.ptr, ?_⟩
  refine State_s hE.cl b fun h1 e1 => ⟨_, rfl, ?_⟩
  have hE1 := hE.ext0 e1
  by_cases q1 : (txL L b).state = 0
  · rw [if_pos (by simpa using q1)]
    exact jT h1 e1 fun hh => hh.1 q1
  rw [if_neg (by simpa using q1)]
  refine ⟨_, hE1.ptr, ?_⟩
  refine State_s hE1.cl b fun h2 e2 => ⟨_, rfl, ?_⟩
  have hE2 := hE1.ext0 e2
  have e12 := e1.trans0 e2
  by_cases q2 : (txL L b).state = 3
  · rw [if_pos (by simpa using q2)]
    exact jT h2 e12 fun hh => hh.2.1 q2
  rw [if_neg (by simpa using q2)]
  refine ⟨_, hE2.ptr, ?_⟩
  refine Snapshot_s hE2.cl b fun h3 e3 => ⟨_, rfl, ?_⟩
  have hE3 := hE2.ext0 e3
  have e13 := e12.trans0 e3
  by_cases q3 : csn ≤ (txL L b).snap
  · rw [if_pos (by simpa using q3)]
    exact jT h3 e13 fun hh => hh.2.2.1 q3
  rw [if_neg (by simpa using q3)]
  obtain ⟨ob, r1, es, k1, k2, k3⟩ := hE3.oldR b
  refine ⟨_, r1, es, k1, k2, _, k3, ?_⟩
  by_cases q4 : csn ≤ oldE E b
  · rw [decide_eq_true q4]
    exact jT h3 e13 fun hh => hh.2.2.2 q4
  rw [decide_eq_false q4]
  refine hJ _ _ ?_
  rw [if_neg (by decide)]
  have hok : oldOk L E b csn := ⟨q1, q2, q3, q4⟩
  obtain ⟨g1, g2, ⟨mb, ob', a1, a2, a3, a4, a5, a6⟩, g4⟩ := hE3
  obtain ⟨es2, c2, p1, p2, p3⟩ := a3.put b csn
  refine ⟨some ob', by rw [addr_mk, rd_blk a1]; rfl, ob', es2, c2, rfl, p1, p2, setI p1 fun h4 s4 b4 e4 => ?_⟩
  have n1 := map_ne_cells a3 a1
  obtain ⟨c, c1, _⟩ := g2.cells
  have n2 := map_ne_cells a3 c1
  have := hQ h4
  unfold oldInE at this
  rw [if_pos hok, decide_eq_true hok] at this
  have hz := e4.sz
  refine this ⟨fun b hb => by have := g1 b hb; omega, g2.ext e4 (by simp; exact n2), ⟨mb, ob', e4.get a1 (by simp; exact n1), a2.ext e4 (by simp; exact a4), p3 h4 b4, a4, a5, a6⟩, g4⟩ ((kg_ext0 e13 hE.lt).trans (kg_ext e4 g1 (by simp; exact a6)))
theorem cellP {g : Hp} {x : Int × Int} {K : Hp → Prop} {n22 n24 : Int} (hk : ekP x = Value.agg #[(Value.int .i64 n22), (Value.int .i64 n24)])
    (H : ∀ g', Ext [] g g' → g'.size = g.size + 1 → Blk g' g.size (encP x).toArray T_2_int → K g') :
    wth (Array.push g (Obj.cells #[(Value.int .i64 (0 : Int)), (Value.int .i64 (0 : Int))] T_2_int)) fun h28 =>
        stOk h28 (Addr.mk (Array.size g) 0 none) 2 ∧ wth (wrs h28 (Addr.mk (Array.size g) 0 none) 0 [(Value.int .i64 n22), (Value.int .i64 n24)]) K := by
  refine newI fun h1 s1 b1 e1 => ?_
  refine st_blk b1 (by simp) fun h2 s2 b2 e2 => ?_
  refine H h2 (e1.trans e2 fun b hb hlt => by simp at hb; omega) (by omega) ?_
  have e : (encP x).toArray = #[(Value.int .i64 n22), (Value.int .i64 n24)] := Value.agg.inj hk
  rw [e]
  exact b2
theorem drop1_s {b : Nat} {x : Int} (q : Int × Int) (hb : Blk h b #[.int .i64 x] T_int) (hQ : ∀ h', Ext [] h h' → Q [.bool (touchP x q)] h') (v : Int) : Fn PP 36 ((#[] ++ #[ekP q, .int .i64 v]) ++ #[.pointer (some ⟨b, 0, none⟩)]) h Q := by
  refine O_edge_Edges_Drop_1 _ _ _ _ ?_
  unfold F_edge_Edges_Drop_1
  refine newI fun h1 s1 b1 e1 => ?_
  have hb1 := e1.get hb (by simp)
  have := hQ h1 e1
  unfold touchP at this
  refine ⟨by decide, by decide, q.1, by rw [addr_mk, rd_blk b1]; rfl, x, by rw [rd_blk hb1]; rfl, ?_⟩
  by_cases h1' : q.1 = x
  · rw [if_pos (by simpa using h1')]
    simpa [h1'] using this
  · rw [if_neg (by simpa using h1')]
    refine ⟨by decide, by decide, q.2, by rw [addr_mk, rd_blk b1]; rfl, x, by rw [rd_blk hb1]; rfl, ?_⟩
    have e : (q.2 == x) = decide (q.2 = x) := by rw [Bool.eq_iff_iff]; simp
    rw [e]
    simpa [h1'] using this
theorem DeleteFunc_s {m : Nat} {l : List (Int × Int)} {f : Nat} {cs : Array Value} (hm : IsMap ekP evU h m (tP l)) (hn : l.Nodup) (d : Int × Int → Bool)
    (hf : ∀ (q : Int × Int) (g : Hp) (K : List Value → Hp → Prop), Ext [m] h g → (∀ g', Ext [] g g' → K [.bool (d q)] g') → Fn PP f ((#[] ++ #[ekP q, .int .i64 1]) ++ cs) g K)
    (hQ : ∀ h', IsMap ekP evU h' m (tP (l.filter fun q => !d q)) → Ext [m] h h' → Q [] h') : S_maps_DeleteFunc_map_2_int_int_2_int_int (some m) f cs h Q := by
  refine O_maps_DeleteFunc_map_2_int_int_2_int_int _ _ _ ?_
  unfold F_maps_DeleteFunc_map_2_int_int_2_int_int
  obtain ⟨o, ho, hR⟩ := rangeD_start hm
  have hml := hm.lt
  refine ⟨o, ho, newI fun h2 s2 b2 e2 => ?_⟩
  intro X hX
  refine rangeDel (ek := ekP) (ev := evU) (T := tP l) (m := m) (fun q => d q.1) (by rw [tP_keys]; exact hn) hX (fun g => Ext [m] h g ∧ h2.size ≤ g.size) ?_ ?_ h2 ⟨e2.mono (by simp), Nat.le_refl _⟩ (hR b2 e2)
  · rintro g ⟨eg, zg⟩ hmg
    rw [filter_tP] at hmg
    exact hQ g hmg eg
  · rintro p g e g' T1 done ⟨eg, zg⟩ hp hk hv f1 u1 hr hlt hnext
    obtain ⟨q, _, rfl⟩ := List.mem_map.1 hp
    have eg' : Ext [m] h g' := eg.trans f1 (by intro b hb hlt; simp at hb; omega)
    refine ⟨_, _, hk, _, hv, ?_⟩
    refine cellP (x := q) rfl fun g2 e3 z3 b3 => ?_
    have r : ∀ i, rd g2 (Addr.add (Addr.mk g'.size 0 none) i) = (encP q)[i]? := fun i => by rw [addr_mk, rd_blk b3, Nat.zero_add]; simp
    refine ⟨_, r 0, _, r 1, ?_⟩
    refine hf q g2 _ (eg'.trans0 e3) fun g3 e4 => ⟨_, rfl, ?_⟩
    have e34 := e3.trans0 e4
    have b4 := e4.get b3 (by simp)
    have hr3 := hr.ext e34 (by simp) (by simp)
    have zz := e34.sz
    cases hd : d q with
    | false =>
      rw [if_neg (by decide)]
      refine hnext g3 ⟨eg'.trans0 e34, by omega⟩ ?_
      rw [if_neg (by simp [hd])]
      exact hr3
    | true =>
      rw [if_pos rfl]
      have r2 : ∀ i, rd g3 (Addr.add (Addr.mk g'.size 0 none) i) = (encP q)[i]? := fun i => by rw [addr_mk, rd_blk b4, Nat.zero_add]; simp
      obtain ⟨es, c, p1, p2, p3⟩ := hr3.del q
      refine ⟨_, r2 0, _, r2 1, m, es, c, rfl, p1, p2, setI p1 fun g4 s4 b5 e5 => ?_⟩
      refine hnext g4 ⟨(eg'.trans0 e34).trans e5 fun b hb _ => hb, by omega⟩ ?_
      rw [if_pos hd]
      exact p3 g4 e5 b5
theorem Drop14_s {N : Nat} (hE : EvS G h cb e L E) (hok : EOk N E) (x : Int) (hQ : ∀ h', EvS G h' cb e L (dropE E x) → KG G h h' → Q [] h') : S_edge_Edges_Drop (some ⟨e, 0, none⟩) x h Q := by
  refine O_edge_Edges_Drop _ _ ?_
  unfold F_edge_Edges_Drop
  refine newI fun h1 s1 b1 e1 => ?_
  have hE1 := hE.ext0 e1
  refine none_s hE1 ⟨_, rfl, ?_⟩
  rw [if_neg (by decide)]
  simp only [nilW_some]
  obtain ⟨g1, g2, ⟨mb, ob, a1, a2, a3, a4, a5, a6⟩, g4⟩ := hE1
  obtain ⟨mb0, ob0, a10, a20, a30, _⟩ := hE.ed
  have hmb : mb < h.size := by
    have := e1.get a10 (by simp)
    unfold Blk at a1
    rw [this] at a1
    simp at a1
    rw [← a1.1]
    exact a20.lt
  have hob : ob < h.size := by
    have := e1.get a10 (by simp)
    unfold Blk at a1
    rw [this] at a1
    simp at a1
    rw [← a1.2]
    exact a30.lt
  refine ⟨some mb, by rw [addr_mk, rd_blk a1]; rfl, ?_⟩
  refine DeleteFunc_s a2 hok.nd (touchP x) (fun q g K eg hK => drop1_s q (eg.get b1 (by simp; omega)) hK 1) fun h2 hm2 e2 => ⟨rfl, ?_⟩
  have n1 := map_ne_cells a2 a1
  obtain ⟨c, c1, _⟩ := g2.cells
  have n2 := map_ne_cells a2 c1
  have n3 := map_ne_cells a3 a1
  have n4 := map_ne_cells a3 c1
  have a1' := e2.get a1 (by simp; exact n1)
  have a3' := a3.ext e2 (by simp; exact fun e => a4 e.symm)
  refine ⟨some ob, by rw [addr_mk, rd_blk a1']; rfl, x, by rw [rd_blk (e2.get b1 (by simp; omega))]; rfl, ?_⟩
  obtain ⟨es2, c2, p1, p2, p3⟩ := a3'.del x
  refine ⟨ob, es2, c2, rfl, p1, p2, setI p1 fun h3 s3 b3 e3 => ?_⟩
  have z2 := e2.sz
  have z3 := e3.sz
  refine hQ h3 ⟨fun b hb => by have := g1 b hb; omega, (g2.ext e2 (by simp; exact n2)).ext e3 (by simp; exact n4), ⟨mb, ob, e3.get a1' (by simp; exact n3), hm2.ext e3 (by simp; exact a4), p3 h3 b3, a4, a5, a6⟩, g4⟩ (((kg_ext0 e1 hE.lt).trans (kg_ext e2 g1 (by simp; exact a5))).trans (kg_ext e3 (fun b hb => by have := g1 b hb; omega) (by simp; exact a6)))
end
end Go.Lift

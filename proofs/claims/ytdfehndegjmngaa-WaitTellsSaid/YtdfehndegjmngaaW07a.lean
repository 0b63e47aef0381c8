/- Who waits for whom: the edges, the graph. -/
import Derived.Test.YtdfehndegjmngaaLvT
import Derived.Test.YtdfehndegjmngaaLf07
set_option linter.unusedSimpArgs false
set_option linter.unusedVariables false
namespace Go.Lift
open Go Go.Proofs
set_option maxRecDepth 100000
abbrev Edge := Int × Int
abbrev encI (n : Int) : Value := .int .i64 n
abbrev encIL (n : Int) : List Value := [.int .i64 n]
theorem encIL_len (n : Int) : (encIL n).length = 1 := rfl
theorem encIL_one (n : Int) : ∀ v ∈ encIL n, oneCell v = true := by intro v hv; simp at hv; subst hv; rfl
abbrev encE2 (e : Edge) : List Value := [.int .i64 e.1, .int .i64 e.2]
theorem encE2_len (e : Edge) : (encE2 e).length = 2 := rfl
theorem encE2_one (e : Edge) : ∀ v ∈ encE2 e, oneCell v = true := by intro v hv; simp at hv; rcases hv with rfl | rfl <;> rfl
theorem zcInt : (zc PP T_int).size = 1 := by kernel_rfl
theorem zcE2 : (zc PP T_2_int).size = 2 := by kernel_rfl
theorem ne_cells {h : Hp} {m b : Nat} {es : Array MapEntry} {k : Nat} {c : Array Value} {T : TypeId} (h1 : h[m]? = some (.map es k)) (h2 : Blk h b c T) : m ≠ b := by
  intro e
  subst e
  have h3 : h[m]? = some (.cells c T (0, 0)) := h2
  rw [h1] at h3
  cases h3
theorem rdI {h : Hp} {s : Sl} {xs : List Int} (hs : Reads 1 encIL h s xs) {i : Nat} (hi : i < xs.length) : ∃ a, s.a = some a ∧ rd h (Addr.add a (i * 1)) = some (.int .i64 xs[i]) := by
  obtain ⟨a, h1, h2⟩ := hs.rd encIL_len hi
  exact ⟨a, h1, by simpa using h2 0 (by omega)⟩
theorem rdE {h : Hp} {s : Sl} {xs : List Edge} (hs : Reads 2 encE2 h s xs) {i : Nat} (hi : i < xs.length) : ∃ a, s.a = some a ∧ rd h (Addr.add (Addr.add a (i * 2)) 0) = some (.int .i64 xs[i].1) ∧ rd h (Addr.add (Addr.add a (i * 2)) 1) = some (.int .i64 xs[i].2) := by
  obtain ⟨a, h1, h2⟩ := hs.rd encE2_len hi
  exact ⟨a, h1, by rw [addr_add_add]; simpa using h2 0 (by omega), by rw [addr_add_add]; simpa using h2 1 (by omega)⟩
/-- Whom one waits for, in the order of the edges. -/
def tg (E : List Edge) (k : Int) : List Int := (E.filter fun e => e.1 == k).map Prod.snd
theorem mem_tg {E : List Edge} {k v : Int} : v ∈ tg E k ↔ (k, v) ∈ E := by
  unfold tg
  rw [List.mem_map]
  constructor
  · rintro ⟨⟨a, b⟩, h, rfl⟩
    rw [List.mem_filter] at h
    have : a = k := by simpa using h.2
    subst this
    exact h.1
  · intro h
    exact ⟨(k, v), List.mem_filter.2 ⟨h, by simp⟩, rfl⟩
theorem tg_snoc (E : List Edge) (e : Edge) (k : Int) : tg (E ++ [e]) k = if e.1 = k then tg E k ++ [e.2] else tg E k := by
  unfold tg
  rw [List.filter_append, List.map_append]
  by_cases h : e.1 = k
  · rw [if_pos h, List.filter_cons_of_pos (by simp [h])]; simp
  · rw [if_neg h, List.filter_cons_of_neg (by simp [h])]; simp
theorem tg_len (E : List Edge) (k : Int) : (tg E k).length ≤ E.length := by
  unfold tg
  rw [List.length_map]
  exact List.length_filter_le _ _
abbrev evS (s : Sl) : Value := .slice s.a s.n s.c
structure GraphAt (lo : Nat) (h : Hp) (m : Nat) (C : List (Int × (Sl × List Int))) (E : List Edge) : Prop where
  map : IsMap encI evS h m (amap Prod.fst C)
  le : lo ≤ m
  nd : (C.map Prod.fst).Nodup
  own : ∀ k p, afind C k = some p → Own T_int 1 encIL lo h p.1 p.2
  sep : ∀ j k p q, j ≠ k → afind C j = some p → afind C k = some q → ∀ b ∈ sBlk p.1, b ∉ sBlk q.1
  val : ∀ k, (afind C k).map Prod.snd = if tg E k = [] then none else some (tg E k)
  keys : ∀ k ∈ C.map Prod.fst, ∃ v, (k, v) ∈ E
theorem IsMap.blk {K V : Type} {ek : K → Value} {ev : V → Value} {h : Hp} {m : Nat} {T : List (K × V)} (hm : IsMap ek ev h m T) : ∃ es c, h[m]? = some (.map es c) := by
  obtain ⟨es, c, h1, _⟩ := hm
  exact ⟨es, c, h1⟩
theorem own_ltI {T : TypeId} {α : Type} {sz lo : Nat} {h : Hp} {enc : α → List Value} {s : Sl} {xs : List α} (ho : Own T sz enc lo h s xs) : ∀ b ∈ sBlk s, lo ≤ b ∧ b < h.size := by
  intro b hb
  refine ⟨ho.blk b hb, ?_⟩
  obtain ⟨a, ha, hab⟩ := mem_sBlk.1 hb
  obtain ⟨b', c', q1, _, q3, _⟩ := ho.2.2 a ha
  have := blk_lt q3
  rw [q1] at hab
  simp at hab
  omega
/-- What the graph's memory is made of. -/
def GFp (m : Nat) (C : List (Int × (Sl × List Int))) (b : Nat) : Prop := b = m ∨ ∃ k p, afind C k = some p ∧ b ∈ sBlk p.1
theorem GraphAt.extF {lo : Nat} {h h' : Hp} {m : Nat} {C : List (Int × (Sl × List Int))} {E : List Edge} {S : List Nat} (hg : GraphAt lo h m C E) (he : Ext S h h') (hS : ∀ b, GFp m C b → b ∉ S) : GraphAt lo h' m C E :=
  ⟨hg.map.ext he (hS _ (Or.inl rfl)), hg.le, hg.nd, fun k p hk => (hg.own k p hk).ext he fun a ha => hS _ (Or.inr ⟨k, p, hk, mem_sBlk.2 ⟨a, ha, rfl⟩⟩), hg.sep, hg.val, hg.keys⟩
theorem GraphAt.ext0 {lo : Nat} {h h' : Hp} {m : Nat} {C : List (Int × (Sl × List Int))} {E : List Edge} (hg : GraphAt lo h m C E) (he : Ext [] h h') : GraphAt lo h' m C E := hg.extF he fun b _ => by simp
theorem gfp_lt {lo : Nat} {h : Hp} {m : Nat} {C : List (Int × (Sl × List Int))} {E : List Edge} (hg : GraphAt lo h m C E) {b : Nat} (hb : GFp m C b) : lo ≤ b ∧ b < h.size := by
  rcases hb with rfl | ⟨k, p, hk, hb⟩
  · exact ⟨hg.le, hg.map.lt⟩
  · exact own_ltI (hg.own k p hk) b hb
section
variable {lo : Nat} {h : Hp} {Q : List Value → Hp → Prop}
theorem graph_s {s : Sl} {E : List Edge} (hs : Reads 2 encE2 h s E) (hl : E.length ≤ 2 ^ 20) (hQ : ∀ h' C, GraphAt h.size h' h.size C E → Ext [] h h' → Q [.map (some h.size)] h') : S_wait_graph s h Q := by
  refine O_wait_graph _ ?_
  unfold F_wait_graph
  have hn := hs.1
  refine newI fun h1 s1 b1 e1 => ?_
  intro X hX
  have key : ∀ d i g C, d + i = E.length → Ext [] h g → GraphAt h.size g h.size C (E.take i) → X [.int .i64 (i : Int)] g := by
    intro d
    induction d with
    | zero =>
      intro i g C hi e hg
      refine hX _ _ ?_
      rw [if_neg (by simp; omega)]
      rw [List.take_of_length_le (by omega)] at hg
      exact hQ g C hg e
    | succ d ih =>
      intro i g C hi e hg
      refine hX _ _ ?_
      rw [if_pos (by simp; omega)]
      have hil : i < E.length := by omega
      obtain ⟨a, w1, w2, w3⟩ := rdE (hs.ext0 e) (i := i) hil
      rw [w1]
      simp only [nilW_some, Int.toNat_natCast]
      refine ⟨by omega, by omega, _, w2, _, w3, ?_⟩
      refine varI rfl rfl fun g1 t1 c1 f1 => ?_
      have zg := e.sz
      refine ⟨by omega, by omega, E[i].1, by simp [rd_blk c1], by omega, by omega, E[i].1, by simp [rd_blk c1], ?_⟩
      have hg1 := hg.ext0 f1
      obtain ⟨es, hm, hents⟩ := hg1.map.mapAt
      have hlen : ((E.take i).length : Nat) ≤ 2 ^ 20 := by rw [List.length_take]; omega
      have hone : ∃ p : Sl × List Int, mgetD (.int .i64 E[i].1) es (.slice none 0 0) = evS p.1 ∧ Own T_int 1 encIL h.size g1 p.1 p.2 ∧ p.2 = tg (E.take i) E[i].1 ∧ (∀ b ∈ sBlk p.1, GFp h.size C b) ∧ ∀ k q, k ≠ E[i].1 → afind C k = some q → ∀ b ∈ sBlk q.1, b ∉ sBlk p.1 := by
        rw [mgetD_ents hents E[i].1, afind_amap]
        have hv := hg1.val E[i].1
        cases hf : afind C E[i].1 with
        | none =>
          rw [hf] at hv
          have h0 : tg (E.take i) E[i].1 = [] := by
            by_cases h0 : tg (E.take i) E[i].1 = []
            · exact h0
            · rw [if_neg h0] at hv; cases hv
          exact ⟨(⟨none, 0, 0⟩, []), rfl, Own.nil _ _, h0.symm, by simp [sBlk], by simp [sBlk]⟩
        | some p =>
          rw [hf] at hv
          by_cases h0 : tg (E.take i) E[i].1 = []
          · rw [if_pos h0] at hv; cases hv
          · rw [if_neg h0] at hv
            exact ⟨p, rfl, hg1.own _ _ hf, Option.some.inj hv, fun b hb => Or.inr ⟨_, _, hf, hb⟩, fun k q hk hq => hg1.sep _ _ _ _ hk hq hf⟩
      obtain ⟨p, hp1, hp2, hp3, hp4, hp5⟩ := hone
      refine ⟨es, hm, keysLike_ents hents _, p.1, hp1, by omega, by omega, E[i].2, by simp [rd_blk c1], ?_⟩
      have htl := tg_len (E.take i) E[i].1
      refine newI fun g2 t2 c2 f2 => ?_
      have hg2 := hg1.ext0 f2
      have c12 := f2.get c1 (by simp)
      have hm2 : mapAt g2 (some h.size) es := by
        rcases hm with ⟨h1, _⟩ | ⟨m', c', h1, h2⟩
        · cases h1
        · exact Or.inr ⟨m', c', h1, f2.get h2 (by simp)⟩
      refine ⟨hm2, by simp [rd_blk c12], by simp [rd_blk c12], ?_⟩
      have hp22 := hp2.ext0 f2
      have hpn := hp22.1
      rw [hp3] at hpn
      refine ⟨[.int .i64 E[i].2], by
        have := cellsAt_blk c2 (o := 0) (n := 1 * 1) (by simp)
        simpa using this, ?_⟩
      refine app_own (ys := [E[i].2]) hp22 zcInt encIL_len (fun x _ => encIL_one x) rfl rfl (by simp only; omega) (by simp only; omega) (by omega) fun s' g3 ho3 f3 hn3 hb3 => ?_
      have hpb := own_ltI hp22
      have c13 := f3.get c12 (fun hm => by
        have := gfp_lt hg (hp4 _ hm)
        omega)
      refine ⟨by simp [rd_blk c13], ?_⟩
      have hm3 : IsMap encI evS g3 h.size (amap Prod.fst C) := hg2.map.ext f3 (fun hm => by
        obtain ⟨es', c', q1⟩ := hg2.map.blk
        obtain ⟨a', ha', hab⟩ := mem_sBlk.1 hm
        obtain ⟨b', c'', y1, y2, y3, _⟩ := hp22.2.2 a' ha'
        rw [y1] at hab
        exact ne_cells q1 y3 hab.symm)
      obtain ⟨es4, c4, q1, q2, q3⟩ := hm3.put E[i].1 s'
      refine ⟨h.size, es4, c4, rfl, q1, q2, ?_⟩
      refine setI q1 fun g4 t4 k4 f4 => ?_
      have hm4 := q3 g4 k4
      rw [wrap64 (by omega) (by omega)]
      have hs'lt := own_ltI ho3
      have ho4 : Own T_int 1 encIL h.size g4 s' (p.2 ++ [E[i].2]) := ho3.ext f4 fun a ha hmem => by
        simp at hmem
        obtain ⟨b', c', y1, y2, y3, _⟩ := ho3.2.2 a ha
        rw [y1] at hmem
        simp at hmem
        subst hmem
        exact ne_cells q1 y3 rfl
      have hold : ∀ k q, k ≠ E[i].1 → afind C k = some q → Own T_int 1 encIL h.size g4 q.1 q.2 := by
        intro k q hk hq
        refine ((hg2.own k q hq).ext f3 fun a ha hmem => hp5 k q hk hq _ (mem_sBlk.2 ⟨a, ha, rfl⟩) hmem).ext f4 fun a ha hmem => ?_
        simp at hmem
        have ho3' := (hg2.own k q hq).ext f3 fun a ha hmem => hp5 k q hk hq _ (mem_sBlk.2 ⟨a, ha, rfl⟩) hmem
        obtain ⟨b', c', y1, y2, y3, _⟩ := ho3'.2.2 a ha
        rw [y1] at hmem
        simp at hmem
        subst hmem
        exact ne_cells q1 y3 rfl
      have e4 : Ext [] h g4 := (((e.trans0 f1).trans0 f2).trans f3 (fun b hb hlt => by have := hpb b hb; omega)).trans f4 (by intro b hb hlt; simp at hb; omega)
      have htk : E.take (i + 1) = E.take i ++ [E[i]] := by rw [List.take_add_one, List.getElem?_eq_getElem hil]; rfl
      have hfresh : ∀ k q, k ≠ E[i].1 → afind C k = some q → ∀ b ∈ sBlk q.1, b ∉ sBlk s' := by
        intro k q hk hq b hb hb'
        rcases hb3 b hb' with g5 | g5
        · exact hp5 k q hk hq b hb g5
        · have := own_ltI (hg2.own k q hq) b hb
          omega
      have hnew : GraphAt h.size g4 h.size (aput C E[i].1 (s', p.2 ++ [E[i].2])) (E.take (i + 1)) := by
        refine ⟨?_, hg.le, aput_nodup hg.nd _ _, ?_, ?_, ?_, ?_⟩
        · have := aput_amap Prod.fst C E[i].1 (s', p.2 ++ [E[i].2])
          rw [← this]
          exact hm4
        · intro k q hq
          rw [afind_aput] at hq
          by_cases hk : k = E[i].1
          · rw [if_pos hk] at hq
            cases hq
            exact ho4
          · rw [if_neg hk] at hq
            exact hold k q hk hq
        · intro j k q r hjk hq hr b hb hb'
          rw [afind_aput] at hq hr
          by_cases hj : j = E[i].1
          · rw [if_pos hj] at hq
            cases hq
            rw [if_neg (fun g => hjk (by rw [hj, g]))] at hr
            exact hfresh k r (fun g => hjk (by rw [hj, g])) hr b hb' hb
          · rw [if_neg hj] at hq
            by_cases hk : k = E[i].1
            · rw [if_pos hk] at hr
              cases hr
              exact hfresh j q hj hq b hb hb'
            · rw [if_neg hk] at hr
              exact hg.sep j k q r hjk hq hr b hb hb'
        · intro k
          rw [afind_aput, htk]
          have hts := tg_snoc (E.take i) E[i] k
          by_cases hk : k = E[i].1
          · subst hk
            rw [if_pos rfl] at hts
            rw [if_pos rfl, hts, if_neg (by simp), ← hp3]
            rfl
          · rw [if_neg (fun g => hk g.symm)] at hts
            rw [if_neg hk, hts]
            exact hg.val k
        · intro k hk
          rw [keys_aput] at hk
          have hk' : k ∈ C.map Prod.fst ∨ k = E[i].1 := by
            split at hk
            · exact Or.inl hk
            · simpa using hk
          rw [htk]
          rcases hk' with g5 | g5
          · obtain ⟨v, hv⟩ := hg.keys k g5
            exact ⟨v, List.mem_append_left _ hv⟩
          · exact ⟨E[i].2, by rw [g5]; exact List.mem_append_right _ (by simp)⟩
      have := ih (i + 1) g4 _ (by omega) e4 hnew
      simpa using this
  have := key E.length 0 h1 [] (by omega) e1 ⟨⟨#[], 0, b1, rfl, Born.nil 0⟩, Nat.le_refl _, by simp, fun k p hk => (by cases hk), fun j k p q _ hp => (by cases hp), fun k => (by simp [afind, tg]), by simp⟩
  simpa using this
end
end Go.Lift

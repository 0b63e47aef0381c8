/- Names: a version is ended; a version is put. -/
import Derived.Test.YtogondadohdcoaaW12h
set_option linter.unusedSimpArgs false
set_option linter.unusedVariables false
namespace Go.Lift
open Go Go.Proofs Go.RowKit Go.Shelf
set_option maxRecDepth 100000
section
variable {α : Type} {T : TypeId} {sz : Nat} {enc : α → List Value}
/-- One cell of an element changes. -/
theorem Own.fldN {lo : Nat} {h : Hp} {s : Sl} {xs : List α} (ho : Own T sz enc lo h s xs) (he : ∀ x, (enc x).length = sz) {i k : Nat} (hi : i < xs.length) (hk : k < sz) {y : α} {v : Value} (hy : enc y = (enc xs[i]).set k v) {K : Hp → Prop}
    (H : ∀ h1, Own T sz enc lo h1 s (xs.set i y) → Ext (sBlk s) h h1 → h1.size = h.size → K h1) : ∃ a, s.a = some a ∧ stOk h (Addr.add a (i * sz + k)) 1 ∧ wth (wrs h (Addr.add a (i * sz + k)) 0 [v]) K := by
  cases hsa : s.a with
  | none => have := (ho.2.1 hsa).1; subst this; simp at hi
  | some a =>
    obtain ⟨b, c, h1, h2, h3, h4, h5, h6⟩ := ho.2.2 a hsa
    subst h1
    refine ⟨_, rfl, ?_⟩
    have hn := ho.1
    have g1 : (i + 1) * sz ≤ s.n * sz := Nat.mul_le_mul_right sz (by omega)
    have g2 : s.n * sz ≤ s.c * sz := Nat.mul_le_mul_right sz h4
    rw [Nat.add_mul] at g1
    rw [addr_mk, Nat.zero_add]
    refine st_blk h3 (by omega) fun h7 s7 b7 e7 => ?_
    refine H h7 ⟨by simp [hn], fun e => (by rw [hsa] at e; cases e), fun a' ha' => ?_⟩ (by unfold sBlk; rw [hsa]; exact e7) s7
    rw [hsa] at ha'
    cases ha'
    refine ⟨b, _, rfl, h2, b7, h4, by simpa using h5, ?_⟩
    have hz : 0 < sz := by omega
    apply List.ext_getElem?
    intro j
    rcases Nat.lt_or_ge j (s.n * sz) with g | g
    · have hq : j / sz < xs.length := by rw [← hn]; exact (Nat.div_lt_iff_lt_mul hz).2 g
      have hm := Nat.mod_lt j hz
      have ht : j / sz * sz + j % sz = j := by rw [Nat.mul_comm]; exact Nat.div_add_mod j sz
      have e1 := flatMap_get he xs (j / sz) (j % sz) hq hm
      have e2 := flatMap_get he (xs.set i y) (j / sz) (j % sz) (by simpa using hq) hm
      rw [ht] at e1 e2
      rw [e2, List.getElem?_take_of_lt g, Array.getElem?_toList, putAt_get0 _ _ _ _ (by simp; omega), List.getElem_set]
      have e3 : (c.toList.take (s.n * sz))[j]? = (enc xs[j / sz])[j % sz]? := by rw [h6, e1]
      rw [List.getElem?_take_of_lt g, Array.getElem?_toList] at e3
      by_cases hji : j / sz = i
      · subst hji
        rw [if_pos rfl, hy, List.getElem?_set]
        by_cases hjk : j % sz = k
        · rw [if_pos (by simp only [List.length_singleton]; omega), if_pos hjk.symm, if_pos (by rw [he]; omega)]
          have : j - (j / sz * sz + k) = 0 := by omega
          rw [this]
          rfl
        · rw [if_neg (by simp only [List.length_singleton]; omega), if_neg (fun e => hjk e.symm)]
          exact e3
      · have hneg : ¬ (i * sz + k ≤ j ∧ j < i * sz + k + [v].length) := by
          simp only [List.length_singleton]
          intro hh
          have : j = i * sz + k := by omega
          apply hji
          rw [this, Nat.mul_comm, Nat.mul_add_div hz, Nat.div_eq_of_lt hk, Nat.add_zero]
        rw [if_neg hneg, if_neg (fun e => hji e.symm)]
        exact e3
    · rw [List.getElem?_eq_none (by simp; omega), List.getElem?_eq_none (by rw [flatMap_length he]; simp; rw [← hn]; exact g)]
end
theorem aput_same {K V : Type} [DecidableEq K] {T : List (K × V)} {k : K} {v : V} (h : afind T k = some v) : aput T k v = T := by
  induction T with
  | nil => cases h
  | cons p T ih =>
    obtain ⟨a, u⟩ := p
    simp only [afind] at h
    simp only [aput]
    by_cases e : k = a
    · subst e
      rw [if_pos rfl] at h ⊢
      cases h
      rfl
    · rw [if_neg e] at h ⊢
      rw [ih h]
def endL (x : Int) (i : Nat) (vs : List VM) : List VM := match vs[i]? with
  | some v => vs.set i { v with xmax := x }
  | none => vs
def markN (N : NM) (k : ByteArray) (i : Nat) (x : Int) : NM := aput N k (endL x i (vsN N k))
def addN (N : NM) (k : ByteArray) (v : VM) : NM := aput N k (vsN N k ++ [v])
def putE (L : LM) (N : NM) (x : Int) (t : TM) : Int :=
  if (txL L x).state ≠ 1 ∨ nameB t.name = false ∨ goodR t.cl = false ∨ t.rel < 1 ∨ t.rel > 100 then 1
  else if (mayN L N x t.name).1 ≠ 0 then (mayN L N x t.name).1
  else if atN L N x t.name < 0 ∧ othersN L N x t.name ≥ 6 then 3 else 0
def putN (L : LM) (N : NM) (x : Int) (t : TM) : NM :=
  if putE L N x t = 0 then addN (if atN L N x t.name < 0 then N else markN N t.name (atN L N x t.name).toNat x) t.name ⟨x, 0, t⟩ else N
def dropE (L : LM) (N : NM) (x : Int) (k : ByteArray) : Int :=
  if (txL L x).state ≠ 1 then 1 else if (mayN L N x k).1 ≠ 0 then (mayN L N x k).1 else if atN L N x k < 0 then 60 else 0
def dropN (L : LM) (N : NM) (x : Int) (k : ByteArray) : NM := if dropE L N x k = 0 then markN N k (atN L N x k).toNat x else N
structure NOk (M : Nat) (N : NM) : Prop where
  nd : (N.map Prod.fst).Nodup
  len : N.length ≤ M
  vl : ∀ k, (vsN N k).length ≤ M
  nm : ∀ k, ∀ v ∈ vsN N k, v.t.name = k
theorem vsN_aput (N : NM) (k j : ByteArray) (l : List VM) : vsN (aput N k l) j = if j = k then l else vsN N j := by
  unfold vsN
  rw [afind_aput]
  split <;> rfl
theorem endL_len (x : Int) (i : Nat) (vs : List VM) : (endL x i vs).length = vs.length := by
  unfold endL
  split
  · simp
  · rfl
theorem endL_mem {x : Int} {i : Nat} {vs : List VM} {v : VM} (h : v ∈ endL x i vs) : ∃ u ∈ vs, v.t = u.t ∧ v.xmin = u.xmin ∧ (v.xmax = u.xmax ∨ v.xmax = x) := by
  unfold endL at h
  split at h
  · rename_i w hw
    rcases List.mem_or_eq_of_mem_set h with h | rfl
    · exact ⟨v, h, rfl, rfl, Or.inl rfl⟩
    · exact ⟨w, List.mem_of_getElem? hw, rfl, rfl, Or.inr rfl⟩
  · exact ⟨v, h, rfl, rfl, Or.inl rfl⟩
theorem NOk.mark {M : Nat} {N : NM} (h : NOk M N) (k : ByteArray) (i : Nat) (x : Int) (hk : k ∈ N.map Prod.fst) : NOk M (markN N k i x) := by
  refine ⟨aput_nodup h.nd _ _, by unfold markN; rw [aput_length, if_pos hk]; exact h.len, fun j => ?_, fun j v hv => ?_⟩
  · unfold markN
    rw [vsN_aput]
    split
    · rw [endL_len]; exact h.vl k
    · exact h.vl j
  · unfold markN at hv
    rw [vsN_aput] at hv
    split at hv
    · rename_i e
      subst e
      obtain ⟨u, hu, e1, _⟩ := endL_mem hv
      rw [e1]
      exact h.nm _ u hu
    · exact h.nm j v hv
theorem NOk.add {M : Nat} {N : NM} (h : NOk M N) {k : ByteArray} {v : VM} (hv : v.t.name = k) : NOk (M + 1) (addN N k v) := by
  refine ⟨aput_nodup h.nd _ _, ?_, fun j => ?_, fun j u hu => ?_⟩
  · unfold addN
    rw [aput_length]
    have := h.len
    split <;> omega
  · unfold addN
    rw [vsN_aput]
    have := h.vl k
    have := h.vl j
    split
    · simp; omega
    · omega
  · unfold addN at hu
    rw [vsN_aput] at hu
    split at hu
    · rename_i e
      subst e
      rcases List.mem_append.1 hu with hu | hu
      · exact h.nm _ u hu
      · simp only [List.mem_singleton] at hu
        subst hu
        exact hv
    · exact h.nm j u hu
theorem NOk.mono {M M' : Nat} {N : NM} (h : NOk M N) (hM : M ≤ M') : NOk M' N := ⟨h.nd, by have := h.len; omega, fun k => by have := h.vl k; omega, h.nm⟩
theorem atN_key {L : LM} {N : NM} {x : Int} {k : ByteArray} (h : ¬ atN L N x k < 0) : k ∈ N.map Prod.fst := by
  apply Classical.byContradiction
  intro hk
  rw [← afind_none] at hk
  apply h
  unfold atN vsN
  rw [hk]
  show (-1 : Int) < 0
  omega
theorem NOk.put {M : Nat} {N : NM} (h : NOk M N) (L : LM) (x : Int) (t : TM) : NOk (M + 1) (putN L N x t) := by
  unfold putN
  split
  · refine NOk.add ?_ rfl
    split
    · exact h
    · rename_i h2
      exact h.mark _ _ _ (atN_key h2)
  · exact h.mono (by omega)
theorem NOk.drop {M : Nat} {N : NM} (h : NOk M N) (L : LM) (x : Int) (k : ByteArray) : NOk M (dropN L N x k) := by
  unfold dropN
  split
  · rename_i h1
    refine h.mark _ _ _ (atN_key (L := L) (x := x) fun h2 => ?_)
    unfold dropE at h1
    rw [if_pos h2] at h1
    split at h1
    · cases h1
    · split at h1
      · contradiction
      · cases h1
  · exact h
section
variable {h h' : Hp} {cb t mb : Nat} {C : NC} {L : LM} {Q : List Value → Hp → Prop}
theorem col_ver : T_name_version ≠ T_api_Column := by decide
theorem NmS.mark (hN : NmS h t mb C) {k : ByteArray} {c : CN} (hf : afind C k = some c) {i : Nat} (hi : i < c.l.length) (x : Int) {K : Hp → Prop}
    (H : ∀ h1, NmS h1 t mb (aput C k ⟨c.s, c.l.set i { c.l[i] with xmax := x }⟩) → Ext (sBlk c.s) h h1 → h1.size = h.size → K h1) :
    ∃ a, c.s.a = some a ∧ stOk h (Addr.add (Addr.add a (i * 5)) 1) 1 ∧ wth (wrs h (Addr.add (Addr.add a (i * 5)) 1) 0 [.int .i64 x]) K := by
  have hown := hN.inner k c hf
  have H' : ∀ g, Own T_name_version 5 encVW 0 g c.s (c.l.set i { c.l[i] with xmax := x }) → Ext (sBlk c.s) h g → g.size = h.size → K g := by
    intro g o e z
    refine H g ?_ e z
    have hnt : t ∉ sBlk c.s := fun hm => by
      obtain ⟨a, g1, g2⟩ := mem_sBlk.1 hm
      exact own_ne hown hN.blk (by intro c' fz e; cases e) a g1 g2
    have hnm : mb ∉ sBlk c.s := fun hm => by
      obtain ⟨a, g1, g2⟩ := mem_sBlk.1 hm
      obtain ⟨es, cl, m1, _⟩ := hN.outer
      exact own_ne hown m1 (by intro c' fz e; cases e) a g1 g2
    have hO : Other T_api_Column h (sBlk c.s) := hown.other col_ver
    have hout : amap CN.s (aput C k ⟨c.s, c.l.set i { c.l[i] with xmax := x }⟩) = amap CN.s C := by
      rw [← aput_amap]
      exact aput_same (by rw [afind_amap, hf]; rfl)
    refine ⟨e.get hN.blk hnt, by rw [hout]; exact hN.outer.ext e hnm, aput_nodup hN.nd _ _, fun j d hd => ?_, fun j d hd => ?_, fun j j' d d' hd hd' hne b hb hb' => ?_⟩
    · rw [afind_aput] at hd
      split at hd
      · cases hd
        exact o
      · rename_i hjk
        exact (hN.inner j d hd).ext e fun a ha hm => hN.sep j k d c hd hf hjk _ (mem_sBlk.2 ⟨a, ha, rfl⟩) hm
    · rw [afind_aput] at hd
      split at hd
      · cases hd
        intro v hv
        rcases List.mem_or_eq_of_mem_set hv with hv | rfl
        · have := hN.cols k c hf v hv
          exact ⟨this.1.ext e hO, this.2⟩
        · have := hN.cols k c hf _ (List.getElem_mem hi)
          exact ⟨this.1.ext e hO, this.2⟩
      · intro v hv
        have := hN.cols j d hd v hv
        exact ⟨this.1.ext e hO, this.2⟩
    · have fix : ∀ j d, afind (aput C k ⟨c.s, c.l.set i { c.l[i] with xmax := x }⟩) j = some d → ∃ d0, afind C j = some d0 ∧ d0.s = d.s := by
        intro i1 d1 hx
        rw [afind_aput] at hx
        split at hx
        · rename_i e1
          cases hx
          exact ⟨c, by rw [e1]; exact hf, rfl⟩
        · exact ⟨d1, hx, rfl⟩
      obtain ⟨d0, q1, q2⟩ := fix j d hd
      obtain ⟨d1, q3, q4⟩ := fix j' d' hd'
      exact hN.sep j j' d0 d1 q1 q3 hne b (by rw [q2]; exact hb) (by rw [q4]; exact hb')
  obtain ⟨a, h1, h2, h3⟩ := hown.fldN encVW_len hi (k := 1) (by omega) (y := { c.l[i] with xmax := x }) (v := .int .i64 x) rfl (K := K) H'
  exact ⟨a, h1, by rw [addr_add_add]; exact h2, by rw [addr_add_add]; exact h3⟩
theorem mark_FN {k : ByteArray} {c : CN} (hf : afind C k = some c) {l : List VW} {b : Nat} (hb : FN t mb (aput C k ⟨c.s, l⟩) b) : FN t mb C b := by
  rcases hb with rfl | rfl | ⟨j, d, hd, hb⟩
  · exact Or.inl rfl
  · exact Or.inr (Or.inl rfl)
  · rw [afind_aput] at hd
    split at hd
    · cases hd
      exact Or.inr (Or.inr ⟨k, c, hf, hb⟩)
    · exact Or.inr (Or.inr ⟨j, d, hd, hb⟩)
theorem slC_blk {k : ByteArray} {b : Nat} (hb : b ∈ sBlk (slC C k)) : ∃ c, afind C k = some c ∧ b ∈ sBlk c.s := by
  unfold slC at hb
  cases hf : afind C k with
  | none => rw [hf] at hb; simp [sBlk] at hb
  | some c => rw [hf] at hb; exact ⟨c, rfl, hb⟩
theorem NmS.add (hN : NmS h t mb C) {k : ByteArray} {s' : Sl} {v : VW} {h1 : Hp} (ho : Own T_name_version 5 encVW 0 h1 s' (lC C k ++ [v])) (he : Ext (sBlk (slC C k)) h h1) (hb : ∀ b ∈ sBlk s', b ∈ sBlk (slC C k) ∨ h.size ≤ b)
    (hv : SlOf T_api_Column 7 encC h1 v.t.s v.t.cl ∧ v.t.cl.length ≤ 2 ^ 30) :
    ∃ es c, h1[mb]? = some (.map es c) ∧ KeysLike (.string k) es ∧ ∀ h2, Ext [mb] h1 h2 → h2[mb]? = some (mput (.string k) (.slice s'.a s'.n s'.c) es c) → NmS h2 t mb (aput C k ⟨s', lC C k ++ [v]⟩) := by
  have hown := hN.own k
  have hnt : t ∉ sBlk (slC C k) := fun hm => by
    obtain ⟨a, g1, g2⟩ := mem_sBlk.1 hm
    exact own_ne hown hN.blk (by intro c' fz e; cases e) a g1 g2
  have hnm : mb ∉ sBlk (slC C k) := fun hm => by
    obtain ⟨a, g1, g2⟩ := mem_sBlk.1 hm
    obtain ⟨es, cl, m1, _⟩ := hN.outer
    exact own_ne hown m1 (by intro c' fz e; cases e) a g1 g2
  have hO : Other T_api_Column h (sBlk (slC C k)) := hown.other col_ver
  have houter := hN.outer.ext he hnm
  obtain ⟨es, c, h2, h3, h4⟩ := houter.put k s'
  refine ⟨es, c, h2, h3, fun g e hg => ?_⟩
  have hOm : Other T_api_Column h1 [mb] := Other.one h2 (by intro c' fz e; cases e)
  have htm : t ≠ mb := fun e => map_not_cells hN.outer (e ▸ hN.blk)
  have hmb := hN.outer.lt
  have hs'm : ∀ a, s'.a = some a → a.block ∉ [mb] := fun a ha hm => own_ne ho h2 (by intro c' fz e; cases e) a ha (by simpa using hm)
  refine ⟨e.get (he.get hN.blk hnt) (by simp; exact htm), by rw [← aput_amap]; exact h4 g hg, aput_nodup hN.nd _ _, fun j d hd => ?_, fun j d hd => ?_, fun j j' d d' hd hd' hne b hb1 hb2 => ?_⟩
  · rw [afind_aput] at hd
    split at hd
    · cases hd
      exact ho.ext e hs'm
    · rename_i hjk
      have hoj := hN.inner j d hd
      have hoj1 := hoj.ext he fun a ha hm => by
        obtain ⟨c0, q1, q2⟩ := slC_blk hm
        exact hN.sep j k d c0 hd q1 hjk _ (mem_sBlk.2 ⟨a, ha, rfl⟩) q2
      exact hoj1.ext e fun a ha hm => own_ne hoj1 h2 (by intro c' fz e; cases e) a ha (by simpa using hm)
  · rw [afind_aput] at hd
    split at hd
    · cases hd
      intro u hu
      rcases List.mem_append.1 hu with hu | hu
      · have := hN.colsL k u hu
        exact ⟨(this.1.ext he hO).ext e hOm, this.2⟩
      · simp only [List.mem_singleton] at hu
        subst hu
        exact ⟨hv.1.ext e hOm, hv.2⟩
    · intro u hu
      have := hN.cols j d hd u hu
      exact ⟨(this.1.ext he hO).ext e hOm, this.2⟩
  · have old : ∀ j d b, j ≠ k → afind C j = some d → b ∈ sBlk d.s → b ∉ sBlk (slC C k) ∧ b < h.size := by
      intro j d b hjk hd hb
      refine ⟨fun hm => ?_, hN.lt (Or.inr (Or.inr ⟨j, d, hd, hb⟩))⟩
      obtain ⟨c0, q1, q2⟩ := slC_blk hm
      exact hN.sep j k d c0 hd q1 hjk b hb q2
    rw [afind_aput] at hd hd'
    by_cases e1 : j = k
    · rw [if_pos e1] at hd
      cases hd
      rw [if_neg (by rw [← e1]; exact Ne.symm hne)] at hd'
      have := old j' d' b (by rw [← e1]; exact Ne.symm hne) hd' hb2
      rcases hb b hb1 with q | q
      · exact this.1 q
      · omega
    · rw [if_neg e1] at hd
      by_cases e2 : j' = k
      · rw [if_pos e2] at hd'
        cases hd'
        have := old j d b e1 hd hb1
        rcases hb b hb2 with q | q
        · exact this.1 q
        · omega
      · rw [if_neg e2] at hd'
        exact hN.sep j j' d d' hd hd' hne b hb1 hb2
theorem add_FN {k : ByteArray} {s' : Sl} {l : List VW} {n : Nat} (hs : ∀ b ∈ sBlk s', b ∈ sBlk (slC C k) ∨ n ≤ b) {b : Nat} (hb : FN t mb (aput C k ⟨s', l⟩) b) : FN t mb C b ∨ n ≤ b := by
  rcases hb with rfl | rfl | ⟨j, d, hd, hb⟩
  · exact Or.inl (Or.inl rfl)
  · exact Or.inl (Or.inr (Or.inl rfl))
  · rw [afind_aput] at hd
    split at hd
    · cases hd
      rcases hs b hb with q | q
      · obtain ⟨c, q1, q2⟩ := slC_blk q
        exact Or.inl (Or.inr (Or.inr ⟨k, c, q1, q2⟩))
      · exact Or.inr q
    · exact Or.inl (Or.inr (Or.inr ⟨j, d, hd, hb⟩))
end
end Go.Lift

/- The keys of an index: which ones are there, what lies between two. -/
import Derived.Test.YtmlcjckocgnjfaaGreatDoorI11d
set_option linter.unusedSimpArgs false
set_option linter.unusedVariables false
namespace Go.Lift
open Go Go.Proofs Go.RowKit
set_option maxRecDepth 100000
theorem beL_inj {m n : Nat} (hm : m ≤ 65535) (hn : n ≤ 65535) (h : beL 2 m = beL 2 n) : m = n := by
  rw [← num_beL (k := 2) (u := m) (by omega), ← num_beL (k := 2) (u := n) (by omega), h]
theorem bl_prefix : ∀ (x : List UInt8) (c : UInt8) (t : List UInt8), Op.bytesLess x (x ++ c :: t) = true
  | [], _, _ => rfl
  | a :: x, c, t => by simp [Op.bytesLess, bl_prefix x c t]
section
variable {a b : V4} (ha : VOk a) (hb : VOk b) (ga : goodX a = true) (gb : goodX b = true)
include ha hb ga gb
theorem ord_lt : Op.bytesLess (encX a) (encX b) = decide (cmpV a b < 0) := by
  rcases enc_tri ha hb ga gb with ⟨h1, h2⟩ | ⟨h1, h2⟩ | ⟨h1, h2⟩
  · rw [bl_part h2, decide_eq_true h1]
  · rw [h2, bl_irrefl, decide_eq_false (by rw [h2] at h1; omega)]
  · rw [bl_npart h2, decide_eq_false (by omega)]
theorem ord_eq : (encX a == encX b) = (cmpV a b == 0) := by
  rcases enc_tri ha hb ga gb with ⟨h1, h2⟩ | ⟨h1, h2⟩ | ⟨h1, h2⟩
  · have := h2.ne
    have e : (cmpV a b == 0) = false := by simp; omega
    rw [e]
    simpa using this
  · rw [h2] at h1 ⊢
    rw [h1]
    simp
  · have := h2.ne.symm
    have e : (cmpV a b == 0) = false := by simp; omega
    rw [e]
    simpa using this
theorem ent_lt {m n : Nat} (hm : m ≤ 65535) (hn : n ≤ 65535) : Op.bytesLess (encX a ++ beL 2 m) (encX b ++ beL 2 n) = if cmpV a b < 0 then true else if cmpV a b = 0 then decide (m < n) else false := by
  rcases enc_tri ha hb ga gb with ⟨h1, h2⟩ | ⟨h1, h2⟩ | ⟨h1, h2⟩
  · rw [if_pos h1, bl_part (h2.app _ _)]
  · rw [if_neg (by omega), if_pos h1, h2]
    by_cases hmn : m < n
    · rw [decide_eq_true hmn, bl_part ((beL_part (k := 2) (by omega) (by omega) hmn).pre _)]
    · rw [decide_eq_false hmn]
      by_cases e : m = n
      · rw [e, bl_irrefl]
      · rw [bl_npart ((beL_part (k := 2) (by omega) (by omega) (by omega)).pre _)]
  · rw [if_neg (by omega), if_neg (by omega), bl_npart (h2.app _ _)]
theorem ent_eq {m n : Nat} (hm : m ≤ 65535) (hn : n ≤ 65535) : (encX a ++ beL 2 m == encX b ++ beL 2 n) = if cmpV a b = 0 then decide (m = n) else false := by
  rcases enc_tri ha hb ga gb with ⟨h1, h2⟩ | ⟨h1, h2⟩ | ⟨h1, h2⟩
  · rw [if_neg (by omega)]
    simpa using (h2.app (beL 2 m) (beL 2 n)).ne
  · rw [if_pos h1, h2]
    by_cases e : m = n
    · rw [e]; simp
    · rw [decide_eq_false e]
      simp
      exact fun h => e (beL_inj hm hn h)
  · rw [if_neg (by omega)]
    simpa using (h2.app (beL 2 n) (beL 2 m)).ne.symm
theorem aft_lt {n : Nat} (hn : n ≤ 65535) (hc : cmpV a b = 0) : Op.bytesLess (encX b ++ beL 2 n) (encX a ++ beL 2 65535 ++ [0]) = true := by
  rcases enc_tri ha hb ga gb with ⟨h1, h2⟩ | ⟨h1, h2⟩ | ⟨h1, h2⟩
  · omega
  · rw [h2]
    by_cases e : n = 65535
    · rw [e]
      exact bl_prefix _ _ _
    · rw [List.append_assoc]
      exact bl_part (PartL.pre (by
        have := (beL_part (k := 2) (u := n) (w := 65535) (by omega) (by omega) (by omega)).app [] [0]
        rwa [List.append_nil] at this) _)
  · omega
theorem aft_nlt {n : Nat} (hc : cmpV a b < 0) : Op.bytesLess (encX b ++ beL 2 n) (encX a ++ beL 2 65535 ++ [0]) = false := by
  rcases enc_tri ha hb ga gb with ⟨h1, h2⟩ | ⟨h1, h2⟩ | ⟨h1, h2⟩
  · rw [List.append_assoc]
    exact bl_npart (h2.app _ _)
  · omega
  · omega
end
theorem lb_snd (l : List OneM) : (lb l).map Prod.snd = l := by
  cases l with
  | nil => rfl
  | cons o l =>
    show o :: (sb l).map Prod.snd = _
    unfold sb
    rw [List.map_map, show (Prod.snd ∘ fun p : OneM => (some p.bound, p)) = id from rfl, List.map_id]
theorem flat_ord {l : List OneM} (w : WF l) : InOrder (l.flatMap OneM.keys) := by
  unfold InOrder
  rw [List.pairwise_flatMap]
  refine ⟨fun o ho => wf_ord w o ho, ?_⟩
  rw [← lb_snd l, List.pairwise_map, List.pairwise_iff_getElem]
  intro i j hi hj hij a ha b hb
  obtain ⟨bb, g1, g2, g3⟩ := List.pairwise_iff_getElem.1 w.1 i j hi hj hij
  have := (w.2 _ (List.getElem_mem hj)).2 b hb bb g1
  exact sLt_le (g2 a ha) this
theorem split_at {l : List OneM} {i : Nat} (hi : i < l.length) : l = l.take i ++ l[i] :: l.drop (i + 1) := by
  conv => lhs; rw [← List.take_append_drop i l, List.drop_eq_getElem_cons hi]
theorem here {l : List OneM} (w : WF l) {i : Nat} (hi : i < l.length) {k : ByteArray} (hk : k ∈ l[i].keys) : atL l k = i ∧ ofL l k = l[i].n := by
  have e := split_at hi
  have hw := w
  rw [e] at hw
  have ws := wf_split.1 hw
  have h1 := ws.po.2 k hk
  have h2 : ∀ p ∈ l.drop (i + 1), sLt k p.bound = true := by
    intro p hp
    obtain ⟨bb, g1, g2, g3⟩ := ws.ob p hp
    cases g1
    exact g2 k hk
  have hlen : (l.take i).length = i := by simp; omega
  constructor
  · have := (at_iff ws k).2 ⟨h1, h2⟩
    rw [← e, hlen] at this
    exact this
  · have := ofL_here ws h1 h2
    rw [← e] at this
    exact this
theorem sumL_flat (l : List OneM) : sumL l = ((l.flatMap OneM.keys).length : Int) := by
  have key : ∀ (l : List OneM) (a : Int), l.foldl (fun n o => n + (o.keys.length : Int)) a = a + ((l.flatMap OneM.keys).length : Int) := by
    intro l
    induction l with
    | nil => intro a; simp
    | cons o l ih =>
      intro a
      rw [List.foldl_cons, ih, List.flatMap_cons, List.length_append]
      omega
  unfold sumL
  rw [key l 0]
  omega

/-! What a leaf's keys become. -/
abbrev ksM (M : LeafM) : List ByteArray := M.l.flatMap OneM.keys
theorem putK_perm (xs : List ByteArray) (k : ByteArray) : (putK xs k).Perm (k :: xs) := by
  have e : putK xs k = xs.take (posK xs k) ++ k :: xs.drop (posK xs k) := by simp [putK]
  rw [e]
  refine List.perm_middle.trans ?_
  rw [List.take_append_drop]
theorem not_here {M : LeafM} {n : Nat} (ok : OkM M n) {k : ByteArray} (hh : hasK (M.l[atL M.l k]'(atL_lt ok.ne k)).keys k = false) : k ∉ ksM M := by
  intro hm
  obtain ⟨o, ho, hk⟩ := List.mem_flatMap.1 hm
  obtain ⟨i, hi, rfl⟩ := List.getElem_of_mem ho
  have e := (here ok.wf hi hk).1
  have : k ∈ (M.l[atL M.l k]'(atL_lt ok.ne k)).keys := by simp only [e]; exact hk
  rw [← hasK_iff, hh] at this
  cases this
theorem insP {M : LeafM} {n : Nat} (ok : OkM M n) (k : ByteArray) : ((M.ins k).2.err = 0 ∧ k ∉ ksM M ∧ (ksM (M.ins k).1).Perm (k :: ksM M)) ∨ ((M.ins k).2.err ≠ 0 ∧ (M.ins k).1 = M) := by
  by_cases hk : k.size > 1024
  · unfold LeafM.ins
    rw [if_pos hk]
    exact Or.inr ⟨by simp, rfl⟩
  · have hlt := atL_lt ok.ne k
    rw [ins_eq hk hlt]
    obtain ⟨A, o, B, hl, ha, w, hlo, hhi, ho⟩ := at_split ok.wf ok.ne k
    have hno := not_here ok (k := k)
    rw [ho] at hno ⊢
    unfold LeafM.insAt
    cases hh : hasK o.keys k with
    | true =>
      rw [if_pos rfl]
      exact Or.inr ⟨by simp, rfl⟩
    | false =>
      rw [if_neg (by decide)]
      have hno := hno hh
      have hset : M.l.set (atL M.l k) { o with keys := putK o.keys k } = A ++ { o with keys := putK o.keys k } :: B := by
        rw [ha, hl, List.set_append_right _ _ (by omega)]; simp
      have hflat : ksM M = A.flatMap OneM.keys ++ (o.keys ++ B.flatMap OneM.keys) := by
        unfold ksM
        rw [hl, List.flatMap_append, List.flatMap_cons]
      have hp : (A.flatMap OneM.keys ++ (putK o.keys k ++ B.flatMap OneM.keys)).Perm (k :: ksM M) := by
        rw [hflat]
        refine List.Perm.trans (List.Perm.append_left _ (List.Perm.append_right _ (putK_perm o.keys k))) ?_
        rw [List.cons_append]
        exact List.perm_middle
      by_cases hf : ((putK o.keys k).length : Int) ≤ M.fan
      · rw [if_pos hf]
        refine Or.inl ⟨rfl, hno, ?_⟩
        unfold ksM
        simp only
        rw [hset, List.flatMap_append, List.flatMap_cons]
        exact hp
      · rw [if_neg hf]
        refine Or.inl ⟨rfl, hno, ?_⟩
        unfold ksM
        simp only
        rw [ha, hl, List.take_left, show (A ++ o :: B).drop (A.length + 1) = B by rw [List.drop_append]; simp]
        rw [← hl]
        simp only [List.flatMap_append, List.flatMap_cons, List.flatMap_nil, List.append_nil]
        rw [List.take_append_drop, List.append_assoc]
        exact hp
theorem cutK_perm {xs : List ByteArray} (ho : InOrder xs) {k : ByteArray} (hk : k ∈ xs) : xs.Perm (k :: cutK xs k) := by
  obtain ⟨h1, h2, h3⟩ := posK_spec ho k
  unfold cutK
  have hm : k ∈ xs.drop (posK xs k) := by
    rw [← List.take_append_drop (posK xs k) xs] at hk
    rcases List.mem_append.1 hk with g | g
    · have := h2 k g
      rw [sLt_irrefl] at this
      cases this
    · exact g
  have hlt : posK xs k < xs.length := by
    have := List.length_pos_of_mem hm
    rw [List.length_drop] at this
    omega
  have hd : xs.drop (posK xs k) = xs[posK xs k] :: xs.drop (posK xs k + 1) := List.drop_eq_getElem_cons hlt
  have hz : xs[posK xs k] = k := by
    rw [hd] at hm
    rcases List.mem_cons.1 hm with g | g
    · exact g.symm
    · have hp : InOrder (xs.drop (posK xs k)) := ho.sublist (List.drop_sublist _ _)
      rw [hd] at hp
      have h4 := (List.pairwise_cons.1 hp).1 k g
      have h5 := h3 (xs[posK xs k]) (by rw [hd]; exact List.mem_cons.2 (Or.inl rfl))
      rw [h4] at h5
      cases h5
  have e : xs = xs.take (posK xs k) ++ k :: xs.drop (posK xs k + 1) := by
    conv => lhs; rw [← List.take_append_drop (posK xs k) xs, hd, hz]
  conv => lhs; rw [e]
  exact List.perm_middle
theorem remP {M : LeafM} {n : Nat} (ok : OkM M n) (k : ByteArray) : (ksM M).Perm (k :: ksM (M.rem k).1) ∨ (k ∉ ksM M ∧ (M.rem k).1 = M) := by
  have hlt := atL_lt ok.ne k
  rw [rem_eq hlt]
  obtain ⟨A, o, B, hl, ha, w, hlo, hhi, ho⟩ := at_split ok.wf ok.ne k
  have hno := not_here ok (k := k)
  rw [ho] at hno ⊢
  unfold LeafM.remAt
  cases hh : hasK o.keys k with
  | false =>
    rw [if_pos rfl]
    exact Or.inr ⟨hno hh, rfl⟩
  | true =>
    rw [if_neg (by decide)]
    have hset : M.l.set (atL M.l k) { o with keys := cutK o.keys k } = A ++ { o with keys := cutK o.keys k } :: B := by
      rw [ha, hl, List.set_append_right _ _ (by omega)]; simp
    have hflat : ksM M = A.flatMap OneM.keys ++ (o.keys ++ B.flatMap OneM.keys) := by
      unfold ksM
      rw [hl, List.flatMap_append, List.flatMap_cons]
    have hp : (ksM M).Perm (k :: (A.flatMap OneM.keys ++ (cutK o.keys k ++ B.flatMap OneM.keys))) := by
      rw [hflat]
      refine List.Perm.trans (List.Perm.append_left _ (List.Perm.append_right _ (cutK_perm w.po.1 (hasK_iff.1 hh)))) ?_
      rw [List.cons_append]
      exact List.perm_middle
    refine Or.inl ?_
    by_cases hc : 0 < (cutK o.keys k).length ∨ M.l.length = 1
    · rw [if_pos hc]
      simp only
      have : ksM { M with l := M.l.set (atL M.l k) { o with keys := cutK o.keys k } } = A.flatMap OneM.keys ++ (cutK o.keys k ++ B.flatMap OneM.keys) := by
        unfold ksM
        simp only
        rw [hset, List.flatMap_append, List.flatMap_cons]
      rw [this]
      exact hp
    · rw [if_neg hc]
      have hz : cutK o.keys k = [] := List.eq_nil_of_length_eq_zero (by omega)
      rw [hz, List.nil_append] at hp
      have hlist : M.l.take (atL M.l k) ++ M.l.drop (atL M.l k + 1) = A ++ B := by
        rw [ha, hl, List.take_left, show (A ++ o :: B).drop (A.length + 1) = B by rw [List.drop_append]; simp]
      have : ksM (⟨M.fan, M.next, M.l.take (atL M.l k) ++ M.l.drop (atL M.l k + 1)⟩ : LeafM) = A.flatMap OneM.keys ++ B.flatMap OneM.keys := by
        unfold ksM
        simp only
        rw [hlist, List.flatMap_append]
      simp only
      rw [this]
      exact hp
/-- What lies between two keys, of all leaves. -/
theorem rng_all {M : LeafM} {n : Nat} (ok : OkM M n) (a b : ByteArray) : (M.rng a b).1 = (ksM M).filter (inR a b) := by
  unfold LeafM.rng
  by_cases he : emptyR a b = true
  · rw [if_pos he]
    refine (List.filter_eq_nil_iff.2 fun s _ hs => ?_).symm
    unfold emptyR at he
    unfold inR at hs
    simp only [Bool.and_eq_true, Bool.not_eq_true', Bool.or_eq_true] at he hs
    rcases hs.2 with g | g
    · rw [g] at he; cases he.1
    · rcases he.2 with f | f
      · have := sLt_trans g f
        rw [this] at hs
        cases hs.1
      · have : b = a := toList_inj (eq_of_beq f)
        rw [← this] at hs
        rw [g] at hs
        cases hs.1
  · rw [if_neg he]
    simp only
    have key : ∀ i (hi : i < M.l.length), ∀ k ∈ (M.l[i]).keys, inR a b k = true → atL M.l a ≤ i ∧ i ≤ lastL M.l b := by
      intro i hi k hk hr
      have e := (here ok.wf hi hk).1
      unfold inR at hr
      simp only [Bool.and_eq_true, Bool.not_eq_true', Bool.or_eq_true] at hr
      refine ⟨?_, ?_⟩
      · have := atL_mono (l := M.l) hr.1
        omega
      · unfold lastL
        rcases hr.2 with g | g
        · rw [if_pos g]; omega
        · by_cases hb : (b.toList == []) = true
          · rw [if_pos hb]; omega
          · rw [if_neg hb]
            have := atL_mono (l := M.l) (sLt_asymm g)
            omega
    have none_of : ∀ L : List OneM, (∀ o ∈ L, ∀ k ∈ o.keys, inR a b k = false) → (L.flatMap OneM.keys).filter (inR a b) = [] := by
      intro L hL
      refine List.filter_eq_nil_iff.2 fun s hs => ?_
      obtain ⟨o, ho, hk⟩ := List.mem_flatMap.1 hs
      rw [hL o ho s hk]
      decide
    have split : M.l = (M.l.take (lastL M.l b + 1)).take (atL M.l a) ++ (partL M.l a b ++ M.l.drop (lastL M.l b + 1)) := by
      unfold partL
      rw [← List.append_assoc, List.take_append_drop, List.take_append_drop]
    show _ = (M.l.flatMap OneM.keys).filter (inR a b)
    conv => rhs; rw [split]
    rw [List.flatMap_append, List.flatMap_append, List.filter_append, List.filter_append]
    have n1 : (((M.l.take (lastL M.l b + 1)).take (atL M.l a)).flatMap OneM.keys).filter (inR a b) = [] := none_of _ fun o ho k hk => by
      obtain ⟨i, hi, rfl⟩ := List.getElem_of_mem ho
      rw [List.length_take, List.length_take] at hi
      rw [List.getElem_take, List.getElem_take] at hk
      cases hr : inR a b k with
      | false => rfl
      | true =>
        have := key _ _ k hk hr
        omega
    have n2 : ((M.l.drop (lastL M.l b + 1)).flatMap OneM.keys).filter (inR a b) = [] := none_of _ fun o ho k hk => by
      obtain ⟨i, hi, rfl⟩ := List.getElem_of_mem ho
      rw [List.length_drop] at hi
      rw [List.getElem_drop] at hk
      cases hr : inR a b k with
      | false => rfl
      | true =>
        have := key _ _ k hk hr
        omega
    rw [n1, n2, List.nil_append, List.append_nil]
end Go.Lift

/- Leaves in order: what stays by one insertion, by one removal. -/
import Derived.Test.YtempffmkbpglfaaL10p
set_option linter.unusedSimpArgs false
set_option linter.unusedVariables false
namespace Go.Lift
open Go
structure OkM (M : LeafM) (n : Nat) : Prop where
  wf : WF M.l
  ne : M.l ≠ []
  fan : 2 ≤ M.fan ∧ M.fan ≤ 64
  keys : ∀ o ∈ M.l, (o.keys.length : Int) ≤ M.fan
  full : 1 < M.l.length → ∀ o ∈ M.l, o.keys ≠ []
  len : M.l.length ≤ n + 1
  nx : 2 ≤ M.next ∧ M.next ≤ n + 2
  num : ∀ o ∈ M.l, 1 ≤ o.n ∧ o.n < M.next
  nd : (M.l.map OneM.n).Nodup
theorem wf_ord {l : List OneM} (w : WF l) : ∀ o ∈ l, InOrder o.keys := by
  intro o ho
  obtain ⟨A, B, rfl⟩ := List.append_of_mem ho
  exact (wf_split.1 w).po.1
theorem OkM.ord {M : LeafM} {n : Nat} (ok : OkM M n) : ∀ o ∈ M.l, InOrder o.keys ∧ o.keys.length ≤ 2 ^ 10 := fun o ho => ⟨wf_ord ok.wf o ho, by have := ok.keys o ho; have := ok.fan; omega⟩
/-- The place of a key among keys in order. -/
theorem posK_spec {xs : List ByteArray} (ho : InOrder xs) (k : ByteArray) : posK xs k ≤ xs.length ∧ (∀ y ∈ xs.take (posK xs k), sLt y k = true) ∧ ∀ y ∈ xs.drop (posK xs k), sLt y k = false := by
  induction xs with
  | nil => simp [posK]
  | cons x xs ih =>
    obtain ⟨h1, h2⟩ := List.pairwise_cons.1 ho
    obtain ⟨g1, g2, g3⟩ := ih h2
    unfold posK
    rw [List.takeWhile_cons]
    cases hx : sLt x k with
    | false =>
      simp only [Bool.false_eq_true, if_false, List.length_nil, List.take_zero, List.drop_zero]
      refine ⟨by omega, by simp, fun y hy => ?_⟩
      rcases List.mem_cons.1 hy with rfl | hy
      · exact hx
      · cases h3 : sLt y k with
        | false => rfl
        | true => rw [sLt_trans (h1 y hy) h3] at hx; cases hx
    | true =>
      simp only [if_true, List.length_cons, List.take_succ_cons, List.drop_succ_cons]
      refine ⟨by unfold posK at g1; omega, fun y hy => ?_, g3⟩
      rcases List.mem_cons.1 hy with rfl | hy
      · exact hx
      · exact g2 y hy
theorem mem_putK {xs : List ByteArray} {k y : ByteArray} : y ∈ putK xs k ↔ y = k ∨ y ∈ xs := by
  unfold putK
  conv => rhs; rw [← List.take_append_drop (posK xs k) xs]
  simp only [List.mem_append, List.mem_cons, List.not_mem_nil, or_false]
  constructor
  · rintro ((h | h) | h)
    · exact Or.inr (Or.inl h)
    · exact Or.inl h
    · exact Or.inr (Or.inr h)
  · rintro (h | h | h)
    · exact Or.inl (Or.inr h)
    · exact Or.inl (Or.inl h)
    · exact Or.inr h
theorem putK_len (xs : List ByteArray) (k : ByteArray) : (putK xs k).length = xs.length + 1 := by
  unfold putK
  have : posK xs k ≤ xs.length := (List.takeWhile_sublist _).length_le
  simp; omega
theorem putK_ord {xs : List ByteArray} (ho : InOrder xs) {k : ByteArray} (hk : hasK xs k = false) : InOrder (putK xs k) := by
  obtain ⟨h1, h2, h3⟩ := posK_spec ho k
  have hnm : k ∉ xs := fun hm => by rw [hasK_iff.2 hm] at hk; cases hk
  unfold putK
  rw [List.append_assoc, InOrder, List.pairwise_append]
  refine ⟨ho.sublist (List.take_sublist _ _), ?_, ?_⟩
  · rw [List.singleton_append, List.pairwise_cons]
    refine ⟨fun y hy => ?_, ho.sublist (List.drop_sublist _ _)⟩
    rcases sLt_total k y with e | e | e
    · subst e; exact absurd (List.mem_of_mem_drop hy) hnm
    · exact e
    · rw [h3 y hy] at e; cases e
  · intro a ha b hb
    rw [List.singleton_append, List.mem_cons] at hb
    rcases hb with rfl | hb
    · exact h2 a ha
    · have e := ho
      rw [InOrder, ← List.take_append_drop (posK xs k) xs, List.pairwise_append] at e
      exact e.2.2 a ha b hb
theorem putK_at {xs : List ByteArray} (k : ByteArray) : ∃ h : posK xs k < (putK xs k).length, (putK xs k)[posK xs k] = k := by
  have hp : posK xs k ≤ xs.length := (List.takeWhile_sublist _).length_le
  have e : (putK xs k)[posK xs k]? = some k := by
    unfold putK
    rw [List.append_assoc, List.getElem?_append_right (by simp; omega)]
    simp [Nat.min_eq_left hp]
  obtain ⟨h1, h2⟩ := List.getElem?_eq_some_iff.1 e
  exact ⟨h1, h2⟩
theorem cutK_sub (xs : List ByteArray) (k : ByteArray) : (cutK xs k).Sublist xs := by
  unfold cutK
  conv => rhs; rw [← List.take_append_drop (posK xs k) xs]
  refine List.Sublist.append_left ?_ _
  rw [Nat.add_comm, Nat.add_comm 1, ← List.drop_drop]
  exact List.drop_sublist _ _
/-- What a step has done to the leaves of keys: they are the same ones, but for those that a move led away. -/
def Moved (l l' : List OneM) (d : Did) : Prop := ∀ q, ofL l' q = ofL l q ∨ (d.mf ≠ 0 ∧ ofL l q = d.mf ∧ ofL l' q = d.mt)
theorem Moved.refl (l : List OneM) (d : Did) : Moved l l d := fun _ => Or.inl rfl
theorem ofN_congr (q : ByteArray) : ∀ (l l' : List OneM) (o o' : OneM), o.n = o'.n → l.map (fun p => (p.n, p.bound)) = l'.map (fun p => (p.n, p.bound)) → ofN o l q = ofN o' l' q
  | [], [], o, o', h, _ => h
  | [], _ :: _, _, _, _, h => by cases h
  | _ :: _, [], _, _, _, h => by cases h
  | p :: l, p' :: l', o, o', h, h2 => by
    simp only [List.map_cons, List.cons.injEq, Prod.mk.injEq] at h2
    unfold ofN
    rw [h2.1.2, h, ofN_congr q l l' p p' h2.1.1 h2.2]
theorem ofL_setK (A : List OneM) (o : OneM) (B : List OneM) (K : List ByteArray) (q : ByteArray) : ofL (A ++ { o with keys := K } :: B) q = ofL (A ++ o :: B) q := by
  cases A with
  | nil => exact ofN_congr q _ _ _ _ rfl rfl
  | cons a A => exact ofN_congr q _ _ _ _ rfl (by simp)
theorem ofN_lt (q : ByteArray) (o : OneM) (B : List OneM) (h : ∀ p ∈ B, sLt q p.bound = true) : ofN o B q = o.n := by
  cases B with
  | nil => rfl
  | cons p B => unfold ofN; rw [if_pos (h p (by simp))]
/-- The leaf that is cut in two. -/
theorem ofN_two (q : ByteArray) (o y z : OneM) (B : List OneM) (hy : y.n = o.n) (hz : ∀ p ∈ B, sLt z.bound p.bound = true) : ofN y (z :: B) q = ofN o B q ∨ (ofN o B q = o.n ∧ ofN y (z :: B) q = z.n) := by
  have e : ofN y (z :: B) q = if sLt q z.bound = true then y.n else ofN z B q := rfl
  rw [e]
  cases h : sLt q z.bound with
  | true =>
    rw [if_pos rfl, ofN_lt q o B fun p hp => sLt_trans h (hz p hp)]
    exact Or.inl hy
  | false =>
    rw [if_neg (by decide)]
    cases B with
    | nil => exact Or.inr ⟨rfl, rfl⟩
    | cons p B =>
      have e2 : ∀ o, ofN o (p :: B) q = if sLt q p.bound = true then o.n else ofN p B q := fun _ => rfl
      rw [e2, e2]
      cases h2 : sLt q p.bound with
      | true => exact Or.inr ⟨rfl, rfl⟩
      | false => exact Or.inl rfl
theorem lbOf_n {A : List OneM} {o o' : OneM} (h : o.bound = o'.bound) : lbOf A o = lbOf A o' := by cases A <;> simp [lbOf, h]
theorem cut_moved {A : List OneM} {o : OneM} {B : List OneM} (w : WFs A o B) {cut : Nat} (n : Int) (h0 : 0 < cut) (hc : cut < o.keys.length) (q : ByteArray) :
    ofL (A ++ { o with keys := o.keys.take cut } :: ⟨n, o.keys[cut], o.keys.drop cut⟩ :: B) q = ofL (A ++ o :: B) q ∨ (ofL (A ++ o :: B) q = o.n ∧ ofL (A ++ { o with keys := o.keys.take cut } :: ⟨n, o.keys[cut], o.keys.drop cut⟩ :: B) q = n) := by
  have w2 := wf_split.1 (wf_cut w n h0 hc)
  have hz : ∀ p ∈ B, sLt o.keys[cut] p.bound = true := by
    intro p hp
    obtain ⟨bb, g1, g2, g3⟩ := w.ob p hp
    cases g1
    exact g2 _ (List.getElem_mem _)
  cases A with
  | nil => exact ofN_two q o _ ⟨n, o.keys[cut], o.keys.drop cut⟩ B rfl hz
  | cons a A =>
    rw [ofL_app q w, ofL_app q w2]
    simp only
    cases h : sLt q o.bound with
    | true => exact Or.inl rfl
    | false => exact ofN_two q o _ ⟨n, o.keys[cut], o.keys.drop cut⟩ B rfl hz
theorem ofN_last (q : ByteArray) : ∀ (A : List OneM) (a : OneM), (∀ p ∈ A, sLt q p.bound = false) → ofN a A q = ((a :: A).getLast (by simp)).n
  | [], a, _ => rfl
  | p :: A, a, h => by
    unfold ofN
    rw [if_neg (by rw [h p (by simp)]; decide), ofN_last q A p fun r hr => h r (List.mem_cons_of_mem _ hr), List.getLast_cons_cons]
theorem del_moved {A : List OneM} {o : OneM} {B : List OneM} (w : WFs A o B) (hne : A ++ B ≠ []) (q : ByteArray) :
    ofL (A ++ B) q = ofL (A ++ o :: B) q ∨ (ofL (A ++ o :: B) q = o.n ∧ ofL (A ++ B) q = ((A ++ B).getD (A.length - 1) o).n) := by
  have w2 := wf_del w
  cases B with
  | nil =>
    cases A with
    | nil => exact absurd rfl hne
    | cons a A =>
      rw [ofL_app q w, List.append_nil]
      cases h : sLt q o.bound with
      | true => exact Or.inl rfl
      | false =>
        refine Or.inr ⟨rfl, ?_⟩
        show ofN a A q = _
        rw [ofN_last q A a fun p hp => by
          cases h2 : sLt q p.bound with
          | false => rfl
          | true => rw [sLt_trans h2 (wf_tail w p hp)] at h; cases h]
        rw [List.getD_eq_getElem?_getD, List.length_cons, Nat.add_sub_cancel, List.getElem?_eq_getElem (by simp), Option.getD_some, List.getLast_eq_getElem]
        rfl
  | cons p B =>
    have hp : ∀ r ∈ B, sLt p.bound r.bound = true := by
      intro r hr
      have h1 := w.pb
      unfold sb at h1
      rw [List.map_cons, List.pairwise_cons] at h1
      obtain ⟨bb, g1, g2, g3⟩ := h1.1 _ (mem_sb.2 ⟨r, hr, rfl⟩)
      cases g1
      exact g3 _ rfl
    have e2 : ∀ o, ofN o (p :: B) q = if sLt q p.bound = true then o.n else ofN p B q := fun _ => rfl
    cases A with
    | nil =>
      show ofN p B q = ofN o (p :: B) q ∨ (ofN o (p :: B) q = o.n ∧ ofN p B q = _)
      rw [e2]
      cases h : sLt q p.bound with
      | true =>
        refine Or.inr ⟨rfl, ?_⟩
        rw [ofN_lt q p B fun r hr => sLt_trans h (hp r hr)]
        rfl
      | false => exact Or.inl rfl
    | cons a A =>
      rw [ofL_app q w, ofL_app q (wf_split.1 w2), e2]
      have hop : sLt o.bound p.bound = true := by
        obtain ⟨bb, g1, g2, g3⟩ := w.ob p (by simp)
        cases g1
        exact g3 _ rfl
      cases h : sLt q o.bound with
      | true => rw [sLt_trans h hop]; exact Or.inl rfl
      | false =>
        cases h2 : sLt q p.bound with
        | false => exact Or.inl rfl
        | true =>
          refine Or.inr ⟨rfl, ?_⟩
          simp only [if_true]
          rw [ofN_last q A a fun r hr => by
            cases h3 : sLt q r.bound with
            | false => rfl
            | true => rw [sLt_trans h3 (wf_tail w r hr)] at h; cases h]
          rw [List.getD_eq_getElem?_getD, List.length_cons, Nat.add_sub_cancel, List.getElem?_append_left (by simp), List.getElem?_eq_getElem (by simp), Option.getD_some, List.getLast_eq_getElem]
          rfl
/-- A key's leaf, by what stands about it. -/
theorem ofL_here {A : List OneM} {o : OneM} {B : List OneM} (w : WFs A o B) {k : ByteArray} (h1 : leO (lbOf A o) k) (h2 : ∀ p ∈ B, sLt k p.bound = true) : ofL (A ++ o :: B) k = o.n := by
  have ha := (at_iff w k).2 ⟨h1, h2⟩
  have := ofL_at (l := A ++ o :: B) (by simp) k
  rw [← this]
  congr 1
  simp only [ha]
  simp
theorem OkM.up {M : LeafM} {n : Nat} (ok : OkM M n) : OkM M (n + 1) := { ok with len := by have := ok.len; omega, nx := by have := ok.nx; omega }
theorem ins_ok {M : LeafM} {n : Nat} (ok : OkM M n) (k : ByteArray) : OkM (M.ins k).1 (n + 1) ∧ Moved M.l (M.ins k).1.l (M.ins k).2 ∧ ((M.ins k).2.err = 0 → ofL (M.ins k).1.l k = (M.ins k).2.leaf) := by
  by_cases hk : k.size > 1024
  · unfold LeafM.ins
    rw [if_pos hk]
    exact ⟨ok.up, Moved.refl _ _, fun h => by cases h⟩
  · have hlt := atL_lt ok.ne k
    rw [ins_eq hk hlt]
    obtain ⟨A, o, B, hl, ha, w, hlo, hhi, ho⟩ := at_split ok.wf ok.ne k
    rw [ho]
    unfold LeafM.insAt
    have hom : o ∈ M.l := by rw [hl]; simp
    cases hh : hasK o.keys k with
    | true =>
      rw [if_pos rfl]
      exact ⟨ok.up, Moved.refl _ _, fun h => by cases h⟩
    | false =>
      rw [if_neg (by decide)]
      have hord : InOrder (putK o.keys k) := putK_ord w.po.1 hh
      have hkb : ∀ y ∈ putK o.keys k, leO (lbOf A o) y := by
        intro y hy
        rcases mem_putK.1 hy with rfl | hy
        · exact hlo
        · exact w.po.2 y hy
      have hka : ∀ y ∈ putK o.keys k, ∀ p ∈ B, sLt y p.bound = true := by
        intro y hy p hp
        rcases mem_putK.1 hy with rfl | hy
        · exact hhi p hp
        · obtain ⟨bb, g1, g2, g3⟩ := w.ob p hp
          cases g1
          exact g2 y hy
      have w' := wf_set w hord hkb hka
      have hol := ok.keys o hom
      have hset : M.l.set (atL M.l k) { o with keys := putK o.keys k } = A ++ { o with keys := putK o.keys k } :: B := by
        rw [ha, hl, List.set_append_right _ _ (by omega)]; simp
      have hone : A ++ o :: B = M.l := hl.symm
      by_cases hf : ((putK o.keys k).length : Int) ≤ M.fan
      · rw [if_pos hf]
        refine ⟨⟨?_, ?_, ok.fan, ?_, ?_, ?_, by have := ok.nx; simp only; omega, ?_, ?_⟩, ?_, ?_⟩
        · simp only; rw [hset]; exact wf_split.2 w'
        · simp only; rw [hset]; simp
        · simp only
          intro o' ho'
          rcases List.mem_or_eq_of_mem_set ho' with g | g
          · exact ok.keys o' g
          · subst g; exact hf
        · simp only
          intro h1 o' ho'
          rcases List.mem_or_eq_of_mem_set ho' with g | g
          · exact ok.full (by simpa using h1) o' g
          · subst g
            simp only
            intro e
            have := putK_len o.keys k
            rw [e] at this
            simp at this
        · simp only [List.length_set]; have := ok.len; omega
        · simp only
          intro o' ho'
          rcases List.mem_or_eq_of_mem_set ho' with g | g
          · exact ok.num o' g
          · subst g; exact ok.num o hom
        · simp only
          rw [hset]
          have := ok.nd
          rw [hl] at this
          simpa using this
        · intro q
          refine Or.inl ?_
          simp only
          rw [hset, ofL_setK, hone]
        · intro _
          simp only
          rw [hset, ofL_setK]
          exact ofL_here w hlo hhi
      · rw [if_neg hf]
        simp only
        have hKl := putK_len o.keys k
        have hcl : ((putK o.keys k).length + 1) / 2 < (putK o.keys k).length := by have := ok.fan; omega
        have hc0 : 0 < ((putK o.keys k).length + 1) / 2 := by omega
        have hc2 : ((putK o.keys k).length + 1) / 2 ≤ M.fan := by have := ok.fan; omega
        generalize hcut : ((putK o.keys k).length + 1) / 2 = cut at *
        have hgd : (putK o.keys k).getD cut (ByteArray.mk #[]) = (putK o.keys k)[cut] := by rw [List.getD_eq_getElem?_getD, List.getElem?_eq_getElem hcl]; rfl
        have hlist : M.l.take (atL M.l k) ++ [{ o with keys := (putK o.keys k).take cut }, ⟨M.next, (putK o.keys k).getD cut (ByteArray.mk #[]), (putK o.keys k).drop cut⟩] ++ M.l.drop (atL M.l k + 1)
            = A ++ { o with keys := (putK o.keys k).take cut } :: ⟨M.next, (putK o.keys k)[cut], (putK o.keys k).drop cut⟩ :: B := by
          rw [hgd, ha, hl, List.take_left, show (A ++ o :: B).drop (A.length + 1) = B by rw [List.drop_append]; simp]
          simp
        rw [hlist]
        have wc := wf_cut w' M.next hc0 hcl
        have hmem : ∀ o', o' ∈ A ++ { o with keys := (putK o.keys k).take cut } :: ⟨M.next, (putK o.keys k)[cut], (putK o.keys k).drop cut⟩ :: B ↔ o' ∈ A ∨ o' = { o with keys := (putK o.keys k).take cut } ∨ o' = ⟨M.next, (putK o.keys k)[cut], (putK o.keys k).drop cut⟩ ∨ o' ∈ B := by
          intro o'; simp
        have hA : ∀ o' ∈ A, o' ∈ M.l := fun o' h => by rw [hl]; simp [h]
        have hB : ∀ o' ∈ B, o' ∈ M.l := fun o' h => by rw [hl]; simp [h]
        have hlen : M.l.length = A.length + 1 + B.length := by rw [hl]; simp; omega
        refine ⟨⟨wc, by simp, ok.fan, ?_, ?_, ?_, by have := ok.nx; simp only; omega, ?_, ?_⟩, ?_, ?_⟩
        · simp only
          intro o' ho'
          rcases (hmem o').1 ho' with g | g | g | g
          · exact ok.keys o' (hA _ g)
          · subst g; simp only [List.length_take]; omega
          · subst g; simp only [List.length_drop]; omega
          · exact ok.keys o' (hB _ g)
        · simp only
          intro _ o' ho'
          rcases (hmem o').1 ho' with g | g | g | g
          · exact ok.full (by have := List.length_pos_of_mem g; omega) o' (hA _ g)
          · subst g
            simp only
            intro e
            have := congrArg List.length e
            simp only [List.length_take, List.length_nil] at this
            omega
          · subst g
            simp only
            intro e
            have := congrArg List.length e
            simp only [List.length_drop, List.length_nil] at this
            omega
          · exact ok.full (by have := List.length_pos_of_mem g; omega) o' (hB _ g)
        · have := ok.len
          simp only [List.length_append, List.length_cons]
          omega
        · simp only
          intro o' ho'
          have hn2 := ok.nx
          have hno := ok.num o hom
          rcases (hmem o').1 ho' with g | g | g | g
          · have := ok.num o' (hA _ g); omega
          · subst g; simp only; omega
          · subst g; simp only; omega
          · have := ok.num o' (hB _ g); omega
        · simp only
          have hnd := ok.nd
          rw [hl] at hnd
          have hperm : ((A ++ { o with keys := (putK o.keys k).take cut } :: ⟨M.next, (putK o.keys k)[cut], (putK o.keys k).drop cut⟩ :: B).map OneM.n).Perm (M.next :: (A ++ o :: B).map OneM.n) := by
            simp only [List.map_append, List.map_cons]
            have h1 : (A.map OneM.n ++ o.n :: M.next :: B.map OneM.n).Perm (A.map OneM.n ++ M.next :: o.n :: B.map OneM.n) := List.Perm.append_left _ (List.Perm.swap _ _ _)
            exact h1.trans List.perm_middle
          rw [hperm.nodup_iff, List.nodup_cons]
          refine ⟨fun hm => ?_, hnd⟩
          obtain ⟨o', ho', he⟩ := List.mem_map.1 hm
          rw [← hl] at ho'
          have := ok.num o' ho'
          omega
        · intro q
          simp only
          rcases cut_moved w' M.next hc0 hcl q with g | ⟨g1, g2⟩
          · rw [ofL_setK A o B, hone] at g
            exact Or.inl g
          · rw [ofL_setK A o B, hone] at g1
            exact Or.inr ⟨by have := ok.num o hom; omega, g1, g2⟩
        · intro _
          obtain ⟨hp1, hp2⟩ := putK_at (xs := o.keys) k
          have hin := List.pairwise_iff_getElem.1 hord
          have e := lbOf_n (A := A) (o := { o with keys := (putK o.keys k).take cut }) (o' := o) rfl
          by_cases hpc : posK o.keys k < cut
          · rw [if_pos hpc]
            have hkz : sLt k (putK o.keys k)[cut] = true := by
              have := hin _ _ hp1 hcl hpc
              rw [hp2] at this
              exact this
            refine ofL_here (wf_split.1 wc) (by rw [e]; exact hlo) fun p hp => ?_
            rcases List.mem_cons.1 hp with rfl | hp
            · exact hkz
            · exact hhi p hp
          · rw [if_neg hpc]
            have hkz : sLt k (putK o.keys k)[cut] = false := by
              rcases (by omega : cut = posK o.keys k ∨ cut < posK o.keys k) with g | g
              · subst g; rw [hp2]; exact sLt_irrefl _
              · have := hin _ _ hcl hp1 g
                rw [hp2] at this
                exact sLt_asymm this
            have wz : WFs (A ++ [{ o with keys := (putK o.keys k).take cut }]) ⟨M.next, (putK o.keys k)[cut], (putK o.keys k).drop cut⟩ B := by
              refine wf_split.1 ?_
              rw [List.append_assoc]
              exact wc
            have := ofL_here wz (k := k) (by
              intro b hb
              have : lbOf (A ++ [{ o with keys := (putK o.keys k).take cut }]) (⟨M.next, (putK o.keys k)[cut], (putK o.keys k).drop cut⟩ : OneM) = some (putK o.keys k)[cut] := by cases A <;> rfl
              rw [this] at hb
              cases hb
              exact hkz) hhi
            rw [List.append_assoc] at this
            exact this
theorem rem_ok {M : LeafM} {n : Nat} (ok : OkM M n) (k : ByteArray) : OkM (M.rem k).1 (n + 1) ∧ Moved M.l (M.rem k).1.l (M.rem k).2 := by
  have hlt := atL_lt ok.ne k
  rw [rem_eq hlt]
  obtain ⟨A, o, B, hl, ha, w, hlo, hhi, ho⟩ := at_split ok.wf ok.ne k
  rw [ho]
  unfold LeafM.remAt
  have hom : o ∈ M.l := by rw [hl]; simp
  have hA : ∀ o' ∈ A, o' ∈ M.l := fun o' h => by rw [hl]; simp [h]
  have hB : ∀ o' ∈ B, o' ∈ M.l := fun o' h => by rw [hl]; simp [h]
  have hlen : M.l.length = A.length + 1 + B.length := by rw [hl]; simp; omega
  have hone : A ++ o :: B = M.l := hl.symm
  cases hh : hasK o.keys k with
  | false =>
    rw [if_pos rfl]
    exact ⟨ok.up, Moved.refl _ _⟩
  | true =>
    rw [if_neg (by decide)]
    have hsub := cutK_sub o.keys k
    have w' := wf_set w (w.po.1.sublist hsub) (fun y hy => w.po.2 y (hsub.subset hy)) (fun y hy p hp => by
      obtain ⟨bb, g1, g2, g3⟩ := w.ob p hp
      cases g1
      exact g2 y (hsub.subset hy))
    have hset : M.l.set (atL M.l k) { o with keys := cutK o.keys k } = A ++ { o with keys := cutK o.keys k } :: B := by
      rw [ha, hl, List.set_append_right _ _ (by omega)]; simp
    by_cases hc : 0 < (cutK o.keys k).length ∨ M.l.length = 1
    · rw [if_pos hc]
      simp only
      refine ⟨⟨?_, ?_, ok.fan, ?_, ?_, ?_, by have := ok.nx; simp only; omega, ?_, ?_⟩, ?_⟩
      · simp only; rw [hset]; exact wf_split.2 w'
      · simp only; rw [hset]; simp
      · simp only
        intro o' ho'
        rcases List.mem_or_eq_of_mem_set ho' with g | g
        · exact ok.keys o' g
        · subst g
          have := hsub.length_le
          have := ok.keys o hom
          simp only
          omega
      · simp only
        intro h1 o' ho'
        have h1' : 1 < M.l.length := by simpa using h1
        rcases List.mem_or_eq_of_mem_set ho' with g | g
        · exact ok.full h1' o' g
        · subst g
          simp only
          intro e
          rw [e] at hc
          simp at hc
          omega
      · simp only [List.length_set]; have := ok.len; omega
      · simp only
        intro o' ho'
        rcases List.mem_or_eq_of_mem_set ho' with g | g
        · exact ok.num o' g
        · subst g; exact ok.num o hom
      · simp only
        rw [hset]
        have := ok.nd
        rw [hl] at this
        simpa using this
      · intro q
        refine Or.inl ?_
        rw [hset, ofL_setK, hone]
    · rw [if_neg hc]
      have hlist : M.l.take (atL M.l k) ++ M.l.drop (atL M.l k + 1) = A ++ B := by
        rw [ha, hl, List.take_left, show (A ++ o :: B).drop (A.length + 1) = B by rw [List.drop_append]; simp]
      simp only
      rw [hlist]
      have hab : A ++ B ≠ [] := by
        intro e
        have := congrArg List.length e
        rw [List.length_append, List.length_nil] at this
        omega
      have hm : ∀ o' ∈ A ++ B, o' ∈ M.l := fun o' h => (List.mem_append.1 h).elim (hA o') (hB o')
      refine ⟨⟨wf_del w, hab, ok.fan, fun o' h => ok.keys o' (hm o' h), fun _ o' h => ok.full (by omega) o' (hm o' h), by have := ok.len; simp; omega, by have := ok.nx; simp only; omega, fun o' h => ok.num o' (hm o' h), ?_⟩, ?_⟩
      · have hnd := ok.nd
        rw [hl] at hnd
        refine hnd.sublist ?_
        rw [List.map_append, List.map_append, List.map_cons]
        exact List.Sublist.append_left (List.sublist_cons_self _ _) _
      · intro q
        rcases del_moved w hab q with g | ⟨g1, g2⟩
        · exact Or.inl (by rw [g, hone])
        · refine Or.inr ⟨by have := ok.num o hom; simp only; omega, by rw [← hone]; exact g1, ?_⟩
          simp only
          rw [ha]
          exact g2
/-- One call: something is put in, or taken out. -/
def LeafM.step (M : LeafM) (kind : Int) (k : ByteArray) : LeafM × Did := if kind = 0 then M.ins k else M.rem k
theorem step_ok {M : LeafM} {n : Nat} (ok : OkM M n) (c : Int) (k : ByteArray) : OkM (M.step c k).1 (n + 1) ∧ Moved M.l (M.step c k).1.l (M.step c k).2 ∧ (c = 0 → (M.step c k).2.err = 0 → ofL (M.step c k).1.l k = (M.step c k).2.leaf) := by
  unfold LeafM.step
  by_cases h : c = 0
  · rw [if_pos h]
    obtain ⟨h1, h2, h3⟩ := ins_ok ok k
    exact ⟨h1, h2, fun _ => h3⟩
  · rw [if_neg h]
    obtain ⟨h1, h2⟩ := rem_ok ok k
    exact ⟨h1, h2, fun e => absurd e h⟩
theorem new_ok {fan : Int} (hf : 2 ≤ fan ∧ fan ≤ 64) : OkM ⟨fan, 2, [⟨1, ByteArray.mk #[], []⟩]⟩ 0 := by
  refine ⟨⟨by simp [lb, sb], ?_⟩, by simp, hf, by simp; omega, by simp, by simp, by simp, by simp, by simp⟩
  intro a ha
  simp [lb, sb] at ha
  subst ha
  exact ⟨List.Pairwise.nil, fun k hk => by simp at hk⟩
/-- The leaf of a key that a range covers is one of those that it tells of. -/
theorem covers {M : LeafM} {n : Nat} (ok : OkM M n) {a b q : ByteArray} (he : emptyR a b = false) (hq : inR a b q = true) : ofL M.l q ∈ (M.rng a b).2 := by
  unfold LeafM.rng
  rw [if_neg (by rw [he]; decide)]
  simp only
  have hlt := atL_lt ok.ne q
  have h1 : atL M.l a ≤ atL M.l q := by
    refine atL_mono ?_
    unfold inR at hq
    simp only [Bool.and_eq_true, Bool.not_eq_true'] at hq
    exact hq.1
  have h2 : atL M.l q ≤ lastL M.l b := by
    unfold lastL
    cases hb : b.toList == [] with
    | true => rw [if_pos rfl]; omega
    | false =>
      rw [if_neg (by decide)]
      refine atL_mono ?_
      unfold inR at hq
      rw [hb] at hq
      simp only [Bool.and_eq_true, Bool.false_or] at hq
      exact sLt_asymm hq.2
  rw [← ofL_at ok.ne q]
  refine List.mem_map.2 ⟨_, ?_, rfl⟩
  unfold partL
  refine List.mem_iff_getElem.2 ⟨atL M.l q - atL M.l a, by simp; omega, ?_⟩
  rw [List.getElem_drop, List.getElem_take]
  congr 1
  omega
end Go.Lift

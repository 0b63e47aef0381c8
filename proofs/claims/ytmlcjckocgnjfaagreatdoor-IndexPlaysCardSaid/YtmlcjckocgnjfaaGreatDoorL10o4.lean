/- The reference's leaves: what only looks. -/
import Derived.Test.YtmlcjckocgnjfaaGreatDoorI11f
set_option linter.unusedSimpArgs false
set_option linter.unusedVariables false
namespace Go.Lift
open Go Go.Proofs
set_option maxRecDepth 100000
structure RC where
  ks : Sl
  op : Bool
  m : OneM
abbrev encR (r : RC) : List Value := [.int .i64 r.m.n, .bool r.op, .string r.m.bound, .slice r.ks.a r.ks.n r.ks.c]
theorem encR_len (r : RC) : (encR r).length = 4 := rfl
theorem encR_one (r : RC) : ∀ v ∈ encR r, oneCell v = true := by
  intro v hv
  simp at hv
  rcases hv with rfl | rfl | rfl | rfl <;> rfl
theorem zcR : (zc PP T_liveryref10_Leaf).size = 4 := by kernel_rfl
/-- The reference's leaves are the same ones: the first one is open. -/
def RR : List (Bool × OneM) → List OneM → Prop
  | [], [] => True
  | r :: t, o :: l => r.1 = true ∧ r.2.n = o.n ∧ r.2.keys = o.keys ∧ t = l.map fun o => (false, o)
  | _, _ => False
structure RefAt (lo : Nat) (h : Hp) (q : Nat) (M : LeafM) (ls : Sl) (R : List RC) : Prop where
  blk : Blk h q #[.slice ls.a ls.n ls.c, .int .i64 M.fan, .int .i64 M.next] T_liveryref10_Leaves
  le : lo ≤ q
  own : Own T_liveryref10_Leaf 4 encR lo h ls R
  keys : ∀ r ∈ R, Own T_string 1 encB lo h r.ks r.m.keys
  rel : RR (R.map fun r => (r.op, r.m)) M.l
def RFp (q : Nat) (ls : Sl) (R : List RC) (b : Nat) : Prop := b = q ∨ b ∈ sBlk ls ∨ ∃ r ∈ R, b ∈ sBlk r.ks
theorem rr_len {t : List (Bool × OneM)} {l : List OneM} (h : RR t l) : t.length = l.length := by
  cases t <;> cases l <;> simp_all [RR]
theorem rr_at {t : List (Bool × OneM)} {l : List OneM} (h : RR t l) {i : Nat} (h1 : i < t.length) (h2 : i < l.length) : t[i].2.n = l[i].n ∧ t[i].2.keys = l[i].keys ∧ (t[i].1 = decide (i = 0)) ∧ (0 < i → t[i].2.bound = l[i].bound) := by
  cases t with
  | nil => simp at h1
  | cons r t =>
    cases l with
    | nil => simp at h2
    | cons o l =>
      obtain ⟨a, b, c, d⟩ := h
      cases i with
      | zero => exact ⟨b, c, by simp [a], fun h => by omega⟩
      | succ i => subst d; simp
section
variable {lo : Nat} {h h' : Hp} {q : Nat} {M : LeafM} {ls : Sl} {R : List RC} {Q : List Value → Hp → Prop}
theorem ref_len (hr : RefAt lo h q M ls R) : ls.n = R.length ∧ R.length = M.l.length := by
  refine ⟨hr.own.1, ?_⟩
  have := rr_len hr.rel
  rw [List.length_map] at this
  exact this
theorem ref_at (hr : RefAt lo h q M ls R) {i : Nat} (hi : i < R.length) : ∃ h2 : i < M.l.length, R[i].m.n = M.l[i].n ∧ R[i].m.keys = M.l[i].keys ∧ R[i].op = decide (i = 0) ∧ (0 < i → R[i].m.bound = M.l[i].bound) := by
  have h2 : i < M.l.length := by have := (ref_len hr).2; omega
  have := rr_at hr.rel (i := i) (by simpa using hi) h2
  simp only [List.getElem_map] at this
  exact ⟨h2, this⟩
theorem rdR (hr : Own T_liveryref10_Leaf 4 encR lo h ls R) {i : Nat} (hi : i < R.length) : ∃ a, ls.a = some a ∧ rd h (Addr.add (Addr.add a (i * 4)) 0) = some (.int .i64 R[i].m.n) ∧ rd h (Addr.add (Addr.add a (i * 4)) 1) = some (.bool R[i].op) ∧
    rd h (Addr.add (Addr.add a (i * 4)) 2) = some (.string R[i].m.bound) ∧ rd h (Addr.add (Addr.add a (i * 4)) 3) = some (.slice R[i].ks.a R[i].ks.n R[i].ks.c) := by
  obtain ⟨a, h1, h2⟩ := hr.sl.reads.rd encR_len hi
  exact ⟨a, h1, by rw [addr_add_add]; simpa using h2 0 (by omega), by rw [addr_add_add]; simpa using h2 1 (by omega), by rw [addr_add_add]; simpa using h2 2 (by omega), by rw [addr_add_add]; simpa using h2 3 (by omega)⟩
theorem RefAt.ext0 (hr : RefAt lo h q M ls R) (he : Ext [] h h') : RefAt lo h' q M ls R :=
  ⟨he.get hr.blk (by simp), hr.le, hr.own.ext0 he, fun r h => (hr.keys r h).ext0 he, hr.rel⟩
theorem RefAt.extF {S : List Nat} (hr : RefAt lo h q M ls R) (he : Ext S h h') (hS : ∀ b, RFp q ls R b → b ∉ S) : RefAt lo h' q M ls R := by
  have sl : ∀ {s : Sl} {a : Addr}, s.a = some a → a.block ∈ sBlk s := fun ha => mem_sBlk.2 ⟨_, ha, rfl⟩
  exact ⟨he.get hr.blk (hS _ (Or.inl rfl)), hr.le, hr.own.ext he fun a ha => hS _ (Or.inr (Or.inl (sl ha))), fun r h => (hr.keys r h).ext he fun a ha => hS _ (Or.inr (Or.inr ⟨r, h, sl ha⟩)), hr.rel⟩
theorem rfp_lt (hr : RefAt lo h q M ls R) {b : Nat} (hb : RFp q ls R b) : b < h.size := by
  rcases hb with rfl | hb | ⟨r, h, hb⟩
  · exact blk_lt hr.blk
  · exact own_lt hr.own _ hb
  · exact own_lt (hr.keys r h) _ hb
theorem rfp_lo (hr : RefAt lo h q M ls R) {b : Nat} (hb : RFp q ls R b) : lo ≤ b := by
  rcases hb with rfl | hb | ⟨r, h, hb⟩
  · exact hr.le
  · exact hr.own.blk _ hb
  · exact (hr.keys r h).blk _ hb
theorem le_not (a b : ByteArray) : (Op.bytesLess a.toList b.toList || a.toList == b.toList) = !sLt b a := by
  have e : Op.bytesLess a.toList b.toList = sLt a b := rfl
  rw [e]
  rcases sLt_total a b with g | g | g
  · subst g; simp [sLt_irrefl]
  · simp [g, sLt_asymm g]
  · have hne : a.toList ≠ b.toList := by intro e; rw [toList_inj e, sLt_irrefl] at g; cases g
    simp [g, sLt_asymm g, hne]
theorem at_le {l : List OneM} (w : WF l) (hne : l ≠ []) (k : ByteArray) {i : Nat} (hi : i < l.length) (h0 : 0 < i) : sLt k l[i].bound = !decide (i ≤ atL l k) := by
  obtain ⟨A, o, B, rfl, ha, ws, hlo, hhi, _⟩ := at_split w hne k
  rw [ha]
  by_cases h1 : i ≤ A.length
  · rw [decide_eq_true h1]
    rcases (by omega : i = A.length ∨ i < A.length) with g | g
    · subst g
      rw [List.getElem_append_right (Nat.le_refl _)]
      simp only [Nat.sub_self, List.getElem_cons_zero]
      cases A with
      | nil => simp at h0
      | cons a A => exact hlo _ rfl
    · rw [List.getElem_append_left g]
      cases A with
      | nil => simp at g
      | cons a A =>
        cases i with
        | zero => omega
        | succ i =>
          have g' : i < A.length := by simpa using g
          have h2 := wf_tail ws A[i] (List.getElem_mem _)
          simp only [List.getElem_cons_succ]
          cases h3 : sLt k A[i].bound with
          | false => rfl
          | true =>
            have := hlo _ rfl
            rw [sLt_trans h3 h2] at this
            cases this
  · rw [decide_eq_false h1]
    obtain ⟨j, rfl⟩ : ∃ j, i = A.length + (j + 1) := ⟨i - A.length - 1, by omega⟩
    have h2 : j < B.length := by simp at hi; omega
    rw [List.getElem_append_right (by omega)]
    simp only [Nat.add_sub_cancel_left, List.getElem_cons_succ]
    exact hhi _ (List.getElem_mem h2)
theorem atR_s (hr : RefAt lo h q M ls R) (w : WF M.l) (hne : M.l ≠ []) (k : ByteArray) (hlen : M.l.length < 2 ^ 40) (hQ : Q [.int .i64 (atL M.l k : Nat)] h) : S_liveryref10_Leaves_at (some ⟨q, 0, none⟩) k h Q := by
  refine O_liveryref10_Leaves_at _ _ ?_
  unfold F_liveryref10_Leaves_at
  obtain ⟨n1, n2⟩ := ref_len hr
  have hlt := atL_lt hne k
  intro X hX
  have key : ∀ d i, d + i = R.length → X [.int .i64 ((min (atL M.l k) (i - 1) : Nat) : Int), .int .i64 (i : Int)] h := by
    intro d
    induction d with
    | zero =>
      intro i hi
      refine hX _ _ _ ?_
      simp only [nilW_some, addr_mk, rd_blk hr.blk]
      refine ⟨ls, rfl, ?_⟩
      rw [if_neg (by simp; omega), Nat.min_eq_left (by omega)]
      exact hQ
    | succ d ih =>
      intro i hi
      refine hX _ _ _ ?_
      simp only [nilW_some, addr_mk, rd_blk hr.blk]
      refine ⟨ls, rfl, ?_⟩
      rw [if_pos (by simp; omega)]
      have hil : i < R.length := by omega
      obtain ⟨hi2, m1, m2, m3, m4⟩ := ref_at hr hil
      intro J hJ J2 hJ2
      refine ⟨ls, rfl, ?_⟩
      obtain ⟨a, w1, w2, w3, w4, w5⟩ := rdR hr.own hil
      rw [w1]
      simp only [nilW_some, Int.toNat_natCast]
      refine ⟨by omega, by omega, _, w3, ?_⟩
      have yes : i ≤ atL M.l k → J2 [.bool true] h := by
        intro hle
        refine hJ2 _ _ ?_
        rw [if_pos rfl]
        refine hJ _ _ ?_
        rw [wrap64 (by omega) (by omega)]
        have := ih (i + 1) (by omega)
        rw [Nat.add_sub_cancel, Nat.min_eq_right hle] at this
        simpa using this
      have no : ¬ i ≤ atL M.l k → J2 [.bool false] h := by
        intro hle
        refine hJ2 _ _ ?_
        rw [if_neg (by decide)]
        refine hJ _ _ ?_
        rw [wrap64 (by omega) (by omega), Nat.min_eq_left (by omega)]
        have := ih (i + 1) (by omega)
        rw [Nat.add_sub_cancel, Nat.min_eq_left (by omega)] at this
        simpa using this
      by_cases h0 : i = 0
      · rw [m3, decide_eq_true h0, if_pos rfl]
        exact yes (by omega)
      · rw [m3, decide_eq_false h0, if_neg (by decide)]
        refine ⟨ls, by rw [w1]; rfl, ?_⟩
        rw [w1]
        simp only [nilW_some]
        refine ⟨by omega, by omega, _, w4, ?_⟩
        rw [le_not, m4 (by omega), at_le w hne k hi2 (by omega), Bool.not_not]
        by_cases hle : i ≤ atL M.l k
        · rw [decide_eq_true hle]; exact yes hle
        · rw [decide_eq_false hle]; exact no hle
  have := key R.length 0 (by omega)
  simpa using this
theorem HasR_s (hr : RefAt lo h q M ls R) (w : WF M.l) (hne : M.l ≠ []) (k : ByteArray) (hlen : M.l.length < 2 ^ 40) (hks : ∀ o ∈ M.l, o.keys.length ≤ 2 ^ 20) (hQ : Q [.bool (hasK (M.l[atL M.l k]'(atL_lt hne k)).keys k)] h) : S_liveryref10_Leaves_Has (some ⟨q, 0, none⟩) k h Q := by
  refine O_liveryref10_Leaves_Has _ _ ?_
  unfold F_liveryref10_Leaves_Has
  obtain ⟨n1, n2⟩ := ref_len hr
  have hlt := atL_lt hne k
  simp only [nilW_some, addr_mk, rd_blk hr.blk]
  refine ⟨ls, rfl, ?_⟩
  refine atR_s hr w hne k hlen ⟨_, rfl, by simp [rd_blk hr.blk], ?_⟩
  have hil : atL M.l k < R.length := by omega
  obtain ⟨hi2, m1, m2, m3, m4⟩ := ref_at hr hil
  obtain ⟨a, w1, w2, w3, w4, w5⟩ := rdR hr.own hil
  rw [w1]
  simp only [nilW_some, Int.toNat_natCast]
  refine ⟨by omega, by omega, R[atL M.l k].ks, w5, ?_⟩
  have hk := (hr.keys _ (List.getElem_mem hil)).sl.reads
  rw [m2] at hk
  have hkn := hk.1
  have hkl := hks _ (List.getElem_mem hlt)
  intro X hX
  have key : ∀ d i, d + i = (M.l[atL M.l k]).keys.length → (∀ j (hj : j < (M.l[atL M.l k]).keys.length), j < i → ((M.l[atL M.l k]).keys[j].toList == k.toList) = false) → X [.int .i64 (i : Int)] h := by
    intro d
    induction d with
    | zero =>
      intro i hi hall
      refine hX _ _ ?_
      rw [if_neg (by simp; omega)]
      have : hasK (M.l[atL M.l k]).keys k = false := by
        unfold hasK
        rw [List.any_eq_false]
        intro y hy
        obtain ⟨j, hj, rfl⟩ := List.getElem_of_mem hy
        rw [hall j hj (by omega)]
        decide
      rw [this] at hQ
      exact hQ
    | succ d ih =>
      intro i hi hall
      refine hX _ _ ?_
      rw [if_pos (by simp; omega)]
      have hil2 : i < (M.l[atL M.l k]).keys.length := by omega
      obtain ⟨ka, u1, u2⟩ := rdB hk (i := i) hil2
      rw [u1]
      simp only [nilW_some, Int.toNat_natCast]
      refine ⟨by omega, by omega, _, u2, ?_⟩
      cases hb : ((M.l[atL M.l k]).keys[i].toList == k.toList) with
      | true =>
        rw [if_pos rfl]
        have : hasK (M.l[atL M.l k]).keys k = true := by
          unfold hasK
          rw [List.any_eq_true]
          exact ⟨_, List.getElem_mem hil2, hb⟩
        rw [this] at hQ
        exact hQ
      | false =>
        rw [if_neg (by decide), wrap64 (by omega) (by omega)]
        have := ih (i + 1) (by omega) fun j hj hji => by
          rcases (by omega : j < i ∨ j = i) with g | g
          · exact hall j hj g
          · subst g; exact hb
        simpa using this
  have := key _ 0 (by omega) (by intro j hj h; omega)
  simpa using this
theorem AllR_s (hr : RefAt lo h q M ls R) (hlen : M.l.length < 2 ^ 30) (hQ : ∀ h' s, Ext [] h h' → Own T_int 1 encIL h.size h' s (M.l.map OneM.n) → Q [.slice s.a s.n s.c] h') : S_liveryref10_Leaves_All (some ⟨q, 0, none⟩) h Q := by
  refine O_liveryref10_Leaves_All _ ?_
  unfold F_liveryref10_Leaves_All
  obtain ⟨n1, n2⟩ := ref_len hr
  intro X hX
  have key : ∀ d i g s, d + i = R.length → Ext [] h g → Own T_int 1 encIL h.size g s ((M.l.take i).map OneM.n) → X [.slice s.a s.n s.c, .int .i64 (i : Int)] g := by
    intro d
    induction d with
    | zero =>
      intro i g s hi he ho
      refine hX s _ _ ?_
      have hr2 := hr.ext0 he
      simp only [nilW_some, addr_mk, rd_blk hr2.blk]
      refine ⟨ls, rfl, ?_⟩
      rw [if_neg (by simp; omega)]
      rw [List.take_of_length_le (by omega)] at ho
      exact hQ g s he ho
    | succ d ih =>
      intro i g s hi he ho
      refine hX s _ _ ?_
      have hr2 := hr.ext0 he
      simp only [nilW_some, addr_mk, rd_blk hr2.blk]
      refine ⟨ls, rfl, ?_⟩
      rw [if_pos (by simp; omega)]
      refine ⟨ls, rfl, ?_⟩
      have hil : i < R.length := by omega
      obtain ⟨hi2, m1, m2, m3, m4⟩ := ref_at hr hil
      obtain ⟨a, w1, w2, w3, w4, w5⟩ := rdR hr2.own hil
      rw [w1]
      simp only [nilW_some, Int.toNat_natCast]
      refine ⟨by omega, by omega, _, w2, ?_⟩
      refine app1 (x := R[i].m.n) ho rfl zcInt encIL_len encIL_one (by simp; omega) (by decide) he.sz fun s' g' ho' he' _ => ?_
      rw [wrap64 (by omega) (by omega)]
      have := ih (i + 1) g' s' (by omega) (he.trans he' fun b hb hlt => by have := ho.blk b hb; omega) (by
        rw [List.take_add_one, List.getElem?_eq_getElem hi2, Option.toList_some, List.map_append]
        rw [m1] at ho'
        exact ho')
      simpa using this
  have := key R.length 0 h ⟨none, 0, 0⟩ (by omega) (Ext.refl _ _) (by simpa using Own.nil _ _)
  simpa using this
theorem LenR_s (hr : RefAt lo h q M ls R) (hlen : M.l.length ≤ 2 ^ 20) (hks : ∀ o ∈ M.l, o.keys.length ≤ 2 ^ 20) (hQ : Q [.int .i64 (sumL M.l)] h) : S_liveryref10_Leaves_Len (some ⟨q, 0, none⟩) h Q := by
  refine O_liveryref10_Leaves_Len _ ?_
  unfold F_liveryref10_Leaves_Len
  obtain ⟨n1, n2⟩ := ref_len hr
  intro X hX
  have key : ∀ d i, d + i = R.length → X [.int .i64 (sumL (M.l.take i)), .int .i64 (i : Int)] h := by
    intro d
    induction d with
    | zero =>
      intro i hi
      refine hX _ _ _ ?_
      simp only [nilW_some, addr_mk, rd_blk hr.blk]
      refine ⟨ls, rfl, ?_⟩
      rw [if_neg (by simp; omega), List.take_of_length_le (by omega)]
      exact hQ
    | succ d ih =>
      intro i hi
      refine hX _ _ _ ?_
      simp only [nilW_some, addr_mk, rd_blk hr.blk]
      refine ⟨ls, rfl, ?_⟩
      rw [if_pos (by simp; omega)]
      refine ⟨ls, rfl, ?_⟩
      have hil : i < R.length := by omega
      obtain ⟨hi2, m1, m2, m3, m4⟩ := ref_at hr hil
      obtain ⟨a, w1, w2, w3, w4, w5⟩ := rdR hr.own hil
      rw [w1]
      simp only [nilW_some, Int.toNat_natCast]
      refine ⟨by omega, by omega, R[i].ks, w5, ?_⟩
      have hkn := (hr.keys _ (List.getElem_mem hil)).1
      rw [m2] at hkn
      have hb := sumL_le (M.l.take i) (2 ^ 20) fun o ho => hks o (List.mem_of_mem_take ho)
      have hki := hks _ (List.getElem_mem hi2)
      have hlt : ((M.l.take i).length : Int) * ((2 ^ 20 : Nat) : Int) ≤ 2 ^ 40 := by
        have : (M.l.take i).length ≤ 2 ^ 20 := by simp; omega
        have h3 := Nat.mul_le_mul_right (2 ^ 20) this
        have h4 : (2 : Nat) ^ 20 * 2 ^ 20 = 2 ^ 40 := by decide
        rw [h4] at h3
        have : (((M.l.take i).length * 2 ^ 20 : Nat) : Int) ≤ ((2 ^ 40 : Nat) : Int) := Int.ofNat_le.2 h3
        rw [Int.natCast_mul] at this
        exact this
      rw [wrap64 (x := sumL (M.l.take i) + _) (by omega) (by omega), wrap64 (by omega) (by omega)]
      have := ih (i + 1) (by omega)
      have e : sumL (M.l.take (i + 1)) = sumL (M.l.take i) + (R[i].ks.n : Int) := by
        rw [List.take_add_one, List.getElem?_eq_getElem hi2, Option.toList_some, hkn]
        unfold sumL
        rw [List.foldl_append]
        rfl
      rw [e] at this
      exact this
  have := key R.length 0 (by omega)
  exact this
theorem NewR_s {fan : Int} (hf : 2 ≤ fan ∧ fan ≤ 64) (hlo : lo ≤ h.size) (hQ : ∀ h' q ls R, RefAt lo h' q ⟨fan, 2, [⟨1, ByteArray.mk #[], []⟩]⟩ ls R → Ext [] h h' → (∀ b, RFp q ls R b → h.size ≤ b) → Q [.pointer (some ⟨q, 0, none⟩), .int .i64 0] h') : S_liveryref10_New fan h Q := by
  refine O_liveryref10_New _ ?_
  unfold F_liveryref10_New
  intro J hJ
  rw [if_neg (by simp; omega)]
  refine hJ _ _ ?_
  rw [if_neg (by simp; omega)]
  refine newI fun h1 s1 b1 e1 => newI fun h2 s2 b2 e2 => ?_
  refine hQ h2 h1.size ⟨some ⟨h.size, 0, none⟩, 1, 1⟩ [⟨⟨none, 0, 0⟩, true, ⟨1, ByteArray.mk #[], []⟩⟩] ⟨b2, by omega, ?_, ?_, ⟨rfl, rfl, rfl, rfl⟩⟩ (e1.trans0 e2) ?_
  · refine ⟨rfl, fun e => (by cases e), fun a ha => ?_⟩
    cases ha
    exact ⟨h.size, _, rfl, hlo, e2.get b1 (by simp), Nat.le_refl _, by simp, by simp⟩
  · intro r hr
    simp at hr
    subst hr
    exact Own.nil _ _
  · intro b hb
    rcases hb with g | g | ⟨r, hr, g⟩
    · omega
    · simp [sBlk] at g; omega
    · simp at hr; subst hr; simp [sBlk] at g
end
end Go.Lift
namespace Go.Lift
open Go Go.Proofs
set_option maxRecDepth 100000
section
variable {α : Type} {T : TypeId} {sz : Nat} {enc : α → List Value}
theorem Own.setF {lo : Nat} {h : Hp} {s : Sl} {xs : List α} (ho : Own T sz enc lo h s xs) (he : ∀ x, (enc x).length = sz) {i : Nat} (hi : i < xs.length) {x : α} {o : Nat} {v : Value} {K : Hp → Prop} (hos : o < sz)
    (hx : ∀ k, k < sz → (enc x)[k]? = if k = o then some v else (enc xs[i])[k]?)
    (H : ∀ h1, Own T sz enc lo h1 s (xs.set i x) → Ext (sBlk s) h h1 → h1.size = h.size → K h1) : ∃ a, s.a = some a ∧ stOk h (Addr.add (Addr.add a (i * sz)) o) 1 ∧ wth (wrs h (Addr.add (Addr.add a (i * sz)) o) 0 [v]) K := by
  cases hsa : s.a with
  | none => have := (ho.2.1 hsa).1; subst this; simp at hi
  | some a =>
    obtain ⟨b, c, h1, h2, h3, h4, h5, h6⟩ := ho.2.2 a hsa
    subst h1
    refine ⟨_, rfl, ?_⟩
    have hn := ho.1
    have hsz : i * sz + sz ≤ c.size := by
      have g1 : (i + 1) * sz ≤ s.c * sz := Nat.mul_le_mul_right sz (by omega)
      rw [Nat.add_mul] at g1
      omega
    have hlen := flatMap_length he xs
    have hfull : i * sz + sz ≤ s.n * sz := by
      have g1 : (i + 1) * sz ≤ s.n * sz := Nat.mul_le_mul_right sz (by omega)
      rw [Nat.add_mul] at g1
      omega
    rw [addr_mk, addr_mk, Nat.zero_add]
    have hput : putAt c (i * sz + o) [v] = putAt c (i * sz) (enc x) := by
      apply Array.ext_getElem?
      intro j
      rw [putAt_get0 c _ _ j (by simp; omega), putAt_get0 c _ _ j (by rw [he]; omega)]
      simp only [List.length_cons, List.length_nil, he]
      by_cases g1 : i * sz ≤ j ∧ j < i * sz + sz
      · rw [if_pos g1]
        have hxk := hx (j - i * sz) (by omega)
        rw [hxk]
        by_cases g2 : j - i * sz = o
        · rw [if_pos g2, if_pos (by omega), show j - (i * sz + o) = 0 by omega]; rfl
        · rw [if_neg g2, if_neg (by omega), ← flatMap_get he xs i (j - i * sz) hi (by omega), ← h6, show i * sz + (j - i * sz) = j by omega, List.getElem?_take_of_lt (by omega), Array.getElem?_toList]
      · rw [if_neg g1, if_neg (by omega)]
    refine st_blk h3 (by omega) fun h7 s7 b7 e7 => ?_
    rw [hput] at b7
    refine H h7 ⟨by simp [hn], fun e => (by rw [hsa] at e; cases e), fun a' ha' => ?_⟩ (by unfold sBlk; rw [hsa]; exact e7) s7
    rw [hsa] at ha'
    cases ha'
    refine ⟨b, _, rfl, h2, b7, h4, by simpa using h5, ?_⟩
    rw [putAt_all _ _ (by rw [he]; omega), flatMap_set he xs i x hi, ← h6, he]
    rw [List.take_take, Nat.min_eq_left (by omega)]
    have e2 : (List.take (s.n * sz) c.toList).drop ((i + 1) * sz) = (c.toList.drop (i * sz + sz)).take (s.n * sz - (i * sz + sz)) := by
      rw [List.drop_take, Nat.add_mul, Nat.one_mul]
    rw [e2, List.take_append]
    have e3 : (List.take (i * sz) c.toList ++ enc x).length = i * sz + sz := by simp [he]; omega
    rw [e3, List.take_of_length_le (by rw [e3]; omega)]
theorem Own.empty {lo f : Nat} {g : Hp} (hf : Blk g f #[] T) (hlf : lo ≤ f) : Own T sz enc lo g ⟨some ⟨f, 0, none⟩, 0, 0⟩ [] := ⟨rfl, fun e => (by cases e), fun a ha => by cases ha; exact ⟨f, _, rfl, hlf, hf, Nat.le_refl _, by simp, by simp⟩⟩
end
section
variable {lo : Nat} {g : Hp} {s : Sl} {xs : List ByteArray}
theorem Own.cap (ho : Own T_string 1 encB lo g s xs) : s.n ≤ s.c := by
  cases hsa : s.a with
  | none => have := ho.1; rw [(ho.2.1 hsa).1] at this; simp at this; omega
  | some a =>
    obtain ⟨b, c, h1, h2, h3, h4, h5, h6⟩ := ho.2.2 a hsa
    exact h4
theorem takeC (ho : Own T_string 1 encB lo g s xs) {c : Nat} (hc : c ≤ xs.length) : cellsAt g (slAd s.a 0 s.c 1) ((c - 0) * 1) ((xs.take c).flatMap encB) := by
  rw [slAd0]
  exact (ho.takeR hc).sl.reads.2.2
theorem dropC (ho : Own T_string 1 encB lo g s xs) {c : Nat} (hc : c ≤ xs.length) : cellsAt g (slAd s.a c s.c 1) ((s.n - c) * 1) ((xs.drop c).flatMap encB) := by
  rcases Nat.lt_or_ge c xs.length with g1 | g1
  · exact (ho.dropR g1).2.2
  · have hn := ho.1
    rw [List.drop_eq_nil_of_le g1, show s.n - c = 0 by omega]
    cases slAd s.a c s.c 1 with
    | none => rfl
    | some a => exact ⟨rfl, fun i hi => by omega⟩
/-- A key is put behind a part, and the other part behind it. -/
theorem app23 {lo' bk p : Nat} {k : ByteArray} {l1 : Sl} {ys : List ByteArray} {K : Sl → Hp → Prop} (ho : Own T_string 1 encB lo g s xs) (h1 : Own T_string 1 encB lo' g l1 ys) (hb : Blk g bk #[.string k] T_string) (hbl : bk ∉ sBlk l1) (hsl : ∀ b ∈ sBlk s, b ∉ sBlk l1)
    (hp : p ≤ xs.length) (hl : xs.length ≤ 2 ^ 30) (hly : ys.length ≤ 2 ^ 30) (hlo : lo' ≤ g.size)
    (H : ∀ s' g', Own T_string 1 encB lo' g' s' (ys ++ [k] ++ xs.drop p) → Ext (sBlk l1) g g' → K s' g') :
    ∃ cs2 : List Value, cellsAt g (some ⟨bk, 0, none⟩) (1 * 1) cs2 ∧ appS PP T_string 16 1 g ⟨l1.a, l1.n, l1.c⟩ 1 cs2 fun l2 g2 =>
      ∃ cs3 : List Value, cellsAt g2 (slAd s.a p s.c 1) ((s.n - p) * 1) cs3 ∧ appS PP T_string 16 1 g2 ⟨l2.a, l2.n, l2.c⟩ (s.n - p) cs3 K := by
  have hn := ho.1
  have hn1 := h1.1
  refine ⟨[.string k], ?_, ?_⟩
  · have := cellsAt_blk hb (o := 0) (n := 1 * 1) (by simp)
    simpa using this
  · refine app_own (ys := [k]) h1 zc_str encB_len (fun x _ => encB_one x) rfl rfl (by simp only; omega) (by simp only; omega) hlo fun l2 g2 h2 he2 hn2 hb2 => ?_
    have ho2 := ho.ext he2 fun a ha hm => hsl _ (mem_sBlk.2 ⟨a, ha, rfl⟩) hm
    refine ⟨_, dropC ho2 hp, ?_⟩
    have hn2' := h2.1
    refine app_own (ys := xs.drop p) h2 zc_str encB_len (fun x _ => encB_one x) rfl (by simp; omega) (by simp at hn2' ⊢; omega) (by simp at hn2' ⊢; omega) (by have := he2.sz; omega) fun l3 g3 h3 he3 hn3 hb3 => H l3 g3 (by simpa using h3) ?_
    refine he2.trans he3 fun b hb hlt => ?_
    rcases hb2 b hb with q | q
    · exact q
    · omega
/-- The two parts of a slice, and a key between them, put behind an empty slice. -/
theorem app3 {lo' f bk p : Nat} {k : ByteArray} {K : Sl → Hp → Prop} (ho : Own T_string 1 encB lo g s xs) (hf : Blk g f #[] T_string) (hlf : lo' ≤ f) (hb : Blk g bk #[.string k] T_string) (hbf : bk ≠ f) (hsf : f ∉ sBlk s)
    (hp : p ≤ xs.length) (hl : xs.length ≤ 2 ^ 30)
    (H : ∀ s' g', Own T_string 1 encB lo' g' s' (xs.take p ++ [k] ++ xs.drop p) → Ext [f] g g' → K s' g') :
    ∃ cs : List Value, cellsAt g (slAd s.a 0 s.c 1) ((p - 0) * 1) cs ∧ appS PP T_string 16 1 g ⟨some ⟨f, 0, none⟩, 0, 0⟩ (p - 0) cs fun l1 g1 =>
    ∃ cs2 : List Value, cellsAt g1 (some ⟨bk, 0, none⟩) (1 * 1) cs2 ∧ appS PP T_string 16 1 g1 ⟨l1.a, l1.n, l1.c⟩ 1 cs2 fun l2 g2 =>
      ∃ cs3 : List Value, cellsAt g2 (slAd s.a p s.c 1) ((s.n - p) * 1) cs3 ∧ appS PP T_string 16 1 g2 ⟨l2.a, l2.n, l2.c⟩ (s.n - p) cs3 K := by
  refine ⟨_, takeC ho hp, ?_⟩
  have hfs : sBlk ⟨some ⟨f, 0, none⟩, 0, 0⟩ = [f] := rfl
  refine app_own (ys := xs.take p) (Own.empty (lo := lo') hf hlf) zc_str encB_len (fun x _ => encB_one x) rfl (by simp; omega) (by simp only; omega) (by simp only; omega) (by have := blk_lt hf; omega) fun l1 g1 h1 he1 hn1 hb1 => ?_
  rw [hfs] at he1 hb1
  have hz := he1.sz
  have hbg := blk_lt hb
  have hfg := blk_lt hf
  simp only [List.nil_append] at h1
  refine app23 (ho.ext he1 fun a ha hm => hsf (by simp at hm; rw [← hm]; exact mem_sBlk.2 ⟨a, ha, rfl⟩)) h1 (he1.get hb (by simp; exact hbf)) (fun hm => ?_) (fun b hb hm => ?_) hp hl (by simp; omega) (by omega) fun s' g' ho' he' => H s' g' ho' (he1.trans he' fun b hb hlt => ?_)
  · rcases hb1 _ hm with q | q
    · simp at q; exact hbf q
    · omega
  · have := own_lt ho b hb
    rcases hb1 b hm with q | q
    · simp at q; subst q; exact hsf hb
    · omega
  · rcases hb1 b hb with q | q
    · exact q
    · omega
/-- A part of a slice, put behind an empty one. -/
theorem app1s {lo' f m : Nat} {ad : Option Addr} {ys : List ByteArray} {K : Sl → Hp → Prop} (hc : cellsAt g ad (m * 1) (ys.flatMap encB)) (hm : m = ys.length) (hl : m ≤ 2 ^ 30) (hf : Blk g f #[] T_string) (hlf : lo' ≤ f)
    (H : ∀ s' g', Own T_string 1 encB lo' g' s' ys → Ext [f] g g' → (∀ b ∈ sBlk s', b = f ∨ g.size ≤ b) → K s' g') :
    ∃ cs : List Value, cellsAt g ad (m * 1) cs ∧ appS PP T_string 16 1 g ⟨some ⟨f, 0, none⟩, 0, 0⟩ m cs K := by
  refine ⟨_, hc, ?_⟩
  have hfs : sBlk ⟨some ⟨f, 0, none⟩, 0, 0⟩ = [f] := rfl
  refine app_own (ys := ys) (Own.empty (lo := lo') hf hlf) zc_str encB_len (fun x _ => encB_one x) rfl hm (by simp only; omega) (by simp only; omega) (by have := blk_lt hf; omega) fun l1 g1 h1 he1 hn1 hb1 => ?_
  rw [hfs] at he1 hb1
  exact H l1 g1 (by simpa using h1) he1 fun b hb => by simpa using hb1 b hb
end
end Go.Lift
namespace Go.Lift
open Go Go.Proofs
set_option maxRecDepth 100000
theorem rr_iff {t : List (Bool × OneM)} {l : List OneM} : RR t l ↔ t.length = l.length ∧ ∀ i (h1 : i < t.length) (h2 : i < l.length), t[i].2.n = l[i].n ∧ t[i].2.keys = l[i].keys ∧ t[i].1 = decide (i = 0) ∧ (0 < i → t[i].2.bound = l[i].bound) := by
  constructor
  · exact fun h => ⟨rr_len h, fun i h1 h2 => rr_at h h1 h2⟩
  · rintro ⟨h1, h2⟩
    cases t with
    | nil => cases l <;> simp_all [RR]
    | cons r t =>
      cases l with
      | nil => simp at h1
      | cons o l =>
        have h0 := h2 0 (by simp) (by simp)
        simp only [List.getElem_cons_zero] at h0
        refine ⟨by simpa using h0.2.2.1, h0.1, h0.2.1, ?_⟩
        apply List.ext_getElem
        · simpa using h1
        · intro i g1 g2
          have g3 : i < l.length := by simpa using g2
          have := h2 (i + 1) (by simpa using g1) (by simpa using g3)
          simp only [List.getElem_cons_succ] at this
          obtain ⟨a, b, c, d⟩ := this
          have d := d (by omega)
          rw [List.getElem_map]
          have e : t[i] = (t[i].1, ⟨t[i].2.n, t[i].2.bound, t[i].2.keys⟩) := rfl
          rw [e, a, b, c, d]
          simp
theorem ref_rel {R : List RC} {l : List OneM} (hl : R.length = l.length) (h : ∀ i (h1 : i < R.length) (h2 : i < l.length), R[i].m.n = l[i].n ∧ R[i].m.keys = l[i].keys ∧ R[i].op = decide (i = 0) ∧ (0 < i → R[i].m.bound = l[i].bound)) : RR (R.map fun r => (r.op, r.m)) l :=
  rr_iff.2 ⟨by simpa using hl, fun i h1 h2 => by simpa using h i (by simpa using h1) h2⟩
section
variable {lo : Nat} {h h' : Hp} {q : Nat} {M : LeafM} {ls : Sl} {R : List RC} {Q : List Value → Hp → Prop}
theorem setF2 {α : Type} {T : TypeId} {sz : Nat} {enc : α → List Value} {s : Sl} {xs : List α} {a : Addr} (ho : Own T sz enc lo h s xs) (ha : s.a = some a) (he : ∀ x, (enc x).length = sz) {i : Nat} (hi : i < xs.length) {x : α} {o : Nat} {v : Value} {K : Hp → Prop} (hos : o < sz)
    (hx : ∀ k, k < sz → (enc x)[k]? = if k = o then some v else (enc xs[i])[k]?)
    (H : ∀ h1, Own T sz enc lo h1 s (xs.set i x) → Ext (sBlk s) h h1 → h1.size = h.size → K h1) : stOk h (Addr.add (Addr.add a (i * sz)) o) 1 ∧ wth (wrs h (Addr.add (Addr.add a (i * sz)) o) 0 [v]) K := by
  obtain ⟨a', e, hh⟩ := ho.setF he hi hos hx H
  rw [ha] at e
  cases e
  exact hh
/-- The keys of one of the reference's leaves are other ones. -/
theorem RefAt.setK (hr : RefAt lo h q M ls R) {i : Nat} (hi : i < R.length) {hi2 : i < M.l.length} {ks : Sl} {K : List ByteArray} (he : Ext (sBlk ls) h h') (ho : Own T_liveryref10_Leaf 4 encR lo h' ls (R.set i ⟨ks, R[i].op, { R[i].m with keys := K }⟩)) (hk : Own T_string 1 encB lo h' ks K) :
    RefAt lo h' q { M with l := M.l.set i { M.l[i] with keys := K } } ls (R.set i ⟨ks, R[i].op, { R[i].m with keys := K }⟩) := by
  refine ⟨he.get hr.blk (fun hm => hr.own.other (T' := T_liveryref10_Leaves) (by decide) _ hm _ _ hr.blk), hr.le, ho, fun r hm => ?_, ref_rel ?_ ?_⟩
  · rcases List.mem_or_eq_of_mem_set hm with g | g
    · exact (hr.keys r g).extT he (hr.own.other (by decide))
    · subst g; exact hk
  · simp [(ref_len hr).2]
  · intro j h1 h2
    simp only [List.length_set] at h1 h2
    obtain ⟨_, m1, m2, m3, m4⟩ := ref_at hr h1
    rw [List.getElem_set, List.getElem_set]
    by_cases e : i = j
    · subst e
      rw [if_pos rfl, if_pos rfl]
      exact ⟨m1, rfl, m3, m4⟩
    · rw [if_neg e, if_neg e]
      exact ⟨m1, m2, m3, m4⟩
/-- The reference's list is another one: a leaf is cut in two. -/
theorem RefAt.cut {hz : Hp} {M0 : LeafM} (hr : RefAt lo hz q M0 ls R) {i : Nat} (hi : i < R.length) {hi2 : i < M0.l.length} {out sy sz : Sl} {K1 K2 : List ByteArray} {nz nx : Int} {bz : ByteArray} (he : Ext [q] hz h') (hb : Blk h' q #[.slice out.a out.n out.c, .int .i64 M0.fan, .int .i64 nx] T_liveryref10_Leaves)
    (ho : Own T_liveryref10_Leaf 4 encR lo h' out (R.take i ++ [⟨sy, R[i].op, { R[i].m with keys := K1 }⟩, ⟨sz, false, ⟨nz, bz, K2⟩⟩] ++ R.drop (i + 1))) (hy : Own T_string 1 encB lo h' sy K1) (hsz : Own T_string 1 encB lo h' sz K2) :
    RefAt lo h' q ⟨M0.fan, nx, M0.l.take i ++ [{ M0.l[i] with keys := K1 }, ⟨nz, bz, K2⟩] ++ M0.l.drop (i + 1)⟩ out (R.take i ++ [⟨sy, R[i].op, { R[i].m with keys := K1 }⟩, ⟨sz, false, ⟨nz, bz, K2⟩⟩] ++ R.drop (i + 1)) := by
  have hq : Other T_string hz [q] := fun b hb c fz => by simp at hb; subst hb; exact other_blk hr.blk (by decide) c fz
  have hRl := (ref_len hr).2
  refine ⟨hb, hr.le, ho, fun r hm => ?_, ref_rel ?_ ?_⟩
  · simp only [List.mem_append, List.mem_cons, List.not_mem_nil, or_false] at hm
    rcases hm with (g | g | g) | g
    · exact (hr.keys r (List.mem_of_mem_take g)).extT he hq
    · subst g; exact hy
    · subst g; exact hsz
    · exact (hr.keys r (List.mem_of_mem_drop g)).extT he hq
  · simp; omega
  · intro j h1 h2
    simp only [List.length_append, List.length_take, List.length_cons, List.length_nil, List.length_drop] at h1 h2
    have t1 : (R.take i).length = i := by simp; omega
    have t2 : (M0.l.take i).length = i := by simp; omega
    rcases (by omega : j < i ∨ j = i ∨ j = i + 1 ∨ i + 1 < j) with g | g | g | g
    · obtain ⟨_, m1, m2, m3, m4⟩ := ref_at hr (i := j) (by omega)
      have e1 : (R.take i ++ [⟨sy, R[i].op, { R[i].m with keys := K1 }⟩, ⟨sz, false, ⟨nz, bz, K2⟩⟩] ++ R.drop (i + 1))[j]? = R[j]? := by
        rw [List.append_assoc, List.getElem?_append_left (by omega), List.getElem?_take_of_lt g]
      have e2 : (M0.l.take i ++ [{ M0.l[i] with keys := K1 }, ⟨nz, bz, K2⟩] ++ M0.l.drop (i + 1))[j]? = M0.l[j]? := by
        rw [List.append_assoc, List.getElem?_append_left (by omega), List.getElem?_take_of_lt g]
      rw [List.getElem?_eq_getElem (by simp; omega), List.getElem?_eq_getElem (by omega)] at e1 e2
      rw [Option.some.inj e1, Option.some.inj e2]
      exact ⟨m1, m2, m3, m4⟩
    · obtain ⟨_, m1, m2, m3, m4⟩ := ref_at hr (i := i) (by omega)
      subst g
      have e1 : (R.take j ++ [⟨sy, R[j].op, { R[j].m with keys := K1 }⟩, ⟨sz, false, ⟨nz, bz, K2⟩⟩] ++ R.drop (j + 1))[j]? = some ⟨sy, R[j].op, { R[j].m with keys := K1 }⟩ := by
        rw [List.append_assoc, List.getElem?_append_right (by omega), t1, Nat.sub_self]; rfl
      have e2 : (M0.l.take j ++ [{ M0.l[j] with keys := K1 }, ⟨nz, bz, K2⟩] ++ M0.l.drop (j + 1))[j]? = some { M0.l[j] with keys := K1 } := by
        rw [List.append_assoc, List.getElem?_append_right (by omega), t2, Nat.sub_self]; rfl
      rw [List.getElem?_eq_getElem (by simp; omega)] at e1 e2
      rw [Option.some.inj e1, Option.some.inj e2]
      exact ⟨m1, rfl, m3, m4⟩
    · subst g
      have e1 : (R.take i ++ [⟨sy, R[i].op, { R[i].m with keys := K1 }⟩, ⟨sz, false, ⟨nz, bz, K2⟩⟩] ++ R.drop (i + 1))[i + 1]? = some ⟨sz, false, ⟨nz, bz, K2⟩⟩ := by
        rw [List.append_assoc, List.getElem?_append_right (by omega), t1, Nat.add_sub_cancel_left]; rfl
      have e2 : (M0.l.take i ++ [{ M0.l[i] with keys := K1 }, ⟨nz, bz, K2⟩] ++ M0.l.drop (i + 1))[i + 1]? = some ⟨nz, bz, K2⟩ := by
        rw [List.append_assoc, List.getElem?_append_right (by omega), t2, Nat.add_sub_cancel_left]; rfl
      rw [List.getElem?_eq_getElem (by simp; omega)] at e1 e2
      rw [Option.some.inj e1, Option.some.inj e2]
      exact ⟨rfl, rfl, by simp, fun _ => rfl⟩
    · obtain ⟨_, m1, m2, m3, m4⟩ := ref_at hr (i := j - 1) (by omega)
      have e1 : (R.take i ++ [⟨sy, R[i].op, { R[i].m with keys := K1 }⟩, ⟨sz, false, ⟨nz, bz, K2⟩⟩] ++ R.drop (i + 1))[j]? = R[j - 1]? := by
        rw [List.getElem?_append_right (by simp; omega), List.getElem?_drop]
        congr 1
        simp; omega
      have e2 : (M0.l.take i ++ [{ M0.l[i] with keys := K1 }, ⟨nz, bz, K2⟩] ++ M0.l.drop (i + 1))[j]? = M0.l[j - 1]? := by
        rw [List.getElem?_append_right (by simp; omega), List.getElem?_drop]
        congr 1
        simp; omega
      rw [List.getElem?_eq_getElem (by simp; omega), List.getElem?_eq_getElem (by omega)] at e1 e2
      rw [Option.some.inj e1, Option.some.inj e2]
      exact ⟨m1, m2, by rw [m3]; exact decide_eq_decide.2 (by omega), fun _ => m4 (by omega)⟩
end
end Go.Lift
namespace Go.Lift
open Go Go.Proofs
set_option maxRecDepth 100000
section
variable {lo n : Nat} {h h' : Hp} {q : Nat} {M : LeafM} {ls : Sl} {R : List RC} {Q : List Value → Hp → Prop}
theorem InsertR_s (hr : RefAt lo h q M ls R) (ok : OkM M n) (hn : n < 2 ^ 15) (hlo : lo ≤ h.size) (k : ByteArray)
    (hQ : ∀ h' ls' R' S, RefAt lo h' q (M.ins k).1 ls' R' → Ext S h h' → (∀ b ∈ S, RFp q ls R b) → (∀ b, RFp q ls' R' b → RFp q ls R b ∨ h.size ≤ b) →
      Q [.agg #[.int .i64 (M.ins k).2.leaf, .int .i64 (M.ins k).2.mf, .int .i64 (M.ins k).2.mt, .int .i64 (M.ins k).2.err]] h') : S_liveryref10_Leaves_Insert (some ⟨q, 0, none⟩) k h Q := by
  refine O_liveryref10_Leaves_Insert _ _ ?_
  unfold F_liveryref10_Leaves_Insert
  have hMl := ok.len
  have hnx := ok.nx
  have hfan := ok.fan
  refine newI fun h1 s1 b1 e1 => ?_
  have hr1 := hr.ext0 e1
  have early : ∀ e : Int, (M.ins k) = (M, ⟨0, 0, 0, e⟩) → (stOk h1 ⟨h.size, 0, none⟩ 4 ∧ wth (wrs h1 ⟨h.size, 0, none⟩ 0 [.int .i64 0, .int .i64 0, .int .i64 0, .int .i64 e]) fun h2 =>
      ∃ n3 : Int, rd h2 (Addr.add ⟨h.size, 0, none⟩ 0) = some (.int .i64 n3) ∧ ∃ n4 : Int, rd h2 (Addr.add ⟨h.size, 0, none⟩ 1) = some (.int .i64 n4) ∧ ∃ n5 : Int, rd h2 (Addr.add ⟨h.size, 0, none⟩ 2) = some (.int .i64 n5) ∧ ∃ n6 : Int, rd h2 (Addr.add ⟨h.size, 0, none⟩ 3) = some (.int .i64 n6) ∧ Q [.agg #[.int .i64 n3, .int .i64 n4, .int .i64 n5, .int .i64 n6]] h2) := by
    intro e he
    refine st_blk b1 (by simp) fun h2 s2 b2 e2 => ?_
    have e12 : Ext [] h h2 := e1.trans e2 (by intro b hb hlt; simp at hb; omega)
    refine ⟨_, by simp [rd_blk b2]; rfl, _, by simp [rd_blk b2]; rfl, _, by simp [rd_blk b2]; rfl, _, by simp [rd_blk b2]; rfl, ?_⟩
    have := hQ h2 ls R [] (by rw [he]; exact hr.ext0 e12) e12 (by simp) (fun b hb => Or.inl hb)
    rw [he] at this
    exact this
  by_cases hk : k.size > 1024
  · rw [if_pos (by simp; omega)]
    exact early 2 (by unfold LeafM.ins; rw [if_pos hk])
  rw [if_neg (by simp; omega)]
  have hlt := atL_lt ok.ne k
  have hins := ins_eq hk hlt
  unfold LeafM.insAt at hins
  refine HasR_s hr1 ok.wf ok.ne k (by omega) (fun o ho => by have := (ok.ord o ho).2; omega) ⟨_, rfl, ?_⟩
  cases hh : hasK (M.l[atL M.l k]).keys k with
  | true =>
    rw [if_pos rfl]
    rw [hh, if_pos rfl] at hins
    exact early 62 hins
  | false =>
  rw [if_neg (by decide)]
  rw [hh, if_neg (by decide)] at hins
  refine atR_s hr1 ok.wf ok.ne k (by omega) ⟨_, rfl, ?_⟩
  obtain ⟨n1, n2⟩ := ref_len hr
  have hiR : atL M.l k < R.length := by omega
  obtain ⟨_, m1, m2, m3, m4⟩ := ref_at hr hiR
  simp only [nilW_some, addr_mk, rd_blk hr1.blk]
  refine ⟨ls, rfl, ?_⟩
  obtain ⟨a, w1, w2, w3, w4, w5⟩ := rdR hr1.own hiR
  rw [w1]
  simp only [nilW_some, Int.toNat_natCast]
  refine ⟨by omega, by omega, R[atL M.l k].ks, w5, ?_⟩
  have hk1 := hr1.keys _ (List.getElem_mem hiR)
  rw [m2] at hk1
  have hor := ok.ord _ (List.getElem_mem hlt)
  have hkn := hk1.1
  have hkl := ok.keys _ (List.getElem_mem hlt)
  have hpl : posK (M.l[atL M.l k]).keys k ≤ (M.l[atL M.l k]).keys.length := (List.takeWhile_sublist _).length_le
  intro X hX
  have hK := putK_len (M.l[atL M.l k]).keys k
  have hps := posK_spec hor.1 k
  have exit : ∀ p : Nat, p = posK (M.l[atL M.l k]).keys k → X [.int .i64 (p : Int)] h1 := by
    intro p hp
    refine hX _ _ ?_
    intro J hJ
    have go : J [.bool false] h1 := by
      refine hJ _ _ ?_
      rw [if_neg (by decide)]
      intro J28 hJ28
      have fin28 : ∀ g l', Ext [] h1 g → Own T_string 1 encB h1.size g l' (putK (M.l[atL M.l k]).keys k) → J28 [.slice l'.a l'.n l'.c] g := by
        intro g l' eg hl'
        refine hJ28 l' _ ?_
        have hr2 := hr1.ext0 eg
        have hlst := own_lt hr.own
        have hqh : q < h.size := blk_lt hr.blk
        have zg := eg.sz
        simp only [nilW_some, addr_mk, rd_blk hr2.blk]
        refine ⟨ls, rfl, ?_⟩
        rw [w1]
        simp only [nilW_some, Int.toNat_natCast]
        obtain ⟨a', w1', x2, x3, x4, x5⟩ := rdR hr2.own hiR
        obtain rfl : a' = a := by rw [w1] at w1'; exact (Option.some.inj w1').symm
        refine ⟨by omega, by omega, _, x2, ?_⟩
        rw [m1]
        refine varI rfl rfl fun g1 t1 d1 f1 => ?_
        have hr3 := hr2.ext0 f1
        have v1 := f1.get (eg.get b1 (by simp)) (by simp)
        have hl1 := hl'.ext0 f1
        have hln := hl1.1
        simp only [rd_blk hr3.blk]
        refine ⟨M.fan, by simp, ?_⟩
        by_cases hle : ((putK (M.l[atL M.l k]).keys k).length : Int) ≤ M.fan
        · rw [if_pos (by simp; omega)]
          rw [if_pos hle] at hins
          refine ⟨ls, by simp, ?_⟩
          rw [w1]
          simp only [nilW_some]
          refine ⟨by omega, by omega, ?_⟩
          refine setF2 (x := ⟨l', R[atL M.l k].op, { R[atL M.l k].m with keys := putK (M.l[atL M.l k]).keys k }⟩) hr3.own w1 encR_len hiR (by decide) (by
            intro c hc
            rcases (by omega : c = 0 ∨ c = 1 ∨ c = 2 ∨ c = 3) with rfl | rfl | rfl | rfl <;> rfl) fun g2 ho2 f2 t2 => ?_
          have d2 := f2.get d1 (fun hm => by have := hlst _ hm; omega)
          have v2 := f2.get v1 (fun hm => by have := hlst _ hm; omega)
          have hr4 := hr3.setK (hi2 := hlt) hiR f2 ho2 (hl1.extT f2 (hr3.own.other (by decide)) |>.mono (by omega))
          refine ⟨_, by simp [rd_blk d2]; rfl, _, by simp [rd_blk d2]; rfl, _, by simp [rd_blk d2]; rfl, _, by simp [rd_blk d2]; rfl, ?_⟩
          refine st_blk v2 (by simp) fun g3 t3 v3 f3 => ?_
          refine ⟨_, by simp [rd_blk v3]; rfl, _, by simp [rd_blk v3]; rfl, _, by simp [rd_blk v3]; rfl, _, by simp [rd_blk v3]; rfl, ?_⟩
          have hfp : ∀ b, RFp q ls (R.set (atL M.l k) ⟨l', R[atL M.l k].op, { R[atL M.l k].m with keys := putK (M.l[atL M.l k]).keys k }⟩) b → RFp q ls R b ∨ h1.size ≤ b := by
            intro b hb
            rcases hb with g | g | ⟨r, hm, g⟩
            · exact Or.inl (Or.inl g)
            · exact Or.inl (Or.inr (Or.inl g))
            · rcases List.mem_or_eq_of_mem_set hm with g4 | g4
              · exact Or.inl (Or.inr (Or.inr ⟨r, g4, g⟩))
              · subst g4; exact Or.inr (hl'.blk b g)
          have hr5 := hr4.extF f3 (fun b hb hm => by
            simp at hm
            rcases hfp b hb with g | g
            · have := rfp_lt hr g; omega
            · omega)
          have hq := hQ g3 ls _ (sBlk ls) (by rw [hins]; exact hr5) ((((e1.trans0 eg).trans0 f1).mono (by simp)).trans f2 (fun b hb _ => hb) |>.trans f3 (by intro b hb hlt; simp at hb; omega)) (fun b hb => Or.inr (Or.inl hb)) (fun b hb => (hfp b hb).imp id fun g => by omega)
          rw [hins] at hq
          exact hq
        · rw [if_neg (by simp; omega)]
          rw [if_neg hle] at hins
          have hcut : IntKind.wrap .i64 (Int.tdiv (IntKind.wrap .i64 ((l'.n : Int) + 1)) 2) = ((((putK (M.l[atL M.l k]).keys k).length + 1) / 2 : Nat) : Int) := by
            rw [wrap64 (x := (l'.n : Int) + 1) (by omega) (by omega), Int.tdiv_eq_ediv_of_nonneg (by omega), wrap64 (by omega) (by omega)]
            omega
          rw [hcut]
          have hcl : ((putK (M.l[atL M.l k]).keys k).length + 1) / 2 < (putK (M.l[atL M.l k]).keys k).length := by omega
          have hpk := hp
          generalize hcd : ((putK (M.l[atL M.l k]).keys k).length + 1) / 2 = cut at *
          refine ⟨by decide, ?_⟩
          intro J52 hJ52
          have zg1 := f1.sz
          have hcap' := hl1.cap
          have fin52 : ∀ g2 sz bz, Ext [] g1 g2 → Blk g2 bz #[.int .i64 M.next, .bool false, .string ((putK (M.l[atL M.l k]).keys k)[cut]), .slice sz.a sz.n sz.c] T_liveryref10_Leaf → g1.size ≤ bz → Own T_string 1 encB g1.size g2 sz ((putK (M.l[atL M.l k]).keys k).drop cut) → J52 [.pointer (some ⟨bz, 0, none⟩)] g2 := by
            intro g2 sz bz f2 hbz hbg hsz
            refine hJ52 _ _ ?_
            have hr4 := hr3.ext0 f2
            have zz2 := f2.sz
            have hbz2 := blk_lt hbz
            simp only [rd_blk hr4.blk]
            refine ⟨M.next, by simp, ?_⟩
            rw [wrap64 (x := M.next + 1) (by omega) (by omega)]
            refine st_blk hr4.blk (by simp) fun g3 t3 c3 f3 => ?_
            have d2 := f2.get d1 (by simp)
            have v2 := f2.get v1 (by simp)
            have d3 := f3.get d2 (by simp; omega)
            have v3 := f3.get v2 (by simp; omega)
            have z3 := f3.get hbz (by simp; omega)
            refine ⟨(M.l[atL M.l k]).n, by simp [rd_blk d3], M.next, by simp [rd_blk z3], ?_⟩
            have hqo : ∀ T, T_liveryref10_Leaves ≠ T → Other T g2 [q] := fun T hT b hb c fz => by simp at hb; subst hb; exact other_blk hr4.blk hT c fz
            have hr5 : RefAt lo g3 q { M with next := M.next + 1 } ls R := ⟨by simpa using c3, hr4.le, hr4.own.extT f3 (hqo _ (by decide)), fun r hm => (hr4.keys r hm).extT f3 (hqo _ (by decide)), hr4.rel⟩
            have hsz3 := hsz.extT f3 (hqo _ (by decide))
            have hl3 := (hl1.ext0 f2).extT f3 (hqo _ (by decide))
            refine st_blk d3 (by simp) fun g4 t4 c4 f4 => ?_
            have c4' : Blk g4 g.size #[.int .i64 (M.l[atL M.l k]).n, .int .i64 (M.l[atL M.l k]).n, .int .i64 0, .int .i64 0] T_liveryref10_Did := by simpa using c4
            have z4 := f4.get z3 (by simp; omega)
            refine ⟨by simp [rd_blk z4], ?_⟩
            refine st_blk c4' (by simp) fun g5 t5 c5 f5 => ?_
            have c5' : Blk g5 g.size #[.int .i64 (M.l[atL M.l k]).n, .int .i64 (M.l[atL M.l k]).n, .int .i64 M.next, .int .i64 0] T_liveryref10_Did := by simpa using c5
            have z5 := f5.get z4 (by simp; omega)
            intro J63 hJ63
            have f35 : Ext [g.size] g3 g5 := f4.trans f5 (fun b hb _ => hb)
            have loop : ∀ g6 leaf, Ext [g.size] g3 g6 → Blk g6 g.size #[.int .i64 leaf, .int .i64 (M.l[atL M.l k]).n, .int .i64 M.next, .int .i64 0] T_liveryref10_Did → leaf = (if posK (M.l[atL M.l k]).keys k < cut then (M.l[atL M.l k]).n else M.next) → J63 [] g6 := by
              intro g6 leaf f6 d6 hleaf
              have z6 := f6.get z3 (by simp; omega)
              have v6 := f6.get v3 (by simp; omega)
              have hr6 : RefAt lo g6 q { M with next := M.next + 1 } ls R := hr5.extF f6 fun b hb hm => by simp at hm; have := rfp_lt hr hb; omega
              have hsz6 := hsz3.ext f6 fun a ha hm => by simp at hm; have := hsz.blk _ (mem_sBlk.2 ⟨a, ha, rfl⟩); omega
              have hl6 := hl3.ext f6 fun a ha hm => by
                simp at hm
                have := hl'.blk _ (mem_sBlk.2 ⟨a, ha, rfl⟩)
                have := own_lt hl' _ (mem_sBlk.2 ⟨a, ha, rfl⟩)
                omega
              have zz6 := f6.sz
              refine hJ63 _ ?_
              intro X65 hX65
              have plain : ∀ (gg : Hp) (out : Sl) (L : List RC) (j : Nat) (hj : j < R.length), j ≠ atL M.l k → Ext [] g6 gg → Own T_liveryref10_Leaf 4 encR g6.size gg out L → L.length ≤ 2 ^ 20 →
                  (∀ gg' out', Ext [] g6 gg' → Own T_liveryref10_Leaf 4 encR g6.size gg' out' (L ++ [R[j]]) → Ext (sBlk out) gg gg' → X65 [.slice out'.a out'.n out'.c, .int .i64 ((j + 1 : Nat) : Int)] gg') → X65 [.slice out.a out.n out.c, .int .i64 (j : Int)] gg := by
                intro gg out L j hj hja eg6 hout hLl hcb
                refine hX65 out _ _ ?_
                have hrg := hr6.ext0 eg6
                simp only [rd_blk hrg.blk]
                refine ⟨ls, by simp, ?_⟩
                rw [if_pos (by simp; omega)]
                intro J71 hJ71
                refine ⟨ls, by simp, ?_⟩
                obtain ⟨aa, y1, y2, y3, y4, y5⟩ := rdR hrg.own hj
                rw [y1]
                simp only [nilW_some, Int.toNat_natCast]
                refine ⟨by omega, by omega, R[j].m.n, y2, R[j].op, y3, R[j].m.bound, y4, R[j].ks, y5, ?_⟩
                refine varI rfl rfl fun gg1 t7 c7 f7 => ?_
                intro J83 hJ83
                rw [if_neg (by simp; omega)]
                refine hJ83 _ ?_
                refine ⟨R[j].m.n, by simp [rd_blk c7], R[j].op, by simp [rd_blk c7], R[j].m.bound, by simp [rd_blk c7], R[j].ks, by simp [rd_blk c7], ?_⟩
                have eg71 := eg6.trans0 f7
                refine app1 (x := R[j]) (hout.ext0 f7) rfl zcR encR_len encR_one (by omega) (by decide) eg71.sz fun out' gg2 hout' f8 hb8 => ?_
                rw [if_neg (by simp; omega)]
                refine hJ71 out' _ ?_
                rw [wrap64 (by omega) (by omega)]
                have := hcb gg2 out' (eg71.trans f8 fun b hb hlt => by have := hout.blk b hb; omega) hout' ((f7.mono (by simp)).trans f8 (fun b hb _ => hb))
                simpa using this
              have keyA : ∀ d j gg out sy, j + d = R.length → atL M.l k < j → Ext [] g6 gg → Own T_string 1 encB g6.size gg sy ((putK (M.l[atL M.l k]).keys k).take cut) →
                  Own T_liveryref10_Leaf 4 encR g6.size gg out (R.take (atL M.l k) ++ [⟨sy, R[atL M.l k].op, { R[atL M.l k].m with keys := (putK (M.l[atL M.l k]).keys k).take cut }⟩, ⟨sz, false, ⟨M.next, (putK (M.l[atL M.l k]).keys k)[cut], (putK (M.l[atL M.l k]).keys k).drop cut⟩⟩] ++ (R.drop (atL M.l k + 1)).take (j - (atL M.l k + 1))) →
                  X65 [.slice out.a out.n out.c, .int .i64 (j : Int)] gg := by
                intro d
                induction d with
                | zero =>
                  intro j gg out sy hj haj eg6 hsy hout
                  rw [List.take_of_length_le (l := R.drop (atL M.l k + 1)) (by rw [List.length_drop]; omega)] at hout
                  refine hX65 out _ _ ?_
                  have hrg := hr6.ext0 eg6
                  simp only [rd_blk hrg.blk]
                  refine ⟨ls, by simp, ?_⟩
                  rw [if_neg (by simp; omega)]
                  refine st_blk hrg.blk (by simp) fun g8 t8 c8 f8 => ?_
                  have d8 := f8.get (eg6.get d6 (by simp)) (by simp; omega)
                  have v8 := f8.get (eg6.get v6 (by simp)) (by simp; omega)
                  refine ⟨_, by simp [rd_blk d8]; rfl, _, by simp [rd_blk d8]; rfl, _, by simp [rd_blk d8]; rfl, _, by simp [rd_blk d8]; rfl, ?_⟩
                  refine st_blk v8 (by simp) fun g9 t9 c9 f9 => ?_
                  refine ⟨_, by simp [rd_blk c9]; rfl, _, by simp [rd_blk c9]; rfl, _, by simp [rd_blk c9]; rfl, _, by simp [rd_blk c9]; rfl, ?_⟩
                  have hqo8 : ∀ T, T_liveryref10_Leaves ≠ T → Other T gg [q] := fun T hT b hb c fz => by simp at hb; subst hb; exact other_blk hrg.blk hT c fz
                  have hcutR := hrg.cut (hi2 := hlt) hiR (nz := M.next) (nx := M.next + 1) (bz := (putK (M.l[atL M.l k]).keys k)[cut]) f8 (by simpa using c8) ((hout.extT f8 (hqo8 _ (by decide))).mono (by omega)) ((hsy.extT f8 (hqo8 _ (by decide))).mono (by omega)) (((hsz6.ext0 eg6).extT f8 (hqo8 _ (by decide))).mono (by omega))
                  have hfp : ∀ b, RFp q out (R.take (atL M.l k) ++ [⟨sy, R[atL M.l k].op, { R[atL M.l k].m with keys := (putK (M.l[atL M.l k]).keys k).take cut }⟩, ⟨sz, false, ⟨M.next, (putK (M.l[atL M.l k]).keys k)[cut], (putK (M.l[atL M.l k]).keys k).drop cut⟩⟩] ++ R.drop (atL M.l k + 1)) b → RFp q ls R b ∨ h1.size ≤ b := by
                    intro b hb
                    rcases hb with g | g | ⟨r, hm, g⟩
                    · exact Or.inl (Or.inl g)
                    · have := hout.blk b g; exact Or.inr (by omega)
                    · simp only [List.mem_append, List.mem_cons, List.not_mem_nil, or_false] at hm
                      rcases hm with (hm | hm | hm) | hm
                      · exact Or.inl (Or.inr (Or.inr ⟨r, List.mem_of_mem_take hm, g⟩))
                      · subst hm; have := hsy.blk b g; exact Or.inr (by omega)
                      · subst hm; have := hsz.blk b g; exact Or.inr (by omega)
                      · exact Or.inl (Or.inr (Or.inr ⟨r, List.mem_of_mem_drop hm, g⟩))
                  have hr9 := hcutR.extF f9 (fun b hb hm => by
                    simp at hm
                    rcases hfp b hb with g | g
                    · have := rfp_lt hr g; omega
                    · omega)
                  have hgd : (putK (M.l[atL M.l k]).keys k).getD cut (ByteArray.mk #[]) = (putK (M.l[atL M.l k]).keys k)[cut] := by rw [List.getD_eq_getElem?_getD, List.getElem?_eq_getElem hcl]; rfl
                  dsimp only at hins
                  rw [hgd] at hins
                  have eA : Ext [q] h g9 := ((((((e1.trans0 eg).trans0 f1).trans0 f2).mono (by simp)).trans f3 (fun b hb _ => hb)).trans f6 (by intro b hb hlt; simp at hb; omega)).trans0 eg6 |>.trans f8 (fun b hb _ => hb) |>.trans f9 (by intro b hb hlt; simp at hb; omega)
                  have hq := hQ g9 out _ [q] (by rw [hins]; exact hr9) eA (fun b hb => by simp at hb; exact Or.inl hb) (fun b hb => (hfp b hb).imp id fun g => by omega)
                  rw [hins] at hq
                  rw [hleaf]
                  exact hq
                | succ d ih =>
                  intro j gg out sy hj haj eg6 hsy hout
                  have hjR : j < R.length := by omega
                  refine plain gg out _ j hjR (by omega) eg6 hout (by simp; omega) fun gg' out' eg' hout' f' => ?_
                  refine ih (j + 1) gg' out' sy (by omega) (by omega) eg' (hsy.extT f' (hout.other (by decide))) ?_
                  rw [show j + 1 - (atL M.l k + 1) = (j - (atL M.l k + 1)) + 1 by omega, List.take_add_one, List.getElem?_drop, show atL M.l k + 1 + (j - (atL M.l k + 1)) = j by omega, List.getElem?_eq_getElem hjR, Option.toList_some, ← List.append_assoc]
                  exact hout'
              have keyB : ∀ d j gg out, j + d = atL M.l k → Ext [] g6 gg → Own T_liveryref10_Leaf 4 encR g6.size gg out (R.take j) → X65 [.slice out.a out.n out.c, .int .i64 (j : Int)] gg := by
                intro d
                induction d with
                | succ d ih =>
                  intro j gg out hj eg6 hout
                  have hjR : j < R.length := by omega
                  refine plain gg out _ j hjR (by omega) eg6 hout (by simp; omega) fun gg' out' eg' hout' f' => ?_
                  refine ih (j + 1) gg' out' (by omega) eg' ?_
                  rw [List.take_add_one, List.getElem?_eq_getElem hjR, Option.toList_some]
                  exact hout'
                | zero =>
                  intro j gg out hj eg6 hout
                  obtain rfl : j = atL M.l k := by omega
                  refine hX65 out _ _ ?_
                  have hrg := hr6.ext0 eg6
                  simp only [rd_blk hrg.blk]
                  refine ⟨ls, by simp, ?_⟩
                  rw [if_pos (by simp; omega)]
                  intro J71 hJ71
                  refine ⟨ls, by simp, ?_⟩
                  obtain ⟨aa, y1, y2, y3, y4, y5⟩ := rdR hrg.own hiR
                  rw [y1]
                  simp only [nilW_some, Int.toNat_natCast]
                  refine ⟨by omega, by omega, R[atL M.l k].m.n, y2, R[atL M.l k].op, y3, R[atL M.l k].m.bound, y4, R[atL M.l k].ks, y5, ?_⟩
                  refine varI rfl rfl fun gg1 t7 c7 f7 => ?_
                  intro J83 hJ83
                  rw [if_pos (by simp)]
                  refine newI fun gg2 t8 c8 f8 => ?_
                  refine ⟨by omega, ?_⟩
                  have eg72 := (eg6.trans0 f7).trans0 f8
                  have zg6 := eg6.sz
                  refine app1s (lo' := g6.size) (takeC (hl6.ext0 eg72) (c := cut) (by omega)) (by simp; omega) (by omega) c8 (by omega) fun sy gg3 hsy f9 hb9 => ?_
                  have c9 := f9.get (f8.get c7 (by simp)) (by simp; omega)
                  refine st_blk c9 (by simp) fun gg4 t10 c10 f10 => ?_
                  have c10' : Blk gg4 gg.size #[.int .i64 R[atL M.l k].m.n, .bool R[atL M.l k].op, .string R[atL M.l k].m.bound, .slice sy.a sy.n sy.c] T_liveryref10_Leaf := by simpa using c10
                  have f74 : Ext [] gg gg4 := ((f7.trans0 f8).trans f9 (by intro b hb hlt; simp at hb; omega)).trans f10 (by intro b hb hlt; simp at hb; omega)
                  have hsy4 := hsy.ext f10 fun a ha hm => by
                    simp at hm
                    have := hb9 _ (mem_sBlk.2 ⟨a, ha, rfl⟩)
                    omega
                  refine hJ83 _ ?_
                  refine ⟨R[atL M.l k].m.n, by simp [rd_blk c10'], R[atL M.l k].op, by simp [rd_blk c10'], R[atL M.l k].m.bound, by simp [rd_blk c10'], sy, by simp [rd_blk c10'], ?_⟩
                  have eg64 := eg6.trans0 f74
                  have hout4 := hout.ext0 f74
                  refine app1 (x := (⟨sy, R[atL M.l k].op, { R[atL M.l k].m with keys := (putK (M.l[atL M.l k]).keys k).take cut }⟩ : RC)) hout4 rfl zcR encR_len encR_one (by simp; omega) (by decide) eg64.sz fun out5 gg5 hout5 f11 hb11 => ?_
                  rw [if_pos (by simp)]
                  have z11 := f11.get (eg64.get z6 (by simp)) (fun hm => by have := hout.blk _ hm; omega)
                  refine ⟨M.next, by simp [rd_blk z11], false, by simp [rd_blk z11], _, by simp [rd_blk z11]; rfl, sz, by simp [rd_blk z11], ?_⟩
                  have eg65 : Ext [] g6 gg5 := eg64.trans f11 fun b hb hlt => by have := hout.blk b hb; omega
                  refine app1 (x := (⟨sz, false, ⟨M.next, (putK (M.l[atL M.l k]).keys k)[cut], (putK (M.l[atL M.l k]).keys k).drop cut⟩⟩ : RC)) hout5 rfl zcR encR_len encR_one (by simp; omega) (by decide) eg65.sz fun out6 gg6 hout6 f12 hb12 => ?_
                  refine hJ71 out6 _ ?_
                  rw [wrap64 (by omega) (by omega)]
                  have eg66 : Ext [] g6 gg6 := eg65.trans f12 fun b hb hlt => by have := hout5.blk b hb; omega
                  have := keyA (R.length - (atL M.l k + 1)) (atL M.l k + 1) gg6 out6 sy (by omega) (by omega) eg66 ((hsy4.extT f11 (hout4.other (by decide))).extT f12 (hout5.other (by decide))) (by
                    rw [Nat.sub_self, List.take_zero, List.append_nil]
                    rw [List.append_assoc] at hout6
                    exact hout6)
                  simpa using this
              have := keyB (atL M.l k) 0 g6 ⟨none, 0, 0⟩ (by omega) (Ext.refl _ _) (by simpa using Own.nil _ _)
              simpa using this
            by_cases hpc : cut ≤ p
            · rw [if_pos (by simp; omega)]
              refine ⟨M.next, by simp [rd_blk z5], ?_⟩
              refine st_blk c5' (by simp) fun g6 t6 c6 f6 => ?_
              exact loop g6 M.next (f35.trans f6 (fun b hb _ => hb)) (by simpa using c6) (by rw [if_neg (by omega)])
            · rw [if_neg (by simp; omega)]
              exact loop g5 _ f35 c5' (by rw [if_pos (by omega)])
          refine ⟨M.next, by simp, ?_⟩
          obtain ⟨ak, y1, y2⟩ := rdB hl1.sl.reads (i := cut) hcl
          have hl1s := own_lt hl1
          rw [y1]
          simp only [nilW_some, Int.toNat_natCast]
          refine ⟨by omega, by omega, (putK (M.l[atL M.l k]).keys k)[cut], y2, by omega, ⟨?_, ?_⟩⟩
          · refine newI fun g2 t2 c2 f2 => ?_
            have hr4 := hr3.ext0 f2
            refine ⟨rd_ext0 f2 y2, by simp [rd_blk hr4.blk], ⟨?_, ?_⟩⟩
            · rw [← y1]
              refine app1s (lo' := g1.size) (dropC (hl1.ext0 f2) (c := cut) (by omega)) (by simp; omega) (by omega) c2 (Nat.le_refl _) fun sz g3 hsz f3 hbs => ?_
              have f13 : Ext [] g1 g3 := f2.trans f3 (by intro b hb hlt; simp at hb; omega)
              have hr5 := hr3.ext0 f13
              refine ⟨rd_ext0 f13 y2, by simp [rd_blk hr5.blk], ?_⟩
              refine newI fun g4 t4 c4 f4 => ?_
              have f14 := f13.trans0 f4
              refine ⟨rd_ext0 f14 y2, by simp [rd_blk (hr3.ext0 f14).blk], ?_⟩
              refine st_blk c4 (by simp) fun g5 t5 c5 f5 => ?_
              have z13 := f13.sz
              exact fin52 g5 sz g3.size (f14.trans f5 (by intro b hb hlt; simp at hb; omega)) (by simpa using c5) (by omega) ((hsz.ext0 f4).ext f5 fun a ha hm => by simp at hm; have := own_lt hsz _ (mem_sBlk.2 ⟨a, ha, rfl⟩); omega)
            · rw [← y1]
              refine newI fun g3 t3 c3 f3 => ?_
              have f13 := f2.trans0 f3
              refine ⟨rd_ext0 f13 y2, by simp [rd_blk (hr3.ext0 f13).blk], ?_⟩
              refine app1s (lo' := g1.size) (dropC (hl1.ext0 f13) (c := cut) (by omega)) (by simp; omega) (by omega) (f3.get c2 (by simp)) (Nat.le_refl _) fun sz g4 hsz f4 hbs => ?_
              have f14 : Ext [] g1 g4 := f13.trans f4 (by intro b hb hlt; simp at hb; omega)
              refine ⟨rd_ext0 f14 y2, by simp [rd_blk (hr3.ext0 f14).blk], ?_⟩
              refine st_blk (f4.get c3 (by simp; omega)) (by simp) fun g5 t5 c5 f5 => ?_
              exact fin52 g5 sz g2.size (f14.trans f5 (by intro b hb hlt; simp at hb; omega)) (by simpa using c5) (by omega) (hsz.ext f5 fun a ha hm => by simp at hm; have := hbs _ (mem_sBlk.2 ⟨a, ha, rfl⟩); omega)
          · rw [← y1]
            refine newI fun g2 t2 c2 f2 => ?_
            refine ⟨rd_ext0 f2 y2, by simp [rd_blk (hr3.ext0 f2).blk], ?_⟩
            refine newI fun g3 t3 c3 f3 => ?_
            have f13 := f2.trans0 f3
            refine ⟨rd_ext0 f13 y2, by simp [rd_blk (hr3.ext0 f13).blk], ?_⟩
            refine app1s (lo' := g1.size) (dropC (hl1.ext0 f13) (c := cut) (by omega)) (by simp; omega) (by omega) c3 (by omega) fun sz g4 hsz f4 hbs => ?_
            have f14 : Ext [] g1 g4 := f13.trans f4 (by intro b hb hlt; simp at hb; omega)
            refine ⟨rd_ext0 f14 y2, by simp [rd_blk (hr3.ext0 f14).blk], ?_⟩
            refine st_blk (f4.get (f3.get c2 (by simp)) (by simp; omega)) (by simp) fun g5 t5 c5 f5 => ?_
            exact fin52 g5 sz g1.size (f14.trans f5 (by intro b hb hlt; simp at hb; omega)) (by simpa using c5) (by omega) (hsz.ext f5 fun a ha hm => by simp at hm; have := hbs _ (mem_sBlk.2 ⟨a, ha, rfl⟩); omega)
      have hcap := hk1.cap
      have hput : ∀ g l', Own T_string 1 encB h1.size g l' ((M.l[atL M.l k]).keys.take p ++ [k] ++ (M.l[atL M.l k]).keys.drop p) → Own T_string 1 encB h1.size g l' (putK (M.l[atL M.l k]).keys k) := by
        intro g l' ho
        rw [hp] at ho
        exact ho
      have hksz := own_lt hk1
      refine ⟨by omega, by omega, ⟨?_, ?_⟩⟩
      · refine newI fun g1 t1 c1 f1 => ⟨?_, ?_⟩
        · refine app1s (lo' := h1.size) (takeC (hk1.ext0 f1) (c := p) (by omega)) (by simp; omega) (by omega) c1 (Nat.le_refl _) fun l1 g2 ho2 f2 hb2 => ?_
          refine newI fun g3 t3 c3 f3 => ?_
          have z2 := f2.sz
          refine app23 (((hk1.ext0 f1).ext f2 fun a ha hm => by simp at hm; have := hksz _ (mem_sBlk.2 ⟨a, ha, rfl⟩); omega).ext0 f3) (ho2.ext0 f3) c3 (fun hm => by have := hb2 _ hm; have := own_lt ho2 _ hm; omega) (fun b hb hm => by have := hksz b hb; have := hb2 _ hm; omega) (by omega) (by omega) (by simp; omega) (by omega) fun s' g' ho' f' => ?_
          refine fin28 g' s' (((f1.trans f2 (by intro b hb hlt; simp at hb; omega)).trans0 f3).trans f' fun b hb hlt => by have := hb2 _ hb; omega) (hput _ _ ho')
        · refine newI fun g2 t2 c2 f2 => ?_
          refine app3 ((hk1.ext0 f1).ext0 f2) (f2.get c1 (by simp)) (Nat.le_refl _) c2 (by omega) (fun hm => by have := hksz _ hm; omega) (by omega) (by omega) fun s' g' ho' f' => ?_
          exact fin28 g' s' ((f1.trans0 f2).trans f' (by intro b hb hlt; simp at hb; omega)) (hput _ _ ho')
      · refine newI fun g1 t1 c1 f1 => newI fun g2 t2 c2 f2 => ?_
        refine app3 (lo' := h1.size) ((hk1.ext0 f1).ext0 f2) c2 (by omega) (f2.get c1 (by simp)) (by omega) (fun hm => by have := hksz _ hm; omega) (by omega) (by omega) fun s' g' ho' f' => ?_
        exact fin28 g' s' ((f1.trans0 f2).trans f' (by intro b hb hlt; simp at hb; omega)) (hput _ _ ho')
    by_cases hpl2 : p < (M.l[atL M.l k]).keys.length
    · rw [if_pos (by simp; omega)]
      obtain ⟨ka, u1, u2⟩ := rdB hk1.sl.reads (i := p) hpl2
      rw [u1]
      simp only [nilW_some, Int.toNat_natCast]
      refine ⟨by omega, by omega, _, u2, ?_⟩
      have q1 : Op.bytesLess (M.l[atL M.l k]).keys[p].toList k.toList = sLt (M.l[atL M.l k]).keys[p] k := rfl
      have q2 : sLt (M.l[atL M.l k]).keys[p] k = false := hps.2.2 _ (by
        rw [← hp]
        exact List.mem_iff_getElem.2 ⟨0, by simp; omega, by simp⟩)
      rw [q1, q2]
      exact go
    · rw [if_neg (by simp; omega)]
      exact go
  have key : ∀ d p, d + p = (M.l[atL M.l k]).keys.length → (∀ j (hj : j < (M.l[atL M.l k]).keys.length), j < p → sLt (M.l[atL M.l k]).keys[j] k = true) → X [.int .i64 (p : Int)] h1 := by
    intro d
    induction d with
    | succ d ih =>
      intro p hp hall
      have hpl2 : p < (M.l[atL M.l k]).keys.length := by omega
      by_cases hlk : sLt (M.l[atL M.l k]).keys[p] k = true
      · refine hX _ _ ?_
        intro J hJ
        rw [if_pos (by simp; omega)]
        obtain ⟨ka, u1, u2⟩ := rdB hk1.sl.reads (i := p) hpl2
        rw [u1]
        simp only [nilW_some, Int.toNat_natCast]
        refine ⟨by omega, by omega, _, u2, ?_⟩
        have q1 : Op.bytesLess (M.l[atL M.l k]).keys[p].toList k.toList = sLt (M.l[atL M.l k]).keys[p] k := rfl
        rw [q1, hlk]
        refine hJ _ _ ?_
        rw [if_pos rfl, wrap64 (by omega) (by omega)]
        refine ih (p + 1) (by omega) fun j hj hjp => ?_
        rcases (by omega : j < p ∨ j = p) with g | g
        · exact hall j hj g
        · subst g; exact hlk
      · refine exit p (posK_eq (by omega) (fun j hj hjp => hall j hj hjp) fun j hj hjp => ?_).symm
        rcases (by omega : j = p ∨ p < j) with g | g
        · subst g; exact Bool.eq_false_iff.2 hlk
        · cases h3 : sLt (M.l[atL M.l k]).keys[j] k with
          | false => rfl
          | true => exact absurd (sLt_trans (List.pairwise_iff_getElem.1 hor.1 p j hpl2 hj g) h3) hlk
    | zero =>
      intro p hp hall
      exact exit p (posK_eq (by omega) (fun j hj hjp => hall j hj hjp) fun j hj hjp => by omega).symm
  have := key _ 0 (by omega) (by intro j hj h; omega)
  simpa using this
end
end Go.Lift
namespace Go.Lift
open Go Go.Proofs
set_option maxRecDepth 100000
theorem cutK_filter {xs : List ByteArray} (ho : InOrder xs) {k : ByteArray} (hk : hasK xs k = true) : xs.filter (fun s => !(s.toList == k.toList)) = cutK xs k := by
  have hm := hasK_iff.1 hk
  obtain ⟨j, hj, rfl⟩ := List.getElem_of_mem hm
  have hin := List.pairwise_iff_getElem.1 ho
  have hpos : posK xs xs[j] = j := posK_eq (by omega) (fun a ha hlt => hin a j ha hj hlt) fun a ha hle => by
    rcases (by omega : a = j ∨ j < a) with g | g
    · subst g; exact sLt_irrefl _
    · exact sLt_asymm (hin j a hj ha g)
  unfold cutK
  rw [hpos]
  have e : xs = xs.take j ++ xs[j] :: xs.drop (j + 1) := by
    conv => lhs; rw [← List.take_append_drop j xs, List.drop_eq_getElem_cons hj]
  have ne : ∀ {a b : ByteArray}, sLt a b = true → (a.toList == b.toList) = false := by
    intro a b h
    rw [beq_eq_false_iff_ne]
    intro e
    rw [toList_inj e, sLt_irrefl] at h
    cases h
  have ne2 : ∀ {a b : ByteArray}, sLt b a = true → (a.toList == b.toList) = false := by
    intro a b h
    rw [beq_eq_false_iff_ne]
    intro e
    rw [toList_inj e, sLt_irrefl] at h
    cases h
  have h1 : (xs.take j).filter (fun s => !(s.toList == xs[j].toList)) = xs.take j := by
    refine List.filter_eq_self.2 fun s hs => ?_
    obtain ⟨i, hi, rfl⟩ := List.getElem_of_mem hs
    rw [List.length_take] at hi
    rw [List.getElem_take, ne (hin i j (by omega) hj (by omega))]
    rfl
  have h2 : (xs.drop (j + 1)).filter (fun s => !(s.toList == xs[j].toList)) = xs.drop (j + 1) := by
    refine List.filter_eq_self.2 fun s hs => ?_
    obtain ⟨i, hi, rfl⟩ := List.getElem_of_mem hs
    rw [List.length_drop] at hi
    rw [List.getElem_drop, ne2 (hin j (j + 1 + i) hj (by omega) (by omega))]
    rfl
  have h3 : (xs.take j ++ xs[j] :: xs.drop (j + 1)).filter (fun s => !(s.toList == xs[j].toList)) = xs.take j ++ xs.drop (j + 1) := by
    rw [List.filter_append, List.filter_cons_of_neg (by simp), h1, h2]
  rw [← e] at h3
  exact h3
def dropT (R : List RC) (i : Nat) (h : 1 < R.length) : List RC := if i = 0 then R.set 1 ⟨R[1].ks, true, { R[1].m with bound := ByteArray.mk #[] }⟩ else R
theorem dropT_len (R : List RC) (i : Nat) (h : 1 < R.length) : (dropT R i h).length = R.length := by unfold dropT; split <;> simp
theorem dropT_at (R : List RC) (i : Nat) (h : 1 < R.length) {j : Nat} (hj : j < (dropT R i h).length) (hj2 : j < R.length) : (dropT R i h)[j].m.n = R[j].m.n ∧ (dropT R i h)[j].m.keys = R[j].m.keys ∧ (dropT R i h)[j].ks = R[j].ks ∧ (dropT R i h)[j].op = (R[j].op || decide (i = 0 ∧ j = 1)) ∧ (¬ (i = 0 ∧ j = 1) → (dropT R i h)[j] = R[j]) := by
  have e : (dropT R i h)[j]? = if i = 0 ∧ j = 1 then some ⟨R[1].ks, true, { R[1].m with bound := ByteArray.mk #[] }⟩ else R[j]? := by
    unfold dropT
    by_cases h0 : i = 0
    · rw [if_pos h0]
      by_cases h1 : j = 1
      · subst h1
        rw [if_pos ⟨h0, rfl⟩, List.getElem?_set_self h]
      · rw [if_neg (fun g => h1 g.2), List.getElem?_set_ne (fun g => h1 g.symm)]
    · rw [if_neg h0, if_neg (fun g => h0 g.1)]
  rw [List.getElem?_eq_getElem hj] at e
  by_cases h1 : i = 0 ∧ j = 1
  · rw [if_pos h1] at e
    rw [Option.some.inj e]
    obtain ⟨hi0, rfl⟩ := h1
    exact ⟨rfl, rfl, rfl, by simp [hi0], fun g => absurd ⟨hi0, rfl⟩ g⟩
  · rw [if_neg h1, List.getElem?_eq_getElem hj2] at e
    rw [Option.some.inj e]
    exact ⟨rfl, rfl, rfl, by simp [h1], fun _ => rfl⟩
section
variable {lo n : Nat} {h h' : Hp} {q : Nat} {M : LeafM} {ls : Sl} {R : List RC} {Q : List Value → Hp → Prop}
/-- The reference's list is another one: a leaf is gone. -/
theorem RefAt.del {hz : Hp} (hr : RefAt lo hz q M ls R) {i : Nat} (hi : i < R.length) (h1 : 1 < R.length) {out : Sl} (he : Ext [q] hz h') (hb : Blk h' q #[.slice out.a out.n out.c, .int .i64 M.fan, .int .i64 M.next] T_liveryref10_Leaves)
    (ho : Own T_liveryref10_Leaf 4 encR lo h' out (R.take i ++ (dropT R i h1).drop (i + 1))) :
    RefAt lo h' q ⟨M.fan, M.next, M.l.take i ++ M.l.drop (i + 1)⟩ out (R.take i ++ (dropT R i h1).drop (i + 1)) := by
  have hq : Other T_string hz [q] := fun b hb c fz => by simp at hb; subst hb; exact other_blk hr.blk (by decide) c fz
  have hRl := (ref_len hr).2
  have hTl := dropT_len R i h1
  refine ⟨hb, hr.le, ho, fun r hm => ?_, ref_rel ?_ ?_⟩
  · rcases List.mem_append.1 hm with g | g
    · exact (hr.keys r (List.mem_of_mem_take g)).extT he hq
    · obtain ⟨j, hj, rfl⟩ := List.getElem_of_mem (List.mem_of_mem_drop g)
      obtain ⟨t1, t2, t3, t4, t5⟩ := dropT_at R i h1 hj (by omega)
      rw [t2, t3]
      exact (hr.keys _ (List.getElem_mem _)).extT he hq
  · simp; omega
  · intro j g1 g2
    simp only [List.length_append, List.length_take, List.length_drop] at g1 g2
    have t1 : (R.take i).length = i := by simp; omega
    have t2 : (M.l.take i).length = i := by simp; omega
    rcases Nat.lt_or_ge j i with g | g
    · obtain ⟨_, m1, m2, m3, m4⟩ := ref_at hr (i := j) (by omega)
      have e1 : (R.take i ++ (dropT R i h1).drop (i + 1))[j]? = R[j]? := by
        rw [List.getElem?_append_left (by omega), List.getElem?_take_of_lt g]
      have e2 : (M.l.take i ++ M.l.drop (i + 1))[j]? = M.l[j]? := by
        rw [List.getElem?_append_left (by omega), List.getElem?_take_of_lt g]
      rw [List.getElem?_eq_getElem (by simp; omega), List.getElem?_eq_getElem (by omega)] at e1 e2
      rw [Option.some.inj e1, Option.some.inj e2]
      exact ⟨m1, m2, m3, m4⟩
    · obtain ⟨_, m1, m2, m3, m4⟩ := ref_at hr (i := j + 1) (by omega)
      obtain ⟨u1, u2, u3, u4, u5⟩ := dropT_at R i h1 (j := j + 1) (by omega) (by omega)
      have e1 : (R.take i ++ (dropT R i h1).drop (i + 1))[j]? = (dropT R i h1)[j + 1]? := by
        rw [List.getElem?_append_right (by omega), List.getElem?_drop]
        congr 1
        omega
      have e2 : (M.l.take i ++ M.l.drop (i + 1))[j]? = M.l[j + 1]? := by
        rw [List.getElem?_append_right (by omega), List.getElem?_drop]
        congr 1
        omega
      rw [List.getElem?_eq_getElem (by simp; omega), List.getElem?_eq_getElem (by omega)] at e1 e2
      rw [Option.some.inj e1, Option.some.inj e2]
      refine ⟨by rw [u1, m1], by rw [u2, m2], ?_, fun h0 => ?_⟩
      · rw [u4, m3]
        by_cases hj : j = 0
        · subst hj; simp; omega
        · simp [hj]
      · rw [u5 (by omega)]
        exact m4 (by omega)
theorem RemoveR_s (hr : RefAt lo h q M ls R) (ok : OkM M n) (hn : n < 2 ^ 15) (hlo : lo ≤ h.size) (k : ByteArray)
    (hQ : ∀ h' ls' R' S, RefAt lo h' q (M.rem k).1 ls' R' → Ext S h h' → (∀ b ∈ S, RFp q ls R b) → (∀ b, RFp q ls' R' b → RFp q ls R b ∨ h.size ≤ b) →
      Q [.agg #[.int .i64 (M.rem k).2.leaf, .int .i64 (M.rem k).2.mf, .int .i64 (M.rem k).2.mt, .int .i64 (M.rem k).2.err]] h') : S_liveryref10_Leaves_Remove (some ⟨q, 0, none⟩) k h Q := by
  refine O_liveryref10_Leaves_Remove _ _ ?_
  unfold F_liveryref10_Leaves_Remove
  have hMl := ok.len
  refine newI fun h1 s1 b1 e1 => ?_
  have hr1 := hr.ext0 e1
  have hlt := atL_lt ok.ne k
  have hrem := rem_eq (k := k) hlt
  unfold LeafM.remAt at hrem
  refine HasR_s hr1 ok.wf ok.ne k (by omega) (fun o ho => by have := (ok.ord o ho).2; omega) ⟨_, rfl, ?_⟩
  cases hh : hasK (M.l[atL M.l k]).keys k with
  | false =>
    rw [if_pos (by decide)]
    rw [hh, if_pos rfl] at hrem
    refine st_blk b1 (by simp) fun h2 s2 b2 e2 => ?_
    have e12 : Ext [] h h2 := e1.trans e2 (by intro b hb hlt; simp at hb; omega)
    refine ⟨_, by simp [rd_blk b2]; rfl, _, by simp [rd_blk b2]; rfl, _, by simp [rd_blk b2]; rfl, _, by simp [rd_blk b2]; rfl, ?_⟩
    have := hQ h2 ls R [] (by rw [hrem]; exact hr.ext0 e12) e12 (by simp) (fun b hb => Or.inl hb)
    rw [hrem] at this
    exact this
  | true =>
  rw [if_neg (by decide)]
  rw [hh, if_neg (by decide)] at hrem
  refine atR_s hr1 ok.wf ok.ne k (by omega) ⟨_, rfl, ?_⟩
  obtain ⟨n1, n2⟩ := ref_len hr
  have hiR : atL M.l k < R.length := by omega
  obtain ⟨_, m1, m2, m3, m4⟩ := ref_at hr hiR
  have hlst := own_lt hr.own
  have hqh : q < h.size := blk_lt hr.blk
  have hor := ok.ord _ (List.getElem_mem hlt)
  have hcf := cutK_filter hor.1 hh
  intro X hX
  have key : ∀ d p g out, d + p = (M.l[atL M.l k]).keys.length → Ext [] h1 g → Own T_string 1 encB h1.size g out (((M.l[atL M.l k]).keys.take p).filter (fun s => !(s.toList == k.toList))) → X [.slice out.a out.n out.c, .int .i64 (p : Int)] g := by
    intro d
    induction d with
    | succ d ih =>
      intro p g out hp eg hout
      refine hX out _ _ ?_
      have hr2 := hr1.ext0 eg
      simp only [nilW_some, addr_mk, rd_blk hr2.blk]
      refine ⟨ls, rfl, ?_⟩
      obtain ⟨a, w1, w2, w3, w4, w5⟩ := rdR hr2.own hiR
      have hk2 := hr2.keys _ (List.getElem_mem hiR)
      rw [m2] at hk2
      have hkn := hk2.1
      rw [w1]
      simp only [nilW_some, Int.toNat_natCast]
      refine ⟨by omega, by omega, R[atL M.l k].ks, w5, ?_⟩
      rw [if_pos (by simp; omega)]
      intro J hJ
      refine ⟨ls, by rw [w1]; rfl, ?_⟩
      rw [w1]
      simp only [nilW_some]
      refine ⟨by omega, by omega, R[atL M.l k].ks, w5, ?_⟩
      have hpl : p < (M.l[atL M.l k]).keys.length := by omega
      obtain ⟨ka, u1, u2⟩ := rdB hk2.sl.reads (i := p) hpl
      rw [u1]
      simp only [nilW_some, Int.toNat_natCast]
      refine ⟨by omega, by omega, _, u2, ?_⟩
      have htk : (M.l[atL M.l k]).keys.take (p + 1) = (M.l[atL M.l k]).keys.take p ++ [(M.l[atL M.l k]).keys[p]] := by
        rw [List.take_add_one, List.getElem?_eq_getElem hpl, Option.toList_some]
      cases hb : ((M.l[atL M.l k]).keys[p].toList == k.toList) with
      | true =>
        rw [if_neg (by decide)]
        refine hJ out _ ?_
        rw [wrap64 (by omega) (by omega)]
        have := ih (p + 1) g out (by omega) eg (by rw [htk, List.filter_append]; simpa [hb] using hout)
        simpa using this
      | false =>
        rw [if_pos (by decide)]
        refine ⟨ls, by rw [w1]; rfl, ?_⟩
        rw [w1]
        simp only [nilW_some]
        refine ⟨by omega, by omega, R[atL M.l k].ks, by rw [u1] at w5 ⊢; exact w5, ?_⟩
        rw [u1]
        simp only [nilW_some]
        refine ⟨by omega, by omega, _, u2, ?_⟩
        have hfl := List.length_filter_le (fun s => !(s.toList == k.toList)) ((M.l[atL M.l k]).keys.take p)
        have htl : ((M.l[atL M.l k]).keys.take p).length ≤ 2 ^ 10 := by rw [List.length_take]; omega
        refine app1 (x := (M.l[atL M.l k]).keys[p]) hout rfl zc_str encB_len encB_one (by omega) (by decide) eg.sz fun out' g2 hout' f2 hb2 => ?_
        refine hJ out' _ ?_
        rw [wrap64 (by omega) (by omega)]
        have := ih (p + 1) g2 out' (by omega) (eg.trans f2 fun b hb hlt => by have := hout.blk b hb; omega) (by
          rw [htk, List.filter_append]
          simpa [hb] using hout')
        simpa using this
    | zero =>
      intro p g out hp eg hout
      rw [List.take_of_length_le (by omega), hcf] at hout
      refine hX out _ _ ?_
      have hr2 := hr1.ext0 eg
      simp only [nilW_some, addr_mk, rd_blk hr2.blk]
      refine ⟨ls, rfl, ?_⟩
      obtain ⟨a, w1, w2, w3, w4, w5⟩ := rdR hr2.own hiR
      have hk2 := hr2.keys _ (List.getElem_mem hiR)
      rw [m2] at hk2
      have hkn := hk2.1
      rw [w1]
      simp only [nilW_some, Int.toNat_natCast]
      refine ⟨by omega, by omega, R[atL M.l k].ks, w5, ?_⟩
      rw [if_neg (by simp; omega)]
      refine ⟨ls, by rw [w1]; rfl, ?_⟩
      rw [w1]
      simp only [nilW_some]
      refine ⟨by omega, by omega, R[atL M.l k].m.n, w2, ?_⟩
      rw [m1]
      have zg := eg.sz
      refine varI rfl rfl fun g1 t1 d1 f1 => ?_
      have hr3 := hr2.ext0 f1
      have v1 := f1.get (eg.get b1 (by simp)) (by simp)
      have hl1 := hout.ext0 f1
      have hln := hl1.1
      intro J46 hJ46
      have yes : (0 < (cutK (M.l[atL M.l k]).keys k).length ∨ M.l.length = 1) → J46 [.bool true] g1 := by
        intro hor2
        rw [if_pos hor2] at hrem
        refine hJ46 _ _ ?_
        rw [if_pos rfl]
        simp only [rd_blk hr3.blk]
        refine ⟨ls, by simp, ?_⟩
        rw [w1]
        simp only [nilW_some]
        refine ⟨by omega, by omega, ?_⟩
        refine setF2 (x := ⟨out, R[atL M.l k].op, { R[atL M.l k].m with keys := cutK (M.l[atL M.l k]).keys k }⟩) hr3.own w1 encR_len hiR (by decide) (by
          intro c hc
          rcases (by omega : c = 0 ∨ c = 1 ∨ c = 2 ∨ c = 3) with rfl | rfl | rfl | rfl <;> rfl) fun g2 ho2 f2 t2 => ?_
        have d2 := f2.get d1 (fun hm => by have := hlst _ hm; omega)
        have v2 := f2.get v1 (fun hm => by have := hlst _ hm; omega)
        have hr4 := hr3.setK (hi2 := hlt) hiR f2 ho2 (hl1.extT f2 (hr3.own.other (by decide)) |>.mono (by omega))
        refine ⟨_, by simp [rd_blk d2]; rfl, _, by simp [rd_blk d2]; rfl, _, by simp [rd_blk d2]; rfl, _, by simp [rd_blk d2]; rfl, ?_⟩
        refine st_blk v2 (by simp) fun g3 t3 v3 f3 => ?_
        refine ⟨_, by simp [rd_blk v3]; rfl, _, by simp [rd_blk v3]; rfl, _, by simp [rd_blk v3]; rfl, _, by simp [rd_blk v3]; rfl, ?_⟩
        have hfp : ∀ b, RFp q ls (R.set (atL M.l k) ⟨out, R[atL M.l k].op, { R[atL M.l k].m with keys := cutK (M.l[atL M.l k]).keys k }⟩) b → RFp q ls R b ∨ h1.size ≤ b := by
          intro b hb
          rcases hb with g | g | ⟨r, hm, g⟩
          · exact Or.inl (Or.inl g)
          · exact Or.inl (Or.inr (Or.inl g))
          · rcases List.mem_or_eq_of_mem_set hm with g4 | g4
            · exact Or.inl (Or.inr (Or.inr ⟨r, g4, g⟩))
            · subst g4; exact Or.inr (hout.blk b g)
        have hr5 := hr4.extF f3 (fun b hb hm => by
          simp at hm
          rcases hfp b hb with g | g
          · have := rfp_lt hr g; omega
          · omega)
        have hq := hQ g3 ls _ (sBlk ls) (by rw [hrem]; exact hr5) ((((e1.trans0 eg).trans0 f1).mono (by simp)).trans f2 (fun b hb _ => hb) |>.trans f3 (by intro b hb hlt; simp at hb; omega)) (fun b hb => Or.inr (Or.inl hb)) (fun b hb => (hfp b hb).imp id fun g => by omega)
        rw [hrem] at hq
        exact hq
      have no : ¬ (0 < (cutK (M.l[atL M.l k]).keys k).length ∨ M.l.length = 1) → J46 [.bool false] g1 := by
        intro hor2
        rw [if_neg hor2] at hrem
        have hR1 : 1 < R.length := by omega
        refine hJ46 _ _ ?_
        rw [if_neg (by decide)]
        refine ⟨(M.l[atL M.l k]).n, by simp [rd_blk d1], ?_⟩
        refine st_blk d1 (by simp) fun g2 t2 d2 f2 => ?_
        have d2' : Blk g2 g.size #[.int .i64 (M.l[atL M.l k]).n, .int .i64 (M.l[atL M.l k]).n, .int .i64 0, .int .i64 0] T_liveryref10_Did := by simpa using d2
        have v2 := f2.get v1 (by simp; omega)
        have hr4 := hr3.extF f2 fun b hb hm => by simp at hm; have := rfp_lt hr hb; omega
        intro J64 hJ64
        have loop : ∀ g6 to, Ext [g.size] g2 g6 → Blk g6 g.size #[.int .i64 (M.l[atL M.l k]).n, .int .i64 (M.l[atL M.l k]).n, .int .i64 to, .int .i64 0] T_liveryref10_Did → to = ((M.l.take (atL M.l k) ++ M.l.drop (atL M.l k + 1)).getD (atL M.l k - 1) M.l[atL M.l k]).n → J64 [] g6 := by
          intro g6 to f6 d6 hto
          have v6 := f6.get v2 (by simp; omega)
          have hr6 := hr4.extF f6 fun b hb hm => by simp at hm; have := rfp_lt hr hb; omega
          have zz6 := f6.sz
          refine hJ64 _ ?_
          intro X65 hX65
          have hTl := dropT_len R (atL M.l k) hR1
          have plain : ∀ (gg : Hp) (out : Sl) (L : List RC) (j : Nat) (hj : j < R.length), j ≠ atL M.l k → Ext [] g6 gg → Own T_liveryref10_Leaf 4 encR g6.size gg out L → L.length ≤ 2 ^ 20 →
              (∀ gg' out', Ext [] g6 gg' → Own T_liveryref10_Leaf 4 encR g6.size gg' out' (L ++ [(dropT R (atL M.l k) hR1)[j]'(by omega)]) → Ext (sBlk out) gg gg' → X65 [.slice out'.a out'.n out'.c, .int .i64 ((j + 1 : Nat) : Int)] gg') → X65 [.slice out.a out.n out.c, .int .i64 (j : Int)] gg := by
            intro gg out L j hj hja eg6 hout hLl hcb
            refine hX65 out _ _ ?_
            have hrg := hr6.ext0 eg6
            simp only [rd_blk hrg.blk]
            refine ⟨ls, by simp, ?_⟩
            rw [if_pos (by simp; omega)]
            intro J71 hJ71
            refine ⟨ls, by simp, ?_⟩
            obtain ⟨aa, y1, y2, y3, y4, y5⟩ := rdR hrg.own hj
            obtain ⟨u1, u2, u3, u4, u5⟩ := dropT_at R (atL M.l k) hR1 (j := j) (by omega) hj
            rw [y1]
            simp only [nilW_some, Int.toNat_natCast]
            refine ⟨by omega, by omega, R[j].m.n, y2, R[j].op, y3, R[j].m.bound, y4, R[j].ks, y5, ?_⟩
            refine varI rfl rfl fun gg1 t7 c7 f7 => ?_
            rw [if_neg (by simp; omega)]
            intro J83 hJ83
            have eg71 := eg6.trans0 f7
            have zg6 := eg6.sz
            have rest : ∀ gg2 : Hp, Ext [gg.size] gg1 gg2 → gg2.size = gg1.size → Blk gg2 gg.size #[.int .i64 ((dropT R (atL M.l k) hR1)[j]'(by omega)).m.n, .bool ((dropT R (atL M.l k) hR1)[j]'(by omega)).op, .string ((dropT R (atL M.l k) hR1)[j]'(by omega)).m.bound, .slice ((dropT R (atL M.l k) hR1)[j]'(by omega)).ks.a ((dropT R (atL M.l k) hR1)[j]'(by omega)).ks.n ((dropT R (atL M.l k) hR1)[j]'(by omega)).ks.c] T_liveryref10_Leaf →
                ∀ J87 : List Value → Hp → Prop, (∀ h88 : Hp, (∃ n89 : Int, rd h88 (Addr.add (Addr.mk (Array.size gg) 0 none) 0) = some (Value.int .i64 n89) ∧ ∃ b90 : Bool, rd h88 (Addr.add (Addr.mk (Array.size gg) 0 none) 1) = some (Value.bool b90) ∧ ∃ s91 : ByteArray, rd h88 (Addr.add (Addr.mk (Array.size gg) 0 none) 2) = some (Value.string s91) ∧ ∃ l92 : Sl, rd h88 (Addr.add (Addr.mk (Array.size gg) 0 none) 3) = some (Value.slice l92.a l92.n l92.c) ∧ wth (Array.push h88 (Obj.cells #[(Value.int .i64 n89), (Value.bool b90), (Value.string s91), (Value.slice l92.a l92.n l92.c)] T_liveryref10_Leaf)) fun h93 =>
                    ∃ cs96 : List Value, cellsAt h93 (some (Addr.mk (Array.size h88) 0 none)) (1 * 4) cs96 ∧ appS PP T_liveryref10_Leaf 56 4 h93 ⟨out.a, out.n, out.c⟩ 1 cs96 fun (l94 : Sl) (h95 : Hp) => J71 [(Value.slice l94.a l94.n l94.c)] h95) → J87 [] h88) → J87 [] gg2 := by
              intro gg2 f8 t8 c8 J87 hJ87
              refine hJ87 _ ?_
              refine ⟨_, by simp [rd_blk c8]; rfl, _, by simp [rd_blk c8]; rfl, _, by simp [rd_blk c8]; rfl, ((dropT R (atL M.l k) hR1)[j]'(by omega)).ks, by simp [rd_blk c8], ?_⟩
              have eg72 : Ext [] gg gg2 := f7.trans f8 (by intro b hb hlt; simp at hb; omega)
              have hout2 := hout.ext0 eg72
              refine app1 (x := (dropT R (atL M.l k) hR1)[j]'(by omega)) hout2 rfl zcR encR_len encR_one (by omega) (by decide) (by have := eg72.sz; omega) fun out' gg3 hout' f9 hb9 => ?_
              refine hJ71 out' _ ?_
              rw [wrap64 (by omega) (by omega)]
              have := hcb gg3 out' ((eg6.trans0 eg72).trans f9 fun b hb hlt => by have := hout.blk b hb; omega) hout' ((eg72.mono (by simp)).trans f9 (fun b hb _ => hb))
              simpa using this
            have same : ¬ (atL M.l k = 0 ∧ j = 1) → J83 [.bool false] gg1 := by
              intro hns
              refine hJ83 _ _ ?_
              intro J87 hJ87
              rw [if_neg (by decide)]
              exact rest gg1 (Ext.refl _ _) rfl (by rw [u5 hns]; exact c7) J87 hJ87
            by_cases h0 : atL M.l k = 0
            · rw [if_pos (by simp [h0])]
              by_cases hj1 : j = 1
              · have hb1 : (((j : Nat) : Int) == 1) = true := by simp [hj1]
                rw [hb1]
                refine hJ83 _ _ ?_
                intro J87 hJ87
                rw [if_pos rfl]
                refine st_blk c7 (by simp) fun gg2 t8 c8 f8 => ?_
                have c8' : Blk gg2 gg.size #[.int .i64 R[j].m.n, .bool true, .string R[j].m.bound, .slice R[j].ks.a R[j].ks.n R[j].ks.c] T_liveryref10_Leaf := by simpa using c8
                refine st_blk c8' (by simp) fun gg3 t9 c9 f9 => ?_
                have hTj : (dropT R (atL M.l k) hR1)[j]'(by omega) = ⟨R[j].ks, true, { R[j].m with bound := ByteArray.mk #[] }⟩ := by
                  have e : (dropT R (atL M.l k) hR1)[j]? = some ⟨R[j].ks, true, { R[j].m with bound := ByteArray.mk #[] }⟩ := by
                    unfold dropT
                    subst hj1
                    rw [if_pos h0, List.getElem?_set_self hR1]
                  rw [List.getElem?_eq_getElem (by omega)] at e
                  exact Option.some.inj e
                exact rest gg3 (f8.trans f9 (fun b hb _ => hb)) (by omega) (by rw [hTj]; simpa using c9) J87 hJ87
              · have hb1 : (((j : Nat) : Int) == 1) = false := by simp; omega
                rw [hb1]
                exact same fun g => hj1 g.2
            · rw [if_neg (by simp [h0])]
              exact same fun g => h0 g.1
          have keyA : ∀ d j gg out, j + d = R.length → atL M.l k < j → Ext [] g6 gg → Own T_liveryref10_Leaf 4 encR g6.size gg out (R.take (atL M.l k) ++ ((dropT R (atL M.l k) hR1).drop (atL M.l k + 1)).take (j - (atL M.l k + 1))) →
              X65 [.slice out.a out.n out.c, .int .i64 (j : Int)] gg := by
            intro d
            induction d with
            | zero =>
              intro j gg out hj haj eg6 hout
              rw [List.take_of_length_le (l := (dropT R (atL M.l k) hR1).drop (atL M.l k + 1)) (by rw [List.length_drop]; omega)] at hout
              refine hX65 out _ _ ?_
              have hrg := hr6.ext0 eg6
              simp only [rd_blk hrg.blk]
              refine ⟨ls, by simp, ?_⟩
              rw [if_neg (by simp; omega)]
              refine st_blk hrg.blk (by simp) fun g8 t8 c8 f8 => ?_
              have d8 := f8.get (eg6.get d6 (by simp)) (by simp; omega)
              have v8 := f8.get (eg6.get v6 (by simp)) (by simp; omega)
              refine ⟨_, by simp [rd_blk d8]; rfl, _, by simp [rd_blk d8]; rfl, _, by simp [rd_blk d8]; rfl, _, by simp [rd_blk d8]; rfl, ?_⟩
              refine st_blk v8 (by simp) fun g9 t9 c9 f9 => ?_
              refine ⟨_, by simp [rd_blk c9]; rfl, _, by simp [rd_blk c9]; rfl, _, by simp [rd_blk c9]; rfl, _, by simp [rd_blk c9]; rfl, ?_⟩
              have hqo8 : ∀ T, T_liveryref10_Leaves ≠ T → Other T gg [q] := fun T hT b hb c fz => by simp at hb; subst hb; exact other_blk hrg.blk hT c fz
              have hdel := hrg.del hiR hR1 f8 (by simpa using c8) ((hout.extT f8 (hqo8 _ (by decide))).mono (by omega))
              have hfp : ∀ b, RFp q out (R.take (atL M.l k) ++ (dropT R (atL M.l k) hR1).drop (atL M.l k + 1)) b → RFp q ls R b ∨ h1.size ≤ b := by
                intro b hb
                rcases hb with g | g | ⟨r, hm, g⟩
                · exact Or.inl (Or.inl g)
                · have := hout.blk b g; exact Or.inr (by omega)
                · rcases List.mem_append.1 hm with hm | hm
                  · exact Or.inl (Or.inr (Or.inr ⟨r, List.mem_of_mem_take hm, g⟩))
                  · obtain ⟨i, hi, rfl⟩ := List.getElem_of_mem (List.mem_of_mem_drop hm)
                    obtain ⟨u1, u2, u3, u4, u5⟩ := dropT_at R (atL M.l k) hR1 hi (by omega)
                    rw [u3] at g
                    exact Or.inl (Or.inr (Or.inr ⟨_, List.getElem_mem _, g⟩))
              have hr9 := hdel.extF f9 (fun b hb hm => by
                simp at hm
                rcases hfp b hb with g | g
                · have := rfp_lt hr g; omega
                · omega)
              have eA : Ext [q] h g9 := ((((((e1.trans0 eg).trans0 f1).mono (by simp)).trans f2 (by intro b hb hlt; simp at hb; omega)).trans f6 (by intro b hb hlt; simp at hb; omega)).trans0 eg6).trans f8 (fun b hb _ => hb) |>.trans f9 (by intro b hb hlt; simp at hb; omega)
              have hq := hQ g9 out _ [q] (by rw [hrem]; exact hr9) eA (fun b hb => by simp at hb; exact Or.inl hb) (fun b hb => (hfp b hb).imp id fun g => by omega)
              rw [hrem] at hq
              rw [hto]
              exact hq
            | succ d ih =>
              intro j gg out hj haj eg6 hout
              have hjR : j < R.length := by omega
              refine plain gg out _ j hjR (by omega) eg6 hout (by simp; omega) fun gg' out' eg' hout' f' => ?_
              refine ih (j + 1) gg' out' (by omega) (by omega) eg' ?_
              rw [show j + 1 - (atL M.l k + 1) = (j - (atL M.l k + 1)) + 1 by omega, List.take_add_one, List.getElem?_drop, show atL M.l k + 1 + (j - (atL M.l k + 1)) = j by omega, List.getElem?_eq_getElem (by omega), Option.toList_some, ← List.append_assoc]
              exact hout'
          have keyB : ∀ d j gg out, j + d = atL M.l k → Ext [] g6 gg → Own T_liveryref10_Leaf 4 encR g6.size gg out (R.take j) → X65 [.slice out.a out.n out.c, .int .i64 (j : Int)] gg := by
            intro d
            induction d with
            | succ d ih =>
              intro j gg out hj eg6 hout
              have hjR : j < R.length := by omega
              refine plain gg out _ j hjR (by omega) eg6 hout (by simp; omega) fun gg' out' eg' hout' f' => ?_
              refine ih (j + 1) gg' out' (by omega) eg' ?_
              obtain ⟨u1, u2, u3, u4, u5⟩ := dropT_at R (atL M.l k) hR1 (j := j) (by omega) hjR
              rw [u5 (by omega)] at hout'
              rw [List.take_add_one, List.getElem?_eq_getElem hjR, Option.toList_some]
              exact hout'
            | zero =>
              intro j gg out hj eg6 hout
              obtain rfl : j = atL M.l k := by omega
              refine hX65 out _ _ ?_
              have hrg := hr6.ext0 eg6
              simp only [rd_blk hrg.blk]
              refine ⟨ls, by simp, ?_⟩
              rw [if_pos (by simp; omega)]
              intro J71 hJ71
              refine ⟨ls, by simp, ?_⟩
              obtain ⟨aa, y1, y2, y3, y4, y5⟩ := rdR hrg.own hiR
              rw [y1]
              simp only [nilW_some, Int.toNat_natCast]
              refine ⟨by omega, by omega, R[atL M.l k].m.n, y2, R[atL M.l k].op, y3, R[atL M.l k].m.bound, y4, R[atL M.l k].ks, y5, ?_⟩
              refine varI rfl rfl fun gg1 t7 c7 f7 => ?_
              rw [if_pos (by simp)]
              refine hJ71 out _ ?_
              rw [wrap64 (by omega) (by omega)]
              have := keyA (R.length - (atL M.l k + 1)) (atL M.l k + 1) gg1 out (by omega) (by omega) (eg6.trans0 f7) (by
                rw [Nat.sub_self, List.take_zero, List.append_nil]
                exact hout.ext0 f7)
              simpa using this
          have := keyB (atL M.l k) 0 g6 ⟨none, 0, 0⟩ (by omega) (Ext.refl _ _) (by simpa using Own.nil _ _)
          simpa using this
        have hRn : ∀ i (hi : i < R.length) (h2 : i < M.l.length), R[i].m.n = M.l[i].n := fun i hi h2 => (ref_at hr hi).2.1
        by_cases h0 : 0 < atL M.l k
        · rw [if_pos (by simp; omega)]
          simp only [rd_blk hr4.blk]
          refine ⟨ls, by simp, ?_⟩
          have hi1 : atL M.l k - 1 < R.length := by omega
          obtain ⟨aa, y1, y2, y3, y4, y5⟩ := rdR hr4.own hi1
          rw [y1, wrap64 (x := ((atL M.l k : Nat) : Int) - 1) (by omega) (by omega), show ((atL M.l k : Nat) : Int) - 1 = ((atL M.l k - 1 : Nat) : Int) by omega]
          simp only [nilW_some, Int.toNat_natCast]
          refine ⟨by omega, by omega, _, y2, ?_⟩
          refine st_blk d2' (by simp) fun g3 t3 c3 f3 => ?_
          refine loop g3 _ f3 (by simpa using c3) ?_
          rw [hRn _ hi1 (by omega), List.getD_eq_getElem?_getD, List.getElem?_append_left (by simp; omega), List.getElem?_take_of_lt (by omega), List.getElem?_eq_getElem (by omega)]
          rfl
        · rw [if_neg (by simp; omega)]
          simp only [rd_blk hr4.blk]
          refine ⟨ls, by simp, ?_⟩
          obtain ⟨aa, y1, y2, y3, y4, y5⟩ := rdR hr4.own hR1
          rw [y1]
          simp only [nilW_some]
          refine ⟨by omega, by omega, _, y2, ?_⟩
          refine st_blk d2' (by simp) fun g3 t3 c3 f3 => ?_
          refine loop g3 _ f3 (by simpa using c3) ?_
          have hg : ∀ (i : Nat) (d : OneM) (hl1 : 1 < M.l.length), i = 0 → M.l[1] = (M.l.take i ++ M.l.drop (i + 1)).getD (i - 1) d := by
            intro i d hl1 hi0
            subst hi0
            rw [List.getD_eq_getElem?_getD]
            simp only [List.take_zero, List.nil_append, Nat.zero_sub, List.getElem?_drop]
            rw [List.getElem?_eq_getElem hl1]
            rfl
          rw [hRn _ hR1 (by omega), hg (atL M.l k) M.l[atL M.l k] (by omega) (by omega)]
      by_cases h0 : 0 < (cutK (M.l[atL M.l k]).keys k).length
      · rw [if_pos (by simp; omega)]
        exact yes (Or.inl h0)
      · rw [if_neg (by simp; omega)]
        simp only [rd_blk hr3.blk]
        refine ⟨ls, by simp, ?_⟩
        by_cases h1' : M.l.length = 1
        · rw [show ((ls.n : Int) == 1) = true by simp; omega]
          exact yes (Or.inr h1')
        · rw [show ((ls.n : Int) == 1) = false by simp; omega]
          exact no (by omega)
  have := key (M.l[atL M.l k]).keys.length 0 h1 ⟨none, 0, 0⟩ (by omega) (Ext.refl _ _) (by simpa using Own.nil _ _)
  simpa using this
end
end Go.Lift
namespace Go.Lift
open Go Go.Proofs
set_option maxRecDepth 100000
theorem flat_len (l : List OneM) (k : Nat) (h : ∀ o ∈ l, o.keys.length ≤ k) : (l.flatMap OneM.keys).length ≤ l.length * k := by
  induction l with
  | nil => simp
  | cons o l ih =>
    have h3 := ih fun o' ho' => h o' (List.mem_cons_of_mem _ ho')
    have h4 := h o (by simp)
    rw [List.flatMap_cons, List.length_append, List.length_cons, Nat.add_mul]
    omega
section
variable {lo n : Nat} {h h' : Hp} {q : Nat} {M : LeafM} {ls : Sl} {R : List RC} {Q : List Value → Hp → Prop}
theorem RangeR_s (hr : RefAt lo h q M ls R) (ok : OkM M n) (hn : n < 2 ^ 15) (a b : ByteArray)
    (hQ : ∀ h' sk sn, Ext [] h h' → Own T_string 1 encB h.size h' sk (M.rng a b).1 → Own T_int 1 encIL h.size h' sn (M.rng a b).2 → Q [.agg #[.slice sk.a sk.n sk.c, .slice sn.a sn.n sn.c]] h') : S_liveryref10_Leaves_Range (some ⟨q, 0, none⟩) a b h Q := by
  refine O_liveryref10_Leaves_Range _ _ _ ?_
  unfold F_liveryref10_Leaves_Range
  rw [emptyB]
  have hMl := ok.len
  refine newI fun h1 s1 b1 e1 => newI fun h2 s2 b2 e2 => ?_
  have c1 := e2.get b1 (by simp)
  have e02 := e1.trans0 e2
  have hr2 := hr.ext0 e02
  have hlt := atL_lt ok.ne a
  have hlt2 := atL_lt ok.ne b
  obtain ⟨n1, n2⟩ := ref_len hr
  have fin : ∀ g sk sn, Ext [] h g → Blk g h.size #[.slice none 0 0, .slice none 0 0] T_liveryref10_Span → Blk g h1.size #[.slice sk.a sk.n sk.c, .slice sn.a sn.n sn.c] T_liveryref10_Span → Own T_string 1 encB h.size g sk (M.rng a b).1 → Own T_int 1 encIL h.size g sn (M.rng a b).2 →
      (∃ l6 : Sl, rd g (Addr.add ⟨h1.size, 0, none⟩ 0) = some (Value.slice l6.a l6.n l6.c) ∧ ∃ l7 : Sl, rd g (Addr.add ⟨h1.size, 0, none⟩ 1) = some (Value.slice l7.a l7.n l7.c) ∧ stOk g ⟨h.size, 0, none⟩ 2 ∧ wth (wrs g ⟨h.size, 0, none⟩ 0 [(Value.slice l6.a l6.n l6.c), (Value.slice l7.a l7.n l7.c)]) fun h8 =>
        ∃ l9 : Sl, rd h8 (Addr.add ⟨h.size, 0, none⟩ 0) = some (Value.slice l9.a l9.n l9.c) ∧ ∃ l10 : Sl, rd h8 (Addr.add ⟨h.size, 0, none⟩ 1) = some (Value.slice l10.a l10.n l10.c) ∧ Q [(Value.agg #[(Value.slice l9.a l9.n l9.c), (Value.slice l10.a l10.n l10.c)])] h8) := by
    intro g sk sn eg v1 v2 hk hn'
    refine ⟨sk, by simp [rd_blk v2], sn, by simp [rd_blk v2], ?_⟩
    refine st_blk v1 (by simp) fun g2 t2 d2 f2 => ?_
    refine ⟨sk, by simp [rd_blk d2], sn, by simp [rd_blk d2], ?_⟩
    have ot : ∀ T, T_liveryref10_Span ≠ T → Other T g [h.size] := fun T hT b hb c fz => by simp at hb; subst hb; exact other_blk v1 hT c fz
    exact hQ g2 sk sn (eg.trans f2 (by intro b hb hlt; simp at hb; omega)) (hk.extT f2 (ot _ (by decide))) (hn'.extT f2 (ot _ (by decide)))
  intro J hJ
  have empty : emptyR a b = true → J [.bool true] h2 := by
    intro he
    refine hJ _ _ ?_
    rw [if_pos rfl]
    have e : M.rng a b = ([], []) := by unfold LeafM.rng; rw [if_pos he]
    exact fin h2 ⟨none, 0, 0⟩ ⟨none, 0, 0⟩ e02 c1 b2 (by rw [e]; exact Own.nil _ _) (by rw [e]; exact Own.nil _ _)
  have full : emptyR a b = false → J [.bool false] h2 := by
    intro he
    have erng : M.rng a b = (((partL M.l a b).flatMap OneM.keys).filter (inR a b), (partL M.l a b).map OneM.n) := by unfold LeafM.rng; rw [if_neg (by rw [he]; decide)]
    refine hJ _ _ ?_
    rw [if_neg (by decide)]
    simp only [nilW_some, addr_mk, rd_blk hr2.blk]
    refine ⟨ls, rfl, ?_⟩
    intro J6 hJ6
    have main : ∀ last : Nat, last = lastL M.l b → atL M.l a ≤ last → last < R.length → J6 [.int .i64 (last : Int)] h2 := by
      intro last hla hal hlc
      refine hJ6 _ _ ?_
      refine atR_s hr2 ok.wf ok.ne a (by omega) ⟨_, rfl, ?_⟩
      intro X hX
      have key : ∀ d i g sk sn, d + i = last + 1 - atL M.l a → Ext [] h g → h2.size ≤ g.size → Blk g h1.size #[.slice sk.a sk.n sk.c, .slice sn.a sn.n sn.c] T_liveryref10_Span → Own T_string 1 encB h2.size g sk (((M.l.drop (atL M.l a)).take i).flatMap OneM.keys |>.filter (inR a b)) → Own T_int 1 encIL h2.size g sn (((M.l.drop (atL M.l a)).take i).map OneM.n) →
          Blk g h.size #[.slice none 0 0, .slice none 0 0] T_liveryref10_Span → RefAt lo g q M ls R → X [.int .i64 ((atL M.l a + i : Nat) : Int)] g := by
        intro d
        induction d with
        | zero =>
          intro i g sk sn hi hE hz v2 ok' on v1 hrg
          refine hX _ _ ?_
          rw [if_neg (by simp; omega)]
          have hpart : (M.l.drop (atL M.l a)).take i = partL M.l a b := by
            unfold partL
            rw [List.drop_take, ← hla]
            congr 1
            omega
          rw [hpart] at ok' on
          exact fin g sk sn hE v1 v2 (by rw [erng]; exact ok'.mono (by omega)) (by rw [erng]; exact on.mono (by omega))
        | succ d ih =>
          intro i g sk sn hi hE hz v2 ok' on v1 hrg
          refine hX _ _ ?_
          rw [if_pos (by simp; omega)]
          refine ⟨sn, by simp [rd_blk v2], ?_⟩
          simp only [nilW_some, addr_mk, rd_blk hrg.blk]
          refine ⟨ls, rfl, ?_⟩
          have hiR : atL M.l a + i < R.length := by omega
          obtain ⟨hi2, m1, m2, m3, m4⟩ := ref_at hrg hiR
          obtain ⟨aa, w1, w2, w3, w4, w5⟩ := rdR hrg.own hiR
          rw [w1]
          simp only [nilW_some, Int.toNat_natCast]
          refine ⟨by omega, by omega, _, w2, ?_⟩
          have hdl : i < (M.l.drop (atL M.l a)).length := by simp; omega
          have hdg : (M.l.drop (atL M.l a))[i] = M.l[atL M.l a + i] := by simp
          have hti : (M.l.drop (atL M.l a)).take (i + 1) = (M.l.drop (atL M.l a)).take i ++ [M.l[atL M.l a + i]] := by
            rw [List.take_add_one, List.getElem?_eq_getElem hdl, Option.toList_some, hdg]
          refine newI fun g1 t1 d1 f1 => ?_
          have v21 := f1.get v2 (by simp)
          refine ⟨by simp [rd_blk v21], ?_⟩
          have on1 := on.ext0 f1
          refine ⟨[.int .i64 R[atL M.l a + i].m.n], by
            have := cellsAt_blk d1 (o := 0) (n := 1 * 1) (by simp)
            simpa using this, ?_⟩
          have hnl := on1.1
          refine app_own (ys := [R[atL M.l a + i].m.n]) on1 zcInt encIL_len (fun x _ => encIL_one x) rfl rfl (by simp at hnl ⊢; omega) (by simp at hnl ⊢; omega) (by omega) fun sn' g2 on2 f2 hn2 hb2 => ?_
          have sno : ∀ b ∈ sBlk sn, h2.size ≤ b := on.blk
          have v22 := f2.get v21 (fun hm => by have := sno _ hm; omega)
          have v12 := f2.get (f1.get v1 (by simp)) (fun hm => by have := sno _ hm; omega)
          have hr3 := (hrg.ext0 f1).extF f2 (fun b hb hm => by have := sno b hm; have := rfp_lt hr hb; omega)
          have ok2 := (ok'.ext0 f1).extT f2 (on1.other (by decide))
          refine st_blk v22 (by simp) fun g3 t3 d3 f3 => ?_
          have d3' : Blk g3 h1.size #[.slice sk.a sk.n sk.c, .slice sn'.a sn'.n sn'.c] T_liveryref10_Span := by simpa using d3
          have ot2 : ∀ T, T_liveryref10_Span ≠ T → Other T g2 [h1.size] := fun T hT b hb c fz => by simp at hb; subst hb; exact other_blk v22 hT c fz
          have hr4 := hr3.extF f3 (fun b hb hm => by simp at hm; have := rfp_lt hr hb; omega)
          have on3 := on2.extT f3 (ot2 _ (by decide))
          have ok3 := ok2.extT f3 (ot2 _ (by decide))
          have v13 := f3.get v12 (by simp; omega)
          have hE3 : Ext [] h g3 := ((hE.trans0 f1).trans f2 fun b hb hlt => by have := sno b hb; omega).trans f3 (by intro b hb hlt; simp at hb; omega)
          have hz3 : h2.size ≤ g3.size := by have := f2.sz; omega
          have hordi := (ok.ord _ (List.getElem_mem hi2)).2
          have hbig : ((((M.l.drop (atL M.l a)).take i).flatMap OneM.keys).filter (inR a b)).length ≤ 2 ^ 30 := by
            refine Nat.le_trans (List.length_filter_le _ _) ?_
            have h2 := flat_len ((M.l.drop (atL M.l a)).take i) (2 ^ 10) (fun o ho => (ok.ord o (List.mem_of_mem_drop (List.mem_of_mem_take ho))).2)
            have h3 : ((M.l.drop (atL M.l a)).take i).length ≤ 2 ^ 20 := by simp; omega
            have := Nat.mul_le_mul_right (2 ^ 10) h3
            omega
          rw [m1] at on3
          intro Z hZ
          have inner : ∀ d' j g' sk', d' + j = (M.l[atL M.l a + i]).keys.length → Ext [] h g' → h2.size ≤ g'.size → Blk g' h1.size #[.slice sk'.a sk'.n sk'.c, .slice sn'.a sn'.n sn'.c] T_liveryref10_Span → Own T_int 1 encIL h2.size g' sn' (((M.l.drop (atL M.l a)).take i).map OneM.n ++ [(M.l[atL M.l a + i]).n]) →
              Own T_string 1 encB h2.size g' sk' ((((M.l.drop (atL M.l a)).take i).flatMap OneM.keys |>.filter (inR a b)) ++ ((M.l[atL M.l a + i]).keys.take j).filter (inR a b)) → Blk g' h.size #[.slice none 0 0, .slice none 0 0] T_liveryref10_Span → RefAt lo g' q M ls R → Z [.int .i64 (j : Int)] g' := by
            intro d'
            induction d' with
            | zero =>
              intro j g' sk' hj hE' hz' w2' on2 ok2 w1' hrg'
              refine hZ _ _ ?_
              simp only [rd_blk hrg'.blk]
              refine ⟨ls, by simp, ?_⟩
              obtain ⟨ab, y1, y2, y3, y4, y5⟩ := rdR hrg'.own hiR
              rw [y1]
              simp only [nilW_some, Int.toNat_natCast]
              have hkn := (hrg'.keys _ (List.getElem_mem hiR)).1
              rw [m2] at hkn
              refine ⟨by omega, by omega, R[atL M.l a + i].ks, y5, ?_⟩
              rw [if_neg (by simp; omega), wrap64 (by omega) (by omega)]
              have := ih (i + 1) g' sk' sn' (by omega) hE' hz' w2' (by
                rw [hti, List.flatMap_append, List.filter_append]
                rw [List.take_of_length_le (l := (M.l[atL M.l a + i]).keys) (by omega)] at ok2
                simpa using ok2) (by
                rw [hti, List.map_append]
                exact on2) w1' hrg'
              simpa [Int.add_assoc] using this
            | succ d' ih' =>
              intro j g' sk' hj hE' hz' w2' on2 ok2 w1' hrg'
              refine hZ _ _ ?_
              simp only [rd_blk hrg'.blk]
              refine ⟨ls, by simp, ?_⟩
              obtain ⟨ab, y1, y2, y3, y4, y5⟩ := rdR hrg'.own hiR
              rw [y1]
              simp only [nilW_some, Int.toNat_natCast]
              have hkr := (hrg'.keys _ (List.getElem_mem hiR)).sl.reads
              rw [m2] at hkr
              have hkn := hkr.1
              refine ⟨by omega, by omega, R[atL M.l a + i].ks, y5, ?_⟩
              rw [if_pos (by simp; omega)]
              intro J2 hJ2
              refine ⟨ls, by simp [y1], ?_⟩
              rw [y1]
              simp only [nilW_some]
              refine ⟨by omega, by omega, R[atL M.l a + i].ks, y5, ?_⟩
              have hjl : j < (M.l[atL M.l a + i]).keys.length := by omega
              obtain ⟨ak, u1, u2⟩ := rdB hkr (i := j) hjl
              rw [u1]
              simp only [nilW_some, Int.toNat_natCast]
              refine ⟨by omega, by omega, _, u2, ?_⟩
              have htj : (M.l[atL M.l a + i]).keys.take (j + 1) = (M.l[atL M.l a + i]).keys.take j ++ [(M.l[atL M.l a + i]).keys[j]] := by
                rw [List.take_add_one, List.getElem?_eq_getElem hjl, Option.toList_some]
              intro J3 hJ3
              have go : ∀ v, v = inR a b (M.l[atL M.l a + i]).keys[j] → J3 [.bool v] g' := by
                intro v hv
                refine hJ3 _ _ ?_
                cases hb : inR a b (M.l[atL M.l a + i]).keys[j] with
                | true =>
                  rw [hv, hb, if_pos rfl]
                  refine ⟨sk', by simp [rd_blk w2'], ?_⟩
                  refine app1 (x := (M.l[atL M.l a + i]).keys[j]) ok2 rfl zc_str encB_len encB_one (by
                    have h5 := List.length_filter_le (inR a b) ((M.l[atL M.l a + i]).keys.take j)
                    rw [List.length_append]
                    have h6 : ((M.l[atL M.l a + i]).keys.take j).length ≤ 2 ^ 10 := by simp; omega
                    omega) (by decide) hz' fun sk2 g2' ok3' he3 hb3 => ?_
                  have sko : ∀ b ∈ sBlk sk', h2.size ≤ b := ok2.blk
                  have w22 := he3.get w2' (fun hm => by have := sko _ hm; omega)
                  have w12 := he3.get w1' (fun hm => by have := sko _ hm; omega)
                  have hrg2 := hrg'.extF he3 (fun b hb hm => by have := sko b hm; have := rfp_lt hr hb; omega)
                  refine st_blk w22 (by simp) fun g3' t4 d4 f4 => ?_
                  have d4' : Blk g3' h1.size #[.slice sk2.a sk2.n sk2.c, .slice sn'.a sn'.n sn'.c] T_liveryref10_Span := by simpa using d4
                  have ot4 : ∀ T, T_liveryref10_Span ≠ T → Other T g2' [h1.size] := fun T hT b hb c fz => by simp at hb; subst hb; exact other_blk w22 hT c fz
                  refine hJ2 _ ?_
                  rw [wrap64 (by omega) (by omega)]
                  have := ih' (j + 1) g3' sk2 (by omega) ((hE'.trans he3 fun b hb hlt => by have := sko b hb; omega).trans f4 (by intro b hb hlt; simp at hb; omega)) (by have := he3.sz; omega) d4' ((on2.extT he3 (ok2.other (by decide))).extT f4 (ot4 _ (by decide))) (by
                    rw [htj, List.filter_append, ← List.append_assoc]
                    have := ok3'.extT f4 (ot4 _ (by decide))
                    simpa [hb] using this) (f4.get w12 (by simp; omega)) (hrg2.extF f4 (fun b hb hm => by simp at hm; have := rfp_lt hr hb; omega))
                  simpa using this
                | false =>
                  rw [hv, hb, if_neg (by decide)]
                  refine hJ2 _ ?_
                  rw [wrap64 (by omega) (by omega)]
                  have := ih' (j + 1) g' sk' (by omega) hE' hz' w2' on2 (by
                    rw [htj, List.filter_append]
                    simpa [hb] using ok2) w1' hrg'
                  simpa using this
              have hs1 : Op.bytesLess (M.l[atL M.l a + i]).keys[j].toList a.toList = sLt (M.l[atL M.l a + i]).keys[j] a := rfl
              have hs2 : Op.bytesLess (M.l[atL M.l a + i]).keys[j].toList b.toList = sLt (M.l[atL M.l a + i]).keys[j] b := rfl
              rw [hs1, hs2]
              unfold inR at go
              cases q1 : sLt (M.l[atL M.l a + i]).keys[j] a with
              | true =>
                rw [if_neg (by decide)]
                exact go _ (by rw [q1]; rfl)
              | false =>
                rw [if_pos (by decide)]
                cases q2 : b.toList == [] with
                | true =>
                  rw [if_pos rfl]
                  exact go _ (by rw [q1, q2]; rfl)
                | false =>
                  rw [if_neg (by decide)]
                  exact go _ (by rw [q1, q2]; rfl)
          have := inner (M.l[atL M.l a + i]).keys.length 0 g3 sk (by omega) hE3 hz3 d3' on3 (by simpa using ok3) v13 hr4
          simpa using this
      have := key (last + 1 - atL M.l a) 0 h2 ⟨none, 0, 0⟩ ⟨none, 0, 0⟩ (by omega) e02 (Nat.le_refl _) b2 (by simpa using Own.nil _ _) (by simpa using Own.nil _ _) c1 hr2
      simpa using this
    cases hb0 : b.toList == [] with
    | true =>
      rw [if_neg (by decide)]
      rw [wrap64 (by omega) (by omega)]
      have e3 : ((ls.n : Int) - 1) = ((M.l.length - 1 : Nat) : Int) := by omega
      rw [e3]
      exact main _ (by unfold lastL; rw [hb0, if_pos rfl]) (by omega) (by omega)
    | false =>
      rw [if_pos (by decide)]
      refine atR_s hr2 ok.wf ok.ne b (by omega) ⟨_, rfl, ?_⟩
      refine main _ (by unfold lastL; rw [hb0, if_neg (by decide)]) (atL_mono ?_) (by omega)
      unfold emptyR at he
      rw [hb0] at he
      cases h4 : sLt b a with
      | false => rfl
      | true => rw [h4] at he; cases he
  unfold emptyR at empty full
  cases hb0 : b.toList == [] with
  | true =>
    rw [if_neg (by decide)]
    exact full (by rw [hb0]; rfl)
  | false =>
    rw [if_pos (by decide)]
    have hs : (Op.bytesLess b.toList a.toList || b.toList == a.toList) = (sLt b a || b.toList == a.toList) := rfl
    rw [hs]
    cases h4 : (sLt b a || b.toList == a.toList) with
    | true => exact empty (by rw [hb0, h4]; rfl)
    | false => exact full (by rw [hb0, h4]; rfl)
end
end Go.Lift

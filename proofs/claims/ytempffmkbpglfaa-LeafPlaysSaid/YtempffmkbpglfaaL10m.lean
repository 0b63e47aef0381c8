/- The reference's leaves: what only looks. -/
import Derived.Test.YtempffmkbpglfaaL10x
set_option linter.unusedSimpArgs false
set_option linter.unusedVariables false
namespace Go.Lift
open Go Go.Proofs
set_option maxRecDepth 100000
structure RC where
  ks : Sl
  op : Bool
  m : OneM
abbrev encR (r : RC) : List Value := [.int .i64 r.m.n, .bool r.op, .string r.m.bound, .slice r.ks.a r.ks.n r.ks.c]
theorem encR_len (r : RC) : (encR r).length = 4 := rfl
theorem encR_one (r : RC) : ∀ v ∈ encR r, oneCell v = true := by
  intro v hv
  simp at hv
  rcases hv with rfl | rfl | rfl | rfl <;> rfl
theorem zcR : (zc PP T_liveryref10_Leaf).size = 4 := by kernel_rfl
/-- The reference's leaves are the same ones: the first one is open. -/
def RR : List (Bool × OneM) → List OneM → Prop
  | [], [] => True
  | r :: t, o :: l => r.1 = true ∧ r.2.n = o.n ∧ r.2.keys = o.keys ∧ t = l.map fun o => (false, o)
  | _, _ => False
structure RefAt (lo : Nat) (h : Hp) (q : Nat) (M : LeafM) (ls : Sl) (R : List RC) : Prop where
  blk : Blk h q #[.slice ls.a ls.n ls.c, .int .i64 M.fan, .int .i64 M.next] T_liveryref10_Leaves
  le : lo ≤ q
  own : Own T_liveryref10_Leaf 4 encR lo h ls R
  keys : ∀ r ∈ R, Own T_string 1 encB lo h r.ks r.m.keys
  rel : RR (R.map fun r => (r.op, r.m)) M.l
def RFp (q : Nat) (ls : Sl) (R : List RC) (b : Nat) : Prop := b = q ∨ b ∈ sBlk ls ∨ ∃ r ∈ R, b ∈ sBlk r.ks
theorem rr_len {t : List (Bool × OneM)} {l : List OneM} (h : RR t l) : t.length = l.length := by
  cases t <;> cases l <;> simp_all [RR]
theorem rr_at {t : List (Bool × OneM)} {l : List OneM} (h : RR t l) {i : Nat} (h1 : i < t.length) (h2 : i < l.length) : t[i].2.n = l[i].n ∧ t[i].2.keys = l[i].keys ∧ (t[i].1 = decide (i = 0)) ∧ (0 < i → t[i].2.bound = l[i].bound) := by
  cases t with
  | nil => simp at h1
  | cons r t =>
    cases l with
    | nil => simp at h2
    | cons o l =>
      obtain ⟨a, b, c, d⟩ := h
      cases i with
      | zero => exact ⟨b, c, by simp [a], fun h => by omega⟩
      | succ i => subst d; simp
section
variable {lo : Nat} {h h' : Hp} {q : Nat} {M : LeafM} {ls : Sl} {R : List RC} {Q : List Value → Hp → Prop}
theorem ref_len (hr : RefAt lo h q M ls R) : ls.n = R.length ∧ R.length = M.l.length := by
  refine ⟨hr.own.1, ?_⟩
  have := rr_len hr.rel
  rw [List.length_map] at this
  exact this
theorem ref_at (hr : RefAt lo h q M ls R) {i : Nat} (hi : i < R.length) : ∃ h2 : i < M.l.length, R[i].m.n = M.l[i].n ∧ R[i].m.keys = M.l[i].keys ∧ R[i].op = decide (i = 0) ∧ (0 < i → R[i].m.bound = M.l[i].bound) := by
  have h2 : i < M.l.length := by have := (ref_len hr).2; omega
  have := rr_at hr.rel (i := i) (by simpa using hi) h2
  simp only [List.getElem_map] at this
  exact ⟨h2, this⟩
theorem rdR (hr : Own T_liveryref10_Leaf 4 encR lo h ls R) {i : Nat} (hi : i < R.length) : ∃ a, ls.a = some a ∧ rd h (Addr.add (Addr.add a (i * 4)) 0) = some (.int .i64 R[i].m.n) ∧ rd h (Addr.add (Addr.add a (i * 4)) 1) = some (.bool R[i].op) ∧
    rd h (Addr.add (Addr.add a (i * 4)) 2) = some (.string R[i].m.bound) ∧ rd h (Addr.add (Addr.add a (i * 4)) 3) = some (.slice R[i].ks.a R[i].ks.n R[i].ks.c) := by
  obtain ⟨a, h1, h2⟩ := hr.sl.reads.rd encR_len hi
  exact ⟨a, h1, by rw [addr_add_add]; simpa using h2 0 (by omega), by rw [addr_add_add]; simpa using h2 1 (by omega), by rw [addr_add_add]; simpa using h2 2 (by omega), by rw [addr_add_add]; simpa using h2 3 (by omega)⟩
theorem RefAt.ext0 (hr : RefAt lo h q M ls R) (he : Ext [] h h') : RefAt lo h' q M ls R :=
  ⟨he.get hr.blk (by simp), hr.le, hr.own.ext0 he, fun r h => (hr.keys r h).ext0 he, hr.rel⟩
theorem RefAt.extF {S : List Nat} (hr : RefAt lo h q M ls R) (he : Ext S h h') (hS : ∀ b, RFp q ls R b → b ∉ S) : RefAt lo h' q M ls R := by
  have sl : ∀ {s : Sl} {a : Addr}, s.a = some a → a.block ∈ sBlk s := fun ha => mem_sBlk.2 ⟨_, ha, rfl⟩
  exact ⟨he.get hr.blk (hS _ (Or.inl rfl)), hr.le, hr.own.ext he fun a ha => hS _ (Or.inr (Or.inl (sl ha))), fun r h => (hr.keys r h).ext he fun a ha => hS _ (Or.inr (Or.inr ⟨r, h, sl ha⟩)), hr.rel⟩
theorem rfp_lt (hr : RefAt lo h q M ls R) {b : Nat} (hb : RFp q ls R b) : b < h.size := by
  rcases hb with rfl | hb | ⟨r, h, hb⟩
  · exact blk_lt hr.blk
  · exact own_lt hr.own _ hb
  · exact own_lt (hr.keys r h) _ hb
theorem rfp_lo (hr : RefAt lo h q M ls R) {b : Nat} (hb : RFp q ls R b) : lo ≤ b := by
  rcases hb with rfl | hb | ⟨r, h, hb⟩
  · exact hr.le
  · exact hr.own.blk _ hb
  · exact (hr.keys r h).blk _ hb
theorem le_not (a b : ByteArray) : (Op.bytesLess a.toList b.toList || a.toList == b.toList) = !sLt b a := by
  have e : Op.bytesLess a.toList b.toList = sLt a b := rfl
  rw [e]
  rcases sLt_total a b with g | g | g
  · subst g; simp [sLt_irrefl]
  · simp [g, sLt_asymm g]
  · have hne : a.toList ≠ b.toList := by intro e; rw [toList_inj e, sLt_irrefl] at g; cases g
    simp [g, sLt_asymm g, hne]
theorem at_le {l : List OneM} (w : WF l) (hne : l ≠ []) (k : ByteArray) {i : Nat} (hi : i < l.length) (h0 : 0 < i) : sLt k l[i].bound = !decide (i ≤ atL l k) := by
  obtain ⟨A, o, B, rfl, ha, ws, hlo, hhi, _⟩ := at_split w hne k
  rw [ha]
  by_cases h1 : i ≤ A.length
  · rw [decide_eq_true h1]
    rcases (by omega : i = A.length ∨ i < A.length) with g | g
    · subst g
      rw [List.getElem_append_right (Nat.le_refl _)]
      simp only [Nat.sub_self, List.getElem_cons_zero]
      cases A with
      | nil => simp at h0
      | cons a A => exact hlo _ rfl
    · rw [List.getElem_append_left g]
      cases A with
      | nil => simp at g
      | cons a A =>
        cases i with
        | zero => omega
        | succ i =>
          have g' : i < A.length := by simpa using g
          have h2 := wf_tail ws A[i] (List.getElem_mem _)
          simp only [List.getElem_cons_succ]
          cases h3 : sLt k A[i].bound with
          | false => rfl
          | true =>
            have := hlo _ rfl
            rw [sLt_trans h3 h2] at this
            cases this
  · rw [decide_eq_false h1]
    obtain ⟨j, rfl⟩ : ∃ j, i = A.length + (j + 1) := ⟨i - A.length - 1, by omega⟩
    have h2 : j < B.length := by simp at hi; omega
    rw [List.getElem_append_right (by omega)]
    simp only [Nat.add_sub_cancel_left, List.getElem_cons_succ]
    exact hhi _ (List.getElem_mem h2)
theorem atR_s (hr : RefAt lo h q M ls R) (w : WF M.l) (hne : M.l ≠ []) (k : ByteArray) (hlen : M.l.length < 2 ^ 40) (hQ : Q [.int .i64 (atL M.l k : Nat)] h) : S_liveryref10_Leaves_at (some ⟨q, 0, none⟩) k h Q := by
  refine O_liveryref10_Leaves_at _ _ ?_
  unfold F_liveryref10_Leaves_at
  obtain ⟨n1, n2⟩ := ref_len hr
  have hlt := atL_lt hne k
  intro X hX
  have key : ∀ d i, d + i = R.length → X [.int .i64 ((min (atL M.l k) (i - 1) : Nat) : Int), .int .i64 (i : Int)] h := by
    intro d
    induction d with
    | zero =>
      intro i hi
      refine hX _ _ _ ?_
      simp only [nilW_some, addr_mk, rd_blk hr.blk]
      refine ⟨ls, rfl, ?_⟩
      rw [if_neg (by simp; omega), Nat.min_eq_left (by omega)]
      exact hQ
    | succ d ih =>
      intro i hi
      refine hX _ _ _ ?_
      simp only [nilW_some, addr_mk, rd_blk hr.blk]
      refine ⟨ls, rfl, ?_⟩
      rw [if_pos (by simp; omega)]
      have hil : i < R.length := by omega
      obtain ⟨hi2, m1, m2, m3, m4⟩ := ref_at hr hil
      intro J hJ J2 hJ2
      refine ⟨ls, rfl, ?_⟩
      obtain ⟨a, w1, w2, w3, w4, w5⟩ := rdR hr.own hil
      rw [w1]
      simp only [nilW_some, Int.toNat_natCast]
      refine ⟨by omega, by omega, _, w3, ?_⟩
      have yes : i ≤ atL M.l k → J2 [.bool true] h := by
        intro hle
        refine hJ2 _ _ ?_
        rw [if_pos rfl]
        refine hJ _ _ ?_
        rw [wrap64 (by omega) (by omega)]
        have := ih (i + 1) (by omega)
        rw [Nat.add_sub_cancel, Nat.min_eq_right hle] at this
        simpa using this
      have no : ¬ i ≤ atL M.l k → J2 [.bool false] h := by
        intro hle
        refine hJ2 _ _ ?_
        rw [if_neg (by decide)]
        refine hJ _ _ ?_
        rw [wrap64 (by omega) (by omega), Nat.min_eq_left (by omega)]
        have := ih (i + 1) (by omega)
        rw [Nat.add_sub_cancel, Nat.min_eq_left (by omega)] at this
        simpa using this
      by_cases h0 : i = 0
      · rw [m3, decide_eq_true h0, if_pos rfl]
        exact yes (by omega)
      · rw [m3, decide_eq_false h0, if_neg (by decide)]
        refine ⟨ls, by rw [w1]; rfl, ?_⟩
        rw [w1]
        simp only [nilW_some]
        refine ⟨by omega, by omega, _, w4, ?_⟩
        rw [le_not, m4 (by omega), at_le w hne k hi2 (by omega), Bool.not_not]
        by_cases hle : i ≤ atL M.l k
        · rw [decide_eq_true hle]; exact yes hle
        · rw [decide_eq_false hle]; exact no hle
  have := key R.length 0 (by omega)
  simpa using this
theorem HasR_s (hr : RefAt lo h q M ls R) (w : WF M.l) (hne : M.l ≠ []) (k : ByteArray) (hlen : M.l.length < 2 ^ 40) (hks : ∀ o ∈ M.l, o.keys.length ≤ 2 ^ 20) (hQ : Q [.bool (hasK (M.l[atL M.l k]'(atL_lt hne k)).keys k)] h) : S_liveryref10_Leaves_Has (some ⟨q, 0, none⟩) k h Q := by
  refine O_liveryref10_Leaves_Has _ _ ?_
  unfold F_liveryref10_Leaves_Has
  obtain ⟨n1, n2⟩ := ref_len hr
  have hlt := atL_lt hne k
  simp only [nilW_some, addr_mk, rd_blk hr.blk]
  refine ⟨ls, rfl, ?_⟩
  refine atR_s hr w hne k hlen ⟨_, rfl, by simp [rd_blk hr.blk], ?_⟩
  have hil : atL M.l k < R.length := by omega
  obtain ⟨hi2, m1, m2, m3, m4⟩ := ref_at hr hil
  obtain ⟨a, w1, w2, w3, w4, w5⟩ := rdR hr.own hil
  rw [w1]
  simp only [nilW_some, Int.toNat_natCast]
  refine ⟨by omega, by omega, R[atL M.l k].ks, w5, ?_⟩
  have hk := (hr.keys _ (List.getElem_mem hil)).sl.reads
  rw [m2] at hk
  have hkn := hk.1
  have hkl := hks _ (List.getElem_mem hlt)
  intro X hX
  have key : ∀ d i, d + i = (M.l[atL M.l k]).keys.length → (∀ j (hj : j < (M.l[atL M.l k]).keys.length), j < i → ((M.l[atL M.l k]).keys[j].toList == k.toList) = false) → X [.int .i64 (i : Int)] h := by
    intro d
    induction d with
    | zero =>
      intro i hi hall
      refine hX _ _ ?_
      rw [if_neg (by simp; omega)]
      have : hasK (M.l[atL M.l k]).keys k = false := by
        unfold hasK
        rw [List.any_eq_false]
        intro y hy
        obtain ⟨j, hj, rfl⟩ := List.getElem_of_mem hy
        rw [hall j hj (by omega)]
        decide
      rw [this] at hQ
      exact hQ
    | succ d ih =>
      intro i hi hall
      refine hX _ _ ?_
      rw [if_pos (by simp; omega)]
      have hil2 : i < (M.l[atL M.l k]).keys.length := by omega
      obtain ⟨ka, u1, u2⟩ := rdB hk (i := i) hil2
      rw [u1]
      simp only [nilW_some, Int.toNat_natCast]
      refine ⟨by omega, by omega, _, u2, ?_⟩
      cases hb : ((M.l[atL M.l k]).keys[i].toList == k.toList) with
      | true =>
        rw [if_pos rfl]
        have : hasK (M.l[atL M.l k]).keys k = true := by
          unfold hasK
          rw [List.any_eq_true]
          exact ⟨_, List.getElem_mem hil2, hb⟩
        rw [this] at hQ
        exact hQ
      | false =>
        rw [if_neg (by decide), wrap64 (by omega) (by omega)]
        have := ih (i + 1) (by omega) fun j hj hji => by
          rcases (by omega : j < i ∨ j = i) with g | g
          · exact hall j hj g
          · subst g; exact hb
        simpa using this
  have := key _ 0 (by omega) (by intro j hj h; omega)
  simpa using this
theorem OfR_s (hr : RefAt lo h q M ls R) (w : WF M.l) (hne : M.l ≠ []) (k : ByteArray) (hlen : M.l.length < 2 ^ 40) (hQ : Q [.int .i64 (ofL M.l k)] h) : S_liveryref10_Leaves_Of (some ⟨q, 0, none⟩) k h Q := by
  refine O_liveryref10_Leaves_Of _ _ ?_
  unfold F_liveryref10_Leaves_Of
  obtain ⟨n1, n2⟩ := ref_len hr
  have hlt := atL_lt hne k
  simp only [nilW_some, addr_mk, rd_blk hr.blk]
  refine ⟨ls, rfl, ?_⟩
  refine atR_s hr w hne k hlen ⟨_, rfl, by simp [rd_blk hr.blk], ?_⟩
  have hil : atL M.l k < R.length := by omega
  obtain ⟨hi2, m1, m2, m3, m4⟩ := ref_at hr hil
  obtain ⟨a, w1, w2, w3, w4, w5⟩ := rdR hr.own hil
  rw [w1]
  simp only [nilW_some, Int.toNat_natCast]
  refine ⟨by omega, by omega, _, w2, ?_⟩
  rw [m1, ofL_at hne]
  exact hQ
theorem AllR_s (hr : RefAt lo h q M ls R) (hlen : M.l.length < 2 ^ 30) (hQ : ∀ h' s, Ext [] h h' → Own T_int 1 encIL h.size h' s (M.l.map OneM.n) → Q [.slice s.a s.n s.c] h') : S_liveryref10_Leaves_All (some ⟨q, 0, none⟩) h Q := by
  refine O_liveryref10_Leaves_All _ ?_
  unfold F_liveryref10_Leaves_All
  obtain ⟨n1, n2⟩ := ref_len hr
  intro X hX
  have key : ∀ d i g s, d + i = R.length → Ext [] h g → Own T_int 1 encIL h.size g s ((M.l.take i).map OneM.n) → X [.slice s.a s.n s.c, .int .i64 (i : Int)] g := by
    intro d
    induction d with
    | zero =>
      intro i g s hi he ho
      refine hX s _ _ ?_
      have hr2 := hr.ext0 he
      simp only [nilW_some, addr_mk, rd_blk hr2.blk]
      refine ⟨ls, rfl, ?_⟩
      rw [if_neg (by simp; omega)]
      rw [List.take_of_length_le (by omega)] at ho
      exact hQ g s he ho
    | succ d ih =>
      intro i g s hi he ho
      refine hX s _ _ ?_
      have hr2 := hr.ext0 he
      simp only [nilW_some, addr_mk, rd_blk hr2.blk]
      refine ⟨ls, rfl, ?_⟩
      rw [if_pos (by simp; omega)]
      refine ⟨ls, rfl, ?_⟩
      have hil : i < R.length := by omega
      obtain ⟨hi2, m1, m2, m3, m4⟩ := ref_at hr hil
      obtain ⟨a, w1, w2, w3, w4, w5⟩ := rdR hr2.own hil
      rw [w1]
      simp only [nilW_some, Int.toNat_natCast]
      refine ⟨by omega, by omega, _, w2, ?_⟩
      refine app1 (x := R[i].m.n) ho rfl zcInt encIL_len encIL_one (by simp; omega) (by decide) he.sz fun s' g' ho' he' _ => ?_
      rw [wrap64 (by omega) (by omega)]
      have := ih (i + 1) g' s' (by omega) (he.trans he' fun b hb hlt => by have := ho.blk b hb; omega) (by
        rw [List.take_add_one, List.getElem?_eq_getElem hi2, Option.toList_some, List.map_append]
        rw [m1] at ho'
        exact ho')
      simpa using this
  have := key R.length 0 h ⟨none, 0, 0⟩ (by omega) (Ext.refl _ _) (by simpa using Own.nil _ _)
  simpa using this
theorem LenR_s (hr : RefAt lo h q M ls R) (hlen : M.l.length ≤ 2 ^ 20) (hks : ∀ o ∈ M.l, o.keys.length ≤ 2 ^ 20) (hQ : Q [.int .i64 (sumL M.l)] h) : S_liveryref10_Leaves_Len (some ⟨q, 0, none⟩) h Q := by
  refine O_liveryref10_Leaves_Len _ ?_
  unfold F_liveryref10_Leaves_Len
  obtain ⟨n1, n2⟩ := ref_len hr
  intro X hX
  have key : ∀ d i, d + i = R.length → X [.int .i64 (sumL (M.l.take i)), .int .i64 (i : Int)] h := by
    intro d
    induction d with
    | zero =>
      intro i hi
      refine hX _ _ _ ?_
      simp only [nilW_some, addr_mk, rd_blk hr.blk]
      refine ⟨ls, rfl, ?_⟩
      rw [if_neg (by simp; omega), List.take_of_length_le (by omega)]
      exact hQ
    | succ d ih =>
      intro i hi
      refine hX _ _ _ ?_
      simp only [nilW_some, addr_mk, rd_blk hr.blk]
      refine ⟨ls, rfl, ?_⟩
      rw [if_pos (by simp; omega)]
      refine ⟨ls, rfl, ?_⟩
      have hil : i < R.length := by omega
      obtain ⟨hi2, m1, m2, m3, m4⟩ := ref_at hr hil
      obtain ⟨a, w1, w2, w3, w4, w5⟩ := rdR hr.own hil
      rw [w1]
      simp only [nilW_some, Int.toNat_natCast]
      refine ⟨by omega, by omega, R[i].ks, w5, ?_⟩
      have hkn := (hr.keys _ (List.getElem_mem hil)).1
      rw [m2] at hkn
      have hb := sumL_le (M.l.take i) (2 ^ 20) fun o ho => hks o (List.mem_of_mem_take ho)
      have hki := hks _ (List.getElem_mem hi2)
      have hlt : ((M.l.take i).length : Int) * ((2 ^ 20 : Nat) : Int) ≤ 2 ^ 40 := by
        have : (M.l.take i).length ≤ 2 ^ 20 := by simp; omega
        have h3 := Nat.mul_le_mul_right (2 ^ 20) this
        have h4 : (2 : Nat) ^ 20 * 2 ^ 20 = 2 ^ 40 := by decide
        rw [h4] at h3
        have : (((M.l.take i).length * 2 ^ 20 : Nat) : Int) ≤ ((2 ^ 40 : Nat) : Int) := Int.ofNat_le.2 h3
        rw [Int.natCast_mul] at this
        exact this
      rw [wrap64 (x := sumL (M.l.take i) + _) (by omega) (by omega), wrap64 (by omega) (by omega)]
      have := ih (i + 1) (by omega)
      have e : sumL (M.l.take (i + 1)) = sumL (M.l.take i) + (R[i].ks.n : Int) := by
        rw [List.take_add_one, List.getElem?_eq_getElem hi2, Option.toList_some, hkn]
        unfold sumL
        rw [List.foldl_append]
        rfl
      rw [e] at this
      exact this
  have := key R.length 0 (by omega)
  exact this
theorem NewR_s {fan : Int} (hf : 2 ≤ fan ∧ fan ≤ 64) (hlo : lo ≤ h.size) (hQ : ∀ h' q ls R, RefAt lo h' q ⟨fan, 2, [⟨1, ByteArray.mk #[], []⟩]⟩ ls R → Ext [] h h' → (∀ b, RFp q ls R b → h.size ≤ b) → Q [.pointer (some ⟨q, 0, none⟩), .int .i64 0] h') : S_liveryref10_New fan h Q := by
  refine O_liveryref10_New _ ?_
  unfold F_liveryref10_New
  intro J hJ
  rw [if_neg (by simp; omega)]
  refine hJ _ _ ?_
  rw [if_neg (by simp; omega)]
  refine newI fun h1 s1 b1 e1 => newI fun h2 s2 b2 e2 => ?_
  refine hQ h2 h1.size ⟨some ⟨h.size, 0, none⟩, 1, 1⟩ [⟨⟨none, 0, 0⟩, true, ⟨1, ByteArray.mk #[], []⟩⟩] ⟨b2, by omega, ?_, ?_, ⟨rfl, rfl, rfl, rfl⟩⟩ (e1.trans0 e2) ?_
  · refine ⟨rfl, fun e => (by cases e), fun a ha => ?_⟩
    cases ha
    exact ⟨h.size, _, rfl, hlo, e2.get b1 (by simp), Nat.le_refl _, by simp, by simp⟩
  · intro r hr
    simp at hr
    subst hr
    exact Own.nil _ _
  · intro b hb
    rcases hb with g | g | ⟨r, hr, g⟩
    · omega
    · simp [sBlk] at g; omega
    · simp at hr; subst hr; simp [sBlk] at g
end
end Go.Lift

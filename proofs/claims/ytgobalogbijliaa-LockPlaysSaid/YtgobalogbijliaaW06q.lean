/- Locks: the reference: its lists, and by whom a request is barred. -/
import Derived.Test.YtgobalogbijliaaW06p
set_option linter.unusedSimpArgs false
set_option linter.unusedVariables false
namespace Go.Lift
open Go Go.Proofs
set_option maxRecDepth 100000
def posI (L : List Int) (n : Int) : Nat := (L.takeWhile fun y => decide (y < n)).length
theorem posI_le (L : List Int) (n : Int) : posI L n ≤ L.length := (List.takeWhile_sublist _).length_le
theorem posI_eq {L : List Int} {n : Int} : ∀ {p : Nat}, p ≤ L.length → (∀ j (hj : j < L.length), j < p → L[j] < n) → (∀ hp : p < L.length, ¬ L[p] < n) → posI L n = p := by
  induction L with
  | nil => intro p hp _ _; simp at hp; subst hp; rfl
  | cons a L ih =>
    intro p hp h1 h2
    unfold posI
    rw [List.takeWhile_cons]
    cases p with
    | zero =>
      have := h2 (by simp)
      simp only [List.getElem_cons_zero] at this
      simp [this]
    | succ p =>
      have h0 := h1 0 (by simp) (by omega)
      simp only [List.getElem_cons_zero] at h0
      have := ih (p := p) (by simpa using hp) (fun j hj hjp => by have := h1 (j + 1) (by simpa using hj) (by omega); simpa using this) (fun hp' => by have := h2 (by simpa using hp'); simpa using this)
      unfold posI at this
      simp [h0, this]
theorem posI_spec {L : List Int} (ha : Asc L) (n : Int) : (∀ y ∈ L.take (posI L n), y < n) ∧ ∀ y ∈ L.drop (posI L n), n ≤ y := by
  induction L with
  | nil => simp [posI]
  | cons a L ih =>
    obtain ⟨h1, h2⟩ := List.pairwise_cons.1 ha
    obtain ⟨g1, g2⟩ := ih h2
    unfold posI
    rw [List.takeWhile_cons]
    by_cases hx : a < n
    · rw [decide_eq_true hx]
      simp only [if_true, List.length_cons, List.take_succ_cons, List.drop_succ_cons]
      refine ⟨fun y hy => ?_, g2⟩
      rcases List.mem_cons.1 hy with rfl | hy
      · exact hx
      · exact g1 y hy
    · rw [decide_eq_false hx]
      simp only [Bool.false_eq_true, if_false, List.length_nil, List.take_zero, List.drop_zero]
      refine ⟨by simp, fun y hy => ?_⟩
      rcases List.mem_cons.1 hy with rfl | hy
      · omega
      · have := h1 y hy; omega
def insI (L : List Int) (n : Int) : List Int := L.take (posI L n) ++ [n] ++ L.drop (posI L n)
theorem insI_mem {L : List Int} {n x : Int} : x ∈ insI L n ↔ x = n ∨ x ∈ L := by
  unfold insI
  conv => rhs; rw [← List.take_append_drop (posI L n) L]
  simp only [List.mem_append, List.mem_cons, List.not_mem_nil, or_false]
  constructor
  · rintro ((h | h) | h)
    · exact Or.inr (Or.inl h)
    · exact Or.inl h
    · exact Or.inr (Or.inr h)
  · rintro (h | h | h)
    · exact Or.inl (Or.inr h)
    · exact Or.inl (Or.inl h)
    · exact Or.inr h
theorem insI_asc {L : List Int} (ha : Asc L) {n : Int} (hn : n ∉ L) : Asc (insI L n) := by
  obtain ⟨h1, h2⟩ := posI_spec ha n
  unfold insI Asc
  rw [List.append_assoc, List.pairwise_append]
  refine ⟨ha.sublist (List.take_sublist _ _), ?_, ?_⟩
  · rw [List.singleton_append, List.pairwise_cons]
    refine ⟨fun y hy => ?_, ha.sublist (List.drop_sublist _ _)⟩
    have := h2 y hy
    have hne : y ≠ n := fun e => hn (e ▸ List.mem_of_mem_drop hy)
    omega
  · intro a ha' b hb
    rw [List.singleton_append, List.mem_cons] at hb
    have := h1 a ha'
    rcases hb with rfl | hb
    · exact this
    · have := h2 b hb; omega
theorem posI_at {L : List Int} (ha : Asc L) (n : Int) : n ∈ L ↔ ∃ h : posI L n < L.length, L[posI L n] = n := by
  constructor
  · intro hm
    obtain ⟨j, hj, rfl⟩ := List.getElem_of_mem hm
    have hin := List.pairwise_iff_getElem.1 ha
    have : posI L L[j] = j := posI_eq (by omega) (fun i hi hij => hin i j hi hj hij) fun _ => by omega
    exact ⟨by omega, by simp only [this]⟩
  · rintro ⟨h, e⟩
    rw [← e]
    exact List.getElem_mem _
abbrev HM := ByteArray × Int × Int
abbrev encH (x : HM) : List Value := [.string x.1, .int .i64 x.2.1, .int .i64 x.2.2]
theorem encH_len (x : HM) : (encH x).length = 3 := rfl
theorem encH_one (x : HM) : ∀ v ∈ encH x, oneCell v = true := by
  intro v hv
  simp at hv
  rcases hv with rfl | rfl | rfl <;> rfl
theorem zc_held : (zc PP T_liveryref06_held).size = 3 := by kernel_rfl
abbrev T_held := T_liveryref06_held
structure RM where
  has : List HM
  queue : List HM
structure RAt (lo : Nat) (h : Hp) (b : Nat) (R : RM) (sh sq : Sl) : Prop where
  blk : Blk h b #[.slice sh.a sh.n sh.c, .slice sq.a sq.n sq.c] T_liveryref06_Table
  has : Own T_held 3 encH lo h sh R.has
  queue : Own T_held 3 encH lo h sq R.queue
theorem rdH {h : Hp} {s : Sl} {xs : List HM} (hs : Reads 3 encH h s xs) {i : Nat} (hi : i < xs.length) : ∃ a, s.a = some a ∧ rd h (Addr.add (Addr.add a (i * 3)) 0) = some (.string xs[i].1) ∧ rd h (Addr.add (Addr.add a (i * 3)) 1) = some (.int .i64 xs[i].2.1) ∧ rd h (Addr.add (Addr.add a (i * 3)) 2) = some (.int .i64 xs[i].2.2) := by
  obtain ⟨a, h1, h2⟩ := hs.rd encH_len hi
  refine ⟨a, h1, ?_, ?_, ?_⟩
  · have := h2 0 (by omega); rw [addr_add_add]; simpa using this
  · have := h2 1 (by omega); rw [addr_add_add]; simpa using this
  · have := h2 2 (by omega); rw [addr_add_add]; simpa using this
theorem RAt.ext0 {lo : Nat} {h h' : Hp} {b : Nat} {R : RM} {sh sq : Sl} (hr : RAt lo h b R sh sq) (he : Ext [] h h') : RAt lo h' b R sh sq := ⟨he.get hr.blk (by simp), hr.has.ext0 he, hr.queue.ext0 he⟩
/-- The modes of a holder of a name. -/
def setH (l : List HM) (k : Int) (n : ByteArray) : Nat := l.foldl (fun s x => if x.2.1 = k ∧ x.1 = n then s ||| bitM x.2.2 else s) 0
def metH (l : List HM) (n : ByteArray) (k m : Int) : List Int := (l.filter fun y => decide (y.1 = n) && (y.2.1 != k) && barsR y.2.2 m).map fun y => y.2.1
def barsP (l pre : List HM) (n : ByteArray) (k m : Int) : List Int := sortI ((metH l n k m ++ if setH l k n = 0 then metH pre n k m else []).eraseDups)
theorem barsP_asc (l pre : List HM) (n : ByteArray) (k m : Int) : Asc (barsP l pre n k m) := sortI_asc nodup_eraseDups
theorem barsP_mem {l pre : List HM} {n : ByteArray} {k m x : Int} : x ∈ barsP l pre n k m ↔ x ∈ metH l n k m ∨ (setH l k n = 0 ∧ x ∈ metH pre n k m) := by
  unfold barsP
  rw [sortI_mem, List.mem_eraseDups, List.mem_append]
  by_cases h : setH l k n = 0 <;> simp [h]
theorem setH_snoc (l : List HM) (x : HM) (k : Int) (n : ByteArray) : setH (l ++ [x]) k n = if x.2.1 = k ∧ x.1 = n then setH l k n ||| bitM x.2.2 else setH l k n := by
  unfold setH
  rw [List.foldl_append]
  rfl
theorem setH_lt {l : List HM} (hl : ∀ x ∈ l, isM x.2.2 = true) (k : Int) (n : ByteArray) : setH l k n < 512 := by
  have : ∀ (l : List HM) (s : Nat), (∀ x ∈ l, isM x.2.2 = true) → s < 512 → l.foldl (fun s x => if x.2.1 = k ∧ x.1 = n then s ||| bitM x.2.2 else s) s < 512 := by
    intro l
    induction l with
    | nil => intro s _ h; exact h
    | cons a l ih =>
      intro s hl hs
      rw [List.foldl_cons]
      refine ih _ (fun x hx => hl x (List.mem_cons_of_mem _ hx)) ?_
      split
      · exact Nat.or_lt_two_pow (n := 9) hs (bitM_lt (hl a (by simp)))
      · exact hs
  exact this l 0 hl (by decide)
section
variable {lo : Nat} {h : Hp} {b : Nat} {R : RM} {sh sq : Sl} {Q : List Value → Hp → Prop}
theorem toList_eq_iff (a c : ByteArray) : (a.toList == c.toList) = decide (a = c) := by
  rw [Bool.eq_iff_iff]
  simp only [beq_iff_eq, decide_eq_true_eq]
  exact ⟨toList_inj, fun h => by rw [h]⟩
theorem put_s {l : Sl} {L : List Int} (hL : Own T_int 1 encIL lo h l L) (ha : Asc L) (hlen : L.length ≤ 2 ^ 20) (n : Int) (hlo : lo ≤ h.size)
    (hQ : ∀ h' l' L', Own T_int 1 encIL lo h' l' L' → Asc L' → L'.length ≤ L.length + 1 → (∀ x, x ∈ L' ↔ x = n ∨ x ∈ L) → Ext [] h h' → Q [.slice l'.a l'.n l'.c] h') : S_liveryref06_put l n h Q := by
  refine O_liveryref06_put _ _ ?_
  unfold F_liveryref06_put
  have hln := hL.1
  have hcap := hL.capG
  have hpl := posI_le L n
  have hlb := own_ltG hL
  intro X hX
  have fin : ∀ g' l', Ext [] h g' → Own T_int 1 encIL h.size g' l' (L.take (posI L n) ++ [n] ++ L.drop (posI L n)) → n ∉ L → Q [.slice l'.a l'.n l'.c] g' := by
    intro g' l' e' hl' hni
    exact hQ g' l' (insI L n) (hl'.mono hlo) (insI_asc ha hni) (by unfold insI; simp; omega) (fun x => insI_mem) e'
  have key : ∀ d i : Nat, d + i = L.length → i ≤ posI L n → X [.int .i64 (i : Int)] h := by
    intro d
    induction d with
    | zero =>
      intro i hi hip
      have hp : i = posI L n := by omega
      refine hX _ _ ?_
      intro J hJ
      rw [if_neg (by simp; omega)]
      refine hJ _ _ ?_
      rw [if_neg (by decide)]
      intro J7 hJ7
      rw [if_neg (by simp; omega)]
      refine hJ7 _ _ ?_
      rw [if_neg (by decide)]
      have hni : n ∉ L := fun hin => by
        obtain ⟨h5, _⟩ := (posI_at ha n).1 hin
        omega
      rw [← hp] at fin
      simp only [Int.toNat_natCast]
      refine ⟨by omega, by omega, ⟨?_, ?_⟩⟩
      · refine newI fun g1 t1 c1 f1 => ⟨?_, ?_⟩
        · refine app1sG (lo' := h.size) encIL_len encIL_one zc_int (by decide) (takeCG encIL_len (hL.ext0 f1) (c := i) (by omega)) (by simp; omega) (by omega) c1 (Nat.le_refl _) fun l1 g2 ho2 f2 hb2 => ?_
          refine newI fun g3 t3 c3 f3 => ?_
          have z2 := f2.sz
          refine app23G encIL_len encIL_one zc_int (by decide) (k := n) (((hL.ext0 f1).ext f2 fun a ha hm => by simp at hm; have := hlb _ (mem_sBlk.2 ⟨a, ha, rfl⟩); omega).ext0 f3) (ho2.ext0 f3) c3 (fun b hb hm => by have := hlb b hb; have := hb2 _ hm; omega) (by omega) (by omega) (by simp; omega) (by omega) fun s' g' ho' f' => ?_
          exact fin g' s' (((f1.trans f2 (by intro b hb hlt; simp at hb; omega)).trans0 f3).trans f' fun b hb hlt => by have := hb2 _ hb; omega) ho' hni
        · refine newI fun g2 t2 c2 f2 => ?_
          refine app3G encIL_len encIL_one zc_int (by decide) (k := n) ((hL.ext0 f1).ext0 f2) (f2.get c1 (by simp)) (Nat.le_refl _) c2 (by omega) (fun hm => by have := hlb _ hm; omega) (by omega) (by omega) fun s' g' ho' f' => ?_
          exact fin g' s' ((f1.trans0 f2).trans f' (by intro b hb hlt; simp at hb; omega)) ho' hni
      · refine newI fun g1 t1 c1 f1 => newI fun g2 t2 c2 f2 => ?_
        refine app3G (lo' := h.size) encIL_len encIL_one zc_int (by decide) (k := n) ((hL.ext0 f1).ext0 f2) c2 (by omega) (f2.get c1 (by simp)) (by omega) (fun hm => by have := hlb _ hm; omega) (by omega) (by omega) fun s' g' ho' f' => ?_
        exact fin g' s' ((f1.trans0 f2).trans f' (by intro b hb hlt; simp at hb; omega)) ho' hni
    | succ d ih =>
      intro i hi hip
      have hil : i < L.length := by omega
      refine hX _ _ ?_
      intro J hJ
      rw [if_pos (by simp; omega)]
      obtain ⟨ka, u1, u2⟩ := rdI hL.sl.reads (i := i) hil
      rw [u1]
      simp only [nilW_some, Int.toNat_natCast]
      refine ⟨by omega, by omega, _, u2, hJ _ _ ?_⟩
      have hsp := posI_spec ha n
      by_cases hlt : L[i] < n
      · rw [if_pos (by simpa using hlt), wrap64 (by omega) (by omega)]
        have hne : i ≠ posI L n := by
          intro e
          have hd : L.drop (posI L n) = L[i] :: L.drop (i + 1) := by rw [← e]; exact List.drop_eq_getElem_cons hil
          have := hsp.2 L[i] (by rw [hd]; exact List.mem_cons_self)
          omega
        have := ih (i + 1) (by omega) (by omega)
        simpa using this
      · rw [if_neg (by simpa using hlt)]
        have hp : i = posI L n := by
          refine Nat.le_antisymm hip ?_
          refine Nat.not_lt.1 fun hg => ?_
          have := hsp.1 L[i] (by rw [List.mem_take_iff_getElem]; exact ⟨i, by omega, rfl⟩)
          omega
        intro J7 hJ7
        rw [if_pos (by simp; omega), u1]
        simp only [nilW_some, Int.toNat_natCast]
        refine ⟨by omega, by omega, _, u2, hJ7 _ _ ?_⟩
        by_cases heq : L[i] = n
        · rw [if_pos (by simpa using heq)]
          have := hQ h l L hL ha (by omega) (fun x => ⟨Or.inr, fun hx => hx.elim (fun e => by rw [e, ← heq]; exact List.getElem_mem _) id⟩) (Ext.refl _ _)
          exact this
        · rw [if_neg (by simpa using heq)]
          have hni : n ∉ L := fun hin => by
            obtain ⟨h5, h6⟩ := (posI_at ha n).1 hin
            have : L[i] = n := by simp only [hp]; exact h6
            exact heq this
          rw [← hp] at fin
          simp only [Int.toNat_natCast]
          refine ⟨by omega, by omega, ⟨?_, ?_⟩⟩
          · refine newI fun g1 t1 c1 f1 => ⟨?_, ?_⟩
            · refine app1sG (lo' := h.size) encIL_len encIL_one zc_int (by decide) (takeCG encIL_len (hL.ext0 f1) (c := i) (by omega)) (by simp; omega) (by omega) c1 (Nat.le_refl _) fun l1 g2 ho2 f2 hb2 => ?_
              refine newI fun g3 t3 c3 f3 => ?_
              have z2 := f2.sz
              refine app23G encIL_len encIL_one zc_int (by decide) (k := n) (((hL.ext0 f1).ext f2 fun a ha hm => by simp at hm; have := hlb _ (mem_sBlk.2 ⟨a, ha, rfl⟩); omega).ext0 f3) (ho2.ext0 f3) c3 (fun b hb hm => by have := hlb b hb; have := hb2 _ hm; omega) (by omega) (by omega) (by simp; omega) (by omega) fun s' g' ho' f' => ?_
              exact fin g' s' (((f1.trans f2 (by intro b hb hlt; simp at hb; omega)).trans0 f3).trans f' fun b hb hlt => by have := hb2 _ hb; omega) ho' hni
            · refine newI fun g2 t2 c2 f2 => ?_
              refine app3G encIL_len encIL_one zc_int (by decide) (k := n) ((hL.ext0 f1).ext0 f2) (f2.get c1 (by simp)) (Nat.le_refl _) c2 (by omega) (fun hm => by have := hlb _ hm; omega) (by omega) (by omega) fun s' g' ho' f' => ?_
              exact fin g' s' ((f1.trans0 f2).trans f' (by intro b hb hlt; simp at hb; omega)) ho' hni
          · refine newI fun g1 t1 c1 f1 => newI fun g2 t2 c2 f2 => ?_
            refine app3G (lo' := h.size) encIL_len encIL_one zc_int (by decide) (k := n) ((hL.ext0 f1).ext0 f2) c2 (by omega) (f2.get c1 (by simp)) (by omega) (fun hm => by have := hlb _ hm; omega) (by omega) (by omega) fun s' g' ho' f' => ?_
            exact fin g' s' ((f1.trans0 f2).trans f' (by intro b hb hlt; simp at hb; omega)) ho' hni
  have := key L.length 0 (by omega) (by omega)
  simpa using this
theorem SetR_s (hr : RAt lo h b R sh sq) (hm : ∀ x ∈ R.has, isM x.2.2 = true) (hl : R.has.length ≤ 2 ^ 20) (k : Int) (n : ByteArray) (hQ : Q [.int .i64 (setH R.has k n : Nat)] h) : S_liveryref06_Table_Set (some ⟨b, 0, none⟩) k n h Q := by
  refine O_liveryref06_Table_Set _ _ _ ?_
  unfold F_liveryref06_Table_Set
  have hn := hr.has.1
  intro X hX
  have key : ∀ d i : Nat, d + i = R.has.length → X [.int .i64 (setH (R.has.take i) k n : Nat), .int .i64 (i : Int)] h := by
    intro d
    induction d with
    | zero =>
      intro i hi
      refine hX _ _ _ ?_
      simp only [nilW_some, addr_mk, rd_blk hr.blk]
      refine ⟨sh, rfl, ?_⟩
      rw [if_neg (by simp; omega), List.take_of_length_le (by omega)]
      exact hQ
    | succ d ih =>
      intro i hi
      have hil : i < R.has.length := by omega
      refine hX _ _ _ ?_
      simp only [nilW_some, addr_mk, rd_blk hr.blk]
      refine ⟨sh, rfl, ?_⟩
      rw [if_pos (by simp; omega)]
      have htk : R.has.take (i + 1) = R.has.take i ++ [R.has[i]] := by rw [List.take_add_one, List.getElem?_eq_getElem hil]; rfl
      have ih' := ih (i + 1) (by omega)
      rw [htk, setH_snoc] at ih'
      intro J hJ
      intro J2 hJ2
      obtain ⟨a, w1, w2, w3, w4⟩ := rdH hr.has.sl.reads hil
      have go : ∀ bb, bb = decide (R.has[i].2.1 = k ∧ R.has[i].1 = n) → J2 [.bool bb] h := by
        intro bb hbb
        refine hJ2 _ _ ?_
        cases bb with
        | true =>
          rw [if_pos rfl]
          rw [if_pos (of_decide_eq_true hbb.symm)] at ih'
          simp only [nilW_some, addr_mk, rd_blk hr.blk]
          refine ⟨sh, rfl, ?_⟩
          rw [w1]
          simp only [nilW_some, Int.toNat_natCast]
          refine ⟨by omega, by omega, _, w4, ?_⟩
          have hmi := hm _ (List.getElem_mem hil)
          have hw : IntKind.wrap .u64 R.has[i].2.2 = R.has[i].2.2 := by rcases modes8 hmi with h | h | h | h | h | h | h | h <;> rw [h] <;> rfl
          have h8 := isM_iff.1 hmi
          have h1 := setH_lt (l := R.has.take i) (fun x hx => hm x (List.mem_of_mem_take hx)) k n
          have h2 := bitM_lt hmi
          rw [hw, iShl_bit hmi, iOr_nat (by omega) (by omega)]
          refine ⟨by omega, hJ _ _ ?_⟩
          rw [wrap64 (by omega) (by omega)]
          simpa using ih'
        | false =>
          rw [if_neg (by decide)]
          rw [if_neg (of_decide_eq_false hbb.symm)] at ih'
          refine hJ _ _ ?_
          rw [wrap64 (by omega) (by omega)]
          simpa using ih'
      refine ⟨sh, rfl, ?_⟩
      rw [w1]
      simp only [nilW_some, Int.toNat_natCast]
      refine ⟨by omega, by omega, _, w3, ?_⟩
      by_cases h1 : R.has[i].2.1 = k
      · rw [if_pos (by simpa using h1)]
        refine ⟨sh, by first | rfl | simp [w1], ?_⟩
        try rw [w1]
        simp only [nilW_some, Int.toNat_natCast]
        refine ⟨by omega, by omega, _, w2, ?_⟩
        rw [toList_eq_iff]
        exact go _ (by simp [h1])
      · rw [if_neg (by simpa using h1)]
        exact go _ (by simp [h1])
  have := key R.has.length 0 (by omega)
  simpa [setH] using this
theorem FindR_s (hr : RAt lo h b R sh sq) (hl : R.queue.length ≤ 2 ^ 20) (k : Int)
    (h1 : (∀ x ∈ R.queue, x.2.1 ≠ k) → Q [.int .i64 (-1)] h) (h2 : ∀ i (hi : i < R.queue.length), R.queue[i].2.1 = k → (∀ j (hj : j < R.queue.length), j < i → R.queue[j].2.1 ≠ k) → Q [.int .i64 (i : Int)] h) :
    S_liveryref06_Table_Find (some ⟨b, 0, none⟩) k h Q := by
  refine O_liveryref06_Table_Find _ _ ?_
  unfold F_liveryref06_Table_Find
  have hn := hr.queue.1
  intro X hX
  have key : ∀ d i : Nat, d + i = R.queue.length → (∀ j (hj : j < R.queue.length), j < i → R.queue[j].2.1 ≠ k) → X [.int .i64 (i : Int)] h := by
    intro d
    induction d with
    | zero =>
      intro i hi hall
      refine hX _ _ ?_
      simp only [nilW_some, addr_mk, rd_blk hr.blk]
      refine ⟨sq, rfl, ?_⟩
      rw [if_neg (by simp; omega)]
      refine h1 fun x hx => ?_
      obtain ⟨j, hj, rfl⟩ := List.mem_iff_getElem.1 hx
      exact hall j hj (by omega)
    | succ d ih =>
      intro i hi hall
      have hil : i < R.queue.length := by omega
      refine hX _ _ ?_
      simp only [nilW_some, addr_mk, rd_blk hr.blk]
      refine ⟨sq, rfl, ?_⟩
      rw [if_pos (by simp; omega)]
      refine ⟨sq, rfl, ?_⟩
      obtain ⟨a, w1, w2, w3, w4⟩ := rdH hr.queue.sl.reads hil
      rw [w1]
      simp only [nilW_some, Int.toNat_natCast]
      refine ⟨by omega, by omega, _, w3, ?_⟩
      by_cases hb : R.queue[i].2.1 = k
      · rw [if_pos (by simpa using hb)]
        exact h2 i hil hb hall
      · rw [if_neg (by simpa using hb), wrap64 (by omega) (by omega)]
        have := ih (i + 1) (by omega) fun j hj hji => by
          by_cases e : j = i
          · subst e; exact hb
          · exact hall j hj (by omega)
        simpa using this
  have := key R.queue.length 0 (by omega) (by omega)
  simpa using this
end
end Go.Lift

/- Locks: the reference: take, wait, for whom. -/
import Derived.Test.YtgobalogbijliaaW06r
import Derived.Test.YtgobalogbijliaaLvY
set_option linter.unusedSimpArgs false
set_option linter.unusedVariables false
namespace Go.Lift
open Go Go.Proofs
set_option maxRecDepth 100000
abbrev takeR (R : RM) (k : Int) (n : ByteArray) (m : Int) : RM × Int :=
  if k < 1 ∨ k > 200 ∨ m < 1 ∨ m > 8 ∨ n.size > 8 then (R, 1)
  else if ∃ x ∈ R.queue, x.2.1 = k then (R, 76)
  else if inR (setH R.has k n) m = true then (R, 0)
  else if barsP R.has R.queue n k m ≠ [] then (⟨R.has, R.queue ++ [(n, k, m)]⟩, 75)
  else (⟨R.has ++ [(n, k, m)], R.queue⟩, 0)
section
variable {lo : Nat} {h : Hp} {b : Nat} {R : RM} {sh sq : Sl} {Q : List Value → Hp → Prop}
theorem ne_held : T_liveryref06_held ≠ T_liveryref06_Table := by decide
theorem RAt.mono {lo' : Nat} (hr : RAt lo h b R sh sq) (hl : lo' ≤ lo) : RAt lo' h b R sh sq := ⟨hr.blk, hr.has.mono hl, hr.queue.mono hl⟩
theorem RAt.extb (hr : RAt lo h b R sh sq) {h' : Hp} (he : Ext [b] h h') {sh' sq' : Sl} {R' : RM} (hb : Blk h' b #[.slice sh'.a sh'.n sh'.c, .slice sq'.a sq'.n sq'.c] T_liveryref06_Table)
    (h1 : Own T_held 3 encH lo h' sh' R'.has) (h2 : Own T_held 3 encH lo h' sq' R'.queue) : RAt lo h' b R' sh' sq' := ⟨hb, h1, h2⟩
theorem own_b {l : Sl} {xs : List HM} {lo' : Nat} {h' : Hp} (ho : Own T_held 3 encH lo' h l xs) (hb : Blk h b #[.slice sh.a sh.n sh.c, .slice sq.a sq.n sq.c] T_liveryref06_Table) (he : Ext [b] h h') : Own T_held 3 encH lo' h' l xs :=
  ho.ext he fun a ha hm => by
    simp at hm
    exact ho.other ne_held _ (mem_sBlk.2 ⟨a, ha, rfl⟩) _ _ (hm ▸ hb)
/-- The queue is set. -/
theorem setQ_s (hr : RAt lo h b R sh sq) {l : Sl} {xs : List HM} (ho : Own T_held 3 encH lo h l xs) {K : Hp → Prop} (H : ∀ g, RAt lo g b ⟨R.has, xs⟩ sh l → Ext [b] h g → g.size = h.size → K g) :
    stOk h (Addr.add (Addr.mk b 0 none) 1) 1 ∧ wth (wrs h (Addr.add (Addr.mk b 0 none) 1) 0 [(Value.slice l.a l.n l.c)]) K := by
  simp only [addr_mk]
  refine st_blk hr.blk (by simp) fun g s1 b1 e1 => H g ⟨b1, own_b hr.has hr.blk e1, own_b ho hr.blk e1⟩ e1 s1
theorem setHs_s (hr : RAt lo h b R sh sq) {l : Sl} {xs : List HM} (ho : Own T_held 3 encH lo h l xs) {K : Hp → Prop} (H : ∀ g, RAt lo g b ⟨xs, R.queue⟩ l sq → Ext [b] h g → g.size = h.size → K g) :
    stOk h (Addr.add (Addr.mk b 0 none) 0) 1 ∧ wth (wrs h (Addr.add (Addr.mk b 0 none) 0) 0 [(Value.slice l.a l.n l.c)]) K := by
  simp only [addr_mk]
  refine st_blk hr.blk (by simp) fun g s1 b1 e1 => H g ⟨b1, own_b ho hr.blk e1, own_b hr.queue hr.blk e1⟩ e1 s1
theorem rd3 {g : Hp} {v : Nat} {x : HM} (hb : Blk g v #[.string x.1, .int .i64 x.2.1, .int .i64 x.2.2] T_liveryref06_held) :
    rd g (Addr.add (Addr.mk v 0 none) 0) = some (.string x.1) ∧ rd g (Addr.add (Addr.mk v 0 none) 1) = some (.int .i64 x.2.1) ∧ rd g (Addr.add (Addr.mk v 0 none) 2) = some (.int .i64 x.2.2) := by
  refine ⟨?_, ?_, ?_⟩ <;> simp [rd_blk hb]
/-- A held one is put behind a list, in whatever order the parts are made. -/
theorem putH_s {g : Hp} {v tb o : Nat} {x : HM} (hb : Blk g v #[.string x.1, .int .i64 x.2.1, .int .i64 x.2.2] T_liveryref06_held) {l : Sl} {xs : List HM} {lo' : Nat} (hl : Own T_held 3 encH lo' g l xs) (hlen : xs.length ≤ 2 ^ 30) (hlo : lo ≤ g.size)
    {t : Array Value} (hbt : Blk g tb t T_liveryref06_Table) (hto : t[o]? = some (.slice l.a l.n l.c))
    {K : Sl → Hp → Prop} (H : ∀ l' g', Own T_held 3 encH lo g' l' (xs ++ [x]) → Ext [] g g' → K l' g') :
    ∃ s27 : ByteArray, rd g (Addr.add (Addr.mk v 0 none) 0) = some (Value.string s27) ∧ ∃ n28 : Int, rd g (Addr.add (Addr.mk v 0 none) 1) = some (Value.int .i64 n28) ∧ ∃ n29 : Int, rd g (Addr.add (Addr.mk v 0 none) 2) = some (Value.int .i64 n29) ∧ (wth (Array.push g (Obj.cells #[] T_liveryref06_held)) fun h30 =>
                      rd h30 (Addr.add (Addr.mk v 0 none) 0) = some (Value.string s27) ∧ rd h30 (Addr.add (Addr.mk v 0 none) 1) = some (Value.int .i64 n28) ∧ rd h30 (Addr.add (Addr.mk v 0 none) 2) = some (Value.int .i64 n29) ∧ rd h30 (Addr.add (Addr.mk tb 0 none) o) = some (Value.slice l.a l.n l.c) ∧ (∃ cs39 : List Value, cellsAt h30 l.a (l.n * 3) cs39 ∧ appS PP T_liveryref06_held 32 3 h30 ⟨(some (Addr.mk (Array.size g) 0 none)), 0, 0⟩ l.n cs39 fun (l31 : Sl) (h32 : Hp) =>
                        rd h32 (Addr.add (Addr.mk v 0 none) 0) = some (Value.string s27) ∧ rd h32 (Addr.add (Addr.mk v 0 none) 1) = some (Value.int .i64 n28) ∧ rd h32 (Addr.add (Addr.mk v 0 none) 2) = some (Value.int .i64 n29) ∧ wth (Array.push h32 (Obj.cells #[(Value.string s27), (Value.int .i64 n28), (Value.int .i64 n29)] T_liveryref06_held)) fun h33 =>
                        ∃ cs38 : List Value, cellsAt h33 (some (Addr.mk (Array.size h32) 0 none)) (1 * 3) cs38 ∧ appS PP T_liveryref06_held 32 3 h33 ⟨l31.a, l31.n, l31.c⟩ 1 cs38 K) ∧
                      (wth (Array.push h30 (Obj.cells #[(Value.string s27), (Value.int .i64 n28), (Value.int .i64 n29)] T_liveryref06_held)) fun h40 =>
                        rd h40 (Addr.add (Addr.mk tb 0 none) o) = some (Value.slice l.a l.n l.c) ∧ ∃ cs48 : List Value, cellsAt h40 l.a (l.n * 3) cs48 ∧ appS PP T_liveryref06_held 32 3 h40 ⟨(some (Addr.mk (Array.size g) 0 none)), 0, 0⟩ l.n cs48 fun (l41 : Sl) (h42 : Hp) =>
                        ∃ cs47 : List Value, cellsAt h42 (some (Addr.mk (Array.size h30) 0 none)) (1 * 3) cs47 ∧ appS PP T_liveryref06_held 32 3 h42 ⟨l41.a, l41.n, l41.c⟩ 1 cs47 K)) ∧
                    (wth (Array.push g (Obj.cells #[(Value.string s27), (Value.int .i64 n28), (Value.int .i64 n29)] T_liveryref06_held)) fun h49 =>
                      rd h49 (Addr.add (Addr.mk tb 0 none) o) = some (Value.slice l.a l.n l.c) ∧ wth (Array.push h49 (Obj.cells #[] T_liveryref06_held)) fun h50 =>
                      rd h50 (Addr.add (Addr.mk tb 0 none) o) = some (Value.slice l.a l.n l.c) ∧ ∃ cs58 : List Value, cellsAt h50 l.a (l.n * 3) cs58 ∧ appS PP T_liveryref06_held 32 3 h50 ⟨(some (Addr.mk (Array.size h49) 0 none)), 0, 0⟩ l.n cs58 fun (l51 : Sl) (h52 : Hp) =>
                      ∃ cs57 : List Value, cellsAt h52 (some (Addr.mk (Array.size g) 0 none)) (1 * 3) cs57 ∧ appS PP T_liveryref06_held 32 3 h52 ⟨l51.a, l51.n, l51.c⟩ 1 cs57 K) := by
  obtain ⟨r1, r2, r3⟩ := rd3 hb
  have hvl := blk_lt hb
  have htl := blk_lt hbt
  have hn := hl.1
  have rt : ∀ g', Ext [] g g' → rd g' (Addr.add (Addr.mk tb 0 none) o) = some (Value.slice l.a l.n l.c) := fun g' e => by
    rw [addr_mk, rd_blk (e.get hbt (by simp)), Nat.zero_add, hto]
  refine ⟨_, r1, _, r2, _, r3, ⟨?_, ?_⟩⟩
  · refine newI fun g1 s1 b1 e1 => ?_
    obtain ⟨q1, q2, q3⟩ := rd3 (e1.get hb (by simp))
    refine ⟨q1, q2, q3, rt g1 e1, ?_, ?_⟩
    · refine clG encH_len encH_one zc_held (by decide) (hl.ext0 e1).sl.reads.2.2 hn (by omega) b1 hlo fun l1 g2 o2 e2 hb2 => ?_
      have hv2 := e2.get (e1.get hb (by simp)) (by simp; omega)
      obtain ⟨q1, q2, q3⟩ := rd3 hv2
      refine ⟨q1, q2, q3, newI fun g3 s3 b3 e3 => ?_⟩
      have z2 := e2.sz
      refine oneG encH_len encH_one zc_held (by decide) (k := x) (o2.ext0 e3) b3 hlen (by omega) fun s' g' ho' he' hb' => H s' g' ho' ((e1.trans (S := []) (e2.trans0 e3) fun b hb hlt => by simp at hb; omega).trans he' fun b hb hlt => ?_)
      rcases hb2 b hb with q | q <;> omega
    · refine newI fun g2 s2 b2 e2 => ⟨rt g2 (e1.trans0 e2), ?_⟩
      refine clOneG encH_len encH_one zc_held (by decide) (k := x) ((hl.ext0 e1).ext0 e2).sl.reads rfl hlen (e2.get b1 (by simp)) hlo b2 (by omega) fun s' g' ho' he' => H s' g' ho' ((e1.trans0 e2).trans he' fun b hb hlt => by simp at hb; omega)
  · refine newI fun g1 s1 b1 e1 => ⟨rt g1 e1, newI fun g2 s2 b2 e2 => ⟨rt g2 (e1.trans0 e2), ?_⟩⟩
    refine clOneG encH_len encH_one zc_held (by decide) (k := x) ((hl.ext0 e1).ext0 e2).sl.reads rfl hlen b2 (by omega) (e2.get b1 (by simp)) (by omega) fun s' g' ho' he' => H s' g' ho' ((e1.trans0 e2).trans he' fun b hb hlt => by simp at hb; omega)
theorem TakeR_s (hr : RAt lo h b R sh sq) (hm : ∀ x ∈ R.has, isM x.2.2 = true) (hl1 : R.has.length ≤ 2 ^ 16) (hl2 : R.queue.length ≤ 2 ^ 16) (k : Int) (n : ByteArray) (m : Int) (hlo : lo ≤ h.size)
    (hQ : ∀ h' sh' sq', RAt lo h' b (takeR R k n m).1 sh' sq' → Ext [b] h h' → (∀ x, x ∈ sBlk sh' ∨ x ∈ sBlk sq' → (x ∈ sBlk sh ∨ x ∈ sBlk sq) ∨ h.size ≤ x) → Q [.int .i64 (takeR R k n m).2] h') : S_liveryref06_Table_Take (some ⟨b, 0, none⟩) k n m h Q := by
  refine O_liveryref06_Table_Take _ _ _ _ ?_
  unfold F_liveryref06_Table_Take
  intro J hJ
  have bad : (k < 1 ∨ k > 200 ∨ m < 1 ∨ m > 8 ∨ n.size > 8) → J [.bool true] h := by
    intro hc
    refine hJ _ _ ?_
    rw [if_pos rfl]
    have := hQ h sh sq
    unfold takeR at this
    rw [if_pos hc] at this
    exact this hr (Ext.refl _ _) fun _ => Or.inl
  by_cases c1 : k < 1
  · rw [if_pos (by simpa using c1)]; exact bad (Or.inl c1)
  rw [if_neg (by simpa using c1)]
  by_cases c2 : k > 200
  · rw [if_pos (by simpa using c2)]; exact bad (Or.inr (Or.inl c2))
  rw [if_neg (by simpa using c2)]
  by_cases c3 : m < 1
  · rw [if_pos (by simpa using c3)]; exact bad (Or.inr (Or.inr (Or.inl c3)))
  rw [if_neg (by simpa using c3)]
  by_cases c4 : m > 8
  · rw [if_pos (by simpa using c4)]; exact bad (Or.inr (Or.inr (Or.inr (Or.inl c4))))
  rw [if_neg (by simpa using c4)]
  by_cases c5 : n.size > 8
  · have e : decide ((ByteArray.size n : Int) > (8 : Int)) = true := decide_eq_true (by omega)
    rw [e]
    exact bad (Or.inr (Or.inr (Or.inr (Or.inr c5))))
  have e : decide ((ByteArray.size n : Int) > (8 : Int)) = false := decide_eq_false (by omega)
  rw [e]
  refine hJ _ _ ?_
  rw [if_neg (by decide)]
  have hc : ¬ (k < 1 ∨ k > 200 ∨ m < 1 ∨ m > 8 ∨ n.size > 8) := by
    rintro (c | c | c | c | c) <;> contradiction
  unfold takeR at hQ
  rw [if_neg hc] at hQ
  refine FindR_s hr (by omega) k (fun hall => ?_) (fun i hi hx _ => ?_)
  · refine ⟨_, rfl, ?_⟩
    rw [if_neg (by decide)]
    rw [if_neg (by rintro ⟨x, hx, e⟩; exact hall x hx e)] at hQ
    refine SetR_s hr hm (by omega) k n ⟨_, rfl, In05_s (setH_lt hm k n) m ⟨_, rfl, ?_⟩⟩
    by_cases c6 : inR (setH R.has k n) m = true
    · rw [if_pos c6]
      rw [if_pos c6] at hQ
      exact hQ h sh sq hr (Ext.refl _ _) fun _ => Or.inl
    rw [if_neg c6]
    rw [if_neg c6] at hQ
    refine varI rfl rfl fun g1 s1 b1 e1 => ?_
    obtain ⟨r1, r2, r3⟩ := rd3 (x := (n, k, m)) b1
    have hr1 := hr.ext0 e1
    refine ⟨_, r1, _, r2, _, r3, ?_⟩
    simp only [nilW_some]
    refine ⟨sq, by rw [addr_mk, rd_blk hr1.blk]; rfl, ?_⟩
    have hsq := hr1.queue.1
    rw [hsq]
    refine barsR_s hr1 hm hl1 hl2 n k m (p := R.queue.length) (Nat.le_refl _) fun g2 s2 e2 ho2 => ⟨s2, rfl, ?_⟩
    rw [List.take_length] at ho2
    have hs2 := ho2.1
    have hr2 := hr1.ext0 e2
    have b2 := e2.get b1 (by simp)
    have z2 := e2.sz
    have z1 := e1.sz
    by_cases c7 : barsP R.has R.queue n k m ≠ []
    · rw [if_pos (by have := List.length_pos_iff.2 c7; simp; omega)]
      rw [if_pos c7] at hQ
      intro J2 hJ2
      refine ⟨sq, by rw [addr_mk, rd_blk hr2.blk]; rfl, ?_⟩
      refine putH_s (x := (n, k, m)) (lo := h.size) b2 hr2.queue (by omega) (by omega) hr2.blk (o := 1) rfl fun l' g3 ho3 e3 => ?_
      refine setQ_s (hr2.ext0 e3) (ho3.mono hlo) fun g4 hr4 e4 _ => hJ2 _ ?_
      exact hQ g4 _ _ hr4 (((e1.trans0 e2).trans0 e3).mono (by simp) |>.trans e4 fun b hb _ => hb) fun x hx => hx.elim (fun q => Or.inl (Or.inl q)) fun q => Or.inr (own_ltG ho3 x q).1
    · rw [if_neg (by rw [ne_eq, Classical.not_not] at c7; rw [c7] at hs2; simp at hs2; simp; omega)]
      rw [if_neg c7] at hQ
      intro J2 hJ2
      refine ⟨sh, by rw [addr_mk, rd_blk hr2.blk]; rfl, ?_⟩
      refine putH_s (x := (n, k, m)) (lo := h.size) b2 hr2.has (by omega) (by omega) hr2.blk (o := 0) rfl fun l' g3 ho3 e3 => ?_
      refine setHs_s (hr2.ext0 e3) (ho3.mono hlo) fun g4 hr4 e4 _ => hJ2 _ ?_
      exact hQ g4 _ _ hr4 (((e1.trans0 e2).trans0 e3).mono (by simp) |>.trans e4 fun b hb _ => hb) fun x hx => hx.elim (fun q => Or.inr (own_ltG ho3 x q).1) fun q => Or.inl (Or.inr q)
  · refine ⟨_, rfl, ?_⟩
    rw [if_pos (by simp)]
    rw [if_pos ⟨_, List.getElem_mem hi, hx⟩] at hQ
    exact hQ h sh sq hr (Ext.refl _ _) fun _ => Or.inl
def findH (l : List HM) (k : Int) : Option HM := l.find? fun x => x.2.1 == k
theorem findH_at {l : List HM} {k : Int} {i : Nat} (hi : i < l.length) (hx : l[i].2.1 = k) (hb : ∀ j (hj : j < l.length), j < i → l[j].2.1 ≠ k) : findH l k = some l[i] ∧ l.takeWhile (fun x => x.2.1 != k) = l.take i := by
  induction l generalizing i with
  | nil => simp at hi
  | cons a l ih =>
    cases i with
    | zero =>
      simp only [List.getElem_cons_zero] at hx
      simp [findH, hx]
    | succ i =>
      have h0 := hb 0 (by simp) (by omega)
      simp only [List.getElem_cons_zero] at h0
      obtain ⟨g1, g2⟩ := ih (i := i) (by simpa using hi) (by simpa using hx) fun j hj hji => by have := hb (j + 1) (by simpa using hj) (by omega); simpa using this
      unfold findH at g1 ⊢
      simp [h0, g1, g2]
theorem findH_none {l : List HM} {k : Int} (h : ∀ x ∈ l, x.2.1 ≠ k) : findH l k = none := by
  unfold findH
  rw [List.find?_eq_none]
  intro x hx
  simpa using h x hx
theorem WaitsR_s (hr : RAt lo h b R sh sq) (hl : R.queue.length ≤ 2 ^ 16) (k : Int)
    (hQ : ∀ h', Ext [] h h' → Q [.agg (match findH R.queue k with | none => #[.string (ByteArray.mk #[]), .int .i64 0, .bool false] | some x => #[.string x.1, .int .i64 x.2.2, .bool true])] h') : S_liveryref06_Table_Waits (some ⟨b, 0, none⟩) k h Q := by
  refine O_liveryref06_Table_Waits _ _ ?_
  unfold F_liveryref06_Table_Waits
  refine newI fun g1 s1 b1 e1 => ?_
  have hr1 := hr.ext0 e1
  have hn := hr1.queue.1
  refine FindR_s hr1 (by omega) k (fun hall => ?_) (fun i hi hx hbef => ?_)
  · refine ⟨_, rfl, ?_⟩
    rw [if_pos (by decide)]
    refine st_blk b1 (by simp) fun g2 s2 b2 e2 => ?_
    refine ⟨ByteArray.mk #[], by simp [rd_blk b2], 0, by simp [rd_blk b2], false, by simp [rd_blk b2], ?_⟩
    have := hQ g2 (e1.trans e2 fun b hb hlt => by simp at hb; omega)
    rw [findH_none hall] at this
    exact this
  · refine ⟨_, rfl, ?_⟩
    rw [if_neg (by simp)]
    simp only [nilW_some]
    refine ⟨sq, by rw [addr_mk, rd_blk hr1.blk]; rfl, ?_⟩
    obtain ⟨a, w1, w2, w3, w4⟩ := rdH hr1.queue.sl.reads hi
    rw [w1]
    simp only [nilW_some, Int.toNat_natCast]
    refine ⟨by omega, by omega, _, w2, ?_⟩
    refine ⟨sq, by rw [addr_mk, rd_blk hr1.blk]; rfl, ?_⟩
    rw [w1]
    simp only [nilW_some]
    refine ⟨by omega, by omega, _, w4, ?_⟩
    refine st_blk b1 (by simp) fun g2 s2 b2 e2 => ?_
    refine ⟨R.queue[i].1, by simp [rd_blk b2], R.queue[i].2.2, by simp [rd_blk b2], true, by simp [rd_blk b2], ?_⟩
    have := hQ g2 (e1.trans e2 fun b hb hlt => by simp at hb; omega)
    rw [(findH_at hi hx hbef).1] at this
    exact this
def forP (R : RM) (k : Int) : List Int := match findH R.queue k with | none => [] | some x => barsP R.has (R.queue.takeWhile fun x => x.2.1 != k) x.1 x.2.1 x.2.2
theorem ForR_s (hr : RAt lo h b R sh sq) (hm : ∀ x ∈ R.has, isM x.2.2 = true) (hl1 : R.has.length ≤ 2 ^ 16) (hl2 : R.queue.length ≤ 2 ^ 16) (k : Int)
    (hQ : ∀ h' s', Ext [] h h' → Own T_int 1 encIL h.size h' s' (forP R k) → Q [.slice s'.a s'.n s'.c] h') : S_liveryref06_Table_For (some ⟨b, 0, none⟩) k h Q := by
  refine O_liveryref06_Table_For _ _ ?_
  unfold F_liveryref06_Table_For
  have hn := hr.queue.1
  refine FindR_s hr (by omega) k (fun hall => ?_) (fun i hi hx hbef => ?_)
  · refine ⟨_, rfl, ?_⟩
    rw [if_pos (by decide)]
    refine hQ h ⟨none, 0, 0⟩ (Ext.refl _ _) ?_
    unfold forP
    rw [findH_none hall]
    exact Own.nil _ _
  · refine ⟨_, rfl, ?_⟩
    rw [if_neg (by simp)]
    simp only [nilW_some]
    refine ⟨sq, by rw [addr_mk, rd_blk hr.blk]; rfl, ?_⟩
    obtain ⟨a, w1, w2, w3, w4⟩ := rdH hr.queue.sl.reads hi
    rw [w1]
    simp only [nilW_some, Int.toNat_natCast]
    refine ⟨by omega, by omega, _, w2, _, w3, _, w4, ?_⟩
    refine barsR_s hr hm hl1 hl2 _ _ _ (p := i) (by omega) fun g2 s2 e2 ho2 => ⟨s2, rfl, hQ g2 s2 e2 ?_⟩
    unfold forP
    obtain ⟨g1, g2⟩ := findH_at hi hx hbef
    rw [g1, g2]
    exact ho2
end
end Go.Lift

/- Locks: the reference: its names. -/
import Derived.Test.YtgobalogbijliaaW06s
set_option linter.unusedSimpArgs false
set_option linter.unusedVariables false
namespace Go.Lift
open Go Go.Proofs
set_option maxRecDepth 100000
def posS (L : List ByteArray) (n : ByteArray) : Nat := (L.takeWhile fun y => sLt y n).length
theorem posS_le (L : List ByteArray) (n : ByteArray) : posS L n ≤ L.length := (List.takeWhile_sublist _).length_le
theorem posS_spec {L : List ByteArray} (ha : InOrder L) (n : ByteArray) : (∀ y ∈ L.take (posS L n), sLt y n = true) ∧ ∀ y ∈ L.drop (posS L n), sLt y n = false := by
  induction L with
  | nil => simp [posS]
  | cons a L ih =>
    obtain ⟨h1, h2⟩ := List.pairwise_cons.1 ha
    obtain ⟨g1, g2⟩ := ih h2
    unfold posS
    rw [List.takeWhile_cons]
    cases hx : sLt a n with
    | true =>
      simp only [if_true, List.length_cons, List.take_succ_cons, List.drop_succ_cons]
      refine ⟨fun y hy => ?_, g2⟩
      rcases List.mem_cons.1 hy with rfl | hy
      · exact hx
      · exact g1 y hy
    | false =>
      simp only [Bool.false_eq_true, if_false, List.length_nil, List.take_zero, List.drop_zero]
      refine ⟨by simp, fun y hy => ?_⟩
      rcases List.mem_cons.1 hy with rfl | hy
      · exact hx
      · cases hyn : sLt y n with
        | false => rfl
        | true => rw [← hx]; exact (sLt_trans (h1 y hy) hyn).symm ▸ rfl
theorem posS_eq {L : List ByteArray} {n : ByteArray} {p : Nat} (hp : p ≤ L.length) (ha : InOrder L) (h1 : ∀ j (hj : j < L.length), j < p → sLt L[j] n = true) (h2 : ∀ hp : p < L.length, sLt L[p] n = false) : posS L n = p := by
  have hs := posS_spec ha n
  have hle := posS_le L n
  rcases Nat.lt_trichotomy (posS L n) p with g | g | g
  · have hl : posS L n < L.length := by omega
    have h3 := h1 _ hl g
    have h4 := hs.2 L[posS L n] (by rw [List.drop_eq_getElem_cons hl]; exact List.mem_cons_self)
    rw [h3] at h4; cases h4
  · exact g
  · have hl : p < L.length := by omega
    have h3 := h2 hl
    have h4 := hs.1 L[p] (by rw [List.mem_take_iff_getElem]; exact ⟨p, by omega, rfl⟩)
    rw [h3] at h4; cases h4
def insS (L : List ByteArray) (n : ByteArray) : List ByteArray := L.take (posS L n) ++ [n] ++ L.drop (posS L n)
theorem insS_mem {L : List ByteArray} {n x : ByteArray} : x ∈ insS L n ↔ x = n ∨ x ∈ L := by
  unfold insS
  conv => rhs; rw [← List.take_append_drop (posS L n) L]
  simp only [List.mem_append, List.mem_cons, List.not_mem_nil, or_false]
  constructor
  · rintro ((h | h) | h)
    · exact Or.inr (Or.inl h)
    · exact Or.inl h
    · exact Or.inr (Or.inr h)
  · rintro (h | h | h)
    · exact Or.inl (Or.inr h)
    · exact Or.inl (Or.inl h)
    · exact Or.inr h
theorem insS_ord {L : List ByteArray} (ha : InOrder L) {n : ByteArray} (hn : n ∉ L) : InOrder (insS L n) := by
  obtain ⟨h1, h2⟩ := posS_spec ha n
  have h3 : ∀ y ∈ L.drop (posS L n), sLt n y = true := fun y hy => by
    have g := h2 y hy
    rcases sLt_total n y with e | e | e
    · exact absurd (e ▸ List.mem_of_mem_drop hy) hn
    · exact e
    · rw [e] at g; cases g
  unfold insS InOrder
  rw [List.append_assoc, List.pairwise_append]
  refine ⟨ha.sublist (List.take_sublist _ _), ?_, ?_⟩
  · rw [List.singleton_append, List.pairwise_cons]
    exact ⟨h3, ha.sublist (List.drop_sublist _ _)⟩
  · intro a ha' b hb
    rw [List.singleton_append, List.mem_cons] at hb
    rcases hb with rfl | hb
    · exact h1 a ha'
    · exact sLt_trans (h1 a ha') (h3 b hb)
theorem posS_at {L : List ByteArray} (ha : InOrder L) (n : ByteArray) : n ∈ L ↔ ∃ h : posS L n < L.length, L[posS L n] = n := by
  constructor
  · intro hm
    obtain ⟨j, hj, rfl⟩ := List.getElem_of_mem hm
    have hin := List.pairwise_iff_getElem.1 ha
    have : posS L L[j] = j := posS_eq (by omega) ha (fun i hi hij => hin i j hi hj hij) fun _ => sLt_irrefl _
    exact ⟨by omega, by simp only [this]⟩
  · rintro ⟨h, e⟩
    rw [← e]
    exact List.getElem_mem _
theorem encB_one (s : ByteArray) : ∀ v ∈ encB s, oneCell v = true := by
  intro v hv
  simp at hv
  rw [hv]
  rfl
theorem zc_str : (zc PP T_string).size = 1 := by kernel_rfl
instance lawB : LawfulBEq ByteArray where
  eq_of_beq {a b} h := by rw [beq_bytes] at h; exact of_decide_eq_true h
  rfl {a} := by rw [beq_bytes]; simp
def namesP (R : RM) : List ByteArray := sortS ((R.has ++ R.queue).map Prod.fst).eraseDups
theorem namesP_ord (R : RM) : InOrder (namesP R) := sortS_ord nodup_eraseDups
theorem namesP_mem {R : RM} {n : ByteArray} : n ∈ namesP R ↔ ∃ x ∈ R.has ++ R.queue, x.1 = n := by
  unfold namesP
  rw [sortS_mem, List.mem_eraseDups, List.mem_map]
section
variable {lo : Nat} {h : Hp} {b : Nat} {R : RM} {sh sq : Sl} {Q : List Value → Hp → Prop}
theorem NamesR_s (hr : RAt lo h b R sh sq) (hl1 : R.has.length ≤ 2 ^ 16) (hl2 : R.queue.length ≤ 2 ^ 16)
    (hQ : ∀ h' s', Ext [] h h' → Own T_string 1 encB h.size h' s' (namesP R) → Q [.slice s'.a s'.n s'.c] h') : S_liveryref06_Table_Names (some ⟨b, 0, none⟩) h Q := by
  refine O_liveryref06_Table_Names _ ?_
  unfold F_liveryref06_Table_Names
  simp only [nilW_some]
  have hn1 := hr.has.1
  have hn2 := hr.queue.1
  refine ⟨sh, by rw [addr_mk, rd_blk hr.blk]; rfl, sq, by rw [addr_mk, rd_blk hr.blk]; rfl, newI fun g1 s1 b1 e1 => ?_⟩
  have hr1 := hr.ext0 e1
  refine ⟨by rw [addr_mk, rd_blk hr1.blk]; rfl, by rw [addr_mk, rd_blk hr1.blk]; rfl, ?_⟩
  refine clG (lo' := h.size) encH_len encH_one zc_held (by decide) hr1.has.sl.reads.2.2 hn1 (by omega) b1 (Nat.le_refl _) fun l6 g2 o2 e2 hb2 => ?_
  have z2 := e2.sz
  have f2 : Ext [] h g2 := e1.trans e2 fun b hb hlt => by simp at hb; omega
  have hr2 := hr.ext0 f2
  refine ⟨by rw [addr_mk, rd_blk hr2.blk]; rfl, _, hr2.queue.sl.reads.2.2, ?_⟩
  have hn6 := o2.1
  refine app_own (ys := R.queue) o2 zc_held encH_len (fun x _ => encH_one x) rfl hn2 (bytes_le36 (by decide) (by simp only; omega)) (by simp only; omega) (by omega) fun l8 g3 o3 e3 hn3 hb3 => ?_
  have z3 := e3.sz
  have f3 : Ext [] h g3 := f2.trans e3 fun b hb hlt => by rcases hb2 b hb with q | q <;> omega
  have hn8 := o3.1
  intro X hX
  have hlen : (R.has ++ R.queue).length ≤ 2 ^ 17 := by simp; omega
  generalize hA : R.has ++ R.queue = A at o3 hn8 hlen
  have key : ∀ (d i : Nat) g l L, d + i = A.length → Ext [] h g → Own T_held 3 encH h.size g l8 A → Own T_string 1 encB h.size g l L → InOrder L → L.length ≤ i → (∀ x, x ∈ L ↔ ∃ y ∈ A.take i, y.1 = x) → X [.slice l.a l.n l.c, .int .i64 (i : Int)] g := by
    intro d
    induction d with
    | zero =>
      intro i g l L hi eg oA ho ha hLl hmem
      refine hX _ _ _ ?_
      rw [if_neg (by simp; omega)]
      rw [List.take_of_length_le (by omega)] at hmem
      have : L = namesP R := inOrder_ext ha (namesP_ord R) fun x => by rw [hmem, namesP_mem, hA]
      rw [this] at ho
      exact hQ g l eg ho
    | succ d ih =>
      intro i g l L hi eg oA ho ha hLl hmem
      have hil : i < A.length := by omega
      refine hX _ _ _ ?_
      rw [if_pos (by simp; omega)]
      intro J hJ Y hY
      have hln := ho.1
      have hcap := ho.capG
      have htk : A.take (i + 1) = A.take i ++ [A[i]] := by rw [List.take_add_one, List.getElem?_eq_getElem hil]; rfl
      have hmem' : ∀ x, (x = A[i].1 ∨ x ∈ L) ↔ ∃ y ∈ A.take (i + 1), y.1 = x := fun x => by
        rw [hmem]
        constructor
        · rintro (h | ⟨y, h1, h2⟩)
          · exact ⟨A[i], by rw [htk]; exact List.mem_append_right _ (List.mem_singleton.2 rfl), h.symm⟩
          · exact ⟨y, by rw [htk]; exact List.mem_append_left _ h1, h2⟩
        · rintro ⟨y, h1, h2⟩
          rw [htk] at h1
          rcases List.mem_append.1 h1 with h1 | h1
          · exact Or.inr ⟨y, h1, h2⟩
          · simp at h1; subst h1; exact Or.inl h2.symm
      generalize hN : A[i].1 = N at hmem'
      obtain ⟨aA, u1, u2, u3, u4⟩ := rdH oA.sl.reads hil
      rw [hN] at u2
      have hpl := posS_le L N
      have hsz := eg.sz
      have hsp := posS_spec ha N
      have next : ∀ g' l' L', Ext [] g g' → Own T_string 1 encB h.size g' l' L' → InOrder L' → L'.length ≤ i + 1 → (∀ x, x ∈ L' ↔ x = N ∨ x ∈ L) → J [.slice l'.a l'.n l'.c] g' := by
        intro g' l' L' e' ho' ha' hl' hm'
        refine hJ _ _ ?_
        rw [wrap64 (by omega) (by omega)]
        have := ih (i + 1) g' l' L' (by omega) (eg.trans0 e') (oA.ext0 e') ho' ha' hl' fun x => by rw [hm', hmem']
        simpa using this
      have rN : ∀ g', Ext [] g g' → rd g' (Addr.add (Addr.add aA (i * 3)) 0) = some (.string N) := fun g' e => rd_ext0 e u2
      have fin : ∀ g' l' p, p = posS L N → Ext [] g g' → Own T_string 1 encB h.size g' l' (L.take p ++ [N] ++ L.drop p) → N ∉ L → J [.slice l'.a l'.n l'.c] g' := by
        intro g' l' p hp e' hl' hni
        subst hp
        exact next g' l' (insS L N) e' hl' (insS_ord ha hni) (by unfold insS; simp; omega) fun x => insS_mem
      have tail : ∀ p : Nat, p = posS L N → N ∉ L → (0 ≤ (p : Int) ∧ (p : Int) ≤ (l.c : Nat)) ∧ nilW l8.a fun a26 => ixOk (i : Int) l8.n (∃ s27 : ByteArray, rd g (Addr.add (Addr.add a26 (Int.toNat (i : Int) * 3)) 0) = some (Value.string s27) ∧
                              (0 ≤ (p : Int) ∧ (p : Int) ≤ (l.n : Nat)) ∧ (wth (Array.push g (Obj.cells #[] T_string)) fun h28 =>
                                rd h28 (Addr.add (Addr.add a26 (Int.toNat (i : Int) * 3)) 0) = some (Value.string s27) ∧ (∃ cs38 : List Value, cellsAt h28 (slAd l.a 0 l.c 1) (((Int.toNat (p : Int)) - 0) * 1) cs38 ∧ appS PP T_string 16 1 h28 ⟨(some (Addr.mk (Array.size g) 0 none)), 0, 0⟩ ((Int.toNat (p : Int)) - 0) cs38 fun (l29 : Sl) (h30 : Hp) =>
                                  rd h30 (Addr.add (Addr.add a26 (Int.toNat (i : Int) * 3)) 0) = some (Value.string s27) ∧ wth (Array.push h30 (Obj.cells #[(Value.string s27)] T_string)) fun h31 =>
                                  ∃ cs37 : List Value, cellsAt h31 (some (Addr.mk (Array.size h30) 0 none)) (1 * 1) cs37 ∧ appS PP T_string 16 1 h31 ⟨l29.a, l29.n, l29.c⟩ 1 cs37 fun (l32 : Sl) (h33 : Hp) =>
                                  ∃ cs36 : List Value, cellsAt h33 (slAd l.a (Int.toNat (p : Int)) l.c 1) ((l.n - (Int.toNat (p : Int))) * 1) cs36 ∧ appS PP T_string 16 1 h33 ⟨l32.a, l32.n, l32.c⟩ (l.n - (Int.toNat (p : Int))) cs36 fun (l34 : Sl) (h35 : Hp) =>
                                  J [(Value.slice l34.a l34.n l34.c)] h35) ∧
                                (wth (Array.push h28 (Obj.cells #[(Value.string s27)] T_string)) fun h39 =>
                                  ∃ cs48 : List Value, cellsAt h39 (slAd l.a 0 l.c 1) (((Int.toNat (p : Int)) - 0) * 1) cs48 ∧ appS PP T_string 16 1 h39 ⟨(some (Addr.mk (Array.size g) 0 none)), 0, 0⟩ ((Int.toNat (p : Int)) - 0) cs48 fun (l40 : Sl) (h41 : Hp) =>
                                  ∃ cs47 : List Value, cellsAt h41 (some (Addr.mk (Array.size h28) 0 none)) (1 * 1) cs47 ∧ appS PP T_string 16 1 h41 ⟨l40.a, l40.n, l40.c⟩ 1 cs47 fun (l42 : Sl) (h43 : Hp) =>
                                  ∃ cs46 : List Value, cellsAt h43 (slAd l.a (Int.toNat (p : Int)) l.c 1) ((l.n - (Int.toNat (p : Int))) * 1) cs46 ∧ appS PP T_string 16 1 h43 ⟨l42.a, l42.n, l42.c⟩ (l.n - (Int.toNat (p : Int))) cs46 fun (l44 : Sl) (h45 : Hp) =>
                                  J [(Value.slice l44.a l44.n l44.c)] h45)) ∧
                              (wth (Array.push g (Obj.cells #[(Value.string s27)] T_string)) fun h49 =>
                                wth (Array.push h49 (Obj.cells #[] T_string)) fun h50 =>
                                ∃ cs59 : List Value, cellsAt h50 (slAd l.a 0 l.c 1) (((Int.toNat (p : Int)) - 0) * 1) cs59 ∧ appS PP T_string 16 1 h50 ⟨(some (Addr.mk (Array.size h49) 0 none)), 0, 0⟩ ((Int.toNat (p : Int)) - 0) cs59 fun (l51 : Sl) (h52 : Hp) =>
                                ∃ cs58 : List Value, cellsAt h52 (some (Addr.mk (Array.size g) 0 none)) (1 * 1) cs58 ∧ appS PP T_string 16 1 h52 ⟨l51.a, l51.n, l51.c⟩ 1 cs58 fun (l53 : Sl) (h54 : Hp) =>
                                ∃ cs57 : List Value, cellsAt h54 (slAd l.a (Int.toNat (p : Int)) l.c 1) ((l.n - (Int.toNat (p : Int))) * 1) cs57 ∧ appS PP T_string 16 1 h54 ⟨l53.a, l53.n, l53.c⟩ (l.n - (Int.toNat (p : Int))) cs57 fun (l55 : Sl) (h56 : Hp) =>
                                J [(Value.slice l55.a l55.n l55.c)] h56)) := by
        intro p hp hni
        have hlb := own_ltG ho
        rw [u1]
        simp only [nilW_some, Int.toNat_natCast]
        refine ⟨by omega, by omega, by omega, N, u2, by omega, ?_, ?_⟩
        · refine newI fun k1 t1 c1 d1 => ⟨rN k1 d1, ?_, ?_⟩
          · refine app1sG (lo' := h.size) encB_len encB_one zc_str (by decide) (takeCG encB_len (ho.ext0 d1) (c := p) (by omega)) (by simp; omega) (by omega) c1 (by omega) fun l1 k2 ho2 d2 hb2 => ?_
            have dd : Ext [] g k2 := d1.trans d2 fun b hb hlt => by simp at hb; omega
            refine ⟨rN k2 dd, newI fun k3 t3 c3 d3 => ?_⟩
            have z2 := d2.sz
            refine app23G encB_len encB_one zc_str (by decide) (k := N) ((ho.ext0 dd).ext0 d3) (ho2.ext0 d3) c3 (fun b hb hm => by have := hlb b hb; have := hb2 _ hm; omega) (by omega) (by omega) (by simp; omega) (by omega) fun s' g' ho' f' => ?_
            exact fin g' s' p hp ((dd.trans0 d3).trans f' fun b hb hlt => by have := hb2 _ hb; omega) ho' hni
          · refine newI fun k2 t2 c2 d2 => ?_
            refine app3G encB_len encB_one zc_str (by decide) (k := N) ((ho.ext0 d1).ext0 d2) (d2.get c1 (by simp)) (by omega) c2 (by omega) (fun hm => by have := hlb _ hm; omega) (by omega) (by omega) fun s' g' ho' f' => ?_
            exact fin g' s' p hp ((d1.trans0 d2).trans f' (by intro b hb hlt; simp at hb; omega)) ho' hni
        · refine newI fun k1 t1 c1 d1 => newI fun k2 t2 c2 d2 => ?_
          refine app3G (lo' := h.size) encB_len encB_one zc_str (by decide) (k := N) ((ho.ext0 d1).ext0 d2) c2 (by omega) (d2.get c1 (by simp)) (by omega) (fun hm => by have := hlb _ hm; omega) (by omega) (by omega) fun s' g' ho' f' => ?_
          exact fin g' s' p hp ((d1.trans0 d2).trans f' (by intro b hb hlt; simp at hb; omega)) ho' hni
      have key2 : ∀ d p : Nat, d + p = L.length → p ≤ posS L N → Y [.int .i64 (p : Int)] g := by
        intro d
        induction d with
        | zero =>
          intro p hp hip
          have hpp : p = posS L N := by omega
          refine hY _ _ ?_
          intro J5 hJ5
          rw [if_neg (by simp; omega)]
          refine hJ5 _ _ ?_
          rw [if_neg (by decide)]
          intro J6 hJ6
          rw [if_pos (by simp; omega)]
          refine hJ6 _ _ ?_
          rw [if_pos rfl]
          refine tail p hpp fun hin => ?_
          obtain ⟨h5, _⟩ := (posS_at ha N).1 hin
          omega
        | succ d ih2 =>
          intro p hp hip
          have hpl' : p < L.length := by omega
          refine hY _ _ ?_
          intro J5 hJ5
          rw [if_pos (by simp; omega)]
          obtain ⟨ka, w1, w2⟩ := rdB ho.sl.reads (i := p) hpl'
          rw [w1, u1]
          simp only [nilW_some, Int.toNat_natCast]
          refine ⟨by omega, by omega, _, w2, by omega, by omega, _, u2, hJ5 _ _ ?_⟩
          cases hlt : sLt L[p] N with
          | true =>
            rw [if_pos (show Op.bytesLess (ByteArray.toList L[p]) (ByteArray.toList N) = true from hlt), wrap64 (by omega) (by omega)]
            have hne : p ≠ posS L N := by
              intro e
              have := hsp.2 L[p] (by rw [← e, List.drop_eq_getElem_cons hpl']; exact List.mem_cons_self)
              rw [this] at hlt; cases hlt
            have := ih2 (p + 1) (by omega) (by omega)
            simpa using this
          | false =>
            rw [if_neg (by unfold sLt at hlt; rw [hlt]; decide)]
            have hpp : p = posS L N := by
              refine Nat.le_antisymm hip (Nat.not_lt.1 fun hg => ?_)
              have := hsp.1 L[p] (by rw [List.mem_take_iff_getElem]; exact ⟨p, by omega, rfl⟩)
              rw [this] at hlt; cases hlt
            intro J6 hJ6
            rw [if_neg (by simp; omega), w1, u1]
            simp only [nilW_some, Int.toNat_natCast]
            refine ⟨by omega, by omega, _, w2, by omega, by omega, _, u2, hJ6 _ _ ?_⟩
            rw [toList_eq_iff]
            by_cases heq : L[p] = N
            · rw [if_neg (by simp [heq])]
              have hin : N ∈ L := heq ▸ List.getElem_mem _
              exact next g l L (Ext.refl _ _) ho ha (by omega) fun x => ⟨Or.inr, fun hx => hx.elim (fun e => e ▸ hin) id⟩
            · rw [if_pos (by simp [heq])]
              refine tail p hpp fun hin => ?_
              obtain ⟨h5, h6⟩ := (posS_at ha N).1 hin
              refine heq ?_
              simp only [hpp]
              exact h6
      have := key2 L.length 0 (by omega) (by omega)
      simpa using this
  have := key A.length 0 g3 ⟨none, 0, 0⟩ [] (by omega) f3 o3 (Own.nil _ _) List.Pairwise.nil (by simp) (by simp)
  simpa using this
end
end Go.Lift

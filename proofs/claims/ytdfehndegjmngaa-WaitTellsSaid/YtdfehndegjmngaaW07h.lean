/- The reference: nodes, has, Reach. -/
import Derived.Test.YtdfehndegjmngaaW07g
import Derived.Test.YtdfehndegjmngaaLvV
set_option linter.unusedSimpArgs false
set_option linter.unusedVariables false
namespace Go.Lift
open Go Go.Proofs
set_option maxRecDepth 100000
def posI (L : List Int) (n : Int) : Nat := (L.takeWhile fun y => decide (y < n)).length
theorem posI_le (L : List Int) (n : Int) : posI L n ≤ L.length := (List.takeWhile_sublist _).length_le
theorem posI_eq {L : List Int} {n : Int} : ∀ {p : Nat}, p ≤ L.length → (∀ j (hj : j < L.length), j < p → L[j] < n) → (∀ hp : p < L.length, ¬ L[p] < n) → posI L n = p := by
  induction L with
  | nil => intro p hp _ _; simp at hp; subst hp; rfl
  | cons a L ih =>
    intro p hp h1 h2
    unfold posI
    rw [List.takeWhile_cons]
    cases p with
    | zero =>
      have := h2 (by simp)
      simp only [List.getElem_cons_zero] at this
      simp [this]
    | succ p =>
      have h0 := h1 0 (by simp) (by omega)
      simp only [List.getElem_cons_zero] at h0
      have := ih (p := p) (by simpa using hp) (fun j hj hjp => by have := h1 (j + 1) (by simpa using hj) (by omega); simpa using this) (fun hp' => by have := h2 (by simpa using hp'); simpa using this)
      unfold posI at this
      simp [h0, this]
theorem posI_spec {L : List Int} (ha : Asc L) (n : Int) : (∀ y ∈ L.take (posI L n), y < n) ∧ ∀ y ∈ L.drop (posI L n), n ≤ y := by
  induction L with
  | nil => simp [posI]
  | cons a L ih =>
    obtain ⟨h1, h2⟩ := List.pairwise_cons.1 ha
    obtain ⟨g1, g2⟩ := ih h2
    unfold posI
    rw [List.takeWhile_cons]
    by_cases hx : a < n
    · rw [decide_eq_true hx]
      simp only [if_true, List.length_cons, List.take_succ_cons, List.drop_succ_cons]
      refine ⟨fun y hy => ?_, g2⟩
      rcases List.mem_cons.1 hy with rfl | hy
      · exact hx
      · exact g1 y hy
    · rw [decide_eq_false hx]
      simp only [Bool.false_eq_true, if_false, List.length_nil, List.take_zero, List.drop_zero]
      refine ⟨by simp, fun y hy => ?_⟩
      rcases List.mem_cons.1 hy with rfl | hy
      · omega
      · have := h1 y hy; omega
def insI (L : List Int) (n : Int) : List Int := L.take (posI L n) ++ [n] ++ L.drop (posI L n)
theorem insI_mem {L : List Int} {n x : Int} : x ∈ insI L n ↔ x = n ∨ x ∈ L := by
  unfold insI
  conv => rhs; rw [← List.take_append_drop (posI L n) L]
  simp only [List.mem_append, List.mem_cons, List.not_mem_nil, or_false]
  constructor
  · rintro ((h | h) | h)
    · exact Or.inr (Or.inl h)
    · exact Or.inl h
    · exact Or.inr (Or.inr h)
  · rintro (h | h | h)
    · exact Or.inl (Or.inr h)
    · exact Or.inl (Or.inl h)
    · exact Or.inr h
theorem insI_asc {L : List Int} (ha : Asc L) {n : Int} (hn : n ∉ L) : Asc (insI L n) := by
  obtain ⟨h1, h2⟩ := posI_spec ha n
  unfold insI Asc
  rw [List.append_assoc, List.pairwise_append]
  refine ⟨ha.sublist (List.take_sublist _ _), ?_, ?_⟩
  · rw [List.singleton_append, List.pairwise_cons]
    refine ⟨fun y hy => ?_, ha.sublist (List.drop_sublist _ _)⟩
    have := h2 y hy
    have hne : y ≠ n := fun e => hn (e ▸ List.mem_of_mem_drop hy)
    omega
  · intro a ha' b hb
    rw [List.singleton_append, List.mem_cons] at hb
    have := h1 a ha'
    rcases hb with rfl | hb
    · exact this
    · have := h2 b hb; omega
/-- Stands a number at its place? -/
theorem posI_at {L : List Int} (ha : Asc L) (n : Int) : n ∈ L ↔ ∃ h : posI L n < L.length, L[posI L n] = n := by
  constructor
  · intro hm
    obtain ⟨j, hj, rfl⟩ := List.getElem_of_mem hm
    have hin := List.pairwise_iff_getElem.1 ha
    have : posI L L[j] = j := posI_eq (by omega) (fun i hi hij => hin i j hi hj hij) fun _ => by omega
    exact ⟨by omega, by simp only [this]⟩
  · rintro ⟨h, e⟩
    rw [← e]
    exact List.getElem_mem _
section
variable {h : Hp} {Q : List Value → Hp → Prop}
theorem rdEk {h : Hp} {s : Sl} {xs : List Edge} (hs : Reads 2 encE2 h s xs) {i : Nat} (hi : i < xs.length) : ∃ a, s.a = some a ∧ rd h (Addr.add (Addr.add a (i * 2)) (Int.toNat 0 * 1)) = some (.int .i64 xs[i].1) ∧ rd h (Addr.add (Addr.add a (i * 2)) (Int.toNat 1 * 1)) = some (.int .i64 xs[i].2) := by
  obtain ⟨a, h1, h2⟩ := hs.rd encE2_len hi
  exact ⟨a, h1, by rw [addr_add_add]; simpa using h2 0 (by omega), by rw [addr_add_add]; simpa using h2 1 (by omega)⟩
theorem hasR_s {a : Sl} {xs : List Int} {m : Int} (ha : Reads 1 encIL h a xs) (hlen : xs.length < 2 ^ 60) (hQ : Q [.bool (xs.contains m)] h) : S_liveryref07_has a m h Q := by
  refine O_liveryref07_has _ _ ?_
  unfold F_liveryref07_has
  have h1 := ha.1
  intro X hX
  have key : ∀ k i, k + i = xs.length → (∀ j (hj : j < xs.length), j < i → xs[j] ≠ m) → X [.int .i64 (i : Int)] h := by
    intro k
    induction k with
    | zero =>
      intro i hi hall
      refine hX _ _ ?_
      rw [if_neg (by simp; omega)]
      have : xs.contains m = false := by
        cases hc : xs.contains m with
        | false => rfl
        | true =>
          have := List.contains_iff_mem.1 hc
          obtain ⟨j, hj, e⟩ := List.getElem_of_mem this
          exact absurd e (hall j hj (by omega))
      rw [this] at hQ
      exact hQ
    | succ k ih =>
      intro i hi hall
      refine hX _ _ ?_
      rw [if_pos (by simp; omega)]
      obtain ⟨b1, g1, g2⟩ := rdI ha (i := i) (by omega)
      rw [g1]
      simp only [nilW_some, Int.toNat_natCast]
      refine ⟨by omega, by omega, xs[i]'(by omega), g2, ?_⟩
      by_cases e : xs[i]'(by omega) = m
      · rw [if_pos (by simp [e])]
        have : xs.contains m = true := List.contains_iff_mem.2 (by rw [← e]; exact List.getElem_mem _)
        rw [this] at hQ
        exact hQ
      · rw [if_neg (by simp [e]), wrap64 (by omega) (by omega)]
        refine ih (i + 1) (by omega) fun j hj hji => ?_
        rcases (by omega : j < i ∨ j = i) with g | g
        · exact hall j hj g
        · subst g; exact e
  have := key xs.length 0 (by omega) (by intro j hj hji; omega)
  simpa using this
theorem nodes_s {s : Sl} {E : List Edge} (hs : Reads 2 encE2 h s E) (hl : E.length ≤ 2 ^ 12) (hQ : ∀ h' o, Own T_int 1 encIL h.size h' o (nodesS E) → Ext [] h h' → Q [.slice o.a o.n o.c] h') : S_liveryref07_nodes s h Q := by
  refine O_liveryref07_nodes _ ?_
  unfold F_liveryref07_nodes
  have hn := hs.1
  intro X hX
  have key : ∀ d i g l L, d + i = E.length → Ext [] h g → Own T_int 1 encIL h.size g l L → Asc L → L.length ≤ 2 * i → (∀ x, x ∈ L ↔ (∃ y, (x, y) ∈ E.take i) ∨ ∃ y, (y, x) ∈ E.take i) → X [.slice l.a l.n l.c, .int .i64 (i : Int)] g := by
    intro d
    induction d with
    | zero =>
      intro i g l L hi e hL ha hlen hm
      refine hX l _ _ ?_
      rw [if_neg (by simp; omega)]
      rw [List.take_of_length_le (by omega)] at hm
      have : L = nodesS E := asc_ext ha (nodesS_asc E) fun x => by rw [hm, nodesS_mem]
      rw [this] at hL
      exact hQ g l hL e
    | succ d ih =>
      intro i g l L hi e hL ha hlen hm
      refine hX l _ _ ?_
      rw [if_pos (by simp; omega)]
      have hil : i < E.length := by omega
      have htk : E.take (i + 1) = E.take i ++ [E[i]] := by rw [List.take_add_one, List.getElem?_eq_getElem hil]; rfl
      intro Y hY
      have ins : ∀ (k : Nat) (n : Int) (g : Hp) (l : Sl) (L : List Int), k < 2 → (∀ a, s.a = some a → rd g (Addr.add (Addr.add a (i * 2)) (k * 1)) = some (.int .i64 n)) → Ext [] h g → Own T_int 1 encIL h.size g l L → Asc L → L.length ≤ 2 ^ 20 →
          (∀ g' l' L', Ext [] h g' → Own T_int 1 encIL h.size g' l' L' → Asc L' → L'.length ≤ L.length + 1 → (∀ x, x ∈ L' ↔ x = n ∨ x ∈ L) → Y [.slice l'.a l'.n l'.c, .int .i64 ((k + 1 : Nat) : Int)] g') → Y [.slice l.a l.n l.c, .int .i64 (k : Int)] g := by
        intro k n g l L hk2 hrd e hL ha hlen hcb
        refine hY l _ _ ?_
        rw [if_pos (by simp; omega)]
        intro J hJ
        obtain ⟨a, w1, _, _⟩ := rdEk (hs.ext0 e) (i := i) hil
        have hrd' := hrd a w1
        rw [w1]
        simp only [nilW_some, Int.toNat_natCast]
        refine ⟨by omega, by omega, by omega, by omega, n, hrd', ?_⟩
        have hln := hL.1
        have hcap := hL.capG
        have hpl := posI_le L n
        have hlb := own_ltG hL
        have z := e.sz
        intro Z hZ
        have exit : ∀ p : Nat, p = posI L n → Z [.int .i64 (p : Int)] g := by
          intro p hp
          refine hZ _ _ ?_
          intro J17 hJ17
          have go : J17 [.bool false] g := by
            refine hJ17 _ _ ?_
            rw [if_neg (by decide)]
            intro J20 hJ20
            have same : n ∈ L → J20 [.bool false] g := by
              intro hin
              refine hJ20 _ _ ?_
              rw [if_neg (by decide)]
              refine hJ l _ ?_
              rw [wrap64 (by omega) (by omega)]
              have := hcb g l L e hL ha (by omega) (fun x => ⟨Or.inr, fun h => h.elim (fun e => e ▸ hin) id⟩)
              simpa using this
            have fresh : n ∉ L → J20 [.bool true] g := by
              intro hni
              refine hJ20 _ _ ?_
              rw [if_pos rfl]
              have fin : ∀ g' l', Ext [] g g' → Own T_int 1 encIL g.size g' l' (L.take p ++ [n] ++ L.drop p) → J [.slice l'.a l'.n l'.c] g' := by
                intro g' l' e' hl'
                refine hJ l' _ ?_
                rw [wrap64 (by omega) (by omega)]
                rw [hp] at hl'
                have := hcb g' l' (insI L n) (e.trans0 e') (hl'.mono z) (insI_asc ha hni) (by unfold insI; simp; omega) (fun x => insI_mem)
                simpa using this
              refine ⟨by omega, by omega, ⟨?_, ?_⟩⟩
              · refine newI fun g1 t1 c1 f1 => ⟨?_, ?_⟩
                · refine app1sG (lo' := g.size) encIL_len encIL_one zcInt (by decide) (takeCG encIL_len (hL.ext0 f1) (c := p) (by omega)) (by simp; omega) (by omega) c1 (Nat.le_refl _) fun l1 g2 ho2 f2 hb2 => ?_
                  refine newI fun g3 t3 c3 f3 => ?_
                  have z2 := f2.sz
                  refine app23G encIL_len encIL_one zcInt (by decide) (k := n) (((hL.ext0 f1).ext f2 fun a ha hm => by simp at hm; have := hlb _ (mem_sBlk.2 ⟨a, ha, rfl⟩); omega).ext0 f3) (ho2.ext0 f3) c3 (fun b hb hm => by have := hlb b hb; have := hb2 _ hm; omega) (by omega) (by omega) (by simp; omega) (by omega) fun s' g' ho' f' => ?_
                  refine fin g' s' (((f1.trans f2 (by intro b hb hlt; simp at hb; omega)).trans0 f3).trans f' fun b hb hlt => by have := hb2 _ hb; omega) ho'
                · refine newI fun g2 t2 c2 f2 => ?_
                  refine app3G encIL_len encIL_one zcInt (by decide) (k := n) ((hL.ext0 f1).ext0 f2) (f2.get c1 (by simp)) (Nat.le_refl _) c2 (by omega) (fun hm => by have := hlb _ hm; omega) (by omega) (by omega) fun s' g' ho' f' => ?_
                  exact fin g' s' ((f1.trans0 f2).trans f' (by intro b hb hlt; simp at hb; omega)) ho'
              · refine newI fun g1 t1 c1 f1 => newI fun g2 t2 c2 f2 => ?_
                refine app3G (lo' := g.size) encIL_len encIL_one zcInt (by decide) (k := n) ((hL.ext0 f1).ext0 f2) c2 (by omega) (f2.get c1 (by simp)) (by omega) (fun hm => by have := hlb _ hm; omega) (by omega) (by omega) fun s' g' ho' f' => ?_
                exact fin g' s' ((f1.trans0 f2).trans f' (by intro b hb hlt; simp at hb; omega)) ho'
            by_cases hpe : p = L.length
            · rw [if_pos (by simp; omega)]
              refine fresh fun hin => ?_
              obtain ⟨h5, _⟩ := (posI_at ha n).1 hin
              omega
            · rw [if_neg (by simp; omega)]
              have hpL : p < L.length := by omega
              obtain ⟨ka, u1, u2⟩ := rdI hL.sl.reads (i := p) hpL
              rw [u1]
              simp only [nilW_some, Int.toNat_natCast]
              refine ⟨by omega, by omega, _, u2, ?_⟩
              by_cases hne : L[p] = n
              · rw [show (L[p] != n) = false by simp [hne]]
                exact same (by rw [← hne]; exact List.getElem_mem _)
              · rw [show (L[p] != n) = true by simp [hne]]
                refine fresh fun hin => ?_
                obtain ⟨h5, h6⟩ := (posI_at ha n).1 hin
                subst hp
                exact hne h6
          by_cases hpL : p < L.length
          · rw [if_pos (by simp; omega)]
            obtain ⟨ka, u1, u2⟩ := rdI hL.sl.reads (i := p) hpL
            rw [u1]
            simp only [nilW_some, Int.toNat_natCast]
            refine ⟨by omega, by omega, _, u2, ?_⟩
            have : n ≤ L[p] := (posI_spec ha n).2 _ (by
              rw [← hp]
              exact List.mem_iff_getElem.2 ⟨0, by simp; omega, by simp⟩)
            rw [show (decide (L[p] < n)) = false by simp; omega]
            exact go
          · rw [if_neg (by simp; omega)]
            exact go
        have key3 : ∀ d p, d + p = L.length → (∀ j (hj : j < L.length), j < p → L[j] < n) → Z [.int .i64 (p : Int)] g := by
          intro d
          induction d with
          | zero => intro p hp hall; exact exit p (posI_eq (by omega) (fun j hj hjp => hall j hj hjp) fun hp' => by omega).symm
          | succ d ih =>
            intro p hp hall
            have hpL : p < L.length := by omega
            by_cases hlt : L[p] < n
            · refine hZ _ _ ?_
              intro J17 hJ17
              rw [if_pos (by simp; omega)]
              obtain ⟨ka, u1, u2⟩ := rdI hL.sl.reads (i := p) hpL
              rw [u1]
              simp only [nilW_some, Int.toNat_natCast]
              refine ⟨by omega, by omega, _, u2, ?_⟩
              rw [decide_eq_true hlt]
              refine hJ17 _ _ ?_
              rw [if_pos rfl, wrap64 (by omega) (by omega)]
              refine ih (p + 1) (by omega) fun j hj hjp => ?_
              rcases (by omega : j < p ∨ j = p) with g5 | g5
              · exact hall j hj g5
              · subst g5; exact hlt
            · exact exit p (posI_eq (by omega) (fun j hj hjp => hall j hj hjp) fun _ => hlt).symm
        have := key3 L.length 0 (by omega) (by intro j hj h; omega)
        simpa using this
      have := ins 0 E[i].1 g l L (by omega) (fun a ha => by
        obtain ⟨a', w1, w2, w3⟩ := rdEk (hs.ext0 e) (i := i) hil
        rw [ha] at w1; cases w1
        exact w2) e hL ha (by omega) fun g1 l1 L1 e1 hL1 ha1 hl1 hm1 => ?_
      · simpa using this
      have := ins 1 E[i].2 g1 l1 L1 (by omega) (fun a ha => by
        obtain ⟨a', w1, w2, w3⟩ := rdEk (hs.ext0 e1) (i := i) hil
        rw [ha] at w1; cases w1
        exact w3) e1 hL1 ha1 (by omega) fun g2 l2 L2 e2 hL2 ha2 hl2 hm2 => ?_
      · simpa using this
      refine hY l2 _ _ ?_
      rw [if_neg (by decide), wrap64 (by omega) (by omega)]
      have := ih (i + 1) g2 l2 L2 (by omega) e2 hL2 ha2 (by omega) (fun x => by
        rw [hm2, hm1, hm, htk]
        simp only [List.mem_append, List.mem_singleton]
        constructor
        · rintro (h5 | h5 | ⟨y, h5⟩ | ⟨y, h5⟩)
          · exact Or.inr ⟨E[i].1, Or.inr (by rw [h5])⟩
          · exact Or.inl ⟨E[i].2, Or.inr (by rw [h5])⟩
          · exact Or.inl ⟨y, Or.inl h5⟩
          · exact Or.inr ⟨y, Or.inl h5⟩
        · rintro (⟨y, h5 | h5⟩ | ⟨y, h5 | h5⟩)
          · exact Or.inr (Or.inr (Or.inl ⟨y, h5⟩))
          · exact Or.inr (Or.inl (by rw [← h5]))
          · exact Or.inr (Or.inr (Or.inr ⟨y, h5⟩))
          · exact Or.inl (by rw [← h5]))
      simpa using this
  have := key E.length 0 h ⟨none, 0, 0⟩ [] (by omega) (Ext.refl _ _) (Own.nil _ _) (by simp [Asc]) (by simp) (by simp)
  simpa using this
end
end Go.Lift

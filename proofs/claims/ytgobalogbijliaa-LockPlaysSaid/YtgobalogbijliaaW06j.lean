/- Locks: two modes beside each other; a stronger one; turns. -/
import Derived.Test.YtgobalogbijliaaW06i
set_option linter.unusedSimpArgs false
set_option linter.unusedVariables false
namespace Go.Lift
open Go Go.Proofs
set_option maxRecDepth 100000
def listR (m : Int) : List Int :=
  if m = 1 then [8] else if m = 2 then [7, 8] else if m = 3 then [5, 6, 7, 8] else if m = 4 then [4, 5, 6, 7, 8] else if m = 5 then [3, 4, 6, 7, 8] else if m = 6 then [3, 4, 5, 6, 7, 8] else if m = 7 then [2, 3, 4, 5, 6, 7, 8] else if m = 8 then [1, 2, 3, 4, 5, 6, 7, 8] else []
def barsR (a b : Int) : Bool := decide (b ∈ listR a)
theorem listR_len (m : Int) : (listR m).length ≤ 8 := by
  unfold listR
  repeat' split
  all_goals simp
section
variable {lo : Nat} {G : Nat → Prop} {h : Hp} {t : Nat} {T : TM} {Q : List Value → Hp → Prop}
theorem list05_s (m : Int) (hQ : ∀ h' s, Ext [] h h' → Reads 1 encIL h' s (listR m) → Q [.slice s.a s.n s.c] h') : S_liveryref05_bars m h Q := by
  refine O_liveryref05_bars _ ?_
  unfold F_liveryref05_bars
  unfold listR at hQ
  by_cases h1 : m = 1
  · rw [if_pos (by simpa using h1)]
    rw [if_pos h1] at hQ
    exact newI fun g s b e => hQ g ⟨some ⟨h.size, 0, none⟩, _, _⟩ e (reads_lit b rfl rfl)
  rw [if_neg (by simpa using h1)]
  rw [if_neg h1] at hQ
  by_cases h1 : m = 2
  · rw [if_pos (by simpa using h1)]
    rw [if_pos h1] at hQ
    exact newI fun g s b e => hQ g ⟨some ⟨h.size, 0, none⟩, _, _⟩ e (reads_lit b rfl rfl)
  rw [if_neg (by simpa using h1)]
  rw [if_neg h1] at hQ
  by_cases h1 : m = 3
  · rw [if_pos (by simpa using h1)]
    rw [if_pos h1] at hQ
    exact newI fun g s b e => hQ g ⟨some ⟨h.size, 0, none⟩, _, _⟩ e (reads_lit b rfl rfl)
  rw [if_neg (by simpa using h1)]
  rw [if_neg h1] at hQ
  by_cases h1 : m = 4
  · rw [if_pos (by simpa using h1)]
    rw [if_pos h1] at hQ
    exact newI fun g s b e => hQ g ⟨some ⟨h.size, 0, none⟩, _, _⟩ e (reads_lit b rfl rfl)
  rw [if_neg (by simpa using h1)]
  rw [if_neg h1] at hQ
  by_cases h1 : m = 5
  · rw [if_pos (by simpa using h1)]
    rw [if_pos h1] at hQ
    exact newI fun g s b e => hQ g ⟨some ⟨h.size, 0, none⟩, _, _⟩ e (reads_lit b rfl rfl)
  rw [if_neg (by simpa using h1)]
  rw [if_neg h1] at hQ
  by_cases h1 : m = 6
  · rw [if_pos (by simpa using h1)]
    rw [if_pos h1] at hQ
    exact newI fun g s b e => hQ g ⟨some ⟨h.size, 0, none⟩, _, _⟩ e (reads_lit b rfl rfl)
  rw [if_neg (by simpa using h1)]
  rw [if_neg h1] at hQ
  by_cases h1 : m = 7
  · rw [if_pos (by simpa using h1)]
    rw [if_pos h1] at hQ
    exact newI fun g s b e => hQ g ⟨some ⟨h.size, 0, none⟩, _, _⟩ e (reads_lit b rfl rfl)
  rw [if_neg (by simpa using h1)]
  rw [if_neg h1] at hQ
  by_cases h1 : m = 8
  · rw [if_pos (by simpa using h1)]
    rw [if_pos h1] at hQ
    exact newI fun g s b e => hQ g ⟨some ⟨h.size, 0, none⟩, _, _⟩ e (reads_lit b rfl rfl)
  rw [if_neg (by simpa using h1)]
  rw [if_neg h1] at hQ
  exact hQ h ⟨none, 0, 0⟩ (Ext.refl _ _) (Reads.nil _ _)
theorem rdI {h : Hp} {s : Sl} {xs : List Int} (hs : Reads 1 encIL h s xs) {i : Nat} (hi : i < xs.length) : ∃ a, s.a = some a ∧ rd h (Addr.add a (i * 1)) = some (.int .i64 xs[i]) := by
  obtain ⟨a, h1, h2⟩ := hs.rd encIL_len hi
  exact ⟨a, h1, by simpa using h2 0 (by omega)⟩
theorem Bars05_s (a b : Int) (hQ : ∀ h', Ext [] h h' → Q [.bool (barsR a b)] h') : S_liveryref05_Bars a b h Q := by
  refine O_liveryref05_Bars _ _ ?_
  unfold F_liveryref05_Bars
  refine list05_s a fun h1 s e1 hs => ⟨s, rfl, ?_⟩
  have hn := hs.1
  have hl := listR_len a
  intro X hX
  have key : ∀ d i, d + i = (listR a).length → (∀ x ∈ (listR a).take i, x ≠ b) → X [.int .i64 (i : Int)] h1 := by
    intro d
    induction d with
    | zero =>
      intro i hi hall
      refine hX _ _ ?_
      rw [if_neg (by simp; omega)]
      rw [List.take_of_length_le (by omega)] at hall
      have : barsR a b = false := by
        unfold barsR
        exact decide_eq_false fun hm => hall b hm rfl
      have hq := hQ h1 e1
      rw [this] at hq
      exact hq
    | succ d ih =>
      intro i hi hall
      refine hX _ _ ?_
      rw [if_pos (by simp; omega)]
      have hil : i < (listR a).length := by omega
      obtain ⟨ad, w1, w2⟩ := rdI hs hil
      rw [w1]
      simp only [nilW_some, Int.toNat_natCast]
      refine ⟨by omega, by omega, _, w2, ?_⟩
      by_cases hb : (listR a)[i] = b
      · rw [if_pos (by simpa using hb)]
        have : barsR a b = true := by
          unfold barsR
          exact decide_eq_true (hb ▸ List.getElem_mem hil)
        have hq := hQ h1 e1
        rw [this] at hq
        exact hq
      · rw [if_neg (by simpa using hb), wrap64 (by omega) (by omega)]
        have := ih (i + 1) (by omega) fun x hx => by
          rw [List.take_add_one, List.getElem?_eq_getElem hil, List.mem_append] at hx
          rcases hx with hx | hx
          · exact hall x hx
          · simp at hx
            subst hx
            exact hb
        simpa using this
  have := key (listR a).length 0 (by omega) (by simp)
  simpa using this
theorem names_two (a b : ByteArray) (p q : QM) (hab : sLt a b = true) : namesT [(a, p), (b, q)] = [a, b] := by
  have hne : a ≠ b := fun e => by subst e; rw [sLt_irrefl] at hab; cases hab
  exact names_of (by simp [hne]) (by simp [InOrder, hab]) (by simp)
theorem sLt_TU : sLt sT sU = true := (sLt_btl _ _).2 (by decide)
def bA (x : Int) : TM := [(sT, ⟨[(1, bitM x)], []⟩)]
def bB (x y : Int) : TM := [(sT, ⟨[(1, bitM x)], []⟩), (sU, ⟨[(2, bitM y)], []⟩)]
def bC (x y : Int) : TM := if anyM (bitM x) y then [(sT, ⟨[(1, bitM x)], [(3, y)]⟩), (sU, ⟨[(2, bitM y)], []⟩)] else [(sT, ⟨[(1, bitM x), (3, bitM y)], []⟩), (sU, ⟨[(2, bitM y)], []⟩)]
def chkB (x y : Int) : Bool :=
  decide ((takeE [] 1 sT x).2 = 0) && decide ((takeE (takeE [] 1 sT x).1 2 sU y).2 = 0) &&
  (let T3 := takeE (takeE (takeE [] 1 sT x).1 2 sU y).1 3 sT y
   let R := releaseE [sT, sU] T3.1 1
   decide (T3.1.map Prod.fst = [sT, sU]) && decide (T3.2 = 0 ∨ T3.2 = 75) && ((T3.2 == 0) == !barsR x y) && ((waitsT T3.1 3).isSome == (T3.2 == 75)) && ((R.2.length == 1) == (waitsT T3.1 3).isSome) && decide (modesT R.1 3 sT = bitM y))
theorem chkB_all : ∀ x y : Fin 8, chkB ((x.val : Int) + 1) ((y.val : Int) + 1) = true := by decide +kernel
theorem mod8 {a : Int} (ha : 0 ≤ a ∧ a ≤ 255) : ∃ x : Fin 8, IntKind.wrap .i64 ((1 : Int) + (Int.tmod (IntKind.wrap .i64 a) (8 : Int))) = (x.val : Int) + 1 := by
  rw [wrap64 (x := a) (by omega) (by omega), Int.tmod_eq_emod_of_nonneg ha.1, wrap64 (by omega) (by omega)]
  exact ⟨⟨(a % 8).toNat, by omega⟩, by simp only; omega⟩
theorem LockBoth_s {a b : Int} (ha : 0 ≤ a ∧ a ≤ 255) (hb : 0 ≤ b ∧ b ≤ 255) (hQ : ∀ h', Ext [] h h' → Q [.bool true] h') : F_liverylaw06_LockBoth a b h Q := by
  unfold F_liverylaw06_LockBoth
  obtain ⟨x, hx⟩ := mod8 ha
  obtain ⟨y, hy⟩ := mod8 hb
  rw [hx, hy]
  have hc := chkB_all x y
  unfold chkB at hc
  simp only [Bool.and_eq_true, decide_eq_true_eq] at hc
  obtain ⟨⟨c1, c2⟩, ⟨⟨⟨⟨c3, c4⟩, c5⟩, c6⟩, c7⟩, c8⟩ := hc
  obtain ⟨T3, r3, hT3⟩ : ∃ T3 r3, takeE (takeE (takeE [] 1 sT ((x.val : Int) + 1)).1 2 sU ((y.val : Int) + 1)).1 3 sT ((y.val : Int) + 1) = (T3, r3) := ⟨_, _, rfl⟩
  rw [hT3] at c3 c4 c5 c6 c7 c8
  obtain ⟨T4, O4, hT4⟩ : ∃ T4 O4, releaseE [sT, sU] T3 1 = (T4, O4) := ⟨_, _, rfl⟩
  rw [hT4] at c7 c8
  simp only at c3 c4 c5 c6 c7 c8
  refine ⟨by decide, by decide, ?_⟩
  refine new_L (G := fun _ => False) (fun b hb => hb.elim) fun h1 t hv1 e1 => ⟨_, rfl, ?_⟩
  intro J hJ
  rw [if_neg (by simp)]
  refine take_K hv1 (T' := (takeE [] 1 sT ((x.val : Int) + 1)).1) (r := 0) (Prod.ext rfl c1) fun h2 S2 hv2 e2 hS2 => ⟨_, rfl, ?_⟩
  rw [if_neg (by decide)]
  have f2 := ext_lo e1 e2 fun b hb => (hS2 b hb).1
  refine take_K hv2 (T' := (takeE (takeE [] 1 sT ((x.val : Int) + 1)).1 2 sU ((y.val : Int) + 1)).1) (r := 0) (Prod.ext rfl c2) fun h3 S3 hv3 e3 hS3 => ⟨_, rfl, hJ _ _ ?_⟩
  rw [if_neg (by decide)]
  have f3 := ext_lo f2 e3 fun b hb => (hS3 b hb).1
  refine take_K hv3 (T' := T3) (r := r3) hT3 fun h4 S4 hv4 e4 hS4 => ⟨_, rfl, ?_⟩
  have f4 := ext_lo f3 e4 fun b hb => (hS4 b hb).1
  intro J2 hJ2
  have go : ∀ g, Ext [] h4 g → J2 [.bool false] g := by
    intro g eg
    refine hJ2 _ _ ?_
    rw [if_neg (by decide)]
    refine waits_L (hv4.e0 eg) 3 fun h5 hv5 e5 => ?_
    have hl3 : T3.length = 2 := by
      have := congrArg List.length c3
      simpa using this
    have hN : namesT T3 = [sT, sU] := names_of (by rw [c3]; decide) (by simp [InOrder]; exact sLt_TU) fun x => by rw [c3]
    have rest : ∀ s15 n16 b17, b17 = (waitsT T3 3).isSome → ∃ s15' : ByteArray, ∃ n16' : Int, ∃ b17' : Bool, [Value.string s15, .int .i64 n16, .bool b17] = [(Value.string s15'), (Value.int .i64 n16'), (Value.bool b17')] ∧
        S_lock_Table_Release (some ⟨t, 0, none⟩) (1 : Int) h5 fun (vs18 : List Value) (h19 : Hp) =>
                    ∃ l20 : Sl, vs18 = [(Value.slice l20.a l20.n l20.c)] ∧
                    (if (b17' == (r3 == (75 : Int))) = true then ((if (((l20.n : Int) == (1 : Int)) == b17') = true then (S_lock_Table_Modes (some ⟨t, 0, none⟩) (3 : Int) (ByteArray.mk #[116]) h19 fun (vs21 : List Value) (h22 : Hp) =>
                            ∃ n23 : Int, vs21 = [(Value.int .i64 n23)] ∧
                            shOk (IntKind.wrap .u64 ((y.val : Int) + 1)) ((if (n23 == (iShl .i64 (1 : Int) (IntKind.wrap .u64 ((y.val : Int) + 1)))) = true then (S_liverylaw06_wakes  h22 fun (vs24 : List Value) (h25 : Hp) =>
                                  ∃ b26 : Bool, vs24 = [(Value.bool b26)] ∧
                                  Q [(Value.bool b26)] h25) else
                                (Q [(Value.bool false)] h22)))) else
                          (Q [(Value.bool false)] h19))) else
                      (Q [(Value.bool false)] h19)) := by
      intro s15 n16 b17 hb17
      refine ⟨_, _, _, rfl, ?_⟩
      subst hb17
      refine release_K hv5 hN (by omega) (T' := T4) (O := O4) hT4 fun h6 s6 S6 hv6 ho6 hs6 e6 hS6 => ⟨s6, rfl, ?_⟩
      have f6 := ext_lo ((f4.trans0 eg).trans0 e5) e6 fun b hb => (hS6 b hb).1
      have hn6 := ho6.1
      rw [if_pos (by rw [beq_iff_eq] at c6; rw [c6]; simp)]
      have hl6 : ((s6.n : Int) == (1 : Int)) = (waitsT T3 3).isSome := by
        rw [beq_iff_eq] at c7
        rw [← c7, hn6, Bool.eq_iff_iff]
        simp
        omega
      rw [if_pos (by rw [hl6]; simp)]
      refine modes_L hv6 3 sT ⟨_, rfl, ?_⟩
      rw [c8]
      have hy8 : isM ((y.val : Int) + 1) = true := isM_iff.2 (by have := y.isLt; omega)
      have hw : IntKind.wrap .u64 ((y.val : Int) + 1) = (y.val : Int) + 1 := by
        have := y.isLt
        unfold IntKind.wrap
        simp [IntKind.signed, IntKind.bits]
        omega
      rw [hw, iShl_bit hy8]
      refine ⟨by omega, ?_⟩
      rw [if_pos (by simp)]
      exact wakes_s fun h7 e7 => ⟨_, rfl, hQ h7 (f6.trans0 e7)⟩
    cases hw : waitsT T3 3 with
    | none => exact rest _ _ false (by rw [hw]; rfl)
    | some p => exact rest _ _ true (by rw [hw]; rfl)
  refine Bars05_s _ _ fun h5 e5 => ⟨_, rfl, ?_⟩
  rw [beq_iff_eq] at c5
  rw [c5]
  rw [if_neg (by cases barsR ((x.val : Int) + 1) ((y.val : Int) + 1) <;> decide)]
  rcases c4 with rfl | rfl
  · rw [if_neg (by decide)]
    exact go h5 e5
  · rw [if_pos (by decide)]
    exact go h5 e5
def forLen (T : TM) (k : Int) : Nat := match waitsT T k with
  | none => 0
  | some (n, m) => ((metA (hasT T n) k m ++ if hasM (hasT T n) k = 0 then metB ((waitT T n).takeWhile fun r => r.1 != k) k m else []).eraseDups).length
theorem forT_len (T : TM) (k : Int) : (forT T k).length = forLen T k := by
  unfold forT forLen
  cases waitsT T k with
  | none => rfl
  | some p =>
    obtain ⟨n, m⟩ := p
    simp only
    unfold barsQ
    rw [sortI_len]
def rT (i : Nat) : TM := (List.range i).foldl (fun T (j : Nat) => (takeE T (10 + (j : Int)) sT 8).1) [(sT, ⟨[(1, 2)], []⟩)]
theorem rT_succ (i : Nat) : rT (i + 1) = (takeE (rT i) (10 + (i : Int)) sT 8).1 := by
  unfold rT
  rw [List.range_succ, List.foldl_append]
  rfl
theorem rT_ans : ∀ i : Fin 10, (takeE (rT i.val) (10 + (i.val : Int)) sT 8).2 = 75 := by decide +kernel
def chkR (k : Nat) : Bool :=
  let A := takeE (rT k) 2 sT 1
  let B := takeE A.1 1 sT 3
  let C := takeE B.1 1 sT 8
  decide (A.2 = 75) && decide (forLen A.1 2 = k) && decide (B.2 = 0) && decide (C.2 = 0) && decide (modesT C.1 1 sT = 266)
theorem chkR_all : ∀ i : Fin 10, chkR (i.val + 1) = true := by decide +kernel
theorem LockRaises_s {n : Int} (hn : 0 ≤ n ∧ n ≤ 255) (hQ : ∀ h', Ext [] h h' → Q [.bool true] h') : F_liverylaw06_LockRaises n h Q := by
  unfold F_liverylaw06_LockRaises
  have hx : ∃ x : Fin 10, IntKind.wrap .i64 ((1 : Int) + (Int.tmod (IntKind.wrap .i64 n) (10 : Int))) = ((x.val + 1 : Nat) : Int) := by
    rw [wrap64 (x := n) (by omega) (by omega), Int.tmod_eq_emod_of_nonneg hn.1, wrap64 (by omega) (by omega)]
    exact ⟨⟨(n % 10).toNat, by omega⟩, by simp only; omega⟩
  obtain ⟨x, hx⟩ := hx
  rw [hx]
  have hxl := x.isLt
  have hc := chkR_all x
  unfold chkR at hc
  simp only [Bool.and_eq_true, decide_eq_true_eq] at hc
  obtain ⟨⟨⟨⟨c1, c2⟩, c3⟩, c4⟩, c5⟩ := hc
  refine new_L (G := fun _ => False) (fun b hb => hb.elim) fun h1 t hv1 e1 => ⟨_, rfl, by decide, ?_⟩
  intro J hJ
  rw [if_neg (by simp)]
  refine take_K hv1 (T' := rT 0) (r := 0) (by kernel_rfl) fun h2 S2 hv2 e2 hS2 => ⟨_, rfl, hJ _ _ ?_⟩
  rw [if_neg (by decide)]
  have f2 := ext_lo e1 e2 fun b hb => (hS2 b hb).1
  intro X hX
  have key : ∀ d i g, d + i = x.val + 1 → Ext [] h g → Lk h.size (fun _ => False) g t (rT i) → X [.int .i64 (i : Int)] g := by
    intro d
    induction d with
    | zero =>
      intro i g hi eg hv
      refine hX _ _ ?_
      rw [if_neg (by simp; omega)]
      have hi' : i = x.val + 1 := by omega
      subst hi'
      intro J2 hJ2
      refine take_K hv (T' := _) (r := 75) (Prod.ext rfl c1) fun h3 S3 hv3 e3 hS3 => ⟨_, rfl, ?_⟩
      rw [if_neg (by decide)]
      have f3 := ext_lo eg e3 fun b hb => (hS3 b hb).1
      refine for_L hv3 2 fun h4 s4 hv4 e4 ho4 => ⟨s4, rfl, hJ2 _ _ ?_⟩
      have hn4 := ho4.1
      rw [forT_len, c2] at hn4
      rw [if_neg (by simp; omega)]
      refine take_K hv4 (T' := _) (r := 0) (Prod.ext rfl c3) fun h5 S5 hv5 e5 hS5 => ⟨_, rfl, ?_⟩
      rw [if_pos (by decide)]
      have f5 := ext_lo (f3.trans0 e4) e5 fun b hb => (hS5 b hb).1
      refine take_K hv5 (T' := _) (r := 0) (Prod.ext rfl c4) fun h6 S6 hv6 e6 hS6 => ⟨_, rfl, ?_⟩
      rw [if_pos (by decide)]
      have f6 := ext_lo f5 e6 fun b hb => (hS6 b hb).1
      refine modes_L hv6 1 sT ⟨_, rfl, ?_⟩
      rw [c5, if_pos (by decide)]
      exact wakes_s fun h7 e7 => ⟨_, rfl, hQ h7 (f6.trans0 e7)⟩
    | succ d ih =>
      intro i g hi eg hv
      refine hX _ _ ?_
      rw [if_pos (by simp; omega), wrap64 (by omega) (by omega)]
      refine take_K hv (T' := rT (i + 1)) (r := 75) (Prod.ext (rT_succ i).symm (rT_ans ⟨i, by omega⟩)) fun h3 S3 hv3 e3 hS3 => ⟨_, rfl, ?_⟩
      rw [if_neg (by decide), wrap64 (by omega) (by omega)]
      have := ih (i + 1) h3 (by omega) (ext_lo eg e3 fun b hb => (hS3 b hb).1) hv3
      simpa using this
  have := key (x.val + 1) 0 h2 (by omega) f2 hv2
  simpa using this
end
end Go.Lift

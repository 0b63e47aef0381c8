/- Things: the comparison. -/
import Derived.Test.YtifmibpjpnpcpaaW13a
import Derived.Test.YtifmibpjpnpcpaaItO
set_option linter.unusedSimpArgs false
set_option linter.unusedVariables false
namespace Go.Lift
open Go Go.Proofs
set_option maxRecDepth 100000
abbrev encIL (n : Int) : List Value := [.int .i64 n]
theorem encIL_len (n : Int) : (encIL n).length = 1 := rfl
theorem encIL_one (n : Int) : ∀ v ∈ encIL n, oneCell v = true := by
  intro v hv
  simp at hv
  rw [hv]
  rfl
theorem zc_int : (zc PP T_int).size = 1 := by kernel_rfl
theorem rdI {h : Hp} {s : Sl} {xs : List Int} (hs : Reads 1 encIL h s xs) {i : Nat} (hi : i < xs.length) : ∃ a, s.a = some a ∧ rd h (Addr.add a (i * 1)) = some (.int .i64 xs[i]) := by
  obtain ⟨a, h1, h2⟩ := hs.rd encIL_len hi
  exact ⟨a, h1, by simpa using h2 0 (by omega)⟩
theorem reads_lit {h : Hp} {b n : Nat} {xs : List Int} {cs : Array Value} {T : TypeId} (hb : Blk h b cs T) (hc : cs.toList = xs.flatMap encIL) (hl : xs.length = n) : Reads 1 encIL h ⟨some ⟨b, 0, none⟩, n, n⟩ xs := by
  refine ⟨hl.symm, fun e => (by cases e), ?_⟩
  have hfl : (xs.flatMap encIL).length = xs.length := by rw [flatMap_length encIL_len]; omega
  have := cellsAt_blk hb (o := 0) (n := n * 1) (by have := congrArg List.length hc; rw [hfl, Array.length_toList] at this; omega)
  rw [List.drop_zero, List.take_of_length_le (by rw [hc, hfl]; omega), hc] at this
  exact this
def orI : List Int → Int
  | [] => 0
  | x :: xs => if x ≠ 0 then x else orI xs
def cmpT : ThingM → ThingM → Int := thenC (fun a b => cmpI a.kind b.kind) (thenC (fun a b => cmpS a.name b.name) (thenC (fun a b => cmpI a.rel b.rel) (thenC (fun a b => cmpS a.index b.index) fun a b => cmpI a.n b.n)))
theorem cmpT3 : Cmp3 cmpT := (cmp3I.comap ThingM.kind).then ((cmp3S.comap ThingM.name).then ((cmp3I.comap ThingM.rel).then ((cmp3S.comap ThingM.index).then (cmp3I.comap ThingM.n))))
theorem cmpT_zero (x y : ThingM) (h : cmpT x y = 0) : x = y := by
  obtain ⟨h1, h⟩ := thenC_zero h
  obtain ⟨h2, h⟩ := thenC_zero h
  obtain ⟨h3, h⟩ := thenC_zero h
  obtain ⟨h4, h5⟩ := thenC_zero h
  cases x
  cases y
  simp only at *
  rw [cmpI_zero h1, cmpS_zero h2, cmpI_zero h3, cmpS_zero h4, cmpI_zero h5]
theorem cmpT_or (x y : ThingM) : orI [cmpI x.kind y.kind, cmpS x.name y.name, cmpI x.rel y.rel, cmpS x.index y.index, cmpI x.n y.n] = cmpT x y := by
  unfold cmpT thenC
  simp only [orI]
  repeat' split
  all_goals first | rfl | contradiction | omega
section
variable {h : Hp} {Q : List Value → Hp → Prop}
theorem CmpI_s (a b : Int) (hQ : Q [.int .i64 (cmpI a b)] h) : S_cmp_Compare_int a b h Q := by
  refine O_cmp_Compare_int _ _ ?_
  unfold F_cmp_Compare_int
  refine O_cmp_isNaN_int _ ⟨_, rfl, O_cmp_isNaN_int _ ⟨_, rfl, ?_⟩⟩
  rw [if_neg (by simp), if_neg (by simp)]
  unfold cmpI at hQ
  by_cases h1 : a < b
  · rw [if_pos (by simpa using h1)]
    rw [if_pos h1] at hQ
    exact hQ
  · rw [if_neg (by simpa using h1)]
    rw [if_neg h1] at hQ
    by_cases h2 : a > b
    · rw [if_pos (by simpa using h2)]
      rw [if_pos h2] at hQ
      exact hQ
    · rw [if_neg (by simpa using h2)]
      rw [if_neg h2] at hQ
      exact hQ
theorem CmpS_s (a b : ByteArray) (hQ : Q [.int .i64 (cmpS a b)] h) : S_cmp_Compare_string a b h Q := by
  refine O_cmp_Compare_string _ _ ?_
  unfold F_cmp_Compare_string
  refine O_cmp_isNaN_string _ ⟨_, rfl, O_cmp_isNaN_string _ ⟨_, rfl, ?_⟩⟩
  rw [if_neg (by simp), if_neg (by simp)]
  unfold cmpS at hQ
  by_cases h1 : sLt a b = true
  · rw [if_pos (show Op.bytesLess a.toList b.toList = true from h1)]
    rw [if_pos h1] at hQ
    exact hQ
  · rw [if_neg (show ¬ Op.bytesLess a.toList b.toList = true from h1)]
    rw [if_neg h1] at hQ
    have h1' : Op.bytesLess a.toList b.toList = false := by simpa [sLt] using h1
    by_cases h2 : sLt b a = true
    · rw [if_pos (by
        rw [h1', Bool.false_or]
        have : a.toList ≠ b.toList := fun e => by
          have e2 := toList_inj e
          subst e2
          rw [sLt_irrefl] at h2
          cases h2
        simp [this])]
      rw [if_pos h2] at hQ
      exact hQ
    · rw [if_neg (by
        rcases sLt_total a b with e | e | e
        · simp [e]
        · exact absurd e h1
        · exact absurd e h2)]
      rw [if_neg h2] at hQ
      exact hQ
theorem Or_s {s : Sl} {xs : List Int} (hs : Reads 1 encIL h s xs) (hl : xs.length ≤ 2 ^ 20) (hQ : Q [.int .i64 (orI xs)] h) : S_cmp_Or_int s h Q := by
  refine O_cmp_Or_int _ ?_
  unfold F_cmp_Or_int
  have hn := hs.1
  intro X hX
  have key : ∀ d i, d + i = xs.length → orI xs = orI (xs.drop i) → X [.int .i64 (i : Int)] h := by
    intro d
    induction d with
    | zero =>
      intro i hi he
      refine hX _ _ ?_
      rw [if_neg (by simp; omega)]
      rw [List.drop_eq_nil_of_le (by omega)] at he
      rw [he] at hQ
      exact hQ
    | succ d ih =>
      intro i hi he
      have hil : i < xs.length := by omega
      refine hX _ _ ?_
      rw [if_pos (by simp; omega)]
      obtain ⟨a, w1, w2⟩ := rdI hs hil
      rw [w1]
      simp only [nilW_some, Int.toNat_natCast]
      refine ⟨by omega, by omega, _, w2, ?_⟩
      rw [List.drop_eq_getElem_cons hil] at he
      by_cases hx : xs[i] = 0
      · rw [if_neg (by simp [hx]), wrap64 (by omega) (by omega)]
        have := ih (i + 1) (by omega) (by rw [he, orI, if_neg (by simp [hx])])
        simpa using this
      · rw [if_pos (by simp [hx])]
        rw [he, orI, if_pos hx] at hQ
        exact hQ
  have := key xs.length 0 (by omega) rfl
  simpa using this
theorem compare_s (x y : ThingM) (hQ : ∀ h', Ext [] h h' → Q [.int .i64 (cmpT x y)] h') : S_siread_compare x.kind x.name x.rel x.index x.n y.kind y.name y.rel y.index y.n h Q := by
  refine O_siread_compare _ _ _ _ _ _ _ _ _ _ ?_
  unfold F_siread_compare
  refine newI fun h1 s1 b1 e1 => newI fun h2 s2 b2 e2 => ?_
  have b1' := e2.get b1 (by simp)
  have r : ∀ i (v : Value), (#[.int .i64 x.kind, .string x.name, .int .i64 x.rel, .string x.index, .int .i64 x.n] : Array Value)[i]? = some v → rd h2 (Addr.add (Addr.mk h.size 0 none) i) = some v := fun i v hv => by rw [addr_mk, rd_blk b1', Nat.zero_add, hv]
  have q : ∀ i (v : Value), (#[.int .i64 y.kind, .string y.name, .int .i64 y.rel, .string y.index, .int .i64 y.n] : Array Value)[i]? = some v → rd h2 (Addr.add (Addr.mk h1.size 0 none) i) = some v := fun i v hv => by rw [addr_mk, rd_blk b2, Nat.zero_add, hv]
  have r0 := r 0 _ rfl
  have r1 := r 1 _ rfl
  have r2 := r 2 _ rfl
  have r3 := r 3 _ rfl
  have r4 := r 4 _ rfl
  have q0 := q 0 _ rfl
  have q1 := q 1 _ rfl
  have q2 := q 2 _ rfl
  have q3 := q 3 _ rfl
  have q4 := q 4 _ rfl
  refine ⟨_, r0, _, q0, _, r1, _, q1, _, r2, _, q2, _, r3, _, q3, _, r4, _, q4, ?_⟩
  refine CmpI_s _ _ ⟨_, rfl, q4, r4, q3, r3, q2, r2, q1, r1, ?_⟩
  refine CmpS_s _ _ ⟨_, rfl, q4, r4, q3, r3, q2, r2, ?_⟩
  refine CmpI_s _ _ ⟨_, rfl, q4, r4, q3, r3, ?_⟩
  refine CmpS_s _ _ ⟨_, rfl, q4, r4, ?_⟩
  refine CmpI_s _ _ ⟨_, rfl, ?_⟩
  refine newI fun h3 s3 b3 e3 => ?_
  refine Or_s (xs := [cmpI x.kind y.kind, cmpS x.name y.name, cmpI x.rel y.rel, cmpS x.index y.index, cmpI x.n y.n]) (reads_lit b3 rfl rfl) (by simp) ⟨_, rfl, ?_⟩
  rw [cmpT_or]
  exact hQ h3 ((e1.trans0 e2).trans0 e3)
end
end Go.Lift

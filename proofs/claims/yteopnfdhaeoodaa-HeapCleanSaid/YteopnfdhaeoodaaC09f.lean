/- slices.IndexFunc and slices.DeleteFunc over ints. -/
import Derived.Test.YteopnfdhaeoodaaLvQ
import Derived.Test.YteopnfdhaeoodaaLf09
set_option linter.unusedSimpArgs false
set_option linter.unusedVariables false
namespace Go.Lift
open Go Go.Proofs
set_option maxRecDepth 100000
abbrev encIL (n : Int) : List Value := [.int .i64 n]
theorem encIL_len (n : Int) : (encIL n).length = 1 := rfl
section
variable {h : Hp} {Q : List Value → Hp → Prop}
/-- What a func value does: it looks, and answers. -/
def Asks (f : Nat) (cs : Array Value) (xs : List Int) (pr : Int → Bool) (Inv : Hp → Prop) : Prop :=
  ∀ n h1 (K : List Value → Hp → Prop), n ∈ xs → Inv h1 → (∀ h2, Ext [] h1 h2 → K [.bool (pr n)] h2) → Fn PP f ((#[] ++ #[.int .i64 n]) ++ cs) h1 K
theorem sl_get {h : Hp} {T : TypeId} {s : Sl} {xs : List Int} (hs : SlOf T 1 encIL h s xs) {i : Nat} (hi : i < xs.length) : ∃ a, s.a = some a ∧ rd h (Addr.add a (i * 1)) = some (.int .i64 xs[i]) := by
  obtain ⟨b, o, h1, h2⟩ := hs.rd encIL_len hi
  exact ⟨_, h1, by rw [addr_mk]; simpa using h2 0 (by omega)⟩
theorem IndexFunc_s {s : Sl} {xs : List Int} {f : Nat} {cs : Array Value} {pr : Int → Bool} {Inv : Hp → Prop} (hs : SlOf T_int 1 encIL h s xs) (hI : Inv h) (hst : ∀ h1 h2, Inv h1 → Ext [] h1 h2 → Inv h2)
    (hp : Asks f cs xs pr Inv) (hlen : xs.length < 2 ^ 40)
    (hN : ∀ h', Inv h' → Ext [] h h' → (∀ n ∈ xs, pr n = false) → Q [.int .i64 (-1)] h')
    (hY : ∀ h' (i : Nat) (hi : i < xs.length), Inv h' → Ext [] h h' → (∀ n ∈ xs.take i, pr n = false) → pr xs[i] = true → Q [.int .i64 i] h') : S_slices_IndexFunc_sint_int s f cs h Q := by
  refine O_slices_IndexFunc_sint_int _ _ _ ?_
  unfold F_slices_IndexFunc_sint_int
  intro X hX
  have hn := hs.1
  have key : ∀ d i h1, d + i = xs.length → Inv h1 → Ext [] h h1 → (∀ n ∈ xs.take i, pr n = false) → X [.int .i64 (i : Int)] h1 := by
    intro d
    induction d with
    | zero =>
      intro i h1 hi h2 he hall
      refine hX _ _ ?_
      rw [if_neg (by simp; omega)]
      rw [List.take_of_length_le (by omega)] at hall
      exact hN h1 h2 he hall
    | succ d ih =>
      intro i h1 hi h2 he hall
      refine hX _ _ ?_
      rw [if_pos (by simp; omega)]
      obtain ⟨a, g1, g2⟩ := sl_get (hs.ext0 he) (i := i) (by omega)
      rw [g1]
      simp only [nilW_some, Int.toNat_natCast]
      refine ⟨by omega, by omega, _, g2, ?_⟩
      refine hp _ h1 _ (List.getElem_mem _) h2 fun h3 e3 => ⟨_, rfl, ?_⟩
      have h4 := hst _ _ h2 e3
      have e4 := he.trans0 e3
      cases hb : pr (xs[i]'(by omega)) with
      | true =>
        rw [if_pos (by decide)]
        exact hY h3 i (by omega) h4 e4 hall hb
      | false =>
        rw [if_neg (by decide), wrap64 (by omega) (by omega)]
        refine ih (i + 1) h3 (by omega) h4 e4 ?_
        intro n hm
        rw [List.take_add_one, List.getElem?_eq_getElem (by omega), List.mem_append] at hm
        rcases hm with g | g
        · exact hall n g
        · simp at g; subst g; exact hb
  have := key xs.length 0 h (by omega) hI (Ext.refl _ _) (by simp)
  simpa using this
theorem DeleteFunc_s {lo : Nat} {s : Sl} {xs : List Int} {f : Nat} {cs : Array Value} {pr : Int → Bool} {Inv : Hp → Prop} (ho : Own T_int 1 encIL lo h s xs) (hI : Inv h)
    (hst : ∀ h1 h2 ys, Inv h1 → Own T_int 1 encIL lo h1 s ys → Ext (sBlk s) h1 h2 → Inv h2) (hp : Asks f cs xs pr Inv) (hlen : xs.length < 2 ^ 40)
    (hQ : ∀ h' s', Inv h' → Own T_int 1 encIL lo h' s' (xs.filter fun n => !pr n) → Ext (sBlk s) h h' → Q [.slice s'.a s'.n s'.c] h') : S_slices_DeleteFunc_sint_int s f cs h Q := by
  refine O_slices_DeleteFunc_sint_int _ _ _ ?_
  unfold F_slices_DeleteFunc_sint_int
  have hn := ho.1
  refine IndexFunc_s (Inv := fun h' => Inv h' ∧ Own T_int 1 encIL lo h' s xs) ho.sl ⟨hI, ho⟩ (fun h1 h2 a b => ⟨hst h1 h2 xs a.1 a.2 (b.mono (by simp)), a.2.ext0 b⟩) (fun n h1 K hn hi hk => hp n h1 K hn hi.1 hk) hlen ?_ ?_
  · rintro h1 ⟨i1, _⟩ e1 hall
    refine ⟨_, rfl, ?_⟩
    rw [if_pos (by decide)]
    refine hQ h1 s i1 ?_ (e1.mono (by simp))
    rw [List.filter_eq_self.2 (by intro n hm; simp [hall n hm])]
    exact ho.ext0 e1
  · rintro h1 i hi ⟨i1, _⟩ e1 hall hpi
    refine ⟨_, rfl, ?_⟩
    rw [if_neg (by simp <;> omega)]
    intro X hX
    rw [wrap64 (by omega) (by omega)]
    have key : ∀ d (i j : Nat) h1 (ys : List Int), d + j = xs.length → i < j → Inv h1 → Own T_int 1 encIL lo h1 s ys → Ext (sBlk s) h h1 → ys.length = xs.length → ys.take i = (xs.take j).filter (fun n => !pr n) → ys.drop j = xs.drop j →
        X [.int .i64 (i : Int), .int .i64 (j : Int)] h1 := by
      intro d
      induction d with
      | zero =>
        intro i j h1 ys hd hij hI1 ho1 he1 hl h2 h3
        refine hX _ _ _ ?_
        rw [if_neg (by simp; omega)]
        simp only [Int.toNat_natCast]
        have hzz : (zc PP T_int) = #[.int .i64 0] := by kernel_rfl
        have hcut := ho1.cut encIL_len (i := i) (by omega) (z := (Builtin.zeroCells (zc PP T_int) (s.n - i)).toList) (by rw [hzz]; simp [zeroCells_size])
        refine ⟨⟨by omega, by omega⟩, ⟨by rw [hzz]; decide, fun a ha => ?_⟩, ?_⟩
        · by_cases hne : s.n = i
          · intro k hk; simp [hne] at hk
          · have := hcut.1 a ha hne
            rw [hzz]; simpa using this
        · rw [wthE]
          have hsc : s.n ≤ s.c := by
            cases hsa : s.a with
            | none => have := (ho1.2.1 hsa).1; subst this; simp at hl; omega
            | some a =>
              obtain ⟨b, c, _, _, _, g4, _⟩ := ho1.2.2 a hsa
              exact g4
          refine ⟨⟨by omega, by omega⟩, ?_⟩
          refine hQ _ ⟨slAd s.a 0 s.c 1, i, s.c⟩ (hst _ _ _ hI1 ho1 hcut.2.2) ?_ (he1.trans hcut.2.2 fun b hb _ => hb)
          have := hcut.2.1
          rw [h2, List.take_of_length_le (by omega)] at this
          exact this
      | succ d ih =>
        intro i j h1 ys hd hij hI1 ho1 he1 hl h2 h3
        refine hX _ _ _ ?_
        rw [if_pos (by simp; omega)]
        intro J hJ
        rw [wrap64 (by omega) (by omega)] at hJ
        have hyj : ys[j]'(by omega) = xs[j]'(by omega) := by
          have := congrArg (fun l => l[0]?) h3
          simp only [List.getElem?_drop, Nat.add_zero] at this
          rw [List.getElem?_eq_getElem (by omega), List.getElem?_eq_getElem (by omega)] at this
          exact Option.some.inj this
        have htake : xs.take (j + 1) = xs.take j ++ [xs[j]'(by omega)] := by rw [List.take_add_one, List.getElem?_eq_getElem (by omega)]; rfl
        obtain ⟨a, g1, g2⟩ := sl_get ho1.sl (i := j) (by omega)
        rw [hyj] at g2
        rw [g1]
        simp only [nilW_some, Int.toNat_natCast]
        refine ⟨by omega, by omega, _, g2, ?_⟩
        refine hp _ h1 _ (List.getElem_mem _) hI1 fun h4 e4 => ⟨_, rfl, ?_⟩
        have hI4 := hst _ _ _ hI1 ho1 (e4.mono (by simp))
        have ho4 := ho1.ext0 e4
        have he4 : Ext (sBlk s) h h4 := he1.trans0 e4
        cases hb : pr (xs[j]'(by omega)) with
        | false =>
          rw [if_pos (by decide)]
          obtain ⟨a', k1, k2, k3⟩ := ho4.set encIL_len (i := i) (by omega) (x := xs[j]'(by omega)) (K := fun h5 => J [.int .i64 (IntKind.wrap .i64 ((i : Int) + 1))] h5) fun h5 o5 e5 => by
            rw [wrap64 (by omega) (by omega)]
            refine hJ _ _ ?_
            have := ih (i + 1) (j + 1) h5 (ys.set i (xs[j]'(by omega))) (by omega) (by omega) (hst _ _ _ hI4 ho4 e5) o5 (he4.trans e5 fun b hb _ => hb) (by simpa using hl) ?_ ?_
            · simpa using this
            · rw [htake, List.filter_append, ← h2, List.take_add_one, List.getElem?_set_self (by omega), List.take_set_of_le (Nat.le_refl _)]
              simp [hb]
            · rw [List.drop_set_of_lt (by omega), ← List.drop_drop, h3, List.drop_drop]
          rw [g1] at k1
          cases k1
          refine ⟨by omega, by omega, k2, k3⟩
        | true =>
          rw [if_neg (by decide)]
          refine hJ _ _ ?_
          have := ih i (j + 1) h4 ys (by omega) (by omega) hI4 ho4 he4 hl ?_ ?_
          · simpa using this
          · rw [htake, List.filter_append, ← h2]
            simp [hb]
          · rw [← List.drop_drop, h3, List.drop_drop]
    have hx1 : xs.take (i + 1) = xs.take i ++ [xs[i]] := by rw [List.take_add_one, List.getElem?_eq_getElem hi]; rfl
    have := key (xs.length - (i + 1)) i (i + 1) h1 xs (by omega) (by omega) i1 (ho.ext0 e1) (e1.mono (by simp)) rfl ?_ rfl
    · simpa using this
    · rw [hx1, List.filter_append, List.filter_eq_self.2 (by intro n hm; simp [hall n hm])]
      simp [hpi]
end
end Go.Lift

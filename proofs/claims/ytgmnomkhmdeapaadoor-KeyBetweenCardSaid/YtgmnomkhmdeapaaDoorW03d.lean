/- Doubles' bits; the reference's values; eight bytes. -/
import Derived.Test.YtgmnomkhmdeapaaDoorW03c
import Derived.Test.YtgmnomkhmdeapaaDoorK03d
set_option linter.unusedSimpArgs false
set_option linter.unusedVariables false
namespace Go.Lift
open Go Go.Proofs Go.RowKit
set_option maxRecDepth 100000
structure V4 where
  k : Int
  n : Int
  f : Nat
  s : ByteArray
def goodX (v : V4) : Bool := goodV v.k v.n v.f v.s
def cmpV (a b : V4) : Int :=
  if a.k < b.k then -1 else if a.k > b.k then 1 else if a.n < b.n then -1 else if a.n > b.n then 1
  else if cmpF a.f b.f ≠ 0 then cmpF a.f b.f else if sLt a.s b.s = true then -1 else if sLt b.s a.s = true then 1 else 0
theorem beL_get : ∀ (k u j : Nat), j < k → (beL k u)[j]? = some (UInt8.ofNat (u / 256 ^ (k - 1 - j) % 256))
  | 0, u, j, h => by omega
  | k + 1, u, 0, h => by simp [beL]
  | k + 1, u, j + 1, h => by
    unfold beL
    rw [List.getElem?_cons_succ, beL_get k u j (by omega)]
    congr 5
    omega
theorem getD_of {α : Type} {l : List α} {j : Nat} {d x : α} (h : l[j]? = some x) : l.getD j d = x := by
  rw [List.getD_eq_getElem?_getD, h]
  rfl
section
variable {h : Hp} {Q : List Value → Hp → Prop}
theorem Bits_s (f : Nat) (hf : f < allD) (hQ : Q [.int .u64 (bitsF f : Nat)] h) : S_float_Bits f h Q := by
  refine O_float_Bits _ ?_
  unfold F_float_Bits
  refine Canon_s f ⟨_, rfl, Float64bits_s ⟨_, rfl, ?_⟩⟩
  have hc := canonF_lt hf
  unfold bitsF at hQ
  unfold allD sgnD at *
  rw [and63 _ hc]
  by_cases hs : 9223372036854775808 ≤ canonF f
  · rw [if_pos (by simpa using hs), xorAll _ hc]
    rw [if_pos hs] at hQ
    have e : 18446744073709551615 - canonF f = 18446744073709551616 - 1 - canonF f := by omega
    rw [e]
    exact hQ
  · rw [if_neg (by simpa using hs), or63 _ (by omega)]
    rw [if_neg hs] at hQ
    exact hQ
theorem From_s (u : Nat) (hu : u < allD) (hQ : Q [.float .f64 (if isF (fromF u) = true then fromF u else 0), .bool (isF (fromF u))] h) : S_float_From (u : Int) h Q := by
  refine O_float_From _ ?_
  unfold F_float_From
  intro J hJ
  have key : J [.int .u64 (fromF u : Nat)] h := by
    refine hJ _ _ (Float64from_s ⟨_, rfl, Is_s _ ⟨_, rfl, ?_⟩⟩)
    rw [Int.toNat_natCast]
    show if (!isF (fromF u)) = true then _ else _
    cases hi : isF (fromF u) with
    | false =>
      rw [if_pos (by rfl)]
      rw [hi] at hQ
      exact hQ
    | true =>
      rw [if_neg (by decide)]
      rw [hi] at hQ
      exact hQ
  unfold allD at hu
  rw [and63 _ hu]
  unfold fromF at key
  unfold allD sgnD at key
  by_cases hs : 9223372036854775808 ≤ u
  · rw [if_pos (by simpa using hs), andNot63 _ hu hs]
    rw [if_pos hs] at key
    exact key
  · rw [if_neg (by simpa using hs), xorAll _ hu]
    rw [if_neg hs] at key
    have e : 18446744073709551615 - u = 18446744073709551616 - 1 - u := by omega
    rw [e]
    exact key
theorem IsNaN_s (f : Nat) (hQ : Q [.bool (nanD f)] h) : S_math_IsNaN f h Q := by
  refine O_math_IsNaN _ ?_
  unfold F_math_IsNaN
  rw [order_self]
  exact hQ
theorem CanonR_s (f : Nat) (hQ : Q [.float .f64 (canonF f)] h) : S_liveryref01_Canon f h Q := by
  refine O_liveryref01_Canon _ ?_
  unfold F_liveryref01_Canon
  refine IsNaN_s f ⟨_, rfl, ?_⟩
  unfold canonF at hQ
  rw [order_self] at hQ
  split
  · rename_i h1
    rw [if_pos h1] at hQ
    exact Float64from_s ⟨_, rfl, hQ⟩
  · rename_i h1
    rw [if_neg h1] at hQ
    split
    · rename_i h2
      rw [if_pos h2] at hQ
      exact hQ
    · rename_i h2
      rw [if_neg h2] at hQ
      exact hQ
theorem IsR_s (f : Nat) (hQ : Q [.bool (isF f)] h) : S_liveryref01_Is f h Q := by
  refine O_liveryref01_Is _ ?_
  unfold F_liveryref01_Is
  refine Float64bits_s ⟨_, rfl, CanonR_s f ⟨_, rfl, Float64bits_s ⟨_, rfl, ?_⟩⟩⟩
  have e : (((f : Nat) : Int) == ((canonF f : Nat) : Int)) = (f == canonF f) := by rw [Bool.eq_iff_iff]; simp; omega
  rw [e]
  exact hQ
theorem BitsR_s (f : Nat) (hf : f < allD) (hQ : Q [.int .u64 (bitsF f : Nat)] h) : S_liveryref01_Bits f h Q := by
  refine O_liveryref01_Bits _ ?_
  unfold F_liveryref01_Bits
  refine CanonR_s f ⟨_, rfl, Float64bits_s ⟨_, rfl, ?_⟩⟩
  have hc := canonF_lt hf
  unfold bitsF at hQ
  unfold allD sgnD at *
  by_cases hs : 9223372036854775808 ≤ canonF f
  · rw [if_pos (by simp; omega), xorAll _ hc]
    rw [if_pos hs] at hQ
    have e : 18446744073709551615 - canonF f = 18446744073709551616 - 1 - canonF f := by omega
    rw [e]
    exact hQ
  · rw [if_neg (by simp; omega), wrapU64 (by omega) (by omega)]
    rw [if_neg hs] at hQ
    exact hQ
theorem FromR_s (u : Nat) (hu : u < allD) (hQ : ∀ h', Ext [] h h' → Q [.agg #[.float .f64 (if isF (fromF u) = true then fromF u else 0), .bool (isF (fromF u))]] h') : S_liveryref01_From (u : Int) h Q := by
  refine O_liveryref01_From _ ?_
  unfold F_liveryref01_From
  refine newI fun h1 s1 b1 e1 => ?_
  intro J hJ
  have key : J [.float .f64 (fromF u)] h1 := by
    refine hJ _ _ ?_
    intro K hK
    have kF : isF (fromF u) = false → K [.bool true] h1 := fun hi => by
      refine hK _ _ ?_
      rw [if_pos rfl]
      refine st_blk b1 (by simp) fun h2 s2 b2 e2 => ?_
      refine ⟨0, by simp [rd_blk b2], false, by simp [rd_blk b2], ?_⟩
      have := hQ h2 (e1.trans e2 fun b hb hlt => by simp at hb; omega)
      rw [hi] at this
      exact this
    refine IsR_s _ ⟨_, rfl, ?_⟩
    cases hi : isF (fromF u) with
    | false =>
      rw [if_pos (by rfl)]
      exact kF hi
    | true =>
      rw [if_neg (by decide)]
      refine BitsR_s _ (fromF_lt hu) ⟨_, rfl, ?_⟩
      rw [bits_from hu hi]
      have e : (((u : Nat) : Int) != ((u : Nat) : Int)) = false := by simp
      rw [e]
      refine hK _ _ ?_
      rw [if_neg (by decide)]
      refine st_blk b1 (by simp) fun h2 s2 b2 e2 => ?_
      refine ⟨fromF u, by simp [rd_blk b2], true, by simp [rd_blk b2], ?_⟩
      have := hQ h2 (e1.trans e2 fun b hb hlt => by simp at hb; omega)
      rw [hi] at this
      exact this
  unfold fromF at key
  unfold allD at *
  unfold sgnD at key
  by_cases hs : 9223372036854775808 ≤ u
  · rw [if_pos (by simp; omega), wrapU64 (by omega) (by omega)]
    rw [if_pos hs] at key
    refine Float64from_s ⟨_, rfl, ?_⟩
    have e : ((u : Int) - 9223372036854775808).toNat = u - 9223372036854775808 := by omega
    rw [e]
    exact key
  · rw [if_neg (by simp; omega), xorAll _ hu]
    rw [if_neg hs] at key
    refine Float64from_s ⟨_, rfl, ?_⟩
    rw [Int.toNat_natCast]
    have e : 18446744073709551615 - u = 18446744073709551616 - 1 - u := by omega
    rw [e]
    exact key
theorem rank_s (f : Nat) (hQ : Q [.int .i64 (rankF f)] h) : S_liveryref01_rank f h Q := by
  refine O_liveryref01_rank _ ?_
  unfold F_liveryref01_rank
  refine IsNaN_s f ⟨_, rfl, ?_⟩
  unfold rankF at hQ
  split
  · rename_i h1
    rw [if_pos h1] at hQ
    exact hQ
  · rename_i h1
    rw [if_neg h1] at hQ
    exact hQ
theorem CmpF_s (a b : Nat) (hQ : Q [.int .i64 (cmpF a b)] h) : S_liveryref01_Compare a b h Q := by
  refine O_liveryref01_Compare _ _ ?_
  unfold F_liveryref01_Compare
  refine rank_s a ⟨_, rfl, rank_s b ⟨_, rfl, ?_⟩⟩
  unfold cmpF at hQ
  by_cases hr : rankF a ≠ rankF b
  · rw [if_pos (by simpa using hr)]
    refine rank_s a ⟨_, rfl, rank_s b ⟨_, rfl, ?_⟩⟩
    rw [if_pos hr] at hQ
    have : -1 ≤ rankF a - rankF b ∧ rankF a - rankF b ≤ 1 := by unfold rankF; split <;> split <;> omega
    rw [wrap64 (by omega) (by omega)]
    exact hQ
  · rw [if_neg (by simpa using hr)]
    refine rank_s a ⟨_, rfl, ?_⟩
    rw [if_neg hr] at hQ
    by_cases h1 : rankF a = 1
    · rw [if_pos (by simp [h1])]
      rw [if_pos h1] at hQ
      exact hQ
    · rw [if_neg (by simp [h1])]
      rw [if_neg h1] at hQ
      split
      · rename_i h2
        rw [if_pos h2] at hQ
        exact hQ
      · rename_i h2
        rw [if_neg h2] at hQ
        split
        · rename_i h3
          rw [if_pos h3] at hQ
          exact hQ
        · rename_i h3
          rw [if_neg h3] at hQ
          exact hQ
theorem plain_s (f : Nat) (hQ : Q [.bool (f == 0)] h) : S_liveryref02_plain f h Q := by
  refine O_liveryref02_plain _ ?_
  unfold F_liveryref02_plain
  refine Float64bits_s ⟨_, rfl, ?_⟩
  have e : (((f : Nat) : Int) == 0) = (f == 0) := by rw [Bool.eq_iff_iff]; simp
  rw [e]
  exact hQ
theorem GoodR_s (v : V4) (hQ : ∀ h', Ext [] h h' → Q [.bool (goodX v)] h') : S_liveryref02_Good v.k v.n v.f v.s h Q := by
  refine O_liveryref02_Good _ _ _ _ ?_
  unfold F_liveryref02_Good
  refine newI fun h1 s1 b1 e1 => ?_
  have hq := hQ h1 e1
  obtain ⟨k, n, f, s⟩ := v
  unfold goodX goodV bareV at hq
  simp only at hq ⊢
  have fin : ∀ b, b = (if k = 0 then (false || n == 0) && ((false || f == 0) && (false || s.toList == sE.toList))
      else if k = 1 then (true || n == 0) && ((false || f == 0) && (false || s.toList == sE.toList)) && (n == 0 || n == 1)
      else if k = 2 then (true || n == 0) && ((false || f == 0) && (false || s.toList == sE.toList))
      else if k = 3 then (false || n == 0) && ((true || f == 0) && (false || s.toList == sE.toList)) && f == canonF f
      else if k = 4 then (false || n == 0) && ((false || f == 0) && (true || s.toList == sE.toList)) && decide ((s.size : Int) ≤ 256) else false) → Q [.bool b] h1 := fun b hb => by rw [hb]; exact hq
  refine ⟨k, by simp [rd_blk b1], ?_⟩
  by_cases h0 : k = 0
  · rw [if_pos (by simp [h0])]
    intro J hJ
    refine ⟨n, by simp [rd_blk b1], ?_⟩
    cases hn : (n == 0) with
    | false => rw [if_neg (by decide)]; exact hJ _ _ (fin _ (by simp [h0, hn]))
    | true =>
      rw [if_pos rfl]
      refine ⟨f, by simp [rd_blk b1], plain_s f ⟨_, rfl, ?_⟩⟩
      cases hf : (f == 0) with
      | false => rw [if_neg (by decide)]; exact hJ _ _ (fin _ (by simp [h0, hn, hf]))
      | true => rw [if_pos rfl]; exact ⟨s, by simp [rd_blk b1], hJ _ _ (fin _ (by simp [h0, hn, hf]))⟩
  rw [if_neg (by simp [h0])]
  by_cases h1' : k = 1
  · rw [if_pos (by simp [h1'])]
    intro J hJ
    refine ⟨n, by simp [rd_blk b1], ?_⟩
    cases hn : (n == 0) with
    | true =>
      rw [if_pos rfl]
      refine ⟨f, by simp [rd_blk b1], plain_s f ⟨_, rfl, ?_⟩⟩
      cases hf : (f == 0) with
      | false => rw [if_neg (by decide)]; exact hJ _ _ (fin _ (by simp [h1', hn, hf]))
      | true => rw [if_pos rfl]; exact ⟨s, by simp [rd_blk b1], hJ _ _ (fin _ (by simp [h1', hn, hf]))⟩
    | false =>
      rw [if_neg (by decide)]
      refine ⟨n, by simp [rd_blk b1], ?_⟩
      cases hn1 : (n == 1) with
      | true =>
        rw [if_pos rfl]
        refine ⟨f, by simp [rd_blk b1], plain_s f ⟨_, rfl, ?_⟩⟩
        cases hf : (f == 0) with
        | false => rw [if_neg (by decide)]; exact hJ _ _ (fin _ (by simp [h1', hn, hn1, hf]))
        | true => rw [if_pos rfl]; exact ⟨s, by simp [rd_blk b1], hJ _ _ (fin _ (by simp [h1', hn, hn1, hf]))⟩
      | false => rw [if_neg (by decide)]; exact hJ _ _ (fin _ (by simp [h1', hn, hn1]))
  rw [if_neg (by simp [h1'])]
  by_cases h2 : k = 2
  · rw [if_pos (by simp [h2])]
    intro J hJ
    refine ⟨f, by simp [rd_blk b1], plain_s f ⟨_, rfl, ?_⟩⟩
    cases hf : (f == 0) with
    | false => rw [if_neg (by decide)]; exact hJ _ _ (fin _ (by simp [h2, hf]))
    | true => rw [if_pos rfl]; exact ⟨s, by simp [rd_blk b1], hJ _ _ (fin _ (by simp [h2, hf]))⟩
  rw [if_neg (by simp [h2])]
  by_cases h3 : k = 3
  · rw [if_pos (by simp [h3])]
    intro J hJ
    refine ⟨n, by simp [rd_blk b1], ?_⟩
    cases hn : (n == 0) with
    | false => rw [if_neg (by decide)]; exact hJ _ _ (fin _ (by simp [h3, hn]))
    | true =>
      rw [if_pos rfl]
      refine ⟨f, by simp [rd_blk b1], IsR_s f ⟨_, rfl, ?_⟩⟩
      cases hf : isF f with
      | false => rw [if_neg (by decide)]; exact hJ _ _ (fin _ (by rw [show (f == canonF f) = false from hf]; simp [h3]))
      | true => rw [if_pos rfl]; exact ⟨s, by simp [rd_blk b1], hJ _ _ (fin _ (by rw [show (f == canonF f) = true from hf]; simp [h3, hn]))⟩
  rw [if_neg (by simp [h3])]
  by_cases h4 : k = 4
  · rw [if_pos (by simp [h4])]
    intro J hJ
    refine ⟨n, by simp [rd_blk b1], ?_⟩
    cases hn : (n == 0) with
    | false => rw [if_neg (by decide)]; exact hJ _ _ (fin _ (by simp [h4, hn]))
    | true =>
      rw [if_pos rfl]
      refine ⟨f, by simp [rd_blk b1], plain_s f ⟨_, rfl, ?_⟩⟩
      cases hf : (f == 0) with
      | false => rw [if_neg (by decide)]; exact hJ _ _ (fin _ (by simp [h4, hn, hf]))
      | true => rw [if_pos rfl]; exact ⟨s, by simp [rd_blk b1], hJ _ _ (fin _ (by simp [h4, hn, hf]))⟩
  rw [if_neg (by simp [h4])]
  exact fin _ (by simp [h0, h1', h2, h3, h4])
theorem CmpV_s (a b : V4) (hQ : ∀ h', Ext [] h h' → Q [.int .i64 (cmpV a b)] h') : S_liveryref02_Compare a.k a.n a.f a.s b.k b.n b.f b.s h Q := by
  refine O_liveryref02_Compare _ _ _ _ _ _ _ _ ?_
  unfold F_liveryref02_Compare
  refine newI fun h1 s1 b1 e1 => newI fun h2 s2 b2 e2 => ?_
  have c1 := e2.get b1 (by simp)
  have hq := hQ h2 (e1.trans0 e2)
  unfold cmpV at hq
  refine ⟨a.k, by simp [rd_blk c1], b.k, by simp [rd_blk b2], ?_⟩
  by_cases g1 : a.k < b.k
  · rw [if_pos (by simpa using g1)]
    rw [if_pos g1] at hq
    exact hq
  rw [if_neg (by simpa using g1)]
  rw [if_neg g1] at hq
  refine ⟨a.k, by simp [rd_blk c1], b.k, by simp [rd_blk b2], ?_⟩
  by_cases g2 : a.k > b.k
  · rw [if_pos (by simpa using g2)]
    rw [if_pos g2] at hq
    exact hq
  rw [if_neg (by simpa using g2)]
  rw [if_neg g2] at hq
  refine ⟨a.n, by simp [rd_blk c1], b.n, by simp [rd_blk b2], ?_⟩
  by_cases g3 : a.n < b.n
  · rw [if_pos (by simpa using g3)]
    rw [if_pos g3] at hq
    exact hq
  rw [if_neg (by simpa using g3)]
  rw [if_neg g3] at hq
  refine ⟨a.n, by simp [rd_blk c1], b.n, by simp [rd_blk b2], ?_⟩
  by_cases g4 : a.n > b.n
  · rw [if_pos (by simpa using g4)]
    rw [if_pos g4] at hq
    exact hq
  rw [if_neg (by simpa using g4)]
  rw [if_neg g4] at hq
  refine ⟨a.f, by simp [rd_blk c1], b.f, by simp [rd_blk b2], CmpF_s a.f b.f ⟨_, rfl, ?_⟩⟩
  by_cases g5 : cmpF a.f b.f ≠ 0
  · rw [if_pos (by simpa using g5)]
    rw [if_pos g5] at hq
    exact hq
  rw [if_neg (by simpa using g5)]
  rw [if_neg g5] at hq
  refine ⟨a.s, by simp [rd_blk c1], b.s, by simp [rd_blk b2], ?_⟩
  by_cases g6 : sLt a.s b.s = true
  · rw [if_pos (show Op.bytesLess a.s.toList b.s.toList = true from g6)]
    rw [if_pos g6] at hq
    exact hq
  rw [if_neg (show ¬ Op.bytesLess a.s.toList b.s.toList = true from g6)]
  rw [if_neg g6] at hq
  refine ⟨a.s, by simp [rd_blk c1], b.s, by simp [rd_blk b2], ?_⟩
  have g6' : Op.bytesLess a.s.toList b.s.toList = false := by simpa [sLt] using g6
  by_cases g7 : sLt b.s a.s = true
  · rw [if_pos (by
      rw [g6', Bool.false_or]
      have : a.s.toList ≠ b.s.toList := fun e => by
        have e2 := toList_inj e
        rw [e2, sLt_irrefl] at g7
        cases g7
      simp [this])]
    rw [if_pos g7] at hq
    exact hq
  · rw [if_neg (by
      rcases sLt_total a.s b.s with e | e | e
      · simp [e]
      · exact absurd e g6
      · exact absurd e g7)]
    rw [if_neg g7] at hq
    exact hq
end
end Go.Lift

/- DefineNone: what a store that nobody made answers; the law returns true. -/
import Derived.Test.YtgmbhlfecbpclaaGreatDoorD23a
import Derived.Test.YtgmbhlfecbpclaaGreatDoorW23k
set_option linter.unusedSimpArgs false
set_option linter.unusedVariables false
namespace Go.Lift
open Go Go.Proofs
set_option maxRecDepth 100000
section
variable {h : Hp} {Q : List Value → Hp → Prop}
theorem DefineNone_s {x : StM} {rs : List Va} {cs : List Co} (col : ByteArray) (hr : Reads 4 encVa h x.row rs) (hc : Reads 7 encCo h x.cols cs) (hl : cs.length < 2 ^ 63) (hQ : ∀ h', Ext [] h h' → Q [.bool true] h') :
    F_liverylaw23_DefineNone x.k x.t x.nm x.col x.set x.v.k x.v.n x.v.f x.v.s x.w.k x.w.n x.w.f x.w.s x.row x.cols x.fl col h Q := by
  unfold F_liverylaw23_DefineNone
  refine newI fun h1 s1 b1 e1 => ?_
  have b1 : Blk h1 h.size (smCells x) T_api_Stmt := b1
  intro J hJ
  have fin : ∀ b g, Ext [] h1 g → J [.bool b] g := by
    intro b g eg
    refine hJ b g ?_
    have xg := e1.trans0 eg
    have b1 := eg.get b1 (by simp)
    cases b with
    | true =>
      rw [if_pos rfl]
      exact wakes_s fun h4 e4 => ⟨true, rfl, hQ h4 (xg.trans0 e4)⟩
    | false =>
      rw [if_neg (by simp)]
      refine ⟨x.k, by simp [rd_blk b1, smCells], x.t, by simp [rd_blk b1, smCells], x.nm, by simp [rd_blk b1, smCells], x.col, by simp [rd_blk b1, smCells], x.set, by simp [rd_blk b1, smCells], x.v.k, by simp [rd_blk b1, smCells], x.v.n, by simp [rd_blk b1, smCells], x.v.f, by simp [rd_blk b1, smCells], x.v.s, by simp [rd_blk b1, smCells], x.w.k, by simp [rd_blk b1, smCells], x.w.n, by simp [rd_blk b1, smCells], x.w.f, by simp [rd_blk b1, smCells], x.w.s, by simp [rd_blk b1, smCells], x.row, by simp [rd_blk b1, smCells], x.cols, by simp [rd_blk b1, smCells], x.fl, by simp [rd_blk b1, smCells], ?_⟩
      refine Do_n x fun h2 e2 => ⟨1, 0, ⟨none, 0, 0⟩, 0, rfl, ?_⟩
      have x2 := xg.trans0 e2
      have b1 := e2.get b1 (by simp)
      refine newI fun h3 s3 b3 e3 => ?_
      have x3 := x2.trans0 e3
      have b1 := e3.get b1 (by simp)
      refine st_blk b3 (by simp) fun h4 s4 b4 e4 => ?_
      have hb : h.size ≠ h2.size := by
        have := s1
        have := (eg.trans0 e2).1
        omega
      have x4 : Ext [] h h4 := x2.trans (e3.trans e4 (by intro k hk hlt; simp at hk; omega)) (by intro k hk; simp at hk)
      have b1 := e4.get b1 (by simpa using hb)
      simp only [putAt, Nat.zero_add, Nat.reduceAdd, List.setIfInBounds_toArray, List.set_cons_zero, List.set_cons_succ] at b4
      refine ⟨1, by simp [rd_blk b4], ?_⟩
      rw [if_pos (by decide), if_pos (by decide)]
      refine ⟨x.cols, by simp [rd_blk b1, smCells], ?_⟩
      refine Twice_n (hc.ext0 x4) hl col fun h5 e5 => ⟨false, rfl, ?_⟩
      rw [if_pos (by decide)]
      exact wakes_s fun h6 e6 => ⟨true, rfl, hQ h6 ((x4.trans0 e5).trans0 e6)⟩
  refine ⟨x.k, by simp [rd_blk b1, smCells], x.t, by simp [rd_blk b1, smCells], x.nm, by simp [rd_blk b1, smCells], x.col, by simp [rd_blk b1, smCells], x.set, by simp [rd_blk b1, smCells], x.v.k, by simp [rd_blk b1, smCells], x.v.n, by simp [rd_blk b1, smCells], x.v.f, by simp [rd_blk b1, smCells], x.v.s, by simp [rd_blk b1, smCells], x.w.k, by simp [rd_blk b1, smCells], x.w.n, by simp [rd_blk b1, smCells], x.w.f, by simp [rd_blk b1, smCells], x.w.s, by simp [rd_blk b1, smCells], x.row, by simp [rd_blk b1, smCells], x.cols, by simp [rd_blk b1, smCells], x.fl, by simp [rd_blk b1, smCells], ?_⟩
  refine LargeStmt_s (x := x) (hr.ext0 e1) (hc.ext0 e1) fun h2 b2 e2 => ⟨b2, rfl, ?_⟩
  split
  · exact fin true h2 e2
  · exact fin _ h2 e2
end
end Go.Lift

/- WriteNone: the law returns true. -/
import Derived.Test.YtgmbhlfecbpclacGreatDoorD22a
import Derived.Test.YtgmbhlfecbpclacGreatDoorW22k
set_option linter.unusedSimpArgs false
set_option linter.unusedVariables false
namespace Go.Lift
open Go Go.Proofs
set_option maxRecDepth 100000
section
variable {h : Hp} {Q : List Value → Hp → Prop}
theorem WriteNone_s {x : StM} {rs : List Va} {cs : List Co} (hr : Reads 4 encVa h x.row rs) (hc : Reads 7 encCo h x.cols cs) (hQ : ∀ h', Ext [] h h' → Q [.bool true] h') :
    F_liverylaw22_WriteNone x.k x.t x.nm x.col x.set x.v.k x.v.n x.v.f x.v.s x.w.k x.w.n x.w.f x.w.s x.row x.cols x.fl h Q := by
  unfold F_liverylaw22_WriteNone
  refine newI fun h1 s1 b1 e1 => ?_
  have b1 : Blk h1 h.size (smCells x) T_api_Stmt := b1
  refine ⟨x.k, by simp [rd_blk b1, smCells], x.t, by simp [rd_blk b1, smCells], x.nm, by simp [rd_blk b1, smCells], x.col, by simp [rd_blk b1, smCells], x.set, by simp [rd_blk b1, smCells], x.v.k, by simp [rd_blk b1, smCells], x.v.n, by simp [rd_blk b1, smCells], x.v.f, by simp [rd_blk b1, smCells], x.v.s, by simp [rd_blk b1, smCells], x.w.k, by simp [rd_blk b1, smCells], x.w.n, by simp [rd_blk b1, smCells], x.w.f, by simp [rd_blk b1, smCells], x.w.s, by simp [rd_blk b1, smCells], x.row, by simp [rd_blk b1, smCells], x.cols, by simp [rd_blk b1, smCells], x.fl, by simp [rd_blk b1, smCells], ?_⟩
  refine LargeStmt_s (x := x) (hr.ext0 e1) (hc.ext0 e1) fun h2 b2 e2 => ⟨b2, rfl, ?_⟩
  have x2 := e1.trans0 e2
  have b1 := e2.get b1 (by simp)
  split
  · exact wakes_s fun h4 e4 => ⟨true, rfl, hQ h4 (x2.trans0 e4)⟩
  · refine ⟨x.k, by simp [rd_blk b1, smCells], x.t, by simp [rd_blk b1, smCells], x.nm, by simp [rd_blk b1, smCells], x.col, by simp [rd_blk b1, smCells], x.set, by simp [rd_blk b1, smCells], x.v.k, by simp [rd_blk b1, smCells], x.v.n, by simp [rd_blk b1, smCells], x.v.f, by simp [rd_blk b1, smCells], x.v.s, by simp [rd_blk b1, smCells], x.w.k, by simp [rd_blk b1, smCells], x.w.n, by simp [rd_blk b1, smCells], x.w.f, by simp [rd_blk b1, smCells], x.w.s, by simp [rd_blk b1, smCells], x.row, by simp [rd_blk b1, smCells], x.cols, by simp [rd_blk b1, smCells], x.fl, by simp [rd_blk b1, smCells], ?_⟩
    refine Do_n x fun h3 e3 => ⟨1, 0, ⟨none, 0, 0⟩, 0, rfl, ?_⟩
    have x3 := x2.trans0 e3
    have b1 := e3.get b1 (by simp)
    refine newI fun h4 s4 b4 e4 => ?_
    have b1 := e4.get b1 (by simp)
    refine st_blk b4 (by simp) fun h5 s5 b5 e5 => ?_
    have l3 : h1.size ≤ h3.size := (e2.trans0 e3).1
    have b1 := e5.get b1 (by simp; omega)
    have x5 : Ext [] h h5 := x3.trans (e4.trans e5 (by intro k hk hlt; simp at hk; omega)) (by intro k hk; simp at hk)
    simp only [putAt, Nat.zero_add, Nat.reduceAdd, List.setIfInBounds_toArray, List.set_cons_zero, List.set_cons_succ] at b5
    refine ⟨x.cols, by simp [rd_blk b1, smCells], x.row, by simp [rd_blk b1, smCells], ?_⟩
    refine May_n _ _ _ ⟨1, 0, rfl, ?_⟩
    refine ⟨1, by simp [rd_blk b5], ?_⟩
    rw [if_pos (by decide), if_pos (by decide), if_pos (by decide), if_pos (by decide)]
    exact wakes_s fun h6 e6 => ⟨true, rfl, hQ h6 (x5.trans0 e6)⟩
end
end Go.Lift

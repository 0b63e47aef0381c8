/- ReadNone: the law returns true. -/
import Derived.Test.YtgmbhlfecbpclabGreatDoorD21a
import Derived.Test.YtgmbhlfecbpclabGreatDoorW21k
set_option linter.unusedSimpArgs false
set_option linter.unusedVariables false
namespace Go.Lift
open Go Go.Proofs
set_option maxRecDepth 100000
section
variable {h : Hp} {Q : List Value → Hp → Prop}
theorem ReadNone_s {x : StM} {rs : List Va} {cs : List Co} (ts : ByteArray) (tc : Sl) (tm : Int) {tl : List Co} (hr : Reads 4 encVa h x.row rs) (hc : Reads 7 encCo h x.cols cs) (ht : Reads 7 encCo h tc tl) (hQ : ∀ h', Ext [] h h' → Q [.bool true] h') :
    F_liverylaw21_ReadNone x.k x.t x.nm x.col x.set x.v.k x.v.n x.v.f x.v.s x.w.k x.w.n x.w.f x.w.s x.row x.cols x.fl ts tc tm h Q := by
  unfold F_liverylaw21_ReadNone
  refine newI fun h1 s1 b1 e1 => ?_
  have b1 : Blk h1 h.size (smCells x) T_api_Stmt := b1
  refine newI fun h2 s2 b2 e2 => ?_
  have b2 : Blk h2 h1.size #[.string ts, .slice tc.a tc.n tc.c, .int .i64 tm] T_api_Table := b2
  have b1 := e2.get b1 (by simp)
  have x2 := e1.trans0 e2
  intro J hJ
  have fin : ∀ b g, Ext [] h2 g → J [.bool b] g := by
    intro b g eg
    refine hJ b g ?_
    have xg := x2.trans0 eg
    have b1 := eg.get b1 (by simp)
    have b2 := eg.get b2 (by simp)
    cases b with
    | true =>
      rw [if_pos rfl]
      exact wakes_s fun h4 e4 => ⟨true, rfl, hQ h4 (xg.trans0 e4)⟩
    | false =>
      rw [if_neg (by simp)]
      refine ⟨x.t, by simp [rd_blk b1, smCells], ?_⟩
      refine Open_n _ _ fun h3 e3 => ⟨ByteArray.mk #[], ⟨none, 0, 0⟩, 0, false, rfl, ?_⟩
      have x3 := xg.trans0 e3
      have b1 := e3.get b1 (by simp)
      have b2 := e3.get b2 (by simp)
      refine newI fun h4 s4 b4 e4 => ?_
      have b1 := e4.get b1 (by simp)
      have b2 := e4.get b2 (by simp)
      refine st_blk b4 (by simp) fun h5 s5 b5 e5 => ?_
      have l3 : h2.size ≤ h3.size := (eg.trans0 e3).1
      have b1 := e5.get b1 (by simp; omega)
      have b2 := e5.get b2 (by simp; omega)
      have x5 : Ext [] h h5 := x3.trans (e4.trans e5 (by intro k hk hlt; simp at hk; omega)) (by intro k hk; simp at hk)
      refine ⟨ts, by simp [rd_blk b2], tc, by simp [rd_blk b2], tm, by simp [rd_blk b2], x.k, by simp [rd_blk b1, smCells], x.t, by simp [rd_blk b1, smCells], x.nm, by simp [rd_blk b1, smCells], x.col, by simp [rd_blk b1, smCells], x.set, by simp [rd_blk b1, smCells], x.v.k, by simp [rd_blk b1, smCells], x.v.n, by simp [rd_blk b1, smCells], x.v.f, by simp [rd_blk b1, smCells], x.v.s, by simp [rd_blk b1, smCells], x.w.k, by simp [rd_blk b1, smCells], x.w.n, by simp [rd_blk b1, smCells], x.w.f, by simp [rd_blk b1, smCells], x.w.s, by simp [rd_blk b1, smCells], x.row, by simp [rd_blk b1, smCells], x.cols, by simp [rd_blk b1, smCells], x.fl, by simp [rd_blk b1, smCells], ?_⟩
      refine Hits_n x _ _ _ _ fun h6 e6 => ⟨⟨none, 0, 0⟩, 1, rfl, ?_⟩
      have x6 := x5.trans0 e6
      have b1 := e6.get b1 (by simp)
      rw [if_pos (by decide), if_pos (by decide), if_pos (by decide)]
      refine ⟨x.k, by simp [rd_blk b1, smCells], x.t, by simp [rd_blk b1, smCells], x.nm, by simp [rd_blk b1, smCells], x.col, by simp [rd_blk b1, smCells], x.set, by simp [rd_blk b1, smCells], x.v.k, by simp [rd_blk b1, smCells], x.v.n, by simp [rd_blk b1, smCells], x.v.f, by simp [rd_blk b1, smCells], x.v.s, by simp [rd_blk b1, smCells], x.w.k, by simp [rd_blk b1, smCells], x.w.n, by simp [rd_blk b1, smCells], x.w.f, by simp [rd_blk b1, smCells], x.w.s, by simp [rd_blk b1, smCells], x.row, by simp [rd_blk b1, smCells], x.cols, by simp [rd_blk b1, smCells], x.fl, by simp [rd_blk b1, smCells], ?_⟩
      refine Do_n x _ fun h7 e7 => ⟨1, 0, ⟨none, 0, 0⟩, rfl, ?_⟩
      rw [if_pos (by decide)]
      exact wakes_s fun h8 e8 => ⟨true, rfl, hQ h8 ((x6.trans0 e7).trans0 e8)⟩
  refine ⟨x.k, by simp [rd_blk b1, smCells], x.t, by simp [rd_blk b1, smCells], x.nm, by simp [rd_blk b1, smCells], x.col, by simp [rd_blk b1, smCells], x.set, by simp [rd_blk b1, smCells], x.v.k, by simp [rd_blk b1, smCells], x.v.n, by simp [rd_blk b1, smCells], x.v.f, by simp [rd_blk b1, smCells], x.v.s, by simp [rd_blk b1, smCells], x.w.k, by simp [rd_blk b1, smCells], x.w.n, by simp [rd_blk b1, smCells], x.w.f, by simp [rd_blk b1, smCells], x.w.s, by simp [rd_blk b1, smCells], x.row, by simp [rd_blk b1, smCells], x.cols, by simp [rd_blk b1, smCells], x.fl, by simp [rd_blk b1, smCells], ?_⟩
  refine LargeStmt_s (x := x) (hr.ext0 x2) (hc.ext0 x2) fun h3 b3 e3 => ⟨b3, rfl, ?_⟩
  have b2 := e3.get b2 (by simp)
  split
  · exact fin true h3 e3
  · refine ⟨tc, by simp [rd_blk b2], ?_⟩
    refine LargeCols_s (ht.ext0 (x2.trans0 e3)) fun h4 b4 e4 => ⟨b4, rfl, ?_⟩
    have b2 := e4.get b2 (by simp)
    split
    · exact fin true h4 (e3.trans0 e4)
    · exact ⟨ts, by simp [rd_blk b2], fin _ h4 (e3.trans0 e4)⟩
end
end Go.Lift

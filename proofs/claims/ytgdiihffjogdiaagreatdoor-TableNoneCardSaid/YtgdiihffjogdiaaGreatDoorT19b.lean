/- TableNone: a store that nobody made holds nothing; the law returns true. -/
import Derived.Test.YtgdiihffjogdiaaGreatDoorT19a
import Derived.Test.YtgdiihffjogdiaaGreatDoorW19k
set_option linter.unusedSimpArgs false
set_option linter.unusedVariables false
namespace Go.Lift
open Go Go.Proofs
set_option maxRecDepth 100000
section
variable {h : Hp} {Q : List Value → Hp → Prop}
theorem TableNone_s {x : StT} {rs : List Va} {cs : List Co} (hr : Reads 4 encVa h x.row rs) (hc : Reads 7 encCo h x.cols cs) (hQ : ∀ h', Ext [] h h' → Q [.bool true] h') :
    F_liverylaw19_TableNone x.n0 x.n1 x.n2 x.n3 x.s4 x.s5 x.b6 x.n7 x.v.k x.v.n x.v.f x.v.s x.w.k x.w.n x.w.f x.w.s x.row x.cols x.n18 x.s19 x.n20 x.s21 x.n22 x.b23 h Q := by
  unfold F_liverylaw19_TableNone
  refine newI fun h1 s1 b1 e1 => ?_
  have b1 : Blk h1 h.size (stCells x) T_liverylaw19_Step := b1
  refine ⟨x.n0, by simp [rd_blk b1, stCells], x.n1, by simp [rd_blk b1, stCells], x.n2, by simp [rd_blk b1, stCells], x.n3, by simp [rd_blk b1, stCells], x.s4, by simp [rd_blk b1, stCells], x.s5, by simp [rd_blk b1, stCells], x.b6, by simp [rd_blk b1, stCells], x.n7, by simp [rd_blk b1, stCells], x.v.k, by simp [rd_blk b1, stCells], x.v.n, by simp [rd_blk b1, stCells], x.v.f, by simp [rd_blk b1, stCells], x.v.s, by simp [rd_blk b1, stCells], x.w.k, by simp [rd_blk b1, stCells], x.w.n, by simp [rd_blk b1, stCells], x.w.f, by simp [rd_blk b1, stCells], x.w.s, by simp [rd_blk b1, stCells], x.row, by simp [rd_blk b1, stCells], x.cols, by simp [rd_blk b1, stCells], x.n18, by simp [rd_blk b1, stCells], x.s19, by simp [rd_blk b1, stCells], x.n20, by simp [rd_blk b1, stCells], x.s21, by simp [rd_blk b1, stCells], x.n22, by simp [rd_blk b1, stCells], x.b23, by simp [rd_blk b1, stCells], ?_⟩
  refine newI fun h2 s2 b2 e2 => ?_
  have b2 : Blk h2 h1.size (stCells x) T_liverylaw19_Step := b2
  have ex2 := e1.trans0 e2
  refine Fair_s (x := x) b2 (hr.ext0 ex2) (hc.ext0 ex2) fun h3 bf e3 => ⟨bf, rfl, ?_⟩
  have ex3 := ex2.trans0 e3
  have b1 := e3.get (e2.get b1 (by simp)) (by simp)
  cases bf with
  | false =>
    rw [if_pos (by simp)]
    exact wakes_s fun h4 e4 => ⟨true, rfl, hQ h4 (ex3.trans0 e4)⟩
  | true =>
    rw [if_neg (by simp)]
    refine NewRel_n ⟨0, 1, rfl, ?_⟩
    refine ⟨x.n1, by simp [rd_blk b1, stCells], x.n2, by simp [rd_blk b1, stCells], x.row, by simp [rd_blk b1, stCells], x.cols, by simp [rd_blk b1, stCells], ?_⟩
    refine Put_n _ _ _ _ ⟨0, 1, rfl, ?_⟩
    refine ⟨x.n1, by simp [rd_blk b1, stCells], x.n2, by simp [rd_blk b1, stCells], x.cols, by simp [rd_blk b1, stCells], x.b23, by simp [rd_blk b1, stCells], ?_⟩
    refine Move_n _ _ _ _ ⟨0, 1, rfl, ?_⟩
    refine ⟨x.n2, by simp [rd_blk b1, stCells], x.s4, by simp [rd_blk b1, stCells], x.v.k, by simp [rd_blk b1, stCells], x.v.n, by simp [rd_blk b1, stCells], x.v.f, by simp [rd_blk b1, stCells], x.v.s, by simp [rd_blk b1, stCells], ?_⟩
    refine Find_n _ _ _ _ _ _ fun h4 e4 => ⟨⟨none, 0, 0⟩, ⟨none, 0, 0⟩, rfl, ?_⟩
    have ex4 := ex3.trans0 e4
    have b1 := e4.get b1 (by simp)
    refine ⟨x.n2, by simp [rd_blk b1, stCells], x.s4, by simp [rd_blk b1, stCells], x.v.k, by simp [rd_blk b1, stCells], x.v.n, by simp [rd_blk b1, stCells], x.v.f, by simp [rd_blk b1, stCells], x.v.s, by simp [rd_blk b1, stCells], x.w.k, by simp [rd_blk b1, stCells], x.w.n, by simp [rd_blk b1, stCells], x.w.f, by simp [rd_blk b1, stCells], x.w.s, by simp [rd_blk b1, stCells], ?_⟩
    refine Range_n _ _ _ _ _ _ _ _ _ _ fun h5 e5 => ⟨⟨none, 0, 0⟩, ⟨none, 0, 0⟩, rfl, ?_⟩
    have ex5 := ex4.trans0 e5
    have b1 := e5.get b1 (by simp)
    intro J hJ
    have fin : J [.bool false] h5 := by
      refine hJ false h5 ?_
      rw [if_neg (by simp)]
      refine Log_n ⟨none, rfl, ?_⟩
      rw [if_pos (by simp)]
      refine Names_n ⟨none, rfl, ?_⟩
      rw [if_pos (by simp)]
      refine Locks_n ⟨none, rfl, ?_⟩
      rw [if_pos (by simp)]
      refine Ssi_n ⟨none, rfl, ?_⟩
      rw [if_pos (by simp)]
      refine ⟨x.n2, by simp [rd_blk b1, stCells], ?_⟩
      refine Rel_n _ ⟨none, rfl, ?_⟩
      rw [if_pos (by simp)]
      refine ⟨x.n2, by simp [rd_blk b1, stCells], ?_⟩
      refine Indexes_n _ ⟨⟨none, 0, 0⟩, rfl, ?_⟩
      rw [if_pos (by simp)]
      refine ⟨x.n1, by simp [rd_blk b1, stCells], x.n2, by simp [rd_blk b1, stCells], ?_⟩
      refine Usable_n _ _ fun h6 e6 => ⟨⟨none, 0, 0⟩, rfl, ?_⟩
      have ex6 := ex5.trans0 e6
      have b1 := e6.get b1 (by simp)
      rw [if_pos (by simp)]
      refine ⟨x.n1, by simp [rd_blk b1, stCells], x.n2, by simp [rd_blk b1, stCells], x.s4, by simp [rd_blk b1, stCells], x.s5, by simp [rd_blk b1, stCells], x.b6, by simp [rd_blk b1, stCells], x.n7, by simp [rd_blk b1, stCells], x.cols, by simp [rd_blk b1, stCells], ?_⟩
      refine Make_n _ _ _ _ _ _ _ fun h7 e7 => ⟨1, rfl, ?_⟩
      have ex7 := ex6.trans0 e7
      have b1 := e7.get b1 (by simp)
      rw [if_pos (by decide)]
      refine ⟨x.n2, by simp [rd_blk b1, stCells], ?_⟩
      refine Set_n _ _ _ _ ⟨1, rfl, ?_⟩
      rw [if_pos (by decide)]
      refine ⟨x.n1, by simp [rd_blk b1, stCells], x.n2, by simp [rd_blk b1, stCells], ?_⟩
      refine Remove_n _ _ _ ⟨1, rfl, ?_⟩
      rw [if_pos (by decide)]
      refine ⟨x.n2, by simp [rd_blk b1, stCells], x.cols, by simp [rd_blk b1, stCells], ?_⟩
      refine Fill_n _ _ _ ⟨1, rfl, ?_⟩
      rw [if_pos (by decide)]
      refine ⟨x.n1, by simp [rd_blk b1, stCells], x.n2, by simp [rd_blk b1, stCells], x.n3, by simp [rd_blk b1, stCells], ?_⟩
      refine End_n _ _ _ ⟨1, rfl, ?_⟩
      rw [if_pos (by decide)]
      exact wakes_s fun h8 e8 => ⟨true, rfl, hQ h8 (ex7.trans0 e8)⟩
    rw [if_neg (by decide), if_neg (by decide), if_neg (by decide), if_neg (by decide), if_neg (by decide), if_neg (by decide)]
    exact fin
end
end Go.Lift

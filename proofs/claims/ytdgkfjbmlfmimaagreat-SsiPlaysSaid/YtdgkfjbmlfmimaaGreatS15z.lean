/- Things, steps, small arrays, opened. -/
import Derived.Test.YtdgkfjbmlfmimaaGreatS15i
import Derived.Test.YtdgkfjbmlfmimaaGreatLvR
set_option linter.unusedSimpArgs false
set_option linter.unusedVariables false
namespace Go.Lift.E14
open Go Go.Proofs Go.RowKit Go.ChangeShapes
set_option maxRecDepth 100000
section
variable {H : Type} {enc : TypeId × Value → H} {w : World} {base : Nat} {spare : Nat → Bool} {held : Bool}
theorem list9 {cs : List Value} (h : cs.length = 9) : ∃ a b c d e f g i j, cs = [a, b, c, d, e, f, g, i, j] := by
 match cs, h with
 | [a, b, c, d, e, f, g, i, j], _ => exact ⟨a, b, c, d, e, f, g, i, j, rfl⟩
theorem c15i : Tryz.prog.cellsOf 3 = 1 := by kernel_rfl
theorem c15s : Tryz.prog.cellsOf 9 = 1 := by kernel_rfl
theorem c15b : Tryz.prog.cellsOf 4 = 1 := by kernel_rfl
theorem c15t : Tryz.prog.cellsOf 23 = 5 := by kernel_rfl
theorem elem_thingZ {cs : List Value} {n : Nat} {y : DataW H × List MemPlace} (hl : cs.length = 5) (h : DataW.trod enc Tryz.prog w base spare held n 23 cs = some y) : ∃ t : ThingM, cs = encT t := by
 obtain ⟨a, b, c, d, e, rfl⟩ := list5 hl
 obtain ⟨m, hm⟩ := elem_fld Tryz.underlying23 h
 obtain ⟨_, h0⟩ := hm 0 3 0 rfl
 obtain ⟨_, h1⟩ := hm 1 9 1 rfl
 obtain ⟨_, h2⟩ := hm 2 3 2 rfl
 obtain ⟨_, h3⟩ := hm 3 9 3 rfl
 obtain ⟨_, h4⟩ := hm 4 3 4 rfl
 simp only [c15i] at h0 h2 h4
 simp only [c15s] at h1 h3
 obtain ⟨x0, e0, _⟩ := elem_int Tryz.underlying3 h0
 obtain ⟨x1, e1, _⟩ := elem_str Tryz.underlying9 h1
 obtain ⟨x2, e2, _⟩ := elem_int Tryz.underlying3 h2
 obtain ⟨x3, e3, _⟩ := elem_str Tryz.underlying9 h3
 obtain ⟨x4, e4, _⟩ := elem_int Tryz.underlying3 h4
 simp at e0 e1 e2 e3 e4
 subst e0 e1 e2 e3 e4
 exact ⟨⟨x0, x1, x2, x3, x4⟩, rfl⟩
theorem elem_stepZ {cs : List Value} {n : Nat} {y : DataW H × List MemPlace} (hl : cs.length = 9) (h : DataW.trod enc Tryz.prog w base spare held n 41 cs = some y) : ∃ t : StepZ, cs = encZ t ∧ (-9223372036854775808 ≤ t.xid ∧ t.xid < 9223372036854775808) ∧ (-9223372036854775808 ≤ t.other ∧ t.other < 9223372036854775808) := by
 obtain ⟨a, b, c, d, e, f, g, i, j, rfl⟩ := list9 hl
 obtain ⟨mm, hm⟩ := elem_fld Tryz.underlying41 h
 obtain ⟨_, h0⟩ := hm 0 3 0 rfl
 obtain ⟨_, h1⟩ := hm 1 3 1 rfl
 obtain ⟨_, h2⟩ := hm 2 3 2 rfl
 obtain ⟨_, h3⟩ := hm 3 4 3 rfl
 obtain ⟨_, h4⟩ := hm 4 23 4 rfl
 simp only [c15i] at h0 h1 h2
 simp only [c15b] at h3
 simp only [c15t] at h4
 obtain ⟨x0, e0, _⟩ := elem_int Tryz.underlying3 h0
 obtain ⟨x1, e1, w1⟩ := elem_int Tryz.underlying3 h1
 obtain ⟨x2, e2, w2⟩ := elem_int Tryz.underlying3 h2
 obtain ⟨x3, e3⟩ := elem_bool Tryz.underlying4 h3
 obtain ⟨x4, e4⟩ := elem_thingZ rfl h4
 simp at e0 e1 e2 e3 e4
 obtain ⟨rfl, rfl, rfl, rfl, rfl⟩ := e4
 subst e0 e1 e2 e3
 have b1 := wf_i64 w1
 have b2 := wf_i64 w2
 exact ⟨⟨x0, x1, x2, x3, x4⟩, rfl, ⟨by simp only; omega, by simp only; omega⟩, ⟨by simp only; omega, by simp only; omega⟩⟩
end
theorem agg_of {P : Program} {w : World} {r : Reach} {b0 : Nat} {t : TypeId} {v : Value} {ts : List TypeId} (hs : (∃ fs, P.underlying t = some (.struct fs)) ∨ ∃ n e, P.underlying t = some (.array n e)) (hts : P.cellTypes P.depth t = some ts) (hc : P.cellsOf t = ts.length) (hv : Value.okWide P w r b0 t v) :
  ∃ cs : List Value, v = .agg cs.toArray ∧ cs.length = ts.length ∧ ∀ (i : Nat) (u : TypeId), ts[i]? = some u → ∃ x, cs[i]? = some x ∧ Cell.okWide P w r b0 u x := by
 have h : ∃ cs, v = .agg cs ∧ cs.size = P.cellsOf t ∧ Row.okWide P w r b0 t cs := by
  unfold Value.okWide at hv
  rcases hs with ⟨fs, h⟩ | ⟨n, e, h⟩ <;> (rw [h] at hv; exact hv)
 obtain ⟨cs, rfl, hl, ts', hts', _, hall⟩ := h
 rw [hts] at hts'
 cases hts'
 refine ⟨cs.toList, rfl, by rw [Array.length_toList, hl, hc], fun i u hu => ?_⟩
 have hi : i < ts.length := by
  rcases Nat.lt_or_ge i ts.length with g | g
  ·exact g
  ·rw [List.getElem?_eq_none g] at hu; cases hu
 obtain ⟨x, hx⟩ : ∃ x, cs[i]? = some x := ⟨_, Array.getElem?_eq_getElem (by omega)⟩
 obtain ⟨u', hu', hok⟩ := hall i x hx
 rw [Nat.mod_eq_of_lt hi, hu] at hu'
 cases hu'
 exact ⟨x, by rw [Array.getElem?_toList]; exact hx, hok⟩
theorem cell_int {P : Program} {w : World} {r : Reach} {b0 : Nat} {u : TypeId} {k : IntKind} {x : Value} (hu : P.underlying u = some (.int k)) (h : Cell.okWide P w r b0 u x) : ∃ n, x = .int k n ∧ k.has n := by
 unfold Cell.okWide at h
 rw [hu] at h
 unfold Cell.ok at h
 rw [hu] at h
 cases x <;> simp at h
 exact ⟨_, by rw [h.1], h.2⟩
structure T3 where
 a : Int
 b : Int
 c : Int
end Go.Lift.E14

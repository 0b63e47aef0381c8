/- TableNone: its argument opened; a world for the witness. -/
import Derived.Test.YtgdiihffjogdiaaGreatDoorT19b
import Derived.Test.YtgdiihffjogdiaaGreatDoorLvR
import Derived.Test.YtgdiihffjogdiaaGreatDoorLvP
import Derived.Test.YtgdiihffjogdiaaGreatDoorCards
import Derived.Test.YtgdiihffjogdiaaGreatDoorTie
import Derived.Deep.DeepHandedRow
import Derived.Lib.LaidTab
import Derived.Shelf.Vars
set_option linter.unusedSimpArgs false
set_option linter.unusedVariables false
namespace Go.Lift
open Go Go.Proofs Go.RowKit Go.ChangeShapes
set_option maxRecDepth 100000
theorem agg_of {P : Program} {w : World} {r : Reach} {b0 : Nat} {t : TypeId} {v : Value} {ts : List TypeId} (hs : (∃ fs, P.underlying t = some (.struct fs)) ∨ ∃ n e, P.underlying t = some (.array n e)) (hts : P.cellTypes P.depth t = some ts) (hc : P.cellsOf t = ts.length) (hv : Value.okWide P w r b0 t v) :
    ∃ cs : List Value, v = .agg cs.toArray ∧ cs.length = ts.length ∧ ∀ (i : Nat) (u : TypeId), ts[i]? = some u → ∃ x, cs[i]? = some x ∧ Cell.okWide P w r b0 u x := by
  have h : ∃ cs, v = .agg cs ∧ cs.size = P.cellsOf t ∧ Row.okWide P w r b0 t cs := by
    unfold Value.okWide at hv
    rcases hs with ⟨fs, h⟩ | ⟨n, e, h⟩ <;> (rw [h] at hv; exact hv)
  obtain ⟨cs, rfl, hl, ts', hts', _, hall⟩ := h
  rw [hts] at hts'
  cases hts'
  refine ⟨cs.toList, rfl, by rw [Array.length_toList, hl, hc], fun i u hu => ?_⟩
  have hi : i < ts.length := by
    rcases Nat.lt_or_ge i ts.length with g | g
    · exact g
    · rw [List.getElem?_eq_none g] at hu; cases hu
  obtain ⟨x, hx⟩ : ∃ x, cs[i]? = some x := ⟨_, Array.getElem?_eq_getElem (by omega)⟩
  obtain ⟨u', hu', hok⟩ := hall i x hx
  rw [Nat.mod_eq_of_lt hi, hu] at hu'
  cases hu'
  exact ⟨x, by rw [Array.getElem?_toList]; exact hx, hok⟩
section
variable {H : Type} {enc : TypeId × Value → H} {w : World} {base : Nat} {spare : Nat → Bool} {held : Bool}
theorem c19i : Tryz.prog.cellsOf 3 = 1 := by kernel_rfl
theorem c19l : Tryz.prog.cellsOf 2 = 1 := by kernel_rfl
theorem c19b : Tryz.prog.cellsOf 4 = 1 := by kernel_rfl
theorem c19s : Tryz.prog.cellsOf 9 = 1 := by kernel_rfl
theorem c19f : Tryz.prog.cellsOf 23 = 1 := by kernel_rfl
theorem c19v : Tryz.prog.cellsOf 25 = 4 := by kernel_rfl
theorem c19x : Tryz.prog.cellsOf 43 = 4 := by kernel_rfl
theorem c19t : Tryz.prog.cellsOf 46 = 5 := by kernel_rfl
theorem c19r : Tryz.prog.cellsOf 44 = 1 := by kernel_rfl
theorem c19c : Tryz.prog.cellsOf 36 = 1 := by kernel_rfl
theorem elem_va {cs : List Value} {n : Nat} {y : DataW H × List MemPlace} (hl : cs.length = 4) (h : DataW.trod enc Tryz.prog w base spare held n 25 cs = some y) : ∃ v : Va, cs = encVa v ∧ True := by
  obtain ⟨a, b, c, d, rfl⟩ := list4 hl
  obtain ⟨m, hm⟩ := elem_fld Tryz.underlying25 h
  obtain ⟨_, h0⟩ := hm 0 3 0 rfl
  obtain ⟨_, h1⟩ := hm 1 2 1 rfl
  obtain ⟨_, h2⟩ := hm 2 23 2 rfl
  obtain ⟨_, h3⟩ := hm 3 9 3 rfl
  simp only [c19i] at h0
  simp only [c19l] at h1
  simp only [c19f] at h2
  simp only [c19s] at h3
  obtain ⟨x0, e0, _⟩ := elem_int Tryz.underlying3 h0
  obtain ⟨x1, e1, _⟩ := elem_int Tryz.underlying2 h1
  obtain ⟨x2, e2, _⟩ := elem_flt Tryz.underlying23 h2
  obtain ⟨x3, e3, _⟩ := elem_str Tryz.underlying9 h3
  simp at e0 e1 e2 e3
  subst e0 e1 e2 e3
  exact ⟨⟨x0, x1, x2, x3⟩, rfl, trivial⟩
theorem elem_co {cs : List Value} {n : Nat} {y : DataW H × List MemPlace} (hl : cs.length = 7) (h : DataW.trod enc Tryz.prog w base spare held n 34 cs = some y) : ∃ c : Co, cs = encCo c ∧ True := by
  obtain ⟨m, hm⟩ := elem_fld Tryz.underlying34 h
  obtain ⟨_, h0⟩ := hm 0 9 0 rfl
  obtain ⟨_, h1⟩ := hm 1 3 1 rfl
  obtain ⟨_, h2⟩ := hm 2 4 2 rfl
  obtain ⟨_, h3⟩ := hm 3 25 3 rfl
  simp only [c19s] at h0
  simp only [c19i] at h1
  simp only [c19b] at h2
  simp only [c19v] at h3
  obtain ⟨x0, e0, _⟩ := elem_str Tryz.underlying9 h0
  obtain ⟨x1, e1, _⟩ := elem_int Tryz.underlying3 h1
  obtain ⟨x2, e2⟩ := elem_bool Tryz.underlying4 h2
  obtain ⟨v, e3, _⟩ := elem_va (by simp [hl]) h3
  refine ⟨⟨x0, x1, x2, v⟩, ?_, trivial⟩
  match cs, hl with
  | [a, b, c, d, e, f, g], _ =>
    simp [encVa] at e0 e1 e2 e3
    obtain ⟨e3, e4, e5, e6⟩ := e3
    subst e0 e1 e2 e3 e4 e5 e6
    rfl
theorem elem_st {cs : List Value} {n : Nat} {y : DataW H × List MemPlace} (hl : cs.length = 24) (h : DataW.trod enc Tryz.prog w base spare held n 48 cs = some y) :
    ∃ (x : StT) (rs : List Va) (cl : List Co), cs = (stCells x).toList ∧ Reads 4 encVa w.heap x.row rs ∧ Reads 7 encCo w.heap x.cols cl := by
  obtain ⟨m, hm⟩ := elem_fld Tryz.underlying48 h
  obtain ⟨_, h0⟩ := hm 0 3 0 rfl
  obtain ⟨_, h1⟩ := hm 1 3 1 rfl
  obtain ⟨_, h2⟩ := hm 2 3 2 rfl
  obtain ⟨_, h3⟩ := hm 3 3 3 rfl
  obtain ⟨_, h4⟩ := hm 4 43 4 rfl
  obtain ⟨_, h5⟩ := hm 5 25 8 rfl
  obtain ⟨_, h6⟩ := hm 6 25 12 rfl
  obtain ⟨_, h7⟩ := hm 7 44 16 rfl
  obtain ⟨_, h8⟩ := hm 8 36 17 rfl
  obtain ⟨_, h9⟩ := hm 9 46 18 rfl
  obtain ⟨_, h10⟩ := hm 10 4 23 rfl
  simp only [c19i] at h0 h1 h2 h3
  simp only [c19x] at h4
  simp only [c19v] at h5 h6
  simp only [c19r] at h7
  simp only [c19c] at h8
  simp only [c19t] at h9
  simp only [c19b] at h10
  obtain ⟨x0, e0, _⟩ := elem_int Tryz.underlying3 h0
  obtain ⟨x1, e1, _⟩ := elem_int Tryz.underlying3 h1
  obtain ⟨x2, e2, _⟩ := elem_int Tryz.underlying3 h2
  obtain ⟨x3, e3, _⟩ := elem_int Tryz.underlying3 h3
  obtain ⟨m4, hm4⟩ := elem_fld Tryz.underlying43 h4
  obtain ⟨_, g0⟩ := hm4 0 9 0 rfl
  obtain ⟨_, g1⟩ := hm4 1 9 1 rfl
  obtain ⟨_, g2⟩ := hm4 2 4 2 rfl
  obtain ⟨_, g3⟩ := hm4 3 3 3 rfl
  simp only [c19s] at g0 g1
  simp only [c19b] at g2
  simp only [c19i] at g3
  obtain ⟨y0, f0, _⟩ := elem_str Tryz.underlying9 g0
  obtain ⟨y1, f1, _⟩ := elem_str Tryz.underlying9 g1
  obtain ⟨y2, f2⟩ := elem_bool Tryz.underlying4 g2
  obtain ⟨y3, f3, _⟩ := elem_int Tryz.underlying3 g3
  obtain ⟨v, e5, _⟩ := elem_va (by simp [hl]) h5
  obtain ⟨w', e6, _⟩ := elem_va (by simp [hl]) h6
  obtain ⟨sr, rs, e7, hr, _, _, _⟩ := open_list Tryz.underlying44 (sz := 4) (by kernel_rfl) (by decide) (en := encVa) (fun _ => rfl) (G := fun _ => True) (fun cs n y hl h => elem_va hl h) h7
  obtain ⟨sc, cl, e8, hc, _, _, _⟩ := open_list Tryz.underlying36 (sz := 7) (by kernel_rfl) (by decide) (en := encCo) (fun _ => rfl) (G := fun _ => True) (fun cs n y hl h => elem_co hl h) h8
  obtain ⟨m9, hm9⟩ := elem_fld Tryz.underlying46 h9
  obtain ⟨_, k0⟩ := hm9 0 3 0 rfl
  obtain ⟨_, k1⟩ := hm9 1 9 1 rfl
  obtain ⟨_, k2⟩ := hm9 2 3 2 rfl
  obtain ⟨_, k3⟩ := hm9 3 9 3 rfl
  obtain ⟨_, k4⟩ := hm9 4 3 4 rfl
  simp only [c19i] at k0 k2 k4
  simp only [c19s] at k1 k3
  obtain ⟨z0, l0, _⟩ := elem_int Tryz.underlying3 k0
  obtain ⟨z1, l1, _⟩ := elem_str Tryz.underlying9 k1
  obtain ⟨z2, l2, _⟩ := elem_int Tryz.underlying3 k2
  obtain ⟨z3, l3, _⟩ := elem_str Tryz.underlying9 k3
  obtain ⟨z4, l4, _⟩ := elem_int Tryz.underlying3 k4
  obtain ⟨z5, l5⟩ := elem_bool Tryz.underlying4 h10
  refine ⟨⟨x0, x1, x2, x3, y0, y1, y2, y3, v, w', sr, sc, z0, z1, z2, z3, z4, z5⟩, rs, cl, ?_, hr, hc⟩
  match cs, hl with
  | [a0, a1, a2, a3, a4, a5, a6, a7, a8, a9, a10, a11, a12, a13, a14, a15, a16, a17, a18, a19, a20, a21, a22, a23], _ =>
    simp [encVa] at e0 e1 e2 e3 f0 f1 f2 f3 e5 e6 e7 e8 l0 l1 l2 l3 l4 l5
    obtain ⟨p0, p1, p2, p3⟩ := e5
    obtain ⟨q0, q1, q2, q3⟩ := e6
    subst e0 e1 e2 e3 f0 f1 f2 f3 e7 e8 l0 l1 l2 l3 l4 l5 p0 p1 p2 p3 q0 q1 q2 q3
    rfl
theorem open_st {r : Reach} {b0 : Nat} {v : Value} {d : DataW H} {ps : List MemPlace} (hv : Value.okWide Tryz.prog w r b0 48 v) (hd : DataW.Trod enc Tryz.prog w base spare held 48 v d ps) :
    ∃ (x : StT) (rs : List Va) (cl : List Co), v = .agg (stCells x) ∧ Reads 4 encVa w.heap x.row rs ∧ Reads 7 encCo w.heap x.cols cl := by
  obtain ⟨cs, rfl, hl, _⟩ := agg_of (ts := [3, 3, 3, 3, 9, 9, 4, 3, 3, 2, 23, 9, 3, 2, 23, 9, 44, 36, 3, 9, 3, 9, 3, 4]) (Or.inl ⟨_, Tryz.underlying48⟩) (by kernel_rfl) (by kernel_rfl) hv
  obtain ⟨fuel, hf⟩ := hd
  obtain ⟨x, rs, cl, rfl, h1, h2⟩ := elem_st (by simpa using hl) (by simpa [Value.cells] using hf)
  exact ⟨x, rs, cl, by simp, h1, h2⟩
end
end Go.Lift
namespace Go.Proofs.YtgdiihffjogdiaaGreatDoor
open Go Go.Lift Go.ChangeShapes Go.WideShapes Go.ChangeAt Go.RowKit
theorem own : ownKnob Tryz.prog.godebug = none := by kernel_rfl
theorem laidOut : laidOutB Tryz.prog = true := by kernel_rfl
/-- What the two tables hold. -/
noncomputable def lay2 : Obj → Obj
  | .cells _ t frozen => .cells #[.int .u8 128, .int .u8 191, .int .u8 160, .int .u8 191, .int .u8 128, .int .u8 159, .int .u8 144, .int .u8 191, .int .u8 128, .int .u8 143, .int .u8 0, .int .u8 0, .int .u8 0, .int .u8 0, .int .u8 0, .int .u8 0, .int .u8 0, .int .u8 0, .int .u8 0, .int .u8 0, .int .u8 0, .int .u8 0, .int .u8 0, .int .u8 0, .int .u8 0, .int .u8 0, .int .u8 0, .int .u8 0, .int .u8 0, .int .u8 0, .int .u8 0, .int .u8 0] t frozen
  | o => o
noncomputable def lay3 : Obj → Obj
  | .cells _ t frozen => .cells (Go.Pinned.utf8FirstZ.map fun (n : Nat) => Value.int .u8 (n : Int)).toArray t frozen
  | o => o
/-- A world for the witness: the settled one, the two tables holding what their initialisers lay. -/
noncomputable def laidWorld (os : Os) : World :=
  { World.holding Tryz.prog os ⟨#[], #[], []⟩ with heap := ((World.holding Tryz.prog os ⟨#[], #[], []⟩).heap.modify 2 lay3).modify 3 lay2 }
end Go.Proofs.YtgdiihffjogdiaaGreatDoor

/- the arguments opened; a world for the witness (printed by smz.py). -/
import Derived.Test.YtgmbhlfecbpclacGreatDoorD22b
import Derived.Test.YtgmbhlfecbpclacGreatDoorLvR
import Derived.Test.YtgmbhlfecbpclacGreatDoorLvP
import Derived.Test.YtgmbhlfecbpclacGreatDoorCards
import Derived.Test.YtgmbhlfecbpclacGreatDoorTie
import Derived.Deep.DeepHandedRow
import Derived.Lib.LaidTab
import Derived.Shelf.Vars
set_option linter.unusedSimpArgs false
set_option linter.unusedVariables false
namespace Go.Lift
open Go Go.Proofs Go.RowKit Go.ChangeShapes
set_option maxRecDepth 100000
theorem agg_of {P : Program} {w : World} {r : Reach} {b0 : Nat} {t : TypeId} {v : Value} {ts : List TypeId} (hs : (∃ fs, P.underlying t = some (.struct fs)) ∨ ∃ n e, P.underlying t = some (.array n e)) (hts : P.cellTypes P.depth t = some ts) (hc : P.cellsOf t = ts.length) (hv : Value.okWide P w r b0 t v) :
    ∃ cs : List Value, v = .agg cs.toArray ∧ cs.length = ts.length ∧ ∀ (i : Nat) (u : TypeId), ts[i]? = some u → ∃ x, cs[i]? = some x ∧ Cell.okWide P w r b0 u x := by
  have h : ∃ cs, v = .agg cs ∧ cs.size = P.cellsOf t ∧ Row.okWide P w r b0 t cs := by
    unfold Value.okWide at hv
    rcases hs with ⟨fs, h⟩ | ⟨n, e, h⟩ <;> (rw [h] at hv; exact hv)
  obtain ⟨cs, rfl, hl, ts', hts', _, hall⟩ := h
  rw [hts] at hts'
  cases hts'
  refine ⟨cs.toList, rfl, by rw [Array.length_toList, hl, hc], fun i u hu => ?_⟩
  have hi : i < ts.length := by
    rcases Nat.lt_or_ge i ts.length with g | g
    · exact g
    · rw [List.getElem?_eq_none g] at hu; cases hu
  obtain ⟨x, hx⟩ : ∃ x, cs[i]? = some x := ⟨_, Array.getElem?_eq_getElem (by omega)⟩
  obtain ⟨u', hu', hok⟩ := hall i x hx
  rw [Nat.mod_eq_of_lt hi, hu] at hu'
  cases hu'
  exact ⟨x, by rw [Array.getElem?_toList]; exact hx, hok⟩
theorem cell_str {P : Program} {w : World} {r : Reach} {b0 : Nat} {u : TypeId} {x : Value} (hu : P.underlying u = some .string) (h : Cell.okWide P w r b0 u x) : ∃ s, x = .string s := by
  unfold Cell.okWide at h
  rw [hu] at h
  unfold Cell.ok at h
  rw [hu] at h
  cases x <;> simp at h
  exact ⟨_, rfl⟩
section
variable {H : Type} {enc : TypeId × Value → H} {w : World} {base : Nat} {spare : Nat → Bool} {held : Bool}
theorem c19i : Tryz.prog.cellsOf 3 = 1 := by kernel_rfl
theorem c19l : Tryz.prog.cellsOf 2 = 1 := by kernel_rfl
theorem c19b : Tryz.prog.cellsOf 4 = 1 := by kernel_rfl
theorem c19s : Tryz.prog.cellsOf 9 = 1 := by kernel_rfl
theorem c19f : Tryz.prog.cellsOf 22 = 1 := by kernel_rfl
theorem c19v : Tryz.prog.cellsOf 24 = 4 := by kernel_rfl
theorem c19r : Tryz.prog.cellsOf 25 = 1 := by kernel_rfl
theorem c19c : Tryz.prog.cellsOf 26 = 1 := by kernel_rfl
theorem elem_va {cs : List Value} {n : Nat} {y : DataW H × List MemPlace} (hl : cs.length = 4) (h : DataW.trod enc Tryz.prog w base spare held n 24 cs = some y) : ∃ v : Va, cs = encVa v ∧ True := by
  obtain ⟨a, b, c, d, rfl⟩ := list4 hl
  obtain ⟨m, hm⟩ := elem_fld Tryz.underlying24 h
  obtain ⟨_, h0⟩ := hm 0 3 0 rfl
  obtain ⟨_, h1⟩ := hm 1 2 1 rfl
  obtain ⟨_, h2⟩ := hm 2 22 2 rfl
  obtain ⟨_, h3⟩ := hm 3 9 3 rfl
  simp only [c19i] at h0
  simp only [c19l] at h1
  simp only [c19f] at h2
  simp only [c19s] at h3
  obtain ⟨x0, e0, _⟩ := elem_int Tryz.underlying3 h0
  obtain ⟨x1, e1, _⟩ := elem_int Tryz.underlying2 h1
  obtain ⟨x2, e2, _⟩ := elem_flt Tryz.underlying22 h2
  obtain ⟨x3, e3, _⟩ := elem_str Tryz.underlying9 h3
  simp at e0 e1 e2 e3
  subst e0 e1 e2 e3
  exact ⟨⟨x0, x1, x2, x3⟩, rfl, trivial⟩
theorem elem_co {cs : List Value} {n : Nat} {y : DataW H × List MemPlace} (hl : cs.length = 7) (h : DataW.trod enc Tryz.prog w base spare held n 84 cs = some y) : ∃ c : Co, cs = encCo c ∧ True := by
  obtain ⟨m, hm⟩ := elem_fld Tryz.underlying84 h
  obtain ⟨_, h0⟩ := hm 0 9 0 rfl
  obtain ⟨_, h1⟩ := hm 1 3 1 rfl
  obtain ⟨_, h2⟩ := hm 2 4 2 rfl
  obtain ⟨_, h3⟩ := hm 3 24 3 rfl
  simp only [c19s] at h0
  simp only [c19i] at h1
  simp only [c19b] at h2
  simp only [c19v] at h3
  obtain ⟨x0, e0, _⟩ := elem_str Tryz.underlying9 h0
  obtain ⟨x1, e1, _⟩ := elem_int Tryz.underlying3 h1
  obtain ⟨x2, e2⟩ := elem_bool Tryz.underlying4 h2
  obtain ⟨v, e3, _⟩ := elem_va (by simp [hl]) h3
  refine ⟨⟨x0, x1, x2, v⟩, ?_, trivial⟩
  match cs, hl with
  | [a, b, c, d, e, f, g], _ =>
    simp [encVa] at e0 e1 e2 e3
    obtain ⟨e3, e4, e5, e6⟩ := e3
    subst e0 e1 e2 e3 e4 e5 e6
    rfl
theorem elem_sm {cs : List Value} {n : Nat} {y : DataW H × List MemPlace} (hl : cs.length = 16) (h : DataW.trod enc Tryz.prog w base spare held n 28 cs = some y) :
    ∃ (x : StM) (rs : List Va) (cl : List Co), cs = (smCells x).toList ∧ Reads 4 encVa w.heap x.row rs ∧ Reads 7 encCo w.heap x.cols cl ∧ x.cols.n ≤ maxLen := by
  obtain ⟨m, hm⟩ := elem_fld Tryz.underlying28 h
  obtain ⟨_, h0⟩ := hm 0 3 0 rfl
  obtain ⟨_, h1⟩ := hm 1 9 1 rfl
  obtain ⟨_, h2⟩ := hm 2 9 2 rfl
  obtain ⟨_, h3⟩ := hm 3 9 3 rfl
  obtain ⟨_, h4⟩ := hm 4 9 4 rfl
  obtain ⟨_, h5⟩ := hm 5 24 5 rfl
  obtain ⟨_, h6⟩ := hm 6 24 9 rfl
  obtain ⟨_, h7⟩ := hm 7 25 13 rfl
  obtain ⟨_, h8⟩ := hm 8 26 14 rfl
  obtain ⟨_, h9⟩ := hm 9 4 15 rfl
  simp only [c19i] at h0
  simp only [c19s] at h1 h2 h3 h4
  simp only [c19v] at h5 h6
  simp only [c19r] at h7
  simp only [c19c] at h8
  simp only [c19b] at h9
  obtain ⟨x0, e0, _⟩ := elem_int Tryz.underlying3 h0
  obtain ⟨x1, e1, _⟩ := elem_str Tryz.underlying9 h1
  obtain ⟨x2, e2, _⟩ := elem_str Tryz.underlying9 h2
  obtain ⟨x3, e3, _⟩ := elem_str Tryz.underlying9 h3
  obtain ⟨x4, e4, _⟩ := elem_str Tryz.underlying9 h4
  obtain ⟨v, e5, _⟩ := elem_va (by simp [hl]) h5
  obtain ⟨w', e6, _⟩ := elem_va (by simp [hl]) h6
  obtain ⟨sr, rs, e7, hr, _, _, _⟩ := open_list Tryz.underlying25 (sz := 4) (by kernel_rfl) (by decide) (en := encVa) (fun _ => rfl) (G := fun _ => True) (fun cs n y hl h => elem_va hl h) h7
  obtain ⟨sc, cl, e8, hc, _, hm1, hm2⟩ := open_list Tryz.underlying26 (sz := 7) (by kernel_rfl) (by decide) (en := encCo) (fun _ => rfl) (G := fun _ => True) (fun cs n y hl h => elem_co hl h) h8
  obtain ⟨x9, e9⟩ := elem_bool Tryz.underlying4 h9
  refine ⟨⟨x0, x1, x2, x3, x4, v, w', sr, sc, x9⟩, rs, cl, ?_, hr, hc, Nat.le_trans hm1 hm2⟩
  match cs, hl with
  | [a0, a1, a2, a3, a4, a5, a6, a7, a8, a9, a10, a11, a12, a13, a14, a15], _ =>
    simp [encVa] at e0 e1 e2 e3 e4 e5 e6 e7 e8 e9
    obtain ⟨p0, p1, p2, p3⟩ := e5
    obtain ⟨q0, q1, q2, q3⟩ := e6
    subst e0 e1 e2 e3 e4 e7 e8 e9 p0 p1 p2 p3 q0 q1 q2 q3
    rfl
theorem open_sm {r : Reach} {b0 : Nat} {v : Value} {d : DataW H} {ps : List MemPlace} (hv : Value.okWide Tryz.prog w r b0 28 v) (hd : DataW.Trod enc Tryz.prog w base spare held 28 v d ps) :
    ∃ (x : StM) (rs : List Va) (cl : List Co), v = .agg (smCells x) ∧ Reads 4 encVa w.heap x.row rs ∧ Reads 7 encCo w.heap x.cols cl ∧ x.cols.n ≤ maxLen := by
  obtain ⟨cs, rfl, hl, _⟩ := agg_of (ts := [3, 9, 9, 9, 9, 3, 2, 22, 9, 3, 2, 22, 9, 25, 26, 4]) (Or.inl ⟨_, Tryz.underlying28⟩) (by kernel_rfl) (by kernel_rfl) hv
  obtain ⟨fuel, hf⟩ := hd
  obtain ⟨x, rs, cl, rfl, h1, h2, h3⟩ := elem_sm (by simpa using hl) (by simpa [Value.cells] using hf)
  exact ⟨x, rs, cl, by simp, h1, h2, h3⟩
theorem open_S {r : Reach} {b0 : Nat} {v : Value} (hv : Value.okWide Tryz.prog w r b0 9 v) : ∃ s : ByteArray, v = .string s := by
  unfold Value.okWide at hv
  rw [Tryz.underlying9] at hv
  exact cell_str Tryz.underlying9 hv
end
end Go.Lift
namespace Go.Proofs.YtgmbhlfecbpclacGreatDoor
open Go Go.Lift Go.ChangeShapes Go.WideShapes Go.ChangeAt Go.RowKit
theorem own : ownKnob Tryz.prog.godebug = none := by kernel_rfl
theorem laidOut : laidOutB Tryz.prog = true := by kernel_rfl
/-- What the two tables hold. -/
noncomputable def lay2 : Obj → Obj
  | .cells _ t frozen => .cells #[.int .u8 128, .int .u8 191, .int .u8 160, .int .u8 191, .int .u8 128, .int .u8 159, .int .u8 144, .int .u8 191, .int .u8 128, .int .u8 143, .int .u8 0, .int .u8 0, .int .u8 0, .int .u8 0, .int .u8 0, .int .u8 0, .int .u8 0, .int .u8 0, .int .u8 0, .int .u8 0, .int .u8 0, .int .u8 0, .int .u8 0, .int .u8 0, .int .u8 0, .int .u8 0, .int .u8 0, .int .u8 0, .int .u8 0, .int .u8 0, .int .u8 0, .int .u8 0] t frozen
  | o => o
noncomputable def lay3 : Obj → Obj
  | .cells _ t frozen => .cells (Go.Pinned.utf8FirstZ.map fun (n : Nat) => Value.int .u8 (n : Int)).toArray t frozen
  | o => o
/-- A world for the witness: the settled one, the two tables holding what their initialisers lay. -/
noncomputable def laidWorld (os : Os) : World :=
  { World.holding Tryz.prog os ⟨#[], #[], []⟩ with heap := ((World.holding Tryz.prog os ⟨#[], #[], []⟩).heap.modify 2 lay3).modify 3 lay2 }
end Go.Proofs.YtgmbhlfecbpclacGreatDoor

/- Keys: what the rows share: their arguments opened; a world for the witness. -/
import Derived.Test.YtmlcjckocgnjfaaGreatDoorI11d
import Derived.Test.YtmlcjckocgnjfaaGreatDoorLvP
import Derived.Test.YtmlcjckocgnjfaaGreatDoorCards
import Derived.Test.YtmlcjckocgnjfaaGreatDoorTie
import Derived.Deep.DeepHandedRow
import Derived.Lib.LaidTab
import Derived.Shelf.Vars
set_option linter.unusedSimpArgs false
set_option linter.unusedVariables false
namespace Go.Lift
open Go Go.Proofs Go.RowKit
set_option maxRecDepth 100000
theorem agg_of {P : Program} {w : World} {r : Reach} {b0 : Nat} {t : TypeId} {v : Value} {ts : List TypeId} (hs : (∃ fs, P.underlying t = some (.struct fs)) ∨ ∃ n e, P.underlying t = some (.array n e)) (hts : P.cellTypes P.depth t = some ts) (hc : P.cellsOf t = ts.length) (hv : Value.okWide P w r b0 t v) :
    ∃ cs : List Value, v = .agg cs.toArray ∧ cs.length = ts.length ∧ ∀ (i : Nat) (u : TypeId), ts[i]? = some u → ∃ x, cs[i]? = some x ∧ Cell.okWide P w r b0 u x := by
  have h : ∃ cs, v = .agg cs ∧ cs.size = P.cellsOf t ∧ Row.okWide P w r b0 t cs := by
    unfold Value.okWide at hv
    rcases hs with ⟨fs, h⟩ | ⟨n, e, h⟩ <;> (rw [h] at hv; exact hv)
  obtain ⟨cs, rfl, hl, ts', hts', _, hall⟩ := h
  rw [hts] at hts'
  cases hts'
  refine ⟨cs.toList, rfl, by rw [Array.length_toList, hl, hc], fun i u hu => ?_⟩
  have hi : i < ts.length := by
    rcases Nat.lt_or_ge i ts.length with g | g
    · exact g
    · rw [List.getElem?_eq_none g] at hu; cases hu
  obtain ⟨x, hx⟩ : ∃ x, cs[i]? = some x := ⟨_, Array.getElem?_eq_getElem (by omega)⟩
  obtain ⟨u', hu', hok⟩ := hall i x hx
  rw [Nat.mod_eq_of_lt hi, hu] at hu'
  cases hu'
  exact ⟨x, by rw [Array.getElem?_toList]; exact hx, hok⟩
theorem cell_int {P : Program} {w : World} {r : Reach} {b0 : Nat} {u : TypeId} {k : IntKind} {x : Value} (hu : P.underlying u = some (.int k)) (h : Cell.okWide P w r b0 u x) : ∃ n, x = .int k n ∧ k.has n := by
  unfold Cell.okWide at h
  rw [hu] at h
  unfold Cell.ok at h
  rw [hu] at h
  cases x <;> simp at h
  exact ⟨_, by rw [h.1], h.2⟩
theorem cell_flt {P : Program} {w : World} {r : Reach} {b0 : Nat} {u : TypeId} {k : FloatKind} {x : Value} (hu : P.underlying u = some (.float k)) (h : Cell.okWide P w r b0 u x) : ∃ n, x = .float k n ∧ k.has n := by
  unfold Cell.okWide at h
  rw [hu] at h
  unfold Cell.ok at h
  rw [hu] at h
  cases x <;> simp at h
  exact ⟨_, by rw [h.1], h.2⟩
theorem cell_str {P : Program} {w : World} {r : Reach} {b0 : Nat} {u : TypeId} {x : Value} (hu : P.underlying u = some .string) (h : Cell.okWide P w r b0 u x) : ∃ s, x = .string s := by
  unfold Cell.okWide at h
  rw [hu] at h
  unfold Cell.ok at h
  rw [hu] at h
  cases x <;> simp at h
  exact ⟨_, rfl⟩
theorem has64 {n : Int} (h : IntKind.i64.has n) : -9223372036854775808 ≤ n ∧ n < 9223372036854775808 := by
  unfold IntKind.has at h
  have h1 : IntKind.i64.min = -9223372036854775808 := rfl
  have h2 : IntKind.i64.max = 9223372036854775807 := rfl
  omega
theorem hasF {n : Nat} (h : FloatKind.f64.has n) : n < allD := h
theorem has16 {n : Int} (h : IntKind.u16.has n) : ∃ m : Nat, n = (m : Int) ∧ m ≤ 65535 := by
  unfold IntKind.has at h
  have h1 : IntKind.u16.min = 0 := rfl
  have h2 : IntKind.u16.max = 65535 := rfl
  exact ⟨n.toNat, by omega, by omega⟩
section
variable {w : World} {r : Reach} {b0 : Nat} {v : Value}
theorem open_V (hv : Value.okWide Tryz.prog w r b0 34 v) : ∃ a : V4, v = .agg (cells4 a) ∧ VOk a := by
  obtain ⟨cs, rfl, hl, hc⟩ := agg_of (ts := [3, 2, 32, 9]) (Or.inl ⟨_, Tryz.underlying34⟩) (by kernel_rfl) (by kernel_rfl) hv
  obtain ⟨x0, x1, x2, x3, rfl⟩ := list4 hl
  obtain ⟨_, e0, o0⟩ := hc 0 3 rfl
  obtain ⟨_, e1, o1⟩ := hc 1 2 rfl
  obtain ⟨_, e2, o2⟩ := hc 2 32 rfl
  obtain ⟨_, e3, o3⟩ := hc 3 9 rfl
  cases e0; cases e1; cases e2; cases e3
  obtain ⟨k, rfl, _⟩ := cell_int Tryz.underlying3 o0
  obtain ⟨n, rfl, hn⟩ := cell_int Tryz.underlying2 o1
  obtain ⟨f, rfl, hf⟩ := cell_flt Tryz.underlying32 o2
  obtain ⟨s, rfl⟩ := cell_str Tryz.underlying9 o3
  exact ⟨⟨k, n, f, s⟩, rfl, ⟨hasF hf, has64 hn⟩⟩
theorem open_I (hv : Value.okWide Tryz.prog w r b0 3 v) : ∃ n : Int, v = .int .i64 n ∧ -9223372036854775808 ≤ n ∧ n < 9223372036854775808 := by
  unfold Value.okWide at hv
  rw [Tryz.underlying3] at hv
  obtain ⟨n, rfl, hn⟩ := cell_int Tryz.underlying3 hv
  exact ⟨n, rfl, has64 hn⟩
theorem gm_of (h : w.ShapedOpen Tryz.prog) : GM w.heap := by
  obtain ⟨m, hm⟩ := cell_of_shapedOpen_int (g := 1) (t := 3) (k := .i64) (zero := #[.int .i64 0]) h (of_decide_eq_true (by kernel_rfl)) (by kernel_rfl) rfl (by kernel_rfl) (by kernel_rfl) Tryz.underlying3
  exact ⟨m, by rw [← rd_world]; exact hm⟩
end
end Go.Lift
namespace Go.Proofs.YtmlcjckocgnjfaaGreatDoor
open Go Go.Lift Go.ChangeShapes Go.WideShapes Go.ChangeAt Go.RowKit
theorem own : ownKnob Tryz.prog.godebug = none := by kernel_rfl
theorem laidOut : laidOutB Tryz.prog = true := by kernel_rfl
/-- What the two tables hold. -/
noncomputable def lay2 : Obj → Obj
  | .cells _ t frozen => .cells #[.int .u8 128, .int .u8 191, .int .u8 160, .int .u8 191, .int .u8 128, .int .u8 159, .int .u8 144, .int .u8 191, .int .u8 128, .int .u8 143, .int .u8 0, .int .u8 0, .int .u8 0, .int .u8 0, .int .u8 0, .int .u8 0, .int .u8 0, .int .u8 0, .int .u8 0, .int .u8 0, .int .u8 0, .int .u8 0, .int .u8 0, .int .u8 0, .int .u8 0, .int .u8 0, .int .u8 0, .int .u8 0, .int .u8 0, .int .u8 0, .int .u8 0, .int .u8 0] t frozen
  | o => o
noncomputable def lay3 : Obj → Obj
  | .cells _ t frozen => .cells (Go.Pinned.utf8FirstZ.map fun (n : Nat) => Value.int .u8 (n : Int)).toArray t frozen
  | o => o
/-- A world for the witness: the settled one, the two tables holding what their initialisers lay. -/
noncomputable def laidWorld (os : Os) : World :=
  { World.holding Tryz.prog os ⟨#[], #[], []⟩ with heap := ((World.holding Tryz.prog os ⟨#[], #[], []⟩).heap.modify 2 lay3).modify 3 lay2 }
end Go.Proofs.YtmlcjckocgnjfaaGreatDoor

/- EdgeCircles: for every input the law returns true, and its arguments read as before. No condition. -/
import Derived.Test.YtfkamdkocmkkpaaLvP
import Derived.Test.YtfkamdkocmkkpaaW14z
import Derived.Test.YtfkamdkocmkkpaaW14E
import Derived.Test.YtfkamdkocmkkpaaRows
import Derived.WalkKit
import Derived.ProofKit
import Derived.OpenShut
import Derived.ChangeMaps5
set_option linter.unusedSimpArgs false
set_option linter.unusedVariables false
namespace Go.Proofs.Ytfkamdkocmkkpaa.edgeCircles
open Go Go.Lift Go.ChangeShapes Go.WideShapes Go.ChangeAt Go.RowKit
set_option linter.unusedVariables false

theorem own : ownKnob Try.prog.godebug = none := by kernel_rfl
theorem laidOut : laidOutB Try.prog = true := by kernel_rfl

set_option maxRecDepth 100000 in
theorem walk (w : World) (a0 : Sl) (x0 : List (StepE)) (w0 : Reads 4 encStE w.heap a0 x0 ∧ (∀ x ∈ x0, True) ∧ a0.n ≤ maxLen) :
    Calls Try.prog 3 #[.slice a0.a a0.n a0.c] w fun e w' => e = .returned (.bool true) ∧ Below w.heap.size w w' := by
  refine walk_of ?_
  refine calls_of_cw (hs := fun _ => []) (ann := A_liverylaw14_EdgeCircles) (args := [.slice a0.a a0.n a0.c]) mixedPP Try.func3 (c := bodyOf Try.f3) (by kernel_rfl) (by kernel_rfl) (Eq.mpr (E_liverylaw14_EdgeCircles a0 w.heap _) ?_)
  exact EdgeCircles_s w0.1 (by have := w0.1.1; have := w0.2.2; unfold maxLen at this; omega) fun h' he => ⟨rfl, he⟩

set_option maxRecDepth 100000 in
theorem lifted (os : Os) (started : os.Started) (H : Type) (enc : TypeId × Value → H) :
    ReturnsInHanded {} Try.checked os 3 .any (Rows.edgeCirclesSpec.pre6 enc Try.prog Try.f3 Rows.edgeCirclesRow.domain false) (Rows.edgeCirclesSpec.post enc Try.prog Try.f3 false true false false) := by
  refine returnsInHanded_of_change (C := Try.checked) own started (by kernel_rfl) Try.func3
    (ChangeSpec.witness6 (enc := enc) (C := Try.checked) false ⟨#[], #[.slice none 0 0], []⟩ 8 (by kernel_rfl) (by kernel_rfl) (by kernel_rfl) (by kernel_rfl)) ?_
  intro W base args ds gs before hval0 hW hcnd _
  have hval : ∀ (j : Nat) t v, Try.f3.params[j]? = some t → args[j]? = some v → Value.okWide Try.prog W .any base t v := hval0
  have hW' := hW
  obtain ⟨p, q, hA0, hV, rfl, hfz, hnd⟩ := hW
  have hA : DataW.TrodAll enc Try.prog W 0 (fun _ => true) true Try.f3.params.toList args.toList ds p := hA0
  rw [Try.params3] at hA hval
  obtain ⟨v0, vs0, d0, ds0, p0, q0, hargs, rfl, rfl, h0, r0⟩ := trodAll_cons hA
  obtain ⟨rfl, rfl, rfl⟩ := trodAll_nil r0
  obtain rfl : args = #[v0] := by cases args; simp_all
  obtain ⟨rfl, rfl⟩ := trodVars_none hV
  obtain ⟨a0, x0, rfl, w0⟩ := open_args Try.underlying22 (by kernel_rfl) (by decide) encStE_len (fun cs n y hl h => elem_stepE hl h) (hval 0 22 v0 rfl rfl) h0
  clear hA0 hval0
  refine (walk W a0 x0 w0).mono fun e W' ⟨he, hg⟩ => ?_
  subst he
  exact ⟨_, rfl, law_post (tb := 4) laidOut (by kernel_rfl) (by kernel_rfl) (by kernel_rfl) hW' rfl rfl rfl rfl hg⟩

theorem over : Rows.edgeCirclesRow.holds Try.pinned (OpenSpec.ofChange Rows.edgeCirclesSpec) :=
  OpenClaim.holds_of_wide 3 Try.f3 rfl rfl rfl rfl rfl rfl rfl ⟨rfl, rfl, rfl, rfl, rfl⟩ rfl rfl rfl rfl rfl (by kernel_rfl) Try.func3 (by kernel_rfl)
    (of_decide_eq_true (by kernel_rfl)) (by unfold Func.isWrapper; first | (rw [if_pos (by decide +kernel)]; kernel_rfl) | (rw [if_neg (by decide +kernel)]; exact ⟨rfl, rfl⟩))
    (fun os started H enc _ => lifted os started H enc)

theorem proved : Rows.EdgeCirclesSaid :=
  over
#print axioms proved
end Go.Proofs.Ytfkamdkocmkkpaa.edgeCircles

/- LeafCovers: for every input the law returns true, and its arguments read as before. No condition. -/
import Derived.Test.YtempffmkbpglfaaLvP
import Derived.Test.YtempffmkbpglfaaL10y
import Derived.Test.YtempffmkbpglfaaL10z
import Derived.Test.YtempffmkbpglfaaRows
import Derived.WalkKit
import Derived.ProofKit
import Derived.OpenShut
import Derived.ChangeMaps5
set_option linter.unusedSimpArgs false
set_option linter.unusedVariables false
namespace Go.Proofs.Ytempffmkbpglfaa.leafCovers
open Go Go.Lift Go.ChangeShapes Go.WideShapes Go.ChangeAt Go.RowKit
set_option linter.unusedVariables false

theorem own : ownKnob Try.prog.godebug = none := by kernel_rfl
theorem laidOut : laidOutB Try.prog = true := by kernel_rfl

set_option maxRecDepth 100000 in
theorem walk (w : World) (a0 : Sl) (x0 : List (StepL)) (w0 : Reads 3 encT w.heap a0 x0 ∧ (∀ x ∈ x0, True) ∧ a0.n ≤ maxLen) (a1 : Sl) (x1 : List (StepL)) (w1 : Reads 3 encT w.heap a1 x1 ∧ (∀ x ∈ x1, True) ∧ a1.n ≤ maxLen) (a2 : StepL) :
    Calls Try.prog 4 #[.slice a0.a a0.n a0.c, .slice a1.a a1.n a1.c, .agg #[.int .i64 a2.kind, .string a2.key, .string a2.to]] w fun e w' => e = .returned (.bool true) ∧ Below w.heap.size w w' := by
  refine walk_of ?_
  refine calls_of_cw (hs := fun _ => []) (ann := A_liverylaw10_LeafCovers) (args := [.slice a0.a a0.n a0.c, .slice a1.a a1.n a1.c, .agg #[.int .i64 a2.kind, .string a2.key, .string a2.to]]) mixedPP Try.func4 (c := bodyOf Try.f4) (by kernel_rfl) (by kernel_rfl) (Eq.mpr (E_liverylaw10_LeafCovers a0 a1 a2.kind a2.key a2.to w.heap _) ?_)
  exact LeafCovers_s w0.1 w1.1 (by have := w0.1.1; have := w0.2.2; unfold maxLen at this; omega) (by have := w1.1.1; have := w1.2.2; unfold maxLen at this; omega) fun h' he => ⟨rfl, he⟩

set_option maxRecDepth 100000 in
theorem lifted (os : Os) (started : os.Started) (H : Type) (enc : TypeId × Value → H) :
    ReturnsInHanded {} Try.checked os 4 .any (Rows.leafCoversSpec.pre6 enc Try.prog Try.f4 Rows.leafCoversRow.domain false) (Rows.leafCoversSpec.post enc Try.prog Try.f4 false true false false) := by
  refine returnsInHanded_of_change (C := Try.checked) own started (by kernel_rfl) Try.func4
    (ChangeSpec.witness6 (enc := enc) (C := Try.checked) false ⟨#[], #[.slice none 0 0, .slice none 0 0, .agg #[.int .i64 0, .string (ByteArray.mk #[]), .string (ByteArray.mk #[])]], []⟩ 8 (by kernel_rfl) (by kernel_rfl) (by kernel_rfl) (by kernel_rfl)) ?_
  intro W base args ds gs before hval0 hW hcnd _
  have hval : ∀ (j : Nat) t v, Try.f4.params[j]? = some t → args[j]? = some v → Value.okWide Try.prog W .any base t v := hval0
  have hW' := hW
  obtain ⟨p, q, hA0, hV, rfl, hfz, hnd⟩ := hW
  have hA : DataW.TrodAll enc Try.prog W 0 (fun _ => true) true Try.f4.params.toList args.toList ds p := hA0
  rw [Try.params4] at hA hval
  obtain ⟨v0, vs0, d0, ds0, p0, q0, hargs, rfl, rfl, h0, r0⟩ := trodAll_cons hA
  obtain ⟨v1, vs1, d1, ds1, p1, q1, rfl, rfl, rfl, h1, r1⟩ := trodAll_cons r0
  obtain ⟨v2, vs2, d2, ds2, p2, q2, rfl, rfl, rfl, h2, r2⟩ := trodAll_cons r1
  obtain ⟨rfl, rfl, rfl⟩ := trodAll_nil r2
  obtain rfl : args = #[v0, v1, v2] := by cases args; simp_all
  obtain ⟨rfl, rfl⟩ := trodVars_none hV
  obtain ⟨a0, x0, rfl, w0⟩ := open_args Try.underlying38 (by kernel_rfl) (by decide) encT_len (fun cs n y hl h => elem_stepL hl h) (hval 0 38 v0 rfl rfl) h0
  obtain ⟨a1, x1, rfl, w1⟩ := open_args Try.underlying38 (by kernel_rfl) (by decide) encT_len (fun cs n y hl h => elem_stepL hl h) (hval 1 38 v1 rfl rfl) h1
  obtain ⟨a2, rfl⟩ := open_stepV (hval 2 40 v2 rfl rfl) h2
  clear hA0 hval0
  refine (walk W a0 x0 w0 a1 x1 w1 a2).mono fun e W' ⟨he, hg⟩ => ?_
  subst he
  exact ⟨_, rfl, law_post (tb := 4) laidOut (by kernel_rfl) (by kernel_rfl) (by kernel_rfl) hW' rfl rfl rfl rfl hg⟩

theorem over : Rows.leafCoversRow.holds Try.pinned (OpenSpec.ofChange Rows.leafCoversSpec) :=
  OpenClaim.holds_of_wide 4 Try.f4 rfl rfl rfl rfl rfl rfl rfl ⟨rfl, rfl, rfl, rfl, rfl⟩ rfl rfl rfl rfl rfl (by kernel_rfl) Try.func4 (by kernel_rfl)
    (of_decide_eq_true (by kernel_rfl)) (by unfold Func.isWrapper; first | (rw [if_pos (by decide +kernel)]; kernel_rfl) | (rw [if_neg (by decide +kernel)]; exact ⟨rfl, rfl⟩))
    (fun os started H enc _ => lifted os started H enc)

theorem proved : Rows.LeafCoversSaid :=
  over
#print axioms proved
end Go.Proofs.Ytempffmkbpglfaa.leafCovers

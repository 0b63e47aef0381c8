/- SsiSafe: for every input the law returns true, and its arguments read as before. No condition. -/
import Derived.Test.YtdgkfjbmlfmimaaGreatLvP
import Derived.Test.YtdgkfjbmlfmimaaGreatS15z
import Derived.Test.YtdgkfjbmlfmimaaGreatS15k
import Derived.Test.YtdgkfjbmlfmimaaGreatS15l
import Derived.Test.YtdgkfjbmlfmimaaGreatRows
import Derived.WalkKit
import Derived.ProofKit
import Derived.OpenShut
import Derived.ChangeMaps5
set_option linter.unusedSimpArgs false
set_option linter.unusedVariables false
namespace Go.Proofs.YtdgkfjbmlfmimaaGreat.ssiSafe
open Go Go.Lift Go.ChangeShapes Go.WideShapes Go.ChangeAt Go.RowKit
set_option linter.unusedVariables false

theorem own : ownKnob Tryz.prog.godebug = none := by kernel_rfl
theorem laidOut : laidOutB Tryz.prog = true := by kernel_rfl

set_option maxRecDepth 100000 in
theorem walk (w : World) (a0 : Sl) (x0 : List (Go.Lift.E14.StepZ)) (w0 : Reads 9 Go.Lift.E14.encZ w.heap a0 x0 ∧ (∀ x ∈ x0, (-9223372036854775808 ≤ x.xid ∧ x.xid < 9223372036854775808) ∧ (-9223372036854775808 ≤ x.other ∧ x.other < 9223372036854775808)) ∧ a0.n ≤ maxLen) (a1 : Int) (w1 : (Lit.int .u8 a1).wf = true) :
    Calls Tryz.prog 6 #[.slice a0.a a0.n a0.c, .int .u8 a1] w fun e w' => e = .returned (.bool true) ∧ Below w.heap.size w w' := by
  refine walk_of ?_
  refine calls_of_cw (hs := fun _ => []) (ann := A_liverylaw15_SsiSafe) (args := [.slice a0.a a0.n a0.c, .int .u8 a1]) mixedPP Tryz.func6 (c := bodyOf Tryz.f6) (by kernel_rfl) (by kernel_rfl) (Eq.mpr (E_liverylaw15_SsiSafe a0 a1 w.heap _) ?_)
  exact Go.Lift.E14.SsiSafe_s w0.1 (by have h1 := w0.1.1; have h2 := w0.2.2; (have h3 : maxLen ≤ 9223372036854775807 := by decide); omega) (by have := wf_u8 w1; omega) fun h' he => ⟨rfl, he⟩

set_option maxRecDepth 100000 in
theorem lifted (os : Os) (started : os.Started) (H : Type) (enc : TypeId × Value → H) :
    ReturnsInHanded {} Tryz.checked os 6 .any (Rows.ssiSafeSpec.pre6 enc Tryz.prog Tryz.f6 Rows.ssiSafeRow.domain false) (Rows.ssiSafeSpec.post enc Tryz.prog Tryz.f6 false true false false) := by
  refine returnsInHanded_of_change (C := Tryz.checked) own started (by kernel_rfl) Tryz.func6
    (ChangeSpec.witness6 (enc := enc) (C := Tryz.checked) false ⟨#[], #[.slice none 0 0, .int .u8 0], []⟩ 8 (by kernel_rfl) (by kernel_rfl) (by kernel_rfl) (by kernel_rfl)) ?_
  intro W base args ds gs before hval0 hW hcnd _
  have hval : ∀ (j : Nat) t v, Tryz.f6.params[j]? = some t → args[j]? = some v → Value.okWide Tryz.prog W .any base t v := hval0
  have hW' := hW
  obtain ⟨p, q, hA0, hV, rfl, hfz, hnd⟩ := hW
  have hA : DataW.TrodAll enc Tryz.prog W 0 (fun _ => true) true Tryz.f6.params.toList args.toList ds p := hA0
  rw [Tryz.params6] at hA hval
  obtain ⟨v0, vs0, d0, ds0, p0, q0, hargs, rfl, rfl, h0, r0⟩ := trodAll_cons hA
  obtain ⟨v1, vs1, d1, ds1, p1, q1, rfl, rfl, rfl, h1, r1⟩ := trodAll_cons r0
  obtain ⟨rfl, rfl, rfl⟩ := trodAll_nil r1
  obtain rfl : args = #[v0, v1] := by cases args; simp_all
  obtain ⟨rfl, rfl⟩ := trodVars_none hV
  obtain ⟨a0, x0, rfl, w0⟩ := open_args Tryz.underlying38 (by kernel_rfl) (by decide) Go.Lift.E14.encZ_len (fun cs n y hl h => Go.Lift.E14.elem_stepZ hl h) (hval 0 38 v0 rfl rfl) h0
  obtain ⟨a1, rfl, rfl, rfl, w1⟩ := open_int Tryz.underlying5 (hval 1 5 v1 rfl rfl) h1
  clear hA0 hval0
  refine (walk W a0 x0 w0 a1 w1).mono fun e W' ⟨he, hg⟩ => ?_
  subst he
  exact ⟨_, rfl, law_post (tb := 4) laidOut (by kernel_rfl) (by kernel_rfl) (by kernel_rfl) hW' rfl rfl rfl rfl hg⟩

theorem over : Rows.ssiSafeRow.holds Tryz.pinned (OpenSpec.ofChange Rows.ssiSafeSpec) :=
  OpenClaim.holds_of_wide 6 Tryz.f6 rfl rfl rfl rfl rfl rfl rfl ⟨rfl, rfl, rfl, rfl, rfl⟩ rfl rfl rfl rfl rfl (by kernel_rfl) Tryz.func6 (by kernel_rfl)
    (of_decide_eq_true (by kernel_rfl)) (by unfold Func.isWrapper; first | (rw [if_pos (by decide +kernel)]; kernel_rfl) | (rw [if_neg (by decide +kernel)]; exact ⟨rfl, rfl⟩))
    (fun os started H enc _ => lifted os started H enc)

theorem proved : Rows.SsiSafeSaid :=
  over
#print axioms proved
end Go.Proofs.YtdgkfjbmlfmimaaGreat.ssiSafe

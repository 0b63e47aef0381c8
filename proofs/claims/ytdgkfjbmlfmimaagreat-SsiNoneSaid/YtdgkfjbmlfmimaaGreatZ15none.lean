/- SsiNone: for every input the law returns true, and its arguments read as before. No condition. -/
import Derived.Test.YtdgkfjbmlfmimaaGreatLvP
import Derived.Test.YtdgkfjbmlfmimaaGreatS15z
import Derived.Test.YtdgkfjbmlfmimaaGreatRows
import Derived.WalkKit
import Derived.ProofKit
import Derived.OpenShut
import Derived.ChangeMaps5
set_option linter.unusedSimpArgs false
set_option linter.unusedVariables false
namespace Go.Proofs.YtdgkfjbmlfmimaaGreat.ssiNone
open Go Go.Lift Go.ChangeShapes Go.WideShapes Go.ChangeAt Go.RowKit
set_option linter.unusedVariables false

theorem own : ownKnob Tryz.prog.godebug = none := by kernel_rfl
theorem laidOut : laidOutB Tryz.prog = true := by kernel_rfl

set_option maxRecDepth 100000 in
theorem walk (w : World) (a0 : Go.Lift.E14.StepZ) :
    Calls Tryz.prog 5 #[.agg #[.int .i64 a0.kind, .int .i64 a0.xid, .int .i64 a0.other, .bool a0.reads, .int .i64 a0.x.kind, .string a0.x.name, .int .i64 a0.x.rel, .string a0.x.index, .int .i64 a0.x.n]] w fun e w' => e = .returned (.bool true) ∧ Below w.heap.size w w' := by
  refine walk_of ?_
  refine calls_of_cw (hs := fun _ => []) (ann := A_liverylaw15_SsiNone) (args := [.agg #[.int .i64 a0.kind, .int .i64 a0.xid, .int .i64 a0.other, .bool a0.reads, .int .i64 a0.x.kind, .string a0.x.name, .int .i64 a0.x.rel, .string a0.x.index, .int .i64 a0.x.n]]) mixedPP Tryz.func5 (c := bodyOf Tryz.f5) (by kernel_rfl) (by kernel_rfl) (Eq.mpr (E_liverylaw15_SsiNone a0.kind a0.xid a0.other a0.reads a0.x.kind a0.x.name a0.x.rel a0.x.index a0.x.n w.heap _) ?_)
  exact Go.Lift.E14.SsiNone_s a0 fun h' he => ⟨rfl, he⟩

set_option maxRecDepth 100000 in
theorem lifted (os : Os) (started : os.Started) (H : Type) (enc : TypeId × Value → H) :
    ReturnsInHanded {} Tryz.checked os 5 .any (Rows.ssiNoneSpec.pre6 enc Tryz.prog Tryz.f5 Rows.ssiNoneRow.domain false) (Rows.ssiNoneSpec.post enc Tryz.prog Tryz.f5 false true false false) := by
  refine returnsInHanded_of_change (C := Tryz.checked) own started (by kernel_rfl) Tryz.func5
    (ChangeSpec.witness6 (enc := enc) (C := Tryz.checked) false ⟨#[], #[.agg #[.int .i64 0, .int .i64 0, .int .i64 0, .bool false, .int .i64 0, .string (ByteArray.mk #[]), .int .i64 0, .string (ByteArray.mk #[]), .int .i64 0]], []⟩ 8 (by kernel_rfl) (by kernel_rfl) (by kernel_rfl) (by kernel_rfl)) ?_
  intro W base args ds gs before hval0 hW hcnd _
  have hval : ∀ (j : Nat) t v, Tryz.f5.params[j]? = some t → args[j]? = some v → Value.okWide Tryz.prog W .any base t v := hval0
  have hW' := hW
  obtain ⟨p, q, hA0, hV, rfl, hfz, hnd⟩ := hW
  have hA : DataW.TrodAll enc Tryz.prog W 0 (fun _ => true) true Tryz.f5.params.toList args.toList ds p := hA0
  rw [Tryz.params5] at hA hval
  obtain ⟨v0, vs0, d0, ds0, p0, q0, hargs, rfl, rfl, h0, r0⟩ := trodAll_cons hA
  obtain ⟨rfl, rfl, rfl⟩ := trodAll_nil r0
  obtain rfl : args = #[v0] := by cases args; simp_all
  obtain ⟨rfl, rfl⟩ := trodVars_none hV
  obtain ⟨a0, rfl⟩ := Go.Lift.E14.open_stepZ (hval 0 41 v0 rfl rfl) h0
  clear hA0 hval0
  refine (walk W a0).mono fun e W' ⟨he, hg⟩ => ?_
  subst he
  exact ⟨_, rfl, law_post (tb := 4) laidOut (by kernel_rfl) (by kernel_rfl) (by kernel_rfl) hW' rfl rfl rfl rfl hg⟩

theorem over : Rows.ssiNoneRow.holds Tryz.pinned (OpenSpec.ofChange Rows.ssiNoneSpec) :=
  OpenClaim.holds_of_wide 5 Tryz.f5 rfl rfl rfl rfl rfl rfl rfl ⟨rfl, rfl, rfl, rfl, rfl⟩ rfl rfl rfl rfl rfl (by kernel_rfl) Tryz.func5 (by kernel_rfl)
    (of_decide_eq_true (by kernel_rfl)) (by unfold Func.isWrapper; first | (rw [if_pos (by decide +kernel)]; kernel_rfl) | (rw [if_neg (by decide +kernel)]; exact ⟨rfl, rfl⟩))
    (fun os started H enc _ => lifted os started H enc)

theorem proved : Rows.SsiNoneSaid :=
  over
#print axioms proved
end Go.Proofs.YtdgkfjbmlfmimaaGreat.ssiNone

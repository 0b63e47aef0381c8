/- SsiSkew: for every input the law returns true, and its arguments read as before. No condition. -/
import Derived.Test.YtdgkfjbmlfmimaaGreatLvP
import Derived.Test.YtdgkfjbmlfmimaaGreatS15z
import Derived.Test.YtdgkfjbmlfmimaaGreatS15k
import Derived.Test.YtdgkfjbmlfmimaaGreatRows
import Derived.WalkKit
import Derived.ProofKit
import Derived.OpenShut
import Derived.ChangeMaps5
set_option linter.unusedSimpArgs false
set_option linter.unusedVariables false
namespace Go.Proofs.YtdgkfjbmlfmimaaGreat.ssiSkew
open Go Go.Lift Go.ChangeShapes Go.WideShapes Go.ChangeAt Go.RowKit
set_option linter.unusedVariables false

theorem own : ownKnob Tryz.prog.godebug = none := by kernel_rfl
theorem laidOut : laidOutB Tryz.prog = true := by kernel_rfl

set_option maxRecDepth 100000 in
theorem walk (w : World) (a0 : ThingM) (a1 : ThingM) (a2 : Int) (w2 : (Lit.int .u8 a2).wf = true) :
    Calls Tryz.prog 3 #[.agg #[.int .i64 a0.kind, .string a0.name, .int .i64 a0.rel, .string a0.index, .int .i64 a0.n], .agg #[.int .i64 a1.kind, .string a1.name, .int .i64 a1.rel, .string a1.index, .int .i64 a1.n], .int .u8 a2] w fun e w' => e = .returned (.bool true) ∧ Below w.heap.size w w' := by
  refine walk_of ?_
  refine calls_of_cw (hs := fun _ => []) (ann := A_liverylaw15_SsiSkew) (args := [.agg #[.int .i64 a0.kind, .string a0.name, .int .i64 a0.rel, .string a0.index, .int .i64 a0.n], .agg #[.int .i64 a1.kind, .string a1.name, .int .i64 a1.rel, .string a1.index, .int .i64 a1.n], .int .u8 a2]) mixedPP Tryz.func3 (c := bodyOf Tryz.f3) (by kernel_rfl) (by kernel_rfl) (Eq.mpr (E_liverylaw15_SsiSkew a0.kind a0.name a0.rel a0.index a0.n a1.kind a1.name a1.rel a1.index a1.n a2 w.heap _) ?_)
  exact Go.Lift.E14.SsiSkew_s a0 a1 a2 (by have := wf_u8 w2; omega) fun h' he => ⟨rfl, he⟩

set_option maxRecDepth 100000 in
theorem lifted (os : Os) (started : os.Started) (H : Type) (enc : TypeId × Value → H) :
    ReturnsInHanded {} Tryz.checked os 3 .any (Rows.ssiSkewSpec.pre6 enc Tryz.prog Tryz.f3 Rows.ssiSkewRow.domain false) (Rows.ssiSkewSpec.post enc Tryz.prog Tryz.f3 false true false false) := by
  refine returnsInHanded_of_change (C := Tryz.checked) own started (by kernel_rfl) Tryz.func3
    (ChangeSpec.witness6 (enc := enc) (C := Tryz.checked) false ⟨#[], #[.agg #[.int .i64 0, .string (ByteArray.mk #[]), .int .i64 0, .string (ByteArray.mk #[]), .int .i64 0], .agg #[.int .i64 0, .string (ByteArray.mk #[]), .int .i64 0, .string (ByteArray.mk #[]), .int .i64 0], .int .u8 0], []⟩ 8 (by kernel_rfl) (by kernel_rfl) (by kernel_rfl) (by kernel_rfl)) ?_
  intro W base args ds gs before hval0 hW hcnd _
  have hval : ∀ (j : Nat) t v, Tryz.f3.params[j]? = some t → args[j]? = some v → Value.okWide Tryz.prog W .any base t v := hval0
  have hW' := hW
  obtain ⟨p, q, hA0, hV, rfl, hfz, hnd⟩ := hW
  have hA : DataW.TrodAll enc Tryz.prog W 0 (fun _ => true) true Tryz.f3.params.toList args.toList ds p := hA0
  rw [Tryz.params3] at hA hval
  obtain ⟨v0, vs0, d0, ds0, p0, q0, hargs, rfl, rfl, h0, r0⟩ := trodAll_cons hA
  obtain ⟨v1, vs1, d1, ds1, p1, q1, rfl, rfl, rfl, h1, r1⟩ := trodAll_cons r0
  obtain ⟨v2, vs2, d2, ds2, p2, q2, rfl, rfl, rfl, h2, r2⟩ := trodAll_cons r1
  obtain ⟨rfl, rfl, rfl⟩ := trodAll_nil r2
  obtain rfl : args = #[v0, v1, v2] := by cases args; simp_all
  obtain ⟨rfl, rfl⟩ := trodVars_none hV
  obtain ⟨a0, rfl⟩ := Go.Lift.E14.open_thing (hval 0 23 v0 rfl rfl) h0
  obtain ⟨a1, rfl⟩ := Go.Lift.E14.open_thing (hval 1 23 v1 rfl rfl) h1
  obtain ⟨a2, rfl, rfl, rfl, w2⟩ := open_int Tryz.underlying5 (hval 2 5 v2 rfl rfl) h2
  clear hA0 hval0
  refine (walk W a0 a1 a2 w2).mono fun e W' ⟨he, hg⟩ => ?_
  subst he
  exact ⟨_, rfl, law_post (tb := 4) laidOut (by kernel_rfl) (by kernel_rfl) (by kernel_rfl) hW' rfl rfl rfl rfl hg⟩

theorem over : Rows.ssiSkewRow.holds Tryz.pinned (OpenSpec.ofChange Rows.ssiSkewSpec) :=
  OpenClaim.holds_of_wide 3 Tryz.f3 rfl rfl rfl rfl rfl rfl rfl ⟨rfl, rfl, rfl, rfl, rfl⟩ rfl rfl rfl rfl rfl (by kernel_rfl) Tryz.func3 (by kernel_rfl)
    (of_decide_eq_true (by kernel_rfl)) (by unfold Func.isWrapper; first | (rw [if_pos (by decide +kernel)]; kernel_rfl) | (rw [if_neg (by decide +kernel)]; exact ⟨rfl, rfl⟩))
    (fun os started H enc _ => lifted os started H enc)

theorem proved : Rows.SsiSkewSaid :=
  over
#print axioms proved
end Go.Proofs.YtdgkfjbmlfmimaaGreat.ssiSkew

/- SsiPlays: for every input the law returns true, and its arguments read as before. No condition. -/
import Derived.Test.YtdgkfjbmlfmimaaGreatLvP
import Derived.Test.YtdgkfjbmlfmimaaGreatS15z
import Derived.Test.YtdgkfjbmlfmimaaGreatS16z
import Derived.Test.YtdgkfjbmlfmimaaGreatS16q
import Derived.Test.YtdgkfjbmlfmimaaGreatRows
import Derived.WalkKit
import Derived.ProofKit
import Derived.OpenShut
import Derived.ChangeMaps5
set_option linter.unusedSimpArgs false
set_option linter.unusedVariables false
namespace Go.Proofs.YtdgkfjbmlfmimaaGreat.ssiPlays
open Go Go.Lift Go.ChangeShapes Go.WideShapes Go.ChangeAt Go.RowKit
set_option linter.unusedVariables false

theorem own : ownKnob Tryz.prog.godebug = none := by kernel_rfl
theorem laidOut : laidOutB Tryz.prog = true := by kernel_rfl

set_option maxRecDepth 100000 in
theorem walk (w : World) (a0 : Go.Lift.E14.T3) (a1 : Sl) (x1 : List (Go.Lift.E14.StepZ)) (w1 : Reads 9 Go.Lift.E14.encZ w.heap a1 x1 ∧ (∀ x ∈ x1, (-9223372036854775808 ≤ x.xid ∧ x.xid < 9223372036854775808) ∧ (-9223372036854775808 ≤ x.other ∧ x.other < 9223372036854775808)) ∧ a1.n ≤ maxLen) :
    Calls Tryz.prog 9 #[.agg #[.int .i64 a0.a, .int .i64 a0.b, .int .i64 a0.c], .slice a1.a a1.n a1.c] w fun e w' => e = .returned (.bool true) ∧ Below w.heap.size w w' := by
  refine walk_of ?_
  refine calls_of_cw (hs := fun _ => []) (ann := A_liverylaw15_SsiPlays) (args := [.agg #[.int .i64 a0.a, .int .i64 a0.b, .int .i64 a0.c], .slice a1.a a1.n a1.c]) mixedPP Tryz.func9 (c := bodyOf Tryz.f9) (by kernel_rfl) (by kernel_rfl) (Eq.mpr (E_liverylaw15_SsiPlays a0.a a0.b a0.c a1 w.heap _) ?_)
  exact Go.Lift.E14.SsiPlays_s w1.1 (by have h1 := w1.1.1; have h2 := w1.2.2; (have h3 : maxLen ≤ 9223372036854775807 := by decide); omega) fun h' he => ⟨rfl, he⟩

set_option maxRecDepth 100000 in
theorem lifted (os : Os) (started : os.Started) (H : Type) (enc : TypeId × Value → H) :
    ReturnsInHanded {} Tryz.checked os 9 .any (Rows.ssiPlaysSpec.pre6 enc Tryz.prog Tryz.f9 Rows.ssiPlaysRow.domain false) (Rows.ssiPlaysSpec.post enc Tryz.prog Tryz.f9 false true false false) := by
  refine returnsInHanded_of_change (C := Tryz.checked) own started (by kernel_rfl) Tryz.func9
    (ChangeSpec.witness6 (enc := enc) (C := Tryz.checked) false ⟨#[], #[.agg #[.int .i64 0, .int .i64 0, .int .i64 0], .slice none 0 0], []⟩ 8 (by kernel_rfl) (by kernel_rfl) (by kernel_rfl) (by kernel_rfl)) ?_
  intro W base args ds gs before hval0 hW hcnd _
  have hval : ∀ (j : Nat) t v, Tryz.f9.params[j]? = some t → args[j]? = some v → Value.okWide Tryz.prog W .any base t v := hval0
  have hW' := hW
  obtain ⟨p, q, hA0, hV, rfl, hfz, hnd⟩ := hW
  have hA : DataW.TrodAll enc Tryz.prog W 0 (fun _ => true) true Tryz.f9.params.toList args.toList ds p := hA0
  rw [Tryz.params9] at hA hval
  obtain ⟨v0, vs0, d0, ds0, p0, q0, hargs, rfl, rfl, h0, r0⟩ := trodAll_cons hA
  obtain ⟨v1, vs1, d1, ds1, p1, q1, rfl, rfl, rfl, h1, r1⟩ := trodAll_cons r0
  obtain ⟨rfl, rfl, rfl⟩ := trodAll_nil r1
  obtain rfl : args = #[v0, v1] := by cases args; simp_all
  obtain ⟨rfl, rfl⟩ := trodVars_none hV
  obtain ⟨a0, rfl⟩ := (fun hv _ => Go.Lift.E14.open_3i hv) (hval 0 70 v0 rfl rfl) h0
  obtain ⟨a1, x1, rfl, w1⟩ := open_args Tryz.underlying38 (by kernel_rfl) (by decide) Go.Lift.E14.encZ_len (fun cs n y hl h => Go.Lift.E14.elem_stepZ hl h) (hval 1 38 v1 rfl rfl) h1
  clear hA0 hval0
  refine (walk W a0 a1 x1 w1).mono fun e W' ⟨he, hg⟩ => ?_
  subst he
  exact ⟨_, rfl, law_post (tb := 4) laidOut (by kernel_rfl) (by kernel_rfl) (by kernel_rfl) hW' rfl rfl rfl rfl hg⟩

theorem over : Rows.ssiPlaysRow.holds Tryz.pinned (OpenSpec.ofChange Rows.ssiPlaysSpec) :=
  OpenClaim.holds_of_wide 9 Tryz.f9 rfl rfl rfl rfl rfl rfl rfl ⟨rfl, rfl, rfl, rfl, rfl⟩ rfl rfl rfl rfl rfl (by kernel_rfl) Tryz.func9 (by kernel_rfl)
    (of_decide_eq_true (by kernel_rfl)) (by unfold Func.isWrapper; first | (rw [if_pos (by decide +kernel)]; kernel_rfl) | (rw [if_neg (by decide +kernel)]; exact ⟨rfl, rfl⟩))
    (fun os started H enc _ => lifted os started H enc)

theorem proved : Rows.SsiPlaysSaid :=
  over
#print axioms proved
end Go.Proofs.YtdgkfjbmlfmimaaGreat.ssiPlays

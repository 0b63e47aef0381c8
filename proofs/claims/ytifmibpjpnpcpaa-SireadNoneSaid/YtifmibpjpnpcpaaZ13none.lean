/- SireadNone: for every input the law returns true, and its arguments read as before. No condition. -/
import Derived.Test.YtifmibpjpnpcpaaLvP
import Derived.Test.YtifmibpjpnpcpaaW13z
import Derived.Test.YtifmibpjpnpcpaaRows
import Derived.WalkKit
import Derived.ProofKit
import Derived.OpenShut
import Derived.ChangeMaps5
set_option linter.unusedSimpArgs false
set_option linter.unusedVariables false
namespace Go.Proofs.Ytifmibpjpnpcpaa.sireadNone
open Go Go.Lift Go.ChangeShapes Go.WideShapes Go.ChangeAt Go.RowKit
set_option linter.unusedVariables false

theorem own : ownKnob Try.prog.godebug = none := by kernel_rfl
theorem laidOut : laidOutB Try.prog = true := by kernel_rfl

set_option maxRecDepth 100000 in
theorem walk (w : World) (a0 : StepS) :
    Calls Try.prog 5 #[.agg #[.int .i64 a0.op, .int .i64 a0.xid, .int .i64 a0.csn, .int .i64 a0.a.kind, .string a0.a.name, .int .i64 a0.a.rel, .string a0.a.index, .int .i64 a0.a.n, .int .i64 a0.b.kind, .string a0.b.name, .int .i64 a0.b.rel, .string a0.b.index, .int .i64 a0.b.n]] w fun e w' => e = .returned (.bool true) ∧ Below w.heap.size w w' := by
  refine walk_of ?_
  refine calls_of_cw (hs := fun _ => []) (ann := A_liverylaw13_SireadNone) (args := [.agg #[.int .i64 a0.op, .int .i64 a0.xid, .int .i64 a0.csn, .int .i64 a0.a.kind, .string a0.a.name, .int .i64 a0.a.rel, .string a0.a.index, .int .i64 a0.a.n, .int .i64 a0.b.kind, .string a0.b.name, .int .i64 a0.b.rel, .string a0.b.index, .int .i64 a0.b.n]]) mixedPP Try.func5 (c := bodyOf Try.f5) (by kernel_rfl) (by kernel_rfl) (Eq.mpr (E_liverylaw13_SireadNone a0.op a0.xid a0.csn a0.a.kind a0.a.name a0.a.rel a0.a.index a0.a.n a0.b.kind a0.b.name a0.b.rel a0.b.index a0.b.n w.heap _) ?_)
  exact SireadNone_s a0 fun h' he => ⟨rfl, he⟩

set_option maxRecDepth 100000 in
theorem lifted (os : Os) (started : os.Started) (H : Type) (enc : TypeId × Value → H) :
    ReturnsInHanded {} Try.checked os 5 .any (Rows.sireadNoneSpec.pre6 enc Try.prog Try.f5 Rows.sireadNoneRow.domain false) (Rows.sireadNoneSpec.post enc Try.prog Try.f5 false true false false) := by
  refine returnsInHanded_of_change (C := Try.checked) own started (by kernel_rfl) Try.func5
    (ChangeSpec.witness6 (enc := enc) (C := Try.checked) false ⟨#[], #[.agg #[.int .i64 0, .int .i64 0, .int .i64 0, .int .i64 0, .string (ByteArray.mk #[]), .int .i64 0, .string (ByteArray.mk #[]), .int .i64 0, .int .i64 0, .string (ByteArray.mk #[]), .int .i64 0, .string (ByteArray.mk #[]), .int .i64 0]], []⟩ 8 (by kernel_rfl) (by kernel_rfl) (by kernel_rfl) (by kernel_rfl)) ?_
  intro W base args ds gs before hval0 hW hcnd _
  have hval : ∀ (j : Nat) t v, Try.f5.params[j]? = some t → args[j]? = some v → Value.okWide Try.prog W .any base t v := hval0
  have hW' := hW
  obtain ⟨p, q, hA0, hV, rfl, hfz, hnd⟩ := hW
  have hA : DataW.TrodAll enc Try.prog W 0 (fun _ => true) true Try.f5.params.toList args.toList ds p := hA0
  rw [Try.params5] at hA hval
  obtain ⟨v0, vs0, d0, ds0, p0, q0, hargs, rfl, rfl, h0, r0⟩ := trodAll_cons hA
  obtain ⟨rfl, rfl, rfl⟩ := trodAll_nil r0
  obtain rfl : args = #[v0] := by cases args; simp_all
  obtain ⟨rfl, rfl⟩ := trodVars_none hV
  obtain ⟨a0, rfl⟩ := open_stepS (hval 0 42 v0 rfl rfl) h0
  clear hA0 hval0
  refine (walk W a0).mono fun e W' ⟨he, hg⟩ => ?_
  subst he
  exact ⟨_, rfl, law_post (tb := 4) laidOut (by kernel_rfl) (by kernel_rfl) (by kernel_rfl) hW' rfl rfl rfl rfl hg⟩

theorem over : Rows.sireadNoneRow.holds Try.pinned (OpenSpec.ofChange Rows.sireadNoneSpec) :=
  OpenClaim.holds_of_wide 5 Try.f5 rfl rfl rfl rfl rfl rfl rfl ⟨rfl, rfl, rfl, rfl, rfl⟩ rfl rfl rfl rfl rfl (by kernel_rfl) Try.func5 (by kernel_rfl)
    (of_decide_eq_true (by kernel_rfl)) (by unfold Func.isWrapper; first | (rw [if_pos (by decide +kernel)]; kernel_rfl) | (rw [if_neg (by decide +kernel)]; exact ⟨rfl, rfl⟩))
    (fun os started H enc _ => lifted os started H enc)

theorem proved : Rows.SireadNoneSaid :=
  over
#print axioms proved
end Go.Proofs.Ytifmibpjpnpcpaa.sireadNone

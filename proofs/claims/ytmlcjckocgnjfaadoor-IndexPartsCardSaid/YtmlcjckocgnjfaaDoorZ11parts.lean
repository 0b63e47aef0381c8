/- IndexParts: for every input the law returns true, and its arguments read as before; the card. No condition but the two tables that the row lists. -/
import Derived.Test.YtmlcjckocgnjfaaDoorI11z
import Derived.Test.YtmlcjckocgnjfaaDoorI11y
import Derived.Test.YtmlcjckocgnjfaaDoorI11k
import Derived.WalkKit
import Derived.ProofKit
import Derived.OpenShut
import Derived.ChangeMaps5
set_option linter.unusedSimpArgs false
set_option linter.unusedVariables false
namespace Go.Proofs.YtmlcjckocgnjfaaDoor.indexParts
open Go Go.Lift Go.ChangeShapes Go.WideShapes Go.ChangeAt Go.RowKit
set_option linter.unusedVariables false

set_option maxRecDepth 100000 in
theorem walk (w : World) (a0 : Sl) (x0 : List StepI) (w0 : Reads 10 encS w.heap a0 x0 ∧ (∀ s ∈ x0, VOk s.v ∧ VOk s.w) ∧ a0.n ≤ maxLen) (a1 b1 c1 : Int) (w1 : -128 ≤ a1 ∧ a1 < 128) (u1 : -128 ≤ b1 ∧ b1 < 128) (z1 : -128 ≤ c1 ∧ c1 < 128) (hg : GM w.heap) :
    Calls Tryd.prog 3 #[.slice a0.a a0.n a0.c, .agg #[.int .i8 a1, .int .i8 b1, .int .i8 c1]] w fun e w' => e = .returned (.bool true) ∧ Below w.heap.size w w' := by
  refine walk_of ?_
  refine calls_of_cw (hs := fun _ => []) (ann := A_liverylaw11_IndexParts) (args := [.slice a0.a a0.n a0.c, .agg #[.int .i8 a1, .int .i8 b1, .int .i8 c1]]) mixedPP Tryd.func3 (c := bodyOf Tryd.f3) (by kernel_rfl) (by kernel_rfl) (Eq.mpr (E_liverylaw11_IndexParts a0 a1 b1 c1 w.heap _) ?_)
  exact IndexParts_s w0.1 (by have h1 := w0.1.1; have h2 := w0.2.2; (have h3 : maxLen ≤ 9223372036854775807 := by decide); omega) w0.2.1 w1 u1 z1 hg fun h' he => ⟨rfl, he⟩

theorem laid_met (os : Os) : laidMet Tryd.prog Rows.indexPartsRow.laid ((laidWorld os).forCall (fun _ _ => 0) ⟨#[], #[.slice none 0 0, .agg #[.int .i8 0, .int .i8 0, .int .i8 0]], []⟩).memory :=
  laidMet_of_run' 8 (by kernel_rfl) (by kernel_rfl)
theorem reads (os : Os) {H : Type} (enc : TypeId × Value → H) : ∃ places, DataW.whole enc Tryd.prog ((laidWorld os).forCall (fun _ _ => 0) ⟨#[], #[.slice none 0 0, .agg #[.int .i8 0, .int .i8 0, .int .i8 0]], []⟩).memory Tryd.f3.params.toList Rows.indexPartsSpec.vars false (#[.slice none 0 0, .agg #[.int .i8 0, .int .i8 0, .int .i8 0]] : Array Value).toList 8 = some ([.nil, .agg [.lit (.int .i8 0), .lit (.int .i8 0), .lit (.int .i8 0)]], [], places) :=
  ⟨[], by kernel_rfl⟩

set_option maxRecDepth 100000 in
theorem contract (H : Type) (enc : TypeId × Value → H) (W : World) (base : Nat) (args : Array Value) (ds gs : List (DataW H)) (before : List MemPlace)
    (hval0 : ∀ (j : Nat) t v, Tryd.f3.params[j]? = some t → args[j]? = some v → Value.okWide Tryd.prog W .any base t v)
    (hW : DataW.Whole enc Tryd.prog Tryd.f3.params.toList Rows.indexPartsSpec.vars false W args.toList ds gs before) (hS : W.ShapedOpen Tryd.prog) :
    Calls Tryd.prog 3 args W fun e W' => ∃ v, e = .returned v ∧ Rows.indexPartsSpec.post enc Tryd.prog Tryd.f3 false true false false W args v W' := by
  have hval := hval0
  have hW' := hW
  obtain ⟨p, q, hA0, hV, rfl, hfz, hnd⟩ := hW
  have hA : DataW.TrodAll enc Tryd.prog W 0 (fun _ => true) true Tryd.f3.params.toList args.toList ds p := hA0
  rw [Tryd.params3] at hA hval
  obtain ⟨v0, vs0, d0, ds0, p0, q0, hargs, rfl, rfl, h0, r0⟩ := trodAll_cons hA
  obtain ⟨v1, vs1, d1, ds1, p1, q1, rfl, rfl, rfl, h1, r1⟩ := trodAll_cons r0
  obtain ⟨rfl, rfl, rfl⟩ := trodAll_nil r1
  obtain rfl : args = #[v0, v1] := by cases args; simp_all
  obtain ⟨rfl, rfl⟩ := trodVars_none hV
  obtain ⟨a0, x0, rfl, w0⟩ := open_args Tryd.underlying22 (by kernel_rfl) (by decide) encS_len (fun cs n y hl h => elem_stI hl h) (hval 0 22 v0 rfl rfl) h0
  obtain ⟨a1, b1, c1, rfl, w1, u1, z1⟩ := open_T (hval 1 24 v1 rfl rfl)
  clear hA0 hval0
  refine (walk W a0 x0 w0 a1 b1 c1 w1 u1 z1 (gm_of hS)).mono fun e W' ⟨he, hg⟩ => ?_
  subst he
  exact ⟨_, rfl, law_post (tb := 4) laidOut (by kernel_rfl) (by kernel_rfl) (by kernel_rfl) hW' rfl rfl rfl rfl hg⟩

set_option maxRecDepth 100000 in
theorem lifted (os : Os) (started : os.Started) (H : Type) (enc : TypeId × Value → H) (F : Stop.Interp) :
    ReturnsInHanded {} Tryd.checked os 3 .any ((OpenSpec.ofChange Rows.indexPartsSpec).preRow enc Tryd.prog Tryd.f3 Rows.indexPartsRow.domain false Rows.indexPartsRow.laid) (((OpenSpec.ofChange Rows.indexPartsSpec).at F).post enc Tryd.prog Tryd.f3 false true false false) := by
  obtain ⟨places, hx⟩ := reads os enc
  refine returnsInHanded_of_row (C := Tryd.checked) (s := OpenSpec.ofChange Rows.indexPartsSpec) own started (by kernel_rfl) Tryd.func3
    (witness_row_at (enc := enc) (C := Tryd.checked) false (laidWorld os) #[.slice none 0 0, .agg #[.int .i8 0, .int .i8 0, .int .i8 0]] rfl (by kernel_rfl) (by kernel_rfl) (by kernel_rfl)
      (OpenSpec.preRow_of_cond 8 hx (by kernel_rfl) (fun k hk => by cases hk) (by kernel_rfl) (laid_met os))) ?_
  intro W base args ds gs before hval hW _ _ _ _ hS _
  exact contract H enc W base args ds gs before hval hW hS

theorem said : Rows.IndexPartsSaid :=
  OpenClaim.holds_of_cond 3 Tryd.f3 rfl rfl rfl rfl rfl rfl rfl ⟨rfl, rfl, rfl, rfl, rfl⟩ rfl rfl rfl rfl rfl (by kernel_rfl) Tryd.func3 (by kernel_rfl)
    (of_decide_eq_true (by kernel_rfl)) (by unfold Func.isWrapper; first | (rw [if_pos (by decide +kernel)]; kernel_rfl) | (rw [if_neg (by decide +kernel)]; exact ⟨rfl, rfl⟩))
    (fun os started H enc _ F => by rw [OpenClaim.pre_eq_preRow]; exact lifted os started H enc F)

theorem plain (f : FuncId) (fn : Func) (hf : Tryd.pinned.checked.prog.funcNamed "livery/liverylaw11.IndexParts" = some f) (hfn : Tryd.pinned.checked.prog.funcs[f]? = some fn) :
    false = Tryd.pinned.checked.prog.looks [] ∧ ∀ (j : Nat) t, fn.params[j]? = some t → Tryd.pinned.checked.prog.wantsStandIn t = false := by
  obtain rfl : f = 3 := Option.some.inj ((show Tryd.prog.funcNamed "livery/liverylaw11.IndexParts" = some 3 by kernel_rfl).symm.trans hf) |>.symm
  obtain rfl : fn = Tryd.f3 := (Option.some.inj (Tryd.func3.symm.trans hfn)).symm
  refine ⟨by kernel_rfl, fun j t ht => ?_⟩
  rw [Tryd.params3] at ht
  have hm := Array.mem_of_getElem? ht
  simp only [List.mem_toArray, List.mem_cons, List.not_mem_nil, or_false] at hm
  rcases hm with rfl | rfl
  · exact (show Tryd.prog.wantsStandIn 22 = false by kernel_rfl)
  · exact (show Tryd.prog.wantsStandIn 24 = false by kernel_rfl)

theorem proved : Rows.IndexPartsCardSaid :=
  Claim7.holds_tied_plain_at .later [] _ _ _ _ said (fun _ h => by cases h) (by kernel_rfl) (fun _ h => by cases h) indexParts_row_tie rfl ⟨rfl, rfl⟩ (by kernel_rfl) rfl plain (by kernel_rfl)
#print axioms proved
end Go.Proofs.YtmlcjckocgnjfaaDoor.indexParts

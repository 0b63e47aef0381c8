/- From a function's calls to what a row asks of it. -/
import Derived.Test.YtgdiihffjogdiaaGreatDoorLvO
import Derived.Carry
import Derived.OpenShut
set_option linter.unusedSimpArgs false
set_option linter.unusedVariables false
namespace Go.Lift
open Go Go.RowKit Go.ChangeShapes

theorem below_of {w w' : World} (hk : Kept w w') (he : Ext [] w.heap w'.heap) : Below w.heap.size w w' :=
  ⟨hk.os, hk.tape, hk.output, he.sz, fun k h => he.old k h (by simp)⟩
/-- A law's body that comes to 'true', old memory unchanged: its calls. -/
theorem walk_of {P : Program} {f : FuncId} {args : Array Value} {w : World}
    (H : CallsH P f args w.heap fun vs h' => vs = [.bool true] ∧ Ext [] w.heap h') : Calls P f args w fun e w' => e = .returned (.bool true) ∧ Below w.heap.size w w' :=
  (H w rfl).mono fun e w' ⟨vs, h1, h2, h3, h4⟩ => ⟨by rw [h1, h3]; rfl, below_of h2 h4⟩
section
variable {H : Type} {enc : TypeId × Value → H} {P : Program}
theorem trodAll_below (hl : laidOutB P = true) {W W' : World} (hb : Below W.heap.size W W') : ∀ {ts : List TypeId} {vs : List Value} {ds : List (DataW H)} {ps : List MemPlace},
    (ts.all fun t => P.readableRec t && decide (t < P.types.size)) = true → DataW.TrodAll enc P W 0 (fun _ => true) true ts vs ds ps → (∀ x ∈ ps, x.block < W.heap.size) →
    DataW.TrodAll enc P W' 0 (fun b => decide (b < W.heap.size)) true ts vs ds ps
  | [], vs, ds, ps, _, h, _ => by
    obtain ⟨rfl, rfl, rfl⟩ := trodAll_nil h
    exact trodAll_mk0
  | t :: ts, vs, ds, ps, hts, h, hlt => by
    obtain ⟨v, vs', d, ds', p, q, rfl, rfl, rfl, h1, h2⟩ := trodAll_cons h
    simp only [List.all_cons, Bool.and_eq_true, decide_eq_true_eq] at hts
    exact trodAll_cons_mk (Below.trod hl hts.1.1 hts.1.2 h1 hb fun x hx => hlt x (List.mem_append_left _ hx))
      (trodAll_below hl hb (by simpa using hts.2) h2 fun x hx => hlt x (List.mem_append_right _ hx))
theorem law_post {f : Func} {s : ChangeSpec} {apart fresh : Bool} {W W' : World} {args : Array Value} {ds gs : List (DataW H)} {before : List MemPlace}
    (hl : laidOutB P = true) (hts : (f.params.toList.all fun t => P.readableRec t && decide (t < P.types.size)) = true) {tb : TypeId} (hrt : f.resultTypes = #[tb]) (hbt : P.underlying tb = some .bool)
    (hW : DataW.Whole enc P f.params.toList s.vars apart W args.toList ds gs before) (hv : s.vars = []) (hres : (s.fn H (ds ++ gs)).results = [.lit (.bool true)]) (hargs : (s.fn H (ds ++ gs)).args = ds)
    (hvars : (s.fn H (ds ++ gs)).vars = []) (hb : Below W.heap.size W W') : s.post enc P f apart fresh false false W args (.bool true) W' := by
  have hW' := hW
  obtain ⟨p, q, hA, hV, hp, _, _⟩ := hW
  rw [hv] at hV
  obtain ⟨rfl, rfl⟩ := trodVars_none hV
  rw [List.append_nil] at hp
  subst hp
  refine ⟨ds, [], before, [], before, [], hW', ?_, ?_, ?_, hb.frame _, fun e => (by cases e)⟩
  · rw [hres, hrt]
    exact trodAll_mk1 (shut_bool hbt true)
  · rw [hargs]
    exact trodAll_below hl hb hts hA hW'.lt
  · rw [hv, hvars]
    rfl
end
end Go.Lift

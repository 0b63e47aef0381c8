/- A function whose range over a function stands behind two pieces of code. -/
import Derived.Test.YtgdiihffjogdiaaGreatDoorItB
set_option linter.unusedSimpArgs false
set_option linter.unusedVariables false
namespace Go.Lift.X
open Go
section
variable {P : Program} {n : Nat} {hs : Hints}
def c2A : Code → Code | .seq a _ => a | c => c
def c2D : Code → Code | .seq _ (.seq a _) => a | c => c
def c2B : Code → Code | .seq _ (.seq _ (.seq (.seq b _) _)) => b | c => c
def c2G : Code → Operand | .seq _ (.seq _ (.seq (.seq _ (.block _ (.rangeFunc g _ _ _))) _)) => g | _ => .tmp 0
def c2S : Code → Code | .seq _ (.seq _ (.seq (.seq _ (.block _ (.rangeFunc _ _ s _))) _)) => s | c => c
def c2T : Code → Code | .seq _ (.seq _ (.seq (.seq _ (.block _ (.rangeFunc _ _ _ t))) _)) => t | c => c
def c2C : Code → Code | .seq _ (.seq _ (.seq _ c)) => c | c => c
theorem calls_of_rf2 {f : FuncId} {fn : Func} {A D B C : Code} {i p : Nat} {g : Operand} {asg body : Code} {args : List Value} {h : Hp} {annA annD annB annR annS annC : Ann} {Q : List Value → Hp → Prop}
    (hf : P.funcs[f]? = some fn) (hb : fn.body = some (.seq A (.seq D (.seq (.seq B (.block i (.rangeFunc g #[p] asg body))) C)))) (hn : Nat.ble args.length fn.ntmps = true)
    (H : cwY P fn.ntmps hs none A annA (seqQ (fun ρ h => cwY P fn.ntmps hs none D annD (seqQ (fun ρ h => cwY P fn.ntmps hs none B annB (seqQ (fun ρ h1 => ∃ f' first caps, ev ρ g = some (.func (.func f') first caps) ∧ (∀ args w, (callFunc f' args).run P w = .ok (.enter f' args) w) ∧
      ∀ L : Loop, YOk P (h1.size + 1) (rndY P fn.ntmps hs ρ p L (h1.size + 1) asg body annR annS) →
        CallsH P f' ((first ++ #[.func (.yield (h1.size + 1)) #[] #[]]) ++ caps) ((h1.push (.deferred (some []))).push (.loop L)) fun _ h2 => h2[h1.size + 1]? = some (.loop L) ∧
          cwY P fn.ntmps hs none C annC (finD P fn.results.toList h1.size Q) ρ (h2.setIfInBounds (h1.size + 1) (.loop { L with state := .exhausted }))) fun _ _ _ => False) ρ h) fun _ _ _ => False) ρ h) fun _ _ _ => False) (argFr args) h) :
    CallsH P f args.toArray h Q := by
  intro w hw
  subst hw
  refine calls_of_in (n := 0) (callsIn_of_wp_marks hf hb trivial ?_)
  refine wpIn_seq ?_
  refine wpIn_mono (cwY_sound (ro := none) (m := 0) (ylok_none _) A annA _ _ _ w H (fits_args hn)) ?_
  rintro e a1 w1 ⟨e', ρ1, h1, h2, h3, h4, h5⟩
  cases e' <;> simp only [seqQ] at h5
  have : e = .normal := by cases e <;> simp [exOf] at h1 <;> rfl
  subst this
  refine wpIn_seq ?_
  refine wpIn_mono (cwY_sound (ro := none) (m := 0) (ylok_none _) D annD _ _ _ w1 h5 h2) ?_
  rintro e a0 w0 ⟨e', ρ0, i1, i2, i3, i4, i5⟩
  cases e' <;> simp only [seqQ] at i5
  have : e = .normal := by cases e <;> simp [exOf] at i1 <;> rfl
  subst this
  refine wpIn_seq (wpIn_seq ?_)
  refine wpIn_mono (cwY_sound (ro := none) (m := 0) (ylok_none _) B annB _ _ _ w0 i5 i2) ?_
  rintro e a2 w2 ⟨e', ρ2, k1, k2, k3, k4, k5⟩
  cases e' <;> simp only [seqQ] at k5
  have : e = .normal := by cases e <;> simp [exOf] at k1 <;> rfl
  subst this
  obtain ⟨f', first, caps, hg, he, HL⟩ := k5
  refine wpIn_block ?_
  refine wpIn_mono (rf_in (hs := hs) (m := 0) (wr := fun _ => false) (annA := annR) (annB := annS) (Q := fun e ρ h => match e with | .normal => cwY P fn.ntmps hs none C annC (finD P fn.results.toList w2.heap.size Q) ρ h | _ => False) hg k2 he HL) ?_
  rintro e a3 w3 ⟨e', ρ3, j1, j2, j3, j4, j5⟩
  cases e' <;> simp only at j5
  have : e = .normal := by cases e <;> simp [exOf] at j1 <;> rfl
  subst this
  refine wpIn_mono (cwY_sound (ro := none) (m := 0) (ylok_none _) C annC _ _ _ w3 j5 j2) ?_
  intro e a4 w4 hq
  have := leave_in (m := 0) hq
  obtain ⟨e', ρ', h1', h2', h3', h4', h5'⟩ := hq
  have kk := ((h3.trans i3).trans k3).trans j3
  have hq2 : liftD (markOf w2.heap.size) fn.ntmps w a3 (writesC C) (finD P fn.results.toList w2.heap.size Q) e a4 w4 := ⟨e', ρ', h1', h2', kk.trans h3', h4', h5'⟩
  exact leave_in (m := 0) hq2
end
end Go.Lift.X

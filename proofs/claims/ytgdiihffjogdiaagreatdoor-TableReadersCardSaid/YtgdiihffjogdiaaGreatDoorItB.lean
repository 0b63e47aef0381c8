/- Ranges over functions: the statement; functions that hold one; iterators. -/
import Derived.Test.YtgdiihffjogdiaaGreatDoorItA
set_option linter.unusedSimpArgs false
set_option linter.unusedVariables false
namespace Go.Lift
open Go
section
variable {P : Program} {n : Nat} {hs : Hints}
/-! The parts of a body that holds one range over a function. -/
def cfA : Code → Code | .seq a _ => a | c => c
def cfB : Code → Code | .seq _ (.seq (.seq b _) _) => b | c => c
def cfG : Code → Operand | .seq _ (.seq (.seq _ (.block _ (.rangeFunc g _ _ _))) _) => g | _ => .tmp 0
def cfS : Code → Code | .seq _ (.seq (.seq _ (.block _ (.rangeFunc _ _ s _))) _) => s | c => c
def cfT : Code → Code | .seq _ (.seq (.seq _ (.block _ (.rangeFunc _ _ _ t))) _) => t | c => c
def cfC : Code → Code | .seq _ (.seq _ c) => c | c => c
/-- One round, which goes on: the loop's record is there, ready. -/
def rndY (P : Program) (n : Nat) (hs : Hints) (ρ : Fr) (p : Nat) (L : Loop) (l : Nat) (asg body : Code) (annA annB : Ann) : YT := fun args h K =>
  ∃ v, args = #[v] ∧ h[l]? = some (.loop L) ∧ cwY P n hs none asg annA (fun e ρ1 h1 => match e with
    | .normal => h1[l]? = some (.loop L) ∧ cwY P n hs none body annB (fun e ρ2 h2 => match e with
      | .normal => h2[l]? = some (.loop { L with state := .busy }) ∧ K true (h2.setIfInBounds l (.loop L))
      | _ => False) ρ1 (h1.setIfInBounds l (.loop { L with state := .busy }))
    | _ => False) (upd n ρ (some p) (some v)) h
theorem ylok_none (ro : Option Nat) : YLOk P ro none := fun l Y h => by cases h
theorem rndY_ok {ρ : Fr} {p : Nat} {L : Loop} {l : Nat} {asg body : Code} {annA annB : Ann} {a : Act} (hf : FitsD [] n ρ a) (h1 : L.state = .ready) (h2 : L.pending = none) (h3 : L.tmps = a.tmps) (h4 : L.params = #[p]) (h5 : L.assign = asg) (h6 : L.body = body) :
    YOk P l (rndY P n hs ρ p L l asg body annA annB) := by
  rintro args h K ⟨v, rfl, hL, H⟩ w m rfl
  refine ⟨L.fn, _, L.assign, L.body, run_yield hL (by rw [h4]; rfl), roundIn_of_wpIn trivial ?_⟩
  rw [h4, h3, h5, h6]
  have hf1 : FitsD [] n (upd n ρ (some p) (some v)) { tmps := ((#[p] : Array Tmp).zip #[v]).foldl (fun tmps (t, a) => tmps.setIfInBounds t a) a.tmps, defers := [] } := by
    have := hf.put (agrees_some v) (some p)
    have hz : ((#[p] : Array Tmp).zip #[v]).foldl (fun tmps (t, a) => tmps.setIfInBounds t a) a.tmps = a.tmps.setIfInBounds p v := by simp
    rw [hz]
    exact ⟨rfl, this.sz, this.kn⟩
  have hw := cwY_sound (ro := some l) (m := m) (ylok_none _) asg annA _ _ _ w H hf1
  refine wpIn_mono (F := WR (some l)) hw ?_
  rintro e a1 w1 ⟨e', ρ1, g1, g2, g3, g4, g5⟩
  cases e' <;> simp only at g5
  have : e = .normal := by cases e <;> simp [exOf] at g1 <;> rfl
  subst this
  obtain ⟨gL, g6⟩ := g5
  refine ⟨_, run_beginRound gL h1, ?_⟩
  have hb := cwY_sound (ro := some l) (m := m) (ylok_none _) body annB _ ρ1 a1 (w1.putObj l (.loop { L with state := .busy })) g6 g2
  refine wpIn_mono (F := WR (some l)) hb ?_
  rintro e a2 w2 ⟨e', ρ2, k1, k2, k3, k4, k5⟩
  cases e' <;> simp only at k5
  have : e = .normal := by cases e <;> simp [exOf] at k1 <;> rfl
  subst this
  obtain ⟨kL, k6⟩ := k5
  refine ⟨_, _, run_endRound none kL, _, rfl, ?_, ?_⟩
  · exact (g3.trans (⟨rfl, rfl, rfl, fun h => h.elim⟩ : Kept w1 (w1.putObj l _))).trans (k3.trans ⟨rfl, rfl, rfl, fun h => h.elim⟩)
  · have : ({ ({ L with state := .busy } : Loop) with state := if (none : Option Code).isNone then .ready else .done, pending := none } : Loop) = L := by
      cases L; simp only at h1 h2; subst h1 h2; rfl
    rw [this]
    exact k6
def markOf (D : Nat) : List Deferred := [{ target := .collected D, args := #[] }]
/-- The statement. -/
theorem rf_in {g : Operand} {p : Nat} {asg body : Code} {ρ : Fr} {a : Act} {w : World} {annA annB : Ann} {Q : Post} {f : FuncId} {first caps : Array Value} {m : Nat} {wr : Nat → Bool} (hg : ev ρ g = some (.func (.func f) first caps)) (hf : FitsD [] n ρ a)
    (he : ∀ args w, (callFunc f args).run P w = .ok (.enter f args) w)
    (H : ∀ L : Loop, YOk P (w.heap.size + 1) (rndY P n hs ρ p L (w.heap.size + 1) asg body annA annB) →
      CallsH P f ((first ++ #[.func (.yield (w.heap.size + 1)) #[] #[]]) ++ caps) ((w.heap.push (.deferred (some []))).push (.loop L)) fun _ h2 => h2[w.heap.size + 1]? = some (.loop L) ∧ Q .normal ρ (h2.setIfInBounds (w.heap.size + 1) (.loop { L with state := .exhausted }))) :
    (Code.rangeFunc g #[p] asg body).wpIn (WR none) m P (liftD (markOf w.heap.size) n w a wr Q) a w := by
  refine wpIn_rangeFunc ?_
  intro fn hfn
  obtain ⟨L, hL⟩ : ∃ L : Loop, L = { state := .ready, pending := none, fn, tmps := a.tmps, params := #[p], assign := asg, body, defers := w.heap.size } := ⟨_, rfl⟩
  obtain ⟨W1, hW1⟩ : ∃ W1, (w.alloc (.deferred (some []))).alloc (.loop L) = W1 := ⟨_, rfl⟩
  refine ⟨w.heap.size + 1, markOf w.heap.size, W1, { target := .fn (.func f) caps, args := first ++ #[.func (.yield (w.heap.size + 1)) #[] #[]] }, W1, f, (first ++ #[.func (.yield (w.heap.size + 1)) #[] #[]]) ++ caps, W1, ?_, ?_, fun _ _ => trivial, ?_, fun h => by simp [WR] at h, ?_⟩
  · rw [← hW1, hL]; exact run_enterLoop_outer _ _ _ _ _
  · have e1 := hf.ev _ _ hg
    have ec : (#[Operand.const (Value.func (.yield (w.heap.size + 1)) #[] #[])] : Array Operand).map a.eval = #[.func (.yield (w.heap.size + 1)) #[] #[]] := by simp [Act.eval]
    simp only [resolve, rangeCall, e1, ec, Deferred.ofValue]
    simp only [Sem.run_bind, Sem.run_pure, Result.andThen]
  · simp only [invoke]
    exact he _ _
  · refine (callsIn_of (H L (rndY_ok hf (by rw [hL]) (by rw [hL]) (by rw [hL]) (by rw [hL]) (by rw [hL]) (by rw [hL])) W1 ?_)).mono ?_
    · rw [← hW1]; rfl
    · rintro e w3 ⟨vs, rfl, hk, h2, hq⟩
      refine ⟨_, _, run_endLoop h2 (by rw [hL]; simp), ?_⟩
      have hp : L.pending = none := by rw [hL]
      rw [hp] at hq ⊢
      refine ⟨_, ρ, rfl, ⟨?_, hf.sz, hf.kn⟩, ?_, fun _ _ => rfl, hq⟩
      · rw [hf.dz]; exact List.append_nil _
      · have k0 : Kept w W1 := by rw [← hW1]; exact ⟨rfl, rfl, rfl, fun h => h.elim⟩
        exact k0.trans (hk.trans ⟨rfl, rfl, rfl, fun h => h.elim⟩)
/-- Leaving a function that held one. -/
def finD (P : Program) (rs : List ResultVar) (D : Nat) (Q : List Value → Hp → Prop) : Post := fun e ρ h =>
  match e with
  | .exit _ => False
  | _ => h[D]? = some (.deferred (some [])) ∧ retW P (h.setIfInBounds D (.deferred none)) ρ rs fun vs => Q vs (h.setIfInBounds D (.deferred none))
theorem leave_in {fn : Func} {Q : List Value → Hp → Prop} {D m : Nat} {w0 : World} {a0 : Act} {wr : Nat → Bool} {e : Exit} {a : Act} {w : World} (h : liftD (markOf D) n w0 a0 wr (finD P fn.results.toList D Q) e a w) :
    bodyPostM (WR none) m P fn (fun e w' => ∃ vs, e = .returned (packR vs) ∧ Kept w0 w' ∧ Q vs w'.heap) e a w := by
  obtain ⟨e', ρ', h1, h2, h3, h4, h5⟩ := h
  have key : w.heap[D]? = some (.deferred (some [])) → retW P (w.heap.setIfInBounds D (.deferred none)) ρ' fn.results.toList (fun vs => Q vs (w.heap.setIfInBounds D (.deferred none))) → LeavesInM (WR none) m P fn a.tmps (fun e w' => ∃ vs, e = .returned (packR vs) ∧ Kept w0 w' ∧ Q vs w'.heap) a.defers .returning w := by
    intro g1 g2
    rw [h2.dz]
    refine ⟨by simp, .inl ⟨D, _, rfl, run_takeDeferred g1, ?_⟩⟩
    have hf : Fits n ρ' { tmps := a.tmps, defers := [] } := ⟨rfl, h2.sz, h2.kn⟩
    obtain ⟨vs, k1, k2⟩ := results_sound (fn := fn) hf g2
    obtain ⟨v, k3, k4⟩ := semR_run _ (w.putObj D (.deferred none)) _ k2
    exact ⟨v, k3, vs, by rw [k4], h3.trans ⟨rfl, rfl, rfl, fun h => h.elim⟩, k1⟩
  cases e' with
  | exit id => exact h5.elim
  | normal =>
    have : e = .normal := by cases e <;> simp [exOf] at h1 <;> rfl
    subst this
    exact key h5.1 h5.2
  | ret =>
    have : e = .ret := by cases e <;> simp [exOf] at h1 <;> rfl
    subst this
    exact key h5.1 h5.2
theorem fits_args {nt : Nat} {args : List Value} (hn : Nat.ble args.length nt = true) : FitsD [] nt (argFr args) { tmps := args.toArray ++ Array.replicate (nt - args.toArray.size) undef, defers := [] } := by
  have hle : args.length ≤ nt := Nat.le_of_ble_eq_true hn
  refine ⟨rfl, by simp; omega, fun t v hv => ?_⟩
  have hlt : t < args.length := by
    rcases Nat.lt_or_ge t args.length with h | h
    · exact h
    · simp [argFr, List.getElem?_eq_none h] at hv
  rw [Array.getElem?_append_left (by simpa using hlt)]
  simpa [argFr] using hv
/-- An iterator. -/
theorem calls_of_cwY {f : FuncId} {fn : Func} {c : Code} {args : List Value} {h : Hp} {ann : Ann} {Q : List Value → Hp → Prop} {l : Nat} {Y : YT} (hy : YOk P l Y)
    (hf : P.funcs[f]? = some fn) (hb : fn.body = some c) (hn : Nat.ble args.length fn.ntmps = true) (H : cwY P fn.ntmps hs (some (l, Y)) c ann (finQ P fn.results.toList Q) (argFr args) h) : CallsH P f args.toArray h Q := by
  intro w hw
  subst hw
  refine calls_of_in (n := 0) (callsIn_of_wp hf hb trivial ?_)
  refine wpIn_mono (cwY_sound (ro := none) (m := 0) (fun l' Y' e => by cases e; exact ⟨rfl, hy⟩) c ann _ _ _ w H (fits_args hn)) ?_
  rintro e a' w' ⟨e', ρ', h1, h2, h3, h4, h5⟩
  have hz : Fits fn.ntmps ρ' a' := ⟨h2.dz, h2.sz, h2.kn⟩
  cases e' with
  | exit id => exact h5.elim
  | normal =>
    have : e = .normal := by cases e <;> simp [exOf] at h1 <;> rfl
    subst this
    obtain ⟨vs, g1, g2⟩ := results_sound hz h5
    obtain ⟨v, g3, g4⟩ := semR_run _ w' _ g2
    exact ⟨h2.dz, v, g3, vs, by rw [g4], h3, g1⟩
  | ret =>
    have : e = .ret := by cases e <;> simp [exOf] at h1 <;> rfl
    subst this
    obtain ⟨vs, g1, g2⟩ := results_sound hz h5
    obtain ⟨v, g3, g4⟩ := semR_run _ w' _ g2
    exact ⟨h2.dz, v, g3, vs, by rw [g4], h3, g1⟩
theorem calls_of_fn {D : Prop} {f : FuncId} {fn : Func} {c : Code} {args : Array Value} {h : Hp} {Q : List Value → Hp → Prop} (hf : P.funcs[f]? = some fn) (hb : fn.body = some c)
    (hN : (fn.name == "runtime.NumGoroutine") = false) (H : FnD D P f args h Q) : CallsD D P f args h Q := by
  unfold FnD callFunc at H
  simp only [semW_bind', semW_program, hf] at H
  simp only [hN, Bool.false_eq_true, if_false, hb, Option.isNone_some] at H
  have H2 : CallsD D P f args h fun vs h' => ∃ us, packR vs = packR us ∧ Q us h' := H
  intro w hw
  refine (H2 w hw).mono ?_
  rintro e w' ⟨vs, rfl, hk, us, hu, hq⟩
  exact ⟨us, by rw [hu], hk, hq⟩
/-- A function: code ahead of the statement, the statement, code behind it. -/
theorem calls_of_rf {f : FuncId} {fn : Func} {A B C : Code} {i p : Nat} {g : Operand} {asg body : Code} {args : List Value} {h : Hp} {annA annB annR annS annC : Ann} {Q : List Value → Hp → Prop}
    (hf : P.funcs[f]? = some fn) (hb : fn.body = some (.seq A (.seq (.seq B (.block i (.rangeFunc g #[p] asg body))) C))) (hn : Nat.ble args.length fn.ntmps = true)
    (H : cwY P fn.ntmps hs none A annA (seqQ (fun ρ h => cwY P fn.ntmps hs none B annB (seqQ (fun ρ h1 => ∃ f' first caps, ev ρ g = some (.func (.func f') first caps) ∧ (∀ args w, (callFunc f' args).run P w = .ok (.enter f' args) w) ∧
      ∀ L : Loop, YOk P (h1.size + 1) (rndY P fn.ntmps hs ρ p L (h1.size + 1) asg body annR annS) →
        CallsH P f' ((first ++ #[.func (.yield (h1.size + 1)) #[] #[]]) ++ caps) ((h1.push (.deferred (some []))).push (.loop L)) fun _ h2 => h2[h1.size + 1]? = some (.loop L) ∧
          cwY P fn.ntmps hs none C annC (finD P fn.results.toList h1.size Q) ρ (h2.setIfInBounds (h1.size + 1) (.loop { L with state := .exhausted }))) fun _ _ _ => False) ρ h) fun _ _ _ => False) (argFr args) h) :
    CallsH P f args.toArray h Q := by
  intro w hw
  subst hw
  refine calls_of_in (n := 0) (callsIn_of_wp_marks hf hb trivial ?_)
  refine wpIn_seq ?_
  refine wpIn_mono (cwY_sound (ro := none) (m := 0) (ylok_none _) A annA _ _ _ w H (fits_args hn)) ?_
  rintro e a1 w1 ⟨e', ρ1, h1, h2, h3, h4, h5⟩
  cases e' <;> simp only [seqQ] at h5
  have : e = .normal := by cases e <;> simp [exOf] at h1 <;> rfl
  subst this
  refine wpIn_seq (wpIn_seq ?_)
  refine wpIn_mono (cwY_sound (ro := none) (m := 0) (ylok_none _) B annB _ _ _ w1 h5 h2) ?_
  rintro e a2 w2 ⟨e', ρ2, k1, k2, k3, k4, k5⟩
  cases e' <;> simp only [seqQ] at k5
  have : e = .normal := by cases e <;> simp [exOf] at k1 <;> rfl
  subst this
  obtain ⟨f', first, caps, hg, he, HL⟩ := k5
  refine wpIn_block ?_
  refine wpIn_mono (rf_in (hs := hs) (m := 0) (wr := fun _ => false) (annA := annR) (annB := annS) (Q := fun e ρ h => match e with | .normal => cwY P fn.ntmps hs none C annC (finD P fn.results.toList w2.heap.size Q) ρ h | _ => False) hg k2 he HL) ?_
  rintro e a3 w3 ⟨e', ρ3, j1, j2, j3, j4, j5⟩
  cases e' <;> simp only at j5
  have : e = .normal := by cases e <;> simp [exOf] at j1 <;> rfl
  subst this
  refine wpIn_mono (cwY_sound (ro := none) (m := 0) (ylok_none _) C annC _ _ _ w3 j5 j2) ?_
  intro e a4 w4 hq
  have := leave_in (m := 0) hq
  obtain ⟨e', ρ', h1', h2', h3', h4', h5'⟩ := hq
  have kk := (h3.trans k3).trans j3
  have hq2 : liftD (markOf w2.heap.size) fn.ntmps w a3 (writesC C) (finD P fn.results.toList w2.heap.size Q) e a4 w4 := ⟨e', ρ', h1', h2', kk.trans h3', h4', h5'⟩
  exact leave_in (m := 0) hq2
end
end Go.Lift

/- From a function's body to its calls. -/
import Derived.Test.YtgdiihffjogdiaaGreatDoorLvK
import Derived.Below
set_option linter.unusedSimpArgs false
set_option linter.unusedVariables false
namespace Go.Lift
variable {D : Prop}
open Go

def retW (P : Program) (h : Hp) (ρ : Fr) : List ResultVar → (List Value → Prop) → Prop
  | [], K => K []
  | .tmp t :: rs, K => e1 (ρ t) fun v => retW P h ρ rs fun vs => K (v :: vs)
  | .cell a t :: rs, K => e1 (ρ a) fun p => adW p fun ad => ldW P t ad h fun v => retW P h ρ rs fun vs => K (v :: vs)
def finQ (P : Program) (rs : List ResultVar) (Q : List Value → Hp → Prop) : Post := fun e ρ h =>
  match e with
  | .exit _ => False
  | _ => retW P h ρ rs fun vs => Q vs h
def argFr (args : List Value) : Fr := fun t => args[t]?

section
variable {P : Program}
theorem ldW_det {t : TypeId} {a : Addr} {h : Hp} {K : Value → Prop} (H : ldW P t a h K) : ∃ v, K v ∧ ∀ (K' : Value → Hp → Prop), K' v h → semR P (loadVar t a) h K' := by
  have : ∃ v, K v ∧ ∀ K2 : Value → Prop, K2 v → ldW P t a h K2 := by
    unfold ldW at H ⊢
    split at H
    · rename_i ct hl
      exact exC_det H
    · rename_i ts hl
      have key : ∀ (ts : List CT) (i : Nat) (K : List Value → Prop), ldL h a i ts K → ∃ vs, K vs ∧ ∀ K2 : List Value → Prop, K2 vs → ldL h a i ts K2 := by
        intro ts
        induction ts with
        | nil => intro i K H; exact ⟨[], H, fun K2 h2 => h2⟩
        | cons t ts ih =>
          intro i K H
          obtain ⟨v, h1, h2⟩ := exC_det H
          obtain ⟨vs, h3, h4⟩ := ih _ _ h1
          refine ⟨v :: vs, h3, fun K2 hk => ?_⟩
          exact h2 _ (h4 _ hk)
      obtain ⟨vs, h1, h2⟩ := key ts 0 _ H
      exact ⟨_, h1, fun K2 hk => h2 _ hk⟩
    · exact H.elim
  obtain ⟨v, h1, h2⟩ := this
  exact ⟨v, h1, fun K' hK => ldW_sound (h2 (fun w => w = v) rfl) fun w hw => by rw [hw]; exact hK⟩
def resM (tmps : Array Value) : ResultVar → Sem Value
  | .tmp t => pure (tmps.getD t undef)
  | .cell a t => do loadVar t (← asAddr (tmps.getD a undef))
theorem retW_spec {n : Nat} {h : Hp} {ρ : Fr} {a : Act} (hf : Fits n ρ a) : ∀ (rs : List ResultVar) (K : List Value → Prop), retW P h ρ rs K →
    ∃ vs, K vs ∧ vs.length = rs.length ∧ ∀ (F : ResultVar → Sem Value), (∀ r, F r = resM a.tmps r) → ∀ (K' : List Value → Hp → Prop), K' vs h → semR P (rs.mapM F) h K'
  | [], K, H => ⟨[], H, rfl, fun F hF K' hK => by rw [List.mapM_nil]; exact hK⟩
  | .tmp t :: rs, K, H => by
    obtain ⟨v, h1, h2⟩ := e1_some H
    obtain ⟨vs, h3, h4, h5⟩ := retW_spec hf rs _ h2
    refine ⟨v :: vs, h3, by simp [h4], fun F hF K' hK => ?_⟩
    rw [List.mapM_cons, semR_bind', hF]
    have := hf.kn t v h1
    simp only [resM, semR_pure]
    rw [semR_bind']
    have e : a.tmps.getD t undef = v := by simp [this]
    rw [e]
    exact h5 F hF _ hK
  | .cell ad t :: rs, K, H => by
    obtain ⟨p, h1, H1⟩ := e1_some H
    obtain ⟨b, rfl, H2⟩ := adW_some H1
    obtain ⟨v, g1, g2⟩ := ldW_det H2
    obtain ⟨vs, h3, h4, h5⟩ := retW_spec hf rs _ g1
    refine ⟨v :: vs, h3, by simp [h4], fun F hF K' hK => ?_⟩
    rw [List.mapM_cons, semR_bind', hF]
    have := hf.kn ad _ h1
    have e : a.tmps.getD ad undef = .pointer (some b) := by simp [this]
    simp only [resM, e, asAddr, semR_bind', semR_pure]
    refine g2 _ ?_
    exact h5 F hF _ hK
theorem results_sound {fn : Func} {n : Nat} {h : Hp} {ρ : Fr} {a : Act} (hf : Fits n ρ a) {K : List Value → Prop} (H : retW P h ρ fn.results.toList K) :
    ∃ vs, K vs ∧ semR P (results fn a.tmps) h (fun v _ => v = packR vs) := by
  obtain ⟨vs, h1, h2, h3⟩ := retW_spec hf _ _ H
  refine ⟨vs, h1, ?_⟩
  unfold results
  rw [semR_bind', Array.mapM_eq_mapM_toList]
  show semR P (_ <$> _) h _
  rw [map_eq_pure_bind, semR_bind']
  refine h3 _ (fun r => by cases r <;> rfl) _ ?_
  simp only [semR_pure]
  cases vs with
  | nil => rfl
  | cons v vs =>
    cases vs with
    | nil => rfl
    | cons u vs => simp [packR]
theorem calls_of_cw {f : FuncId} {fn : Func} {c : Code} {args : List Value} {h : Hp} {hs : Hints} {ann : Ann} {Q : List Value → Hp → Prop} (hm : P.follows .mixedOrders = true)
    (hf : P.funcs[f]? = some fn) (hb : fn.body = some c) (hn : Nat.ble args.length fn.ntmps = true) (H : cwD D P fn.ntmps hs c ann (finQ P fn.results.toList Q) (argFr args) h) : CallsD D P f args.toArray h Q := by
  intro w hw
  subst hw
  have hle : args.length ≤ fn.ntmps := Nat.le_of_ble_eq_true hn
  refine calls_of_wp hf hb ?_
  have hfit : Fits fn.ntmps (argFr args) { tmps := args.toArray ++ Array.replicate (fn.ntmps - args.toArray.size) undef, defers := [] } := by
    refine ⟨rfl, by simp; omega, fun t v hv => ?_⟩
    have hlt : t < args.length := by
      rcases Nat.lt_or_ge t args.length with h | h
      · exact h
      · simp [argFr, List.getElem?_eq_none h] at hv
    rw [Array.getElem?_append_left (by simpa using hlt)]
    simpa [argFr] using hv
  refine wp_mono (cw_sound hm c ann _ _ _ w H hfit) ?_
  rintro e a' w' ⟨e', ρ', h1, h2, h3, h4, h5⟩
  cases e' with
  | exit id => exact h5.elim
  | normal =>
    have : e = .normal := by cases e <;> simp [exOf] at h1 <;> rfl
    subst this
    obtain ⟨vs, g1, g2⟩ := results_sound h2 h5
    obtain ⟨v, g3, g4⟩ := semR_run _ w' _ g2
    exact ⟨h2.dz, v, g3, vs, by rw [g4], h3, g1⟩
  | ret =>
    have : e = .ret := by cases e <;> simp [exOf] at h1 <;> rfl
    subst this
    obtain ⟨vs, g1, g2⟩ := results_sound h2 h5
    obtain ⟨v, g3, g4⟩ := semR_run _ w' _ g2
    exact ⟨h2.dz, v, g3, vs, by rw [g4], h3, g1⟩
theorem fn_of_calls {f : FuncId} {fn : Func} {c : Code} {args : Array Value} {h : Hp} {Q : List Value → Hp → Prop} (hf : P.funcs[f]? = some fn) (hb : fn.body = some c)
    (hn : (fn.name == "runtime.NumGoroutine") = false) (H : CallsD D P f args h Q) : FnD D P f args h Q := by
  unfold FnD callFunc
  simp only [semW_bind', semW_program, hf]
  simp only [hn, Bool.false_eq_true, if_false, hb, Option.isNone_some]
  exact H.mono fun vs h' hq => ⟨vs, rfl, hq⟩
theorem fn_of_cw {f : FuncId} {fn : Func} {c : Code} {args : List Value} {h : Hp} {hs : Hints} {ann : Ann} {Q : List Value → Hp → Prop} (hm : P.follows .mixedOrders = true)
    (hf : P.funcs[f]? = some fn) (hb : fn.body = some c) (hN : (fn.name == "runtime.NumGoroutine") = false) (hn : Nat.ble args.length fn.ntmps = true)
    (H : cwD D P fn.ntmps hs c ann (finQ P fn.results.toList Q) (argFr args) h) : FnD D P f args.toArray h Q :=
  fn_of_calls hf hb hN (calls_of_cw hm hf hb hn H)
end
abbrev Kept := KeptD False
theorem Kept.refl (w : World) : Kept w w := KeptD.refl w
theorem Kept.trans {a b c : World} (h : Kept a b) (k : Kept b c) : Kept a c := KeptD.trans h k
abbrev CallsH := CallsD False
abbrev Fn := FnD False
abbrev cw := cwD False
theorem KeptD.weak {a b : World} (h : KeptD D a b) : Kept a b := ⟨h.os, h.output, h.tape, fun f => f.elim⟩
theorem CallsD.weak {P : Program} {f : FuncId} {args : Array Value} {h : Hp} {Q : List Value → Hp → Prop} (H : CallsD D P f args h Q) : CallsH P f args h Q :=
  fun w hw => (H w hw).mono fun _ _ ⟨vs, e, k, q⟩ => ⟨vs, e, k.weak, q⟩
theorem FnD.weak {P : Program} {f : FuncId} {args : Array Value} {h : Hp} {Q : List Value → Hp → Prop} (H : FnD D P f args h Q) : Fn P f args h Q :=
  semW_mono _ (fun nx _ H => by cases nx <;> first | exact H.elim | exact CallsD.weak H | exact H) h H
end Go.Lift

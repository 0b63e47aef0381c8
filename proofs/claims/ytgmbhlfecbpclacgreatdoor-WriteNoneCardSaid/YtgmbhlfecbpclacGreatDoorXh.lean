/- The evaluator's quiet operations, all of them; the loud ones. -/
import Derived.Test.YtgmbhlfecbpclacGreatDoorXg
set_option linter.unusedSimpArgs false
set_option linter.unusedVariables false
namespace Go.Lift
open Go
def RR (E : EX) (r : Option XV) (v : Option Value) : Prop := match r with | none => True | some x => ∃ u, v = some u ∧ RV E x u
theorem RR.grow {E E' : EX} {r : Option XV} {v : Option Value} (hg : Grow E E') (h : RR E r v) : RR E' r v := by
  cases r with
  | none => trivial
  | some x => obtain ⟨u, h1, h2⟩ := h; exact ⟨u, h1, h2.grow hg⟩
theorem RF.rr {E : EX} {n : Nat} {ρ : XF} {τ : Fr} (h : RF E n ρ τ) (x : Operand) : RR E (evX ρ x) (_root_.Go.Lift.ev τ x) := by
  cases hx : evX ρ x with
  | none => trivial
  | some v => exact h.ev hx
section
variable {P : Program} {E : EX} {C : XH} {h : Hp}
theorem minX_sound {x y z : XV} {a b : Value} {K : Value → Prop} (hz : minX x y = some z) (hx : RV E x a) (hy : RV E y b) (hK : ∀ u, RV E z u → K u) : minV a b K := by
  unfold minX at hz
  split at hz
  · simp only [RV] at hx hy; subst hx hy
    rw [iLt_eq] at hz
    simp only [minV, mnI]
    split at hz
    · rename_i g
      simp only [decide_eq_true_eq] at g
      rw [if_pos g]
      simp only [Option.some.injEq] at hz; subst hz; exact hK _ rfl
    · rename_i g
      simp only [decide_eq_false_iff_not] at g
      rw [if_neg g]
      simp only [Option.some.injEq] at hz; subst hz; exact hK _ rfl
  · cases hz
theorem maxX_sound {x y z : XV} {a b : Value} {K : Value → Prop} (hz : maxX x y = some z) (hx : RV E x a) (hy : RV E y b) (hK : ∀ u, RV E z u → K u) : maxV a b K := by
  unfold maxX at hz
  split at hz
  · simp only [RV] at hx hy; subst hx hy
    rw [iLt_eq] at hz
    simp only [maxV, mxI]
    split at hz
    · rename_i g
      simp only [decide_eq_true_eq] at g
      rw [if_pos g]
      simp only [Option.some.injEq] at hz; subst hz; exact hK _ rfl
    · rename_i g
      simp only [decide_eq_false_iff_not] at g
      rw [if_neg g]
      simp only [Option.some.injEq] at hz; subst hz; exact hK _ rfl
  · cases hz
theorem capX_sound {t : TypeId} {x z : XV} {a : Value} {K : Value → Prop} (hz : capX P t x = some z) (hx : RV E x a) (hK : ∀ u, RV E z u → K u) : capV P t a K := by
  unfold capX at hz
  split at hz
  · rename_i ht
    simp only [Option.some.injEq] at hz; subst hz
    simp only [RV] at hx; subst hx
    simp only [capV, ht]
    exact hK _ rfl
  · rename_i e a' n c ht
    simp only [Option.some.injEq] at hz; subst hz
    obtain ⟨b, _, rfl⟩ := hx
    simp only [capV, ht]
    exact hK _ rfl
  · cases hz
/-- What a quiet operation leaves to be shown anew. -/
def Anew (P : Program) (E : EX) (o : Oper) (ρ : XF) (r : Option XV) (fs : List (Hp → Prop)) : Prop :=
  factOk P o.op = true → ∀ E' C' h' r2, Grow E E' → RH P E' C' h' → quX P o ρ C' = some r2 → eqOV r r2 = true → allF fs h'
theorem Anew.nil {o : Oper} {ρ : XF} {r : Option XV} : Anew P E o ρ r [] := fun _ _ _ h' _ _ _ _ _ => allF_nil
theorem quBX_sound {b : Builtin} {as : List XV} {vs : List Value} {ts : Array TypeId} {z : XV} {K : Value → List (Hp → Prop) → Prop} (H : RH P E C h) (hz : quBX P b as ts C = some z) (hx : RVs E as vs)
    (hK : ∀ u fs, RV E z u → ((b = .len → ∀ t, ts[0]? = some t → ∀ k e, P.underlying t ≠ some (.map k e)) → fs = []) → K u fs) : quB P b vs ts h K := by
  unfold quBX at hz
  split at hz
  · rename_i x t ht
    obtain ⟨a, m, rfl, h1, h2⟩ := hx
    simp only [RVs] at h2; subst h2
    simp only [quB, ht]
    exact lenOX_sound H hz h1 fun u fs hu hf => hK u fs hu fun g => hf fun k e => g rfl t ht k e
  · rename_i x t ht
    obtain ⟨a, m, rfl, h1, h2⟩ := hx
    simp only [RVs] at h2; subst h2
    simp only [quB, ht]
    exact capX_sound hz h1 fun u hu => hK u [] hu fun _ => rfl
  · rename_i x y
    obtain ⟨a, m, rfl, h1, a2, m2, rfl, h2, h3⟩ := hx
    simp only [RVs] at h3; subst h3
    simp only [quB]
    exact minX_sound hz h1 h2 fun u hu => hK u [] hu fun _ => rfl
  · rename_i x y
    obtain ⟨a, m, rfl, h1, a2, m2, rfl, h2, h3⟩ := hx
    simp only [RVs] at h3; subst h3
    simp only [quB]
    exact maxX_sound hz h1 h2 fun u hu => hK u [] hu fun _ => rfl
  · cases hz
theorem adW_of {p : Value} {K : Addr → Prop} {a : Addr} (hp : p = .pointer (some a)) (h : K a) : adW p K := by subst hp; exact h
theorem quX_sound {o : Oper} {ρ : XF} {τ : Fr} {n : Nat} {r : Option XV} {K : Option Value → List (Hp → Prop) → Prop} (H : RH P E C h) (hf : RF E n ρ τ) (hq : quX P o ρ C = some r)
    (hK : ∀ r' fs, RR E r r' → Anew P E o ρ r fs → K r' fs) : quW P o τ h K := by
  have hK0 : ∀ r', RR E r r' → K r' [] := fun r' hr => hK r' [] hr .nil
  unfold quX at hq
  unfold quW
  cases hop : o.op
  case move x => simp only [hop, Option.some.injEq] at hq ⊢; subst hq; exact hK0 _ (hf.rr x)
  case assign x => simp only [hop, Option.some.injEq] at hq ⊢; subst hq; exact hK0 _ (hf.rr x)
  case pick c a b =>
    simp only [hop] at hq ⊢
    split at hq
    · rename_i t hc
      obtain ⟨u, h1, h2⟩ := hf.ev hc
      simp only [RV] at h2; subst h2
      rw [h1]
      simp only [pickW]
      cases t with
      | true =>
        simp only [Option.some.injEq] at hq; subst hq
        have := hf.rr a
        split
        · rename_i x y ha hb; rw [ha] at this; exact hK0 _ this
        · exact hK0 _ this
      | false =>
        simp only [Option.some.injEq] at hq; subst hq
        have := hf.rr b
        split
        · rename_i x y ha hb; rw [hb] at this; exact hK0 _ this
        · exact hK0 _ this
    · cases hq
  case build t ps =>
    simp only [hop] at hq ⊢
    obtain ⟨vs, h1, hq⟩ := bnd_some hq
    obtain ⟨v, h2, hq⟩ := bnd_some hq
    simp only [Option.some.injEq] at hq; subst hq
    obtain ⟨us, g1, g2⟩ := hf.evp h1
    obtain ⟨u, g3, g4⟩ := bldX_sound h2 g2
    simp only [eP, g1, e1, g3]
    exact hK0 _ ⟨u, rfl, g4⟩
  case load t a =>
    simp only [hop] at hq ⊢
    obtain ⟨p, h1, hq⟩ := bnd_some hq
    obtain ⟨v, h2, hq⟩ := bnd_some hq
    simp only [Option.some.injEq] at hq; subst hq
    obtain ⟨pv, g1, g2⟩ := hf.ev h1
    obtain ⟨k, of, b, u, rfl, g3, rfl, g4, g5, g6, _⟩ := ldX_spec H h2 g2
    simp only [g1, e1]
    refine adW_of rfl (g6 _ fun fs hfs => hK _ fs ⟨u, rfl, g4⟩ fun _ E' C' h' r2 hg H' hq' he => hfs h' ?_)
    unfold quX at hq'
    simp only [hop, h1] at hq'
    obtain ⟨p', e', hq'⟩ := bnd_some hq'
    cases e'
    obtain ⟨v', h2', hq'⟩ := bnd_some hq'
    simp only [Option.some.injEq] at hq'; subst hq'
    obtain ⟨k', of', b', u', e1, k3, k4, k5, k6, _⟩ := ldX_spec H' h2' (g2.grow hg)
    cases e1
    rw [hg _ _ g3] at k3; cases k3
    have : u = u' := RV.uniq hg (by simpa [eqOV] using he) g4 k5
    subst this
    exact k6
  case nilCheck x =>
    simp only [hop] at hq ⊢
    obtain ⟨p, h1, hq⟩ := bnd_some hq
    obtain ⟨v, h2, hq⟩ := bnd_some hq
    simp only [Option.some.injEq] at hq; subst hq
    obtain ⟨pv, g1, g2⟩ := hf.ev h1
    simp only [g1, e1]
    exact nilX_sound h2 g2 fun u hu => hK0 _ ⟨u, rfl, hu⟩
  case binOp op t x y ty =>
    simp only [hop] at hq ⊢
    obtain ⟨a, h1, hq⟩ := bnd_some hq
    obtain ⟨b, h2, hq⟩ := bnd_some hq
    obtain ⟨v, h3, hq⟩ := bnd_some hq
    simp only [Option.some.injEq] at hq; subst hq
    obtain ⟨av, g1, g2⟩ := hf.ev h1
    obtain ⟨bv, g3, g4⟩ := hf.ev h2
    simp only [g1, g3, e1]
    exact binX_sound h3 g2 g4 fun u hu => hK0 _ ⟨u, rfl, hu⟩
  case unOp op t x =>
    simp only [hop] at hq ⊢
    obtain ⟨a, h1, hq⟩ := bnd_some hq
    obtain ⟨v, h3, hq⟩ := bnd_some hq
    simp only [Option.some.injEq] at hq; subst hq
    obtain ⟨av, g1, g2⟩ := hf.ev h1
    simp only [g1, e1]
    exact unX_sound h3 g2 fun u hu => hK0 _ ⟨u, rfl, hu⟩
  case convert s d x =>
    simp only [hop] at hq ⊢
    obtain ⟨a, h1, hq⟩ := bnd_some hq
    obtain ⟨v, h3, hq⟩ := bnd_some hq
    simp only [Option.some.injEq] at hq; subst hq
    obtain ⟨av, g1, g2⟩ := hf.ev h1
    simp only [g1, e1]
    refine cvX_sound H h3 g2 fun u fs hu hfs => hK _ fs ⟨u, rfl, hu⟩ fun hok => ?_
    have : fs = [] := hfs fun e he => by simp [factOk, hop, he] at hok
    subst this
    intro _ _ _ _ _ _ _ _; exact allF_nil
  case makeFunc fn fs c =>
    cases fn <;> simp only [hop, reduceCtorEq] at hq
    rename_i f
    simp only [hop]
    split at hq
    · rename_i hfs
      obtain ⟨cv, h1, hq⟩ := bnd_some hq
      simp only [Option.some.injEq] at hq; subst hq
      obtain ⟨us, g1, g2⟩ := hf.evs h1
      simp only [hfs, evL, eL, g1]
      exact hK0 _ ⟨_, rfl, us, rfl, g2⟩
    · obtain ⟨fv, h0, hq⟩ := bnd_some hq
      obtain ⟨cv, h1, hq⟩ := bnd_some hq
      simp only [Option.some.injEq] at hq; subst hq
      obtain ⟨ws, k1, k2⟩ := hf.evs h0
      obtain ⟨us, g1, g2⟩ := hf.evs h1
      simp only [k1, eL, g1]
      exact hK0 _ ⟨_, rfl, ws, us, rfl, k2, g2⟩
  case slice t x lo hi m =>
    cases m with
    | some m => simp only [hop, reduceCtorEq] at hq
    | none =>
      simp only [hop] at hq ⊢
      obtain ⟨v, h1, hq⟩ := bnd_some hq
      obtain ⟨vv, g1, g2⟩ := hf.ev h1
      simp only [g1, e1]
      rcases lo with _ | l <;> rcases hi with _ | u <;> simp only [eO]
      · obtain ⟨z, h2, hq⟩ := bnd_some hq
        simp only [Option.some.injEq] at hq; subst hq
        exact slX_sound h2 g2 rfl rfl fun u hu => hK0 _ ⟨u, rfl, hu⟩
      · obtain ⟨uv, h3, hq⟩ := bnd_some hq
        obtain ⟨z, h2, hq⟩ := bnd_some hq
        simp only [Option.some.injEq] at hq; subst hq
        obtain ⟨w, k1, k2⟩ := hf.ev h3
        simp only [k1, e1]
        exact slX_sound h2 g2 rfl (.of k2) fun u hu => hK0 _ ⟨u, rfl, hu⟩
      · obtain ⟨uv, h3, hq⟩ := bnd_some hq
        obtain ⟨z, h2, hq⟩ := bnd_some hq
        simp only [Option.some.injEq] at hq; subst hq
        obtain ⟨w, k1, k2⟩ := hf.ev h3
        simp only [k1, e1]
        exact slX_sound h2 g2 (.of k2) rfl fun u hu => hK0 _ ⟨u, rfl, hu⟩
      · obtain ⟨lv, h3, hq⟩ := bnd_some hq
        obtain ⟨uv, h4, hq⟩ := bnd_some hq
        obtain ⟨z, h2, hq⟩ := bnd_some hq
        simp only [Option.some.injEq] at hq; subst hq
        obtain ⟨w, k1, k2⟩ := hf.ev h3
        obtain ⟨w2, k3, k4⟩ := hf.ev h4
        simp only [k1, k3, e1]
        exact slX_sound h2 g2 (.of k2) (.of k4) fun u hu => hK0 _ ⟨u, rfl, hu⟩
  case fieldAddr t x f =>
    simp only [hop] at hq ⊢
    obtain ⟨a, h1, hq⟩ := bnd_some hq
    obtain ⟨v, h3, hq⟩ := bnd_some hq
    simp only [Option.some.injEq] at hq; subst hq
    obtain ⟨av, g1, g2⟩ := hf.ev h1
    simp only [g1, e1]
    exact fldX_sound h3 g2 fun u hu => hK0 _ ⟨u, rfl, hu⟩
  case field t x f =>
    simp only [hop] at hq ⊢
    obtain ⟨a, h1, hq⟩ := bnd_some hq
    obtain ⟨v, h3, hq⟩ := bnd_some hq
    simp only [Option.some.injEq] at hq; subst hq
    obtain ⟨av, g1, g2⟩ := hf.ev h1
    simp only [g1, e1]
    exact fieldX_sound h3 g2 fun u hu => hK0 _ ⟨u, rfl, hu⟩
  case indexAddr t x i =>
    simp only [hop] at hq ⊢
    obtain ⟨a, h1, hq⟩ := bnd_some hq
    obtain ⟨b, h2, hq⟩ := bnd_some hq
    obtain ⟨v, h3, hq⟩ := bnd_some hq
    simp only [Option.some.injEq] at hq; subst hq
    obtain ⟨av, g1, g2⟩ := hf.ev h1
    obtain ⟨bv, g3, g4⟩ := hf.ev h2
    simp only [g1, g3, e1]
    exact ixX_sound h3 g2 g4 fun u hu => hK0 _ ⟨u, rfl, hu⟩
  case index t x i =>
    simp only [hop] at hq ⊢
    obtain ⟨a, h1, hq⟩ := bnd_some hq
    obtain ⟨b, h2, hq⟩ := bnd_some hq
    obtain ⟨v, h3, hq⟩ := bnd_some hq
    simp only [Option.some.injEq] at hq; subst hq
    obtain ⟨av, g1, g2⟩ := hf.ev h1
    obtain ⟨bv, g3, g4⟩ := hf.ev h2
    simp only [g1, g3, e1]
    exact indexX_sound h3 g2 g4 fun u hu => hK0 _ ⟨u, rfl, hu⟩
  case lookup t m k ok =>
    simp only [hop] at hq ⊢
    obtain ⟨a, h1, hq⟩ := bnd_some hq
    obtain ⟨b, h2, hq⟩ := bnd_some hq
    obtain ⟨v, h3, hq⟩ := bnd_some hq
    simp only [Option.some.injEq] at hq; subst hq
    obtain ⟨av, g1, g2⟩ := hf.ev h1
    obtain ⟨bv, g3, g4⟩ := hf.ev h2
    simp only [g1, g3, e1]
    obtain ⟨u, k1, k2, k3⟩ := lookX_spec H h3 g2 g4
    refine k3 _ fun fs hfs => hK _ fs ⟨u, rfl, k1⟩ fun _ E' C' h' r2 hg H' hq' he => hfs h' ?_
    unfold quX at hq'
    simp only [hop, h1, h2] at hq'
    obtain ⟨a', e', hq'⟩ := bnd_some hq'
    cases e'
    obtain ⟨b', e', hq'⟩ := bnd_some hq'
    cases e'
    obtain ⟨v', h3', hq'⟩ := bnd_some hq'
    simp only [Option.some.injEq] at hq'; subst hq'
    obtain ⟨u', j1, j2, _⟩ := lookX_spec H' h3' (g2.grow hg) (g4.grow hg)
    have : u = u' := RV.uniq hg (by simpa [eqOV] using he) k1 j1
    subst this
    exact j2
  case extract x i =>
    simp only [hop] at hq ⊢
    obtain ⟨a, h1, hq⟩ := bnd_some hq
    obtain ⟨av, g1, g2⟩ := hf.ev h1
    split at hq
    · rename_i l
      obtain ⟨v, h3, hq⟩ := bnd_some hq
      simp only [Option.some.injEq] at hq; subst hq
      obtain ⟨m, rfl, g3⟩ := g2
      rw [nthX_eq] at h3
      obtain ⟨u, g4, g5⟩ := g3.get h3
      simp only [g1, e1, extV, List.getElem?_toArray, g4]
      exact hK0 _ ⟨u, rfl, g5⟩
    · cases hq
  case call c =>
    obtain ⟨callee, args, ats⟩ := c
    cases callee <;> simp only [hop, reduceCtorEq] at hq
    rename_i b
    simp only [hop]
    obtain ⟨as, h1, hq⟩ := bnd_some hq
    obtain ⟨v, h3, hq⟩ := bnd_some hq
    simp only [Option.some.injEq] at hq; subst hq
    obtain ⟨us, g1, g2⟩ := hf.evs h1
    simp only [g1, eL]
    refine quBX_sound H h3 g2 fun u fs hu hfs => hK _ fs ⟨u, rfl, hu⟩ fun hok => ?_
    have : fs = [] := hfs fun hb t ht k e he => by subst hb; simp [factOk, hop, ht, he] at hok
    subst this
    intro _ _ _ _ _ _ _ _; exact allF_nil
  all_goals simp only [hop, reduceCtorEq] at hq
end
end Go.Lift

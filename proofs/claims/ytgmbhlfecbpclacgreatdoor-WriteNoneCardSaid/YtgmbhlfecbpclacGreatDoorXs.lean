/- A run in stages: a call's outcome, written down, serves as the call's contract. -/
import Derived.Test.YtgmbhlfecbpclacGreatDoorXr
set_option linter.unusedSimpArgs false
set_option linter.unusedVariables false
namespace Go.Lift
open Go
noncomputable section
structure StgX where
  as' : List XV
  C : XH
  vs : List XV
  D : XH
def stgX : List StgX → List XV → XH → Option (List XV × XH)
  | [], _, _ => none
  | s :: l, as, C => match eqVs as s.as' && eqH C s.C with | true => some (s.vs, s.D) | false => stgX l as C
def withX (f : Nat) (l : List StgX) (ext : HookX) : HookX := fun j => match Nat.beq j f with | true => some (stgX l) | false => ext j
def stageX (P : Program) (ext : HookX) (n f : Nat) (s : StgX) : Bool :=
  match runX P ext n f s.as' s.C with
  | some [r] => match cmpR (lenX s.C 0) r with
    | some q => eqVs q.1 s.vs && eqH q.2 s.D
    | none => false
  | _ => false
def StageOK (P : Program) (f : Nat) (s : StgX) : Prop := ∀ E h vs, RVs E s.as' vs → RH P E s.C h → ∀ Q : List Value → Hp → Prop, (∀ E' us h', Adv E s.C h E' s.D h' → RH P E' s.D h' → RVs E' s.vs us → Q us h') → Fn P f vs.toArray h Q
section
variable {P : Program} {ext : HookX}
theorem stageX_ok (hm : P.follows .mixedOrders = true) (hN : NameOK P) (he : HookOK P ext) {n f : Nat} {s : StgX} (hs : stageX P ext n f s = true) : StageOK P f s := by
  intro E h vs hv H Q hQ
  unfold stageX at hs
  split at hs
  · rename_i r hr
    split at hs
    · rename_i q hq
      simp only [Bool.and_eq_true] at hs
      rw [lenX_0] at hq
      refine callX_ok hN he (exX_ok hm hN he n).1 f s.as' s.C [r] hr E h vs hv H Q fun r' hr' E' us h' ha hh hus => ?_
      simp only [List.mem_singleton] at hr'
      subst hr'
      obtain ⟨E2, k1, k2, k3⟩ := cmpR_sound H ha hh hus hq
      rw [eqH_eq hs.2] at k1 k2
      rw [eqVs_eq hs.1] at k3
      exact hQ E2 us h' k1 k2 k3
    · cases hs
  · cases hs
theorem stgX_ok {f : Nat} : ∀ {l : List StgX}, (∀ s ∈ l, StageOK P f s) → ∀ as C r, stgX l as C = some r → ∀ E h vs, RVs E as vs → RH P E C h → ∀ Q : List Value → Hp → Prop, (∀ E' us h', Adv E C h E' r.2 h' → RH P E' r.2 h' → RVs E' r.1 us → Q us h') → Fn P f vs.toArray h Q
  | [], _, as, C, r, h => by cases h
  | s :: l, hl, as, C, r, h => by
    unfold stgX at h
    split at h
    · rename_i g
      simp only [Bool.and_eq_true] at g
      have e1 := eqVs_eq g.1
      have e2 := eqH_eq g.2
      subst e1 e2
      simp only [Option.some.injEq] at h
      subst h
      exact hl s (by simp)
    · exact stgX_ok (fun s hs => hl s (List.mem_cons_of_mem _ hs)) as C r h
theorem withX_ok (he : HookOK P ext) {f : Nat} {l : List StgX} (hl : ∀ s ∈ l, StageOK P f s) : HookOK P (withX f l ext) := by
  intro j g hg
  unfold withX at hg
  split at hg
  · rename_i hj
    have := nbeq hj
    subst this
    simp only [Option.some.injEq] at hg
    subst hg
    exact stgX_ok hl
  · exact he j g hg
end
/-! short names for what is written down -/
def xI (n : Nat) : XV := .int .i64 (.ofNat n)
def xJ (n : Nat) : XV := .int .i64 (.negSucc n)
def xP (k o : Nat) : XV := .ptr (some (k, o))
def xN : XV := .ptr none
def xL (k o n c : Nat) (e : Bool) : XV := .sl (some (k, o)) n c e
def xZ : XV := .sl none 0 0 true
def xS (l : List Nat) : XV := .str l
def xB (b : Bool) : XV := .bool b
def xC (l : List XV) (e : TypeId) : XO := .cells l e
end
end Go.Lift

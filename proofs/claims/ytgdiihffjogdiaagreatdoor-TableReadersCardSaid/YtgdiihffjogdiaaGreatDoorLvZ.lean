/- A map, or none, is gone through by a loop that carries values. -/
import Derived.Test.YtgdiihffjogdiaaGreatDoorLvX
set_option linter.unusedSimpArgs false
set_option linter.unusedVariables false
namespace Go.Lift
open Go
section
variable {K V : Type} (ek : K → Value) (ev : V → Value)
/-- The map that a name stands for, if it stands for one, has T. -/
def MapN (h : Hp) (r : Option Nat) (T : List (K × V)) : Prop :=
  match r with
  | none => T = []
  | some m => IsMap ek ev h m T
def RangeO (g : Hp) (b : Nat) (r : Option Nat) (T done : List (K × V)) : Prop :=
  match r with
  | none => T = [] ∧ done = [] ∧ g[b]? = some (.mapIter none 0 #[] 0)
  | some m => RangeAt ek ev g b m T done
end
section
variable {K V : Type} {ek : K → Value} {ev : V → Value} {g : Hp} {b : Nat} {r : Option Nat} {T done : List (K × V)}
theorem RangeO.ext {S : List Nat} {g' : Hp} (hr : RangeO ek ev g b r T done) (he : Ext S g g') (h1 : b ∉ S) (h2 : ∀ m, r = some m → m ∉ S) : RangeO ek ev g' b r T done := by
  cases r with
  | none => exact ⟨hr.1, hr.2.1, he.get hr.2.2 h1⟩
  | some m => exact RangeAt.ext hr he h1 (h2 m rfl)
theorem rangeO_start {h : Hp} (hm : MapN ek ev h r T) : ∃ o, IterOf h r o ∧ ∀ {g : Hp} {b : Nat}, g[b]? = some o → Ext [] h g → RangeO ek ev g b r T [] := by
  cases r with
  | none => exact ⟨.mapIter none 0 #[] 0, Or.inl ⟨rfl, rfl⟩, fun hb _ => ⟨hm, rfl, hb⟩⟩
  | some m =>
    obtain ⟨o, h1, h2⟩ := range_start (h := h) hm
    exact ⟨o, h1, h2⟩
/-- A range that carries values, over a map that the body leaves as it is. -/
theorem rangeV {A : Type} {va : A → List Value} {X : List Value → Hp → Prop} {E : A → Hp → Prop} {B : A → MapEntry → Hp → Prop} {P1 P2 : Prop}
    (hX : ∀ (a : A) (h8 : Hp), (P1 ∧ ∃ o9 : Obj, h8[b]? = some o9 ∧ IterGood h8 o9 ∧ (IterEnd h8 o9 → E a h8) ∧
      ∀ (k10 v11 : Value) (o12 : Obj), IterStep h8 o9 k10 v11 o12 → wth (Array.setIfInBounds h8 b o12) fun h54 =>
        (P2 ∧ ∃ (m55 n56 : Nat) (q57 : Array Nat) (n58 : Nat) (es59 : Array MapEntry) (c60 : Nat) (e61 : MapEntry), h54[b]? = some (.mapIter (some m55) n56 q57 c60) ∧ Array.back? q57 = some n58 ∧ h54[m55]? = some (.map es59 c60) ∧ Array.find? (fun x => x.born == n58) es59 = some e61 ∧ B a e61 h54)) → X (va a) h8)
    (I : List (K × V) → A → Hp → Prop)
    (hend : ∀ done a g, I done a g → done.Perm T → E a g)
    (hstep : ∀ done p a g e g', I done a g → (∃ rest, (done ++ [p] ++ rest).Perm T) → e.key = ek p.1 → e.val = ev p.2 → Ext [b] g g' → g'.size = g.size → RangeO ek ev g' b r T (done ++ [p]) →
      (∀ a' g'', I (done ++ [p]) a' g'' → RangeO ek ev g'' b r T (done ++ [p]) → X (va a') g'') → B a e g')
    (g : Hp) (done : List (K × V)) (a : A) (hI : I done a g) (hr : RangeO ek ev g b r T done) (hp1 : P1 := by trivial) (hp2 : P2 := by trivial) : X (va a) g := by
  cases r with
  | none =>
    obtain ⟨h1, h2, h3⟩ := hr
    subst h1 h2
    exact hX _ _ ⟨hp1, _, h3, .nil _ _ _, fun _ => hend _ _ _ hI (List.Perm.refl _), fun k v o hs => by cases hs⟩
  | some m =>
  have hr : RangeAt ek ev g b m T done := hr
  have key : ∀ d g done a, T.length - done.length = d → I done a g → RangeAt ek ev g b m T done → X (va a) g := by
    intro d
    induction d using Nat.strongRecOn with
    | ind d ih =>
      intro g done a hd hI hr
      have hr0 := hr
      obtain ⟨es, c, seen, A', R, rest, q1, q2⟩ := hr0
      refine hX _ _ ⟨hp1, _, q1.it, q1.good, fun he => hend done a g hI (hr.over q1.it he), fun k v o hs => ?_⟩
      obtain ⟨p, es', c', seen', e, ⟨rest', hp⟩, ho, hm, hf, hk, hv, hnext⟩ := hr.step q1.it hs
      have hbm : b ≠ m := fun e => by
        have h1 := q1.it
        rw [e, hm] at h1
        cases h1
      refine setI q1.it fun g' s1 k1 e1 => ?_
      have hm' := e1.get hm (by simp; exact fun e => hbm e.symm)
      rw [ho] at k1
      refine ⟨hp2, m, c', seen'.push e.born, e.born, es', c', e, k1, Array.back?_push, hm', hf, ?_⟩
      have hl := hp.length_eq
      simp at hl
      refine hstep done p a g e g' hI ⟨rest', hp⟩ hk hv e1 s1 (hnext g' (by rw [ho]; exact k1) hm') fun a' g'' hI' hr' => ih (T.length - (done ++ [p]).length) (by simp; omega) g'' _ a' rfl hI' hr'
  exact key _ g done a rfl hI hr
end
end Go.Lift

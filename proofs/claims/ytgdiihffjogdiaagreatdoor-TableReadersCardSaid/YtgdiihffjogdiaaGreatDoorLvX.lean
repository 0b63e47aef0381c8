/- A map is gone through: what was shown, and what is to come. -/
import Derived.Test.YtgdiihffjogdiaaGreatDoorLvU
set_option linter.unusedSimpArgs false
set_option linter.unusedVariables false
namespace Go.Lift
open Go
section
variable {K V : Type} (ek : K → Value) (ev : V → Value)
def kvE (e : MapEntry) : Value × Value := (e.key, e.val)
/-- The iterator at b goes through the map at m, which has T; these were shown. -/
def RangeAt (g : Hp) (b m : Nat) (T done : List (K × V)) : Prop :=
  ∃ es c seen A R rest, ItAt g b m es c seen ∧ es.toList.Perm (A ++ R) ∧ A.map kvE = done.map (encE ek ev) ∧ R.map kvE = rest.map (encE ek ev) ∧ (∀ e ∈ A, seen.contains e.born = true) ∧ (∀ e ∈ R, seen.contains e.born = false) ∧ (done ++ rest).Perm T
end
section
variable {K V : Type} {ek : K → Value} {ev : V → Value} {g : Hp} {b m : Nat} {T done : List (K × V)}
theorem RangeAt.ext {S : List Nat} {g' : Hp} (hr : RangeAt ek ev g b m T done) (he : Ext S g g') (h1 : b ∉ S) (h2 : m ∉ S) : RangeAt ek ev g' b m T done := by
  obtain ⟨es, c, seen, A, R, rest, q1, q2⟩ := hr
  exact ⟨es, c, seen, A, R, rest, q1.ext he h1 h2, q2⟩
theorem range_start {h : Hp} (hm : IsMap ek ev h m T) : ∃ o, IterOf h (some m) o ∧ ∀ {g : Hp} {b : Nat}, g[b]? = some o → Ext [] h g → RangeAt ek ev g b m T [] := by
  obtain ⟨es, c, q1, q2, q3⟩ := hm
  refine ⟨.mapIter (some m) c #[] c, Or.inr ⟨m, es, c, rfl, q1, rfl⟩, fun {g b} hb he => ?_⟩
  exact ⟨es, c, #[], [], es.toList, T, ⟨hb, he.get q1 (by simp), q3⟩, List.Perm.refl _, rfl, q2, by simp, by simp, List.Perm.refl _⟩
theorem RangeAt.over (hr : RangeAt ek ev g b m T done) {o : Obj} (ho : g[b]? = some o) (he : IterEnd g o) : done.Perm T := by
  obtain ⟨es, c, seen, A, R, rest, q1, q2, q3, q4, q5, q6, q7⟩ := hr
  have := q1.it
  rw [ho] at this
  cases this
  have hend := q1.ended he
  have hR : R = [] := by
    rcases R with _ | ⟨e, R⟩
    · rfl
    · have h1 := hend e (q2.mem_iff.2 (by simp))
      have h2 := q6 e (by simp)
      rw [h1] at h2
      cases h2
  subst hR
  have : rest = [] := by
    have := congrArg List.length q4
    simpa using this.symm
  subst this
  simpa using q7
theorem RangeAt.step (hr : RangeAt ek ev g b m T done) {o o' : Obj} {k v : Value} (ho : g[b]? = some o) (hs : IterStep g o k v o') :
    ∃ (p : K × V) (es : Array MapEntry) (c : Nat) (seen : Array Nat) (e : MapEntry), (∃ rest, (done ++ [p] ++ rest).Perm T) ∧ o' = .mapIter (some m) c (seen.push e.born) c ∧ g[m]? = some (.map es c) ∧ Array.find? (fun x => x.born == e.born) es = some e ∧ e.key = ek p.1 ∧ e.val = ev p.2 ∧
      ∀ g' : Hp, g'[b]? = some o' → g'[m]? = some (.map es c) → RangeAt ek ev g' b m T (done ++ [p]) := by
  obtain ⟨es, c, seen, A, R, rest, q1, q2, q3, q4, q5, q6, q7⟩ := hr
  have := q1.it
  rw [ho] at this
  cases this
  obtain ⟨e, he1, he2, rfl, he4, _⟩ := q1.step hs
  have heR : e ∈ R := by
    rcases List.mem_append.1 (q2.mem_iff.1 he1) with h | h
    · have := q5 e h; rw [he2] at this; cases this
    · exact h
  obtain ⟨R1, R2, rfl⟩ := List.append_of_mem heR
  rw [List.map_append, List.map_cons] at q4
  obtain ⟨r1, r2', rfl, hr1, hr2⟩ := List.map_eq_append_iff.1 q4.symm
  obtain ⟨p, r2, rfl, hp, hr2⟩ := List.map_eq_cons_iff.1 hr2
  simp only [encE, kvE, Prod.mk.injEq] at hp
  have hpm : (done ++ [p] ++ (r1 ++ r2)).Perm T := by
    refine List.Perm.trans ?_ q7
    rw [List.append_assoc]
    exact List.Perm.append_left _ (by simpa using (List.perm_middle (a := p) (l₁ := r1) (l₂ := r2)).symm)
  have hpe : es.toList.Perm ((A ++ [e]) ++ (R1 ++ R2)) := by
    refine q2.trans ?_
    rw [List.append_assoc]
    exact List.Perm.append_left _ (by simp)
  refine ⟨p, es, c, seen, e, ⟨_, hpm⟩, rfl, q1.mp, he4, hp.1.symm, hp.2.symm, fun g' h1 h2 => ?_⟩
  refine ⟨es, c, seen.push e.born, A ++ [e], R1 ++ R2, r1 ++ r2, ⟨h1, h2, q1.bn⟩, hpe, ?_, ?_, ?_, ?_, hpm⟩
  · rw [List.map_append, List.map_append, q3]
    simp [kvE, encE, hp.1, hp.2]
  · rw [List.map_append, List.map_append, hr1, hr2]
  · intro e' he'
    rw [Array.contains_iff_mem, Array.mem_push]
    rcases List.mem_append.1 he' with h | h
    · exact Or.inl (Array.contains_iff_mem.1 (q5 e' h))
    · simp at h; subst h; exact Or.inr rfl
  · intro e' he'
    have hn : (((A ++ [e]) ++ (R1 ++ R2)).map (·.born)).Nodup := (hpe.map _).nodup_iff.1 q1.bn.2
    have hne : e'.born ≠ e.born := by
      intro hh
      rw [List.map_append, List.nodup_append] at hn
      exact hn.2.2 e.born (List.mem_map.2 ⟨e, by simp, rfl⟩) e'.born (List.mem_map.2 ⟨e', he', rfl⟩) hh.symm
    have h0 : seen.contains e'.born = false := q6 e' (by
      rcases List.mem_append.1 he' with h | h
      · simp [h]
      · simp [h])
    cases hc : (seen.push e.born).contains e'.born with
    | false => rfl
    | true =>
      rw [Array.contains_iff_mem, Array.mem_push] at hc
      rcases hc with h | h
      · rw [Array.contains_iff_mem.2 h] at h0; cases h0
      · exact absurd h hne
/-- A range over a map that the body leaves as it is. -/
theorem rangeI {X : List Value → Hp → Prop} {E : Hp → Prop} {B : MapEntry → Hp → Prop} {P1 P2 : Prop}
    (hX : ∀ h8 : Hp, (P1 ∧ ∃ o9 : Obj, h8[b]? = some o9 ∧ IterGood h8 o9 ∧ (IterEnd h8 o9 → E h8) ∧
      ∀ (k10 v11 : Value) (o12 : Obj), IterStep h8 o9 k10 v11 o12 → wth (Array.setIfInBounds h8 b o12) fun h54 =>
        (P2 ∧ ∃ (m55 n56 : Nat) (q57 : Array Nat) (n58 : Nat) (es59 : Array MapEntry) (c60 : Nat) (e61 : MapEntry), h54[b]? = some (.mapIter (some m55) n56 q57 c60) ∧ Array.back? q57 = some n58 ∧ h54[m55]? = some (.map es59 c60) ∧ Array.find? (fun x => x.born == n58) es59 = some e61 ∧ B e61 h54)) → X [] h8)
    (I : List (K × V) → Hp → Prop)
    (hend : ∀ done g, I done g → RangeAt ek ev g b m T done → done.Perm T → E g)
    (hstep : ∀ done p g e g', I done g → (∃ rest, (done ++ [p] ++ rest).Perm T) → e.key = ek p.1 → e.val = ev p.2 → Ext [b] g g' → g'.size = g.size → RangeAt ek ev g' b m T (done ++ [p]) →
      (∀ g'', I (done ++ [p]) g'' → RangeAt ek ev g'' b m T (done ++ [p]) → X [] g'') → B e g')
    (g : Hp) (done : List (K × V)) (hI : I done g) (hr : RangeAt ek ev g b m T done) (hp1 : P1 := by trivial) (hp2 : P2 := by trivial) : X [] g := by
  have key : ∀ d g done, T.length - done.length = d → I done g → RangeAt ek ev g b m T done → X [] g := by
    intro d
    induction d using Nat.strongRecOn with
    | ind d ih =>
      intro g done hd hI hr
      have hr0 := hr
      obtain ⟨es, c, seen, A, R, rest, q1, q2⟩ := hr0
      refine hX _ ⟨hp1, _, q1.it, q1.good, fun he => hend done g hI hr (hr.over q1.it he), fun k v o hs => ?_⟩
      obtain ⟨p, es', c', seen', e, ⟨rest', hp⟩, ho, hm, hf, hk, hv, hnext⟩ := hr.step q1.it hs
      have hbm : b ≠ m := fun e => by
        have h1 := q1.it
        rw [e, hm] at h1
        cases h1
      refine setI q1.it fun g' s1 k1 e1 => ?_
      have hm' := e1.get hm (by simp; exact fun e => hbm e.symm)
      rw [ho] at k1
      refine ⟨hp2, m, c', seen'.push e.born, e.born, es', c', e, k1, Array.back?_push, hm', hf, ?_⟩
      have hl := hp.length_eq
      simp at hl
      refine hstep done p g e g' hI ⟨rest', hp⟩ hk hv e1 s1 (hnext g' (by rw [ho]; exact k1) hm') fun g'' hI' hr' => ih (T.length - (done ++ [p]).length) (by simp; omega) g'' _ rfl hI' hr'
  exact key _ g done rfl hI hr
end
end Go.Lift

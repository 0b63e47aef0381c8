/- The evaluator's regions are sound. -/
import Derived.Test.YtgmbhlfecbpclacGreatDoorXn
import Derived.Test.YtgmbhlfecbpclacGreatDoorItB
set_option linter.unusedSimpArgs false
set_option linter.unusedVariables false
namespace Go.Lift
open Go
/-! ### frames -/
theorem RF.upd {E : EX} {n : Nat} {ρ ρ' : XF} {τ : Fr} (hf : RF E n ρ τ) {d : Option Tmp} {r : Option XV} {r' : Option Value} (hu : updX ρ d r = some ρ') (hr : RR E r r') : RF E n ρ' (_root_.Go.Lift.upd n τ d r') := by
  cases d with
  | none => simp only [updX, Option.some.injEq] at hu; subst hu; exact hf
  | some d =>
    simp only [updX] at hu
    obtain ⟨hlt, rfl⟩ := setX_some hu
    rw [hf.len] at hlt
    refine ⟨by simp [hf.len], fun t x hx => ?_⟩
    simp only [_root_.Go.Lift.upd, cond_eq_ite, Nat.beq_eq, Nat.blt_eq]
    rw [List.getElem?_set] at hx
    split at hx
    · rename_i e
      subst e
      split at hx
      · simp only [Option.some.injEq] at hx
        rw [if_pos rfl, if_pos hlt]
        subst hx
        exact hr
      · cases hx
    · rename_i e
      rw [if_neg (Ne.symm e)]
      exact hf.kn t x hx
theorem RF.setb {E : EX} {n : Nat} {ρ : XF} {τ : Fr} (hf : RF E n ρ τ) {s : Nat} {b : Bool} (hs : τ s = some (.bool b)) : RF E n ρ (_root_.Go.Lift.setb τ s b) :=
  ⟨hf.len, fun t x hx => by
    simp only [_root_.Go.Lift.setb, cond_eq_ite, Nat.beq_eq]
    split
    · rename_i e; subst e
      obtain ⟨u, h1, h2⟩ := hf.kn _ x hx
      rw [hs] at h1; cases h1
      exact ⟨_, rfl, h2⟩
    · exact hf.kn t x hx⟩
structure FitX (ds : List Deferred) (E : EX) (n : Nat) (ρ : XF) (a : Act) : Prop where
  dz : a.defers = ds
  sz : a.tmps.size = n
  len : ρ.length = n
  kn : ∀ (t : Nat) (x : XV), ρ[t]? = some (some x) → ∃ u, a.tmps[t]? = some u ∧ RV E x u
def frOf (ρ : XF) (a : Act) : Fr := fun t => match ρ[t]? with | some (some _) => a.tmps[t]? | _ => none
section
variable {ds : List Deferred} {E : EX} {n : Nat} {ρ : XF} {a : Act}
theorem FitX.rf (h : FitX ds E n ρ a) : RF E n ρ (frOf ρ a) :=
  ⟨h.len, fun t x hx => let ⟨u, h1, h2⟩ := h.kn t x hx; ⟨u, by simp only [frOf, hx]; exact h1, h2⟩⟩
theorem FitX.fits (h : FitX ds E n ρ a) : FitsD ds n (frOf ρ a) a :=
  ⟨h.dz, h.sz, fun t v hv => by
    unfold frOf at hv
    split at hv
    · exact hv
    · cases hv⟩
theorem FitX.grow {E' : EX} (h : FitX ds E n ρ a) (hg : Grow E E') : FitX ds E' n ρ a := ⟨h.dz, h.sz, h.len, fun t x hx => let ⟨u, h1, h2⟩ := h.kn t x hx; ⟨u, h1, h2.grow hg⟩⟩
theorem FitX.put (h : FitX ds E n ρ a) {d : Option Tmp} {r : Option XV} {ρ' : XF} {v : Value} (hu : updX ρ d r = some ρ') (hr : ∀ x, r = some x → RV E x v) : FitX ds E n ρ' (a.put d v) := by
  cases d with
  | none => simp only [updX, Option.some.injEq] at hu; subst hu; exact h
  | some d =>
    simp only [updX] at hu
    obtain ⟨hlt, rfl⟩ := setX_some hu
    rw [h.len] at hlt
    refine ⟨h.dz, by simp [Act.put, h.sz], by simp [h.len], fun t x hx => ?_⟩
    simp only [Act.put]
    rw [List.getElem?_set] at hx
    split at hx
    · rename_i e
      subst e
      split at hx
      · simp only [Option.some.injEq] at hx
        exact ⟨v, by rw [Array.getElem?_setIfInBounds_self_of_lt (by rw [h.sz]; exact hlt)], hr x hx⟩
      · cases hx
    · rename_i e
      rw [Array.getElem?_setIfInBounds_ne e]
      exact h.kn t x hx
theorem FitX.of_fits {τ : Fr} (hf : RF E n ρ τ) (h : FitsD ds n τ a) : FitX ds E n ρ a :=
  ⟨h.dz, h.sz, hf.len, fun t x hx => let ⟨u, h1, h2⟩ := hf.kn t x hx; ⟨u, h.kn t u h1, h2⟩⟩
end
theorem updsX_mem {ρ : XF} {d : Option Tmp} {r : Option XV × XH} : ∀ {l : List (Option XV × XH)} {q : List (XF × XH)}, updsX ρ d l = some q → r ∈ l → ∃ ρ', updX ρ d r.1 = some ρ' ∧ (ρ', r.2) ∈ q
  | [], _, _, hr => by simp at hr
  | x :: l, q, hq, hr => by
    simp only [updsX] at hq
    split at hq
    · rename_i ρ' q' h1 h2
      simp only [Option.some.injEq] at hq; subst hq
      rcases List.mem_cons.1 hr with rfl | hr
      · exact ⟨ρ', h1, by simp⟩
      · obtain ⟨ρ2, g1, g2⟩ := updsX_mem h2 hr
        exact ⟨ρ2, g1, by simp [g2]⟩
    · cases hq
section
variable {P : Program} {E : EX} {C : XH} {h : Hp}
/-! ### a region whose order is open -/
theorem stepX_sound {call : CallX} {y : XM} {ops : Array Oper} {o : Oper} {ρ : XF} {τ : Fr} {n : Nat} {outs : List (XF × XH)} {K : Fr → Hp → Prop} (hy : ∀ k g, y ≠ .iter k g) (hc : CallOK P call) (H : RH P E C h) (hf : RF E n ρ τ)
    (hq : stepX P call y ops o ρ C = some outs) (hK : ∀ r ∈ outs, ∀ E' τ' h', Adv E C h E' r.2 h' → RH P E' r.2 h' → RF E' n r.1 τ' → K τ' h') : stepW P n hs0 ops o τ h K := by
  unfold stepX at hq
  unfold stepW
  have main : ∀ {τ' : Fr}, RF E n ρ τ' → ∀ {q : List (XF × XH)}, bnd (opX P call y o ρ C) (fun r => updsX ρ o.dst r) = some q → q = outs → opW P hs0 o τ' h fun r h' => K (upd n τ' o.dst r) h' := by
    intro τ' hf' q hq' e
    subst e
    obtain ⟨l, h1, h2⟩ := bnd_some hq'
    refine opX_sound hy hc H hf' h1 fun r hr E' u h' ha hh hv => ?_
    obtain ⟨ρ', g1, g2⟩ := updsX_mem h2 hr
    exact hK _ g2 E' _ h' ha hh ((hf'.grow ha.gr).upd g1 hv)
  have skip : ∀ {τ' : Fr}, RF E n ρ τ' → bnd (updX ρ o.dst (some .undef)) (fun ρ' => some [(ρ', C)]) = some outs → K (upd n τ' o.dst (some undef)) h := by
    intro τ' hf' hq'
    obtain ⟨ρ', h1, h2⟩ := bnd_some hq'
    simp only [Option.some.injEq] at h2; subst h2
    exact hK _ (List.mem_singleton.2 rfl) E _ h (.refl _ _ _) H (hf'.upd h1 ⟨_, rfl, rfl⟩)
  split at hq
  · rename_i hg
    rw [hg]
    exact main hf hq rfl
  · rename_i j want hg
    rw [hg]
    simp only
    split at hq
    · rename_i s hs
      rw [hs]
      simp only
      rw [nthX_eq] at hq
      split at hq
      · rename_i b hb
        obtain ⟨u, h1, h2⟩ := hf.kn _ _ hb
        simp only [RV] at h2; subst h2
        rw [h1]
        simp only
        have hf' := hf.setb h1
        cases b <;> cases want <;> simp only [Bool.false_eq_true, if_false, if_true] <;> simp only [beq_self_eq_true, Bool.false_beq, Bool.true_beq, Bool.not_true, Bool.not_false, beq_true, beq_false] at hq
        · exact main hf' hq rfl
        · exact skip hf' hq
        · exact skip hf' hq
        · exact main hf' hq rfl
      · rename_i hb
        obtain ⟨u, h1, h2⟩ := hf.kn _ _ hb
        simp only [RV] at h2; subst h2
        rw [h1]
        exact skip hf hq
      · cases hq
    · cases hq
def FF (P : Program) (E : EX) (fs : XFacts) (gs : Facts) : Prop := ∀ g ∈ gs, ∃ f ∈ fs, f.1 = g.1 ∧
  (factOk P f.2.1.op = true → ∀ E' C' h' r2, Grow E E' → RH P E' C' h' → quX P f.2.1 f.2.2.1 C' = some r2 → eqOV f.2.2.2 r2 = true → g.2 h')
theorem FF.grow {E' : EX} {fs : XFacts} {gs : Facts} (h : FF P E fs gs) (hg : Grow E E') : FF P E' fs gs := fun g hgm => let ⟨f, h1, h2, h3⟩ := h g hgm; ⟨f, h1, h2, fun ho E'' C' h' r2 hg' => h3 ho E'' C' h' r2 (hg.trans hg')⟩
theorem factX_mem {C' : XH} {f : Nat × Oper × XF × Option XV} : ∀ {fs : XFacts}, factX P C' fs = true → f ∈ fs → factOk P f.2.1.op = true ∧ ∃ r2, quX P f.2.1 f.2.2.1 C' = some r2 ∧ eqOV f.2.2.2 r2 = true
  | [], _, hm => by simp at hm
  | (i, o, ρ, r) :: fs, h, hm => by
    simp only [factX] at h
    split at h
    · rename_i r' h1 h2
      split at h
      · rename_i h3
        rcases List.mem_cons.1 hm with rfl | hm
        · exact ⟨h1, r', h2, h3⟩
        · exact factX_mem h hm
      · cases h
    · cases h
theorem keepF_mem {m : Nat} {g : Nat × (Hp → Prop)} : ∀ {gs : Facts}, g ∈ keepF m gs → g ∈ gs ∧ m.testBit g.1 = false
  | [], hm => by simp [keepF] at hm
  | x :: gs, hm => by
    simp only [keepF] at hm
    cases hb : m.testBit x.1 with
    | true =>
      rw [hb] at hm
      obtain ⟨h1, h2⟩ := keepF_mem hm
      exact ⟨by simp [h1], h2⟩
    | false =>
      rw [hb] at hm
      simp only [cond_false] at hm
      rcases List.mem_cons.1 hm with rfl | hm
      · exact ⟨by simp, hb⟩
      · obtain ⟨h1, h2⟩ := keepF_mem hm
        exact ⟨by simp [h1], h2⟩
theorem keepX_mem {m : Nat} {f : Nat × Oper × XF × Option XV} (hb : m.testBit f.1 = false) : ∀ {fs : XFacts}, f ∈ fs → f ∈ keepX m fs
  | [], hm => by simp at hm
  | x :: fs, hm => by
    simp only [keepX]
    rcases List.mem_cons.1 hm with rfl | hm
    · rw [hb]; simp
    · have := keepX_mem hb hm
      cases m.testBit x.1 with
      | true => exact this
      | false => simp [this]
theorem FF.keep {fs : XFacts} {gs : Facts} (h : FF P E fs gs) (m : Nat) : FF P E (keepX m fs) (keepF m gs) := fun g hg => by
  obtain ⟨h1, h2⟩ := keepF_mem hg
  obtain ⟨f, h3, h4, h5⟩ := h g h1
  exact ⟨f, keepX_mem (by rw [h4]; exact h2) h3, h4, h5⟩
theorem tagF_mem {i : Nat} {g : Nat × (Hp → Prop)} : ∀ {l : List (Hp → Prop)} {gs : Facts}, g ∈ tagF i l gs → (g.1 = i ∧ g.2 ∈ l) ∨ g ∈ gs
  | [], _, hm => .inr hm
  | f :: l, gs, hm => by
    simp only [tagF] at hm
    rcases List.mem_cons.1 hm with rfl | hm
    · exact .inl ⟨rfl, by simp⟩
    · rcases tagF_mem hm with ⟨h1, h2⟩ | h1
      · exact .inl ⟨h1, by simp [h2]⟩
      · exact .inr h1
theorem stepQX_sound {ops : Array Oper} {o : Oper} {ρ ρ' : XF} {τ : Fr} {n : Nat} {r : Option (Option XV)} {K : Fr → List (Hp → Prop) → Prop} (H : RH P E C h) (hf : RF E n ρ τ) (hq : stepQX P ops o ρ C = some (ρ', r))
    (hK : ∀ τ' fs, RF E n ρ' τ' → (match r with | some r => Anew P E o ρ r fs | none => fs = []) → K τ' fs) : stepQ P n ops o τ h K := by
  unfold stepQX at hq
  unfold stepQ
  have main : ∀ {τ' : Fr}, RF E n ρ τ' → bnd (quX P o ρ C) (fun r => bnd (updX ρ o.dst r) fun ρ' => some (ρ', some r)) = some (ρ', r) → quW P o τ' h fun r fs => K (upd n τ' o.dst r) fs := by
    intro τ' hf' hq'
    obtain ⟨l, h1, h2⟩ := bnd_some hq'
    obtain ⟨ρ2, h3, h4⟩ := bnd_some h2
    simp only [Option.some.injEq, Prod.mk.injEq] at h4
    obtain ⟨rfl, rfl⟩ := h4
    exact quX_sound H hf' h1 fun r' fs hr ha => hK _ fs (hf'.upd h3 hr) ha
  have skip : ∀ {τ' : Fr}, RF E n ρ τ' → bnd (updX ρ o.dst (some .undef)) (fun ρ' => some (ρ', none)) = some (ρ', r) → K (upd n τ' o.dst (some undef)) [] := by
    intro τ' hf' hq'
    obtain ⟨ρ2, h3, h4⟩ := bnd_some hq'
    simp only [Option.some.injEq, Prod.mk.injEq] at h4
    obtain ⟨rfl, rfl⟩ := h4
    exact hK _ _ (hf'.upd h3 ⟨_, rfl, rfl⟩) rfl
  split at hq
  · rename_i hg
    rw [hg]
    exact main hf hq
  · rename_i j want hg
    rw [hg]
    simp only
    split at hq
    · rename_i s hs
      rw [hs]
      simp only
      rw [nthX_eq] at hq
      split at hq
      · rename_i b hb
        obtain ⟨u, h1, h2⟩ := hf.kn _ _ hb
        simp only [RV] at h2; subst h2
        rw [h1]
        simp only
        have hf' := hf.setb h1
        cases b <;> cases want <;> simp only [Bool.false_eq_true, if_false, if_true] <;> simp only [beq_self_eq_true, Bool.false_beq, Bool.true_beq, Bool.not_true, Bool.not_false, beq_true, beq_false] at hq
        · exact main hf' hq
        · exact skip hf' hq
        · exact skip hf' hq
        · exact main hf' hq
      · rename_i hb
        obtain ⟨u, h1, h2⟩ := hf.kn _ _ hb
        simp only [RV] at h2; subst h2
        rw [h1]
        exact skip hf hq
      · cases hq
    · cases hq
theorem renF_of {σ : Nat → Option Nat} {E E' : EX} (hs : Ren σ E E') {n : Nat} {τ : Fr} : ∀ {ρ ρ' : XF}, renF σ ρ = some ρ' → ρ'.length = ρ.length ∧ ∀ (t : Nat) (x' : XV), ρ'[t]? = some (some x') → ∃ x, ρ[t]? = some (some x) ∧ renV σ x = some x'
  | [], ρ', h => by simp only [renF, Option.some.injEq] at h; subst h; exact ⟨rfl, fun t x' hx => by simp at hx⟩
  | none :: ρ, ρ', h => by
    simp only [renF] at h
    split at h
    · rename_i r hr
      simp only [Option.some.injEq] at h; subst h
      obtain ⟨g1, g2⟩ := renF_of (n := n) (τ := τ) hs hr
      refine ⟨by simp [g1], fun t x' hx => ?_⟩
      cases t with
      | zero => simp at hx
      | succ t => simp at hx; obtain ⟨x, k1, k2⟩ := g2 t x' hx; exact ⟨x, by simpa using k1, k2⟩
    · cases h
  | some v :: ρ, ρ', h => by
    simp only [renF] at h
    split at h
    · rename_i v' r hv hr
      simp only [Option.some.injEq] at h; subst h
      obtain ⟨g1, g2⟩ := renF_of (n := n) (τ := τ) hs hr
      refine ⟨by simp [g1], fun t x' hx => ?_⟩
      cases t with
      | zero => simp at hx; subst hx; exact ⟨v, by simp, hv⟩
      | succ t => simp at hx; obtain ⟨x, k1, k2⟩ := g2 t x' hx; exact ⟨x, by simpa using k1, k2⟩
    · cases h
theorem cmpS_sound {E0 : EX} {C0 : XH} {h0 : Hp} {r r' : XF × XH} {n : Nat} {τ : Fr} (H0 : RH P E0 C0 h0) (ha : Adv E0 C0 h0 E r.2 h) (H : RH P E r.2 h) (hv : RF E n r.1 τ) (hc : cmpS C0.length r = some r') :
    ∃ E', Adv E0 C0 h0 E' r'.2 h ∧ RH P E' r'.2 h ∧ RF E' n r'.1 τ := by
  unfold cmpS at hc
  simp only at hc
  split at hc
  · rename_i ρ' C1 h1 h2
    simp only [Option.some.injEq] at hc; subst hc
    obtain ⟨E', g1, g2, g3, g4⟩ := cmpH_sound H h2
    obtain ⟨k1, k2⟩ := renF_of (n := n) (τ := τ) g1 h1
    refine ⟨E', cmp_adv H0 ha g3 g4, g2, by rw [k1]; exact hv.len, fun t x' hx => ?_⟩
    obtain ⟨x, j1, j2⟩ := k2 t x' hx
    obtain ⟨u, j3, j4⟩ := hv.kn t x j1
    exact ⟨u, j3, renV_of g1 j2 j4⟩
  · cases hc
theorem allX_sound {n0 : Nat} {f : Nat → Option (XF × XH)} {r : XF × XH} : ∀ {is : List Nat}, allX n0 f is = some r → ∀ i ∈ is, ∃ q, f i = some q ∧ cmpS n0 q = some r
  | [], h, i, hi => by simp at hi
  | [j], h, i, hi => by
    simp only [allX] at h
    obtain ⟨q, h1, h2⟩ := bnd_some h
    simp at hi; subst hi
    exact ⟨q, h1, h2⟩
  | j :: k :: is, h, i, hi => by
    simp only [allX] at h
    split at h
    · rename_i a b h1 h2
      split at h
      · rename_i hs
        simp only [Option.some.injEq] at h; subst h
        rcases List.mem_cons.1 hi with rfl | hi
        · obtain ⟨q, h3, h4⟩ := bnd_some h1
          exact ⟨q, h3, h4⟩
        · rw [sameS_eq hs]
          exact allX_sound h2 i hi
      · cases h
    · cases h
theorem allJ_of {f : Nat → Prop} : ∀ {is : List Nat}, (∀ i ∈ is, f i) → allJ f is
  | [], _ => trivial
  | [i], h => h i (by simp)
  | i :: j :: is, h => ⟨h i (by simp), allJ_of fun k hk => h k (by simp [hk])⟩
theorem dX_sound {call : CallX} {ops : Array Oper} {ms : List Nat} {n : Nat} {K : Fr → Hp → Prop} (hc : CallOK P call) : ∀ (m : Nat) {L : Array Bool} {ρ : XF} {τ : Fr} {E : EX} {C : XH} {h : Hp} {fs : XFacts} {gs : Facts} {r : XF × XH},
    dX P call .plain ops ms m L ρ C fs = some r → RH P E C h → RF E n ρ τ → FF P E fs gs → (∀ E' τ' h', Adv E C h E' r.2 h' → RH P E' r.2 h' → RF E' n r.1 τ' → K τ' h') → dW P n hs0 ops ms m L τ h gs K
  | 0, L, ρ, τ, E, C, h, fs, gs, r, hd, H, hf, hff, hK => by
    unfold dX at hd
    unfold dW
    split at hd
    · rename_i hr
      rw [hr]
      simp only [Option.some.injEq] at hd; subst hd
      exact hK E τ h (.refl _ _ _) H hf
    · cases hd
  | m + 1, L, ρ, τ, E, C, h, fs, gs, r, hd, H, hf, hff, hK => by
    unfold dX at hd
    unfold dW
    split at hd
    · rename_i hr
      rw [hr]
      simp only [Option.some.injEq] at hd; subst hd
      exact hK E τ h (.refl _ _ _) H hf
    · rename_i hne
      split
      · rename_i hr; exact absurd hr hne
      split at hd
      · rename_i i hi
        rw [hi]
        simp only
        split at hd
        · rename_i o ho
          rw [ho]
          simp only
          split at hd
          · rename_i ρ' r' hs
            refine stepQX_sound H hf hs fun τ' fs' hf' ha => ?_
            refine dX_sound hc m hd H hf' (fun g hg => ?_) hK
            rcases tagF_mem hg with ⟨h1, h2⟩ | h1
            · exact ⟨(i, o, ρ, r'), by simp, h1.symm, fun hok E' C' h' r2 hg' H' hq he => ha hok E' C' h' r2 hg' H' hq he _ h2⟩
            · obtain ⟨f, k1, k2, k3⟩ := hff g h1
              exact ⟨f, by simp [k1], k2, k3⟩
          · rename_i ρ' hs
            refine stepQX_sound H hf hs fun τ' fs' hf' ha => ?_
            simp only at ha
            subst ha
            exact dX_sound hc m hd H hf' hff hK
          · cases hd
        · cases hd
      · rename_i hi
        rw [hi]
        simp only
        have one : ∀ (i : Nat) (q : XF × XH), (match quietAt P ops i, ops[i]? with
            | false, some o => match stepX P call .plain ops o ρ C with
              | some [(ρ', C')] => match factX P C' (keepX (ms.getD i 0) fs) with
                | true => dX P call .plain ops ms m (L.setIfInBounds i true) ρ' C' (keepX (ms.getD i 0) fs)
                | false => none
              | _ => none
            | _, _ => none) = some q → (∀ E' τ' h', Adv E C h E' q.2 h' → RH P E' q.2 h' → RF E' n q.1 τ' → K τ' h') →
            (match quietAt P ops i, ops[i]? with
            | false, some o => stepW P n hs0 ops o τ h fun ρ' h' => conjF (keepF (ms.getD i 0) gs) h' (dW P n hs0 ops ms m (L.setIfInBounds i true) ρ' h' (keepF (ms.getD i 0) gs) K)
            | _, _ => False) := by
          intro i q hq hK'
          split at hq
          · rename_i o hqt ho
            split at hq
            · rename_i ρ' C' hs
              split at hq
              · rename_i hfx
                refine stepX_sound (fun _ _ e => by cases e) hc H hf hs fun p hp E' τ' h' ha hh hf' => ?_
                simp only [List.mem_singleton] at hp
                subst hp
                have hff' := (hff.keep (ms.getD i 0)).grow ha.gr
                refine (conjF_spec _).2 ⟨fun g hg => ?_, dX_sound hc m hq hh hf' hff' fun E2 τ2 h2 ha2 hh2 hf2 => hK' E2 τ2 h2 (ha.trans ha2) hh2 hf2⟩
                obtain ⟨f, k1, k2, k3⟩ := hff' g hg
                obtain ⟨k4, r2, k5, k6⟩ := factX_mem hfx k1
                exact k3 k4 E' C' h' r2 (.refl _) hh k5 k6
              · cases hq
            · cases hq
          · cases hq
        refine allJ_of fun i hi' => ?_
        unfold oneX' at hd
        split at hd
        · rename_i j hj
          rw [hj] at hi'
          simp only [List.mem_singleton] at hi'
          subst hi'
          exact one _ r hd hK
        · obtain ⟨q, h1, h2⟩ := allX_sound hd i hi'
          refine one i q h1 fun E' τ' h' ha hh hf' => ?_
          rw [lenX_0] at h2
          obtain ⟨E2, g1, g2, g3⟩ := cmpS_sound H ha hh hf' h2
          exact hK E2 τ' h' g1 g2 g3
end
end Go.Lift

/- The evaluator's code is sound. -/
import Derived.Test.YtgmbhlfecbpclacGreatDoorXo
set_option linter.unusedSimpArgs false
set_option linter.unusedVariables false
namespace Go.Lift
open Go
/-- Where code runs, and that it may. -/
def MdOK (P : Program) (ro : Option Nat) (ds : List Deferred) (y : XM) (E : EX) (C : XH) (h : Hp) : Prop :=
  match y with
  | .plain => ro = none ∧ ds = []
  | .round => True
  | .iter k g => ro = none ∧ ∃ (l x : Nat) (E0 : EX) (C0 : XH) (h0 : Hp), E0 k = some (l, x) ∧ Adv E0 C0 h0 E C h ∧
      ∀ E1 C1 h1 v u outs, Adv E0 C0 h0 E1 C1 h1 → RH P E1 C1 h1 → RV E1 v u → g v C1 = some outs → ∀ K : Bool → Hp → Prop, (∀ C' ∈ outs, ∀ E' h', Adv E1 C1 h1 E' C' h' → RH P E' C' h' → K true h') →
        ∀ (w : World) (m : Nat), w.heap = h1 → YieldAt (WR none) m P l #[u] w fun e w' => ∃ b, e = .returned (.bool b) ∧ Kept w w' ∧ K b w'.heap
theorem MdOK.adv {P : Program} {ro : Option Nat} {ds : List Deferred} {y : XM} {E E' : EX} {C C' : XH} {h h' : Hp} (H : MdOK P ro ds y E C h) (ha : Adv E C h E' C' h') : MdOK P ro ds y E' C' h' := by
  cases y with
  | plain => exact H
  | round => trivial
  | iter k g =>
    obtain ⟨h1, l, x, E0, C0, h0, h2, h3, h4⟩ := H
    exact ⟨h1, l, x, E0, C0, h0, h2, h3.trans ha, h4⟩
theorem opX_iter {P : Program} {call : CallX} {k : Nat} {g : XV → XH → Option (List XH)} {o : Oper} {ρ : XF} {C : XH} {outs : List (Option XV × XH)} (hq : opX P call (.iter k g) o ρ C = some outs) :
    opX P call .plain o ρ C = some outs ∨ ∃ f args ats v l, o.op = .call { callee := .value f, args := args, argTypes := ats } ∧ evX ρ f = some (.yld k) ∧ evsX ρ args.toList = some [v] ∧ g v C = some l ∧ outs = l.map fun C' => (some (.bool true), C') := by
  unfold opX at hq ⊢
  split at hq
  · exact .inl hq
  · split at hq
    · exact .inl hq
    · rename_i f args ats hop
      obtain ⟨fv, h1, hq1⟩ := bnd_some hq
      obtain ⟨as, h2, hq2⟩ := bnd_some hq1
      clear hq hq1
      have hq := hq2
      clear hq2
      simp only [h1, h2, bnd]
      unfold fnvX at hq ⊢
      split at hq
      · exact .inl hq
      · exact .inl hq
      · rename_i j
        right
        split at hq
        · rename_i k' g' v heq
          cases heq
          split at hq
          · rename_i hj
            have := nbeq hj
            subst this
            obtain ⟨l, h3, h4⟩ := bnd_some hq
            exact ⟨f, args, ats, v, l, hop, h1, h2, h3, (Option.some.inj h4).symm⟩
          · cases hq
        · cases hq
      · cases hq
    · exact .inl hq
section
variable {P : Program} {ro : Option Nat} {ds : List Deferred} {E : EX} {C : XH} {n : Nat} {ρ : XF} {a : Act} {w : World} {m : Nat} {Q : Exit → Act → World → Prop}
theorem opX_nodefer {call : CallX} {y : XM} {o : Oper} {outs : List (Option XV × XH)} (hq : opX P call y o ρ C = some outs) : ∀ c, o.op ≠ .defer c := by
  intro c hop
  unfold opX at hq
  simp only [hop, isQuiet, louX, bnd, reduceCtorEq] at hq
theorem opX_in {call : CallX} {y : XM} {o : Oper} {outs : List (Option XV × XH)} {K' : Act → World → Prop} (hc : CallOK P call) (hmd : MdOK P ro ds y E C w.heap) (H : RH P E C w.heap) (hf : FitX ds E n ρ a) (hq : opX P call y o ρ C = some outs)
    (hK : ∀ r ∈ outs, ∀ E' v w', Adv E C w.heap E' r.2 w'.heap → RH P E' r.2 w'.heap → (∀ x, r.1 = some x → RV E' x v) → Kept w w' → K' (a.put o.dst v) w') : o.wpIn (WR ro) m P a w K' Q := by
  have main : ∀ {y : XM}, (∀ k g, y ≠ .iter k g) → opX P call y o ρ C = some outs → o.wpIn (WR ro) m P a w K' Q := by
    intro y hy hq
    have key := opX_sound hy hc H hf.rf hq (K := fun r' h' => ∃ r ∈ outs, ∃ E', Adv E C w.heap E' r.2 h' ∧ RH P E' r.2 h' ∧ RR E' r.1 r') fun r hr E' u h' ha hh hv => ⟨r, hr, E', ha, hh, hv⟩
    refine opW_in key (opX_nodefer hq) hf.fits fun r' v w' hag ⟨r, hr, E', ha, hh, hv⟩ hk => hK r hr E' v w' ha hh (fun x hx => ?_) hk
    rw [hx] at hv
    obtain ⟨u, h1, h2⟩ := hv
    rw [← hag u h1]
    exact h2
  cases y with
  | plain => exact main (fun _ _ e => by cases e) hq
  | round => exact main (fun _ _ e => by cases e) hq
  | iter k g =>
    rcases opX_iter hq with hq | ⟨x, args, ats, v, l, hop, h1, h2, h3, rfl⟩
    · exact main (fun _ _ e => by cases e) hq
    · obtain ⟨rfl, lb, xb, E0, C0, h0, g1, g2, g3⟩ := hmd
      obtain ⟨fu, k1, k2⟩ := hf.rf.ev h1
      obtain ⟨us, k3, k4⟩ := hf.rf.evs h2
      obtain ⟨b, k5, rfl⟩ := k2
      rw [g2.gr _ _ g1] at k5; cases k5
      obtain ⟨u, us', rfl, k6, k7⟩ := k4
      simp only [RVs] at k7; subst k7
      have hY := g3 E C w.heap v u l g2 H k6 h3 (fun b h' => b = true ∧ ∃ C' ∈ l, ∃ E', Adv E C w.heap E' C' h' ∧ RH P E' C' h') (fun C' hC E' h' ha hh => ⟨rfl, C', hC, E', ha, hh⟩) w (m - 1) rfl
      obtain ⟨fn, tmps, asg, body, h3', h4'⟩ := hY
      have h5 := evL_eq (fun x v hx => hf.fits.ev x v hx) _ _ k3
      have e1 : args.map a.eval = #[u] := by rw [show (#[u] : Array Value) = [u].toArray from rfl, ← h5, ← Array.toList_map]
      refine ⟨fun _ _ => trivial, ?_⟩
      rw [Oper.semAt_eq _ _ _ (by rw [hop]; intro c hc; cases hc)]
      have hrun : (execOp a.eval o).run P w = .ok (.round lb fn tmps asg body) w := by
        simp only [execOp, hop, resolve, e1, hf.fits.ev _ _ k1, Deferred.ofValue, invoke]
        simp only [Sem.run_bind, Sem.run_pure, Result.andThen]
        exact h3'
      rw [hrun]
      simp only [Oper.uponIn]
      refine ⟨fun h => by simp [WR] at h, h4'.mono ?_⟩
      rintro e w'' ⟨bb, rfl, h7, rfl, C', hC, E', ha, hh⟩
      exact hK (some (.bool true), C') (List.mem_map.2 ⟨C', hC, rfl⟩) E' (.bool true) w'' ha hh (fun x hx => by cases hx; rfl) h7
theorem stepX_in {call : CallX} {y : XM} {ops : Array Oper} {o : Oper} {outs : List (XF × XH)} {K' : Act → World → Prop} (hc : CallOK P call) (hmd : MdOK P ro ds y E C w.heap) (H : RH P E C w.heap) (hf : FitX ds E n ρ a) (hq : stepX P call y ops o ρ C = some outs)
    (hK : ∀ r ∈ outs, ∀ E' a' w', Adv E C w.heap E' r.2 w'.heap → RH P E' r.2 w'.heap → FitX ds E' n r.1 a' → Kept w w' → K' a' w') :
    if Region.wanted o (yielded ops a.tmps) then o.wpIn (WR ro) m P a w K' Q else (∀ f, o.about P w a.eval = some f → (WR ro).fn f) ∧ K' (a.put o.dst undef) w := by
  unfold stepX at hq
  have main : bnd (opX P call y o ρ C) (fun r => updsX ρ o.dst r) = some outs → o.wpIn (WR ro) m P a w K' Q := by
    intro hq'
    obtain ⟨l, h1, h2⟩ := bnd_some hq'
    refine opX_in hc hmd H hf h1 fun r hr E' v w' ha hh hv hk => ?_
    obtain ⟨ρ', g1, g2⟩ := updsX_mem h2 hr
    exact hK _ g2 E' _ w' ha hh ((hf.grow ha.gr).put g1 hv) hk
  have skip : bnd (updX ρ o.dst (some .undef)) (fun ρ' => some [(ρ', C)]) = some outs → K' (a.put o.dst undef) w := by
    intro hq'
    obtain ⟨ρ', h1, h2⟩ := bnd_some hq'
    simp only [Option.some.injEq] at h2; subst h2
    exact hK _ (List.mem_singleton.2 rfl) E _ w (.refl _ _ _) H (hf.put h1 (fun x hx => by cases hx; rfl)) (.refl _)
  split at hq
  · rename_i hg
    rw [if_pos (by simp [Region.wanted, hg])]
    exact main hq
  · rename_i j want hg
    split at hq
    · rename_i s hs
      rw [nthX_eq] at hq
      have hfits : Fits n (frOf ρ a) { a with defers := [] } := ⟨rfl, hf.fits.sz, hf.fits.kn⟩
      split at hq
      · rename_i b hb
        obtain ⟨u, h1, h2⟩ := hf.rf.kn _ _ hb
        simp only [RV] at h2; subst h2
        have hy : yielded ops a.tmps j = some b := yielded_of (a := { a with defers := [] }) hfits hs h1
        have hw : Region.wanted o (yielded ops a.tmps) = decide (b = want) := by
          simp only [Region.wanted, hg, hy]
          cases b <;> cases want <;> rfl
        rw [hw]
        cases b <;> cases want <;> simp only [decide_true, decide_false, reduceCtorEq, if_true, Bool.false_eq_true, if_false] <;> simp only [beq_self_eq_true, Bool.false_beq, Bool.true_beq, Bool.not_true, Bool.not_false, beq_true, beq_false] at hq
        · exact main hq
        · exact ⟨fun _ _ => trivial, skip hq⟩
        · exact ⟨fun _ _ => trivial, skip hq⟩
        · exact main hq
      · rename_i hb
        obtain ⟨u, h1, h2⟩ := hf.rf.kn _ _ hb
        simp only [RV] at h2; subst h2
        have hy : yielded ops a.tmps j = none := yielded_none (a := { a with defers := [] }) hfits hs h1
        have hw : Region.wanted o (yielded ops a.tmps) = false := by
          simp only [Region.wanted, hg, hy]
          cases want <;> rfl
        rw [hw]
        simp only [Bool.false_eq_true, if_false]
        exact ⟨fun _ _ => trivial, skip hq⟩
      · cases hq
    · cases hq
theorem fmX_mem {α β : Type} {f : α → Option (List β)} {r : α} : ∀ {l : List α} {q : List β}, fmX f l = some q → r ∈ l → ∃ qr, f r = some qr ∧ ∀ x ∈ qr, x ∈ q
  | [], _, _, hr => by simp at hr
  | x :: l, q, hq, hr => by
    simp only [fmX] at hq
    split at hq
    · rename_i r1 h1
      split at hq
      · rename_i q1 h2
        simp only [Option.some.injEq] at hq; subst hq
        rcases List.mem_cons.1 hr with rfl | hr
        · exact ⟨r1, h1, fun x hx => by simp [hx]⟩
        · obtain ⟨qr, g1, g2⟩ := fmX_mem h2 hr
          exact ⟨qr, g1, fun x hx => by simp [g2 x hx]⟩
      · cases hq
    · cases hq
theorem rX_in {call : CallX} {y : XM} {ops : Array Oper} (hc : CallOK P call) : ∀ (is : List Nat) (os : List Oper), is.length = os.length → (∀ (k : Nat) (i : Nat), is[k]? = some i → ops[i]? = os[k]?) → ∀ {E : EX} {C : XH} {ρ : XF} {a : Act} {w : World} {outs : List (XF × XH)},
    MdOK P ro ds y E C w.heap → RH P E C w.heap → FitX ds E n ρ a → rX P call y ops os ρ C = some outs →
    (∀ p ∈ outs, ∀ E' a' w', Adv E C w.heap E' p.2 w'.heap → RH P E' p.2 w'.heap → FitX ds E' n p.1 a' → Kept w w' → Q .normal a' w') → wpOpsIn (WR ro) m P ops Q is a w
  | [], [], _, _, E, C, ρ, a, w, outs, hmd, H, hf, hq, hQ => by
    simp only [rX, Option.some.injEq] at hq; subst hq
    exact hQ _ (List.mem_singleton.2 rfl) E a w (.refl _ _ _) H hf (.refl _)
  | [], _ :: _, hl, _, _, _, _, _, _, _, _, _, _, _, _ => by simp at hl
  | _ :: _, [], hl, _, _, _, _, _, _, _, _, _, _, _, _ => by simp at hl
  | i :: is, o :: os, hl, hi, E, C, ρ, a, w, outs, hmd, H, hf, hq, hQ => by
    have ho : ops[i]? = some o := by simpa using hi 0 i (by simp)
    have hstep : ∃ l, stepX P call y ops o ρ C = some l ∧ ∀ r ∈ l, ∃ q, rX P call y ops os r.1 r.2 = some q ∧ ∀ x ∈ q, x ∈ outs := by
      simp only [rX] at hq
      split at hq
      · rename_i ρ' C' h1
        exact ⟨_, h1, fun r hr => by simp only [List.mem_singleton] at hr; subst hr; exact ⟨_, hq, fun x hx => hx⟩⟩
      · rename_i l _ h1
        exact ⟨l, h1, fun r hr => fmX_mem (f := fun r : XF × XH => rX P call y ops os r.1 r.2) hq hr⟩
      · cases hq
    obtain ⟨l, h1, h2⟩ := hstep
    unfold wpOpsIn
    simp only [ho]
    exact stepX_in hc hmd H hf h1 fun r hr E' a' w' ha hh hf' hk => by
      obtain ⟨q, g1, g2⟩ := h2 r hr
      exact rX_in hc is os (by simpa using hl) (fun k j hk => by simpa using hi (k + 1) j (by simpa using hk)) (hmd.adv ha) hh hf' g1 fun p hp E2 a2 w2 ha2 hh2 hf2 hk2 => hQ p (g2 p hp) E2 a2 w2 (ha.trans ha2) hh2 hf2 (hk.trans hk2)
/-- What code leaves behind. -/
def LeftX (P : Program) (ds : List Deferred) (n : Nat) (E : EX) (C : XH) (w : World) (outs : List (Ex × XF × XH)) : Exit → Act → World → Prop := fun e a' w' =>
  ∃ p ∈ outs, exOf e = some p.1 ∧ ∃ E', Adv E C w.heap E' p.2.2 w'.heap ∧ RH P E' p.2.2 w'.heap ∧ FitX ds E' n p.2.1 a' ∧ Kept w w'
def CodeOK (P : Program) (ih : CodeX) : Prop := ∀ y c ρ C outs, ih y c ρ C = some outs → ∀ ro ds E n a w m, MdOK P ro ds y E C w.heap → RH P E C w.heap → FitX ds E n ρ a → c.wpIn (WR ro) m P (LeftX P ds n E C w outs) a w
def HeadOK (P : Program) (ih : CodeX) : Prop := ∀ y c ρ C outs, ih y (.loop c) ρ C = some outs → ∀ ro ds E n a w m, MdOK P ro ds y E C w.heap → RH P E C w.heap → FitX ds E n ρ a → HeadIn (WR ro) m P c (LeftX P ds n E C w outs) a w
theorem thenX_mem {f : XF → XH → Option (List (Ex × XF × XH))} {p : Ex × XF × XH} : ∀ {l q : List (Ex × XF × XH)}, thenX f l = some q → p ∈ l → (p.1 = .normal → ∃ r, f p.2.1 p.2.2 = some r ∧ ∀ x ∈ r, x ∈ q) ∧ (p.1 ≠ .normal → p ∈ q)
  | [], _, _, hp => by simp at hp
  | x :: l, q, hq, hp => by
    have cons : ∀ {ρ C}, (match f ρ C with | some r => (match thenX f l with | some q => some (r ++ q) | none => none) | none => none) = some q → p ∈ (Ex.normal, ρ, C) :: l → (p.1 = .normal → ∃ r, f p.2.1 p.2.2 = some r ∧ ∀ x ∈ r, x ∈ q) ∧ (p.1 ≠ .normal → p ∈ q) := by
      intro ρ C h hp
      split at h
      · rename_i r h1
        split at h
        · rename_i q1 h2
          simp only [Option.some.injEq] at h; subst h
          rcases List.mem_cons.1 hp with rfl | hp
          · exact ⟨fun _ => ⟨r, h1, fun x hx => by simp [hx]⟩, fun hn => absurd rfl hn⟩
          · obtain ⟨g1, g2⟩ := thenX_mem h2 hp
            exact ⟨fun hn => let ⟨r', k1, k2⟩ := g1 hn; ⟨r', k1, fun x hx => by simp [k2 x hx]⟩, fun hn => by simp [g2 hn]⟩
        · cases h
      · cases h
    unfold thenX at hq
    split at hq
    · rename_i heq; cases heq
    · rename_i ρ C heq
      cases heq
      simp only [List.mem_singleton] at hp
      subst hp
      exact ⟨fun _ => ⟨q, hq, fun x hx => hx⟩, fun hn => absurd rfl hn⟩
    · rename_i ρ C l' _ heq
      cases heq
      exact cons hq hp
    · rename_i x' l' hn1 hn2 heq
      cases heq
      split at hq
      · rename_i q1 h2
        simp only [Option.some.injEq] at hq; subst hq
        rcases List.mem_cons.1 hp with rfl | hp
        · refine ⟨fun hn => ?_, fun _ => by simp⟩
          obtain ⟨e, ρ, C⟩ := p
          simp only at hn
          subst hn
          exact absurd rfl (hn2 ρ C)
        · obtain ⟨g1, g2⟩ := thenX_mem h2 hp
          exact ⟨fun hn => let ⟨r', k1, k2⟩ := g1 hn; ⟨r', k1, fun x hx => by simp [k2 x hx]⟩, fun hn => by simp [g2 hn]⟩
      · cases hq
theorem exOf_normal {e : Exit} (h : exOf e = some .normal) : e = .normal := by cases e <;> simp [exOf] at h <;> rfl
theorem exOf_exit {e : Exit} {i : Nat} (h : exOf e = some (.exit i)) : e = .exit i := by cases e <;> simp [exOf] at h; rw [h]
theorem exOf_ret {e : Exit} (h : exOf e = some .ret) : e = .ret := by cases e <;> simp [exOf] at h <;> rfl
/-- Behind what went on; the rest is as it was. -/
theorem then_in {f : XF → XH → Option (List (Ex × XF × XH))} {l q : List (Ex × XF × XH)} {next : Act → World → Prop} (ht : thenX f l = some q)
    (hn : ∀ ρ' C' r, f ρ' C' = some r → ∀ E' a' w', Adv E C w.heap E' C' w'.heap → RH P E' C' w'.heap → FitX ds E' n ρ' a' → Kept w w' → (∀ e a2 w2, LeftX P ds n E' C' w' r e a2 w2 → LeftX P ds n E C w q e a2 w2) → next a' w') :
    ∀ e a' w', LeftX P ds n E C w l e a' w' → Exit.then next (LeftX P ds n E C w q) e a' w' := by
  rintro e a' w' ⟨⟨x, ρ', C'⟩, hp, h1, E', ha, hh, hf, hk⟩
  obtain ⟨g1, g2⟩ := thenX_mem ht hp
  cases x with
  | normal =>
    have := exOf_normal h1
    subst this
    obtain ⟨r, k1, k2⟩ := g1 rfl
    refine hn ρ' C' r k1 E' a' w' ha hh hf hk ?_
    rintro e a2 w2 ⟨p2, hp2, j1, E2, j2, j3, j4, j5⟩
    exact ⟨p2, k2 p2 hp2, j1, E2, ha.trans j2, j3, j4, hk.trans j5⟩
  | exit i =>
    have := exOf_exit h1
    subst this
    exact ⟨_, g2 (by simp), rfl, E', ha, hh, hf, hk⟩
  | ret =>
    have := exOf_ret h1
    subst this
    exact ⟨_, g2 (by simp), rfl, E', ha, hh, hf, hk⟩
theorem blkX_mem {id : Nat} {p : Ex × XF × XH} : ∀ {l : List (Ex × XF × XH)}, p ∈ l → (∀ i, p.1 = .exit i → (i = id → (Ex.normal, p.2.1, p.2.2) ∈ blkX id l) ∧ (i ≠ id → p ∈ blkX id l)) ∧ ((∀ i, p.1 ≠ .exit i) → p ∈ blkX id l)
  | [], hp => by simp at hp
  | (e, ρ, C) :: l, hp => by
    have up : p ∈ l → ∀ z, (∀ i, p.1 = .exit i → (i = id → (Ex.normal, p.2.1, p.2.2) ∈ z :: blkX id l) ∧ (i ≠ id → p ∈ z :: blkX id l)) ∧ ((∀ i, p.1 ≠ .exit i) → p ∈ z :: blkX id l) := fun hp z => by
      obtain ⟨h1, h2⟩ := blkX_mem (id := id) hp
      exact ⟨fun i hi => ⟨fun e => List.mem_cons_of_mem _ ((h1 i hi).1 e), fun e => List.mem_cons_of_mem _ ((h1 i hi).2 e)⟩, fun hn => List.mem_cons_of_mem _ (h2 hn)⟩
    cases e with
    | normal =>
      simp only [blkX]
      rcases List.mem_cons.1 hp with rfl | hp
      · exact ⟨fun i hi => (by cases hi), fun _ => List.mem_cons_self⟩
      · exact up hp _
    | ret =>
      simp only [blkX]
      rcases List.mem_cons.1 hp with rfl | hp
      · exact ⟨fun i hi => (by cases hi), fun _ => List.mem_cons_self⟩
      · exact up hp _
    | exit i =>
      simp only [blkX]
      split
      · rename_i hb
        rcases List.mem_cons.1 hp with rfl | hp
        · exact ⟨fun j hj => (by cases hj; exact ⟨fun _ => List.mem_cons_self, fun e => absurd (nbeq hb) e⟩), fun hn => absurd rfl (hn i)⟩
        · exact up hp _
      · rename_i hb
        rcases List.mem_cons.1 hp with rfl | hp
        · exact ⟨fun j hj => (by cases hj; exact ⟨fun e => (by rw [e, Nat.beq_refl] at hb; cases hb), fun _ => List.mem_cons_self⟩), fun hn => absurd rfl (hn i)⟩
        · exact up hp _
theorem nrmX_mem {p : XF × XH} : ∀ {l : List (XF × XH)}, p ∈ l → (Ex.normal, p.1, p.2) ∈ nrmX l
  | [], hp => by simp at hp
  | x :: l, hp => by
    simp only [nrmX]
    rcases List.mem_cons.1 hp with rfl | hp
    · simp
    · exact List.mem_cons_of_mem _ (nrmX_mem hp)
theorem codeX_ok {ext : HookX} {ih : CodeX} (hm : P.follows .mixedOrders = true) (hc : CallOK P (callX P ext ih)) (hi : CodeOK P ih) (hh : HeadOK P ih) : CodeOK P (codeX P ext ih) ∧ HeadOK P (codeX P ext ih) := by
  have head : HeadOK P (codeX P ext ih) := by
    intro y c ρ C outs hq ro ds E n a w m hmd H hf
    simp only [codeX] at hq
    split at hq
    · rename_i l hl
      refine HeadIn.round (wpIn_mono (hi _ _ _ _ _ hl ro ds E n a w m hmd H hf) (then_in hq fun ρ' C' r hr E' a' w' ha hh' hf' hk hleft => ?_))
      have := hh y c ρ' C' r hr ro ds E' n a' w' m (hmd.adv ha) hh' hf'
      intro b k cs h1 h2 h3
      obtain ⟨e, a2, w2, g1, g2⟩ := this b k cs h1 h2 h3
      exact ⟨e, a2, w2, hleft _ _ _ g1, g2⟩
    · cases hq
  refine ⟨?_, head⟩
  intro y c ρ C outs hq ro ds E n a w m hmd H hf
  cases c with
  | skip => simp only [codeX, Option.some.injEq] at hq; subst hq; exact wpIn_skip ⟨_, List.mem_singleton.2 rfl, rfl, E, .refl _ _ _, H, hf, .refl _⟩
  | label l => simp only [codeX, Option.some.injEq] at hq; subst hq; exact wpIn_label ⟨_, List.mem_singleton.2 rfl, rfl, E, .refl _ _ _, H, hf, .refl _⟩
  | exit id => simp only [codeX, Option.some.injEq] at hq; subst hq; exact wpIn_exit ⟨_, List.mem_singleton.2 rfl, rfl, E, .refl _ _ _, H, hf, .refl _⟩
  | ret => simp only [codeX, Option.some.injEq] at hq; subst hq; exact wpIn_ret ⟨_, List.mem_singleton.2 rfl, rfl, E, .refl _ _ _, H, hf, .refl _⟩
  | region id ops d =>
    cases d with
    | false =>
      simp only [codeX] at hq
      split at hq
      · rename_i l hl
        simp only [Option.some.injEq] at hq; subst hq
        refine wpIn_region (rX_in hc (List.range ops.size) ops.toList (by simp) (fun k i hk => ?_) hmd H hf hl fun p hp E' a' w' ha hh' hf' hk => ⟨_, nrmX_mem hp, rfl, E', ha, hh', hf', hk⟩)
        rw [List.getElem?_range] at hk
        · simp at hk; subst hk; simp
        · rcases Nat.lt_or_ge k ops.size with h | h
          · exact h
          · rw [List.getElem?_eq_none (by simpa using h)] at hk; cases hk
      · cases hq
    | true =>
      simp only [codeX] at hq
      split at hq
      · rename_i hsel
        split at hq
        · rename_i ρ' C' hd
          simp only [Option.some.injEq] at hq; subst hq
          obtain ⟨rfl, rfl⟩ := hmd
          have hff : FF P E [] [] := fun g hg => by simp at hg
          have hdw := dX_sound hc ops.size hd H hf.rf hff (K := fun τ' h' => ∃ E', Adv E C w.heap E' C' h' ∧ RH P E' C' h' ∧ RF E' n ρ' τ') fun E' τ' h' ha hh' hf' => ⟨E', ha, hh', hf'⟩
          refine wpIn_wide.2 (dW_region hm hsel hdw (⟨hf.dz, hf.sz, hf.fits.kn⟩ : Fits n (frOf ρ a) a) ?_ fun τ' a' w' h1 ⟨E', ha, hh', hf'⟩ hk _ => ⟨_, List.mem_singleton.2 rfl, rfl, E', ha, hh', FitX.of_fits hf' ⟨h1.dz, h1.sz, h1.kn⟩, hk⟩)
          rintro c a' w' ⟨p, _, h1, _⟩
          cases h1
        · cases hq
      · cases hq
  | seq x z =>
    simp only [codeX] at hq
    split at hq
    · rename_i l hl
      exact wpIn_seq (wpIn_mono (hi _ _ _ _ _ hl ro ds E n a w m hmd H hf) (then_in hq fun ρ' C' r hr E' a' w' ha hh' hf' hk hleft => wpIn_mono (hi _ _ _ _ _ hr ro ds E' n a' w' m (hmd.adv ha) hh' hf') hleft))
    · cases hq
  | cond c x z =>
    simp only [codeX] at hq
    split at hq
    · rename_i t ht
      obtain ⟨u, h1, h2⟩ := hf.rf.ev ht
      simp only [RV] at h2; subst h2
      cases t with
      | true => exact wpIn_cond_true (hf.fits.ev _ _ h1) (hi _ _ _ _ _ hq ro ds E n a w m hmd H hf)
      | false => exact wpIn_cond_false (hf.fits.ev _ _ h1) (hi _ _ _ _ _ hq ro ds E n a w m hmd H hf)
    · cases hq
  | block id c =>
    simp only [codeX] at hq
    split at hq
    · rename_i l hl
      simp only [Option.some.injEq] at hq; subst hq
      refine wpIn_block (wpIn_mono (hi _ _ _ _ _ hl ro ds E n a w m hmd H hf) ?_)
      rintro e a' w' ⟨⟨x, ρ', C'⟩, hp, h1, E', ha, hh', hf', hk⟩
      obtain ⟨hb1, hb2⟩ := blkX_mem (id := id) hp
      cases x with
      | normal =>
        have := exOf_normal h1
        subst this
        exact ⟨_, hb2 (fun i e => by cases e), rfl, E', ha, hh', hf', hk⟩
      | exit i =>
        have := exOf_exit h1
        subst this
        simp only [Exit.inBlock]
        split
        · rename_i e
          exact ⟨_, (hb1 i rfl).1 e, rfl, E', ha, hh', hf', hk⟩
        · rename_i e
          exact ⟨_, (hb1 i rfl).2 e, rfl, E', ha, hh', hf', hk⟩
      | ret =>
        have := exOf_ret h1
        subst this
        exact ⟨_, hb2 (fun i e => by cases e), rfl, E', ha, hh', hf', hk⟩
    · cases hq
  | loop c => exact HeadIn.loop (head y c ρ C outs hq ro ds E n a w m hmd H hf)
  | scope c =>
    simp only [codeX] at hq
    split at hq
    · obtain ⟨rfl, rfl⟩ := hmd
      refine wpIn_wide.2 (wp_scope_straight (wp_mono (wpIn_wide.1 (hi _ _ _ _ _ hq none [] E n a w m ⟨rfl, rfl⟩ H hf)) ?_))
      rintro e a' w' ⟨p, hp, h1, h2⟩
      cases e <;> simp only [exOf, reduceCtorEq] at h1 <;> exact ⟨p, hp, h1, h2⟩
    · cases hq
  | rangeFunc f ps x z => simp only [codeX, reduceCtorEq] at hq
  | goto l => simp only [codeX, reduceCtorEq] at hq
  | refuse s => simp only [codeX, reduceCtorEq] at hq
end
end Go.Lift

/- The evaluator's calls are sound. -/
import Derived.Test.YtgmbhlfecbpclacGreatDoorXp
set_option linter.unusedSimpArgs false
set_option linter.unusedVariables false
namespace Go.Lift
open Go
section
variable {P : Program} {E : EX} {C : XH} {h : Hp}
theorem retX_of {n : Nat} {ρ : XF} {τ : Fr} (H : RH P E C h) (hf : RF E n ρ τ) : ∀ {rs : List ResultVar} {xs : List XV} {K : List Value → Prop}, retX P C ρ rs = some xs → (∀ us, RVs E xs us → K us) → retW P h τ rs K
  | [], xs, K, hr, hK => by simp only [retX, Option.some.injEq] at hr; subst hr; exact hK [] rfl
  | .tmp t :: rs, xs, K, hr, hK => by
    simp only [retX, nthX_eq] at hr
    split at hr
    · rename_i v vs h1 h2
      simp only [Option.some.injEq] at hr; subst hr
      obtain ⟨u, g1, g2⟩ := hf.kn t v h1
      simp only [retW, g1, e1]
      exact retX_of H hf h2 fun us hus => hK _ (RVs.cons g2 hus)
    · cases hr
  | .cell ad t :: rs, xs, K, hr, hK => by
    simp only [retX, nthX_eq] at hr
    split at hr
    · rename_i p vs h1 h2
      split at hr
      · rename_i v h3
        simp only [Option.some.injEq] at hr; subst hr
        obtain ⟨u, g1, g2⟩ := hf.kn ad p h1
        obtain ⟨k, o, b, w, rfl, k1, rfl, k2, _, _, k3⟩ := ldX_spec H h3 g2
        simp only [retW, g1, e1]
        exact adW_of rfl (k3 _ (retX_of H hf h2 fun us hus => hK _ (RVs.cons k2 hus)))
      · cases hr
    · cases hr
theorem initX_len : ∀ {as : List XV} {n : Nat} {ρ : XF}, initX as n = some ρ → ρ.length = n ∧ as.length ≤ n ∧ ∀ (t : Nat) (x : XV), ρ[t]? = some (some x) → as[t]? = some x
  | [], 0, ρ, h => by simp only [initX, Option.some.injEq] at h; subst h; exact ⟨rfl, Nat.le_refl _, fun t x hx => by simp at hx⟩
  | [], n + 1, ρ, h => by
    simp only [initX] at h
    split at h
    · rename_i l hl
      simp only [Option.some.injEq] at h; subst h
      obtain ⟨h1, h2, h3⟩ := initX_len hl
      refine ⟨by simp [h1], by simp, fun t x hx => ?_⟩
      cases t with
      | zero => simp at hx
      | succ t => simp at hx; have := h3 t x hx; simp at this
    · cases h
  | v :: vs, n + 1, ρ, h => by
    simp only [initX] at h
    split at h
    · rename_i l hl
      simp only [Option.some.injEq] at h; subst h
      obtain ⟨h1, h2, h3⟩ := initX_len hl
      refine ⟨by simp [h1], by simp; omega, fun t x hx => ?_⟩
      cases t with
      | zero => simp at hx; subst hx; simp
      | succ t => simp at hx; simpa using h3 t x hx
    · cases h
  | _ :: _, 0, ρ, h => by simp [initX] at h
theorem initX_fit {as : List XV} {vs : List Value} {n : Nat} {ρ : XF} (h : initX as n = some ρ) (hv : RVs E as vs) : FitX [] E n ρ { tmps := vs.toArray ++ Array.replicate (n - vs.toArray.size) undef, defers := [] } := by
  obtain ⟨h1, h2, h3⟩ := initX_len h
  have hl := hv.len
  refine ⟨rfl, by simp; omega, h1, fun t x hx => ?_⟩
  obtain ⟨u, g1, g2⟩ := hv.get (h3 t x hx)
  refine ⟨u, ?_, g2⟩
  have : t < vs.length := by
    rcases Nat.lt_or_ge t vs.length with g | g
    · exact g
    · rw [List.getElem?_eq_none g] at g1; cases g1
  rw [Array.getElem?_append_left (by simpa using this)]
  simpa using g1
theorem leaveX_mem {rs : List ResultVar} {p : Ex × XF × XH} : ∀ {l : List (Ex × XF × XH)} {q : List (List XV × XH)}, leaveX P rs l = some q → p ∈ l → (∀ i, p.1 ≠ .exit i) ∧ ∃ xs, retX P p.2.2 p.2.1 rs = some xs ∧ (xs, p.2.2) ∈ q
  | [], _, _, hp => by simp at hp
  | (e, ρ, C) :: l, q, hq, hp => by
    cases e with
    | exit i => simp [leaveX] at hq
    | normal =>
      simp only [leaveX] at hq
      split at hq
      · rename_i vs q' h1 h2
        simp only [Option.some.injEq] at hq; subst hq
        rcases List.mem_cons.1 hp with rfl | hp
        · exact ⟨fun i hi => (by cases hi), vs, h1, by simp⟩
        · obtain ⟨g1, xs, g2, g3⟩ := leaveX_mem h2 hp
          exact ⟨g1, xs, g2, by simp [g3]⟩
      · cases hq
    | ret =>
      simp only [leaveX] at hq
      split at hq
      · rename_i vs q' h1 h2
        simp only [Option.some.injEq] at hq; subst hq
        rcases List.mem_cons.1 hp with rfl | hp
        · exact ⟨fun i hi => (by cases hi), vs, h1, by simp⟩
        · obtain ⟨g1, xs, g2, g3⟩ := leaveX_mem h2 hp
          exact ⟨g1, xs, g2, by simp [g3]⟩
      · cases hq
/-! ### blocks that nobody has a name for -/
theorem RH.out (H : RH P E C h) {l : Nat} (ho : Out E C l) (x : Obj) : RH P E C (h.setIfInBounds l x) := by
  refine ⟨fun k hk => ?_, H.un, H.inj, fun k o b hk eb => ?_⟩
  · obtain ⟨b, h1, h2⟩ := H.dom k hk
    exact ⟨b, h1, by simpa using h2⟩
  · refine (H.ob k o b hk eb).grow (.refl _) fun hd => ?_
    have := ho k b ⟨o, hk, hd⟩ eb
    rw [Array.getElem?_setIfInBounds]
    simp [Ne.symm this]
theorem RH.bare (H : RH P E C h) (x : Obj) : RH P E C (h.push x) ∧ Adv E C h E C (h.push x) := by
  have lt : ∀ {j}, j < h.size → (h.push x)[j]? = h[j]? := fun hj => by rw [Array.getElem?_push]; simp [Nat.ne_of_lt hj]
  refine ⟨⟨fun k hk => ?_, H.un, H.inj, fun k o b hk eb => ?_⟩, .refl _, by simp, fun j hj ho => ⟨lt hj, ho⟩⟩
  · obtain ⟨b, h1, h2⟩ := H.dom k hk
    exact ⟨b, h1, by simp; omega⟩
  · exact (H.ob k o b hk eb).grow (.refl _) fun _ => lt (H.lt eb).2
theorem RH.fresh (H : RH P E C h) {l : Nat} (hl : h.size ≤ l) : Out E C l := fun k b _ eb e => by have := (H.lt eb).2; omega
theorem Adv.setNew {E' : EX} {C' : XH} {h' : Hp} (ha : Adv E C h E' C' h') {D : Nat} (hD : h.size ≤ D) (x : Obj) : Adv E C h E' C' (h'.setIfInBounds D x) :=
  ⟨ha.gr, by simpa using ha.sz, fun j hj ho => by
    obtain ⟨h1, h2⟩ := ha.fr j hj ho
    refine ⟨?_, h2⟩
    rw [Array.getElem?_setIfInBounds]
    simp only [show ¬ D = j by omega, if_false]
    exact h1⟩
theorem adv_detour {E' E'' : EX} {C' C'' : XH} {h' h'' : Hp} {l : Nat} {x y : Obj} (ha : Adv E C h E' C' h') (hb : Adv E' C' (h'.setIfInBounds l x) E'' C'' h'') (ho : Out E C l) (hl : l < h.size) (hy : h[l]? = some y) :
    Adv E C h E'' C'' (h''.setIfInBounds l y) := by
  have h1 := ha.sz
  have h2 := hb.sz
  simp only [Array.size_setIfInBounds] at h2
  refine ⟨ha.gr.trans hb.gr, by simp; omega, fun j hj hout => ?_⟩
  obtain ⟨g1, g2⟩ := ha.fr j hj hout
  obtain ⟨g3, g4⟩ := hb.fr j (by simp; omega) g2
  refine ⟨?_, g4⟩
  rw [Array.getElem?_setIfInBounds]
  by_cases e : l = j
  · subst e
    rw [if_pos rfl, if_pos (by omega), hy]
  · rw [if_neg e, g3, Array.getElem?_setIfInBounds, if_neg e]
    exact g1
end
section
variable {P : Program}
/-- One round of a loop over a function. -/
theorem roundX_ok {ih : CodeX} (hi : CodeOK P ih) {p : Tmp} {asg body : Code} {ρ : XF} {n l : Nat} {L : Loop} {E0 : EX} {C0 : XH} {h0 : Hp} {a : Act} (hf : FitX [] E0 n ρ a) (ho : Out E0 C0 l) (hl : l < h0.size) (hL : h0[l]? = some (.loop L))
    (h1 : L.state = .ready) (h2 : L.pending = none) (h3 : L.tmps = a.tmps) (h4 : L.params = #[p]) (h5 : L.assign = asg) (h6 : L.body = body) :
    ∀ E1 C1 h1 v u outs, Adv E0 C0 h0 E1 C1 h1 → RH P E1 C1 h1 → RV E1 v u → roundX ih p asg body ρ v C1 = some outs → ∀ K : Bool → Hp → Prop, (∀ C' ∈ outs, ∀ E' h', Adv E1 C1 h1 E' C' h' → RH P E' C' h' → K true h') →
      ∀ (w : World) (m : Nat), w.heap = h1 → YieldAt (WR none) m P l #[u] w fun e w' => ∃ b, e = .returned (.bool b) ∧ Kept w w' ∧ K b w'.heap := by
  rintro E1 C1 hh1 v u outs ha H1 hv hr K hK w m rfl
  obtain ⟨q1, q2⟩ := ha.fr l hl ho
  rw [hL] at q1
  refine ⟨L.fn, _, L.assign, L.body, run_yield q1 (by rw [h4]; rfl), roundIn_of_wpIn trivial ?_⟩
  rw [h4, h3, h5, h6]
  unfold roundX at hr
  split at hr
  · rename_i ρ1 hs
    split at hr
    · rename_i la hla
      split at hr
      · rename_i q hq
        have hz : ((#[p] : Array Tmp).zip #[u]).foldl (fun tmps (t, a) => tmps.setIfInBounds t a) a.tmps = a.tmps.setIfInBounds p u := by simp
        rw [hz]
        have hf1 : FitX [] E1 n ρ1 { tmps := a.tmps.setIfInBounds p u, defers := [] } := by
          have := (hf.grow ha.gr).put (d := some p) (r := some v) (v := u) hs (fun x hx => by cases hx; exact hv)
          exact ⟨rfl, this.sz, this.len, this.kn⟩
        have hasg := hi .round asg ρ1 C1 la hla (some l) [] E1 n _ w m trivial H1 hf1
        refine wpIn_mono (F := WR (some l)) hasg ?_
        rintro e a1 w1 ⟨⟨x, ρ', C'⟩, hp, j1, E', ja, jh, jf, jk⟩
        obtain ⟨t1, t2⟩ := thenX_mem hq hp
        have went : ∀ {z : List (Ex × XF × XH)} {o : List XH}, wentX z = some o → ∀ r ∈ z, r.1 = .normal ∧ r.2.2 ∈ o := by
          intro z
          induction z with
          | nil => intro o _ r hr; simp at hr
          | cons y z ihz =>
            intro o ho r hr
            obtain ⟨e, ρ, C⟩ := y
            cases e with
            | normal =>
              simp only [wentX] at ho
              split at ho
              · rename_i q' hq'
                simp only [Option.some.injEq] at ho; subst ho
                rcases List.mem_cons.1 hr with rfl | hr
                · exact ⟨rfl, by simp⟩
                · obtain ⟨k1, k2⟩ := ihz hq' r hr
                  exact ⟨k1, by simp [k2]⟩
              · cases ho
            | exit i => simp [wentX] at ho
            | ret => simp [wentX] at ho
        have hx : x = .normal := by
          cases x with
          | normal => rfl
          | exit i => have := (went hr _ (t2 (by simp))).1; cases this
          | ret => have := (went hr _ (t2 (by simp))).1; cases this
        subst hx
        have := exOf_normal j1
        subst this
        obtain ⟨rb, hrb, hsub⟩ := t1 rfl
        have hlt : l < w.heap.size := by have := ha.sz; omega
        obtain ⟨q3, q4⟩ := ja.fr l hlt q2
        rw [q1] at q3
        refine ⟨_, run_beginRound q3 h1, ?_⟩
        have H2 := jh.out q4 (.loop { L with state := .busy })
        have hbody := hi .round body ρ' C' rb hrb (some l) [] E' n a1 (w1.putObj l (.loop { L with state := .busy })) m trivial H2 jf
        refine wpIn_mono (F := WR (some l)) hbody ?_
        rintro e a2 w2 ⟨⟨x2, ρ2, C2⟩, hp2, i1, E2, ia, ih2, if2, ik⟩
        obtain ⟨hn2, hm2⟩ := went hr _ (hsub _ hp2)
        simp only at hn2
        subst hn2
        have := exOf_normal i1
        subst this
        have ia' : Adv E' C' (w1.heap.setIfInBounds l (.loop { L with state := .busy })) E2 C2 w2.heap := ia
        have hlt2 : l < (w1.heap.setIfInBounds l (.loop { L with state := .busy })).size := by have := ja.sz; simp; omega
        obtain ⟨q5, q6⟩ := ia'.fr l hlt2 q4
        have q7 : w2.heap[l]? = some (.loop { L with state := .busy }) := by rw [q5]; exact set_blk q3
        refine ⟨_, _, run_endRound none q7, _, rfl, ?_, ?_⟩
        · exact (jk.trans (⟨rfl, rfl, rfl⟩ : Kept w1 (w1.putObj l _))).trans (ik.trans ⟨rfl, rfl, rfl⟩)
        · have e1 : ({ ({ L with state := .busy } : Loop) with state := if (none : Option Code).isNone then .ready else .done, pending := none } : Loop) = L := by
            cases L; simp only at h1 h2; subst h1 h2; rfl
          rw [e1]
          exact hK C2 hm2 E2 _ (adv_detour ja ia' q2 hlt q1) (ih2.out q6 _)
      · cases hr
    · cases hr
  · cases hr
/-- The statement that loops over a function. -/
theorem rf_x {g : Operand} {p : Nat} {asg body : Code} {a : Act} {w : World} {Q : Exit → Act → World → Prop} {f : FuncId} {caps : Array Value} {m : Nat} (hg : a.eval g = .func (.func f) #[] caps) (hd : a.defers = [])
    (he : ∀ args w, (callFunc f args).run P w = .ok (.enter f args) w)
    (H : ∀ L : Loop, L.state = .ready → L.pending = none → L.tmps = a.tmps → L.params = #[p] → L.assign = asg → L.body = body →
      CallsH P f (#[.func (.yield (w.heap.size + 1)) #[] #[]] ++ caps) ((w.heap.push (.deferred (some []))).push (.loop L)) fun _ h2 => h2[w.heap.size + 1]? = some (.loop L) ∧
        ∀ w' : World, Kept w w' → w'.heap = h2.setIfInBounds (w.heap.size + 1) (.loop { L with state := .exhausted }) → Q .normal { a with defers := markOf w.heap.size } w') :
    (Code.rangeFunc g #[p] asg body).wpIn (WR none) m P Q a w := by
  refine wpIn_rangeFunc ?_
  intro fn hfn
  obtain ⟨L, hL⟩ : ∃ L : Loop, L = { state := .ready, pending := none, fn, tmps := a.tmps, params := #[p], assign := asg, body, defers := w.heap.size } := ⟨_, rfl⟩
  obtain ⟨W1, hW1⟩ : ∃ W1, (w.alloc (.deferred (some []))).alloc (.loop L) = W1 := ⟨_, rfl⟩
  refine ⟨w.heap.size + 1, markOf w.heap.size, W1, { target := .fn (.func f) caps, args := #[] ++ #[.func (.yield (w.heap.size + 1)) #[] #[]] }, W1, f, (#[] ++ #[.func (.yield (w.heap.size + 1)) #[] #[]]) ++ caps, W1, ?_, ?_, fun _ _ => trivial, ?_, fun h => by simp [WR] at h, ?_⟩
  · rw [← hW1, hL]; exact run_enterLoop_outer _ _ _ _ _
  · have ec : (#[Operand.const (Value.func (.yield (w.heap.size + 1)) #[] #[])] : Array Operand).map a.eval = #[.func (.yield (w.heap.size + 1)) #[] #[]] := by simp [Act.eval]
    simp only [resolve, rangeCall, hg, ec, Deferred.ofValue]
    simp only [Sem.run_bind, Sem.run_pure, Result.andThen]
  · simp only [invoke]
    exact he _ _
  · have e0 : (#[] ++ #[Value.func (.yield (w.heap.size + 1)) #[] #[]]) ++ caps = #[.func (.yield (w.heap.size + 1)) #[] #[]] ++ caps := by simp
    rw [e0]
    refine (callsIn_of (H L (by rw [hL]) (by rw [hL]) (by rw [hL]) (by rw [hL]) (by rw [hL]) (by rw [hL]) W1 ?_)).mono ?_
    · rw [← hW1]; rfl
    · rintro e w3 ⟨vs, rfl, hk, h2, hq⟩
      refine ⟨_, _, run_endLoop h2 (by rw [hL]; simp), ?_⟩
      have hp : L.pending = none := by rw [hL]
      rw [hp]
      have k0 : Kept w W1 := by rw [← hW1]; exact ⟨rfl, rfl, rfl⟩
      have := hq (w3.putObj (w.heap.size + 1) (.loop { L with state := .exhausted })) (k0.trans (hk.trans ⟨rfl, rfl, rfl⟩)) rfl
      simpa [hd, hp] using this
end
end Go.Lift

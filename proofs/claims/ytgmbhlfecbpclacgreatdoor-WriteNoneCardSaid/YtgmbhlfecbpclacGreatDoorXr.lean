/- The evaluator is sound. -/
import Derived.Test.YtgmbhlfecbpclacGreatDoorXq
set_option linter.unusedSimpArgs false
set_option linter.unusedVariables false
namespace Go.Lift
open Go
section
variable {P : Program}
theorem preX_app {ih : CodeX} {b : Code} : ∀ {l : List Code} {ρ : XF} {C : XH} {r : XF × XH}, preX ih (l ++ [b]) ρ C = some r → ∃ ρ1 C1, preX ih l ρ C = some (ρ1, C1) ∧ ih .plain b ρ1 C1 = some [(.normal, r.1, r.2)]
  | [], ρ, C, r, h => by
    simp only [List.nil_append, preX] at h
    split at h
    · rename_i ρ' C' h1
      simp only [Option.some.injEq] at h; subst h
      exact ⟨ρ, C, rfl, h1⟩
    · cases h
  | a :: l, ρ, C, r, h => by
    simp only [List.cons_append, preX] at h ⊢
    split at h
    · rename_i ρ' C' h1
      obtain ⟨ρ1, C1, h2, h3⟩ := preX_app h
      exact ⟨ρ1, C1, by simp only [h2], h3⟩
    · cases h
theorem pre_in {ih : CodeX} (hi : CodeOK P ih) {n : Nat} {rest : Code} {Q : Exit → Act → World → Prop} {m : Nat} : ∀ {l : List Code} {ρ : XF} {C : XH} {E : EX} {a : Act} {w : World} {r : XF × XH}, preX ih l ρ C = some r → RH P E C w.heap → FitX [] E n ρ a →
    (∀ E' a' w', Adv E C w.heap E' r.2 w'.heap → RH P E' r.2 w'.heap → FitX [] E' n r.1 a' → Kept w w' → rest.wpIn (WR none) m P Q a' w') → (l.foldr .seq rest).wpIn (WR none) m P Q a w
  | [], ρ, C, E, a, w, r, h, H, hf, hk => by
    simp only [preX, Option.some.injEq] at h; subst h
    exact hk E a w (.refl _ _ _) H hf (.refl _)
  | c :: l, ρ, C, E, a, w, r, h, H, hf, hk => by
    simp only [preX] at h
    split at h
    · rename_i ρ' C' h1
      simp only [List.foldr_cons]
      refine wpIn_seq (wpIn_mono (hi _ _ _ _ _ h1 none [] E n a w m ⟨rfl, rfl⟩ H hf) ?_)
      rintro e a' w' ⟨p, hp, j1, E', ja, jh, jf, jk⟩
      simp only [List.mem_singleton] at hp
      subst hp
      have := exOf_normal j1
      subst this
      exact pre_in hi h jh jf fun E2 a2 w2 ka kh kf kk => hk E2 a2 w2 (ja.trans ka) kh kf (jk.trans kk)
    · cases h
theorem rfP_some : ∀ {c : Code} {q : RfC}, rfP c = some q → c = q.pre.foldr .seq (.seq (.seq q.b (.block q.i (.rangeFunc q.g #[q.p] q.asg q.body))) q.c)
  | c, q, h => by
    unfold rfP at h
    split at h
    · rename_i b i g ps asg body c
      split at h
      · rename_i p hp
        simp only [Option.some.injEq] at h; subst h
        have : ps = #[p] := by rw [← Array.toArray_toList (xs := ps), hp]
        simp [this]
      · cases h
    · rename_i a r _
      split at h
      · rename_i q' hq
        simp only [Option.some.injEq] at h; subst h
        simp only [List.foldr_cons]
        rw [← rfP_some hq]
      · cases h
    · cases h
theorem overR_mem {ρ : XF} {p : Ex × XF × XH} : ∀ {l q : List (Ex × XF × XH)}, overR ρ l = some q → p ∈ l → (∀ i, p.1 ≠ .exit i) ∧ (.normal, ρ, p.2.2) ∈ q
  | [], _, _, hp => by simp at hp
  | (e, ρ', C) :: l, q, hq, hp => by
    cases e with
    | exit i => simp [overR] at hq
    | normal =>
      cases hov : overR ρ l with
      | none => simp [overR, hov] at hq
      | some q' =>
        simp only [overR, hov, Option.some.injEq] at hq; subst hq
        rcases List.mem_cons.1 hp with rfl | hp
        · exact ⟨fun i hi => (by cases hi), by simp⟩
        · obtain ⟨g1, g2⟩ := overR_mem hov hp
          exact ⟨g1, by simp [g2]⟩
    | ret =>
      cases hov : overR ρ l with
      | none => simp [overR, hov] at hq
      | some q' =>
        simp only [overR, hov, Option.some.injEq] at hq; subst hq
        rcases List.mem_cons.1 hp with rfl | hp
        · exact ⟨fun i hi => (by cases hi), by simp⟩
        · obtain ⟨g1, g2⟩ := overR_mem hov hp
          exact ⟨g1, by simp [g2]⟩
/-- Calls of a program's own functions. -/
def NameOK (P : Program) : Prop := ∀ (f : Nat) (fn : Func), P.funcs[f]? = some fn → (fn.name == "runtime.NumGoroutine") = false
theorem bodyX_calls {ih : CodeX} (hN : NameOK P) (hi : CodeOK P ih) {f : Nat} {fn : Func} {c : Code} (hfn : P.funcs[f]? = some fn) (hb : fn.body = some c) {as : List XV} {vs : List Value} {ρ : XF} {C : XH} {E : EX} {h : Hp} {outs : List (List XV × XH)}
    (hρ : initX as fn.ntmps = some ρ) (hv : RVs E as vs) (H : RH P E C h) (hq : bodyX P ih fn c ρ C = some outs) {Q : List Value → Hp → Prop} (hK : ∀ r ∈ outs, ∀ E' us h', Adv E C h E' r.2 h' → RH P E' r.2 h' → RVs E' r.1 us → Q us h') :
    CallsH P f vs.toArray h Q := by
  intro w hw
  subst hw
  have hf0 := initX_fit (E := E) hρ hv
  unfold bodyX at hq
  split at hq
  · split at hq
    · rename_i l hl
      refine calls_of_in (n := 0) (callsIn_of_wp hfn hb trivial ?_)
      refine wpIn_mono (hi _ _ _ _ _ hl none [] E fn.ntmps _ w 0 ⟨rfl, rfl⟩ H hf0) ?_
      rintro e a' w' ⟨⟨x, ρ', C'⟩, hp, j1, E', ja, jh, jf, jk⟩
      obtain ⟨k1, xs, k2, k3⟩ := leaveX_mem hq hp
      have hfit : Fits fn.ntmps (frOf ρ' a') a' := ⟨jf.dz, jf.sz, jf.fits.kn⟩
      have hret := retX_of (K := fun us => Q us w'.heap) jh jf.rf k2 fun us hus => hK _ k3 E' us w'.heap ja jh hus
      obtain ⟨us, g1, g2⟩ := results_sound (fn := fn) hfit hret
      obtain ⟨v, g3, g4⟩ := semR_run _ w' _ g2
      cases x with
      | exit i => exact absurd rfl (k1 i)
      | normal =>
        have := exOf_normal j1
        subst this
        exact ⟨jf.dz, v, g3, us, by rw [g4], jk, g1⟩
      | ret =>
        have := exOf_ret j1
        subst this
        exact ⟨jf.dz, v, g3, us, by rw [g4], jk, g1⟩
    · cases hq
  · rename_i q hrf
    have hc := rfP_some hrf
    split at hq
    · rename_i ρ2 C2 hpre
      obtain ⟨ρ1, C1, hp1, hp2⟩ := preX_app hpre
      split at hq
      · rename_i gf cs hg
        split at hq
        · rename_i gn hgn
          split at hq
          · rename_i gc hgb hgr
            simp only [fN_eq, appX_eq, lenX_0] at hq
            split at hq
            · rename_i τ hτ
              split at hq
              · rename_i l hl
                split at hq
                · rename_i l2 hl2
                  split at hq
                  · rename_i l3 hl3
                    refine calls_of_in (n := 0) (callsIn_of_wp_marks hfn hb trivial ?_)
                    rw [hc]
                    refine pre_in hi hp1 H hf0 fun E1 a1 w1 ja1 jh1 jf1 jk1 => ?_
                    refine wpIn_seq (wpIn_seq (wpIn_mono (hi _ _ _ _ _ hp2 none [] E1 fn.ntmps a1 w1 0 ⟨rfl, rfl⟩ jh1 jf1) ?_))
                    rintro e a2 w2 ⟨p2, hpm, j1, E2, ja2, jh2, jf2, jk2⟩
                    simp only [List.mem_singleton] at hpm
                    subst hpm
                    have := exOf_normal j1
                    subst this
                    simp only at ja2 jh2 jf2
                    refine wpIn_block ?_
                    obtain ⟨fu, u1, l0, rfl, u2⟩ := jf2.rf.ev hg
                    have hrun : ∀ args w, (callFunc gf args).run P w = .ok (.enter gf args) w := fun args w => by
                      have e0 : Sem.run P program w = .ok P w := rfl
                      unfold callFunc
                      rw [Sem.run_bind, e0]
                      simp only [Result.andThen, hgn, hN _ _ hgn, Bool.false_eq_true, if_false, hgb, Option.isNone_some]
                      rfl
                    refine rf_x (jf2.fits.ev _ _ u1) jf2.dz hrun fun L L1 L2 L3 L4 L5 L6 => ?_
                    obtain ⟨H2b, A2b⟩ := jh2.bare (.deferred (some []))
                    have hsz : (w2.heap.push (Obj.deferred (some []))).size = w2.heap.size + 1 := by simp
                    obtain ⟨H3, A3⟩ := H2b.push (o := .dead) (ob := .loop L) (x := 0) trivial
                    rw [hsz] at H3 A3
                    have len3 : ∀ {k o}, (C2 ++ [XO.dead])[k]? = some o → isDead o = false → C2[k]? = some o := fun {k o} hk hd => by
                      rw [List.getElem?_append] at hk
                      split at hk
                      · exact hk
                      · rename_i g
                        rcases Nat.lt_or_eq_of_le (Nat.le_of_not_lt g) with g' | g'
                        · rw [List.getElem?_eq_none (by simp; omega)] at hk; cases hk
                        · subst g'; simp at hk; subst hk; cases hd
                    have out3 : ∀ j, w2.heap.size ≤ j → Out (updE E2 C2.length (w2.heap.size + 1, 0)) (C2 ++ [.dead]) j := fun j hj k b ⟨o, hk, hd⟩ eb => by
                      have hk' := len3 hk hd
                      obtain ⟨b', e1, e2, _⟩ := jh2.id hk'
                      have := jh2.grow (w2.heap.size + 1, 0) _ _ e1
                      rw [this] at eb
                      cases eb
                      omega
                    have fit3 : FitX [] (updE E2 C2.length (w2.heap.size + 1, 0)) fn.ntmps ρ2 a2 := jf2.grow (jh2.grow _)
                    have hloop : ((w2.heap.push (.deferred (some []))).push (.loop L))[w2.heap.size + 1]? = some (.loop L) := by rw [← hsz]; exact push_get _ _
                    have hdef : ((w2.heap.push (.deferred (some []))).push (.loop L))[w2.heap.size]? = some (.deferred (some [])) := push_old (push_get _ _) _
                    have hargs : RVs (updE E2 C2.length (w2.heap.size + 1, 0)) (.yld C2.length :: cs) (.func (.yield (w2.heap.size + 1)) #[] #[] :: l0) := RVs.cons ⟨_, updE_new _ _ _, rfl⟩ (u2.grow (jh2.grow _))
                    have earr : (#[Value.func (.yield (w2.heap.size + 1)) #[] #[]] ++ l0.toArray) = (Value.func (.yield (w2.heap.size + 1)) #[] #[] :: l0).toArray := by simp
                    rw [earr]
                    intro w3 hw3
                    have H3' : RH P (updE E2 C2.length (w2.heap.size + 1, 0)) (C2 ++ [.dead]) w3.heap := by rw [hw3]; exact H3
                    refine calls_of_in (n := 0) (callsIn_of_wp hgn hgb trivial ?_)
                    refine wpIn_mono (hi _ _ _ _ _ hl none [] _ gn.ntmps _ w3 0 ⟨rfl, w2.heap.size + 1, 0, _, _, w3.heap, updE_new _ _ _, .refl _ _ _, ?_⟩ H3' (initX_fit hτ hargs)) ?_
                    · rw [hw3]
                      exact roundX_ok hi fit3 (out3 _ (by omega)) (by simp) hloop L1 L2 L3 L4 L5 L6
                    rintro e a4 w4 ⟨⟨x4, ρ4, C4⟩, hp4, j4, E4, ja4, jh4, jf4, jk4⟩
                    obtain ⟨n4, m4⟩ := overR_mem hl2 hp4
                    have fr1 := ja4.fr (w2.heap.size + 1) (by rw [hw3]; simp) (out3 _ (by omega))
                    have fr2 := ja4.fr w2.heap.size (by rw [hw3]; simp; omega) (out3 _ (by omega))
                    rw [hw3, hloop] at fr1
                    rw [hw3, hdef] at fr2
                    have base : Adv E C w.heap E4 C4 w4.heap := ((ja1.trans ja2).trans (A2b.trans A3)).trans (by rw [hw3] at ja4; exact ja4)
                    have hgoal : ∀ w' : World, Kept w2 w' → w'.heap = w4.heap.setIfInBounds (w2.heap.size + 1) (.loop { L with state := .exhausted }) →
                        q.c.wpIn (WR none) 0 P (bodyPostM (WR none) 0 P fn fun e w' => ∃ vs, e = .returned (packR vs) ∧ Kept w w' ∧ Q vs w'.heap) { a2 with defers := markOf w2.heap.size } w' := by
                      intro w' hk' hw'
                      have H4 : RH P E4 C4 w'.heap := by rw [hw']; exact jh4.out fr1.2 _
                      have fit4 : FitX (markOf w2.heap.size) E4 fn.ntmps ρ2 { a2 with defers := markOf w2.heap.size } := by
                        have := (fit3.grow ja4.gr)
                        exact ⟨rfl, this.sz, this.len, this.kn⟩
                      obtain ⟨t1, _⟩ := thenX_mem hl3 m4
                      obtain ⟨r5, hr5, hsub⟩ := t1 rfl
                      refine wpIn_mono (hi .round q.c ρ2 C4 r5 hr5 none (markOf w2.heap.size) E4 fn.ntmps _ w' 0 trivial H4 fit4) ?_
                      rintro e a5 w5 ⟨⟨x5, ρ5, C5⟩, hp5, j5, E5, ja5, jh5, jf5, jk5⟩
                      obtain ⟨n5, xs, k2, k3⟩ := leaveX_mem hq (hsub _ hp5)
                      have hws : w.heap.size ≤ w2.heap.size := (ja1.trans ja2).sz
                      have b1 : Adv E C w.heap E4 C4 w'.heap := by rw [hw']; exact base.setNew (by omega) _
                      have b2 := (b1.trans ja5).setNew (D := w2.heap.size) hws (.deferred none)
                      have d1 : w'.heap[w2.heap.size]? = some (.deferred (some [])) := by
                        rw [hw', Array.getElem?_setIfInBounds]
                        simp only [show ¬ w2.heap.size + 1 = w2.heap.size by omega, if_false]
                        exact fr2.1
                      have d2 := ja5.fr w2.heap.size (by rcases Nat.lt_or_ge w2.heap.size w'.heap.size with g | g; exact g; rw [Array.getElem?_eq_none g] at d1; cases d1) fr2.2
                      rw [d1] at d2
                      have H5 := jh5.out d2.2 (.deferred none)
                      have hret := retX_of (K := fun us => Q us (w5.heap.setIfInBounds w2.heap.size (.deferred none))) H5 jf5.rf k2 fun us hus => hK _ k3 E5 us _ b2 H5 hus
                      refine leave_in (m := 0) (w0 := w) (a0 := a5) (wr := fun _ => true) ⟨x5, frOf ρ5 a5, j5, jf5.fits, ((jk1.trans jk2).trans hk').trans jk5, fun t ht => (by cases ht), ?_⟩
                      cases x5 with
                      | exit i => exact absurd rfl (n5 i)
                      | normal => exact ⟨d2.1, hret⟩
                      | ret => exact ⟨d2.1, hret⟩
                    have hfit4 : Fits gn.ntmps (frOf ρ4 a4) a4 := ⟨jf4.dz, jf4.sz, jf4.fits.kn⟩
                    have hret4 : retW P w4.heap (frOf ρ4 a4) gn.results.toList (fun us => us = []) := by rw [hgr]; rfl
                    obtain ⟨us4, g1, g2⟩ := results_sound (fn := gn) hfit4 hret4
                    obtain ⟨v4, g3, g4⟩ := semR_run _ w4 _ g2
                    cases x4 with
                    | exit i => exact absurd rfl (n4 i)
                    | normal =>
                      have := exOf_normal j4
                      subst this
                      exact ⟨jf4.dz, v4, g3, us4, by rw [g4], jk4, fr1.1, hgoal⟩
                    | ret =>
                      have := exOf_ret j4
                      subst this
                      exact ⟨jf4.dz, v4, g3, us4, by rw [g4], jk4, fr1.1, hgoal⟩
                  · cases hq
                · cases hq
              · cases hq
            · cases hq
          · cases hq
        · cases hq
      · cases hq
    · cases hq
/-- What a call by a given contract does. -/
def HookOK (P : Program) (ext : HookX) : Prop := ∀ f g, ext f = some g → ∀ as C r, g as C = some r → ∀ E h vs, RVs E as vs → RH P E C h → ∀ Q : List Value → Hp → Prop, (∀ E' us h', Adv E C h E' r.2 h' → RH P E' r.2 h' → RVs E' r.1 us → Q us h') → Fn P f vs.toArray h Q
theorem mapO_mem {α β : Type} {f : α → Option β} {x : α} : ∀ {l : List α} {r : List β}, mapO f l = some r → x ∈ l → ∃ y, f x = some y ∧ y ∈ r
  | [], _, _, hx => by simp at hx
  | a :: l, r, h, hx => by
    simp only [mapO] at h
    split at h
    · rename_i y r' h1 h2
      simp only [Option.some.injEq] at h; subst h
      rcases List.mem_cons.1 hx with rfl | hx
      · exact ⟨y, h1, by simp⟩
      · obtain ⟨z, g1, g2⟩ := mapO_mem h2 hx
        exact ⟨z, g1, by simp [g2]⟩
    · cases h
theorem callX_ok {ext : HookX} {ih : CodeX} (hN : NameOK P) (he : HookOK P ext) (hi : CodeOK P ih) : CallOK P (callX P ext ih) := by
  intro f as C outs hq E h vs hv H Q hK
  unfold callX at hq
  split at hq
  · rename_i g hg
    obtain ⟨r, h1, h2⟩ := bnd_some hq
    simp only [Option.some.injEq] at h2; subst h2
    exact he f g hg as C r h1 E h vs hv H Q fun E' us h' ha hh hus => hK _ (List.mem_singleton.2 rfl) E' us h' ha hh hus
  · split at hq
    · rename_i fn hfn
      split at hq
      · rename_i c hb
        split at hq
        · rename_i ρ hρ
          have main : ∀ l, bodyX P ih fn c ρ C = some l → (∀ r ∈ l, ∀ E' us h', Adv E C h E' r.2 h' → RH P E' r.2 h' → RVs E' r.1 us → Q us h') → Fn P f vs.toArray h Q := fun l hl hk =>
            fn_of_calls hfn hb (hN _ _ hfn) (bodyX_calls hN hi hfn hb hρ hv H hl hk)
          split at hq
          · rename_i r hr
            simp only [Option.some.injEq] at hq; subst hq
            exact main _ hr hK
          · rename_i l _ hl
            obtain ⟨q, h1, h2⟩ := bnd_some hq
            simp only [Option.some.injEq] at h2; subst h2
            refine main l hl fun r hr E' us h' ha hh hus => ?_
            obtain ⟨r', g1, g2⟩ := mapO_mem h1 hr
            rw [lenX_0] at g1
            obtain ⟨E2, k1, k2, k3⟩ := cmpR_sound H ha hh hus g1
            exact hK r' (nubR_mem g2) E2 us h' k1 k2 k3
          · cases hq
        · cases hq
      · cases hq
    · cases hq
theorem exX_ok {ext : HookX} (hm : P.follows .mixedOrders = true) (hN : NameOK P) (he : HookOK P ext) : ∀ n, CodeOK P (exX P ext n) ∧ HeadOK P (exX P ext n)
  | 0 => ⟨fun y c ρ C outs h => by simp [exX] at h, fun y c ρ C outs h => by simp [exX] at h⟩
  | n + 1 => by
    obtain ⟨h1, h2⟩ := exX_ok hm hN he n
    exact codeX_ok hm (callX_ok hN he h1) h1 h2
/-- The evaluator's word of a call, at a heap of which nothing is known. -/
theorem runX_ok {ext : HookX} (hm : P.follows .mixedOrders = true) (hN : NameOK P) (he : HookOK P ext) {n f : Nat} {outs : List (List XV × XH)} (hr : runX P ext n f [] [] = some outs) {h : Hp} {Q : List Value → Hp → Prop}
    (hQ : ∀ r ∈ outs, ∀ E' us h', Ext [] h h' → RH P E' r.2 h' → RVs E' r.1 us → Q us h') : Fn P f #[] h Q := by
  have H : RH P (fun _ => none) [] h := ⟨fun k hk => by simp at hk, fun _ _ => rfl, fun j k o p b c hj => by simp at hj, fun k o b hk => by simp at hk⟩
  exact callX_ok hN he (exX_ok hm hN he n).1 f [] [] outs hr (fun _ => none) h [] rfl H Q fun r hrm E' us h' ha hh hus =>
    hQ r hrm E' us h' ⟨ha.sz, fun b hb _ => (ha.fr b hb fun k c ⟨o, ho, _⟩ => by simp at ho).1⟩ hh hus
/-- .. of one that answers true. -/
def trueX (r : Option (List (List XV × XH))) : Bool := match r with | some [([.bool true], _)] => true | _ => false
theorem runX_true {ext : HookX} (hm : P.follows .mixedOrders = true) (hN : NameOK P) (he : HookOK P ext) {n f : Nat} (hr : trueX (runX P ext n f [] []) = true) {h : Hp} {Q : List Value → Hp → Prop}
    (hQ : ∀ h', Ext [] h h' → Q [.bool true] h') : Fn P f #[] h Q := by
  unfold trueX at hr
  split at hr
  · rename_i C hrun
    refine runX_ok hm hN he hrun fun r hr E' us h' hx _ hus => ?_
    simp only [List.mem_singleton] at hr
    subst hr
    obtain ⟨u, m, rfl, h1, h2⟩ := hus
    simp only [RVs] at h2; subst h2
    simp only [RV] at h1; subst h1
    exact hQ h' hx
  · cases hr
end
end Go.Lift

/- The evaluator's operations are sound, all of them. -/
import Derived.Test.YtgmbhlfecbpclacGreatDoorXl
set_option linter.unusedSimpArgs false
set_option linter.unusedVariables false
namespace Go.Lift
open Go
def hs0 : Hints := fun _ => []
/-- Calls keep their word. -/
def CallOK (P : Program) (call : CallX) : Prop := ∀ f as C outs, call f as C = some outs → ∀ E h vs, RVs E as vs → RH P E C h → ∀ Q : List Value → Hp → Prop,
  (∀ r ∈ outs, ∀ E' us h', Adv E C h E' r.2 h' → RH P E' r.2 h' → RVs E' r.1 us → Q us h') → Fn P f vs.toArray h Q
section
variable {P : Program} {E : EX} {C : XH} {h : Hp}
theorem strC_of (s : List UInt8) : RVs E (strC (s.map UInt8.toNat)) (s.map fun b => Value.int .u8 (b.toNat : Int)) := by
  induction s with
  | nil => rfl
  | cons b s ih => exact RVs.cons rfl ih
theorem szOf_info {e : TypeId} {i : TypeInfo} (hi : P.info? e = some i) : szOf P e = some i.size := by simp [szOf, hi]
theorem apX_sound {t : TypeId} {s x r : XV} {sv xv : Value} {C' : XH} {K : Value → Hp → Prop} (H : RH P E C h) (hr : apX P t s x C = some (r, C')) (hs : RV E s sv) (hx : RV E x xv)
    (hK : ∀ E' u h', Adv E C h E' C' h' → RH P E' C' h' → RV E' r u → K u h') : appW P t sv xv h K := by
  unfold apX at hr
  split at hr
  · rename_i e ht
    split at hr
    · rename_i i z hi hz
      obtain ⟨zv, h1, h2, h3⟩ := zcX_of (E := E) hz
      split at hr
      · rename_i hsz
        have hsz := Nat.eq_of_beq_eq_true hsz
        rw [lenX_0] at hsz
        have hzs : (zc P e).size = i.size := by rw [h3]; have := h2.len; simp only [Array.length_toList] at this; omega
        split at hr
        · rename_i u
          obtain ⟨s', rfl, hb⟩ := hx
          split at hr
          · rename_i h1s
            have h1s := Nat.eq_of_beq_eq_true h1s
            rw [lenX_0] at hr
            subst hb
            obtain ⟨s0, rfl, happ⟩ := appS_sound (K := fun s' h' => K (.slice s'.a s'.n s'.c) h') H hr (szOf_info hi) hzs hs (strC_of s'.data.toList) fun E' s' h' ha hh hv => hK E' _ h' ha hh hv
            simp only [appW, ht, hi, h1]
            refine ⟨h1s, ?_⟩
            rw [byte_size]
            simpa [strCells] using happ
          · cases hr
        · rename_i hns
          split at hr
          · rename_i m hm
            split at hr
            · rename_i new hnew
              obtain ⟨ad, n, c, us, rfl, g1, g2, g3⟩ := elX_of H hnew hx
              have hnm := slenX_of hm hx
              subst hnm
              obtain ⟨s0, rfl, happ⟩ := appS_sound (K := fun s' h' => K (.slice s'.a s'.n s'.c) h') H hr (szOf_info hi) hzs hs g1 fun E' s' h' ha hh hv => hK E' _ h' ha hh hv
              simp only [appW, ht, hi, h1]
              exact ⟨us, g2, happ⟩
            · cases hr
          · cases hr
      · cases hr
    · cases hr
  · cases hr
theorem clearX_sound {t : TypeId} {s : XV} {sv : Value} {C' : XH} {K : Hp → Prop} (H : RH P E C h) (hs : clearX P t s C = some C') (hv : RV E s sv) (hK : ∀ h', Adv E C h E C' h' → RH P E C' h' → K h') : clearW P t sv h K := by
  unfold clearX at hs
  split at hs
  · rename_i e a n c ex ht
    split at hs
    · rename_i z hz
      obtain ⟨zv, h1, h2, h3⟩ := zcX_of (E := E) hz
      have hone : ∀ {zl : Bool}, (allOneX z && zl) = true → zv.cells.toList.all oneCell = true := fun {zl} hc => by
        simp only [Bool.and_eq_true] at hc
        exact List.all_eq_true.2 (all_one h2 (allOneX_of hc.1))
      split at hs
      · rename_i k o hc
        have hc' := hc
        simp only [Bool.and_eq_true] at hc'
        have hz0 : 0 < z.length := by have := Nat.le_of_ble_eq_true hc'.2; rw [lenX_0] at this; exact this
        have hb : ∃ b c', E k = some b ∧ sv = .slice (some ⟨b.1, o, none⟩) n c' := by
          cases ex with
          | true => obtain ⟨b, g1, g2⟩ := hv; exact ⟨b, _, g1, g2⟩
          | false => obtain ⟨b, g1, g2⟩ := hv; exact ⟨b, _, g1, g2⟩
        obtain ⟨b, c', hb, rfl⟩ := hb
        simp only [clearW, ht, h1]
        have hall : (zc P e).toList.all oneCell = true := by rw [h3]; exact hone hc
        rcases n with _ | n
        · simp only [Option.some.injEq] at hs; subst hs
          refine ⟨⟨hall, fun a _ i hi => by simp at hi⟩, ?_⟩
          simp only [if_true, cpHp]
          exact hK _ (.refl _ _ _) H
        · simp only at hs
          have hn := reps_of h2 hz0 (n + 1)
          obtain ⟨b', cc, e', k1, k2, k3, k4, k5, k6⟩ := stcX_of H hs hn
          rw [hb] at k1; cases k1
          refine ⟨⟨hall, fun a ha => ?_⟩, ?_⟩
          · cases ha
            rw [h3]
            simpa using k4
          · simp only [Nat.add_one_ne_zero, if_false, cpHp]
            have : Builtin.zeroCells (zc P e) (n + 1) = (Array.range ((n + 1) * zv.cells.size)).map fun i => zv.cells[i % zv.cells.size]! := by rw [h3]; rfl
            rw [this]
            exact hK _ k6 k5
      · rename_i hc
        simp only [Option.some.injEq] at hs; subst hs
        simp only [RV] at hv; subst hv
        simp only [clearW, ht, h1]
        refine ⟨⟨by rw [h3]; exact hone hc, fun a ha => by cases ha⟩, ?_⟩
        simp only [if_true, cpHp]
        exact hK _ (.refl _ _ _) H
      · cases hs
    · cases hs
  · cases hs
theorem loBX_sound {b : Builtin} {as : List XV} {vs : List Value} {ts : Array TypeId} {r : XV} {C' : XH} {K : Value → Hp → Prop} (H : RH P E C h) (hr : loBX P b as ts.toList C = some (r, C')) (hx : RVs E as vs)
    (hK : ∀ E' u h', Adv E C h E' C' h' → RH P E' C' h' → RV E' r u → K u h') : loB P b vs ts h K := by
  unfold loBX at hr
  split at hr
  · rename_i s x t u hts
    obtain ⟨sv, m, rfl, h1, xv, m2, rfl, h2, h3⟩ := hx
    simp only [RVs] at h3; subst h3
    simp only [loB, hts]
    split at hr
    · cases hr
    · rename_i d hd1 hd2
      have := apX_sound H hr h1 h2 hK
      split
      · rename_i k hk; rw [hd2] at hk; exact (hd1 k (Option.some.inj hk)).elim
      · exact this
      · rename_i hn; rw [hd2] at hn; cases hn
    · cases hr
  · rename_i m k t l hts
    obtain ⟨mv, q, rfl, h1, kv, q2, rfl, h2, h3⟩ := hx
    simp only [RVs] at h3; subst h3
    simp only [loB, hts]
    obtain ⟨C1, g1, g2⟩ := bnd_some hr
    simp only [Option.some.injEq, Prod.mk.injEq] at g2
    obtain ⟨rfl, rfl⟩ := g2
    exact delX_sound H g1 h1 h2 fun h' ha hh => hK E _ h' ha hh rfl
  · rename_i s t l hts
    obtain ⟨sv, q, rfl, h1, h3⟩ := hx
    simp only [RVs] at h3; subst h3
    simp only [loB, hts]
    obtain ⟨C1, g1, g2⟩ := bnd_some hr
    simp only [Option.some.injEq, Prod.mk.injEq] at g2
    obtain ⟨rfl, rfl⟩ := g2
    exact clearX_sound H g1 h1 fun h' ha hh => hK E _ h' ha hh rfl
  · cases hr
theorem louX_sound {o : Oper} {ρ : XF} {τ : Fr} {n : Nat} {r : Option XV} {C' : XH} {K : Option Value → Hp → Prop} (H : RH P E C h) (hf : RF E n ρ τ) (hq : louX P o ρ C = some (r, C'))
    (hK : ∀ E' u h', Adv E C h E' C' h' → RH P E' C' h' → RR E' r u → K u h') : louW P hs0 o τ h K := by
  unfold louX at hq
  unfold louW
  cases hop : o.op
  case alloc t =>
    simp only [hop] at hq ⊢
    obtain ⟨z, h1, hq⟩ := bnd_some hq
    obtain ⟨q, h2, hq⟩ := bnd_some hq
    simp only [Option.some.injEq, Prod.mk.injEq] at hq
    obtain ⟨rfl, rfl⟩ := hq
    exact alX_of H h1 h2 fun E' u h' ha hh hv => hK E' _ h' ha hh ⟨u, rfl, hv⟩
  case box t x =>
    simp only [hop] at hq ⊢
    obtain ⟨v, h1, hq⟩ := bnd_some hq
    obtain ⟨q, h2, hq⟩ := bnd_some hq
    simp only [Option.some.injEq, Prod.mk.injEq] at hq
    obtain ⟨rfl, rfl⟩ := hq
    obtain ⟨u, g1, g2⟩ := hf.ev h1
    simp only [g1, e1]
    obtain ⟨k1, k2⟩ := RVs.pre (n := szD P t) (cells_of g2)
    obtain ⟨k3, k4⟩ := H.new k1 k2
    rw [newX_some h2] at hK
    exact hK _ _ _ k4 k3 ⟨_, rfl, _, updE_new _ _ _, rfl⟩
  case buildSlice t m ps =>
    simp only [hop] at hq ⊢
    obtain ⟨vs, h1, hq⟩ := bnd_some hq
    obtain ⟨q, h2, hq⟩ := bnd_some hq
    simp only [Option.some.injEq, Prod.mk.injEq] at hq
    obtain ⟨rfl, rfl⟩ := hq
    obtain ⟨us, g1, g2⟩ := hf.evp h1
    simp only [eP, g1]
    exact bsX_sound H h2 g2 fun E' u h' ha hh hv => hK E' _ h' ha hh ⟨u, rfl, hv⟩
  case store t a x =>
    simp only [hop] at hq ⊢
    obtain ⟨p, h1, hq⟩ := bnd_some hq
    obtain ⟨v, h2, hq⟩ := bnd_some hq
    obtain ⟨C1, h3, hq⟩ := bnd_some hq
    simp only [Option.some.injEq, Prod.mk.injEq] at hq
    obtain ⟨rfl, rfl⟩ := hq
    obtain ⟨pv, g1, g2⟩ := hf.ev h1
    obtain ⟨vv, g3, g4⟩ := hf.ev h2
    simp only [g1, g3, e1]
    exact stX_sound H h3 g2 g4 fun h' ha hh => hK E _ h' ha hh trivial
  case makeMap t m =>
    simp only [hop] at hq ⊢
    split at hq
    · rename_i kt et ht hm
      obtain ⟨q, h2, hq⟩ := bnd_some hq
      simp only [Option.some.injEq, Prod.mk.injEq] at hq
      obtain ⟨rfl, rfl⟩ := hq
      rw [newX_some h2] at hK
      simp only [ht, hm]
      obtain ⟨k3, k4⟩ := H.push (o := .map [] 0) (ob := .map #[] 0) (x := 0) ⟨[], push_get _ _, rfl⟩
      exact hK _ _ _ k4 k3 ⟨_, rfl, _, updE_new _ _ _, rfl⟩
    · cases hq
  case makeSlice t l c =>
    simp only [hop] at hq ⊢
    obtain ⟨lv, h1, hq⟩ := bnd_some hq
    obtain ⟨cv, h2, hq⟩ := bnd_some hq
    obtain ⟨q, h3, hq⟩ := bnd_some hq
    simp only [Option.some.injEq, Prod.mk.injEq] at hq
    obtain ⟨rfl, rfl⟩ := hq
    obtain ⟨lu, g1, g2⟩ := hf.ev h1
    obtain ⟨cu, g3, g4⟩ := hf.ev h2
    simp only [g1, g3, e1]
    exact mkX_sound H h3 g2 g4 fun E' u h' ha hh hv => hK E' _ h' ha hh ⟨u, rfl, hv⟩
  case mapUpdate t m k x =>
    simp only [hop] at hq ⊢
    obtain ⟨mv, h1, hq⟩ := bnd_some hq
    obtain ⟨kv, h2, hq⟩ := bnd_some hq
    obtain ⟨xv, h3, hq⟩ := bnd_some hq
    obtain ⟨C1, h4, hq⟩ := bnd_some hq
    simp only [Option.some.injEq, Prod.mk.injEq] at hq
    obtain ⟨rfl, rfl⟩ := hq
    obtain ⟨mu, g1, g2⟩ := hf.ev h1
    obtain ⟨ku, g3, g4⟩ := hf.ev h2
    obtain ⟨xu, g5, g6⟩ := hf.ev h3
    simp only [g1, g3, g5, e1]
    exact mupX_sound H h4 g2 g4 g6 fun h' ha hh => hK E _ h' ha hh trivial
  case insert t m k x =>
    simp only [hop] at hq ⊢
    obtain ⟨mv, h1, hq⟩ := bnd_some hq
    obtain ⟨kv, h2, hq⟩ := bnd_some hq
    obtain ⟨xv, h3, hq⟩ := bnd_some hq
    obtain ⟨C1, h4, hq⟩ := bnd_some hq
    simp only [Option.some.injEq, Prod.mk.injEq] at hq
    obtain ⟨rfl, rfl⟩ := hq
    obtain ⟨mu, g1, g2⟩ := hf.ev h1
    obtain ⟨ku, g3, g4⟩ := hf.ev h2
    obtain ⟨xu, g5, g6⟩ := hf.ev h3
    simp only [g1, g3, g5, e1]
    exact mupX_sound H h4 g2 g4 g6 fun h' ha hh => hK E _ h' ha hh trivial
  case mapEntry t m k =>
    simp only [hop] at hq ⊢
    obtain ⟨mv, h1, hq⟩ := bnd_some hq
    obtain ⟨kv, h2, hq⟩ := bnd_some hq
    obtain ⟨q, h4, hq⟩ := bnd_some hq
    simp only [Option.some.injEq, Prod.mk.injEq] at hq
    obtain ⟨rfl, rfl⟩ := hq
    obtain ⟨mu, g1, g2⟩ := hf.ev h1
    obtain ⟨ku, g3, g4⟩ := hf.ev h2
    simp only [g1, g3, e1]
    exact mentX_sound H h4 g2 g4 fun u h' hv ha hh => hK E _ h' ha hh ⟨u, rfl, hv⟩
  case entryStore t m k x =>
    simp only [hop] at hq ⊢
    obtain ⟨mv, h1, hq⟩ := bnd_some hq
    obtain ⟨kv, h2, hq⟩ := bnd_some hq
    obtain ⟨xv, h3, hq⟩ := bnd_some hq
    obtain ⟨C1, h4, hq⟩ := bnd_some hq
    simp only [Option.some.injEq, Prod.mk.injEq] at hq
    obtain ⟨rfl, rfl⟩ := hq
    obtain ⟨mu, g1, g2⟩ := hf.ev h1
    obtain ⟨ku, g3, g4⟩ := hf.ev h2
    obtain ⟨xu, g5, g6⟩ := hf.ev h3
    simp only [g1, g3, g5, e1]
    exact mstoX_sound H h4 g2 g4 g6 fun h' ha hh => hK E _ h' ha hh trivial
  case range t x =>
    simp only [hop] at hq ⊢
    obtain ⟨v, h1, hq⟩ := bnd_some hq
    obtain ⟨q, h2, hq⟩ := bnd_some hq
    simp only [Option.some.injEq, Prod.mk.injEq] at hq
    obtain ⟨rfl, rfl⟩ := hq
    obtain ⟨vu, g1, g2⟩ := hf.ev h1
    simp only [g1, e1]
    exact rangeX_sound H h2 g2 fun E' u h' ha hh hv => hK E' _ h' ha hh ⟨u, rfl, hv⟩
  case entry it =>
    simp only [hop] at hq ⊢
    obtain ⟨v, h1, hq⟩ := bnd_some hq
    obtain ⟨q, h2, hq⟩ := bnd_some hq
    simp only [Option.some.injEq, Prod.mk.injEq] at hq
    obtain ⟨rfl, rfl⟩ := hq
    obtain ⟨vu, g1, g2⟩ := hf.ev h1
    simp only [g1, e1]
    have hh0 : hintOf hs0 o.dst = (.c .any, .c .any) := by unfold hintOf hs0; cases o.dst <;> rfl
    rw [hh0]
    exact entryX_sound H h2 g2 fun u hv => hK E _ h (.refl _ _ _) H ⟨u, rfl, hv⟩
  case call c =>
    obtain ⟨callee, args, ats⟩ := c
    cases callee <;> simp only [hop, reduceCtorEq] at hq
    rename_i b
    simp only
    obtain ⟨as, h1, hq⟩ := bnd_some hq
    obtain ⟨q, h2, hq⟩ := bnd_some hq
    simp only [Option.some.injEq, Prod.mk.injEq] at hq
    obtain ⟨rfl, rfl⟩ := hq
    obtain ⟨us, g1, g2⟩ := hf.evs h1
    simp only [g1, eL]
    exact loBX_sound H h2 g2 fun E' u h' ha hh hv => hK E' _ h' ha hh ⟨u, rfl, hv⟩
  all_goals simp only [hop, reduceCtorEq] at hq
theorem resX_mem {t : TypeId} {r : List XV × XH} : ∀ {l : List (List XV × XH)} {q : List (Option XV × XH)}, resX P t l = some q → r ∈ l → tysX (resTys P t) r.1 = true ∧ (some (packX r.1), r.2) ∈ q
  | [], _, _, hr => by simp at hr
  | x :: l, q, hq, hr => by
    simp only [resX] at hq
    split at hq
    · rename_i q' h1 h2
      simp only [Option.some.injEq] at hq; subst hq
      rcases List.mem_cons.1 hr with rfl | hr
      · exact ⟨h1, by simp⟩
      · obtain ⟨g1, g2⟩ := resX_mem h2 hr
        exact ⟨g1, by simp [g2]⟩
    · cases hq
theorem pack_of {l : List XV} {us : List Value} (h : RVs E l us) : RV E (packX l) (packR us) := by
  rcases l with _ | ⟨x, l⟩
  · simp only [RVs] at h; subst h
    exact ⟨[], rfl, rfl⟩
  · rcases l with _ | ⟨y, l⟩
    · obtain ⟨u, m, rfl, h1, h2⟩ := h
      simp only [RVs] at h2; subst h2
      exact h1
    · have hh := h
      obtain ⟨u, m, rfl, h1, u2, m2, rfl, h2, h3⟩ := h
      exact ⟨_, rfl, hh⟩
theorem fnvX_sound {call : CallX} {y : XM} (hy : ∀ k g, y ≠ .iter k g) {fv : XV} {as : List XV} {t : TypeId} {f : Value} {vs : List Value} {outs : List (Option XV × XH)} {K : Option Value → Hp → Prop} (hc : CallOK P call) (H : RH P E C h)
    (hq : fnvX P call y fv as t C = some outs) (hf : RV E fv f) (hx : RVs E as vs) (hK : ∀ r ∈ outs, ∀ E' u h', Adv E C h E' r.2 h' → RH P E' r.2 h' → RR E' r.1 u → K u h') : fnW P f vs t h K := by
  unfold fnvX at hq
  split at hq
  · rename_i i cs
    obtain ⟨l, rfl, h1⟩ := hf
    simp only [appX_eq] at hq
    obtain ⟨q, h2, hq⟩ := bnd_some hq
    simp only [fnW]
    have e : (#[] ++ vs.toArray) ++ l.toArray = (vs ++ l).toArray := by simp
    rw [e]
    refine hc _ _ _ _ h2 E h _ (hx.app h1) H _ fun r hr E' us h' ha hh hv => ?_
    obtain ⟨g1, g2⟩ := resX_mem hq hr
    exact exTs_of g1 hv ⟨rfl, hK _ g2 E' _ h' ha hh ⟨_, rfl, pack_of hv⟩⟩
  · rename_i i fs cs
    obtain ⟨k, l, rfl, h0, h1⟩ := hf
    simp only [appX_eq] at hq
    obtain ⟨q, h2, hq⟩ := bnd_some hq
    simp only [fnW]
    have e : (k.toArray ++ vs.toArray) ++ l.toArray = ((k ++ vs) ++ l).toArray := by simp
    rw [e]
    refine hc _ _ _ _ h2 E h _ ((h0.app hx).app h1) H _ fun r hr E' us h' ha hh hv => ?_
    obtain ⟨g1, g2⟩ := resX_mem hq hr
    exact exTs_of g1 hv ⟨rfl, hK _ g2 E' _ h' ha hh ⟨_, rfl, pack_of hv⟩⟩
  · split at hq
    · exact absurd rfl (hy _ _)
    · cases hq
  · cases hq
theorem opX_sound {call : CallX} {y : XM} (hy : ∀ k g, y ≠ .iter k g) {o : Oper} {ρ : XF} {τ : Fr} {n : Nat} {outs : List (Option XV × XH)} {K : Option Value → Hp → Prop} (hc : CallOK P call) (H : RH P E C h) (hf : RF E n ρ τ) (hq : opX P call y o ρ C = some outs)
    (hK : ∀ r ∈ outs, ∀ E' u h', Adv E C h E' r.2 h' → RH P E' r.2 h' → RR E' r.1 u → K u h') : opW P hs0 o τ h K := by
  unfold opX at hq
  unfold opW
  split at hq
  · rename_i hqt
    obtain ⟨r, h1, hq⟩ := bnd_some hq
    simp only [Option.some.injEq] at hq; subst hq
    rw [hqt]
    exact quX_sound H hf h1 fun r' fs hr _ => hK _ (List.mem_singleton.2 rfl) E r' h (.refl _ _ _) H hr
  · rename_i hqt
    rw [hqt]
    simp only
    split at hq
    · rename_i it hop
      obtain ⟨p, h1, hq⟩ := bnd_some hq
      obtain ⟨pv, g1, g2⟩ := hf.ev h1
      unfold louW
      simp only [hop, g1, e1]
      exact nextX_sound H hq g2 hK
    · rename_i f args ats hop
      obtain ⟨fv, h1, hq⟩ := bnd_some hq
      obtain ⟨as, h2, hq⟩ := bnd_some hq
      obtain ⟨fu, g1, g2⟩ := hf.ev h1
      obtain ⟨us, g3, g4⟩ := hf.evs h2
      unfold louW
      simp only [hop, g1, g3, e1, eL]
      exact fnvX_sound hy hc H hq g2 g4 hK
    · obtain ⟨r, h1, hq⟩ := bnd_some hq
      simp only [Option.some.injEq] at hq; subst hq
      exact louX_sound H hf (r := r.1) (C' := r.2) h1 fun E' u h' ha hh hv => hK _ (List.mem_singleton.2 rfl) E' u h' ha hh hv
end
end Go.Lift

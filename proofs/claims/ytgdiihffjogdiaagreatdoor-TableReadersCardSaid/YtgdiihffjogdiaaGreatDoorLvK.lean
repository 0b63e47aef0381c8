/- Code as a Prop over the heap; soundness; from a function's body to its calls. -/
import Derived.Test.YtgdiihffjogdiaaGreatDoorLvJ
set_option linter.unusedSimpArgs false
set_option linter.unusedVariables false
namespace Go.Lift
variable {D : Prop}
open Go

inductive Ex where
  | normal | exit (id : Nat) | ret
abbrev Post := Ex → Fr → Hp → Prop
abbrev JV := List (Nat × Ty)
structure Jn where
  ks : List Nat
  vs : JV
inductive Ann where
  | nil
  | mk (j : Option Jn) (lp : Jn) (l r : Ann)
def Ann.j : Ann → Option Jn | .nil => none | .mk j _ _ _ => j
def Ann.lp : Ann → Jn | .nil => ⟨[], []⟩ | .mk _ v _ _ => v
def Ann.l : Ann → Ann | .nil => .nil | .mk _ _ l _ => l
def Ann.r : Ann → Ann | .nil => .nil | .mk _ _ _ r => r

def mtch (ρ : Fr) : JV → (List Value → Prop) → Prop
  | [], K => K []
  | (s, _) :: vs, K => e1 (ρ s) fun v => mtch ρ vs fun us => K (v :: us)
def setMany (n : Nat) (ρ : Fr) : JV → List Value → Fr
  | (s, _) :: vs, v :: us => upd n (setMany n ρ vs us) (some s) (some v)
  | _, _ => ρ
def inL (t : Nat) : List Nat → Bool
  | [] => false
  | k :: ks => cond (Nat.beq t k) true (inL t ks)
def keepS (ks : List Nat) (ρ : Fr) : Fr := fun t => cond (inL t ks) (ρ t) none
def tys : JV → List Ty
  | [] => []
  | (_, t) :: vs => t :: tys vs
/-- No slot of the list is written. -/
def okOps (ks : List Nat) : List Oper → Bool
  | [] => true
  | o :: os => match o.dst with | some d => cond (inL d ks) false (okOps ks os) | none => okOps ks os
def okC (ks : List Nat) : Code → Bool
  | .region _ ops _ => okOps ks ops.toList
  | .seq a b => okC ks a && okC ks b
  | .cond _ a b => okC ks a && okC ks b
  | .block _ c => okC ks c
  | .loop c => okC ks c
  | .scope c => okC ks c
  | .rangeFunc _ _ _ _ => false
  | _ => true
def joinQ (vs : JV) (J : List Value → Hp → Prop) (Q : Post) : Post := fun e ρ' h' =>
  match e with
  | .normal => mtch ρ' vs fun vals => J vals h'
  | e => Q e ρ' h'
def joinW (n : Nat) (c : Code) (j : Option Jn) (Q : Post) (ρ : Fr) (core : Post → Prop) : Prop :=
  match j with
  | none => core Q
  | some j => match okC j.ks c with
    | true => ∀ J : List Value → Hp → Prop, (alTs (tys j.vs) fun vals => ∀ h', Q .normal (setMany n (keepS j.ks ρ) j.vs vals) h' → J vals h') → core (joinQ j.vs J Q)
    | false => False
def seqQ (next : Fr → Hp → Prop) (Q : Post) : Post := fun e ρ' h' => match e with | .normal => next ρ' h' | e => Q e ρ' h'
def blockQ (id : Nat) (Q : Post) : Post := fun e ρ' h' =>
  match e with
  | .exit i => cond (Nat.beq i id) (Q .normal ρ' h') (Q (.exit i) ρ' h')
  | e => Q e ρ' h'
def loopQ (vs : JV) (X : List Value → Hp → Prop) (Q : Post) : Post := fun e ρ' h' =>
  match e with
  | .normal => mtch ρ' vs fun vals => X vals h'
  | e => Q e ρ' h'

def cwD (D : Prop) (P : Program) (n : Nat) (hs : Hints) : Code → Ann → Post → Fr → Hp → Prop
  | .skip, ann, Q, ρ, h => joinW n .skip ann.j Q ρ fun Q => Q .normal ρ h
  | .label _, _, Q, ρ, h => Q .normal ρ h
  | .region id ops d, ann, Q, ρ, h => joinW n (.region id ops d) ann.j Q ρ fun Q => match d with
    | false => rW D P n hs ops ops.toList ρ h fun ρ' h' => Q .normal ρ' h'
    | true => match Region.noSelect ops with
      | true => dW D P n hs ops (ancM ops.toList []) ops.size (Array.replicate ops.size false) ρ h [] fun ρ' h' => Q .normal ρ' h'
      | false => False
  | .seq a b, ann, Q, ρ, h => joinW n (.seq a b) ann.j Q ρ fun Q => cwD D P n hs a ann.l (seqQ (fun ρ' h' => cwD D P n hs b ann.r Q ρ' h') Q) ρ h
  | .cond c a b, ann, Q, ρ, h => joinW n (.cond c a b) ann.j Q ρ fun Q => match ev ρ c with
    | some (.bool t) => if t then cwD D P n hs a ann.l Q ρ h else cwD D P n hs b ann.r Q ρ h
    | _ => False
  | .block id c, ann, Q, ρ, h => joinW n (.block id c) ann.j Q ρ fun Q => cwD D P n hs c ann.l (blockQ id Q) ρ h
  | .loop c, ann, Q, ρ, h => joinW n (.loop c) ann.j Q ρ fun Q => match okC ann.lp.ks c with
    | true => mtch ρ ann.lp.vs fun vals0 => ∀ X : List Value → Hp → Prop,
        (alTs (tys ann.lp.vs) fun vals => ∀ h', cwD D P n hs c ann.l (loopQ ann.lp.vs X Q) (setMany n (keepS ann.lp.ks ρ) ann.lp.vs vals) h' → X vals h') → X vals0 h
    | false => False
  | .scope c, ann, Q, ρ, h => joinW n (.scope c) ann.j Q ρ fun Q => cwD D P n hs c ann.l Q ρ h
  | .exit id, _, Q, ρ, h => Q (.exit id) ρ h
  | .ret, _, Q, ρ, h => Q .ret ρ h
  | _, _, _, _, _ => False

/-! ### soundness -/
def exOf : Exit → Option Ex
  | .normal => some .normal
  | .exit id => some (.exit id)
  | .ret => some .ret
  | _ => none
def writesC : Code → Nat → Bool
  | .region _ ops _, t => writesO ops.toList t
  | .seq a b, t => writesC a t || writesC b t
  | .cond _ a b, t => writesC a t || writesC b t
  | .block _ c, t => writesC c t
  | .loop c, t => writesC c t
  | .scope c, t => writesC c t
  | .rangeFunc _ _ _ _, _ => true
  | _, _ => false
def liftQ (D : Prop) (n : Nat) (w0 : World) (a0 : Act) (wr : Nat → Bool) (Q : Post) : Exit → Act → World → Prop := fun e a w =>
  ∃ e' ρ', exOf e = some e' ∧ Fits n ρ' a ∧ KeptD D w0 w ∧ (∀ t, wr t = false → a.tmps[t]? = a0.tmps[t]?) ∧ Q e' ρ' w.heap
theorem okOps_spec {ks : List Nat} : ∀ {os : List Oper}, okOps ks os = true → ∀ t, inL t ks = true → writesO os t = false
  | [], _, _, _ => rfl
  | o :: os, h, t, ht => by
    simp only [okOps] at h
    cases hd : o.dst with
    | none =>
      rw [hd] at h
      simp only [writesO, List.any_cons, hd, Bool.or_eq_false_iff]
      exact ⟨rfl, okOps_spec h t ht⟩
    | some d =>
      rw [hd] at h
      simp only at h
      cases hi : inL d ks with
      | true => rw [hi] at h; cases h
      | false =>
        rw [hi] at h
        simp only [writesO, List.any_cons, hd, Bool.or_eq_false_iff]
        refine ⟨?_, okOps_spec h t ht⟩
        have : d ≠ t := fun e => by subst e; rw [ht] at hi; cases hi
        simp [this]
theorem okC_spec {ks : List Nat} {t : Nat} (ht : inL t ks = true) : ∀ {c : Code}, okC ks c = true → writesC c t = false
  | .region _ _ _, h => okOps_spec h t ht
  | .seq a b, h => by simp only [okC, Bool.and_eq_true] at h; simp only [writesC, okC_spec ht h.1, okC_spec ht h.2, Bool.or_self]
  | .cond _ a b, h => by simp only [okC, Bool.and_eq_true] at h; simp only [writesC, okC_spec ht h.1, okC_spec ht h.2, Bool.or_self]
  | .block _ c, h => by simp only [okC] at h; simp only [writesC, okC_spec ht h]
  | .loop c, h => by simp only [okC] at h; simp only [writesC, okC_spec ht h]
  | .scope c, h => by simp only [okC] at h; simp only [writesC, okC_spec ht h]
  | .rangeFunc _ _ _ _, h => by cases h
  | .skip, _ | .exit _, _ | .label _, _ | .goto _, _ | .ret, _ | .refuse _, _ => rfl
theorem Fits.keepS {n : Nat} {ρ : Fr} {a a' : Act} (hf : Fits n ρ a) {ks : List Nat} (hk : ∀ t, inL t ks = true → a'.tmps[t]? = a.tmps[t]?) (hd : a'.defers = []) (hz : a'.tmps.size = n) : Fits n (keepS ks ρ) a' := by
  refine ⟨hd, hz, fun t v hv => ?_⟩
  simp only [Lift.keepS] at hv
  cases hi : inL t ks with
  | true => rw [hi] at hv; rw [hk t hi]; exact hf.kn t v hv
  | false => rw [hi] at hv; cases hv
theorem Fits.setMany {n : Nat} {ρ ρb : Fr} {a : Act} (hf : Fits n ρ a) (hb : Fits n ρb a) : ∀ {vs : JV} {K : List Value → Prop}, mtch ρ vs K → ∃ vals, K vals ∧ Fits n (setMany n ρb vs vals) a
  | [], K, h => ⟨[], h, hb⟩
  | (s, t) :: vs, K, h => by
    obtain ⟨v, h1, h2⟩ := e1_some h
    obtain ⟨us, h3, h4⟩ := Fits.setMany hf hb h2
    refine ⟨v :: us, h3, h4.dz, h4.sz, fun u x hx => ?_⟩
    simp only [Lift.setMany, upd, cond_eq_ite, Nat.beq_eq, Nat.blt_eq] at hx
    split at hx
    · rename_i e
      subst e
      split at hx
      · simp at hx; subst hx; exact hf.kn u v h1
      · cases hx
    · exact h4.kn u x hx

section
variable {P : Program} {n : Nat} {hs : Hints}
/-- The head of a loop's round. -/
def HeadWp (P : Program) (c : Code) (Q : Exit → Act → World → Prop) (a : Act) (w : World) : Prop :=
  ∀ (b : Frame) (k : List Item) (cs : List Frame), ∃ e a' w', Q e a' w' ∧ Arrives P (lone (b.at a (.code c :: .inLoop c :: k)) cs w) b k cs e a' w'
theorem HeadWp.loop {c : Code} {Q : Exit → Act → World → Prop} {a : Act} {w : World} (h : HeadWp P c Q a w) : (Code.loop c).wp P Q a w := fun b k cs =>
  let ⟨e, a', w', q, r⟩ := h b k cs; ⟨e, a', w', q, .of_steps (.one step_loop) r⟩
theorem HeadWp.round {c : Code} {Q : Exit → Act → World → Prop} {a : Act} {w : World} (h : c.wp P (Exit.then (HeadWp P c Q) Q) a w) : HeadWp P c Q a w := by
  intro b k cs
  obtain ⟨e, a₁, w₁, hq, harr⟩ := h b (.inLoop c :: k) cs
  cases e with
  | normal =>
    obtain ⟨e₂, a₂, w₂, hq₂, harr₂⟩ := hq b k cs
    exact ⟨e₂, a₂, w₂, hq₂, .of_steps (Steps.trans harr (.one step_inLoop)) harr₂⟩
  | exit id => exact ⟨_, a₁, w₁, hq, .pass (x := .inLoop c) rfl (fun _ _ => .inl (by simp)) harr⟩
  | goto l => exact ⟨_, a₁, w₁, hq, .pass (x := .inLoop c) rfl (fun _ _ => .inl (by simp)) harr⟩
  | ret => exact ⟨_, a₁, w₁, hq, .pass (x := .inLoop c) rfl (fun _ _ => .inl (by simp)) harr⟩
  | panic ch => exact ⟨_, a₁, w₁, hq, .pass (x := .inLoop c) rfl (fun _ _ => .inl (by simp)) harr⟩
  | outgrown => exact ⟨_, a₁, w₁, hq, .pass (x := .inLoop c) rfl (fun _ _ => .inl (by simp)) harr⟩

theorem joinW_sound {c : Code} {j : Option Jn} {Q : Post} {ρ : Fr} {core : Post → Prop} {a : Act} {w : World} (H : joinW n c j Q ρ core) (hf : Fits n ρ a)
    (hc : ∀ Q', core Q' → c.wp P (liftQ D n w a (writesC c) Q') a w) : c.wp P (liftQ D n w a (writesC c) Q) a w := by
  unfold joinW at H
  cases j with
  | none => exact hc Q H
  | some j =>
    simp only at H
    split at H
    · rename_i hok
      have H1 := H (fun vals h' => Q .normal (setMany n (keepS j.ks ρ) j.vs vals) h') (alTs_of fun vals h' hq => hq)
      refine wp_mono (hc _ H1) ?_
      rintro e a' w' ⟨e', ρ', h1, h2, h3, h4, h5⟩
      cases e' with
      | normal =>
        have hb : Fits n (keepS j.ks ρ) a' := hf.keepS (fun t ht => h4 t (okC_spec ht hok)) h2.dz h2.sz
        obtain ⟨vals, h6, h7⟩ := h2.setMany hb h5
        exact ⟨_, _, h1, h7, h3, h4, h6⟩
      | exit id => exact ⟨_, _, h1, h2, h3, h4, h5⟩
      | ret => exact ⟨_, _, h1, h2, h3, h4, h5⟩
    · exact H.elim

theorem liftQ_mono {w0 w1 : World} {a0 a1 : Act} {wr wr' : Nat → Bool} {Q Q' : Post} (hk : KeptD D w0 w1) (hp : ∀ t, wr' t = false → wr t = false ∧ a1.tmps[t]? = a0.tmps[t]?) (hQ : ∀ e ρ h, Q e ρ h → Q' e ρ h) :
    ∀ e a w, liftQ D n w1 a1 wr Q e a w → liftQ D n w0 a0 wr' Q' e a w := by
  rintro e a w ⟨e', ρ', h1, h2, h3, h4, h5⟩
  exact ⟨e', ρ', h1, h2, hk.trans h3, fun t ht => by rw [h4 t (hp t ht).1, (hp t ht).2], hQ _ _ _ h5⟩

theorem cw_sound (hm : P.follows .mixedOrders = true) : ∀ (c : Code) (ann : Ann) (Q : Post) (ρ : Fr) (a : Act) (w : World), cwD D P n hs c ann Q ρ w.heap → Fits n ρ a → c.wp P (liftQ D n w a (writesC c) Q) a w
  | .skip, ann, Q, ρ, a, w, H, hf => by
    simp only [cwD] at H
    exact joinW_sound H hf fun Q' h => wp_skip ⟨_, _, rfl, hf, .refl _, fun _ _ => rfl, h⟩
  | .label _, ann, Q, ρ, a, w, H, hf => by
    simp only [cwD] at H
    exact wp_label ⟨_, _, rfl, hf, .refl _, fun _ _ => rfl, H⟩
  | .region id ops d, ann, Q, ρ, a, w, H, hf => by
    simp only [cwD] at H
    refine joinW_sound H hf fun Q' h => ?_
    cases d with
    | false => exact rW_region h hf fun ρ' a' w' h1 h2 h3 h4 => ⟨_, _, rfl, h1, h3, h4, h2⟩
    | true =>
      simp only at h
      split at h
      · rename_i hsel
        refine dW_region hm hsel h hf ?_ fun ρ' a' w' h1 h2 h3 h4 => ⟨_, _, rfl, h1, h3, h4, h2⟩
        rintro c a w ⟨e', ρ', h1, _⟩
        cases h1
      · exact h.elim
  | .seq x y, ann, Q, ρ, a, w, H, hf => by
    simp only [cwD] at H
    refine joinW_sound H hf fun Q' h => wp_seq ?_
    refine wp_mono (cw_sound hm x ann.l _ ρ a w h hf) ?_
    rintro e a1 w1 ⟨e', ρ1, h1, h2, h3, h4, h5⟩
    cases e' with
    | normal =>
      have : e = .normal := by cases e <;> simp [exOf] at h1 <;> rfl
      subst this
      refine wp_mono (cw_sound hm y ann.r _ ρ1 a1 w1 h5 h2) (liftQ_mono h3 (fun t ht => ?_) fun _ _ _ h => h)
      simp only [writesC, Bool.or_eq_false_iff] at ht
      exact ⟨ht.2, h4 t ht.1⟩
    | exit id =>
      have : e = .exit id := by cases e <;> simp [exOf] at h1; rw [h1]
      subst this
      exact ⟨_, _, rfl, h2, h3, fun t ht => h4 t (by simp only [writesC, Bool.or_eq_false_iff] at ht; exact ht.1), h5⟩
    | ret =>
      have : e = .ret := by cases e <;> simp [exOf] at h1 <;> rfl
      subst this
      exact ⟨_, _, rfl, h2, h3, fun t ht => h4 t (by simp only [writesC, Bool.or_eq_false_iff] at ht; exact ht.1), h5⟩
  | .cond c x y, ann, Q, ρ, a, w, H, hf => by
    simp only [cwD] at H
    refine joinW_sound H hf fun Q' h => ?_
    split at h
    · rename_i t ht
      cases t with
      | true =>
        refine wp_cond_true (hf.ev _ _ ht) (wp_mono (cw_sound hm x ann.l Q' ρ a w (by simpa using h) hf) (liftQ_mono (.refl _) (fun t ht => ?_) fun _ _ _ h => h))
        simp only [writesC, Bool.or_eq_false_iff] at ht
        exact ⟨ht.1, rfl⟩
      | false =>
        refine wp_cond_false (hf.ev _ _ ht) (wp_mono (cw_sound hm y ann.r Q' ρ a w (by simpa using h) hf) (liftQ_mono (.refl _) (fun t ht => ?_) fun _ _ _ h => h))
        simp only [writesC, Bool.or_eq_false_iff] at ht
        exact ⟨ht.2, rfl⟩
    · exact h.elim
  | .block id c, ann, Q, ρ, a, w, H, hf => by
    simp only [cwD] at H
    refine joinW_sound H hf fun Q' h => wp_block ?_
    refine wp_mono (cw_sound hm c ann.l _ ρ a w h hf) ?_
    rintro e a1 w1 ⟨e', ρ1, h1, h2, h3, h4, h5⟩
    cases e' with
    | normal =>
      have : e = .normal := by cases e <;> simp [exOf] at h1 <;> rfl
      subst this
      exact ⟨_, _, rfl, h2, h3, h4, h5⟩
    | exit i =>
      have : e = .exit i := by cases e <;> simp [exOf] at h1; rw [h1]
      subst this
      simp only [blockQ, cond_eq_ite, Nat.beq_eq] at h5
      simp only [Exit.inBlock]
      split at h5
      · rename_i hi
        rw [if_pos hi]
        exact ⟨_, _, rfl, h2, h3, h4, h5⟩
      · rename_i hi
        rw [if_neg hi]
        exact ⟨_, _, rfl, h2, h3, h4, h5⟩
    | ret =>
      have : e = .ret := by cases e <;> simp [exOf] at h1 <;> rfl
      subst this
      exact ⟨_, _, rfl, h2, h3, h4, h5⟩
  | .loop c, ann, Q, ρ, a, w, H, hf => by
    simp only [cwD] at H
    refine joinW_sound H hf fun Q' h => ?_
    split at h
    · rename_i hok
      have hb : Fits n (keepS ann.lp.ks ρ) a := hf.keepS (fun _ _ => rfl) hf.dz hf.sz
      obtain ⟨vals0, h0, hf0⟩ := hf.setMany hb h
      refine HeadWp.loop ?_
      refine h0 (fun vals h' => ∀ a1 w1, Fits n (setMany n (keepS ann.lp.ks ρ) ann.lp.vs vals) a1 → w1.heap = h' → KeptD D w w1 → (∀ t, writesC c t = false → a1.tmps[t]? = a.tmps[t]?) →
        HeadWp P c (liftQ D n w a (writesC c) Q') a1 w1) (alTs_of fun vals h' hcw a1 w1 hf1 hw1 hk1 hp1 => ?_) a w hf0 rfl (.refl _) (fun _ _ => rfl)
      subst hw1
      refine HeadWp.round (wp_mono (cw_sound hm c ann.l _ _ a1 w1 hcw hf1) ?_)
      rintro e a2 w2 ⟨e', ρ2, g1, g2, g3, g4, g5⟩
      have hp2 : ∀ t, writesC c t = false → a2.tmps[t]? = a.tmps[t]? := fun t ht => by rw [g4 t ht, hp1 t ht]
      cases e' with
      | normal =>
        have : e = .normal := by cases e <;> simp [exOf] at g1 <;> rfl
        subst this
        have hb2 : Fits n (keepS ann.lp.ks ρ) a2 := hf.keepS (fun t ht => hp2 t (okC_spec ht hok)) g2.dz g2.sz
        obtain ⟨vals2, g6, g7⟩ := g2.setMany hb2 g5
        exact g6 a2 w2 g7 rfl (hk1.trans g3) hp2
      | exit i =>
        have : e = .exit i := by cases e <;> simp [exOf] at g1; rw [g1]
        subst this
        exact ⟨_, _, rfl, g2, hk1.trans g3, hp2, g5⟩
      | ret =>
        have : e = .ret := by cases e <;> simp [exOf] at g1 <;> rfl
        subst this
        exact ⟨_, _, rfl, g2, hk1.trans g3, hp2, g5⟩
    · exact h.elim
  | .scope c, ann, Q, ρ, a, w, H, hf => by
    simp only [cwD] at H
    refine joinW_sound H hf fun Q' h => wp_scope_straight ?_
    refine wp_mono (cw_sound hm c ann.l _ ρ a w h hf) ?_
    rintro e a1 w1 ⟨e', ρ1, h1, h2, h3, h4, h5⟩
    cases e <;> simp only [exOf, reduceCtorEq] at h1 <;> exact ⟨_, _, h1, h2, h3, h4, h5⟩
  | .exit id, ann, Q, ρ, a, w, H, hf => by
    simp only [cwD] at H
    exact wp_exit ⟨_, _, rfl, hf, .refl _, fun _ _ => rfl, H⟩
  | .ret, ann, Q, ρ, a, w, H, hf => by
    simp only [cwD] at H
    exact wp_ret ⟨_, _, rfl, hf, .refl _, fun _ _ => rfl, H⟩
  | .rangeFunc _ _ _ _, ann, Q, ρ, a, w, H, hf => by simp only [cwD] at H
  | .goto _, ann, Q, ρ, a, w, H, hf => by simp only [cwD] at H
  | .refuse _, ann, Q, ρ, a, w, H, hf => by simp only [cwD] at H
end
end Go.Lift

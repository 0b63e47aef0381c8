/- A region whose order is open: quiet operations first, what they read to be shown anew behind each loud one. -/
import Derived.Test.YtgdiihffjogdiaaGreatDoorLvI
set_option linter.unusedSimpArgs false
set_option linter.unusedVariables false
namespace Go.Lift
variable {D : Prop}
open Go

/-- k must have come up before j can. -/
inductive Anc (ops : Array Oper) : Nat → Nat → Prop
  | edge {j k : Nat} {o : Oper} : ops[j]? = some o → (∃ e ∈ o.after, Region.binds .any e = true ∧ e.on = k) → Anc ops k j
  | trans {i j k : Nat} : Anc ops i j → Anc ops j k → Anc ops i k
def Down (ops : Array Oper) (L : Array Bool) : Prop := ∀ j o, ops[j]? = some o → L.getD j false = true → ∀ e ∈ o.after, Region.binds .any e = true → L.getD e.on false = true
theorem Down.anc {ops : Array Oper} {L : Array Bool} (hd : Down ops L) {k j : Nat} (h : Anc ops k j) : L.getD j false = true → L.getD k false = true := by
  induction h with
  | edge ho he => obtain ⟨e, h1, h2, h3⟩ := he; intro hj; exact h3 ▸ hd _ _ ho hj e h1 h2
  | trans _ _ ih1 ih2 => exact fun hj => ih1 (ih2 hj)

/-- Masks of what must have come up before. -/
def ancM : List Oper → List Nat → List Nat
  | [], acc => acc
  | o :: os, acc => ancM os (acc ++ [o.after.toList.foldr (fun e s => bif Region.binds .any e then 2 ^ e.on ||| acc.getD e.on 0 ||| s else s) 0])
theorem ancM_spec (ops : Array Oper) : ∀ (os : List Oper) (acc : List Nat) (k0 : Nat), acc.length = k0 → (∀ i, ops[k0 + i]? = os[i]?) → (∀ j k, (acc.getD j 0).testBit k = true → Anc ops k j) →
    ∀ j k, ((ancM os acc).getD j 0).testBit k = true → Anc ops k j
  | [], acc, _, _, _, h => h
  | o :: os, acc, k0, hl, ho, h => by
    refine ancM_spec ops os _ (k0 + 1) (by simp [hl]) (fun i => by have := ho (i + 1); simpa [Nat.add_assoc, Nat.add_comm 1 i] using this) ?_
    intro j k hjk
    have h0 : ops[k0]? = some o := by simpa using ho 0
    have key : ∀ l : List Edge, (∀ e ∈ l, e ∈ o.after) → (l.foldr (fun e s => bif Region.binds .any e then 2 ^ e.on ||| acc.getD e.on 0 ||| s else s) 0).testBit k = true → Anc ops k k0 := by
        intro l
        induction l with
        | nil => intro _ hh; simp at hh
        | cons e l ih =>
          intro hm hh
          simp only [List.foldr_cons] at hh
          cases hb : Region.binds .any e with
          | false => rw [hb] at hh; exact ih (fun e' he' => hm e' (by simp [he'])) hh
          | true =>
            rw [hb] at hh
            simp only [cond_true, Nat.testBit_or, Bool.or_eq_true] at hh
            rcases hh with (hh | hh) | hh
            · rw [Nat.testBit_two_pow] at hh
              have : e.on = k := by simpa using hh
              exact .edge h0 ⟨e, hm e (by simp), hb, this⟩
            · exact .trans (h _ _ hh) (.edge h0 ⟨e, hm e (by simp), hb, rfl⟩)
            · exact ih (fun e' he' => hm e' (by simp [he'])) hh
    have key := key o.after.toList (fun e he => by simpa using he)
    generalize (o.after.toList.foldr (fun e s => bif Region.binds .any e then 2 ^ e.on ||| acc.getD e.on 0 ||| s else s) 0) = mk at hjk key
    rcases Nat.lt_trichotomy j k0 with hj | hj | hj
    · have : (acc ++ [mk]).getD j 0 = acc.getD j 0 := by
        simp [List.getD_eq_getElem?_getD, List.getElem?_append_left (by omega : j < acc.length)]
      rw [this] at hjk
      exact h j k hjk
    · subst hj
      have : (acc ++ [mk]).getD j 0 = mk := by
        simp [List.getD_eq_getElem?_getD, ← hl]
      rw [this] at hjk
      exact key hjk
    · have hle : (acc ++ [mk]).length ≤ j := by simp; omega
      have : (acc ++ [mk]).getD j 0 = 0 := by
        rw [List.getD_eq_getElem?_getD, List.getElem?_eq_none hle]; rfl
      rw [this] at hjk
      simp at hjk

abbrev Facts := List (Nat × (Hp → Prop))
def conjF : Facts → Hp → Prop → Prop
  | [], _, p => p
  | f :: fs, h, p => f.2 h ∧ conjF fs h p
theorem conjF_spec {h : Hp} {p : Prop} : ∀ (fs : Facts), conjF fs h p ↔ ((∀ f ∈ fs, f.2 h) ∧ p)
  | [] => by simp [conjF]
  | f :: fs => by simp only [conjF, conjF_spec fs, List.mem_cons]; exact ⟨fun ⟨a, b, c⟩ => ⟨fun g hg => hg.elim (fun e => e ▸ a) (b g), c⟩, fun ⟨a, b⟩ => ⟨a f (.inl rfl), fun g hg => a g (.inr hg), b⟩⟩
def quietAt (P : Program) (ops : Array Oper) (i : Nat) : Bool := match ops[i]? with | some o => isQuiet P o.op | none => false
/-- A quiet operation, under its guard, with its facts. -/
def stepQ (P : Program) (n : Nat) (ops : Array Oper) (o : Oper) (ρ : Fr) (h : Hp) (K : Fr → List (Hp → Prop) → Prop) : Prop :=
  match o.guard with
  | none => quW P o ρ h fun r fs => K (upd n ρ o.dst r) fs
  | some (j, want) => match gslot ops j with
    | some s => match ρ s with
      | some (.bool b) =>
        if b then (match want with | true => quW P o (setb ρ s true) h fun r fs => K (upd n (setb ρ s true) o.dst r) fs | false => K (upd n (setb ρ s true) o.dst (some undef)) [])
        else (match want with | false => quW P o (setb ρ s false) h fun r fs => K (upd n (setb ρ s false) o.dst r) fs | true => K (upd n (setb ρ s false) o.dst (some undef)) [])
      | some (.tuple _) => K (upd n ρ o.dst (some undef)) []
      | _ => False
    | none => False
def tagF (i : Nat) : List (Hp → Prop) → Facts → Facts
  | [], fs => fs
  | f :: gs, fs => (i, f) :: tagF i gs fs
def keepF (m : Nat) : Facts → Facts
  | [] => []
  | f :: fs => bif m.testBit f.1 then keepF m fs else f :: keepF m fs
def firstQ (P : Program) (ops : Array Oper) (L : Array Bool) : List Nat → Option Nat
  | [] => none
  | i :: is => bif quietAt P ops i && Region.free .any ops L i then some i else firstQ P ops L is
def allJ (f : Nat → Prop) : List Nat → Prop
  | [] => True
  | [i] => f i
  | i :: is => f i ∧ allJ f is
def dW (D : Prop) (P : Program) (n : Nat) (hs : Hints) (ops : Array Oper) (ms : List Nat) : Nat → Array Bool → Fr → Hp → Facts → (Fr → Hp → Prop) → Prop
  | 0, L, ρ, h, _, K => match Region.ready .any ops L with | [] => K ρ h | _ => False
  | m + 1, L, ρ, h, fs, K => match Region.ready .any ops L with
    | [] => K ρ h
    | rs => match firstQ P ops L rs with
      | some i => (match ops[i]? with
        | some o => stepQ P n ops o ρ h fun ρ' gs => dW D P n hs ops ms m (L.setIfInBounds i true) ρ' h (tagF i gs fs) K
        | none => False)
      | none => allJ (fun i => match quietAt P ops i, ops[i]? with
        | false, some o => stepW D P n hs ops o ρ h fun ρ' h' => conjF (keepF (ms.getD i 0) fs) h' (dW D P n hs ops ms m (L.setIfInBounds i true) ρ' h' (keepF (ms.getD i 0) fs) K)
        | _, _ => False) rs

/-! ### soundness -/
section
variable {P : Program} {n : Nat} {hs : Hints} {ops : Array Oper} {Q : Exit → Act → World → Prop}
/-- Whatever order is picked, and S (of what has come up, and the world) holds behind every operation. -/
def wpAnyT (P : Program) (ops : Array Oper) (Q : Exit → Act → World → Prop) (S : Array Bool → World → Prop) : Nat → Array Bool → Act → World → Prop
  | 0, L, a, w => Region.ready .any ops L = [] ∧ Q .normal a w
  | m + 1, L, a, w => (Region.ready .any ops L = [] → Q .normal a w) ∧
    ∀ i ∈ Region.ready .any ops L, wpOp P ops Q i (fun a' w' => S (L.setIfInBounds i true) w' ∧ wpAnyT P ops Q S m (L.setIfInBounds i true) a' w') a w
theorem wpAny_of_T {S : Array Bool → World → Prop} : ∀ (m : Nat) (L : Array Bool) (a : Act) (w : World), wpAnyT P ops Q S m L a w → wpAny P .any ops Q m L a w
  | 0, _, _, _, h => h
  | m + 1, _, _, _, h => ⟨h.1, fun i hi => wpOp_mono (fun a' w' h' => wpAny_of_T m _ a' w' h'.2) (h.2 i hi)⟩
theorem wpAnyT_mono {S S' : Array Bool → World → Prop} (hS : ∀ L w, S' L w → S L w) : ∀ (m : Nat) (L : Array Bool) (a : Act) (w : World), wpAnyT P ops Q S' m L a w → wpAnyT P ops Q S m L a w
  | 0, _, _, _, h => h
  | m + 1, _, _, _, h => ⟨h.1, fun i hi => wpOp_mono (fun a' w' h' => ⟨hS _ _ h'.1, wpAnyT_mono hS m _ a' w' h'.2⟩) (h.2 i hi)⟩
theorem Down.set {L : Array Bool} (hd : Down ops L) {i : Nat} (hi : i ∈ Region.ready .any ops L) : Down ops (L.setIfInBounds i true) := by
  intro j o ho hj e he hb
  by_cases hij : i = j
  · subst hij
    obtain ⟨_, o', ho', hall⟩ := mem_ready.1 hi
    rw [ho] at ho'
    cases ho'
    exact getD_set_true (hall e he hb)
  · rw [getD_set_ne false hij] at hj
    exact getD_set_true (hd j o ho hj e he hb)
theorem wpAnyT_first {S : Array Bool → World → Prop} {R : World → Prop} {i : Nat} {oi : Oper} {v : Value} (hi : ops[i]? = some oi) (hsel : ∀ (j : Nat) (o : Oper) cs b, ops[j]? = some o → o.op ≠ .select cs b)
    (hQ : ∀ c a w, Q (.panic c) (a.put oi.dst v) w → Q (.panic c) a w) (hSi : ∀ L w, S (L.setIfInBounds i true) w ↔ S L w)
    (hR : ∀ L w, Down ops L → L.getD i true = false → S L w → R w) :
    ∀ (m : Nat) (L : Array Bool) (a : Act) (w : World),
      (∀ j oj, ops[j]? = some oj → j ≠ i → L.getD j true = false → (∀ e ∈ oj.after, Region.binds .any e = true → e.on ≠ i) → oi.apart ops oj = true) →
      i ∈ Region.ready .any ops L → YieldsIf P ops R oi v a → S L w → Down ops L →
      wpAnyT P ops Q S m (L.setIfInBounds i true) (a.put oi.dst v) w → wpAnyT P ops Q S (m + 1) L a w := by
  intro m
  induction m with
  | zero =>
    intro L a w _ hr hy hS hD H
    refine ⟨fun h => (by rw [h] at hr; cases hr), fun j hj => ?_⟩
    by_cases hji : j = i
    · subst hji; exact hy.wpOp hi (hR L w hD (mem_ready.1 hr).1 hS) ⟨(hSi _ _).2 hS, H⟩
    · have := ready_mono hj hji
      rw [H.1] at this
      cases this
  | succ m ih =>
    intro L a w hfree hr hy hS hD H
    refine ⟨fun h => (by rw [h] at hr; cases hr), fun j hj => ?_⟩
    by_cases hji : j = i
    · subst hji; exact hy.wpOp hi (hR L w hD (mem_ready.1 hr).1 hS) ⟨(hSi _ _).2 hS, H⟩
    · have h1 := H.2 j (ready_mono hj hji)
      obtain ⟨hjun, oj, hoj, hall⟩ := mem_ready.1 hj
      have hnot : ∀ e ∈ oj.after, Region.binds .any e = true → e.on ≠ i := fun e he hb heq => by
        have h1 := hall e he hb
        have h0 := (mem_ready.1 hr).1
        rw [heq] at h1
        rcases Nat.lt_or_ge i L.size with h' | h'
        · simp [h'] at h0 h1; rw [h0] at h1; cases h1
        · simp [Array.getElem?_eq_none h'] at h1
      have h2 := wpOp_putIf hoj (hfree j oj hoj hji hjun hnot) (fun cs b => hsel i oi cs b hi) (fun cs b => hsel j oj cs b hoj) hQ hy h1
      have hfree' : ∀ k ok, ops[k]? = some ok → k ≠ i → (L.setIfInBounds j true).getD k true = false →
          (∀ e ∈ ok.after, Region.binds .any e = true → e.on ≠ i) → oi.apart ops ok = true := fun k ok hk hki hun hno => by
        refine hfree k ok hk hki ?_ hno
        by_cases hjk : j = k
        · subst hjk; exact hjun
        · rw [getD_set_ne true hjk] at hun; exact hun
      have hcomm := Array.setIfInBounds_comm (xs := L) true true hji
      refine wpOp_mono (fun a' w' h3 => ?_) h2
      have hS' : S (L.setIfInBounds j true) w' := by
        have := h3.2.1
        rw [← hcomm] at this
        exact (hSi _ _).1 this
      refine ⟨hS', ih (L.setIfInBounds j true) a' w' hfree' (ready_mono hr (Ne.symm hji)) h3.1 hS' (hD.set hj) ?_⟩
      rw [hcomm]
      exact h3.2.2

/-- The facts that still matter. -/
def SF (P : Program) (ops : Array Oper) (fs : Facts) (L : Array Bool) (w : World) : Prop :=
  ∀ f ∈ fs, (∀ j, L.getD j false = true → quietAt P ops j = false → ¬ Anc ops f.1 j) → f.2 w.heap
theorem SF_quiet {fs : Facts} {i : Nat} (hq : quietAt P ops i = true) (L : Array Bool) (w : World) : SF P ops fs (L.setIfInBounds i true) w ↔ SF P ops fs L w := by
  have key : ∀ j, quietAt P ops j = false → ((L.setIfInBounds i true).getD j false = true ↔ L.getD j false = true) := by
    intro j hj
    by_cases hij : i = j
    · subst hij; rw [hq] at hj; cases hj
    · rw [getD_set_ne false hij]
  constructor
  · intro H f hf ha
    exact H f hf fun j h1 h2 => ha j ((key j h2).1 h1) h2
  · intro H f hf ha
    exact H f hf fun j h1 h2 => ha j ((key j h2).2 h1) h2
theorem mem_tagF {i : Nat} {gs : List (Hp → Prop)} {fs : Facts} {f : Nat × (Hp → Prop)} : f ∈ tagF i gs fs ↔ (∃ g ∈ gs, f = (i, g)) ∨ f ∈ fs := by
  induction gs with
  | nil => simp [tagF]
  | cons g gs ih => simp only [tagF, List.mem_cons, ih]; constructor
                    · rintro (h | ⟨g', h1, h2⟩ | h)
                      · exact .inl ⟨g, .inl rfl, h⟩
                      · exact .inl ⟨g', .inr h1, h2⟩
                      · exact .inr h
                    · rintro (⟨g', rfl | h1, h2⟩ | h)
                      · exact .inl h2
                      · exact .inr (.inl ⟨g', h1, h2⟩)
                      · exact .inr (.inr h)
theorem mem_keepF {m : Nat} {f : Nat × (Hp → Prop)} : ∀ {fs : Facts}, f ∈ keepF m fs ↔ f ∈ fs ∧ m.testBit f.1 = false
  | [] => by simp [keepF]
  | g :: fs => by
    simp only [keepF]
    cases hb : m.testBit g.1 with
    | true => simp only [cond_true, mem_keepF (fs := fs), List.mem_cons]
              constructor
              · rintro ⟨h1, h2⟩; exact ⟨.inr h1, h2⟩
              · rintro ⟨rfl | h1, h2⟩
                · rw [hb] at h2; cases h2
                · exact ⟨h1, h2⟩
    | false => simp only [cond_false, List.mem_cons, mem_keepF (fs := fs)]
               constructor
               · rintro (rfl | ⟨h1, h2⟩)
                 · exact ⟨.inl rfl, hb⟩
                 · exact ⟨.inr h1, h2⟩
               · rintro ⟨rfl | h1, h2⟩
                 · exact .inl rfl
                 · exact .inr ⟨h1, h2⟩
theorem firstQ_spec {L : Array Bool} {i : Nat} : ∀ {rs : List Nat}, firstQ P ops L rs = some i → i ∈ rs ∧ quietAt P ops i = true ∧ Region.free .any ops L i = true
  | [], h => by simp [firstQ] at h
  | r :: rs, h => by
    simp only [firstQ] at h
    cases hb : (quietAt P ops r && Region.free .any ops L r) with
    | true => rw [hb] at h; simp at h; subst h; simp at hb; exact ⟨by simp, hb.1, hb.2⟩
    | false => rw [hb] at h; obtain ⟨h1, h2⟩ := firstQ_spec (rs := rs) h; exact ⟨by simp [h1], h2⟩
theorem allJ_spec {f : Nat → Prop} : ∀ {rs : List Nat}, allJ f rs → ∀ i ∈ rs, f i
  | [], _, _, hi => by cases hi
  | [r], h, i, hi => by simp at hi; subst hi; exact h
  | r :: r' :: rs, h, i, hi => by
    rcases List.mem_cons.1 hi with rfl | hi
    · exact h.1
    · exact allJ_spec (rs := r' :: rs) h.2 i hi
/-- A quiet step under its guard. -/
theorem stepQ_spec {o : Oper} {ρ : Fr} {a : Act} {h : Hp} {K : Fr → List (Hp → Prop) → Prop} (H : stepQ P n ops o ρ h K) (hf : Fits n ρ a) :
    ∃ ρ' fs v, K ρ' fs ∧ allF fs h ∧ Fits n ρ' (a.put o.dst v) ∧ YieldsIf P ops (fun w => allF fs w.heap) o v a := by
  have quiet : ∀ {ρ1 : Fr} {K1 : Option Value → List (Hp → Prop) → Prop}, quW P o ρ1 h K1 → Fits n ρ1 a → Region.wanted o (yielded ops a.tmps) = true →
      ∃ r fs v, K1 r fs ∧ allF fs h ∧ agrees r v ∧ YieldsIf P ops (fun w => allF fs w.heap) o v a := by
    intro ρ1 K1 hq hf1 hw
    obtain ⟨r, fs, v, h1, h2, h3, h4⟩ := quW_spec hq a.eval (fun x v hx => hf1.ev x v hx)
    refine ⟨r, fs, v, h1, h2, h3, .inl ⟨hw, fun w hS => ?_⟩⟩
    obtain ⟨nx, g1, g2⟩ := semR_run _ w _ (h4 w.heap hS)
    rw [g1, g2]
  unfold stepQ at H
  cases hg : o.guard with
  | none =>
    rw [hg] at H
    have hw : Region.wanted o (yielded ops a.tmps) = true := by simp [Region.wanted, hg]
    obtain ⟨r, fs, v, h1, h2, h3, h4⟩ := quiet H hf hw
    exact ⟨_, fs, v, h1, h2, hf.put h3 _, h4⟩
  | some jw =>
    obtain ⟨j, want⟩ := jw
    rw [hg] at H
    simp only at H
    cases hsl : gslot ops j with
    | none => rw [hsl] at H; exact H.elim
    | some s =>
      rw [hsl] at H
      simp only at H
      split at H
      · rename_i b hb
        have hy := yielded_of hf hsl hb
        have hw : Region.wanted o (yielded ops a.tmps) = decide (b = want) := by
          simp only [Region.wanted, hg, hy]
          cases b <;> cases want <;> rfl
        have hf' := hf.setb hb
        cases b <;> cases want <;> simp only [Bool.false_eq_true, if_false, if_true] at H
        · obtain ⟨r, fs, v, h1, h2, h3, h4⟩ := quiet H hf' (by rw [hw]; rfl)
          exact ⟨_, fs, v, h1, h2, hf'.put h3 _, h4⟩
        · exact ⟨_, [], undef, H, allF_nil, hf'.put (agrees_some _) _, .inr ⟨by rw [hw]; rfl, rfl⟩⟩
        · exact ⟨_, [], undef, H, allF_nil, hf'.put (agrees_some _) _, .inr ⟨by rw [hw]; rfl, rfl⟩⟩
        · obtain ⟨r, fs, v, h1, h2, h3, h4⟩ := quiet H hf' (by rw [hw]; rfl)
          exact ⟨_, fs, v, h1, h2, hf'.put h3 _, h4⟩
      · rename_i vs hb
        have hy := yielded_none hf hsl hb
        have hw : Region.wanted o (yielded ops a.tmps) = false := by
          simp only [Region.wanted, hg, hy]
          cases want <;> rfl
        exact ⟨_, [], undef, H, allF_nil, hf.put (agrees_some _) _, .inr ⟨hw, rfl⟩⟩
      · exact H.elim

theorem dW_sound {ms : List Nat} (hms : ∀ j k, (ms.getD j 0).testBit k = true → Anc ops k j) (hsel : Region.noSelect ops = true) {K : Fr → Hp → Prop} {w0 : World} {a0 : Act}
    (hK : ∀ ρ' a' w', Fits n ρ' a' → K ρ' w'.heap → KeptD D w0 w' → (∀ t, writesO ops.toList t = false → a'.tmps[t]? = a0.tmps[t]?) → Q .normal a' w')
    (hP : ∀ c a w, ¬ Q (.panic c) a w) :
    ∀ (m : Nat) (L : Array Bool) (ρ : Fr) (a : Act) (w : World) (fs fs0 : Facts), dW D P n hs ops ms m L ρ w.heap fs K → Fits n ρ a → KeptD D w0 w → (∀ t, writesO ops.toList t = false → a.tmps[t]? = a0.tmps[t]?) →
      Down ops L → SF P ops fs0 L w → (∀ f ∈ fs0, (∀ j, L.getD j false = true → quietAt P ops j = false → ¬ Anc ops f.1 j) → f ∈ fs) → wpAnyT P ops Q (SF P ops fs0) m L a w := by
  have wr : ∀ {i : Nat} {o : Oper}, ops[i]? = some o → ∀ t, writesO ops.toList t = false → o.dst ≠ some t := by
    intro i o ho t ht he
    have : o ∈ ops.toList := by simpa using Array.mem_of_getElem? ho
    simp only [writesO, List.any_eq_false] at ht
    exact ht o this (by simp [he])
  intro m
  induction m with
  | zero =>
    intro L ρ a w fs fs0 H hf hk hp hD hS hal
    unfold dW at H
    split at H
    · rename_i hr
      exact ⟨hr, hK ρ a w hf H hk hp⟩
    · exact H.elim
  | succ m ih =>
    intro L ρ a w fs fs0 H hf hk hp hD hS hal
    unfold dW at H
    split at H
    · rename_i hr
      exact ⟨fun _ => hK ρ a w hf H hk hp, fun i hi => by rw [hr] at hi; cases hi⟩
    · rename_i hne
      split at H
      · rename_i i hfi
        obtain ⟨hir, hiq, hifree⟩ := firstQ_spec hfi
        split at H
        · rename_i o ho
          obtain ⟨ρ', gs, v, h1, h2, h3, h4⟩ := stepQ_spec H hf
          -- the new facts join those that are kept
          have hS1 : SF P ops (tagF i gs fs0) L w := by
            intro f hfm ha
            rcases mem_tagF.1 hfm with ⟨g, hg, rfl⟩ | hfm
            · exact h2 g hg
            · exact hS f hfm ha
          have h5 := ih (L.setIfInBounds i true) ρ' (a.put o.dst v) w (tagF i gs fs) (tagF i gs fs0) h1 h3 hk (fun t ht => by rw [put_other (wr ho t ht), hp t ht]) (hD.set hir) ((SF_quiet hiq L w).2 hS1) (by
            intro f hfm ha
            rcases mem_tagF.1 hfm with hg | hfm
            · exact mem_tagF.2 (.inl hg)
            · refine mem_tagF.2 (.inr (hal f hfm fun j hj hq => ha j (getD_set_true hj) hq)))
          refine wpAnyT_mono (S' := SF P ops (tagF i gs fs0)) (fun L' w' hh f hfm ha => hh f (mem_tagF.2 (.inr hfm)) ha) _ _ _ _ ?_
          refine wpAnyT_first (R := fun w => allF gs w.heap) ho (Region.noSelect_spec hsel) (fun c a w hq => (hP _ _ _ hq).elim) (SF_quiet hiq) (fun L' w' hD' hun hS' g hg => ?_) m L a w (Region.free_spec ho hifree) hir h4 hS1 hD h5
          refine hS' (i, g) (mem_tagF.2 (.inl ⟨g, hg, rfl⟩)) fun j hj _ hanc => ?_
          have := hD'.anc hanc hj
          rcases Nat.lt_or_ge i L'.size with h' | h'
          · simp [h'] at hun this; rw [hun] at this; cases this
          · simp [Array.getElem?_eq_none h'] at this
        · exact H.elim
      · rename_i hnone
        refine ⟨fun h => (hne h).elim, fun i hi => ?_⟩
        have H1 := allJ_spec H i hi
        split at H1
        · rename_i o hq ho
          refine stepW_wp ho H1 hf fun ρ' a' w' g1 g2 g3 g4 => ?_
          rw [conjF_spec] at g2
          obtain ⟨g5, g6⟩ := g2
          have hal' : ∀ f ∈ fs0, (∀ j, (L.setIfInBounds i true).getD j false = true → quietAt P ops j = false → ¬ Anc ops f.1 j) → f ∈ keepF (ms.getD i 0) fs := by
            intro f hfm ha
            refine mem_keepF.2 ⟨hal f hfm fun j hj hqj => ha j (getD_set_true hj) hqj, ?_⟩
            have hLi : (L.setIfInBounds i true).getD i false = true := by
              have h0 := (mem_ready.1 hi).1
              rcases Nat.lt_or_ge i L.size with h' | h'
              · simp [h']
              · simp [Array.getElem?_eq_none h'] at h0
            have hna := ha i hLi hq
            cases hb : (ms.getD i 0).testBit f.1 with
            | false => rfl
            | true => exact absurd (hms i f.1 hb) hna
          have hS' : SF P ops fs0 (L.setIfInBounds i true) w' := fun f hfm ha => g5 f (hal' f hfm ha)
          exact ⟨hS', ih _ ρ' a' w' _ fs0 g6 g1 (hk.trans g3) (fun t ht => by rw [g4 t (wr ho t ht), hp t ht]) (hD.set hi) hS' hal'⟩
        · exact H1.elim
theorem dW_region {id : Nat} {ρ : Fr} {a : Act} {w : World} {K : Fr → Hp → Prop} (hm : P.follows .mixedOrders = true) (hsel : Region.noSelect ops = true)
    (H : dW D P n hs ops (ancM ops.toList []) ops.size (Array.replicate ops.size false) ρ w.heap [] K) (hf : Fits n ρ a)
    (hP : ∀ c a w, ¬ Q (.panic c) a w)
    (hK : ∀ ρ' a' w', Fits n ρ' a' → K ρ' w'.heap → KeptD D w w' → (∀ t, writesO ops.toList t = false → a'.tmps[t]? = a.tmps[t]?) → Q .normal a' w') : (Code.region id ops true).wp P Q a w := by
  refine wp_region_any hm (wpAny_of_T (S := SF P ops []) _ _ _ _ ?_)
  have hms := ancM_spec ops ops.toList [] 0 rfl (fun i => by simp) (fun j k h => by simp at h)
  refine dW_sound (w0 := w) (a0 := a) hms hsel hK hP ops.size _ ρ a { w with drawn := w.drawn + 1 } [] [] H hf ⟨rfl, rfl, rfl, fun _ => Nat.le_succ _⟩ (fun _ _ => rfl) ?_ (fun f hf => by cases hf) (fun f hf => by cases hf)
  intro j o ho hj
  have hlt := (Array.getElem?_eq_some_iff.1 ho).1
  simp [hlt] at hj
end
end Go.Lift

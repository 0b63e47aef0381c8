/- Ranges over functions: code that may call yield, as a Prop over the heap; soundness. -/
import Derived.Test.YtgdiihffjogdiaaGreatDoorLvL
import Derived.RangeFuncIn
import Derived.RangeFuncLeaves
import Derived.RangeFuncSeq
set_option linter.unusedSimpArgs false
set_option linter.unusedVariables false
namespace Go.Lift
open Go

abbrev YT := Array Value → Hp → (Bool → Hp → Prop) → Prop
def WR (ro : Option Nat) : Fence := { fn := fun _ => True, depth := none, alive := false, round := ro }
theorem callsIn_of {ro : Option Nat} {n : Nat} {P : Program} {f : FuncId} {args : Array Value} {w : World} {R : Ending → World → Prop} (h : Calls P f args w R) : CallsIn (WR ro) n P f args w R := by
  have := callsIn_wide (n := n) |>.2 h
  exact this
theorem calls_of_in {n : Nat} {P : Program} {f : FuncId} {args : Array Value} {w : World} {R : Ending → World → Prop} (h : CallsIn (WR none) n P f args w R) : Calls P f args w R := callsIn_wide.1 h
/-- What yield of a loop does. -/
def YOk (P : Program) (l : Nat) (Y : YT) : Prop := ∀ args h K, Y args h K → ∀ (w : World) (n : Nat), w.heap = h → YieldAt (WR none) n P l args w fun e w' => ∃ b, e = .returned (.bool b) ∧ Kept w w' ∧ K b w'.heap
abbrev YL := Option (Nat × YT)
def YLOk (P : Program) (ro : Option Nat) (yl : YL) : Prop := ∀ l Y, yl = some (l, Y) → ro = none ∧ YOk P l Y

structure FitsD (ds : List Deferred) (n : Nat) (ρ : Fr) (a : Act) : Prop where
  dz : a.defers = ds
  sz : a.tmps.size = n
  kn : ∀ t v, ρ t = some v → a.tmps[t]? = some v
section
variable {ds : List Deferred} {n : Nat} {ρ : Fr} {a : Act}
theorem FitsD.ev (hf : FitsD ds n ρ a) (x : Operand) (v : Value) (h : ev ρ x = some v) : a.eval x = v := by
  cases x <;> simp only [Lift.ev, Option.some.injEq] at h
  case tmp t => have := hf.kn t v h; simp [Act.eval, this]
  all_goals (subst h; rfl)
theorem FitsD.put (hf : FitsD ds n ρ a) {r : Option Value} {v : Value} (hr : agrees r v) (d : Option Tmp) : FitsD ds n (upd n ρ d r) (a.put d v) := by
  cases d with
  | none => exact hf
  | some d =>
    refine ⟨hf.dz, by simp [Act.put, hf.sz], fun t u hu => ?_⟩
    simp only [upd, cond_eq_ite, Nat.beq_eq, Nat.blt_eq] at hu
    simp only [Act.put]
    by_cases e : t = d
    · subst e
      simp only [if_true] at hu
      split at hu
      · rename_i hlt
        rw [Array.getElem?_setIfInBounds_self_of_lt (by rw [hf.sz]; exact hlt), hr u hu]
      · cases hu
    · simp only [e, if_false] at hu
      rw [Array.getElem?_setIfInBounds_ne (Ne.symm e)]
      exact hf.kn t u hu
theorem FitsD.keepS {a' : Act} (hf : FitsD ds n ρ a) {ks : List Nat} (hk : ∀ t, inL t ks = true → a'.tmps[t]? = a.tmps[t]?) (hd : a'.defers = ds) (hz : a'.tmps.size = n) : FitsD ds n (keepS ks ρ) a' := by
  refine ⟨hd, hz, fun t v hv => ?_⟩
  simp only [Lift.keepS] at hv
  cases hi : inL t ks with
  | true => rw [hi] at hv; rw [hk t hi]; exact hf.kn t v hv
  | false => rw [hi] at hv; cases hv
theorem FitsD.setMany {ρb : Fr} (hf : FitsD ds n ρ a) (hb : FitsD ds n ρb a) : ∀ {vs : JV} {K : List Value → Prop}, mtch ρ vs K → ∃ vals, K vals ∧ FitsD ds n (setMany n ρb vs vals) a
  | [], K, h => ⟨[], h, hb⟩
  | (s, t) :: vs, K, h => by
    obtain ⟨v, h1, h2⟩ := e1_some h
    obtain ⟨us, h3, h4⟩ := FitsD.setMany hf hb h2
    refine ⟨v :: us, h3, h4.dz, h4.sz, fun u x hx => ?_⟩
    simp only [Lift.setMany, upd, cond_eq_ite, Nat.beq_eq, Nat.blt_eq] at hx
    split at hx
    · rename_i e
      subst e
      split at hx
      · simp at hx; subst hx; exact hf.kn u v h1
      · cases hx
    · exact h4.kn u x hx
end
/-- An operation; a call of yield goes by what is said of it. -/
def opY (P : Program) (hs : Hints) (yl : YL) (o : Oper) (ρ : Fr) (h : Hp) (K : Option Value → Hp → Prop) : Prop :=
  match o.op with
  | .defer _ => False
  | .call { callee := .value x, args, argTypes := _ } => match ev ρ x with
    | some (.func (.yield l) first _) => match yl with
      | some (l', Y) => l = l' ∧ eL (evL ρ args.toList) fun as => Y (first ++ as.toArray) h fun b h' => K (some (.bool b)) h'
      | none => False
    | _ => opW False P hs o ρ h K
  | _ => opW False P hs o ρ h K
/-- One operation, under its guard. -/
def stepY (P : Program) (n : Nat) (hs : Hints) (yl : YL) (ops : Array Oper) (o : Oper) (ρ : Fr) (h : Hp) (K : Fr → Hp → Prop) : Prop :=
  match o.guard with
  | none => opY P hs yl o ρ h fun r h' => K (upd n ρ o.dst r) h'
  | some (j, want) => match gslot ops j with
    | some s => match ρ s with
      | some (.bool b) =>
        if b then (match want with | true => opY P hs yl o (setb ρ s true) h fun r h' => K (upd n (setb ρ s true) o.dst r) h' | false => K (upd n (setb ρ s true) o.dst (some undef)) h)
        else (match want with | false => opY P hs yl o (setb ρ s false) h fun r h' => K (upd n (setb ρ s false) o.dst r) h' | true => K (upd n (setb ρ s false) o.dst (some undef)) h)
      | _ => False
    | none => False
def rY (P : Program) (n : Nat) (hs : Hints) (yl : YL) (ops : Array Oper) : List Oper → Fr → Hp → (Fr → Hp → Prop) → Prop
  | [], ρ, h, K => K ρ h
  | o :: os, ρ, h, K => stepY P n hs yl ops o ρ h fun ρ' h' => rY P n hs yl ops os ρ' h' K
def cwY (P : Program) (n : Nat) (hs : Hints) (yl : YL) : Code → Ann → Post → Fr → Hp → Prop
  | .skip, ann, Q, ρ, h => joinW n .skip ann.j Q ρ fun Q => Q .normal ρ h
  | .label _, _, Q, ρ, h => Q .normal ρ h
  | .region id ops d, ann, Q, ρ, h => joinW n (.region id ops d) ann.j Q ρ fun Q => match d with
    | false => rY P n hs yl ops ops.toList ρ h fun ρ' h' => Q .normal ρ' h'
    | true => False
  | .seq a b, ann, Q, ρ, h => joinW n (.seq a b) ann.j Q ρ fun Q => cwY P n hs yl a ann.l (seqQ (fun ρ' h' => cwY P n hs yl b ann.r Q ρ' h') Q) ρ h
  | .cond c a b, ann, Q, ρ, h => joinW n (.cond c a b) ann.j Q ρ fun Q => match ev ρ c with
    | some (.bool t) => if t then cwY P n hs yl a ann.l Q ρ h else cwY P n hs yl b ann.r Q ρ h
    | _ => False
  | .block id c, ann, Q, ρ, h => joinW n (.block id c) ann.j Q ρ fun Q => cwY P n hs yl c ann.l (blockQ id Q) ρ h
  | .loop c, ann, Q, ρ, h => joinW n (.loop c) ann.j Q ρ fun Q => match okC ann.lp.ks c with
    | true => mtch ρ ann.lp.vs fun vals0 => ∀ X : List Value → Hp → Prop,
        (alTs (tys ann.lp.vs) fun vals => ∀ h', cwY P n hs yl c ann.l (loopQ ann.lp.vs X Q) (setMany n (keepS ann.lp.ks ρ) ann.lp.vs vals) h' → X vals h') → X vals0 h
    | false => False
  | .exit id, _, Q, ρ, h => Q (.exit id) ρ h
  | .ret, _, Q, ρ, h => Q .ret ρ h
  | _, _, _, _, _ => False
section
variable {P : Program} {n : Nat} {hs : Hints} {ro : Option Nat} {yl : YL} {ds : List Deferred}
theorem opW_in {o : Oper} {ρ : Fr} {a : Act} {w : World} {K : Option Value → Hp → Prop} {Q : Exit → Act → World → Prop} {m : Nat} (H : opW False P hs o ρ w.heap K) (hd : ∀ c, o.op ≠ .defer c) (hf : FitsD ds n ρ a) {K' : Act → World → Prop}
    (hK : ∀ r v w', agrees r v → K r w'.heap → Kept w w' → K' (a.put o.dst v) w') : o.wpIn (WR ro) m P a w K' Q := by
  obtain ⟨nx, w', h1, h2, h3⟩ := semW_run _ w _ (opW_spec H a.eval (fun x v hx => hf.ev x v hx))
  refine ⟨fun _ _ => trivial, ?_⟩
  rw [Oper.semAt_eq _ _ _ hd, h1]
  cases nx <;> simp only [NextOK] at h2 <;> simp only [Oper.uponIn]
  case value v => obtain ⟨r, h4, h5⟩ := h2; exact hK r v w' h4 h5 h3
  case skip => obtain ⟨r, h4, h5⟩ := h2; exact hK r undef w' h4 h5 h3
  case enter f args =>
    refine ⟨fun h => by simp [WR] at h, (callsIn_of (h2 w' rfl)).mono ?_⟩
    rintro e w'' ⟨vs, rfl, h4, r, h5, h6⟩
    exact hK r _ w'' h5 h6 (h3.trans h4)
theorem opY_in {o : Oper} {ρ : Fr} {a : Act} {w : World} {K : Option Value → Hp → Prop} {Q : Exit → Act → World → Prop} {m : Nat} (hy : YLOk P ro yl) (H : opY P hs yl o ρ w.heap K) (hf : FitsD ds n ρ a) {K' : Act → World → Prop}
    (hK : ∀ r v w', agrees r v → K r w'.heap → Kept w w' → K' (a.put o.dst v) w') : o.wpIn (WR ro) m P a w K' Q := by
  unfold opY at H
  split at H
  · exact H.elim
  · rename_i x args ts hop
    split at H
    · rename_i l first caps hx
      split at H
      · rename_i l' Y
        obtain ⟨rfl, H⟩ := H
        obtain ⟨as, h2, H⟩ := eL_some H
        obtain ⟨rfl, hY⟩ := hy l Y rfl
        obtain ⟨fn, tmps, asg, body, h3, h4⟩ := hY _ _ _ H w (m - 1) rfl
        have h5 := evL_eq (fun x v hx => hf.ev x v hx) _ _ h2
        have e1 : args.map a.eval = as.toArray := by rw [← h5, ← Array.toList_map]
        refine ⟨fun _ _ => trivial, ?_⟩
        rw [Oper.semAt_eq _ _ _ (by rw [hop]; intro c hc; cases hc)]
        have hrun : (execOp a.eval o).run P w = .ok (.round l fn tmps asg body) w := by
          simp only [execOp, hop, resolve, e1, hf.ev _ _ hx, Deferred.ofValue, invoke]
          simp only [Sem.run_bind, Sem.run_pure, Result.andThen]
          exact h3
        rw [hrun]
        simp only [Oper.uponIn]
        refine ⟨fun h => by simp [WR] at h, h4.mono ?_⟩
        rintro e w'' ⟨v, rfl, h7, h8⟩
        exact hK _ (.bool v) w'' (agrees_some _) h8 h7
      · exact H.elim
    · exact opW_in H (by rw [hop]; intro c hc; cases hc) hf hK
  · rename_i hnd _
    exact opW_in H (fun c hc => hnd c hc) hf hK
theorem rY_in {ops : Array Oper} {Q : Exit → Act → World → Prop} {m : Nat} (hy : YLOk P ro yl) : ∀ (is : List Nat) (os : List Oper), is.length = os.length → (∀ (k : Nat) (i : Nat), is[k]? = some i → ops[i]? = os[k]?) → ∀ {ρ : Fr} {a : Act} {w : World} {K : Fr → Hp → Prop}, rY P n hs yl ops os ρ w.heap K → FitsD ds n ρ a →
    (∀ ρ' a' w', FitsD ds n ρ' a' → K ρ' w'.heap → Kept w w' → (∀ t, writesO os t = false → a'.tmps[t]? = a.tmps[t]?) → Q .normal a' w') → wpOpsIn (WR ro) m P ops Q is a w
  | [], [], _, _, ρ, a, w, K, H, hf, hQ => hQ ρ a w hf H (.refl _) fun _ _ => rfl
  | [], _ :: _, hl, _, _, _, _, _, _, _, _ => by simp at hl
  | _ :: _, [], hl, _, _, _, _, _, _, _, _ => by simp at hl
  | i :: is, o :: os, hl, hi, ρ, a, w, K, H, hf, hQ => by
    unfold wpOpsIn
    have ho : ops[i]? = some o := by simpa using hi 0 i (by simp)
    simp only [ho]
    simp only [rY] at H
    have rest : ∀ {ρ1 : Fr} {a1 : Act} {w1 : World}, FitsD ds n ρ1 a1 → rY P n hs yl ops os ρ1 w1.heap K → Kept w w1 → (∀ t, o.dst ≠ some t → a1.tmps[t]? = a.tmps[t]?) → wpOpsIn (WR ro) m P ops Q is a1 w1 := fun h1 h2 h3 h4 =>
      rY_in hy is os (by simpa using hl) (fun k j hk => by simpa using hi (k + 1) j (by simpa using hk)) h2 h1 fun ρ'' a'' w'' g1 g2 g3 g4 => hQ ρ'' a'' w'' g1 g2 (h3.trans g3) fun t ht => by
        simp only [writesO, List.any_cons, Bool.or_eq_false_iff, beq_eq_false_iff_ne] at ht
        rw [g4 t ht.2, h4 t ht.1]
    unfold stepY at H
    cases hg : o.guard with
    | none =>
      rw [hg] at H
      have hw : Region.wanted o (yielded ops a.tmps) = true := by simp [Region.wanted, hg]
      rw [if_pos hw]
      exact opY_in hy H hf fun r v w' h1 h2 h3 => rest (hf.put h1 o.dst) h2 h3 fun t ht => put_other ht
    | some jw =>
      obtain ⟨j, want⟩ := jw
      rw [hg] at H
      simp only at H
      cases hsl : gslot ops j with
      | none => rw [hsl] at H; exact H.elim
      | some s =>
        rw [hsl] at H
        simp only at H
        split at H
        · rename_i b hb
          have hyd : yielded ops a.tmps j = some b := by
            unfold yielded
            unfold gslot at hsl
            have := hf.kn s _ hb
            rw [hsl]
            simp only [Option.bind_some]
            rw [this]
          have hw : Region.wanted o (yielded ops a.tmps) = decide (b = want) := by
            simp only [Region.wanted, hg, hyd]
            cases b <;> cases want <;> rfl
          rw [hw]
          have hf' : FitsD ds n (setb ρ s b) a := ⟨hf.dz, hf.sz, fun t u hu => by
            simp only [Lift.setb, cond_eq_ite, Nat.beq_eq] at hu
            split at hu
            · rename_i e; subst e; rw [← hu]; exact hf.kn t _ hb
            · exact hf.kn t u hu⟩
          cases b <;> cases want <;> simp only [Bool.false_eq_true, if_false, if_true, decide_true, decide_false, Bool.true_eq_false] at H ⊢
          · exact opY_in hy H hf' fun r v w' h1 h2 h3 => rest (hf'.put h1 o.dst) h2 h3 fun t ht => put_other ht
          · exact ⟨fun _ _ => trivial, rest (hf'.put (agrees_some _) _) H (.refl _) fun t ht => put_other ht⟩
          · exact ⟨fun _ _ => trivial, rest (hf'.put (agrees_some _) _) H (.refl _) fun t ht => put_other ht⟩
          · exact opY_in hy H hf' fun r v w' h1 h2 h3 => rest (hf'.put h1 o.dst) h2 h3 fun t ht => put_other ht
        · exact H.elim
theorem rY_region {id : Nat} {ops : Array Oper} {Q : Exit → Act → World → Prop} {m : Nat} (hy : YLOk P ro yl) {ρ : Fr} {a : Act} {w : World} {K : Fr → Hp → Prop} (H : rY P n hs yl ops ops.toList ρ w.heap K) (hf : FitsD ds n ρ a)
    (hQ : ∀ ρ' a' w', FitsD ds n ρ' a' → K ρ' w'.heap → Kept w w' → (∀ t, writesO ops.toList t = false → a'.tmps[t]? = a.tmps[t]?) → Q .normal a' w') : (Code.region id ops false).wpIn (WR ro) m P Q a w := by
  refine wpIn_region (rY_in hy (List.range ops.size) ops.toList (by simp) (fun k i hk => ?_) H hf hQ)
  rw [List.getElem?_range] at hk
  · simp at hk
    subst hk
    simp
  · rcases Nat.lt_or_ge k ops.size with h | h
    · exact h
    · rw [List.getElem?_eq_none (by simpa using h)] at hk; cases hk

def liftD (ds : List Deferred) (n : Nat) (w0 : World) (a0 : Act) (wr : Nat → Bool) (Q : Post) : Exit → Act → World → Prop := fun e a w =>
  ∃ e' ρ', exOf e = some e' ∧ FitsD ds n ρ' a ∧ Kept w0 w ∧ (∀ t, wr t = false → a.tmps[t]? = a0.tmps[t]?) ∧ Q e' ρ' w.heap
/-- The head of a loop's round. -/
def HeadIn (F : Fence) (m : Nat) (P : Program) (c : Code) (Q : Exit → Act → World → Prop) (a : Act) (w : World) : Prop :=
  ∀ (b : Frame) (k : List Item) (cs : List Frame), b.roundOf = F.round → F.fn b.fn → F.room (cs.length + 1 + m) →
    ∃ e a' w', Q e a' w' ∧ ArrivesIn (Machine.fenced P F) P (lone (b.atR a (.code c :: .inLoop c :: k)) cs w) b k cs e a' w'
theorem HeadIn.loop {F : Fence} {m : Nat} {c : Code} {Q : Exit → Act → World → Prop} {a : Act} {w : World} (h : HeadIn F m P c Q a w) : (Code.loop c).wpIn F m P Q a w := fun b k cs hro hb hr =>
  let ⟨e, a', w', q, r⟩ := h b k cs hro hb hr; ⟨e, a', w', q, .of_steps (.one (fenced_calm hb hr rfl) stepR_loop) r⟩
theorem HeadIn.round {F : Fence} {m : Nat} {c : Code} {Q : Exit → Act → World → Prop} {a : Act} {w : World} (h : c.wpIn F m P (Exit.then (HeadIn F m P c Q) Q) a w) : HeadIn F m P c Q a w := by
  intro b k cs hro hb hr
  obtain ⟨e, a₁, w₁, hq, harr⟩ := h b (.inLoop c :: k) cs hro hb hr
  cases e with
  | normal =>
    obtain ⟨e₂, a₂, w₂, hq₂, harr₂⟩ := hq b k cs hro hb hr
    exact ⟨e₂, a₂, w₂, hq₂, .of_steps (StepsIn.trans harr (.one (fenced_calm hb hr rfl) stepR_inLoop)) harr₂⟩
  | exit id => exact ⟨_, a₁, w₁, hq, .pass (x := .inLoop c) rfl (fun _ _ => .inl (by simp)) harr⟩
  | goto l => exact ⟨_, a₁, w₁, hq, .pass (x := .inLoop c) rfl (fun _ _ => .inl (by simp)) harr⟩
  | ret => exact ⟨_, a₁, w₁, hq, .pass (x := .inLoop c) rfl (fun _ _ => .inl (by simp)) harr⟩
  | panic ch => exact ⟨_, a₁, w₁, hq, .pass (x := .inLoop c) rfl (fun _ _ => .inl (by simp)) harr⟩
  | outgrown => exact ⟨_, a₁, w₁, hq, .pass (x := .inLoop c) rfl (fun _ _ => .inl (by simp)) harr⟩
variable {m : Nat}
theorem joinD_sound {c : Code} {j : Option Jn} {Q : Post} {ρ : Fr} {core : Post → Prop} {a : Act} {w : World} (H : joinW n c j Q ρ core) (hf : FitsD ds n ρ a)
    (hc : ∀ Q', core Q' → c.wpIn (WR ro) m P (liftD ds n w a (writesC c) Q') a w) : c.wpIn (WR ro) m P (liftD ds n w a (writesC c) Q) a w := by
  unfold joinW at H
  cases j with
  | none => exact hc Q H
  | some j =>
    simp only at H
    split at H
    · rename_i hok
      have H1 := H (fun vals h' => Q .normal (setMany n (keepS j.ks ρ) j.vs vals) h') (alTs_of fun vals h' hq => hq)
      refine wpIn_mono (hc _ H1) ?_
      rintro e a' w' ⟨e', ρ', h1, h2, h3, h4, h5⟩
      cases e' with
      | normal =>
        have hb : FitsD ds n (keepS j.ks ρ) a' := hf.keepS (fun t ht => h4 t (okC_spec ht hok)) h2.dz h2.sz
        obtain ⟨vals, h6, h7⟩ := h2.setMany hb h5
        exact ⟨_, _, h1, h7, h3, h4, h6⟩
      | exit id => exact ⟨_, _, h1, h2, h3, h4, h5⟩
      | ret => exact ⟨_, _, h1, h2, h3, h4, h5⟩
    · exact H.elim
theorem liftD_mono {w0 w1 : World} {a0 a1 : Act} {wr wr' : Nat → Bool} {Q Q' : Post} (hk : Kept w0 w1) (hp : ∀ t, wr' t = false → wr t = false ∧ a1.tmps[t]? = a0.tmps[t]?) (hQ : ∀ e ρ h, Q e ρ h → Q' e ρ h) :
    ∀ e a w, liftD ds n w1 a1 wr Q e a w → liftD ds n w0 a0 wr' Q' e a w := by
  rintro e a w ⟨e', ρ', h1, h2, h3, h4, h5⟩
  exact ⟨e', ρ', h1, h2, hk.trans h3, fun t ht => by rw [h4 t (hp t ht).1, (hp t ht).2], hQ _ _ _ h5⟩
theorem cwY_sound (hy : YLOk P ro yl) : ∀ (c : Code) (ann : Ann) (Q : Post) (ρ : Fr) (a : Act) (w : World), cwY P n hs yl c ann Q ρ w.heap → FitsD ds n ρ a → c.wpIn (WR ro) m P (liftD ds n w a (writesC c) Q) a w
  | .skip, ann, Q, ρ, a, w, H, hf => by
    simp only [cwY] at H
    exact joinD_sound H hf fun Q' h => wpIn_skip ⟨_, _, rfl, hf, .refl _, fun _ _ => rfl, h⟩
  | .label _, ann, Q, ρ, a, w, H, hf => by
    simp only [cwY] at H
    exact wpIn_label ⟨_, _, rfl, hf, .refl _, fun _ _ => rfl, H⟩
  | .region id ops d, ann, Q, ρ, a, w, H, hf => by
    simp only [cwY] at H
    refine joinD_sound H hf fun Q' h => ?_
    cases d with
    | false => exact rY_region hy h hf fun ρ' a' w' h1 h2 h3 h4 => ⟨_, _, rfl, h1, h3, h4, h2⟩
    | true => exact h.elim
  | .seq x y, ann, Q, ρ, a, w, H, hf => by
    simp only [cwY] at H
    refine joinD_sound H hf fun Q' h => wpIn_seq ?_
    refine wpIn_mono (cwY_sound hy x ann.l _ ρ a w h hf) ?_
    rintro e a1 w1 ⟨e', ρ1, h1, h2, h3, h4, h5⟩
    cases e' with
    | normal =>
      have : e = .normal := by cases e <;> simp [exOf] at h1 <;> rfl
      subst this
      refine wpIn_mono (cwY_sound hy y ann.r _ ρ1 a1 w1 h5 h2) (liftD_mono h3 (fun t ht => ?_) fun _ _ _ h => h)
      simp only [writesC, Bool.or_eq_false_iff] at ht
      exact ⟨ht.2, h4 t ht.1⟩
    | exit id =>
      have : e = .exit id := by cases e <;> simp [exOf] at h1; rw [h1]
      subst this
      exact ⟨_, _, rfl, h2, h3, fun t ht => h4 t (by simp only [writesC, Bool.or_eq_false_iff] at ht; exact ht.1), h5⟩
    | ret =>
      have : e = .ret := by cases e <;> simp [exOf] at h1 <;> rfl
      subst this
      exact ⟨_, _, rfl, h2, h3, fun t ht => h4 t (by simp only [writesC, Bool.or_eq_false_iff] at ht; exact ht.1), h5⟩
  | .cond c x y, ann, Q, ρ, a, w, H, hf => by
    simp only [cwY] at H
    refine joinD_sound H hf fun Q' h => ?_
    split at h
    · rename_i t ht
      cases t with
      | true =>
        refine wpIn_cond_true (hf.ev _ _ ht) (wpIn_mono (cwY_sound hy x ann.l Q' ρ a w (by simpa using h) hf) (liftD_mono (.refl _) (fun t ht => ?_) fun _ _ _ h => h))
        simp only [writesC, Bool.or_eq_false_iff] at ht
        exact ⟨ht.1, rfl⟩
      | false =>
        refine wpIn_cond_false (hf.ev _ _ ht) (wpIn_mono (cwY_sound hy y ann.r Q' ρ a w (by simpa using h) hf) (liftD_mono (.refl _) (fun t ht => ?_) fun _ _ _ h => h))
        simp only [writesC, Bool.or_eq_false_iff] at ht
        exact ⟨ht.2, rfl⟩
    · exact h.elim
  | .block id c, ann, Q, ρ, a, w, H, hf => by
    simp only [cwY] at H
    refine joinD_sound H hf fun Q' h => wpIn_block ?_
    refine wpIn_mono (cwY_sound hy c ann.l _ ρ a w h hf) ?_
    rintro e a1 w1 ⟨e', ρ1, h1, h2, h3, h4, h5⟩
    cases e' with
    | normal =>
      have : e = .normal := by cases e <;> simp [exOf] at h1 <;> rfl
      subst this
      exact ⟨_, _, rfl, h2, h3, h4, h5⟩
    | exit i =>
      have : e = .exit i := by cases e <;> simp [exOf] at h1; rw [h1]
      subst this
      simp only [blockQ, cond_eq_ite, Nat.beq_eq] at h5
      simp only [Exit.inBlock]
      split at h5
      · rename_i hi
        rw [if_pos hi]
        exact ⟨_, _, rfl, h2, h3, h4, h5⟩
      · rename_i hi
        rw [if_neg hi]
        exact ⟨_, _, rfl, h2, h3, h4, h5⟩
    | ret =>
      have : e = .ret := by cases e <;> simp [exOf] at h1 <;> rfl
      subst this
      exact ⟨_, _, rfl, h2, h3, h4, h5⟩
  | .loop c, ann, Q, ρ, a, w, H, hf => by
    simp only [cwY] at H
    refine joinD_sound H hf fun Q' h => ?_
    split at h
    · rename_i hok
      have hb : FitsD ds n (keepS ann.lp.ks ρ) a := hf.keepS (fun _ _ => rfl) hf.dz hf.sz
      obtain ⟨vals0, h0, hf0⟩ := hf.setMany hb h
      refine HeadIn.loop ?_
      refine h0 (fun vals h' => ∀ a1 w1, FitsD ds n (setMany n (keepS ann.lp.ks ρ) ann.lp.vs vals) a1 → w1.heap = h' → Kept w w1 → (∀ t, writesC c t = false → a1.tmps[t]? = a.tmps[t]?) →
        HeadIn (WR ro) m P c (liftD ds n w a (writesC c) Q') a1 w1) (alTs_of fun vals h' hcw a1 w1 hf1 hw1 hk1 hp1 => ?_) a w hf0 rfl (.refl _) (fun _ _ => rfl)
      subst hw1
      refine HeadIn.round (wpIn_mono (cwY_sound hy c ann.l _ _ a1 w1 hcw hf1) ?_)
      rintro e a2 w2 ⟨e', ρ2, g1, g2, g3, g4, g5⟩
      have hp2 : ∀ t, writesC c t = false → a2.tmps[t]? = a.tmps[t]? := fun t ht => by rw [g4 t ht, hp1 t ht]
      cases e' with
      | normal =>
        have : e = .normal := by cases e <;> simp [exOf] at g1 <;> rfl
        subst this
        have hb2 : FitsD ds n (keepS ann.lp.ks ρ) a2 := hf.keepS (fun t ht => hp2 t (okC_spec ht hok)) g2.dz g2.sz
        obtain ⟨vals2, g6, g7⟩ := g2.setMany hb2 g5
        exact g6 a2 w2 g7 rfl (hk1.trans g3) hp2
      | exit i =>
        have : e = .exit i := by cases e <;> simp [exOf] at g1; rw [g1]
        subst this
        exact ⟨_, _, rfl, g2, hk1.trans g3, hp2, g5⟩
      | ret =>
        have : e = .ret := by cases e <;> simp [exOf] at g1 <;> rfl
        subst this
        exact ⟨_, _, rfl, g2, hk1.trans g3, hp2, g5⟩
    · exact h.elim
  | .exit id, ann, Q, ρ, a, w, H, hf => by
    simp only [cwY] at H
    exact wpIn_exit ⟨_, _, rfl, hf, .refl _, fun _ _ => rfl, H⟩
  | .ret, ann, Q, ρ, a, w, H, hf => by
    simp only [cwY] at H
    exact wpIn_ret ⟨_, _, rfl, hf, .refl _, fun _ _ => rfl, H⟩
  | .scope _, ann, Q, ρ, a, w, H, hf => by simp only [cwY] at H
  | .rangeFunc _ _ _ _, ann, Q, ρ, a, w, H, hf => by simp only [cwY] at H
  | .goto _, ann, Q, ρ, a, w, H, hf => by simp only [cwY] at H
  | .refuse _, ann, Q, ρ, a, w, H, hf => by simp only [cwY] at H
end
end Go.Lift

/- One operation under its guard; a region in the text's order; a region whose order is open. -/
import Derived.Test.YtgdiihffjogdiaaGreatDoorLvH
import Derived.OrdersHeld
set_option linter.unusedSimpArgs false
set_option linter.unusedVariables false
namespace Go.Lift
variable {D : Prop}

theorem CallsD.mono {P : Program} {f : FuncId} {args : Array Value} {h : Hp} {Q Q' : List Value → Hp → Prop} (H : CallsD D P f args h Q) (hq : ∀ vs h', Q vs h' → Q' vs h') : CallsD D P f args h Q' :=
  fun w hw => (H w hw).mono fun _ _ ⟨vs, h1, h2, h3⟩ => ⟨vs, h1, h2, hq _ _ h3⟩
theorem NextOK.mono {P : Program} {K K' : Value → Hp → Prop} (hK : ∀ v h, K v h → K' v h) {nx : Next} {h : Hp} (H : NextOK D P K nx h) : NextOK D P K' nx h := by
  cases nx <;> simp only [NextOK] at H ⊢
  case value v => exact hK _ _ H
  case skip => exact hK _ _ H
  case enter f args => exact H.mono fun _ _ h => hK _ _ h
section
variable {P : Program} {h : Hp}
theorem louW_spec {hs : Hints} {o : Oper} {ρ : Fr} {K : Option Value → Hp → Prop} (H : louW D P hs o ρ h K) (ρ' : Operand → Value) (hρ : ∀ x v, ev ρ x = some v → ρ' x = v) :
    semW P (execOp ρ' o) h (NextOK D P fun v h' => ∃ r, agrees r v ∧ K r h') := by
  obtain ⟨dst, op, type, pos, after, guard⟩ := o
  cases op <;> simp only [louW] at H <;> try exact H.elim
  case alloc t =>
    simp only [execOp]
    rw [semW_bind']
    exact semW_mono _ (fun v h' hK => ⟨_, agrees_some _, hK⟩) _ (alW_sound H)
  case box t x =>
    obtain ⟨v, h1, H⟩ := e1_some H
    simp only [execOp, hρ _ _ h1, Instr.box]
    exact ⟨_, agrees_some _, H⟩
  case buildSlice t n ps =>
    unfold eP at H
    split at H
    · rename_i vs hvs
      have h3 := evP_eq hρ _ _ hvs
      simp only [execOp]
      rw [semW_bind']
      have e : (ps.map fun x => (x.1, ρ' x.2)).toList = vs := by rw [Array.toList_map, h3]
      refine semW_mono _ (fun v h' hK => ⟨_, agrees_some _, hK⟩) _ (bsW_sound (K := fun v h' => K (some v) h') ?_)
      rw [e]; exact H
    · exact H.elim
  case store t a x =>
    obtain ⟨p, h1, H⟩ := e1_some H
    obtain ⟨ad, rfl, H⟩ := adW_some H
    obtain ⟨v, h2, H⟩ := e1_some H
    simp only [execOp, hρ _ _ h1, hρ _ _ h2, Instr.storeAt, Instr.sureAddr, semW_bind', semW_pure]
    exact stW_sound H fun h' hK => ⟨none, (fun _ hu => by cases hu), hK⟩
  case slice t x lo hi mx =>
    cases lo with
    | none => exact H.elim
    | some l =>
      cases hi with
      | none => exact H.elim
      | some u =>
        cases mx with
        | none => exact H.elim
        | some m =>
          obtain ⟨v, h1, H⟩ := e1_some H
          obtain ⟨lv, h2, H⟩ := e1_some H
          obtain ⟨uv, h3, H⟩ := e1_some H
          obtain ⟨mv, h4, H⟩ := e1_some H
          simp only [execOp, Option.map_some, hρ _ _ h1, hρ _ _ h2, hρ _ _ h3, hρ _ _ h4]
          rw [semW_bind']
          exact semW_mono _ (fun v h' hK => ⟨_, agrees_some _, hK⟩) _ (semW_of_semR _ (sl3W_sound (K' := fun v h' => K (some v) h') H fun v hv => hv))
  case convert s d x =>
    obtain ⟨v, h1, H⟩ := e1_some H
    simp only [execOp, hρ _ _ h1]
    rw [semW_bind']
    exact semW_mono _ (fun v h' hK => ⟨_, agrees_some _, hK⟩) _ (s2bW_sound (K := fun v h' => K (some v) h') H)
  case makeMap t r =>
    split at H
    · rename_i kt et ht hr
      simp only [execOp]
      rw [semW_bind']
      unfold Instr.makeMap
      cases r with
      | none => exact ⟨_, agrees_some _, H⟩
      | some r =>
        unfold mkMapOk at hr
        split at hr
        · rename_i heq; cases heq
        · rename_i k i heq
          cases heq
          have := hρ (.const (.int k i)) _ rfl
          simp only [Option.map_some, this, semW_bind', semW_underlying]
          exact ⟨_, ht, _, agrees_some _, H⟩
        · cases hr
    · exact H.elim
  case makeSlice t l c =>
    obtain ⟨lv, h1, H⟩ := e1_some H
    obtain ⟨cv, h2, H⟩ := e1_some H
    simp only [execOp, hρ _ _ h1, hρ _ _ h2]
    rw [semW_bind']
    exact semW_mono _ (fun v h' hK => ⟨_, agrees_some _, hK⟩) _ (mkW_sound (K := fun v h' => K (some v) h') H)
  case mapUpdate t m k x =>
    obtain ⟨mv, h1, H⟩ := e1_some H
    obtain ⟨kv, h2, H⟩ := e1_some H
    obtain ⟨xv, h3, H⟩ := e1_some H
    simp only [execOp, hρ _ _ h1, hρ _ _ h2, hρ _ _ h3]
    rw [semW_bind']
    exact mupW_sound H fun h' hK => ⟨none, (fun _ hu => by cases hu), hK⟩
  case insert t m k x =>
    obtain ⟨mv, h1, H⟩ := e1_some H
    obtain ⟨kv, h2, H⟩ := e1_some H
    obtain ⟨xv, h3, H⟩ := e1_some H
    simp only [execOp, hρ _ _ h1, hρ _ _ h2, hρ _ _ h3]
    rw [semW_bind']
    exact mupW_sound H fun h' hK => ⟨none, (fun _ hu => by cases hu), hK⟩
  case mapEntry t m k =>
    obtain ⟨mv, h1, H⟩ := e1_some H
    obtain ⟨kv, h2, H⟩ := e1_some H
    simp only [execOp, hρ _ _ h1, hρ _ _ h2]
    rw [semW_bind']
    exact semW_mono _ (fun v h' hK => ⟨_, agrees_some _, hK⟩) _ (mentW_sound (K := fun v h' => K (some v) h') H)
  case entryStore t m s x =>
    obtain ⟨mv, h1, H⟩ := e1_some H
    obtain ⟨sv, h2, H⟩ := e1_some H
    obtain ⟨xv, h3, H⟩ := e1_some H
    simp only [execOp, hρ _ _ h1, hρ _ _ h2, hρ _ _ h3]
    rw [semW_bind']
    exact mstoW_sound H fun h' hK => ⟨none, (fun _ hu => by cases hu), hK⟩
  case range t x =>
    obtain ⟨v, h1, H⟩ := e1_some H
    simp only [execOp, hρ _ _ h1]
    rw [semW_bind']
    exact semW_mono _ (fun v h' hK => ⟨_, agrees_some _, hK⟩) _ (rangeW_sound (K := fun v h' => K (some v) h') H)
  case next it isS =>
    cases isS with
    | true => exact H.elim
    | false =>
      obtain ⟨p, h1, H⟩ := e1_some H
      obtain ⟨ad, rfl, H⟩ := adW_some H
      simp only [execOp, hρ _ _ h1]
      rw [semW_bind']
      exact semW_mono _ (fun v h' hK => ⟨_, agrees_some _, hK⟩) _ (nextW_sound (K := fun v h' => K (some v) h') H)
  case entry it =>
    obtain ⟨p, h1, H1⟩ := e1_some H
    obtain ⟨ad, rfl, H2⟩ := adW_some H1
    simp only [execOp, hρ _ _ h1]
    rw [semW_bind']
    exact entryW_sound H2 fun v hK => ⟨_, agrees_some _, hK⟩
  case call c =>
    obtain ⟨callee, args, ts⟩ := c
    cases callee <;> simp only [louW] at H <;> try exact H.elim
    case value f =>
      obtain ⟨fv, h1, H⟩ := e1_some H
      obtain ⟨as, h2, H⟩ := eL_some H
      have h3 := evL_eq hρ _ _ h2
      have e1 : args.map ρ' = as.toArray := by rw [← h3, ← Array.toList_map]
      unfold fnW at H
      split at H
      · rename_i i first caps
        simp only [execOp, resolve, e1, hρ _ _ h1, Deferred.ofValue, semW_bind', semW_pure, invoke]
        refine semW_mono _ (fun nx h' hn => hn.mono ?_) _ H
        rintro v h'' ⟨vs, rfl, hq⟩
        obtain ⟨us, rfl, hK⟩ := exTs_ex hq
        exact ⟨_, agrees_some _, hK⟩
      · exact H.elim
    case builtin b =>
      obtain ⟨as, h2, H1⟩ := eL_some H
      clear H
      have H := H1
      clear H1
      have h3 := evL_eq hρ _ _ h2
      have e1 : args.map ρ' = as.toArray := by rw [← h3, ← Array.toList_map]
      simp only [execOp, resolve, e1, semW_bind', semW_pure, invoke]
      unfold loB at H
      split at H
      · rename_i s x t u hts
        have ets : ts = #[t, u] := by rw [← hts]
        subst ets
        split at H
        · rename_i k2 hk2
          simp only [builtin]
          rw [semW_bind']
          exact semW_mono _ (fun v h' hK => ⟨_, agrees_some _, hK⟩) _ (appendZ_sound (K := fun v h' => K (some v) h') hk2 H)
        · rename_i d hnd hd
          simp only [builtin]
          rw [semW_bind']
          unfold appW at H
          split at H
          · rename_i e a n c ht
            split at H
            · rename_i i z hi hz
              split at H
              · rename_i b' m cc
                obtain ⟨new, g1, g2⟩ := H
                exact semW_mono _ (fun v h' hK => ⟨_, agrees_some _, hK⟩) _ (append_sound (P := P) (s := ⟨a, n, c⟩) (x := .slice b' m cc) (m := m) (new := new) (K := fun v h' => K (some v) h') ht hi hz ⟨d, hd, fun k e => hnd k (by rw [← e])⟩
                  (fun K hK => hK) (fun K hK => firstCells_sound g1 _ hK) g2)
              · rename_i s'
                obtain ⟨g0, g2⟩ := H
                exact semW_mono _ (fun v h' hK => ⟨_, agrees_some _, hK⟩) _ (append_sound (P := P) (s := ⟨a, n, c⟩) (x := .string s') (m := s'.size) (new := strCells s') (K := fun v h' => K (some v) h') ht hi hz ⟨d, hd, fun k e => hnd k (by rw [← e])⟩
                  (fun K hK => hK) (fun K hK => by
                    simp only [Builtin.firstCells, semW_pure]
                    have e : ((s'.extract 0 s'.size).data.map fun b => Value.int .u8 (b.toNat : Int)) = (strCells s').toArray := by
                      rw [strCells, ← Array.toList_map]
                      have : s'.extract 0 s'.size = s' := by simp
                      rw [this]
                    rw [e]; exact hK) g2)
              · exact H.elim
            · exact H.elim
          · exact H.elim
        · exact H.elim
      · rename_i d s t l hts
        simp only [builtin]
        rw [semW_bind']
        exact semW_mono _ (fun v h' hK => ⟨_, agrees_some _, hK⟩) _ (copyW_sound (u := 0) (K := fun v h' => K (some v) h') hts H)
      · rename_i m k t l hts
        simp only [builtin]
        rw [semW_bind']
        have hts0 : ts[0]? = some t := by rw [← Array.getElem?_toList, hts]; rfl
        exact delW_sound hts0 H fun h' hK => ⟨_, agrees_some _, hK⟩
      · rename_i s t l hts
        simp only [builtin]
        rw [semW_bind']
        exact clearW_sound hts H fun h' hK => ⟨_, agrees_some _, hK⟩
      · exact H.elim

def opW (D : Prop) (P : Program) (hs : Hints) (o : Oper) (ρ : Fr) (h : Hp) (K : Option Value → Hp → Prop) : Prop :=
  match isQuiet P o.op with
  | true => quW P o ρ h fun r _ => K r h
  | false => louW D P hs o ρ h K
theorem opW_spec {hs : Hints} {o : Oper} {ρ : Fr} {K : Option Value → Hp → Prop} (H : opW D P hs o ρ h K) (ρ' : Operand → Value) (hρ : ∀ x v, ev ρ x = some v → ρ' x = v) :
    semW P (execOp ρ' o) h (NextOK D P fun v h' => ∃ r, agrees r v ∧ K r h') := by
  unfold opW at H
  split at H
  · obtain ⟨r, fs, v, h1, h2, h3, h4⟩ := quW_spec H ρ' hρ
    refine semW_of_semR _ ?_
    refine semR_mono _ _ (fun nx hn => ?_) (h4 h h2)
    subst hn
    exact ⟨r, h3, h1⟩
  · exact louW_spec H ρ' hρ
end

/-! ### frames -/
structure Fits (n : Nat) (ρ : Fr) (a : Act) : Prop where
  dz : a.defers = []
  sz : a.tmps.size = n
  kn : ∀ t v, ρ t = some v → a.tmps[t]? = some v
def upd (n : Nat) (ρ : Fr) (d : Option Tmp) (r : Option Value) : Fr :=
  match d with
  | none => ρ
  | some d => fun t => bif Nat.beq t d then (bif Nat.blt d n then r else none) else ρ t
def setb (ρ : Fr) (s : Nat) (b : Bool) : Fr := fun t => bif Nat.beq t s then some (.bool b) else ρ t
theorem Fits.ev {n : Nat} {ρ : Fr} {a : Act} (hf : Fits n ρ a) (x : Operand) (v : Value) (h : ev ρ x = some v) : a.eval x = v := by
  cases x <;> simp only [Lift.ev, Option.some.injEq] at h
  case tmp t => have := hf.kn t v h; simp [Act.eval, this]
  all_goals (subst h; rfl)
theorem Fits.put {n : Nat} {ρ : Fr} {a : Act} (hf : Fits n ρ a) {r : Option Value} {v : Value} (hr : agrees r v) (d : Option Tmp) : Fits n (upd n ρ d r) (a.put d v) := by
  cases d with
  | none => exact hf
  | some d =>
    refine ⟨hf.dz, by simp [Act.put, hf.sz], fun t u hu => ?_⟩
    simp only [upd, cond_eq_ite, Nat.beq_eq, Nat.blt_eq] at hu
    simp only [Act.put]
    by_cases e : t = d
    · subst e
      simp only [if_true] at hu
      split at hu
      · rename_i hlt
        rw [Array.getElem?_setIfInBounds_self_of_lt (by rw [hf.sz]; exact hlt), hr u hu]
      · cases hu
    · simp only [e, if_false] at hu
      rw [Array.getElem?_setIfInBounds_ne (Ne.symm e)]
      exact hf.kn t u hu
theorem Fits.setb {n : Nat} {ρ : Fr} {a : Act} (hf : Fits n ρ a) {s : Nat} {b : Bool} (h : ρ s = some (.bool b)) : Fits n (setb ρ s b) a := by
  refine ⟨hf.dz, hf.sz, fun t u hu => ?_⟩
  simp only [Lift.setb, cond_eq_ite, Nat.beq_eq] at hu
  split at hu
  · rename_i e; subst e; rw [← hu]; exact hf.kn t _ h
  · exact hf.kn t u hu
theorem put_other {a : Act} {d : Option Tmp} {v : Value} {t : Nat} (h : d ≠ some t) : (a.put d v).tmps[t]? = a.tmps[t]? := by
  cases d with
  | none => rfl
  | some d => exact Array.getElem?_setIfInBounds_ne (fun e => h (by rw [e]))

def gslot (ops : Array Oper) (j : Nat) : Option Tmp := (ops[j]?).bind (·.dst)
/-- One operation, under its guard. -/
def stepW (D : Prop) (P : Program) (n : Nat) (hs : Hints) (ops : Array Oper) (o : Oper) (ρ : Fr) (h : Hp) (K : Fr → Hp → Prop) : Prop :=
  match o.guard with
  | none => opW D P hs o ρ h fun r h' => K (upd n ρ o.dst r) h'
  | some (j, want) => match gslot ops j with
    | some s => match ρ s with
      | some (.bool b) =>
        if b then (match want with | true => opW D P hs o (setb ρ s true) h fun r h' => K (upd n (setb ρ s true) o.dst r) h' | false => K (upd n (setb ρ s true) o.dst (some undef)) h)
        else (match want with | false => opW D P hs o (setb ρ s false) h fun r h' => K (upd n (setb ρ s false) o.dst r) h' | true => K (upd n (setb ρ s false) o.dst (some undef)) h)
      | some (.tuple _) => K (upd n ρ o.dst (some undef)) h
      | _ => False
    | none => False
def rW (D : Prop) (P : Program) (n : Nat) (hs : Hints) (ops : Array Oper) : List Oper → Fr → Hp → (Fr → Hp → Prop) → Prop
  | [], ρ, h, K => K ρ h
  | o :: os, ρ, h, K => stepW D P n hs ops o ρ h fun ρ' h' => rW D P n hs ops os ρ' h' K

section
variable {P : Program} {n : Nat} {hs : Hints} {ops : Array Oper} {Q : Exit → Act → World → Prop}
theorem yielded_of {ρ : Fr} {a : Act} (hf : Fits n ρ a) {j s : Nat} {b : Bool} (hs : gslot ops j = some s) (hb : ρ s = some (.bool b)) : yielded ops a.tmps j = some b := by
  unfold yielded
  unfold gslot at hs
  have := hf.kn s _ hb
  rw [hs]
  simp only [Option.bind_some]
  rw [this]
theorem yielded_none {ρ : Fr} {a : Act} (hf : Fits n ρ a) {j s : Nat} {vs : Array Value} (hs : gslot ops j = some s) (hb : ρ s = some (.tuple vs)) : yielded ops a.tmps j = none := by
  unfold yielded
  unfold gslot at hs
  have := hf.kn s _ hb
  rw [hs]
  simp only [Option.bind_some]
  rw [this]
theorem opW_wp {o : Oper} {ρ : Fr} {a : Act} {w : World} {K : Option Value → Hp → Prop} (H : opW D P hs o ρ w.heap K) (hf : Fits n ρ a) {K' : Act → World → Prop}
    (hK : ∀ r v w', agrees r v → K r w'.heap → KeptD D w w' → K' (a.put o.dst v) w') : o.wp P a w K' Q := by
  obtain ⟨nx, w', h1, h2, h3⟩ := semW_run _ w _ (opW_spec H a.eval (fun x v hx => hf.ev x v hx))
  unfold Oper.wp
  rw [h1]
  cases nx <;> simp only [NextOK] at h2 <;> simp only [Oper.upon]
  case value v => obtain ⟨r, h4, h5⟩ := h2; exact hK r v w' h4 h5 h3
  case skip => obtain ⟨r, h4, h5⟩ := h2; exact hK r undef w' h4 h5 h3
  case enter f args =>
    refine (h2 w' rfl).mono ?_
    rintro e w'' ⟨vs, rfl, h4, r, h5, h6⟩
    exact hK r _ w'' h5 h6 (h3.trans h4)
theorem stepW_wp {i : Nat} {o : Oper} (ho : ops[i]? = some o) {ρ : Fr} {a : Act} {w : World} {K : Fr → Hp → Prop} (H : stepW D P n hs ops o ρ w.heap K) (hf : Fits n ρ a) {K' : Act → World → Prop}
    (hK : ∀ ρ' a' w', Fits n ρ' a' → K ρ' w'.heap → KeptD D w w' → (∀ t, o.dst ≠ some t → a'.tmps[t]? = a.tmps[t]?) → K' a' w') : wpOp P ops Q i K' a w := by
  unfold wpOp
  simp only [ho]
  unfold stepW at H
  cases hg : o.guard with
  | none =>
    rw [hg] at H
    have hw : Region.wanted o (yielded ops a.tmps) = true := by simp [Region.wanted, hg]
    rw [if_pos hw]
    exact .inl (opW_wp H hf fun r v w' h1 h2 h3 => hK _ _ _ (hf.put h1 _) h2 h3 fun t ht => put_other ht)
  | some jw =>
    obtain ⟨j, want⟩ := jw
    rw [hg] at H
    simp only at H
    cases hsl : gslot ops j with
    | none => rw [hsl] at H; exact H.elim
    | some s =>
      rw [hsl] at H
      simp only at H
      split at H
      · rename_i b hb
        have hy := yielded_of hf hsl hb
        have hw : Region.wanted o (yielded ops a.tmps) = decide (b = want) := by
          simp only [Region.wanted, hg, hy]
          cases b <;> cases want <;> rfl
        rw [hw]
        have hf' := hf.setb hb
        cases b <;> cases want <;> simp only [Bool.false_eq_true, if_false, if_true, decide_true, decide_false, reduceCtorEq, Bool.true_eq_false] at H ⊢
        · exact .inl (opW_wp H hf' fun r v w' h1 h2 h3 => hK _ _ _ (hf'.put h1 _) h2 h3 fun t ht => put_other ht)
        · exact hK _ _ _ (hf'.put (agrees_some _) _) H (.refl _) fun t ht => put_other ht
        · exact hK _ _ _ (hf'.put (agrees_some _) _) H (.refl _) fun t ht => put_other ht
        · exact .inl (opW_wp H hf' fun r v w' h1 h2 h3 => hK _ _ _ (hf'.put h1 _) h2 h3 fun t ht => put_other ht)
      · rename_i vs hb
        have hy := yielded_none hf hsl hb
        have hw : Region.wanted o (yielded ops a.tmps) = false := by
          simp only [Region.wanted, hg, hy]
          cases want <;> rfl
        rw [hw]
        simp only [Bool.false_eq_true, if_false]
        exact hK _ _ _ (hf.put (agrees_some _) _) H (.refl _) fun t ht => put_other ht
      · exact H.elim
def writesO (ops : List Oper) (t : Nat) : Bool := ops.any fun o => o.dst == some t
theorem rW_wp : ∀ (is : List Nat) (os : List Oper), is.length = os.length → (∀ (k : Nat) (i : Nat), is[k]? = some i → ops[i]? = os[k]?) → ∀ {ρ : Fr} {a : Act} {w : World} {K : Fr → Hp → Prop}, rW D P n hs ops os ρ w.heap K → Fits n ρ a →
    (∀ ρ' a' w', Fits n ρ' a' → K ρ' w'.heap → KeptD D w w' → (∀ t, writesO os t = false → a'.tmps[t]? = a.tmps[t]?) → Q .normal a' w') → wpOps P ops Q is a w
  | [], [], _, _, ρ, a, w, K, H, hf, hQ => hQ ρ a w hf H (.refl _) fun _ _ => rfl
  | [], _ :: _, hl, _, _, _, _, _, _, _, _ => by simp at hl
  | _ :: _, [], hl, _, _, _, _, _, _, _, _ => by simp at hl
  | i :: is, o :: os, hl, hi, ρ, a, w, K, H, hf, hQ => by
    rw [wpOps_cons]
    have ho : ops[i]? = some o := by simpa using hi 0 i (by simp)
    refine stepW_wp ho H hf fun ρ' a' w' h1 h2 h3 h4 => ?_
    refine rW_wp is os (by simpa using hl) (fun k j hk => by simpa using hi (k + 1) j (by simpa using hk)) h2 h1 fun ρ'' a'' w'' g1 g2 g3 g4 => ?_
    refine hQ ρ'' a'' w'' g1 g2 (h3.trans g3) fun t ht => ?_
    simp only [writesO, List.any_cons, Bool.or_eq_false_iff, beq_eq_false_iff_ne] at ht
    rw [g4 t ht.2, h4 t ht.1]
theorem rW_region {id : Nat} {ρ : Fr} {a : Act} {w : World} {K : Fr → Hp → Prop} (H : rW D P n hs ops ops.toList ρ w.heap K) (hf : Fits n ρ a)
    (hQ : ∀ ρ' a' w', Fits n ρ' a' → K ρ' w'.heap → KeptD D w w' → (∀ t, writesO ops.toList t = false → a'.tmps[t]? = a.tmps[t]?) → Q .normal a' w') : (Code.region id ops false).wp P Q a w := by
  refine wp_region (rW_wp (List.range ops.size) ops.toList (by simp) (fun k i hk => ?_) H hf hQ)
  rw [List.getElem?_range] at hk
  · simp at hk
    subst hk
    simp
  · rcases Nat.lt_or_ge k ops.size with h | h
    · exact h
    · rw [List.getElem?_eq_none (by simpa using h)] at hk; cases hk
end
end Go.Lift

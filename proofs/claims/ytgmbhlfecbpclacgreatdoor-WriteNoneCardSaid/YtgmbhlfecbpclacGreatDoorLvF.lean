/- One operation: the quiet ones (they yield a value and leave the heap) and the loud ones; soundness. -/
import Derived.Test.YtgmbhlfecbpclacGreatDoorLvE
set_option linter.unusedSimpArgs false
set_option linter.unusedVariables false
namespace Go.Lift
section
variable {P : Program} {h : Hp}

theorem exC_imp {t : CT} {f g : Value → Prop} (H : exC t f) (hf : ∀ v, f v → g v) : ∃ v, g v := by
  obtain ⟨v, hv⟩ := exC_ex H; exact ⟨v, hf v hv⟩

/-! ### facts of a load, to be shown anew where the order is open -/
def ldLF (h : Hp) (a : Addr) : Nat → List CT → (List Value → List (Hp → Prop) → Prop) → Prop
  | _, [], K => K [] []
  | i, t :: ts, K => exC t fun v => rd h (a.add i) = some v ∧ ldLF h a (i + 1) ts fun vs fs => K (v :: vs) ((fun h' => rd h' (a.add i) = some v) :: fs)
def ldF (P : Program) (t : TypeId) (a : Addr) (h : Hp) (K : Value → List (Hp → Prop) → Prop) : Prop :=
  match lay P t with
  | some (.c ct) => exC ct fun v => rd h a = some v ∧ K v [fun h' => rd h' a = some v]
  | some (.agg ts) => ldLF h a 0 ts fun vs fs => K (.agg vs.toArray) fs
  | none => False
def allF (fs : List (Hp → Prop)) (h : Hp) : Prop := ∀ f ∈ fs, f h
theorem allF_nil : allF [] h := fun f hf => by simp at hf
theorem allF_cons {f : Hp → Prop} {fs : List (Hp → Prop)} {h : Hp} : allF (f :: fs) h ↔ f h ∧ allF fs h := by simp [allF]
theorem allF_one {f : Hp → Prop} {h : Hp} : allF [f] h ↔ f h := by simp [allF]
theorem allF_append {fs gs : List (Hp → Prop)} {h : Hp} : allF (fs ++ gs) h ↔ allF fs h ∧ allF gs h := by
  simp only [allF, List.mem_append]
  exact ⟨fun H => ⟨fun f hf => H f (.inl hf), fun f hf => H f (.inr hf)⟩, fun H f hf => hf.elim (H.1 f) (H.2 f)⟩
theorem ldLF_spec (a : Addr) (ts : List CT) : ∀ (i : Nat) (K : List Value → List (Hp → Prop) → Prop), ldLF h a i ts K →
    ∃ vs fs, K vs fs ∧ allF fs h ∧ ∀ h', allF fs h' → ∀ (acc : Array Value) (K' : Array Value → Hp → Prop), K' (acc ++ vs.toArray) h' → semR P (loadCellsFrom a i ts.length acc) h' K' := by
  induction ts with
  | nil => intro i K H; exact ⟨[], [], H, fun f hf => by simp at hf, fun h' _ acc K' hK => by simp at hK; exact hK⟩
  | cons t ts ih =>
    intro i K H
    obtain ⟨v, h1, h2⟩ := exC_ex H
    obtain ⟨vs, fs, h3, h4, h5⟩ := ih (i + 1) _ h2
    refine ⟨_, _, h3, allF_cons.2 ⟨h1, h4⟩, fun h' hf acc K' hK => ?_⟩
    · simp only [List.length_cons, loadCellsFrom, semR_bind']
      refine ⟨v, (allF_cons.1 hf).1, h5 h' (allF_cons.1 hf).2 (acc.push v) K' ?_⟩
      simpa using hK
theorem ldF_spec {t : TypeId} {a : Addr} {K : Value → List (Hp → Prop) → Prop} (H : ldF P t a h K) :
    ∃ v fs, K v fs ∧ allF fs h ∧ ∀ h', allF fs h' → ∀ (K' : Value → Hp → Prop), K' v h' → semR P (loadVar t a) h' K' := by
  unfold ldF at H
  cases hl : lay P t with
  | none => rw [hl] at H; exact H.elim
  | some ty =>
    obtain ⟨d, z, n, h1, h2, h3, h4, h5, h6⟩ := lay_spec hl
    rw [hl] at H
    cases hz : isAggV z with
    | true =>
      cases z <;> simp only [isAggV, Bool.false_eq_true] at hz
      rename_i cs
      simp only [tyOf] at h6
      subst h6
      obtain ⟨vs, fs, g1, g2, g3⟩ := ldLF_spec (P := P) a _ 0 _ H
      refine ⟨_, fs, g1, g2, fun h' hf K' hK => ?_⟩
      unfold loadVar
      simp only [semR_bind', semR_isAgg]
      refine ⟨d, h1, ?_⟩
      simp only [h4, isAggV, if_true, semR_bind', semR_sizeOf, semR_pure]
      refine ⟨n, h3, ?_⟩
      have : n = (cs.toList.map ctOf).length := by simpa [Value.cells] using h5.symm
      rw [this]
      exact g3 h' hf #[] _ (by simpa using hK)
    | false =>
      have : ∃ ct, ty = .c ct := by cases z <;> simp [isAggV] at hz <;> exact ⟨_, h6⟩
      obtain ⟨ct, rfl⟩ := this
      obtain ⟨v, g1, g2⟩ := exC_ex H
      refine ⟨v, _, g2, allF_one.2 g1, fun h' hf K' hK => ?_⟩
      unfold loadVar
      simp only [semR_bind', semR_isAgg]
      refine ⟨d, h1, ?_⟩
      simp only [h4, hz, Bool.false_eq_true, if_false]
      exact ⟨v, (allF_one.1 hf), hK⟩

def lookF (P : Program) (t : TypeId) (m k : Value) (ok : Bool) (h : Hp) (K : Value → List (Hp → Prop) → Prop) : Prop :=
  match P.underlying t, m with
  | some (.map kt et), .map r => match P.underlying kt, zeroOf P et with
    | some _, some z => match kindKT P kt k with
      | true => ∃ es, mapAt h r es ∧ KeysLike k es ∧ exF (tyOf z) fun v => mgetD k es z = v ∧ K (lkV ok v (mhas k es)) [fun h' => ∃ es', mapAt h' r es' ∧ KeysLike k es' ∧ lkV ok (mgetD k es' z) (mhas k es') = lkV ok v (mhas k es)]
      | false => False
    | _, _ => False
  | _, _ => False
theorem lookF_spec {t : TypeId} {m k : Value} {ok : Bool} {K : Value → List (Hp → Prop) → Prop} (H : lookF P t m k ok h K) :
    ∃ v fs, K v fs ∧ allF fs h ∧ ∀ h', allF fs h' → ∀ (K' : Value → Hp → Prop), K' v h' → semR P (Instr.lookup t m k ok) h' K' := by
  unfold lookF at H
  split at H
  · rename_i kt et r ht
    split at H
    · rename_i kd z hkt hz
      split at H
      · rename_i hk
        obtain ⟨es, h1, h2, h3⟩ := H
        obtain ⟨v, h4, h5⟩ := exF_ex h3
        refine ⟨_, _, h5, allF_one.2 ⟨es, h1, h2, by rw [h4]⟩, fun h' hf K' hK => ?_⟩
        obtain ⟨es', h1', h2', h3'⟩ := allF_one.1 hf
        have hmg : mgetD k es' z = v := by
          unfold lkV at h3'
          split at h3'
          · simp at h3'; exact h3'.1
          · exact h3'
        refine lookW_sound (h := h') (K := fun u => u = lkV ok v (mhas k es)) ?_ (fun u hu => by subst hu; exact hK)
        unfold lookW
        simp only [ht, hkt, hz, hk]
        refine ⟨es', h1', h2', ?_⟩
        clear h5 hK hf
        generalize tyOf z = ty at h3 ⊢
        rw [hmg]
        refine exF_mono h3 fun u hu => ⟨by rw [← h4, hu.1], ?_⟩
        have : v = u := by rw [← h4, hu.1]
        rw [← this, ← h3', hmg]
      · exact H.elim
    · exact H.elim
  · exact H.elim

/-! ### lengths, conversions, small builtins -/
def lenF (P : Program) (t : TypeId) (x : Value) (h : Hp) (K : Value → List (Hp → Prop) → Prop) : Prop :=
  match P.underlying t, x with
  | some .string, .string s => K (.int .i64 s.size) []
  | some (.slice _), .slice _ n _ => K (.int .i64 n) []
  | some (.array n _), _ => K (.int .i64 n) []
  | some (.map _ _), .map r => ∃ es, mapAt h r es ∧ K (.int .i64 es.size) [fun h' => mapAt h' r es]
  | _, _ => False
theorem lenF_spec {t ty : TypeId} {ts : Array TypeId} (hts : ts[0]? = some t) {x : Value} {K : Value → List (Hp → Prop) → Prop} (H : lenF P t x h K) :
    ∃ v fs, K v fs ∧ allF fs h ∧ ∀ h', allF fs h' → ∀ (K' : Value → Hp → Prop), K' v h' → semR P (Builtin.len_ ts ty #[x]) h' K' := by
  unfold lenF at H
  unfold Builtin.len_
  simp only [hts, List.getElem?_toArray, List.getElem?_cons_zero]
  split at H
  · rename_i s ht
    refine ⟨_, _, H, allF_nil, fun h' _ K' hK => ?_⟩
    simp only [semR_bind', semR_underlying]
    exact ⟨_, ht, hK⟩
  · rename_i e a n c ht
    refine ⟨_, _, H, allF_nil, fun h' _ K' hK => ?_⟩
    simp only [semR_bind', semR_underlying]
    exact ⟨_, ht, hK⟩
  · rename_i n e ht
    refine ⟨_, _, H, allF_nil, fun h' _ K' hK => ?_⟩
    simp only [semR_bind', semR_underlying]
    exact ⟨_, ht, hK⟩
  · rename_i k e r ht
    obtain ⟨es, h1, h2⟩ := H
    refine ⟨_, _, h2, allF_one.2 h1, fun h' hf K' hK => ?_⟩
    have h1' : mapAt h' r es := (allF_one.1 hf)
    simp only [semR_bind', semR_underlying]
    refine ⟨_, ht, ?_⟩
    rcases h1' with ⟨rfl, rfl⟩ | ⟨b, clock, rfl, h1'⟩
    · exact hK
    · simp only [semR_bind', semR_getObj]
      exact ⟨_, h1', rfl, hK⟩
  · exact H.elim
def capV (P : Program) (t : TypeId) (x : Value) (K : Value → Prop) : Prop :=
  match P.underlying t, x with
  | some (.slice _), .slice _ _ c => K (.int .i64 c)
  | _, _ => False
theorem capV_sound {t ty : TypeId} {ts : Array TypeId} (hts : ts[0]? = some t) {x : Value} {K : Value → Prop} {K' : Value → Hp → Prop} (H : capV P t x K) (HK : ∀ v, K v → K' v h) : semR P (Builtin.cap_ ts ty #[x]) h K' := by
  unfold capV at H
  unfold Builtin.cap_
  simp only [hts, List.getElem?_toArray, List.getElem?_cons_zero]
  split at H
  · rename_i e a n c ht
    simp only [semR_bind', semR_underlying]
    exact ⟨_, ht, HK _ H⟩
  · exact H.elim
def mnI (x y : Int) : Int := if y < x then y else x
def mxI (x y : Int) : Int := if y > x then y else x
def minV (x y : Value) (K : Value → Prop) : Prop := match x, y with | .int k a, .int _ b => K (.int k (mnI a b)) | _, _ => False
def maxV (x y : Value) (K : Value → Prop) : Prop := match x, y with | .int k a, .int _ b => K (.int k (mxI a b)) | _, _ => False
theorem minV_sound {ts : Array TypeId} {ty : TypeId} {x y : Value} {K : Value → Prop} {K' : Value → Hp → Prop} (H : minV x y K) (HK : ∀ v, K v → K' v h) : semR P (Builtin.min_ ts ty #[x, y]) h K' := by
  unfold minV at H
  split at H
  · exact HK _ H
  · exact H.elim
theorem maxV_sound {ts : Array TypeId} {ty : TypeId} {x y : Value} {K : Value → Prop} {K' : Value → Hp → Prop} (H : maxV x y K) (HK : ∀ v, K v → K' v h) : semR P (Builtin.max_ ts ty #[x, y]) h K' := by
  unfold maxV at H
  split at H
  · exact HK _ H
  · exact H.elim

/-- Of three. -/
def min3V (x y z : Value) (K : Value → Prop) : Prop := match x, y, z with | .int k a, .int _ b, .int _ c => K (.int k (mnI (mnI a b) c)) | _, _, _ => False
def max3V (x y z : Value) (K : Value → Prop) : Prop := match x, y, z with | .int k a, .int _ b, .int _ c => K (.int k (mxI (mxI a b) c)) | _, _, _ => False
theorem min3V_sound {ts : Array TypeId} {ty : TypeId} {x y z : Value} {K : Value → Prop} {K' : Value → Hp → Prop} (H : min3V x y z K) (HK : ∀ v, K v → K' v h) : semR P (Builtin.min_ ts ty #[x, y, z]) h K' := by
  unfold min3V at H
  split at H
  · exact HK _ H
  · exact H.elim
theorem max3V_sound {ts : Array TypeId} {ty : TypeId} {x y z : Value} {K : Value → Prop} {K' : Value → Hp → Prop} (H : max3V x y z K) (HK : ∀ v, K v → K' v h) : semR P (Builtin.max_ ts ty #[x, y, z]) h K' := by
  unfold max3V at H
  split at H
  · exact HK _ H
  · exact H.elim

def bytesAt (h : Hp) (a : Option Addr) (n : Nat) (s : ByteArray) : Prop :=
  match a with
  | none => s = ByteArray.empty
  | some a => s.size = n ∧ ∀ i, i < n → rd h (a.add i) = some (.int .u8 ((s.data.toList.getD i 0).toNat : Int))
def cvF (P : Program) (src dst : TypeId) (x : Value) (h : Hp) (K : Value → List (Hp → Prop) → Prop) : Prop :=
  match P.underlying src, P.underlying dst, x with
  | some _, some (.int k), .int _ n => K (.int k (k.wrap n)) []
  | some _, some .string, .string s => K (.string s) []
  | some (.slice e), some .string, .slice a n _ => match P.underlying e with
    | some (.int .u8) => ∃ s, bytesAt h a n s ∧ K (.string s) [fun h' => bytesAt h' a n s]
    | _ => False
  | _, _, _ => False
theorem pushAll_sound : ∀ (cs : List UInt8) (acc : ByteArray) (K' : ByteArray → Hp → Prop), K' ⟨acc.data ++ cs.toArray⟩ h →
    semR P (forIn (cs.map fun c => Value.int .u8 (c.toNat : Int)) acc (fun c (r : ByteArray) => do
      let .int .u8 n := c | stuck "bytesToString: byte expected"
      pure PUnit.unit
      pure (ForInStep.yield (r.push (UInt8.ofNat n.toNat))))) h K'
  | [], acc, K', H => by simp at H; simp only [List.map_nil, List.forIn_nil]; exact H
  | c :: cs, acc, K', H => by
    simp only [List.map_cons, List.forIn_cons, semR_bind', semR_pure]
    refine pushAll_sound cs _ K' ?_
    have : UInt8.ofNat (Int.toNat (c.toNat : Int)) = c := by simp
    rw [this]
    simpa [ByteArray.push] using H
theorem bytesAt_loads {a : Addr} {n : Nat} {s : ByteArray} (H : bytesAt h (some a) n s) (K' : Array Value → Hp → Prop) (HK : K' (s.data.toList.map fun c => Value.int .u8 (c.toNat : Int)).toArray h) : semR P (loadCells a n) h K' := by
  obtain ⟨h1, h2⟩ := H
  have key : ∀ (m i : Nat) (acc : Array Value), i + m = n → K' (acc ++ ((s.data.toList.drop i).map fun c => Value.int .u8 (c.toNat : Int)).toArray) h → semR P (loadCellsFrom a i m acc) h K' := by
    intro m
    induction m with
    | zero =>
      intro i acc hi hK
      have : s.data.toList.drop i = [] := by apply List.drop_eq_nil_of_le; have : s.data.toList.length = s.size := Array.length_toList
                                             omega
      rw [this] at hK
      simp at hK
      exact hK
    | succ m ih =>
      intro i acc hi hK
      simp only [loadCellsFrom, semR_bind']
      refine ⟨_, h2 i (by omega), ?_⟩
      refine ih (i + 1) _ (by omega) ?_
      have hlt : i < s.data.toList.length := by have : s.data.toList.length = s.size := Array.length_toList
                                                omega
      rw [List.drop_eq_getElem_cons hlt] at hK
      have e : s.data.toList.getD i 0 = s.data.toList[i] := by simp [List.getD_eq_getElem?_getD, List.getElem?_eq_getElem hlt]
      rw [e]
      simpa using hK
  unfold loadCells
  exact key n 0 #[] (by omega) (by simpa using HK)
theorem cvF_spec {src dst : TypeId} {x : Value} {K : Value → List (Hp → Prop) → Prop} (H : cvF P src dst x h K) :
    ∃ v fs, K v fs ∧ allF fs h ∧ ∀ h', allF fs h' → ∀ (K' : Value → Hp → Prop), K' v h' → semR P (convert src dst x) h' K' := by
  unfold cvF at H
  split at H
  · rename_i d k k' n h1 h2
    refine ⟨_, _, H, allF_nil, fun h' _ K' hK => ?_⟩
    unfold convert
    simp only [semR_bind', semR_underlying]
    refine ⟨_, h1, _, h2, ?_⟩
    exact hK
  · rename_i d s h1 h2
    refine ⟨_, _, H, allF_nil, fun h' _ K' hK => ?_⟩
    unfold convert
    simp only [semR_bind', semR_underlying]
    exact ⟨_, h1, _, h2, hK⟩
  · rename_i e a n c h1 h2
    split at H
    · rename_i h3
      obtain ⟨s, g1, g2⟩ := H
      refine ⟨_, _, g2, allF_one.2 g1, fun h' hf K' hK => ?_⟩
      have g1' : bytesAt h' a n s := (allF_one.1 hf)
      unfold convert
      simp only [semR_bind', semR_underlying]
      refine ⟨_, h1, _, h2, ?_⟩
      cases a with
      | none =>
        simp only [semR_bind', semR_underlying]
        refine ⟨_, h3, ?_⟩
        simp only [bytesAt] at g1'
        subst g1'
        exact hK
      | some a =>
        simp only [semR_bind', semR_underlying]
        refine ⟨_, h3, ?_⟩
        unfold Conv.bytesToString
        simp only [semR_bind']
        refine bytesAt_loads g1' _ ?_
        have := pushAll_sound (P := P) (h := h') s.data.toList ByteArray.empty (fun r h'' => K' (.string r) h'') (by
          have e : (⟨ByteArray.empty.data ++ s.data.toList.toArray⟩ : ByteArray) = s := by
            cases s with
            | mk d => show (⟨#[] ++ d.toList.toArray⟩ : ByteArray) = _; simp
          rw [e]; exact hK)
        simp only [List.forIn_toArray, List.size_toArray]
        exact this
    · exact H.elim
  · exact H.elim
end
end Go.Lift

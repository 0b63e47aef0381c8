/- The rules of the operations, said of the heap, with typed values; and that they are sound. -/
import Derived.Test.YtgmbhlfecbpclacGreatDoorLvA
import Derived.Laws.Sem
set_option linter.unusedSimpArgs false
set_option linter.unusedVariables false
namespace Go.Lift

inductive CT where
  | int (k : IntKind) | bool | str | ptr | adr | sl | map | fn | flt (k : FloatKind) | any
inductive Ty where
  | c (t : CT) | agg (ts : List CT)
structure Sl where
  a : Option Addr
  n : Nat
  c : Nat
def Sl.v (s : Sl) : Value := .slice s.a s.n s.c

def exC : CT → (Value → Prop) → Prop
  | .int k, f => ∃ n : Int, f (.int k n)
  | .bool, f => ∃ b : Bool, f (.bool b)
  | .str, f => ∃ s : ByteArray, f (.string s)
  | .ptr, f => ∃ p : Option Addr, f (.pointer p)
  | .adr, f => ∃ a : Addr, f (.pointer (some a))
  | .sl, f => ∃ s : Sl, f (.slice s.a s.n s.c)
  | .map, f => ∃ r : Option Nat, f (.map r)
  | .fn, f => ∃ (i : Nat) (cs : Array Value), f (.func (.func i) #[] cs)
  | .flt k, f => ∃ b : Nat, f (.float k b)
  | .any, f => ∃ v : Value, f v
/-- A heap under a name. -/
def wth (h : Hp) (K : Hp → Prop) : Prop := K h
def exL : List CT → (List Value → Prop) → Prop
  | [], f => f []
  | t :: ts, f => exC t fun v => exL ts fun vs => f (v :: vs)
def exT : Ty → (Value → Prop) → Prop
  | .c t, f => exC t f
  | .agg ts, f => exL ts fun vs => f (.agg vs.toArray)
def exTs : List Ty → (List Value → Prop) → Prop
  | [], f => f []
  | t :: ts, f => exT t fun v => exTs ts fun vs => f (v :: vs)
def alC : CT → (Value → Prop) → Prop
  | .int k, f => ∀ n : Int, f (.int k n)
  | .bool, f => ∀ b : Bool, f (.bool b)
  | .str, f => ∀ s : ByteArray, f (.string s)
  | .ptr, f => ∀ p : Option Addr, f (.pointer p)
  | .adr, f => ∀ a : Addr, f (.pointer (some a))
  | .sl, f => ∀ s : Sl, f (.slice s.a s.n s.c)
  | .map, f => ∀ r : Option Nat, f (.map r)
  | .fn, f => ∀ (i : Nat) (cs : Array Value), f (.func (.func i) #[] cs)
  | .flt k, f => ∀ b : Nat, f (.float k b)
  | .any, f => ∀ v : Value, f v
def alL : List CT → (List Value → Prop) → Prop
  | [], f => f []
  | t :: ts, f => alC t fun v => alL ts fun vs => f (v :: vs)
def alT : Ty → (Value → Prop) → Prop
  | .c t, f => alC t f
  | .agg ts, f => alL ts fun vs => f (.agg vs.toArray)
def alTs : List Ty → (List Value → Prop) → Prop
  | [], f => f []
  | t :: ts, f => alT t fun v => alTs ts fun vs => f (v :: vs)

theorem exC_ex {t : CT} {f : Value → Prop} (h : exC t f) : ∃ v, f v := by
  cases t <;> simp only [exC] at h
  case fn => obtain ⟨i, cs, h⟩ := h; exact ⟨_, h⟩
  all_goals (obtain ⟨x, h⟩ := h; exact ⟨_, h⟩)
theorem exL_ex {ts : List CT} {f : List Value → Prop} (h : exL ts f) : ∃ vs, f vs ∧ vs.length = ts.length := by
  induction ts generalizing f with
  | nil => exact ⟨_, h, rfl⟩
  | cons t ts ih =>
    obtain ⟨v, h1⟩ := exC_ex h
    obtain ⟨vs, h2, h3⟩ := ih h1
    exact ⟨_, h2, by simp [h3]⟩
theorem exT_ex {t : Ty} {f : Value → Prop} (h : exT t f) : ∃ v, f v := by
  cases t with
  | c t => exact exC_ex h
  | agg ts => obtain ⟨vs, h, _⟩ := exL_ex h; exact ⟨_, h⟩
theorem exTs_ex {ts : List Ty} {f : List Value → Prop} (h : exTs ts f) : ∃ vs, f vs := by
  induction ts generalizing f with
  | nil => exact ⟨_, h⟩
  | cons t ts ih =>
    obtain ⟨v, h1⟩ := exT_ex h
    obtain ⟨vs, h2⟩ := ih h1
    exact ⟨_, h2⟩
/-- A value read out of a map: a function may be none. -/
def exF : Ty → (Value → Prop) → Prop
  | .c .fn, f => (∃ (i : Nat) (cs : Array Value), f (.func (.func i) #[] cs)) ∨ f .nilFunc
  | t, f => exT t f
theorem exF_ex {t : Ty} {f : Value → Prop} (h : exF t f) : ∃ v, f v := by
  unfold exF at h
  split at h
  · rcases h with ⟨i, cs, h⟩ | h
    · exact ⟨_, h⟩
    · exact ⟨_, h⟩
  · exact exT_ex h
theorem exC_mono {t : CT} {f g : Value → Prop} (hf : exC t f) (hg : ∀ u, f u → g u) : exC t g := by
  cases t <;> simp only [exC] at hf ⊢
  case fn => obtain ⟨i, cs, hf⟩ := hf; exact ⟨i, cs, hg _ hf⟩
  all_goals (obtain ⟨x, hf⟩ := hf; exact ⟨x, hg _ hf⟩)
theorem exL_mono {ts : List CT} {f g : List Value → Prop} (hf : exL ts f) (hg : ∀ u, f u → g u) : exL ts g := by
  induction ts generalizing f g with
  | nil => exact hg _ hf
  | cons t ts ih => exact exC_mono hf fun u hu => ih hu fun us hus => hg _ hus
theorem exT_mono {t : Ty} {f g : Value → Prop} (hf : exT t f) (hg : ∀ u, f u → g u) : exT t g := by
  cases t with
  | c t => exact exC_mono hf hg
  | agg ts => exact exL_mono hf fun u hu => hg _ hu
theorem exF_mono {t : Ty} {f g : Value → Prop} (hf : exF t f) (hg : ∀ u, f u → g u) : exF t g := by
  unfold exF at hf ⊢
  split at hf
  · rcases hf with ⟨i, cs, hf⟩ | hf
    · exact Or.inl ⟨i, cs, hg _ hf⟩
    · exact Or.inr (hg _ hf)
  · exact exT_mono hf hg
theorem alC_of {t : CT} {f : Value → Prop} (h : ∀ v, f v) : alC t f := by cases t <;> simp only [alC] <;> intros <;> exact h _
theorem alL_of {ts : List CT} {f : List Value → Prop} (h : ∀ v, f v) : alL ts f := by
  induction ts generalizing f with
  | nil => exact h _
  | cons t ts ih => exact alC_of fun v => ih fun vs => h _
theorem alT_of {t : Ty} {f : Value → Prop} (h : ∀ v, f v) : alT t f := by
  cases t with
  | c t => exact alC_of h
  | agg ts => exact alL_of fun vs => h _
theorem alTs_of {ts : List Ty} {f : List Value → Prop} (h : ∀ v, f v) : alTs ts f := by
  induction ts generalizing f with
  | nil => exact h _
  | cons t ts ih => exact alT_of fun v => ih fun vs => h _

def ctOf : Value → CT
  | .int k _ => .int k | .bool _ => .bool | .string _ => .str | .pointer _ => .ptr | .slice _ _ _ => .sl | .map _ => .map | .float k _ => .flt k | .nilFunc => .fn | _ => .any
def tyOf : Value → Ty
  | .agg cs => .agg (cs.toList.map ctOf)
  | v => .c (ctOf v)
def isAggV : Value → Bool | .agg _ => true | _ => false
def zeroOf (P : Program) (t : TypeId) : Option Value := (P.info? t).bind (·.zero)
def szOf (P : Program) (t : TypeId) : Option Nat := (P.info? t).map (·.size)
def lay (P : Program) (t : TypeId) : Option Ty :=
  match P.underlying t, zeroOf P t, szOf P t with
  | some d, some z, some n => if isAggB d == isAggV z && z.cells.size == n then some (tyOf z) else none
  | _, _, _ => none
def zc (P : Program) (t : TypeId) : Array Value := match zeroOf P t with | some z => z.cells | none => #[]
/-- The typed shapes of a call's results. -/
def resTys (P : Program) (t : TypeId) : List Ty :=
  match P.underlying t with
  | some (.tuple ts) => ts.toList.map fun u => match zeroOf P u with | some z => tyOf z | none => .c .any
  | _ => [match zeroOf P t with | some z => tyOf z | none => .c .any]

/-! ### cells -/
def ldL (h : Hp) (a : Addr) : Nat → List CT → (List Value → Prop) → Prop
  | _, [], K => K []
  | i, t :: ts, K => exC t fun v => rd h (a.add i) = some v ∧ ldL h a (i + 1) ts fun vs => K (v :: vs)
def wrs (h : Hp) (a : Addr) : Nat → List Value → Hp
  | _, [] => h
  | i, v :: vs => wrs (wr1 h (a.add i) v) a (i + 1) vs
def stOk (h : Hp) (a : Addr) (n : Nat) : Prop := ∀ i, i < n → (rd h (a.add i)).isSome = true ∧ frz h (a.add i) = false

section
variable {P : Program}
theorem rd_wr1_isSome (h : Hp) (a b : Addr) (v : Value) (hb : (rd h b).isSome = true) : (rd (wr1 h a v) b).isSome = true := by
  unfold rd wr1 at *
  rw [Array.getElem?_modify]
  by_cases e : a.block = b.block
  · simp only [e, if_true]
    cases ho : h[b.block]? with
    | none => simp [ho] at hb
    | some o =>
      cases o <;> simp only [ho, Option.map_some] at hb ⊢ <;> try (simp at hb; done)
      split
      · rename_i hs; simp [hs] at hb
      · rename_i hs
        simp only [hs, if_false, Bool.false_eq_true] at hb
        split
        · exact hb
        · rename_i c _ _ _
          have h2 : b.off < c.size := by
            rcases Nat.lt_or_ge b.off c.size with h2 | h2
            · exact h2
            · simp [Array.getElem?_eq_none h2] at hb
          simp [h2]
  · simp only [e, if_false]; exact hb
theorem frz_wr1 (h : Hp) (a b : Addr) (v : Value) : frz (wr1 h a v) b = frz h b := by
  unfold frz wr1
  rw [Array.getElem?_modify]
  by_cases e : a.block = b.block
  · simp only [e, if_true]
    cases ho : h[b.block]? with
    | none => rfl
    | some o => cases o <;> rfl
  · simp only [e, if_false]

theorem loadCellsFrom_sound (a : Addr) (ts : List CT) : ∀ (i : Nat) (h : Hp) (acc : Array Value) (K : List Value → Prop) (K' : Array Value → Hp → Prop),
    ldL h a i ts K → (∀ vs, K vs → K' (acc ++ vs.toArray) h) → semR P (loadCellsFrom a i ts.length acc) h K' := by
  induction ts with
  | nil => intro i h acc K K' H HK; have := HK _ H; simp at this; exact this
  | cons t ts ih =>
    intro i h acc K K' H HK
    obtain ⟨v, h1, h2⟩ := exC_ex H
    simp only [List.length_cons, loadCellsFrom, semR_bind']
    refine ⟨v, h1, ih (i + 1) h (acc.push v) _ K' h2 fun vs hvs => ?_⟩
    have := HK _ hvs
    simpa using this
theorem storeCells_sound (a : Addr) (vs : List Value) : ∀ (i : Nat) (h : Hp) (K' : Unit → Hp → Prop),
    vs.all oneCell = true → (∀ j, i ≤ j → j < i + vs.length → (rd h (a.add j)).isSome = true ∧ frz h (a.add j) = false) → K' () (wrs h a i vs) → semW P (storeCells a vs i) h K' := by
  induction vs with
  | nil => intro i h K' _ _ H; exact H
  | cons v vs ih =>
    intro i h K' ha hs H
    simp only [List.all_cons, Bool.and_eq_true] at ha
    obtain ⟨h1, h2⟩ := hs i (Nat.le_refl _) (by simp)
    simp only [storeCells, semW_bind']
    refine ⟨ha.1, h1, h2, ih (i + 1) _ K' ha.2 (fun j hj hj' => ?_) H⟩
    obtain ⟨h3, h4⟩ := hs j (by omega) (by simp only [List.length_cons]; omega)
    exact ⟨rd_wr1_isSome _ _ _ _ h3, by rw [frz_wr1]; exact h4⟩

/-! ### load, store, alloc, box -/
def ldW (P : Program) (t : TypeId) (a : Addr) (h : Hp) (K : Value → Prop) : Prop :=
  match lay P t with
  | some (.c ct) => exC ct fun v => rd h a = some v ∧ K v
  | some (.agg ts) => ldL h a 0 ts fun vs => K (.agg vs.toArray)
  | none => False
theorem lay_spec {t : TypeId} {ty : Ty} (h : lay P t = some ty) :
    ∃ d z n, P.underlying t = some d ∧ zeroOf P t = some z ∧ szOf P t = some n ∧ isAggB d = isAggV z ∧ z.cells.size = n ∧ ty = tyOf z := by
  unfold lay at h
  split at h
  · rename_i d z n h1 h2 h3
    split at h
    · rename_i hc
      simp only [Bool.and_eq_true, beq_iff_eq] at hc
      exact ⟨d, z, n, h1, h2, h3, hc.1, hc.2, by simpa using h.symm⟩
    · cases h
  · cases h
theorem ldW_sound {t : TypeId} {a : Addr} {h : Hp} {K : Value → Prop} {K' : Value → Hp → Prop} (H : ldW P t a h K) (HK : ∀ v, K v → K' v h) : semR P (loadVar t a) h K' := by
  unfold ldW at H
  cases hl : lay P t with
  | none => rw [hl] at H; exact H.elim
  | some ty =>
    obtain ⟨d, z, n, h1, h2, h3, h4, h5, h6⟩ := lay_spec hl
    rw [hl] at H
    unfold loadVar
    simp only [semR_bind', semR_isAgg]
    refine ⟨d, h1, ?_⟩
    rw [h4]
    cases z <;> simp only [tyOf] at h6 <;> subst h6 <;> simp only [isAggV, Bool.false_eq_true, if_false, if_true]
    case agg cs =>
      simp only [semR_bind', semR_sizeOf, semR_pure]
      refine ⟨n, h3, ?_⟩
      have : n = (cs.toList.map ctOf).length := by simpa [Value.cells] using h5.symm
      rw [this]
      refine loadCellsFrom_sound a _ 0 h #[] _ _ H fun vs hvs => ?_
      simpa using HK _ hvs
    all_goals
      obtain ⟨v, h7, h8⟩ := exC_ex H
      exact ⟨v, h7, HK _ h8⟩

def stW (P : Program) (t : TypeId) (a : Addr) (v : Value) (h : Hp) (K : Hp → Prop) : Prop :=
  match szOf P t with
  | some n => match v.cells.size == n && v.cells.toList.all oneCell with
    | true => stOk h a n ∧ K (wrs h a 0 v.cells.toList)
    | false => False
  | none => False
theorem stW_sound {t : TypeId} {a : Addr} {v : Value} {h : Hp} {K : Hp → Prop} {K' : Unit → Hp → Prop} (H : stW P t a v h K) (HK : ∀ h', K h' → K' () h') : semW P (storeVar t a v) h K' := by
  unfold stW at H
  cases hn : szOf P t with
  | none => rw [hn] at H; exact H.elim
  | some n =>
    rw [hn] at H
    dsimp only at H
    split at H
    · rename_i hc
      simp only [Bool.and_eq_true, beq_iff_eq] at hc
      obtain ⟨hs, hK⟩ := H
      unfold storeVar
      simp only [semW_bind', semW_sizeOf]
      refine ⟨n, hn, ?_⟩
      rw [if_neg (by simpa using hc.1)]
      refine storeCells_sound a _ 0 h _ hc.2 (fun j _ hj => hs j ?_) (HK _ hK)
      simp at hj; omega
    · exact H.elim

def alW (P : Program) (t : TypeId) (h : Hp) (K : Value → Hp → Prop) : Prop :=
  match zeroOf P t with
  | some _ => K (.pointer (some ⟨h.size, 0, none⟩)) (h.push (.cells (zc P t) t))
  | none => False
theorem alW_sound {t : TypeId} {h : Hp} {K : Value → Hp → Prop} (H : alW P t h K) : semW P (Instr.alloc t true (.tuple #[])) h K := by
  unfold alW at H
  unfold Instr.alloc
  cases hz : zeroOf P t with
  | none => rw [hz] at H; exact H.elim
  | some z =>
    rw [hz] at H
    simp only [semW_bind', semW_zeroValue]
    refine ⟨z, hz, ?_⟩
    simp only [zc, hz] at H
    exact H
end
end Go.Lift

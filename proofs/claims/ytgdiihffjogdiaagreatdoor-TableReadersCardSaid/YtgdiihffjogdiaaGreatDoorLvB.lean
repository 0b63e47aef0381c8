/- A plain reading of the model's operations over a heap alone, and that it is sound. -/
import Derived.Calls
import Derived.Orders
import Derived.Scope
import Derived.KernelRfl
import Derived.Laws.Sem
set_option linter.unusedSimpArgs false
set_option linter.unusedVariables false
namespace Go.Lift

abbrev Hp := Array Obj

def rd (h : Hp) (a : Addr) : Option Value :=
  match h[a.block]? with
  | some (.cells c _ _) => if a.spot.isSome then none else c[a.off]?
  | _ => none
def frz (h : Hp) (a : Addr) : Bool :=
  match h[a.block]? with
  | some (.cells _ _ (lo, hi)) => lo ≤ a.off && a.off < hi
  | _ => false
def shp (h : Hp) (r : Nat) : Option (TypeId × Nat) :=
  match h[r]? with
  | some (.cells c elem _) => some (elem, c.size)
  | _ => none
def wr1 (h : Hp) (a : Addr) (v : Value) : Hp :=
  h.modify a.block fun
    | .cells c elem frozen => .cells (if a.spot.isSome then c else c.setIfInBounds a.off v) elem frozen
    | o => o
def frzHp (h : Hp) (a : Addr) (n : Nat) : Hp :=
  if n = 0 then h else h.modify a.block fun
      | .cells c elem (lo, hi) => .cells c elem (if lo == hi then (a.off, a.off + n) else (min lo a.off, max hi (a.off + n)))
      | o => o
def isCells : Obj → Bool | .cells .. => true | _ => false
def oneCell : Value → Bool | .agg _ => false | .tuple _ => false | _ => true

structure KeptD (D : Prop) (w0 w : World) : Prop where
  os : w.os = w0.os
  output : w.output = w0.output
  tape : w.tape = w0.tape
  dr : D → w0.drawn ≤ w.drawn
theorem KeptD.refl {D : Prop} (w : World) : KeptD D w w := ⟨rfl, rfl, rfl, fun _ => Nat.le_refl _⟩
theorem KeptD.trans {D : Prop} {a b c : World} (h : KeptD D a b) (k : KeptD D b c) : KeptD D a c := ⟨k.os.trans h.os, k.output.trans h.output, k.tape.trans h.tape, fun d => Nat.le_trans (h.dr d) (k.dr d)⟩

def semW (P : Program) {α : Type} : Sem α → Hp → (α → Hp → Prop) → Prop
  | .pure a, h, K => K a h
  | .load _ a k, h, K => ∃ v, rd h a = some v ∧ semW P (k v) h K
  | .store _ a v k, h, K => oneCell v = true ∧ (rd h a).isSome = true ∧ frz h a = false ∧ semW P k (wr1 h a v) K
  | .new o k, h, K => semW P (k h.size) (h.push o) K
  | .shape r k, h, K => semW P (k (shp h r)) h K
  | .freeze a n k, h, K => semW P k (frzHp h a n) K
  | .frozen a k, h, K => semW P (k (frz h a)) h K
  | .getObj r k, h, K => ∃ o, h[r]? = some o ∧ isCells o = false ∧ semW P (k o) h K
  | .setObj r o k, h, K => (∃ o', h[r]? = some o' ∧ isCells o' = false) ∧ semW P k (h.setIfInBounds r o) K
  | .choose q k, h, K => (q.forced = true → semW P (k 0) h K) ∧ (q.forced = false → ∀ t, semW P (k (q.cut t)) h K)
  | .sys _ _, _, _ => False
  | .program k, h, K => semW P (k P) h K
  | .mark _ k, h, K => semW P k h K
  | .halt _, _, _ => False

theorem semW_bind {P : Program} {α β : Type} (s : Sem α) (f : α → Sem β) (h : Hp) (K : β → Hp → Prop) :
    semW P (s.bind f) h K ↔ semW P s h (fun a h' => semW P (f a) h' K) := by
  induction s generalizing h with
  | pure a => exact Iff.rfl
  | load m a k ih => simp only [Sem.bind, semW, ih]
  | store m a v k ih => simp only [Sem.bind, semW, ih]
  | new o k ih => simp only [Sem.bind, semW, ih]
  | shape r k ih => simp only [Sem.bind, semW, ih]
  | freeze a n k ih => simp only [Sem.bind, semW, ih]
  | frozen a k ih => simp only [Sem.bind, semW, ih]
  | getObj r k ih => simp only [Sem.bind, semW, ih]
  | setObj r o k ih => simp only [Sem.bind, semW, ih]
  | choose q k ih => simp only [Sem.bind, semW, ih]
  | sys c k ih => simp only [Sem.bind, semW]
  | program k ih => simp only [Sem.bind, semW, ih]
  | mark m k ih => simp only [Sem.bind, semW, ih]
  | halt h => simp only [Sem.bind, semW]

theorem semW_mono {P : Program} {α : Type} (s : Sem α) {K K' : α → Hp → Prop} (hK : ∀ a h, K a h → K' a h) (h : Hp) (H : semW P s h K) : semW P s h K' := by
  induction s generalizing h with
  | pure a => exact hK _ _ H
  | load m a k ih => obtain ⟨v, h1, h2⟩ := H; exact ⟨v, h1, ih _ _ h2⟩
  | store m a v k ih => exact ⟨H.1, H.2.1, H.2.2.1, ih _ H.2.2.2⟩
  | new o k ih => exact ih _ _ H
  | shape r k ih => exact ih _ _ H
  | freeze a n k ih => exact ih _ H
  | frozen a k ih => exact ih _ _ H
  | getObj r k ih => obtain ⟨v, h1, h2, h3⟩ := H; exact ⟨v, h1, h2, ih _ _ h3⟩
  | setObj r o k ih => exact ⟨H.1, ih _ H.2⟩
  | choose q k ih => exact ⟨fun hf => ih _ _ (H.1 hf), fun hf t => ih _ _ (H.2 hf t)⟩
  | sys c k ih => exact H
  | program k ih => exact ih _ _ H
  | mark m k ih => exact ih _ H
  | halt h => exact H

theorem semW_run {D : Prop} {P : Program} {α : Type} (s : Sem α) (w : World) (K : α → Hp → Prop) (H : semW P s w.heap K) :
    ∃ a w', s.run P w = .ok a w' ∧ K a w'.heap ∧ KeptD D w w' := by
  induction s generalizing w with
  | pure a => exact ⟨a, w, rfl, H, .refl w⟩
  | load m a k ih =>
    obtain ⟨v, h1, h2⟩ := H
    obtain ⟨x, w', h3, h4, h5⟩ := ih v w h2
    have h1' : w.cell? a = some v := h1
    exact ⟨x, w', by simp only [Sem.run, h1']; exact h3, h4, h5⟩
  | store m a v k ih =>
    obtain ⟨h0, h1, h2, h3⟩ := H
    obtain ⟨u, hu⟩ := Option.isSome_iff_exists.1 h1
    have hu' : w.cell? a = some u := hu
    have h2' : w.frozen? a = false := h2
    obtain ⟨x, w', h4, h5, h6⟩ := ih (w.setCell a v) h3
    refine ⟨x, w', ?_, h5, ⟨h6.os, h6.output, h6.tape, h6.dr⟩⟩
    cases v <;> simp only [oneCell, Bool.false_eq_true] at h0 <;> simp only [Sem.run, hu', h2', Bool.false_eq_true, if_false] <;> exact h4
  | new o k ih =>
    obtain ⟨x, w', h4, h5, h6⟩ := ih _ { w with heap := w.heap.push o } H
    exact ⟨x, w', h4, h5, ⟨h6.os, h6.output, h6.tape, h6.dr⟩⟩
  | shape r k ih =>
    obtain ⟨x, w', h4, h5, h6⟩ := ih (w.shape? r) w H
    exact ⟨x, w', h4, h5, h6⟩
  | freeze a n k ih =>
    have e : (w.freeze a n).heap = frzHp w.heap a n := by
      unfold World.freeze frzHp
      split <;> rfl
    obtain ⟨x, w', h4, h5, h6⟩ := ih (w.freeze a n) (by rw [e]; exact H)
    refine ⟨x, w', h4, h5, KeptD.trans ?_ h6⟩
    unfold World.freeze
    split <;> exact ⟨rfl, rfl, rfl, fun _ => Nat.le_refl _⟩
  | frozen a k ih =>
    obtain ⟨x, w', h4, h5, h6⟩ := ih (w.frozen? a) w H
    exact ⟨x, w', h4, h5, h6⟩
  | getObj r k ih =>
    obtain ⟨o, h1, h2, h3⟩ := H
    obtain ⟨x, w', h4, h5, h6⟩ := ih o w h3
    refine ⟨x, w', ?_, h5, h6⟩
    cases o <;> simp only [isCells, Bool.true_eq_false] at h2 <;> simp only [Sem.run, h1] <;> exact h4
  | setObj r o k ih =>
    obtain ⟨⟨o', h1, h2⟩, h3⟩ := H
    obtain ⟨x, w', h4, h5, h6⟩ := ih { w with heap := w.heap.setIfInBounds r o } h3
    refine ⟨x, w', ?_, h5, ⟨h6.os, h6.output, h6.tape, h6.dr⟩⟩
    cases o' <;> simp only [isCells, Bool.true_eq_false] at h2 <;> simp only [Sem.run, h1] <;> exact h4
  | choose q k ih =>
    cases hf : q.forced with
    | true =>
      obtain ⟨x, w', h4, h5, h6⟩ := ih 0 w (H.1 hf)
      exact ⟨x, w', by simp only [Sem.run, hf, if_true]; exact h4, h5, h6⟩
    | false =>
      obtain ⟨x, w', h4, h5, h6⟩ := ih (q.cut (w.tape w.drawn q)) { w with drawn := w.drawn + 1 } (H.2 hf _)
      exact ⟨x, w', by simp only [Sem.run, hf, Bool.false_eq_true, if_false]; exact h4, h5, ⟨h6.os, h6.output, h6.tape, fun d => by have := h6.dr d; simp only at this; omega⟩⟩
  | sys c k ih => exact H.elim
  | program k ih =>
    obtain ⟨x, w', h4, h5, h6⟩ := ih P w H
    exact ⟨x, w', h4, h5, h6⟩
  | mark m k ih =>
    obtain ⟨x, w', h4, h5, h6⟩ := ih w H
    exact ⟨x, w', h4, h5, h6⟩
  | halt h => exact H.elim

/-! ### The walk over Sem's words, as rewriting rules -/
section
variable {P : Program} {h : Hp}
theorem semW_pure {α : Type} (a : α) (K : α → Hp → Prop) : semW P (pure a : Sem α) h K ↔ K a h := Iff.rfl
theorem semW_bind' {α β : Type} (s : Sem α) (f : α → Sem β) (K : β → Hp → Prop) :
    semW P (s >>= f) h K ↔ semW P s h (fun a h' => semW P (f a) h' K) := semW_bind s f h K
theorem semW_newObj (o : Obj) (K : Nat → Hp → Prop) : semW P (newObj o) h K ↔ K h.size (h.push o) := Iff.rfl
theorem semW_shape (r : Nat) (K : Option (TypeId × Nat) → Hp → Prop) : semW P (shape r) h K ↔ K (shp h r) h := Iff.rfl
theorem semW_frozen (a : Addr) (K : Bool → Hp → Prop) : semW P (frozen a) h K ↔ K (frz h a) h := Iff.rfl
theorem semW_freeze (a : Addr) (n : Nat) (K : Unit → Hp → Prop) : semW P (freeze a n) h K ↔ K () (frzHp h a n) := Iff.rfl
theorem semW_getObj (r : Nat) (K : Obj → Hp → Prop) : semW P (getObj r) h K ↔ ∃ o, h[r]? = some o ∧ isCells o = false ∧ K o h := Iff.rfl
theorem semW_setObj (r : Nat) (o : Obj) (K : Unit → Hp → Prop) : semW P (setObj r o) h K ↔ ((∃ o', h[r]? = some o' ∧ isCells o' = false) ∧ K () (h.setIfInBounds r o)) := Iff.rfl
theorem semW_choose (q : Question) (K : Nat → Hp → Prop) : semW P (choose q) h K ↔ ((q.forced = true → K 0 h) ∧ (q.forced = false → ∀ t, K (q.cut t) h)) := Iff.rfl
theorem semW_program (K : Program → Hp → Prop) : semW P program h K ↔ K P h := Iff.rfl
theorem semW_mark (m : Mark) (K : Unit → Hp → Prop) : semW P (mark m) h K ↔ K () h := Iff.rfl
theorem semW_askRoom (n : Nat) (K : Unit → Hp → Prop) : semW P (askRoom n) h K ↔ K () h := by
  unfold askRoom; split <;> exact Iff.rfl
theorem semW_stuck {α : Type} (s : String) (K : α → Hp → Prop) : semW P (stuck s) h K ↔ False := Iff.rfl
theorem semW_typeInfo (t : TypeId) (K : TypeInfo → Hp → Prop) : semW P (typeInfo t) h K ↔ ∃ i, P.info? t = some i ∧ K i h := by
  unfold typeInfo
  simp only [semW_bind', semW_program]
  cases P.info? t <;> simp [semW_pure, semW_stuck]
theorem semW_underlying (t : TypeId) (K : TypeDesc → Hp → Prop) : semW P (underlying t) h K ↔ ∃ d, P.underlying t = some d ∧ K d h := by
  unfold underlying
  simp only [semW_bind', semW_program]
  cases P.underlying t <;> simp [semW_pure, semW_stuck]
theorem semW_zeroValue (t : TypeId) (K : Value → Hp → Prop) : semW P (zeroValue t) h K ↔ ∃ z, (P.info? t).bind (·.zero) = some z ∧ K z h := by
  unfold zeroValue
  simp only [semW_bind', semW_typeInfo]
  constructor
  · rintro ⟨i, h1, h2⟩
    cases hz : i.zero with
    | none => rw [hz] at h2; exact h2.elim
    | some z => rw [hz] at h2; exact ⟨z, by simp [h1, hz], h2⟩
  · rintro ⟨z, h1, h2⟩
    cases hi : P.info? t with
    | none => simp [hi] at h1
    | some i => simp [hi] at h1; exact ⟨i, rfl, by rw [h1]; exact h2⟩
theorem semW_sizeOf (t : TypeId) (K : Nat → Hp → Prop) : semW P (sizeOf t) h K ↔ ∃ n, (P.info? t).map (·.size) = some n ∧ K n h := by
  unfold sizeOf
  simp only [semW_bind', semW_typeInfo, semW_pure]
  constructor
  · rintro ⟨i, h1, h2⟩; exact ⟨i.size, by simp [h1], h2⟩
  · rintro ⟨n, h1, h2⟩
    cases hi : P.info? t with
    | none => simp [hi] at h1
    | some i => simp [hi] at h1; exact ⟨i, rfl, by rw [h1]; exact h2⟩
theorem semW_newRow (t : TypeId) (c : Array Value) (K : Addr → Hp → Prop) : semW P (newRow t c) h K ↔ K ⟨h.size, 0, none⟩ (h.push (.cells c t)) := Iff.rfl
def isAggB : TypeDesc → Bool | .struct _ | .array _ _ => true | _ => false
end

/-! ### Computations that only look -/
def semR (P : Program) {α : Type} : Sem α → Hp → (α → Hp → Prop) → Prop
  | .pure a, h, K => K a h
  | .load _ a k, h, K => ∃ v, rd h a = some v ∧ semR P (k v) h K
  | .shape r k, h, K => semR P (k (shp h r)) h K
  | .frozen a k, h, K => semR P (k (frz h a)) h K
  | .getObj r k, h, K => ∃ o, h[r]? = some o ∧ isCells o = false ∧ semR P (k o) h K
  | .program k, h, K => semR P (k P) h K
  | .mark _ k, h, K => semR P k h K
  | _, _, _ => False
theorem semR_bind {P : Program} {α β : Type} (s : Sem α) (f : α → Sem β) (h : Hp) (K : β → Hp → Prop) :
    semR P (s.bind f) h K ↔ semR P s h (fun a h' => semR P (f a) h' K) := by
  induction s generalizing h with
  | pure a => exact Iff.rfl
  | load m a k ih => simp only [Sem.bind, semR, ih]
  | store m a v k ih => simp only [Sem.bind, semR]
  | new o k ih => simp only [Sem.bind, semR]
  | shape r k ih => simp only [Sem.bind, semR, ih]
  | freeze a n k ih => simp only [Sem.bind, semR]
  | frozen a k ih => simp only [Sem.bind, semR, ih]
  | getObj r k ih => simp only [Sem.bind, semR, ih]
  | setObj r o k ih => simp only [Sem.bind, semR]
  | choose q k ih => simp only [Sem.bind, semR]
  | sys c k ih => simp only [Sem.bind, semR]
  | program k ih => simp only [Sem.bind, semR, ih]
  | mark m k ih => simp only [Sem.bind, semR, ih]
  | halt h => simp only [Sem.bind, semR]
theorem semR_mono {P : Program} {α : Type} (s : Sem α) {K K' : α → Hp → Prop} (h : Hp) (hK : ∀ a, K a h → K' a h) (H : semR P s h K) : semR P s h K' := by
  induction s with
  | pure a => exact hK _ H
  | load m a k ih => obtain ⟨v, h1, h2⟩ := H; exact ⟨v, h1, ih _ h2⟩
  | shape r k ih => exact ih _ H
  | frozen a k ih => exact ih _ H
  | getObj r k ih => obtain ⟨v, h1, h2, h3⟩ := H; exact ⟨v, h1, h2, ih _ h3⟩
  | program k ih => exact ih _ H
  | mark m k ih => exact ih H
  | _ => exact H.elim
theorem semR_run {P : Program} {α : Type} (s : Sem α) (w : World) (K : α → Hp → Prop) (H : semR P s w.heap K) : ∃ a, s.run P w = .ok a w ∧ K a w.heap := by
  induction s with
  | pure a => exact ⟨a, rfl, H⟩
  | load m a k ih =>
    obtain ⟨v, h1, h2⟩ := H
    obtain ⟨x, h3, h4⟩ := ih v h2
    have h1' : w.cell? a = some v := h1
    exact ⟨x, by simp only [Sem.run, h1']; exact h3, h4⟩
  | shape r k ih => exact ih (w.shape? r) H
  | frozen a k ih => exact ih (w.frozen? a) H
  | getObj r k ih =>
    obtain ⟨o, h1, h2, h3⟩ := H
    obtain ⟨x, h4, h5⟩ := ih o h3
    refine ⟨x, ?_, h5⟩
    cases o <;> simp only [isCells, Bool.true_eq_false] at h2 <;> simp only [Sem.run, h1] <;> exact h4
  | program k ih => exact ih P H
  | mark m k ih => exact ih H
  | _ => exact H.elim
theorem semW_of_semR {P : Program} {α : Type} (s : Sem α) {K : α → Hp → Prop} {h : Hp} (H : semR P s h K) : semW P s h K := by
  induction s with
  | pure a => exact H
  | load m a k ih => obtain ⟨v, h1, h2⟩ := H; exact ⟨v, h1, ih _ h2⟩
  | shape r k ih => exact ih _ H
  | frozen a k ih => exact ih _ H
  | getObj r k ih => obtain ⟨v, h1, h2, h3⟩ := H; exact ⟨v, h1, h2, ih _ h3⟩
  | program k ih => exact ih _ H
  | mark m k ih => exact ih H
  | _ => exact H.elim
section
variable {P : Program} {h : Hp}
theorem semR_pure {α : Type} (a : α) (K : α → Hp → Prop) : semR P (pure a : Sem α) h K ↔ K a h := Iff.rfl
theorem semR_bind' {α β : Type} (s : Sem α) (f : α → Sem β) (K : β → Hp → Prop) :
    semR P (s >>= f) h K ↔ semR P s h (fun a h' => semR P (f a) h' K) := semR_bind s f h K
theorem semR_getObj (r : Nat) (K : Obj → Hp → Prop) : semR P (getObj r) h K ↔ ∃ o, h[r]? = some o ∧ isCells o = false ∧ K o h := Iff.rfl
theorem semR_program (K : Program → Hp → Prop) : semR P program h K ↔ K P h := Iff.rfl
theorem semR_stuck {α : Type} (s : String) (K : α → Hp → Prop) : semR P (stuck s) h K ↔ False := Iff.rfl
theorem semR_typeInfo (t : TypeId) (K : TypeInfo → Hp → Prop) : semR P (typeInfo t) h K ↔ ∃ i, P.info? t = some i ∧ K i h := by
  unfold typeInfo
  simp only [semR_bind', semR_program]
  cases P.info? t <;> simp [semR_pure, semR_stuck]
theorem semR_underlying (t : TypeId) (K : TypeDesc → Hp → Prop) : semR P (underlying t) h K ↔ ∃ d, P.underlying t = some d ∧ K d h := by
  unfold underlying
  simp only [semR_bind', semR_program]
  cases P.underlying t <;> simp [semR_pure, semR_stuck]
theorem semR_zeroValue (t : TypeId) (K : Value → Hp → Prop) : semR P (zeroValue t) h K ↔ ∃ z, (P.info? t).bind (·.zero) = some z ∧ K z h := by
  unfold zeroValue
  simp only [semR_bind', semR_typeInfo]
  constructor
  · rintro ⟨i, h1, h2⟩
    cases hz : i.zero with
    | none => rw [hz] at h2; exact h2.elim
    | some z => rw [hz] at h2; exact ⟨z, by simp [h1, hz], h2⟩
  · rintro ⟨z, h1, h2⟩
    cases hi : P.info? t with
    | none => simp [hi] at h1
    | some i => simp [hi] at h1; exact ⟨i, rfl, by rw [h1]; exact h2⟩
theorem semR_sizeOf (t : TypeId) (K : Nat → Hp → Prop) : semR P (sizeOf t) h K ↔ ∃ n, (P.info? t).map (·.size) = some n ∧ K n h := by
  unfold sizeOf
  simp only [semR_bind', semR_typeInfo, semR_pure]
  constructor
  · rintro ⟨i, h1, h2⟩; exact ⟨i.size, by simp [h1], h2⟩
  · rintro ⟨n, h1, h2⟩
    cases hi : P.info? t with
    | none => simp [hi] at h1
    | some i => simp [hi] at h1; exact ⟨i, rfl, by rw [h1]; exact h2⟩
theorem semR_isAgg (t : TypeId) (K : Bool → Hp → Prop) : semR P (isAgg t) h K ↔ ∃ d, P.underlying t = some d ∧ K (isAggB d) h := by
  unfold isAgg
  simp only [semR_bind', semR_underlying]
  constructor <;> rintro ⟨d, h1, h2⟩ <;> refine ⟨d, h1, ?_⟩ <;> cases d <;> exact h2
end
end Go.Lift
namespace Go.Lift

inductive CT where
  | int (k : IntKind) | bool | str | ptr | adr | sl | map | fn | flt (k : FloatKind) | any
inductive Ty where
  | c (t : CT) | agg (ts : List CT)
structure Sl where
  a : Option Addr
  n : Nat
  c : Nat
def Sl.v (s : Sl) : Value := .slice s.a s.n s.c

def exC : CT → (Value → Prop) → Prop
  | .int k, f => ∃ n : Int, f (.int k n)
  | .bool, f => ∃ b : Bool, f (.bool b)
  | .str, f => ∃ s : ByteArray, f (.string s)
  | .ptr, f => ∃ p : Option Addr, f (.pointer p)
  | .adr, f => ∃ a : Addr, f (.pointer (some a))
  | .sl, f => ∃ s : Sl, f (.slice s.a s.n s.c)
  | .map, f => ∃ r : Option Nat, f (.map r)
  | .fn, f => ∃ (i : Nat) (cs : Array Value), f (.func (.func i) #[] cs)
  | .flt k, f => ∃ b : Nat, f (.float k b)
  | .any, f => ∃ v : Value, f v
/-- A heap under a name. -/
def wth (h : Hp) (K : Hp → Prop) : Prop := K h
def exL : List CT → (List Value → Prop) → Prop
  | [], f => f []
  | t :: ts, f => exC t fun v => exL ts fun vs => f (v :: vs)
def exT : Ty → (Value → Prop) → Prop
  | .c t, f => exC t f
  | .agg ts, f => exL ts fun vs => f (.agg vs.toArray)
def exTs : List Ty → (List Value → Prop) → Prop
  | [], f => f []
  | t :: ts, f => exT t fun v => exTs ts fun vs => f (v :: vs)
def alC : CT → (Value → Prop) → Prop
  | .int k, f => ∀ n : Int, f (.int k n)
  | .bool, f => ∀ b : Bool, f (.bool b)
  | .str, f => ∀ s : ByteArray, f (.string s)
  | .ptr, f => ∀ p : Option Addr, f (.pointer p)
  | .adr, f => ∀ a : Addr, f (.pointer (some a))
  | .sl, f => ∀ s : Sl, f (.slice s.a s.n s.c)
  | .map, f => ∀ r : Option Nat, f (.map r)
  | .fn, f => ∀ (i : Nat) (cs : Array Value), f (.func (.func i) #[] cs)
  | .flt k, f => ∀ b : Nat, f (.float k b)
  | .any, f => ∀ v : Value, f v
def alL : List CT → (List Value → Prop) → Prop
  | [], f => f []
  | t :: ts, f => alC t fun v => alL ts fun vs => f (v :: vs)
def alT : Ty → (Value → Prop) → Prop
  | .c t, f => alC t f
  | .agg ts, f => alL ts fun vs => f (.agg vs.toArray)
def alTs : List Ty → (List Value → Prop) → Prop
  | [], f => f []
  | t :: ts, f => alT t fun v => alTs ts fun vs => f (v :: vs)

theorem exC_ex {t : CT} {f : Value → Prop} (h : exC t f) : ∃ v, f v := by
  cases t <;> simp only [exC] at h
  case fn => obtain ⟨i, cs, h⟩ := h; exact ⟨_, h⟩
  all_goals (obtain ⟨x, h⟩ := h; exact ⟨_, h⟩)
theorem exL_ex {ts : List CT} {f : List Value → Prop} (h : exL ts f) : ∃ vs, f vs ∧ vs.length = ts.length := by
  induction ts generalizing f with
  | nil => exact ⟨_, h, rfl⟩
  | cons t ts ih =>
    obtain ⟨v, h1⟩ := exC_ex h
    obtain ⟨vs, h2, h3⟩ := ih h1
    exact ⟨_, h2, by simp [h3]⟩
theorem exT_ex {t : Ty} {f : Value → Prop} (h : exT t f) : ∃ v, f v := by
  cases t with
  | c t => exact exC_ex h
  | agg ts => obtain ⟨vs, h, _⟩ := exL_ex h; exact ⟨_, h⟩
theorem exTs_ex {ts : List Ty} {f : List Value → Prop} (h : exTs ts f) : ∃ vs, f vs := by
  induction ts generalizing f with
  | nil => exact ⟨_, h⟩
  | cons t ts ih =>
    obtain ⟨v, h1⟩ := exT_ex h
    obtain ⟨vs, h2⟩ := ih h1
    exact ⟨_, h2⟩
/-- A value read out of a map: a function may be none. -/
def exF : Ty → (Value → Prop) → Prop
  | .c .fn, f => (∃ (i : Nat) (cs : Array Value), f (.func (.func i) #[] cs)) ∨ f .nilFunc
  | t, f => exT t f
theorem exF_ex {t : Ty} {f : Value → Prop} (h : exF t f) : ∃ v, f v := by
  unfold exF at h
  split at h
  · rcases h with ⟨i, cs, h⟩ | h
    · exact ⟨_, h⟩
    · exact ⟨_, h⟩
  · exact exT_ex h
theorem exC_mono {t : CT} {f g : Value → Prop} (hf : exC t f) (hg : ∀ u, f u → g u) : exC t g := by
  cases t <;> simp only [exC] at hf ⊢
  case fn => obtain ⟨i, cs, hf⟩ := hf; exact ⟨i, cs, hg _ hf⟩
  all_goals (obtain ⟨x, hf⟩ := hf; exact ⟨x, hg _ hf⟩)
theorem exL_mono {ts : List CT} {f g : List Value → Prop} (hf : exL ts f) (hg : ∀ u, f u → g u) : exL ts g := by
  induction ts generalizing f g with
  | nil => exact hg _ hf
  | cons t ts ih => exact exC_mono hf fun u hu => ih hu fun us hus => hg _ hus
theorem exT_mono {t : Ty} {f g : Value → Prop} (hf : exT t f) (hg : ∀ u, f u → g u) : exT t g := by
  cases t with
  | c t => exact exC_mono hf hg
  | agg ts => exact exL_mono hf fun u hu => hg _ hu
theorem exF_mono {t : Ty} {f g : Value → Prop} (hf : exF t f) (hg : ∀ u, f u → g u) : exF t g := by
  unfold exF at hf ⊢
  split at hf
  · rcases hf with ⟨i, cs, hf⟩ | hf
    · exact Or.inl ⟨i, cs, hg _ hf⟩
    · exact Or.inr (hg _ hf)
  · exact exT_mono hf hg
theorem alC_of {t : CT} {f : Value → Prop} (h : ∀ v, f v) : alC t f := by cases t <;> simp only [alC] <;> intros <;> exact h _
theorem alL_of {ts : List CT} {f : List Value → Prop} (h : ∀ v, f v) : alL ts f := by
  induction ts generalizing f with
  | nil => exact h _
  | cons t ts ih => exact alC_of fun v => ih fun vs => h _
theorem alT_of {t : Ty} {f : Value → Prop} (h : ∀ v, f v) : alT t f := by
  cases t with
  | c t => exact alC_of h
  | agg ts => exact alL_of fun vs => h _
theorem alTs_of {ts : List Ty} {f : List Value → Prop} (h : ∀ v, f v) : alTs ts f := by
  induction ts generalizing f with
  | nil => exact h _
  | cons t ts ih => exact alT_of fun v => ih fun vs => h _

def ctOf : Value → CT
  | .int k _ => .int k | .bool _ => .bool | .string _ => .str | .pointer _ => .ptr | .slice _ _ _ => .sl | .map _ => .map | .float k _ => .flt k | .nilFunc => .fn | _ => .any
def tyOf : Value → Ty
  | .agg cs => .agg (cs.toList.map ctOf)
  | v => .c (ctOf v)
def isAggV : Value → Bool | .agg _ => true | _ => false
def zeroOf (P : Program) (t : TypeId) : Option Value := (P.info? t).bind (·.zero)
def szOf (P : Program) (t : TypeId) : Option Nat := (P.info? t).map (·.size)
def lay (P : Program) (t : TypeId) : Option Ty :=
  match P.underlying t, zeroOf P t, szOf P t with
  | some d, some z, some n => if isAggB d == isAggV z && z.cells.size == n then some (tyOf z) else none
  | _, _, _ => none
def zc (P : Program) (t : TypeId) : Array Value := match zeroOf P t with | some z => z.cells | none => #[]
/-- The typed shapes of a call's results. -/
def resTys (P : Program) (t : TypeId) : List Ty :=
  match P.underlying t with
  | some (.tuple ts) => ts.toList.map fun u => match zeroOf P u with | some z => tyOf z | none => .c .any
  | _ => [match zeroOf P t with | some z => tyOf z | none => .c .any]

/-! ### cells -/
def ldL (h : Hp) (a : Addr) : Nat → List CT → (List Value → Prop) → Prop
  | _, [], K => K []
  | i, t :: ts, K => exC t fun v => rd h (a.add i) = some v ∧ ldL h a (i + 1) ts fun vs => K (v :: vs)
def wrs (h : Hp) (a : Addr) : Nat → List Value → Hp
  | _, [] => h
  | i, v :: vs => wrs (wr1 h (a.add i) v) a (i + 1) vs
def stOk (h : Hp) (a : Addr) (n : Nat) : Prop := ∀ i, i < n → (rd h (a.add i)).isSome = true ∧ frz h (a.add i) = false

section
variable {P : Program}
theorem rd_wr1_isSome (h : Hp) (a b : Addr) (v : Value) (hb : (rd h b).isSome = true) : (rd (wr1 h a v) b).isSome = true := by
  unfold rd wr1 at *
  rw [Array.getElem?_modify]
  by_cases e : a.block = b.block
  · simp only [e, if_true]
    cases ho : h[b.block]? with
    | none => simp [ho] at hb
    | some o =>
      cases o <;> simp only [ho, Option.map_some] at hb ⊢ <;> try (simp at hb; done)
      split
      · rename_i hs; simp [hs] at hb
      · rename_i hs
        simp only [hs, if_false, Bool.false_eq_true] at hb
        split
        · exact hb
        · rename_i c _ _ _
          have h2 : b.off < c.size := by
            rcases Nat.lt_or_ge b.off c.size with h2 | h2
            · exact h2
            · simp [Array.getElem?_eq_none h2] at hb
          simp [h2]
  · simp only [e, if_false]; exact hb
theorem frz_wr1 (h : Hp) (a b : Addr) (v : Value) : frz (wr1 h a v) b = frz h b := by
  unfold frz wr1
  rw [Array.getElem?_modify]
  by_cases e : a.block = b.block
  · simp only [e, if_true]
    cases ho : h[b.block]? with
    | none => rfl
    | some o => cases o <;> rfl
  · simp only [e, if_false]

theorem loadCellsFrom_sound (a : Addr) (ts : List CT) : ∀ (i : Nat) (h : Hp) (acc : Array Value) (K : List Value → Prop) (K' : Array Value → Hp → Prop),
    ldL h a i ts K → (∀ vs, K vs → K' (acc ++ vs.toArray) h) → semR P (loadCellsFrom a i ts.length acc) h K' := by
  induction ts with
  | nil => intro i h acc K K' H HK; have := HK _ H; simp at this; exact this
  | cons t ts ih =>
    intro i h acc K K' H HK
    obtain ⟨v, h1, h2⟩ := exC_ex H
    simp only [List.length_cons, loadCellsFrom, semR_bind']
    refine ⟨v, h1, ih (i + 1) h (acc.push v) _ K' h2 fun vs hvs => ?_⟩
    have := HK _ hvs
    simpa using this
theorem storeCells_sound (a : Addr) (vs : List Value) : ∀ (i : Nat) (h : Hp) (K' : Unit → Hp → Prop),
    vs.all oneCell = true → (∀ j, i ≤ j → j < i + vs.length → (rd h (a.add j)).isSome = true ∧ frz h (a.add j) = false) → K' () (wrs h a i vs) → semW P (storeCells a vs i) h K' := by
  induction vs with
  | nil => intro i h K' _ _ H; exact H
  | cons v vs ih =>
    intro i h K' ha hs H
    simp only [List.all_cons, Bool.and_eq_true] at ha
    obtain ⟨h1, h2⟩ := hs i (Nat.le_refl _) (by simp)
    simp only [storeCells, semW_bind']
    refine ⟨ha.1, h1, h2, ih (i + 1) _ K' ha.2 (fun j hj hj' => ?_) H⟩
    obtain ⟨h3, h4⟩ := hs j (by omega) (by simp only [List.length_cons]; omega)
    exact ⟨rd_wr1_isSome _ _ _ _ h3, by rw [frz_wr1]; exact h4⟩

/-! ### load, store, alloc, box -/
def ldW (P : Program) (t : TypeId) (a : Addr) (h : Hp) (K : Value → Prop) : Prop :=
  match lay P t with
  | some (.c ct) => exC ct fun v => rd h a = some v ∧ K v
  | some (.agg ts) => ldL h a 0 ts fun vs => K (.agg vs.toArray)
  | none => False
theorem lay_spec {t : TypeId} {ty : Ty} (h : lay P t = some ty) :
    ∃ d z n, P.underlying t = some d ∧ zeroOf P t = some z ∧ szOf P t = some n ∧ isAggB d = isAggV z ∧ z.cells.size = n ∧ ty = tyOf z := by
  unfold lay at h
  split at h
  · rename_i d z n h1 h2 h3
    split at h
    · rename_i hc
      simp only [Bool.and_eq_true, beq_iff_eq] at hc
      exact ⟨d, z, n, h1, h2, h3, hc.1, hc.2, by simpa using h.symm⟩
    · cases h
  · cases h
theorem ldW_sound {t : TypeId} {a : Addr} {h : Hp} {K : Value → Prop} {K' : Value → Hp → Prop} (H : ldW P t a h K) (HK : ∀ v, K v → K' v h) : semR P (loadVar t a) h K' := by
  unfold ldW at H
  cases hl : lay P t with
  | none => rw [hl] at H; exact H.elim
  | some ty =>
    obtain ⟨d, z, n, h1, h2, h3, h4, h5, h6⟩ := lay_spec hl
    rw [hl] at H
    unfold loadVar
    simp only [semR_bind', semR_isAgg]
    refine ⟨d, h1, ?_⟩
    rw [h4]
    cases z <;> simp only [tyOf] at h6 <;> subst h6 <;> simp only [isAggV, Bool.false_eq_true, if_false, if_true]
    case agg cs =>
      simp only [semR_bind', semR_sizeOf, semR_pure]
      refine ⟨n, h3, ?_⟩
      have : n = (cs.toList.map ctOf).length := by simpa [Value.cells] using h5.symm
      rw [this]
      refine loadCellsFrom_sound a _ 0 h #[] _ _ H fun vs hvs => ?_
      simpa using HK _ hvs
    all_goals
      obtain ⟨v, h7, h8⟩ := exC_ex H
      exact ⟨v, h7, HK _ h8⟩

def stW (P : Program) (t : TypeId) (a : Addr) (v : Value) (h : Hp) (K : Hp → Prop) : Prop :=
  match szOf P t with
  | some n => match v.cells.size == n && v.cells.toList.all oneCell with
    | true => stOk h a n ∧ K (wrs h a 0 v.cells.toList)
    | false => False
  | none => False
theorem stW_sound {t : TypeId} {a : Addr} {v : Value} {h : Hp} {K : Hp → Prop} {K' : Unit → Hp → Prop} (H : stW P t a v h K) (HK : ∀ h', K h' → K' () h') : semW P (storeVar t a v) h K' := by
  unfold stW at H
  cases hn : szOf P t with
  | none => rw [hn] at H; exact H.elim
  | some n =>
    rw [hn] at H
    dsimp only at H
    split at H
    · rename_i hc
      simp only [Bool.and_eq_true, beq_iff_eq] at hc
      obtain ⟨hs, hK⟩ := H
      unfold storeVar
      simp only [semW_bind', semW_sizeOf]
      refine ⟨n, hn, ?_⟩
      rw [if_neg (by simpa using hc.1)]
      refine storeCells_sound a _ 0 h _ hc.2 (fun j _ hj => hs j ?_) (HK _ hK)
      simp at hj; omega
    · exact H.elim

def alW (P : Program) (t : TypeId) (h : Hp) (K : Value → Hp → Prop) : Prop :=
  match zeroOf P t with
  | some _ => K (.pointer (some ⟨h.size, 0, none⟩)) (h.push (.cells (zc P t) t))
  | none => False
theorem alW_sound {t : TypeId} {h : Hp} {K : Value → Hp → Prop} (H : alW P t h K) : semW P (Instr.alloc t true (.tuple #[])) h K := by
  unfold alW at H
  unfold Instr.alloc
  cases hz : zeroOf P t with
  | none => rw [hz] at H; exact H.elim
  | some z =>
    rw [hz] at H
    simp only [semW_bind', semW_zeroValue]
    refine ⟨z, hz, ?_⟩
    simp only [zc, hz] at H
    exact H
end
end Go.Lift

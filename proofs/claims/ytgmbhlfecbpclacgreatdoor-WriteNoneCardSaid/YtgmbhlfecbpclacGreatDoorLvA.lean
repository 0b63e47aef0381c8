/- A plain reading of the model's operations over a heap alone, and that it is sound. -/
import Derived.Calls
import Derived.Orders
import Derived.Scope
import Derived.KernelRfl
set_option linter.unusedSimpArgs false
set_option linter.unusedVariables false
namespace Go.Lift

abbrev Hp := Array Obj

def rd (h : Hp) (a : Addr) : Option Value :=
  match h[a.block]? with
  | some (.cells c _ _) => if a.spot.isSome then none else c[a.off]?
  | _ => none
def frz (h : Hp) (a : Addr) : Bool :=
  match h[a.block]? with
  | some (.cells _ _ (lo, hi)) => lo ≤ a.off && a.off < hi
  | _ => false
def shp (h : Hp) (r : Nat) : Option (TypeId × Nat) :=
  match h[r]? with
  | some (.cells c elem _) => some (elem, c.size)
  | _ => none
def wr1 (h : Hp) (a : Addr) (v : Value) : Hp :=
  h.modify a.block fun
    | .cells c elem frozen => .cells (if a.spot.isSome then c else c.setIfInBounds a.off v) elem frozen
    | o => o
def frzHp (h : Hp) (a : Addr) (n : Nat) : Hp :=
  if n = 0 then h else h.modify a.block fun
      | .cells c elem (lo, hi) => .cells c elem (if lo == hi then (a.off, a.off + n) else (min lo a.off, max hi (a.off + n)))
      | o => o
def isCells : Obj → Bool | .cells .. => true | _ => false
def oneCell : Value → Bool | .agg _ => false | .tuple _ => false | _ => true

structure Kept (w0 w : World) : Prop where
  os : w.os = w0.os
  output : w.output = w0.output
  tape : w.tape = w0.tape
theorem Kept.refl (w : World) : Kept w w := ⟨rfl, rfl, rfl⟩
theorem Kept.trans {a b c : World} (h : Kept a b) (k : Kept b c) : Kept a c := ⟨k.os.trans h.os, k.output.trans h.output, k.tape.trans h.tape⟩

def semW (P : Program) {α : Type} : Sem α → Hp → (α → Hp → Prop) → Prop
  | .pure a, h, K => K a h
  | .load _ a k, h, K => ∃ v, rd h a = some v ∧ semW P (k v) h K
  | .store _ a v k, h, K => oneCell v = true ∧ (rd h a).isSome = true ∧ frz h a = false ∧ semW P k (wr1 h a v) K
  | .new o k, h, K => semW P (k h.size) (h.push o) K
  | .shape r k, h, K => semW P (k (shp h r)) h K
  | .freeze a n k, h, K => semW P k (frzHp h a n) K
  | .frozen a k, h, K => semW P (k (frz h a)) h K
  | .getObj r k, h, K => ∃ o, h[r]? = some o ∧ isCells o = false ∧ semW P (k o) h K
  | .setObj r o k, h, K => (∃ o', h[r]? = some o' ∧ isCells o' = false) ∧ semW P k (h.setIfInBounds r o) K
  | .choose q k, h, K => (q.forced = true → semW P (k 0) h K) ∧ (q.forced = false → ∀ t, semW P (k (q.cut t)) h K)
  | .sys _ _, _, _ => False
  | .program k, h, K => semW P (k P) h K
  | .mark _ k, h, K => semW P k h K
  | .halt _, _, _ => False

theorem semW_bind {P : Program} {α β : Type} (s : Sem α) (f : α → Sem β) (h : Hp) (K : β → Hp → Prop) :
    semW P (s.bind f) h K ↔ semW P s h (fun a h' => semW P (f a) h' K) := by
  induction s generalizing h with
  | pure a => exact Iff.rfl
  | load m a k ih => simp only [Sem.bind, semW, ih]
  | store m a v k ih => simp only [Sem.bind, semW, ih]
  | new o k ih => simp only [Sem.bind, semW, ih]
  | shape r k ih => simp only [Sem.bind, semW, ih]
  | freeze a n k ih => simp only [Sem.bind, semW, ih]
  | frozen a k ih => simp only [Sem.bind, semW, ih]
  | getObj r k ih => simp only [Sem.bind, semW, ih]
  | setObj r o k ih => simp only [Sem.bind, semW, ih]
  | choose q k ih => simp only [Sem.bind, semW, ih]
  | sys c k ih => simp only [Sem.bind, semW]
  | program k ih => simp only [Sem.bind, semW, ih]
  | mark m k ih => simp only [Sem.bind, semW, ih]
  | halt h => simp only [Sem.bind, semW]

theorem semW_mono {P : Program} {α : Type} (s : Sem α) {K K' : α → Hp → Prop} (hK : ∀ a h, K a h → K' a h) (h : Hp) (H : semW P s h K) : semW P s h K' := by
  induction s generalizing h with
  | pure a => exact hK _ _ H
  | load m a k ih => obtain ⟨v, h1, h2⟩ := H; exact ⟨v, h1, ih _ _ h2⟩
  | store m a v k ih => exact ⟨H.1, H.2.1, H.2.2.1, ih _ H.2.2.2⟩
  | new o k ih => exact ih _ _ H
  | shape r k ih => exact ih _ _ H
  | freeze a n k ih => exact ih _ H
  | frozen a k ih => exact ih _ _ H
  | getObj r k ih => obtain ⟨v, h1, h2, h3⟩ := H; exact ⟨v, h1, h2, ih _ _ h3⟩
  | setObj r o k ih => exact ⟨H.1, ih _ H.2⟩
  | choose q k ih => exact ⟨fun hf => ih _ _ (H.1 hf), fun hf t => ih _ _ (H.2 hf t)⟩
  | sys c k ih => exact H
  | program k ih => exact ih _ _ H
  | mark m k ih => exact ih _ H
  | halt h => exact H

theorem semW_run {P : Program} {α : Type} (s : Sem α) (w : World) (K : α → Hp → Prop) (H : semW P s w.heap K) :
    ∃ a w', s.run P w = .ok a w' ∧ K a w'.heap ∧ Kept w w' := by
  induction s generalizing w with
  | pure a => exact ⟨a, w, rfl, H, .refl w⟩
  | load m a k ih =>
    obtain ⟨v, h1, h2⟩ := H
    obtain ⟨x, w', h3, h4, h5⟩ := ih v w h2
    have h1' : w.cell? a = some v := h1
    exact ⟨x, w', by simp only [Sem.run, h1']; exact h3, h4, h5⟩
  | store m a v k ih =>
    obtain ⟨h0, h1, h2, h3⟩ := H
    obtain ⟨u, hu⟩ := Option.isSome_iff_exists.1 h1
    have hu' : w.cell? a = some u := hu
    have h2' : w.frozen? a = false := h2
    obtain ⟨x, w', h4, h5, h6⟩ := ih (w.setCell a v) h3
    refine ⟨x, w', ?_, h5, ⟨h6.os, h6.output, h6.tape⟩⟩
    cases v <;> simp only [oneCell, Bool.false_eq_true] at h0 <;> simp only [Sem.run, hu', h2', Bool.false_eq_true, if_false] <;> exact h4
  | new o k ih =>
    obtain ⟨x, w', h4, h5, h6⟩ := ih _ { w with heap := w.heap.push o } H
    exact ⟨x, w', h4, h5, ⟨h6.os, h6.output, h6.tape⟩⟩
  | shape r k ih =>
    obtain ⟨x, w', h4, h5, h6⟩ := ih (w.shape? r) w H
    exact ⟨x, w', h4, h5, h6⟩
  | freeze a n k ih =>
    have e : (w.freeze a n).heap = frzHp w.heap a n := by
      unfold World.freeze frzHp
      split <;> rfl
    obtain ⟨x, w', h4, h5, h6⟩ := ih (w.freeze a n) (by rw [e]; exact H)
    refine ⟨x, w', h4, h5, Kept.trans ?_ h6⟩
    unfold World.freeze
    split <;> exact ⟨rfl, rfl, rfl⟩
  | frozen a k ih =>
    obtain ⟨x, w', h4, h5, h6⟩ := ih (w.frozen? a) w H
    exact ⟨x, w', h4, h5, h6⟩
  | getObj r k ih =>
    obtain ⟨o, h1, h2, h3⟩ := H
    obtain ⟨x, w', h4, h5, h6⟩ := ih o w h3
    refine ⟨x, w', ?_, h5, h6⟩
    cases o <;> simp only [isCells, Bool.true_eq_false] at h2 <;> simp only [Sem.run, h1] <;> exact h4
  | setObj r o k ih =>
    obtain ⟨⟨o', h1, h2⟩, h3⟩ := H
    obtain ⟨x, w', h4, h5, h6⟩ := ih { w with heap := w.heap.setIfInBounds r o } h3
    refine ⟨x, w', ?_, h5, ⟨h6.os, h6.output, h6.tape⟩⟩
    cases o' <;> simp only [isCells, Bool.true_eq_false] at h2 <;> simp only [Sem.run, h1] <;> exact h4
  | choose q k ih =>
    cases hf : q.forced with
    | true =>
      obtain ⟨x, w', h4, h5, h6⟩ := ih 0 w (H.1 hf)
      exact ⟨x, w', by simp only [Sem.run, hf, if_true]; exact h4, h5, h6⟩
    | false =>
      obtain ⟨x, w', h4, h5, h6⟩ := ih (q.cut (w.tape w.drawn q)) { w with drawn := w.drawn + 1 } (H.2 hf _)
      exact ⟨x, w', by simp only [Sem.run, hf, Bool.false_eq_true, if_false]; exact h4, h5, ⟨h6.os, h6.output, h6.tape⟩⟩
  | sys c k ih => exact H.elim
  | program k ih =>
    obtain ⟨x, w', h4, h5, h6⟩ := ih P w H
    exact ⟨x, w', h4, h5, h6⟩
  | mark m k ih =>
    obtain ⟨x, w', h4, h5, h6⟩ := ih w H
    exact ⟨x, w', h4, h5, h6⟩
  | halt h => exact H.elim

/-! ### The walk over Sem's words, as rewriting rules -/
section
variable {P : Program} {h : Hp}
theorem semW_pure {α : Type} (a : α) (K : α → Hp → Prop) : semW P (pure a : Sem α) h K ↔ K a h := Iff.rfl
theorem semW_pure' {α : Type} (a : α) (K : α → Hp → Prop) : semW P (Sem.pure a : Sem α) h K ↔ K a h := Iff.rfl
theorem semW_bind' {α β : Type} (s : Sem α) (f : α → Sem β) (K : β → Hp → Prop) :
    semW P (s >>= f) h K ↔ semW P s h (fun a h' => semW P (f a) h' K) := semW_bind s f h K
theorem semW_load (a : Addr) (K : Value → Hp → Prop) : semW P (load a) h K ↔ ∃ v, rd h a = some v ∧ K v h := Iff.rfl
theorem semW_store (a : Addr) (v : Value) (K : Unit → Hp → Prop) : semW P (store a v) h K ↔ (oneCell v = true ∧ (rd h a).isSome = true ∧ frz h a = false ∧ K () (wr1 h a v)) := Iff.rfl
theorem semW_newObj (o : Obj) (K : Nat → Hp → Prop) : semW P (newObj o) h K ↔ K h.size (h.push o) := Iff.rfl
theorem semW_shape (r : Nat) (K : Option (TypeId × Nat) → Hp → Prop) : semW P (shape r) h K ↔ K (shp h r) h := Iff.rfl
theorem semW_frozen (a : Addr) (K : Bool → Hp → Prop) : semW P (frozen a) h K ↔ K (frz h a) h := Iff.rfl
theorem semW_freeze (a : Addr) (n : Nat) (K : Unit → Hp → Prop) : semW P (freeze a n) h K ↔ K () (frzHp h a n) := Iff.rfl
theorem semW_getObj (r : Nat) (K : Obj → Hp → Prop) : semW P (getObj r) h K ↔ ∃ o, h[r]? = some o ∧ isCells o = false ∧ K o h := Iff.rfl
theorem semW_setObj (r : Nat) (o : Obj) (K : Unit → Hp → Prop) : semW P (setObj r o) h K ↔ ((∃ o', h[r]? = some o' ∧ isCells o' = false) ∧ K () (h.setIfInBounds r o)) := Iff.rfl
theorem semW_choose (q : Question) (K : Nat → Hp → Prop) : semW P (choose q) h K ↔ ((q.forced = true → K 0 h) ∧ (q.forced = false → ∀ t, K (q.cut t) h)) := Iff.rfl
theorem semW_program (K : Program → Hp → Prop) : semW P program h K ↔ K P h := Iff.rfl
theorem semW_mark (m : Mark) (K : Unit → Hp → Prop) : semW P (mark m) h K ↔ K () h := Iff.rfl
theorem semW_askRoom (n : Nat) (K : Unit → Hp → Prop) : semW P (askRoom n) h K ↔ K () h := by
  unfold askRoom; split <;> exact Iff.rfl
theorem semW_stuck {α : Type} (s : String) (K : α → Hp → Prop) : semW P (stuck s) h K ↔ False := Iff.rfl
theorem semW_unsupported {α : Type} (s : Unsupported) (K : α → Hp → Prop) : semW P (unsupported s) h K ↔ False := Iff.rfl
theorem semW_typeInfo (t : TypeId) (K : TypeInfo → Hp → Prop) : semW P (typeInfo t) h K ↔ ∃ i, P.info? t = some i ∧ K i h := by
  unfold typeInfo
  simp only [semW_bind', semW_program]
  cases P.info? t <;> simp [semW_pure, semW_stuck]
theorem semW_underlying (t : TypeId) (K : TypeDesc → Hp → Prop) : semW P (underlying t) h K ↔ ∃ d, P.underlying t = some d ∧ K d h := by
  unfold underlying
  simp only [semW_bind', semW_program]
  cases P.underlying t <;> simp [semW_pure, semW_stuck]
theorem semW_zeroValue (t : TypeId) (K : Value → Hp → Prop) : semW P (zeroValue t) h K ↔ ∃ z, (P.info? t).bind (·.zero) = some z ∧ K z h := by
  unfold zeroValue
  simp only [semW_bind', semW_typeInfo]
  constructor
  · rintro ⟨i, h1, h2⟩
    cases hz : i.zero with
    | none => rw [hz] at h2; exact h2.elim
    | some z => rw [hz] at h2; exact ⟨z, by simp [h1, hz], h2⟩
  · rintro ⟨z, h1, h2⟩
    cases hi : P.info? t with
    | none => simp [hi] at h1
    | some i => simp [hi] at h1; exact ⟨i, rfl, by rw [h1]; exact h2⟩
theorem semW_sizeOf (t : TypeId) (K : Nat → Hp → Prop) : semW P (sizeOf t) h K ↔ ∃ n, (P.info? t).map (·.size) = some n ∧ K n h := by
  unfold sizeOf
  simp only [semW_bind', semW_typeInfo, semW_pure]
  constructor
  · rintro ⟨i, h1, h2⟩; exact ⟨i.size, by simp [h1], h2⟩
  · rintro ⟨n, h1, h2⟩
    cases hi : P.info? t with
    | none => simp [hi] at h1
    | some i => simp [hi] at h1; exact ⟨i, rfl, by rw [h1]; exact h2⟩
theorem semW_newRow (t : TypeId) (c : Array Value) (K : Addr → Hp → Prop) : semW P (newRow t c) h K ↔ K ⟨h.size, 0, none⟩ (h.push (.cells c t)) := Iff.rfl
theorem semW_newVar (t : TypeId) (v : Value) (K : Addr → Hp → Prop) : semW P (newVar t v) h K ↔ K ⟨h.size, 0, none⟩ (h.push (.cells v.cells t)) := Iff.rfl
def isAggB : TypeDesc → Bool | .struct _ | .array _ _ => true | _ => false
theorem semW_isAgg (t : TypeId) (K : Bool → Hp → Prop) : semW P (isAgg t) h K ↔ ∃ d, P.underlying t = some d ∧ K (isAggB d) h := by
  unfold isAgg
  simp only [semW_bind', semW_underlying]
  constructor <;> rintro ⟨d, h1, h2⟩ <;> refine ⟨d, h1, ?_⟩ <;> cases d <;> exact h2
end

/-! ### Computations that only look -/
def semR (P : Program) {α : Type} : Sem α → Hp → (α → Hp → Prop) → Prop
  | .pure a, h, K => K a h
  | .load _ a k, h, K => ∃ v, rd h a = some v ∧ semR P (k v) h K
  | .shape r k, h, K => semR P (k (shp h r)) h K
  | .frozen a k, h, K => semR P (k (frz h a)) h K
  | .getObj r k, h, K => ∃ o, h[r]? = some o ∧ isCells o = false ∧ semR P (k o) h K
  | .program k, h, K => semR P (k P) h K
  | .mark _ k, h, K => semR P k h K
  | _, _, _ => False
theorem semR_bind {P : Program} {α β : Type} (s : Sem α) (f : α → Sem β) (h : Hp) (K : β → Hp → Prop) :
    semR P (s.bind f) h K ↔ semR P s h (fun a h' => semR P (f a) h' K) := by
  induction s generalizing h with
  | pure a => exact Iff.rfl
  | load m a k ih => simp only [Sem.bind, semR, ih]
  | store m a v k ih => simp only [Sem.bind, semR]
  | new o k ih => simp only [Sem.bind, semR]
  | shape r k ih => simp only [Sem.bind, semR, ih]
  | freeze a n k ih => simp only [Sem.bind, semR]
  | frozen a k ih => simp only [Sem.bind, semR, ih]
  | getObj r k ih => simp only [Sem.bind, semR, ih]
  | setObj r o k ih => simp only [Sem.bind, semR]
  | choose q k ih => simp only [Sem.bind, semR]
  | sys c k ih => simp only [Sem.bind, semR]
  | program k ih => simp only [Sem.bind, semR, ih]
  | mark m k ih => simp only [Sem.bind, semR, ih]
  | halt h => simp only [Sem.bind, semR]
theorem semR_mono {P : Program} {α : Type} (s : Sem α) {K K' : α → Hp → Prop} (h : Hp) (hK : ∀ a, K a h → K' a h) (H : semR P s h K) : semR P s h K' := by
  induction s with
  | pure a => exact hK _ H
  | load m a k ih => obtain ⟨v, h1, h2⟩ := H; exact ⟨v, h1, ih _ h2⟩
  | shape r k ih => exact ih _ H
  | frozen a k ih => exact ih _ H
  | getObj r k ih => obtain ⟨v, h1, h2, h3⟩ := H; exact ⟨v, h1, h2, ih _ h3⟩
  | program k ih => exact ih _ H
  | mark m k ih => exact ih H
  | _ => exact H.elim
theorem semR_run {P : Program} {α : Type} (s : Sem α) (w : World) (K : α → Hp → Prop) (H : semR P s w.heap K) : ∃ a, s.run P w = .ok a w ∧ K a w.heap := by
  induction s with
  | pure a => exact ⟨a, rfl, H⟩
  | load m a k ih =>
    obtain ⟨v, h1, h2⟩ := H
    obtain ⟨x, h3, h4⟩ := ih v h2
    have h1' : w.cell? a = some v := h1
    exact ⟨x, by simp only [Sem.run, h1']; exact h3, h4⟩
  | shape r k ih => exact ih (w.shape? r) H
  | frozen a k ih => exact ih (w.frozen? a) H
  | getObj r k ih =>
    obtain ⟨o, h1, h2, h3⟩ := H
    obtain ⟨x, h4, h5⟩ := ih o h3
    refine ⟨x, ?_, h5⟩
    cases o <;> simp only [isCells, Bool.true_eq_false] at h2 <;> simp only [Sem.run, h1] <;> exact h4
  | program k ih => exact ih P H
  | mark m k ih => exact ih H
  | _ => exact H.elim
theorem semW_of_semR {P : Program} {α : Type} (s : Sem α) {K : α → Hp → Prop} {h : Hp} (H : semR P s h K) : semW P s h K := by
  induction s with
  | pure a => exact H
  | load m a k ih => obtain ⟨v, h1, h2⟩ := H; exact ⟨v, h1, ih _ h2⟩
  | shape r k ih => exact ih _ H
  | frozen a k ih => exact ih _ H
  | getObj r k ih => obtain ⟨v, h1, h2, h3⟩ := H; exact ⟨v, h1, h2, ih _ h3⟩
  | program k ih => exact ih _ H
  | mark m k ih => exact ih H
  | _ => exact H.elim
section
variable {P : Program} {h : Hp}
theorem semR_pure {α : Type} (a : α) (K : α → Hp → Prop) : semR P (pure a : Sem α) h K ↔ K a h := Iff.rfl
theorem semR_pure' {α : Type} (a : α) (K : α → Hp → Prop) : semR P (Sem.pure a : Sem α) h K ↔ K a h := Iff.rfl
theorem semR_bind' {α β : Type} (s : Sem α) (f : α → Sem β) (K : β → Hp → Prop) :
    semR P (s >>= f) h K ↔ semR P s h (fun a h' => semR P (f a) h' K) := semR_bind s f h K
theorem semR_load (a : Addr) (K : Value → Hp → Prop) : semR P (load a) h K ↔ ∃ v, rd h a = some v ∧ K v h := Iff.rfl
theorem semR_shape (r : Nat) (K : Option (TypeId × Nat) → Hp → Prop) : semR P (shape r) h K ↔ K (shp h r) h := Iff.rfl
theorem semR_frozen (a : Addr) (K : Bool → Hp → Prop) : semR P (frozen a) h K ↔ K (frz h a) h := Iff.rfl
theorem semR_getObj (r : Nat) (K : Obj → Hp → Prop) : semR P (getObj r) h K ↔ ∃ o, h[r]? = some o ∧ isCells o = false ∧ K o h := Iff.rfl
theorem semR_program (K : Program → Hp → Prop) : semR P program h K ↔ K P h := Iff.rfl
theorem semR_mark (m : Mark) (K : Unit → Hp → Prop) : semR P (mark m) h K ↔ K () h := Iff.rfl
theorem semR_askRoom (n : Nat) (K : Unit → Hp → Prop) : semR P (askRoom n) h K ↔ K () h := by
  unfold askRoom; split <;> exact Iff.rfl
theorem semR_stuck {α : Type} (s : String) (K : α → Hp → Prop) : semR P (stuck s) h K ↔ False := Iff.rfl
theorem semR_unsupported {α : Type} (s : Unsupported) (K : α → Hp → Prop) : semR P (unsupported s) h K ↔ False := Iff.rfl
theorem semR_typeInfo (t : TypeId) (K : TypeInfo → Hp → Prop) : semR P (typeInfo t) h K ↔ ∃ i, P.info? t = some i ∧ K i h := by
  unfold typeInfo
  simp only [semR_bind', semR_program]
  cases P.info? t <;> simp [semR_pure, semR_stuck]
theorem semR_underlying (t : TypeId) (K : TypeDesc → Hp → Prop) : semR P (underlying t) h K ↔ ∃ d, P.underlying t = some d ∧ K d h := by
  unfold underlying
  simp only [semR_bind', semR_program]
  cases P.underlying t <;> simp [semR_pure, semR_stuck]
theorem semR_zeroValue (t : TypeId) (K : Value → Hp → Prop) : semR P (zeroValue t) h K ↔ ∃ z, (P.info? t).bind (·.zero) = some z ∧ K z h := by
  unfold zeroValue
  simp only [semR_bind', semR_typeInfo]
  constructor
  · rintro ⟨i, h1, h2⟩
    cases hz : i.zero with
    | none => rw [hz] at h2; exact h2.elim
    | some z => rw [hz] at h2; exact ⟨z, by simp [h1, hz], h2⟩
  · rintro ⟨z, h1, h2⟩
    cases hi : P.info? t with
    | none => simp [hi] at h1
    | some i => simp [hi] at h1; exact ⟨i, rfl, by rw [h1]; exact h2⟩
theorem semR_sizeOf (t : TypeId) (K : Nat → Hp → Prop) : semR P (sizeOf t) h K ↔ ∃ n, (P.info? t).map (·.size) = some n ∧ K n h := by
  unfold sizeOf
  simp only [semR_bind', semR_typeInfo, semR_pure]
  constructor
  · rintro ⟨i, h1, h2⟩; exact ⟨i.size, by simp [h1], h2⟩
  · rintro ⟨n, h1, h2⟩
    cases hi : P.info? t with
    | none => simp [hi] at h1
    | some i => simp [hi] at h1; exact ⟨i, rfl, by rw [h1]; exact h2⟩
theorem semR_isAgg (t : TypeId) (K : Bool → Hp → Prop) : semR P (isAgg t) h K ↔ ∃ d, P.underlying t = some d ∧ K (isAggB d) h := by
  unfold isAgg
  simp only [semR_bind', semR_underlying]
  constructor <;> rintro ⟨d, h1, h2⟩ <;> refine ⟨d, h1, ?_⟩ <;> cases d <;> exact h2
end
end Go.Lift

/- Arguments that are slices, opened. -/
import Derived.Test.YtgmbhlfecbpclacGreatDoorLvP
import Derived.Deep.Slices
set_option linter.unusedSimpArgs false
set_option linter.unusedVariables false
namespace Go.Lift
open Go Go.RowKit Go.ChangeShapes

theorem exists_list {α : Type} {p : Nat → α → Prop} : ∀ (n : Nat), (∀ i, i < n → ∃ x, p i x) → ∃ xs : List α, xs.length = n ∧ ∀ i (hi : i < xs.length), p i xs[i]
  | 0, _ => ⟨[], rfl, fun i hi => (by simp at hi)⟩
  | n + 1, h => by
    obtain ⟨xs, h1, h2⟩ := exists_list n fun i hi => h i (by omega)
    obtain ⟨x, hx⟩ := h n (by omega)
    refine ⟨xs ++ [x], by simp [h1], fun i hi => ?_⟩
    simp only [List.length_append, List.length_cons, List.length_nil] at hi
    rcases (by omega : i < xs.length ∨ i = xs.length) with g | g
    · rw [List.getElem_append_left g]; exact h2 i g
    · subst g
      rw [List.getElem_append_right (Nat.le_refl _)]
      simp only [Nat.sub_self, List.getElem_cons_zero]
      rw [h1]; exact hx
section
variable {H : Type} {enc : TypeId × Value → H} {P : Program} {w : World} {base : Nat} {spare : Nat → Bool} {held : Bool}
theorem open_list {t e : TypeId} (ht : P.underlying t = some (.slice e)) {sz : Nat} (hc : P.cellsOf e = sz) (hsz : 0 < sz) {α : Type} {en : α → List Value} (hen : ∀ x, (en x).length = sz) {G : α → Prop}
    (helem : ∀ (cs : List Value) (n : Nat) (y : DataW H × List MemPlace), cs.length = sz → DataW.trod enc P w base spare held n e cs = some y → ∃ x : α, cs = en x ∧ G x)
    {fuel : Nat} {cs : List Value} {z : DataW H × List MemPlace} (h : DataW.trod enc P w base spare held fuel t cs = some z) :
    ∃ (s : Sl) (xs : List α), cs = [.slice s.a s.n s.c] ∧ Reads sz en w.heap s xs ∧ (∀ x ∈ xs, G x) ∧ s.n ≤ s.c ∧ s.c ≤ maxLen := by
  rcases Deep.open_slice ht h with ⟨rfl, _⟩ | ⟨a, len, cap, m, n, D, Pl, rfl, hb, hl, hm, hmm, _, hx⟩
  · exact ⟨⟨none, 0, 0⟩, [], rfl, Reads.nil _ _, by simp, Nat.le_refl _, by simp⟩
  · have hlm : len ≤ m := by rw [hmm]; split <;> omega
    obtain ⟨xs, h1, h2⟩ := exists_list (p := fun i (x : α) => (∀ k, k < sz → rd w.heap (a.add (i * sz + k)) = (en x)[k]?) ∧ G x) len fun i hi => by
      obtain ⟨cs', g1, g2⟩ := hx i (by omega)
      rw [hc] at g1
      obtain ⟨_, g3, g4⟩ := World.cells?_some g1
      obtain ⟨x, rfl, hG⟩ := helem cs' n _ g3 g2
      refine ⟨x, fun k hk => ?_, hG⟩
      have := g4 k hk
      rw [addr_add_add] at this
      exact this
    refine ⟨⟨some a, len, cap⟩, xs, rfl, ⟨h1.symm, fun e => (by cases e), ?_, fun j hj => ?_⟩, ?_, hl, hm⟩
    · rw [flatMap_length hen, h1]
    · have hi : j / sz < xs.length := by rw [h1]; exact Nat.div_lt_of_lt_mul (by rw [Nat.mul_comm]; exact hj)
      have hk := Nat.mod_lt j hsz
      have g := (h2 _ hi).1 _ hk
      rw [← flatMap_get hen xs _ _ hi hk] at g
      rw [show j / sz * sz + j % sz = j by rw [Nat.mul_comm]; exact Nat.div_add_mod j sz] at g
      exact g
    · intro x hx
      obtain ⟨i, hi, rfl⟩ := List.getElem_of_mem hx
      exact (h2 i hi).2
theorem elem_int {e : TypeId} {k : IntKind} (he : P.underlying e = some (.int k)) {cs : List Value} {n : Nat} {y : DataW H × List MemPlace} (h : DataW.trod enc P w base spare held n e cs = some y) :
    ∃ x : Int, cs = [.int k x] ∧ (Lit.int k x).wf = true := by
  cases n with
  | zero => simp [DataW.trod] at h
  | succ n =>
    unfold DataW.trod at h
    rw [he] at h
    split at h <;> simp_all
theorem val_slice {t e : TypeId} (ht : P.underlying t = some (.slice e)) {r : Reach} {b0 : Nat} {v : Value} (hv : Value.okWide P w r b0 t v) : ∃ s : Sl, v = .slice s.a s.n s.c := by
  simp only [Value.okWide, ht, Cell.okWide] at hv
  cases v <;> simp_all [Cell.ok]
  exact ⟨⟨_, _, _⟩, rfl, rfl, rfl⟩
theorem open_args {t e : TypeId} (ht : P.underlying t = some (.slice e)) {sz : Nat} (hc : P.cellsOf e = sz) (hsz : 0 < sz) {α : Type} {en : α → List Value} (hen : ∀ x, (en x).length = sz) {G : α → Prop}
    (helem : ∀ (cs : List Value) (n : Nat) (y : DataW H × List MemPlace), cs.length = sz → DataW.trod enc P w base spare held n e cs = some y → ∃ x : α, cs = en x ∧ G x)
    {r : Reach} {b0 : Nat} {v : Value} {d : DataW H} {ps : List MemPlace} (hv : Value.okWide P w r b0 t v) (hd : DataW.Trod enc P w base spare held t v d ps) :
    ∃ (s : Sl) (xs : List α), v = .slice s.a s.n s.c ∧ Reads sz en w.heap s xs ∧ (∀ x ∈ xs, G x) ∧ s.n ≤ maxLen := by
  obtain ⟨s, rfl⟩ := val_slice ht hv
  obtain ⟨fuel, hf⟩ := hd
  obtain ⟨s', xs, h1, h2, h3, h4, h5⟩ := open_list ht hc hsz hen helem hf
  refine ⟨s', xs, ?_, h2, h3, by omega⟩
  simpa [Value.cells] using h1
theorem open_ints8 {t e : TypeId} (ht : P.underlying t = some (.slice e)) {k : IntKind} (he : P.underlying e = some (.int k)) (hc : P.cellsOf e = 1)
    {r : Reach} {b0 : Nat} {v : Value} {d : DataW H} {ps : List MemPlace} (hv : Value.okWide P w r b0 t v) (hd : DataW.Trod enc P w base spare held t v d ps) :
    ∃ (s : Sl) (xs : List Int), v = .slice s.a s.n s.c ∧ Reads 1 (fun n : Int => [Value.int k n]) w.heap s xs ∧ (∀ x ∈ xs, (Lit.int k x).wf = true) ∧ s.n ≤ maxLen :=
  open_args ht hc (by decide) (fun _ => rfl) (fun cs n y _ h => elem_int he h) hv hd
theorem elem_bool {e : TypeId} (he : P.underlying e = some .bool) {cs : List Value} {n : Nat} {y : DataW H × List MemPlace} (h : DataW.trod enc P w base spare held n e cs = some y) : ∃ x : Bool, cs = [.bool x] := by
  cases n with
  | zero => simp [DataW.trod] at h
  | succ n =>
    unfold DataW.trod at h
    rw [he] at h
    split at h <;> simp_all
theorem elem_str {e : TypeId} (he : P.underlying e = some .string) {cs : List Value} {n : Nat} {y : DataW H × List MemPlace} (h : DataW.trod enc P w base spare held n e cs = some y) : ∃ x : ByteArray, cs = [.string x] ∧ x.size ≤ maxLen := by
  cases n with
  | zero => simp [DataW.trod] at h
  | succ n =>
    unfold DataW.trod at h
    rw [he] at h
    split at h <;> simp_all
theorem elem_flt {e : TypeId} {k : FloatKind} (he : P.underlying e = some (.float k)) {cs : List Value} {n : Nat} {y : DataW H × List MemPlace} (h : DataW.trod enc P w base spare held n e cs = some y) : ∃ x : Nat, cs = [.float k x] ∧ (Lit.float k x).wf = true := by
  cases n with
  | zero => simp [DataW.trod] at h
  | succ n =>
    unfold DataW.trod at h
    rw [he] at h
    split at h <;> simp_all
theorem elem_fld {e : TypeId} {fs : Array Field} (he : P.underlying e = some (.struct fs)) {cs : List Value} {n : Nat} {y : DataW H × List MemPlace} (h : DataW.trod enc P w base spare held n e cs = some y) :
    ∃ m, ∀ (i : Nat) (t off : Nat), (fs[i]?).map (fun f => (f.type, f.offset)) = some (t, off) → ∃ z, DataW.trod enc P w base spare held m t ((cs.drop off).take (P.cellsOf t)) = some z := by
  obtain ⟨xs, m, _, _, _, hl, hf⟩ := DataW.trod_struct he h
  refine ⟨m, fun i t off hi0 => ?_⟩
  obtain ⟨f, hi, hto⟩ := Option.map_eq_some_iff.1 hi0
  cases hto
  have hlt : i < fs.size := by
    rcases Nat.lt_or_ge i fs.size with g | g
    · exact g
    · simp [Array.getElem?_eq_none g] at hi
  exact ⟨xs[i]'(by omega), by rw [hf i f hi, List.getElem?_eq_getElem (by omega)]⟩
theorem list4 {cs : List Value} (h : cs.length = 4) : ∃ a b c d, cs = [a, b, c, d] := by
  match cs, h with
  | [a, b, c, d], _ => exact ⟨a, b, c, d, rfl⟩
theorem list5 {cs : List Value} (h : cs.length = 5) : ∃ a b c d e, cs = [a, b, c, d, e] := by
  match cs, h with
  | [a, b, c, d, e], _ => exact ⟨a, b, c, d, e, rfl⟩
theorem list3 {cs : List Value} (h : cs.length = 3) : ∃ a b c, cs = [a, b, c] := by
  match cs, h with
  | [a, b, c], _ => exact ⟨a, b, c, rfl⟩
theorem list2 {cs : List Value} (h : cs.length = 2) : ∃ a b, cs = [a, b] := by
  match cs, h with
  | [a, b], _ => exact ⟨a, b, rfl⟩
end
end Go.Lift

/- Slices of memory as lists: reading, appending, cloning. -/
import Derived.Test.YteopnfdhaeoodaaLvN
set_option linter.unusedSimpArgs false
set_option linter.unusedVariables false
namespace Go.Lift
open Go

@[simp] theorem ex_sl {a : Option Addr} {n c : Nat} {P : Sl → Prop} : (∃ l : Sl, (a = l.a ∧ n = l.n ∧ c = l.c) ∧ P l) ↔ P ⟨a, n, c⟩ := by
  constructor
  · rintro ⟨l, ⟨rfl, rfl, rfl⟩, h⟩; exact h
  · intro h; exact ⟨⟨a, n, c⟩, ⟨rfl, rfl, rfl⟩, h⟩

@[simp] theorem ex_sln {n c : Nat} {P : Sl → Prop} : (∃ l : Sl, (l.a = none ∧ n = l.n ∧ c = l.c) ∧ P l) ↔ P ⟨none, n, c⟩ := by
  constructor
  · rintro ⟨⟨a, n', c'⟩, ⟨h0, h1, h2⟩, h⟩
    simp only at h0 h1 h2
    subst h0 h1 h2; exact h
  · intro h; exact ⟨⟨none, n, c⟩, ⟨rfl, rfl, rfl⟩, h⟩
@[simp] theorem sl_eta (l : Sl) : (⟨l.a, l.n, l.c⟩ : Sl) = l := rfl
attribute [simp] putAt

section
variable {α : Type} (T : TypeId) (sz : Nat) (enc : α → List Value)
/-- A slice stands for a list: `sz` cells for each element. -/
def SlOf (h : Hp) (s : Sl) (xs : List α) : Prop :=
  s.n = xs.length ∧ (s.a = none → xs = []) ∧ ∀ a, s.a = some a → ∃ b o c fz, a = ⟨b, o, none⟩ ∧ h[b]? = some (.cells c T fz) ∧ o + s.n * sz ≤ c.size ∧ (c.toList.drop o).take (s.n * sz) = xs.flatMap enc
/-- The same, and the slice is its maker's own: from the cell 0 on, with all of its room, in a block not older than `lo`. -/
def Own (lo : Nat) (h : Hp) (s : Sl) (xs : List α) : Prop :=
  s.n = xs.length ∧ (s.a = none → xs = [] ∧ s.c = 0) ∧ ∀ a, s.a = some a → ∃ b c, a = ⟨b, 0, none⟩ ∧ lo ≤ b ∧ Blk h b c T ∧ s.n ≤ s.c ∧ s.c * sz ≤ c.size ∧ c.toList.take (s.n * sz) = xs.flatMap enc
variable {T sz enc}
theorem Own.sl {lo : Nat} {h : Hp} {s : Sl} {xs : List α} (ho : Own T sz enc lo h s xs) : SlOf T sz enc h s xs := by
  refine ⟨ho.1, fun hn => (ho.2.1 hn).1, fun a ha => ?_⟩
  obtain ⟨b, c, h1, h2, h3, h4, h5, h6⟩ := ho.2.2 a ha
  have := Nat.mul_le_mul_right sz h4
  exact ⟨b, 0, c, _, h1, h3, by omega, by simpa using h6⟩
theorem Own.nil (lo : Nat) (h : Hp) : Own T sz enc lo h ⟨none, 0, 0⟩ [] := ⟨rfl, fun _ => ⟨rfl, rfl⟩, fun a ha => by cases ha⟩
theorem SlOf.nil (h : Hp) (c : Nat) : SlOf T sz enc h ⟨none, 0, c⟩ [] := ⟨rfl, fun _ => rfl, fun a ha => by cases ha⟩
/-- No block of S is one of T's. -/
def Other (T : TypeId) (h : Hp) (S : List Nat) : Prop := ∀ b ∈ S, ∀ c fz, h[b]? ≠ some (.cells c T fz)
theorem Other.nil (h : Hp) : Other T h [] := by intro b hb; cases hb
theorem Other.one {h : Hp} {b : Nat} {o : Obj} (hb : h[b]? = some o) (ho : ∀ c fz, o ≠ .cells c T fz) : Other T h [b] := by
  intro b' hb' c fz e
  simp at hb'; subst hb'
  rw [hb] at e; exact ho c fz (Option.some.inj e)
theorem Other.two {h : Hp} {b d : Nat} {o u : Obj} (hb : h[b]? = some o) (ho : ∀ c fz, o ≠ .cells c T fz) (hd : h[d]? = some u) (hu : ∀ c fz, u ≠ .cells c T fz) : Other T h [b, d] := by
  intro b' hb' c fz e
  simp at hb'
  rcases hb' with rfl | rfl
  · rw [hb] at e; exact ho c fz (Option.some.inj e)
  · rw [hd] at e; exact hu c fz (Option.some.inj e)
theorem SlOf.ext {S : List Nat} {h h' : Hp} {s : Sl} {xs : List α} (hs : SlOf T sz enc h s xs) (he : Ext S h h') (hS : Other T h S) : SlOf T sz enc h' s xs := by
  refine ⟨hs.1, hs.2.1, fun a ha => ?_⟩
  obtain ⟨b, o, c, fz, h1, h2, h3, h4⟩ := hs.2.2 a ha
  exact ⟨b, o, c, fz, h1, he.get h2 fun hb => hS b hb c fz h2, h3, h4⟩
theorem SlOf.ext0 {h h' : Hp} {s : Sl} {xs : List α} (hs : SlOf T sz enc h s xs) (he : Ext [] h h') : SlOf T sz enc h' s xs := hs.ext he (Other.nil h)
theorem Own.ext0 {lo : Nat} {h h' : Hp} {s : Sl} {xs : List α} (hs : Own T sz enc lo h s xs) (he : Ext [] h h') : Own T sz enc lo h' s xs := by
  refine ⟨hs.1, hs.2.1, fun a ha => ?_⟩
  obtain ⟨b, c, h1, h2, h3, h4⟩ := hs.2.2 a ha
  exact ⟨b, c, h1, h2, he.get h3 (by simp), h4⟩
theorem flatMap_length (he : ∀ x, (enc x).length = sz) (xs : List α) : (xs.flatMap enc).length = xs.length * sz := by
  induction xs with
  | nil => simp
  | cons x xs ih => simp only [List.flatMap_cons, List.length_append, he, ih, List.length_cons, Nat.add_mul, Nat.one_mul]; omega
theorem flatMap_get (he : ∀ x, (enc x).length = sz) : ∀ (xs : List α) (i k : Nat) (hi : i < xs.length), k < sz → (xs.flatMap enc)[i * sz + k]? = (enc xs[i])[k]?
  | [], i, k, hi, _ => by simp at hi
  | x :: xs, 0, k, hi, hk => by
    simp only [List.flatMap_cons, Nat.zero_mul, Nat.zero_add, List.getElem_cons_zero]
    rw [List.getElem?_append_left (by rw [he]; exact hk)]
  | x :: xs, i + 1, k, hi, hk => by
    simp only [List.flatMap_cons, List.getElem_cons_succ]
    rw [List.getElem?_append_right (by rw [he, Nat.add_mul]; omega), he, show (i + 1) * sz + k - sz = i * sz + k by rw [Nat.add_mul]; omega]
    exact flatMap_get he xs i k (by simpa using hi) hk
/-- An element's cell. -/
theorem SlOf.rd {h : Hp} {s : Sl} {xs : List α} (hs : SlOf T sz enc h s xs) (he : ∀ x, (enc x).length = sz) {i : Nat} (hi : i < xs.length) :
    ∃ b o, s.a = some ⟨b, o, none⟩ ∧ ∀ k, k < sz → Go.Lift.rd h ⟨b, o + i * sz + k, none⟩ = (enc xs[i])[k]? := by
  cases hsa : s.a with
  | none => have := hs.2.1 hsa; subst this; simp at hi
  | some a =>
    obtain ⟨b, o, c, fz, h1, h2, h3, h4⟩ := hs.2.2 a hsa
    refine ⟨b, o, by rw [h1], fun k hk => ?_⟩
    rw [rd_blk h2, ← flatMap_get he xs i k hi hk, ← h4]
    have h5 : i * sz + k < s.n * sz := by
      rw [hs.1]
      calc i * sz + k < i * sz + sz := by omega
        _ = (i + 1) * sz := by rw [Nat.add_mul]; omega
        _ ≤ xs.length * sz := Nat.mul_le_mul_right _ hi
    rw [List.getElem?_take_of_lt h5, List.getElem?_drop, Array.getElem?_toList, Nat.add_assoc]
theorem SlOf.cells {h : Hp} {s : Sl} {xs : List α} (hs : SlOf T sz enc h s xs) : cellsAt h s.a (s.n * sz) (xs.flatMap enc) := by
  cases hsa : s.a with
  | none => have := hs.2.1 hsa; subst this; rfl
  | some a =>
    obtain ⟨b, o, c, fz, h1, h2, h3, h4⟩ := hs.2.2 a hsa
    subst h1
    rw [← h4]
    exact cellsAt_blk h2 h3
theorem zeroCells_size (z : Array Value) (n : Nat) : (Builtin.zeroCells z n).size = n * z.size := by simp [Builtin.zeroCells]
def sBlk (s : Sl) : List Nat := match s.a with | some a => [a.block] | none => []
theorem Own.blk {lo : Nat} {h : Hp} {s : Sl} {xs : List α} (hs : Own T sz enc lo h s xs) : ∀ b ∈ sBlk s, lo ≤ b := by
  intro b hb
  unfold sBlk at hb
  cases hsa : s.a with
  | none => simp [hsa] at hb
  | some a =>
    obtain ⟨d, c, h1, h2, _⟩ := hs.2.2 a hsa
    simp [hsa, h1] at hb
    omega
/-- Append to a slice that is one's own. -/
theorem app_own {P : Program} {bytes lo m : Nat} {h : Hp} {s : Sl} {xs ys : List α} {new : List Value} {K : Sl → Hp → Prop} (ho : Own T sz enc lo h s xs) (hz : (zc P T).size = sz)
    (he : ∀ x, (enc x).length = sz) (h1 : ∀ x, ∀ v ∈ enc x, oneCell v = true) (hnew : new = ys.flatMap enc) (hm : m = ys.length) (hb : (s.n + m) * bytes ≤ 2 ^ 47) (hb2 : s.n + m ≤ 2 ^ 47) (hlo : lo ≤ h.size)
    (H : ∀ s' h', Own T sz enc lo h' s' (xs ++ ys) → Ext (sBlk s) h h' → s'.n = s.n + m → K s' h') : appS P T bytes sz h s m new K := by
  subst hnew hm
  have hlen := flatMap_length he ys
  refine ⟨⟨hb2, hb, hlen, ?_, fun _ => ⟨_, ho.sl.cells⟩, ?_⟩, ?_⟩
  · intro v hv
    obtain ⟨x, _, hx⟩ := List.mem_flatMap.1 hv
    exact h1 x v hx
  · intro hr a ha
    obtain ⟨b, c, g1, g2, g3, g4, g5, g6⟩ := ho.2.2 a ha
    subst g1
    rw [addr_mk]
    refine stOk_blk g3 ?_
    have := Nat.mul_le_mul_right sz hr
    rw [Nat.add_mul] at this
    omega
  · intro s' h' hap
    cases hap with
    | room a hr ha =>
      obtain ⟨b, c, g1, g2, g3, g4, g5, g6⟩ := ho.2.2 a ha
      subst g1
      have hroom := Nat.mul_le_mul_right sz hr
      rw [Nat.add_mul] at hroom
      rw [addr_mk, wrs_blk _ g3]
      refine H _ _ ⟨by simp [ho.1], fun hn => ?_, fun a' ha' => ?_⟩ ?_ rfl
      · rw [ha] at hn; cases hn
      · rw [ha] at ha'
        cases ha'
        refine ⟨b, _, rfl, g2, set_blk g3, hr, by simpa using g5, ?_⟩
        simp only [Nat.zero_add, Nat.add_zero, Nat.add_mul]
        rw [← hlen, putAt_toList _ _ _ (by omega), g6, List.flatMap_append]
      · unfold sBlk; rw [ha]; exact Ext.set _ _ _
    | none hr ha =>
      obtain ⟨g1, g2⟩ := ho.2.1 ha
      have : ys.length = 0 := by omega
      have hy : ys = [] := List.length_eq_zero_iff.1 this
      subst hy
      refine H _ _ ?_ (Ext.refl _ _) rfl
      simpa using ho
    | grow old cap hr hold hcap =>
      have hold' : old = xs.flatMap enc := by
        cases hsa : s.a with
        | none =>
          rw [hsa] at hold
          have := (ho.2.1 hsa).1
          subst this
          simpa [cellsAt] using hold
        | some a =>
          have h2 := ho.sl.cells
          rw [hsa] at hold h2
          exact cellsAt_det hold h2
      subst hold'
      have hlx := flatMap_length he xs
      refine H _ _ ⟨by simp [ho.1], fun hn => (by cases hn), fun a' ha' => ?_⟩ ((Ext.push _ _ _)) rfl
      cases ha'
      refine ⟨h.size, _, rfl, hlo, push_get _ _, hcap, ?_, ?_⟩
      · simp only [Array.size_append, zeroCells_size, hz, List.size_toArray, List.length_append, hlx, hlen]
        have : cap * sz = (s.n + ys.length) * sz + (cap - (s.n + ys.length)) * sz := by rw [← Nat.add_mul]; congr 1; omega
        rw [this, Nat.add_mul, ho.1]
        omega
      · simp only [Array.toList_append]
        rw [List.take_append_of_le_length (by simp [hlx, hlen, ho.1, Nat.add_mul])]
        rw [List.take_of_length_le (by simp [hlx, hlen, ho.1, Nat.add_mul]), List.flatMap_append]
theorem Own.fresh {h : Hp} {lo : Nat} (hlo : lo ≤ h.size) : Own T sz enc lo (h.push (.cells #[] T)) ⟨some ⟨h.size, 0, none⟩, 0, 0⟩ [] := by
  refine ⟨rfl, fun hn => (by cases hn), fun a ha => ?_⟩
  cases ha
  exact ⟨h.size, #[], rfl, hlo, push_get _ _, Nat.le_refl _, by simp, by simp⟩
/-- What slices.Clone comes to. -/
theorem clone_body {P : Program} {bytes : Nat} {h : Hp} {s : Sl} {xs : List α} {K : Sl → Hp → Prop} (ho : SlOf T sz enc h s xs) (hz : (zc P T).size = sz) (he : ∀ x, (enc x).length = sz)
    (h1 : ∀ x, ∀ v ∈ enc x, oneCell v = true) (hb : s.n * bytes ≤ 2 ^ 47) (hb2 : s.n ≤ 2 ^ 47)
    (H : ∀ s' h', Own T sz enc h.size h' s' xs → Ext [] h h' → s'.n = s.n → K s' h') :
    ∃ cs : List Value, cellsAt (h.push (.cells #[] T)) s.a (s.n * sz) cs ∧ appS P T bytes sz (h.push (.cells #[] T)) ⟨some ⟨h.size, 0, none⟩, 0, 0⟩ s.n cs K := by
  refine ⟨_, (ho.ext0 (Ext.push [] h (.cells #[] T))).cells, ?_⟩
  refine app_own (ys := xs) (Own.fresh (Nat.le_refl _)) hz he h1 rfl ho.1 (by simpa using hb) (by simpa using hb2) (by simp) fun s' h' ho' he' hn' => H s' h' (by simpa using ho') ?_ (by simpa using hn')
  refine (Ext.push [] h (.cells #[] T)).trans he' ?_
  intro b hb' hlt
  simp [sBlk] at hb'
  omega
end
end Go.Lift

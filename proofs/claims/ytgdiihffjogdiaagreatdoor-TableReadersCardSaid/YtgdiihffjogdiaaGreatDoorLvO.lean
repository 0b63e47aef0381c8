/- Slices of memory as lists: reading, appending, cloning. -/
import Derived.Test.YtgdiihffjogdiaaGreatDoorLvN
set_option linter.unusedSimpArgs false
set_option linter.unusedVariables false
namespace Go.Lift
open Go

@[simp] theorem ex_sl {a : Option Addr} {n c : Nat} {P : Sl → Prop} : (∃ l : Sl, (a = l.a ∧ n = l.n ∧ c = l.c) ∧ P l) ↔ P ⟨a, n, c⟩ := by
  constructor
  · rintro ⟨l, ⟨rfl, rfl, rfl⟩, h⟩; exact h
  · intro h; exact ⟨⟨a, n, c⟩, ⟨rfl, rfl, rfl⟩, h⟩

@[simp] theorem ex_sln {n c : Nat} {P : Sl → Prop} : (∃ l : Sl, (l.a = none ∧ n = l.n ∧ c = l.c) ∧ P l) ↔ P ⟨none, n, c⟩ := by
  constructor
  · rintro ⟨⟨a, n', c'⟩, ⟨h0, h1, h2⟩, h⟩
    simp only at h0 h1 h2
    subst h0 h1 h2; exact h
  · intro h; exact ⟨⟨none, n, c⟩, ⟨rfl, rfl, rfl⟩, h⟩
@[simp] theorem sl_eta (l : Sl) : (⟨l.a, l.n, l.c⟩ : Sl) = l := rfl
attribute [simp] putAt

def sBlk (s : Sl) : List Nat := match s.a with | some a => [a.block] | none => []
theorem mem_sBlk {s : Sl} {b : Nat} : b ∈ sBlk s ↔ ∃ a, s.a = some a ∧ a.block = b := by
  unfold sBlk
  cases s.a <;> simp [eq_comm]
section
variable {α : Type} (T : TypeId) (sz : Nat) (enc : α → List Value)
/-- A slice stands for a list: `sz` cells for each element. -/
def SlOf (h : Hp) (s : Sl) (xs : List α) : Prop :=
  s.n = xs.length ∧ (s.a = none → xs = []) ∧ ∀ a, s.a = some a → ∃ b o c fz, a = ⟨b, o, none⟩ ∧ h[b]? = some (.cells c T fz) ∧ o + s.n * sz ≤ c.size ∧ (c.toList.drop o).take (s.n * sz) = xs.flatMap enc
/-- The same, and the slice is its maker's own: from the cell 0 on, with all of its room, in a block not older than `lo`. -/
def Own (lo : Nat) (h : Hp) (s : Sl) (xs : List α) : Prop :=
  s.n = xs.length ∧ (s.a = none → xs = [] ∧ s.c = 0) ∧ ∀ a, s.a = some a → ∃ b c, a = ⟨b, 0, none⟩ ∧ lo ≤ b ∧ Blk h b c T ∧ s.n ≤ s.c ∧ s.c * sz ≤ c.size ∧ c.toList.take (s.n * sz) = xs.flatMap enc
variable {T sz enc}
theorem Own.sl {lo : Nat} {h : Hp} {s : Sl} {xs : List α} (ho : Own T sz enc lo h s xs) : SlOf T sz enc h s xs := by
  refine ⟨ho.1, fun hn => (ho.2.1 hn).1, fun a ha => ?_⟩
  obtain ⟨b, c, h1, h2, h3, h4, h5, h6⟩ := ho.2.2 a ha
  have := Nat.mul_le_mul_right sz h4
  exact ⟨b, 0, c, _, h1, h3, by omega, by simpa using h6⟩
theorem Own.other {lo : Nat} {h : Hp} {s : Sl} {xs : List α} (ho : Own T sz enc lo h s xs) {T' : TypeId} (hT : T ≠ T') : ∀ b ∈ sBlk s, ∀ c fz, h[b]? ≠ some (.cells c T' fz) := by
  intro b hb c fz e
  obtain ⟨a, h1, h2⟩ := mem_sBlk.1 hb
  obtain ⟨b', c', g1, g2, g3, _⟩ := ho.2.2 a h1
  rw [g1] at h2
  simp only at h2
  subst h2
  rw [g3] at e
  cases e
  exact hT rfl
theorem Own.nil (lo : Nat) (h : Hp) : Own T sz enc lo h ⟨none, 0, 0⟩ [] := ⟨rfl, fun _ => ⟨rfl, rfl⟩, fun a ha => by cases ha⟩
theorem SlOf.nil (h : Hp) (c : Nat) : SlOf T sz enc h ⟨none, 0, c⟩ [] := ⟨rfl, fun _ => rfl, fun a ha => by cases ha⟩
/-- No block of S is one of T's. -/
def Other (T : TypeId) (h : Hp) (S : List Nat) : Prop := ∀ b ∈ S, ∀ c fz, h[b]? ≠ some (.cells c T fz)
theorem Other.two {h : Hp} {b d : Nat} {o u : Obj} (hb : h[b]? = some o) (ho : ∀ c fz, o ≠ .cells c T fz) (hd : h[d]? = some u) (hu : ∀ c fz, u ≠ .cells c T fz) : Other T h [b, d] := by
  intro b' hb' c fz e
  simp at hb'
  rcases hb' with rfl | rfl
  · rw [hb] at e; exact ho c fz (Option.some.inj e)
  · rw [hd] at e; exact hu c fz (Option.some.inj e)
theorem SlOf.ext {S : List Nat} {h h' : Hp} {s : Sl} {xs : List α} (hs : SlOf T sz enc h s xs) (he : Ext S h h') (hS : Other T h S) : SlOf T sz enc h' s xs := by
  refine ⟨hs.1, hs.2.1, fun a ha => ?_⟩
  obtain ⟨b, o, c, fz, h1, h2, h3, h4⟩ := hs.2.2 a ha
  exact ⟨b, o, c, fz, h1, he.get h2 fun hb => hS b hb c fz h2, h3, h4⟩
theorem Own.ext0 {lo : Nat} {h h' : Hp} {s : Sl} {xs : List α} (hs : Own T sz enc lo h s xs) (he : Ext [] h h') : Own T sz enc lo h' s xs := by
  refine ⟨hs.1, hs.2.1, fun a ha => ?_⟩
  obtain ⟨b, c, h1, h2, h3, h4⟩ := hs.2.2 a ha
  exact ⟨b, c, h1, h2, he.get h3 (by simp), h4⟩
theorem Own.ext {S : List Nat} {lo : Nat} {h h' : Hp} {s : Sl} {xs : List α} (hs : Own T sz enc lo h s xs) (he : Ext S h h') (hd : ∀ a, s.a = some a → a.block ∉ S) : Own T sz enc lo h' s xs := by
  refine ⟨hs.1, hs.2.1, fun a ha => ?_⟩
  obtain ⟨b, c, h1, h2, h3, h4⟩ := hs.2.2 a ha
  have := hd a ha
  rw [h1] at this
  exact ⟨b, c, h1, h2, he.get h3 this, h4⟩
theorem Own.mono {lo lo' : Nat} {h : Hp} {s : Sl} {xs : List α} (hs : Own T sz enc lo h s xs) (hl : lo' ≤ lo) : Own T sz enc lo' h s xs := by
  refine ⟨hs.1, hs.2.1, fun a ha => ?_⟩
  obtain ⟨b, c, h1, h2, h3⟩ := hs.2.2 a ha
  exact ⟨b, c, h1, by omega, h3⟩
theorem flatMap_length (he : ∀ x, (enc x).length = sz) (xs : List α) : (xs.flatMap enc).length = xs.length * sz := by
  induction xs with
  | nil => simp
  | cons x xs ih => simp only [List.flatMap_cons, List.length_append, he, ih, List.length_cons, Nat.add_mul, Nat.one_mul]; omega
theorem flatMap_get (he : ∀ x, (enc x).length = sz) : ∀ (xs : List α) (i k : Nat) (hi : i < xs.length), k < sz → (xs.flatMap enc)[i * sz + k]? = (enc xs[i])[k]?
  | [], i, k, hi, _ => by simp at hi
  | x :: xs, 0, k, hi, hk => by
    simp only [List.flatMap_cons, Nat.zero_mul, Nat.zero_add, List.getElem_cons_zero]
    rw [List.getElem?_append_left (by rw [he]; exact hk)]
  | x :: xs, i + 1, k, hi, hk => by
    simp only [List.flatMap_cons, List.getElem_cons_succ]
    rw [List.getElem?_append_right (by rw [he, Nat.add_mul]; omega), he, show (i + 1) * sz + k - sz = i * sz + k by rw [Nat.add_mul]; omega]
    exact flatMap_get he xs i k (by simpa using hi) hk
/-- An element's cell. -/
theorem SlOf.rd {h : Hp} {s : Sl} {xs : List α} (hs : SlOf T sz enc h s xs) (he : ∀ x, (enc x).length = sz) {i : Nat} (hi : i < xs.length) :
    ∃ b o, s.a = some ⟨b, o, none⟩ ∧ ∀ k, k < sz → Go.Lift.rd h ⟨b, o + i * sz + k, none⟩ = (enc xs[i])[k]? := by
  cases hsa : s.a with
  | none => have := hs.2.1 hsa; subst this; simp at hi
  | some a =>
    obtain ⟨b, o, c, fz, h1, h2, h3, h4⟩ := hs.2.2 a hsa
    refine ⟨b, o, by rw [h1], fun k hk => ?_⟩
    rw [rd_blk h2, ← flatMap_get he xs i k hi hk, ← h4]
    have h5 : i * sz + k < s.n * sz := by
      rw [hs.1]
      calc i * sz + k < i * sz + sz := by omega
        _ = (i + 1) * sz := by rw [Nat.add_mul]; omega
        _ ≤ xs.length * sz := Nat.mul_le_mul_right _ hi
    rw [List.getElem?_take_of_lt h5, List.getElem?_drop, Array.getElem?_toList, Nat.add_assoc]
theorem SlOf.cells {h : Hp} {s : Sl} {xs : List α} (hs : SlOf T sz enc h s xs) : cellsAt h s.a (s.n * sz) (xs.flatMap enc) := by
  cases hsa : s.a with
  | none => have := hs.2.1 hsa; subst this; rfl
  | some a =>
    obtain ⟨b, o, c, fz, h1, h2, h3, h4⟩ := hs.2.2 a hsa
    subst h1
    rw [← h4]
    exact cellsAt_blk h2 h3
/-- A slice may be read as a list. -/
def Reads (sz : Nat) (enc : α → List Value) (h : Hp) (s : Sl) (xs : List α) : Prop := s.n = xs.length ∧ (s.a = none → xs = []) ∧ cellsAt h s.a (s.n * sz) (xs.flatMap enc)
theorem SlOf.reads {h : Hp} {s : Sl} {xs : List α} (hs : SlOf T sz enc h s xs) : Reads sz enc h s xs := ⟨hs.1, hs.2.1, hs.cells⟩
theorem rd_ext0 {h h' : Hp} (he : Ext [] h h') {a : Addr} {v : Value} (hr : Go.Lift.rd h a = some v) : Go.Lift.rd h' a = some v := by
  unfold Go.Lift.rd at hr ⊢
  cases hb : h[a.block]? with
  | none => rw [hb] at hr; cases hr
  | some o => rw [he.get hb (by simp)]; rw [hb] at hr; exact hr
theorem cellsAt_ext0 {h h' : Hp} (he : Ext [] h h') {a : Option Addr} {n : Nat} {cs : List Value} (hc : cellsAt h a n cs) : cellsAt h' a n cs := by
  cases a with
  | none => exact hc
  | some a =>
    refine ⟨hc.1, fun i hi => ?_⟩
    have := hc.2 i hi
    rw [List.getElem?_eq_getElem (by rw [hc.1]; exact hi)] at this ⊢
    exact rd_ext0 he this
theorem Reads.ext0 {h h' : Hp} {s : Sl} {xs : List α} (hs : Reads sz enc h s xs) (he : Ext [] h h') : Reads sz enc h' s xs := ⟨hs.1, hs.2.1, cellsAt_ext0 he hs.2.2⟩
theorem Reads.rd {h : Hp} {s : Sl} {xs : List α} (hs : Reads sz enc h s xs) (he : ∀ x, (enc x).length = sz) {i : Nat} (hi : i < xs.length) :
    ∃ a, s.a = some a ∧ ∀ k, k < sz → Go.Lift.rd h (a.add (i * sz + k)) = (enc xs[i])[k]? := by
  cases hsa : s.a with
  | none => have := hs.2.1 hsa; subst this; simp at hi
  | some a =>
    refine ⟨a, rfl, fun k hk => ?_⟩
    have hc := hs.2.2
    rw [hsa] at hc
    rw [← flatMap_get he xs i k hi hk]
    refine hc.2 _ ?_
    rw [hs.1]
    calc i * sz + k < i * sz + sz := by omega
      _ = (i + 1) * sz := by rw [Nat.add_mul]; omega
      _ ≤ xs.length * sz := Nat.mul_le_mul_right _ hi
theorem zeroCells_size (z : Array Value) (n : Nat) : (Builtin.zeroCells z n).size = n * z.size := by simp [Builtin.zeroCells]
theorem Own.blk {lo : Nat} {h : Hp} {s : Sl} {xs : List α} (hs : Own T sz enc lo h s xs) : ∀ b ∈ sBlk s, lo ≤ b := by
  intro b hb
  unfold sBlk at hb
  cases hsa : s.a with
  | none => simp [hsa] at hb
  | some a =>
    obtain ⟨d, c, h1, h2, _⟩ := hs.2.2 a hsa
    simp [hsa, h1] at hb
    omega
/-- Append to a slice that is one's own. -/
theorem app_own {P : Program} {bytes lo m : Nat} {h : Hp} {s : Sl} {xs ys : List α} {new : List Value} {K : Sl → Hp → Prop} (ho : Own T sz enc lo h s xs) (hz : (zc P T).size = sz)
    (he : ∀ x, (enc x).length = sz) (h1 : ∀ x ∈ ys, ∀ v ∈ enc x, oneCell v = true) (hnew : new = ys.flatMap enc) (hm : m = ys.length) (hb : (s.n + m) * bytes ≤ 2 ^ 47) (hb2 : s.n + m ≤ 2 ^ 47) (hlo : lo ≤ h.size)
    (H : ∀ s' h', Own T sz enc lo h' s' (xs ++ ys) → Ext (sBlk s) h h' → s'.n = s.n + m → (∀ b ∈ sBlk s', b ∈ sBlk s ∨ h.size ≤ b) → K s' h') : appS P T bytes sz h s m new K := by
  subst hnew hm
  have hlen := flatMap_length he ys
  refine ⟨⟨hb2, hb, hlen, ?_, fun _ => ⟨_, ho.sl.cells⟩, ?_⟩, ?_⟩
  · intro v hv
    obtain ⟨x, hx1, hx⟩ := List.mem_flatMap.1 hv
    exact h1 x hx1 v hx
  · intro hr a ha
    obtain ⟨b, c, g1, g2, g3, g4, g5, g6⟩ := ho.2.2 a ha
    subst g1
    rw [addr_mk]
    refine stOk_blk g3 ?_
    have := Nat.mul_le_mul_right sz hr
    rw [Nat.add_mul] at this
    omega
  · intro s' h' hap
    cases hap with
    | room a hr ha =>
      obtain ⟨b, c, g1, g2, g3, g4, g5, g6⟩ := ho.2.2 a ha
      subst g1
      have hroom := Nat.mul_le_mul_right sz hr
      rw [Nat.add_mul] at hroom
      rw [addr_mk, wrs_blk _ g3]
      refine H _ _ ⟨by simp [ho.1], fun hn => ?_, fun a' ha' => ?_⟩ ?_ rfl (fun b hb => Or.inl hb)
      · rw [ha] at hn; cases hn
      · rw [ha] at ha'
        cases ha'
        refine ⟨b, _, rfl, g2, set_blk g3, hr, by simpa using g5, ?_⟩
        simp only [Nat.zero_add, Nat.add_zero, Nat.add_mul]
        rw [← hlen, putAt_toList _ _ _ (by omega), g6, List.flatMap_append]
      · unfold sBlk; rw [ha]; exact Ext.set _ _ _
    | none hr ha =>
      obtain ⟨g1, g2⟩ := ho.2.1 ha
      have : ys.length = 0 := by omega
      have hy : ys = [] := List.length_eq_zero_iff.1 this
      subst hy
      refine H _ _ ?_ (Ext.refl _ _) rfl (fun b hb => Or.inl hb)
      simpa using ho
    | grow old cap hr hold hcap =>
      have hold' : old = xs.flatMap enc := by
        cases hsa : s.a with
        | none =>
          rw [hsa] at hold
          have := (ho.2.1 hsa).1
          subst this
          simpa [cellsAt] using hold
        | some a =>
          have h2 := ho.sl.cells
          rw [hsa] at hold h2
          exact cellsAt_det hold h2
      subst hold'
      have hlx := flatMap_length he xs
      refine H _ _ ⟨by simp [ho.1], fun hn => (by cases hn), fun a' ha' => ?_⟩ ((Ext.push _ _ _)) rfl (fun b hb => by simp [sBlk] at hb; right; omega)
      cases ha'
      refine ⟨h.size, _, rfl, hlo, push_get _ _, hcap, ?_, ?_⟩
      · simp only [Array.size_append, zeroCells_size, hz, List.size_toArray, List.length_append, hlx, hlen]
        have : cap * sz = (s.n + ys.length) * sz + (cap - (s.n + ys.length)) * sz := by rw [← Nat.add_mul]; congr 1; omega
        rw [this, Nat.add_mul, ho.1]
        omega
      · simp only [Array.toList_append]
        rw [List.take_append_of_le_length (by simp [hlx, hlen, ho.1, Nat.add_mul])]
        rw [List.take_of_length_le (by simp [hlx, hlen, ho.1, Nat.add_mul]), List.flatMap_append]
theorem Own.fresh {h : Hp} {lo : Nat} (hlo : lo ≤ h.size) : Own T sz enc lo (h.push (.cells #[] T)) ⟨some ⟨h.size, 0, none⟩, 0, 0⟩ [] := by
  refine ⟨rfl, fun hn => (by cases hn), fun a ha => ?_⟩
  cases ha
  exact ⟨h.size, #[], rfl, hlo, push_get _ _, Nat.le_refl _, by simp, by simp⟩
/-- What slices.Clone comes to. -/
theorem clone_body {P : Program} {bytes : Nat} {h : Hp} {s : Sl} {xs : List α} {K : Sl → Hp → Prop} (ho : Reads sz enc h s xs) (hz : (zc P T).size = sz) (he : ∀ x, (enc x).length = sz)
    (h1 : ∀ x, ∀ v ∈ enc x, oneCell v = true) (hb : s.n * bytes ≤ 2 ^ 47) (hb2 : s.n ≤ 2 ^ 47)
    (H : ∀ s' h', Own T sz enc h.size h' s' xs → Ext [] h h' → s'.n = s.n → K s' h') :
    ∃ cs : List Value, cellsAt (h.push (.cells #[] T)) s.a (s.n * sz) cs ∧ appS P T bytes sz (h.push (.cells #[] T)) ⟨some ⟨h.size, 0, none⟩, 0, 0⟩ s.n cs K := by
  refine ⟨_, (ho.ext0 (Ext.push [] h (.cells #[] T))).2.2, ?_⟩
  refine app_own (ys := xs) (Own.fresh (Nat.le_refl _)) hz he (fun x _ => h1 x) rfl ho.1 (by simpa using hb) (by simpa using hb2) (by simp) fun s' h' ho' he' hn' _ => H s' h' (by simpa using ho') ?_ (by simpa using hn')
  refine (Ext.push [] h (.cells #[] T)).trans he' ?_
  intro b hb' hlt
  simp [sBlk] at hb'
  omega
theorem flatMap_set (he : ∀ x, (enc x).length = sz) : ∀ (xs : List α) (i : Nat) (x : α), i < xs.length → (xs.set i x).flatMap enc = (xs.flatMap enc).take (i * sz) ++ enc x ++ (xs.flatMap enc).drop ((i + 1) * sz)
  | [], i, x, hi => by simp at hi
  | y :: xs, 0, x, _ => by
    simp only [List.set_cons_zero, List.flatMap_cons, Nat.zero_mul, List.take_zero, List.nil_append, Nat.zero_add, Nat.one_mul]
    rw [← he y, List.drop_left]
  | y :: xs, i + 1, x, hi => by
    simp only [List.set_cons_succ, List.flatMap_cons, Nat.add_mul, Nat.one_mul]
    rw [flatMap_set he xs i x (by simpa using hi)]
    have h1 : (enc y ++ xs.flatMap enc).take (i * sz + sz) = enc y ++ (xs.flatMap enc).take (i * sz) := by
      rw [Nat.add_comm (i * sz) sz, ← he y, List.take_append]
      simp
      exact List.take_of_length_le (Nat.le_add_right _ _)
    have h2 : (enc y ++ xs.flatMap enc).drop (i * sz + sz + sz) = (xs.flatMap enc).drop ((i + 1) * sz) := by
      rw [show i * sz + sz + sz = sz + (i + 1) * sz by rw [Nat.add_mul]; omega, ← List.drop_drop]
      congr 1
      rw [← he y, List.drop_left]
    rw [h1, h2]
    simp
theorem flatMap_take (he : ∀ x, (enc x).length = sz) (xs : List α) (i : Nat) : (xs.take i).flatMap enc = (xs.flatMap enc).take (i * sz) := by
  induction xs generalizing i with
  | nil => simp
  | cons x xs ih =>
    cases i with
    | zero => simp
    | succ i =>
      simp only [List.take_succ_cons, List.flatMap_cons, ih, Nat.add_mul, Nat.one_mul]
      rw [Nat.add_comm (i * sz) sz, ← he x, List.take_append]
      simp
      exact (List.take_of_length_le (Nat.le_add_right _ _)).symm
theorem putAt_all (c : Array Value) (vs : List Value) {o : Nat} (hl : o + vs.length ≤ c.size) : (putAt c o vs).toList = c.toList.take o ++ vs ++ c.toList.drop (o + vs.length) := by
  apply List.ext_getElem?
  intro i
  rw [Array.getElem?_toList, putAt_get0 c vs o i hl]
  by_cases h1 : i < o
  · rw [if_neg (by omega), List.append_assoc, List.getElem?_append_left (by simp; omega), List.getElem?_take_of_lt h1, Array.getElem?_toList]
  · by_cases h2 : i < o + vs.length
    · rw [if_pos (by omega), List.append_assoc, List.getElem?_append_right (by simp; omega), List.getElem?_append_left (by simp; omega)]
      simp only [List.length_take, Array.length_toList]
      rw [Nat.min_eq_left (by omega)]
    · rw [if_neg (by omega), List.getElem?_append_right (by simp; omega), List.getElem?_drop, Array.getElem?_toList]
      congr 1
      simp
      omega
/-- A cell of one's own is written. -/
theorem Own.set {lo : Nat} {h : Hp} {s : Sl} {xs : List α} (ho : Own T sz enc lo h s xs) (he : ∀ x, (enc x).length = sz) {i : Nat} (hi : i < xs.length) {x : α} {K : Hp → Prop}
    (H : ∀ h1, Own T sz enc lo h1 s (xs.set i x) → Ext (sBlk s) h h1 → K h1) : ∃ a, s.a = some a ∧ stOk h (Addr.add a (i * sz)) sz ∧ wth (wrs h (Addr.add a (i * sz)) 0 (enc x)) K := by
  cases hsa : s.a with
  | none => have := (ho.2.1 hsa).1; subst this; simp at hi
  | some a =>
    obtain ⟨b, c, h1, h2, h3, h4, h5, h6⟩ := ho.2.2 a hsa
    subst h1
    refine ⟨_, rfl, ?_⟩
    have hn := ho.1
    have hsz : i * sz + sz ≤ c.size := by
      have g1 : (i + 1) * sz ≤ s.c * sz := Nat.mul_le_mul_right sz (by omega)
      rw [Nat.add_mul] at g1
      omega
    have hlen := flatMap_length he xs
    have hfull : i * sz + sz ≤ s.n * sz := by
      have g1 : (i + 1) * sz ≤ s.n * sz := Nat.mul_le_mul_right sz (by omega)
      rw [Nat.add_mul] at g1
      omega
    rw [addr_mk, Nat.zero_add]
    refine st_blk h3 hsz fun h7 s7 b7 e7 => ?_
    refine H h7 ⟨by simp [hn], fun e => (by rw [hsa] at e; cases e), fun a' ha' => ?_⟩ (by unfold sBlk; rw [hsa]; exact e7)
    rw [hsa] at ha'
    cases ha'
    refine ⟨b, _, rfl, h2, b7, h4, by simpa using h5, ?_⟩
    rw [putAt_all _ _ (by rw [he]; omega), flatMap_set he xs i x hi, ← h6, he]
    rw [List.take_take, Nat.min_eq_left (by omega)]
    have e2 : (List.take (s.n * sz) c.toList).drop ((i + 1) * sz) = (c.toList.drop (i * sz + sz)).take (s.n * sz - (i * sz + sz)) := by
      rw [List.drop_take, Nat.add_mul, Nat.one_mul]
    rw [e2, List.take_append]
    have e3 : (List.take (i * sz) c.toList ++ enc x).length = i * sz + sz := by simp [he]; omega
    rw [e3, List.take_of_length_le (by rw [e3]; omega)]
/-- One element is appended to a slice that is one's own. -/
theorem app1 {P : Program} {bytes lo : Nat} {h : Hp} {s : Sl} {xs : List α} {x : α} {K : Sl → Hp → Prop} {cx : Array Value} (ho : Own T sz enc lo h s xs) (hcx : cx = (enc x).toArray) (hz : (zc P T).size = sz)
    (he : ∀ x, (enc x).length = sz) (h1 : ∀ x, ∀ v ∈ enc x, oneCell v = true) (hl : xs.length < 2 ^ 36) (hb : bytes ≤ 1024) (hlo : lo ≤ h.size)
    (H : ∀ s' h', Own T sz enc lo h' s' (xs ++ [x]) → Ext (sBlk s) h h' → (∀ b ∈ sBlk s', b ∈ sBlk s ∨ h.size ≤ b) → K s' h') :
    wth (h.push (.cells cx T)) fun h1 => ∃ cs : List Value, cellsAt h1 (some ⟨h.size, 0, none⟩) (1 * sz) cs ∧ appS P T bytes sz h1 s 1 cs K := by
  rw [wthE, hcx]
  have hn := ho.1
  have e1 := Ext.push [] h (.cells (enc x).toArray T)
  refine ⟨enc x, ?_, ?_⟩
  · have := cellsAt_blk (push_get h (.cells (enc x).toArray T)) (o := 0) (n := 1 * sz) (by simp [he])
    rw [List.drop_zero, List.take_of_length_le (by simp [he])] at this
    exact this
  · refine app_own (ys := [x]) (ho.ext0 e1) hz he (fun x _ => h1 x) (by simp) rfl ?_ (by omega) (by simp; omega) fun s' h' ho' he' hn' hbl => H s' h' ho' ?_ fun b hb => (hbl b hb).imp id fun g => by simp at g; omega
    · calc (s.n + 1) * bytes ≤ 2 ^ 37 * 1024 := Nat.mul_le_mul (by omega) hb
        _ = 2 ^ 47 := by decide
    · exact (e1.mono (by simp)).trans he' fun b hb _ => hb
end
end Go.Lift

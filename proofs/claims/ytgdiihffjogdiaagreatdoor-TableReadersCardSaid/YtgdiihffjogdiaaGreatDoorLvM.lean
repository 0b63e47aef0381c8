/- Blocks of memory, what a write changes, and what stays. -/
import Derived.Test.YtgdiihffjogdiaaGreatDoorLvL
set_option linter.unusedSimpArgs false
set_option linter.unusedVariables false
namespace Go.Lift
open Go

@[simp] theorem addr0 (a : Addr) : Addr.add a 0 = a := rfl
@[simp] theorem addr_mk (b o n : Nat) : Addr.add ⟨b, o, none⟩ n = ⟨b, o + n, none⟩ := by
  unfold Addr.add; split <;> simp_all
theorem addr_add_add (a : Addr) (x y : Nat) : Addr.add (Addr.add a x) y = Addr.add a (x + y) := by
  unfold Addr.add
  by_cases h1 : x = 0 <;> by_cases h2 : y = 0 <;> simp [h1, h2, Nat.add_assoc]
abbrev Blk (h : Hp) (b : Nat) (c : Array Value) (T : TypeId) : Prop := h[b]? = some (.cells c T (0, 0))
def putAt (c : Array Value) (o : Nat) : List Value → Array Value
  | [] => c
  | v :: vs => putAt (c.setIfInBounds o v) (o + 1) vs
@[simp] theorem putAt_size (c : Array Value) (o : Nat) (vs : List Value) : (putAt c o vs).size = c.size := by
  induction vs generalizing c o with
  | nil => rfl
  | cons v vs ih => simp [putAt, ih]
theorem blk_lt {h : Hp} {b : Nat} {o : Obj} (hb : h[b]? = some o) : b < h.size := by
  rcases Nat.lt_or_ge b h.size with g | g
  · exact g
  · simp [Array.getElem?_eq_none g] at hb
theorem rd_blk {h : Hp} {b : Nat} {c : Array Value} {T : TypeId} {fz : Nat × Nat} (hb : h[b]? = some (.cells c T fz)) (o : Nat) : rd h ⟨b, o, none⟩ = c[o]? := by
  simp [rd, hb]
theorem frz_blk {h : Hp} {b : Nat} {c : Array Value} {T : TypeId} (hb : Blk h b c T) (o : Nat) : frz h ⟨b, o, none⟩ = false := by
  simp [frz, hb]
theorem wr1_blk {h : Hp} {b : Nat} {c : Array Value} {T : TypeId} (hb : Blk h b c T) (o : Nat) (v : Value) :
    wr1 h ⟨b, o, none⟩ v = h.setIfInBounds b (.cells (c.setIfInBounds o v) T (0, 0)) := by
  apply Array.ext_getElem?
  intro i
  simp only [wr1, Array.getElem?_modify, Array.getElem?_setIfInBounds]
  by_cases e : b = i
  · subst e
    have := blk_lt hb
    rw [if_pos rfl, if_pos rfl, hb, if_pos this]
    simp
  · simp [e]
theorem set_blk {h : Hp} {b : Nat} {o o' : Obj} (hb : h[b]? = some o) : (h.setIfInBounds b o')[b]? = some o' := by
  simp [Array.getElem?_setIfInBounds, blk_lt hb]
theorem wrs_blk {b : Nat} {T : TypeId} (vs : List Value) : ∀ {h : Hp} {c : Array Value} (_ : Blk h b c T) (o i : Nat),
    wrs h ⟨b, o, none⟩ i vs = h.setIfInBounds b (.cells (putAt c (o + i) vs) T (0, 0)) := by
  induction vs with
  | nil =>
    intro h c hb o i
    apply Array.ext_getElem?
    intro j
    by_cases e : b = j
    · subst e; rw [set_blk hb]; exact hb
    · simp [wrs, Array.getElem?_setIfInBounds, e]
  | cons v vs ih =>
    intro h c hb o i
    simp only [wrs, putAt, addr_mk]
    rw [wr1_blk hb, ih (c := c.setIfInBounds (o + i) v) (set_blk hb)]
    simp [Array.setIfInBounds_setIfInBounds, Nat.add_assoc]
theorem stOk_blk {h : Hp} {b : Nat} {c : Array Value} {T : TypeId} (hb : Blk h b c T) {o n : Nat} (hl : o + n ≤ c.size) : stOk h ⟨b, o, none⟩ n := by
  intro i hi
  simp only [addr_mk, rd_blk hb, frz_blk hb, and_true]
  rw [Array.getElem?_eq_getElem (by omega)]
  rfl

theorem putAt_toList (c : Array Value) (vs : List Value) : ∀ (o : Nat), o + vs.length ≤ c.size → (putAt c o vs).toList.take (o + vs.length) = c.toList.take o ++ vs := by
  intro o hl
  induction vs generalizing c o with
  | nil => simp [putAt]
  | cons v vs ih =>
    simp only [List.length_cons] at hl
    simp only [putAt, List.length_cons]
    rw [show o + (vs.length + 1) = o + 1 + vs.length by omega, ih _ _ (by simp; omega)]
    rw [Array.toList_setIfInBounds]
    have : (c.toList.set o v).take (o + 1) = c.toList.take o ++ [v] := by
      rw [List.take_add_one, List.getElem?_set_self (by simp; omega), List.take_set_of_le (Nat.le_refl _)]
      rfl
    rw [this, List.append_assoc]
    rfl
theorem putAt_toList0 (c : Array Value) (vs : List Value) (hl : vs.length ≤ c.size) : (putAt c 0 vs).toList.take vs.length = vs := by
  have := putAt_toList c vs 0 (by omega)
  simpa using this
theorem putAt_get0 (c : Array Value) (vs : List Value) : ∀ (o i : Nat), o + vs.length ≤ c.size → (putAt c o vs)[i]? = if o ≤ i ∧ i < o + vs.length then vs[i - o]? else c[i]? := by
  induction vs generalizing c with
  | nil => intro o i _; simp [putAt]; omega
  | cons v vs ih =>
    intro o i hl
    simp only [List.length_cons] at hl
    simp only [putAt]
    rw [ih _ _ _ (by simp; omega), Array.getElem?_setIfInBounds]
    simp only [List.length_cons]
    by_cases e : o = i
    · subst e
      rw [if_neg (by omega), if_pos rfl, if_pos (by omega), if_pos (by omega)]
      simp
    · rw [if_neg e]
      by_cases g : o + 1 ≤ i ∧ i < o + 1 + vs.length
      · rw [if_pos g, if_pos (by omega), show i - o = (i - (o + 1)) + 1 by omega]
        rfl
      · rw [if_neg g, if_neg (by omega)]
theorem wthE (h : Hp) (K : Hp → Prop) : wth h K = K h := rfl
structure Ext (S : List Nat) (h h' : Hp) : Prop where
  sz : h.size ≤ h'.size
  old : ∀ b, b < h.size → b ∉ S → h'[b]? = h[b]?
theorem Ext.refl (S : List Nat) (h : Hp) : Ext S h h := ⟨Nat.le_refl _, fun _ _ _ => rfl⟩
theorem Ext.get {S : List Nat} {h h' : Hp} (he : Ext S h h') {b : Nat} {o : Obj} (hb : h[b]? = some o) (hn : b ∉ S) : h'[b]? = some o := by
  rw [he.old b (blk_lt hb) hn, hb]
theorem Ext.mono {S S' : List Nat} {h h' : Hp} (he : Ext S h h') (hs : ∀ b ∈ S, b < h.size → b ∈ S') : Ext S' h h' :=
  ⟨he.sz, fun b h1 h2 => he.old b h1 fun h3 => h2 (hs b h3 h1)⟩
theorem Ext.trans {S S' : List Nat} {h h' h'' : Hp} (he : Ext S h h') (hf : Ext S' h' h'') (hs : ∀ b ∈ S', b < h.size → b ∈ S) : Ext S h h'' :=
  ⟨Nat.le_trans he.sz hf.sz, fun b h1 h2 => by rw [hf.old b (by have := he.sz; omega) fun h3 => h2 (hs b h3 h1), he.old b h1 h2]⟩
theorem Ext.push (S : List Nat) (h : Hp) (o : Obj) : Ext S h (h.push o) :=
  ⟨by simp, fun b h1 _ => by rw [Array.getElem?_push]; simp [Nat.ne_of_lt h1]⟩
theorem Ext.trans0 {S : List Nat} {h h' h'' : Hp} (he : Ext S h h') (hf : Ext [] h' h'') : Ext S h h'' := he.trans hf (by simp)
theorem Ext.set (h : Hp) (b : Nat) (o : Obj) : Ext [b] h (h.setIfInBounds b o) :=
  ⟨by simp, fun c h1 h2 => by rw [Array.getElem?_setIfInBounds]; simp at h2; simp [Ne.symm h2]⟩
theorem push_old {h : Hp} {b : Nat} {o : Obj} (hb : h[b]? = some o) (x : Obj) : (h.push x)[b]? = some o := (Ext.push [] h x).get hb (by simp)

/-- A write into a known block. -/
theorem st_blk {h : Hp} {b : Nat} {c : Array Value} {T : TypeId} (hb : Blk h b c T) {o n : Nat} {vs : List Value} {K : Hp → Prop} (hl : o + n ≤ c.size)
    (H : ∀ h1 : Hp, h1.size = h.size → Blk h1 b (putAt c o vs) T → Ext [b] h h1 → K h1) :
    stOk h ⟨b, o, none⟩ n ∧ wth (wrs h ⟨b, o, none⟩ 0 vs) K := by
  refine ⟨stOk_blk hb hl, ?_⟩
  unfold wth
  rw [wrs_blk vs hb]
  exact H _ (by simp) (set_blk hb) (Ext.set _ _ _)

/-! ### a block that was just made -/
section
variable (h : Hp) (c : Array Value) (T : TypeId) (o i n : Nat) (vs : List Value)
theorem push_get (ob : Obj) : (h.push ob)[h.size]? = some ob := by simp
@[simp] theorem rd_push : rd (h.push (.cells c T)) ⟨h.size, o, none⟩ = c[o]? := rd_blk (push_get h _) o
@[simp] theorem wrs_push : wrs (h.push (.cells c T)) ⟨h.size, o, none⟩ i vs = h.push (.cells (putAt c (o + i) vs) T) := by
  rw [wrs_blk vs (push_get h _)]
  apply Array.ext_getElem?
  intro j
  simp only [Array.getElem?_setIfInBounds, Array.getElem?_push, Array.size_push]
  by_cases e : h.size = j
  · subst e; simp
  · simp [e, Ne.symm e]
@[simp] theorem stOk_push : stOk (h.push (.cells c T)) ⟨h.size, o, none⟩ (n + 1) ↔ o + n < c.size := by
  constructor
  · intro H
    have := (H n (by omega)).1
    simp only [addr_mk, rd_push] at this
    rcases Nat.lt_or_ge (o + n) c.size with g | g
    · exact g
    · simp [Array.getElem?_eq_none g] at this
  · intro H; exact stOk_blk (push_get h _) (by omega)
end

/-! ### a block under the last one made -/
/-- A variable that is made and set at once. -/
theorem varI {h : Hp} {c : Array Value} {T : TypeId} {n : Nat} {vs : List Value} {K : Hp → Prop} (hn : n = vs.length) (hc : c.size = vs.length)
    (H : ∀ h1 : Hp, h1.size = h.size + 1 → Blk h1 h.size vs.toArray T → Ext [] h h1 → K h1) :
    wth (h.push (.cells c T)) fun h1 => stOk h1 ⟨h.size, 0, none⟩ n ∧ wth (wrs h1 ⟨h.size, 0, none⟩ 0 vs) K := by
  rw [wthE]
  refine st_blk (push_get h _) (by omega) fun h1 s1 b1 e1 => ?_
  have : putAt c 0 vs = vs.toArray := by
    apply Array.ext'
    have g := putAt_toList0 c vs (by omega)
    rw [List.take_of_length_le (by simp; omega)] at g
    rw [g]
  rw [this] at b1
  refine H h1 (by rw [s1]; simp) b1 ((Ext.push [] h _).trans e1 ?_)
  intro b hb hlt
  simp at hb; omega
theorem newI {h : Hp} {X : Obj} {K : Hp → Prop} (H : ∀ h1 : Hp, h1.size = h.size + 1 → h1[h.size]? = some X → Ext [] h h1 → K h1) : wth (h.push X) K :=
  H _ (by simp) (push_get h X) (Ext.push _ _ _)

/-! ### a run of cells as a list -/
theorem cellsAt_blk {h : Hp} {b : Nat} {c : Array Value} {T : TypeId} {fz : Nat × Nat} (hb : h[b]? = some (.cells c T fz)) {o n : Nat} (hl : o + n ≤ c.size) :
    cellsAt h (some ⟨b, o, none⟩) n ((c.toList.drop o).take n) := by
  refine ⟨by simp; omega, fun i hi => ?_⟩
  simp only [addr_mk, rd_blk hb]
  rw [List.getElem?_take_of_lt hi, List.getElem?_drop]
  simp
theorem cellsAt_det {h : Hp} {a : Addr} {n : Nat} {cs ds : List Value} (h1 : cellsAt h (some a) n cs) (h2 : cellsAt h (some a) n ds) : cs = ds := by
  apply List.ext_getElem?
  intro i
  rcases Nat.lt_or_ge i n with g | g
  · rw [← h1.2 i g, ← h2.2 i g]
  · rw [List.getElem?_eq_none (by rw [h1.1]; exact g), List.getElem?_eq_none (by rw [h2.1]; exact g)]

theorem wrap64 {x : Int} (h1 : -9223372036854775808 ≤ x) (h2 : x ≤ 9223372036854775807) : IntKind.wrap .i64 x = x :=
  wrap_i64 (by omega) (by omega)
end Go.Lift

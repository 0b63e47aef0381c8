/- Parts of slices, and what is put behind them, for cells of any number. -/
import Derived.Test.YtdgkfjbmlfmimaaGreatLvX
import Derived.Test.YtdgkfjbmlfmimaaGreatLvV
set_option linter.unusedSimpArgs false
set_option linter.unusedVariables false
namespace Go.Lift
open Go
section
variable {α : Type} {T : TypeId} {sz : Nat} {enc : α → List Value} {g : Hp}
theorem bytes_le36 {bytes n : Nat} (hby : bytes ≤ 1024) (hn : n ≤ 2 ^ 36) : n * bytes ≤ 2 ^ 47 := by
 have := Nat.mul_le_mul hn hby
 have e : 2 ^ 36 * 1024 ≤ 2 ^ 47 := by decide
 omega
variable {P : Program} {bytes : Nat} (hen : ∀ x, (enc x).length = sz) (hone : ∀ x, ∀ v ∈ enc x, oneCell v = true) (hz : (zc P T).size = sz) (hby : bytes ≤ 1024)
include hen hone hz hby
/-- What is read, put behind an empty slice. -/
theorem clG {lo' f m : Nat} {ad : Option Addr} {ys : List α} {K : Sl → Hp → Prop} (hc : cellsAt g ad (m * sz) (ys.flatMap enc)) (hm : m = ys.length) (hl : m ≤ 2 ^ 30) (hf : Blk g f #[] T) (hlf : lo' ≤ f)
  (H : ∀ s' g', Own T sz enc lo' g' s' ys → Ext [f] g g' → (∀ b ∈ sBlk s', b = f ∨ g.size ≤ b) → K s' g') :
  ∃ cs : List Value, cellsAt g ad (m * sz) cs ∧ appS P T bytes sz g ⟨some ⟨f, 0, none⟩, 0, 0⟩ m cs K := by
 refine ⟨_, hc, ?_⟩
 have hfs : sBlk ⟨some ⟨f, 0, none⟩, 0, 0⟩ = [f] := rfl
 refine app_own (ys := ys) (Own.emptyG (lo := lo') hf hlf) hz hen (fun x _ => hone x) rfl hm (bytes_le36 hby (by simp only; omega)) (by simp only; omega) (by have := blk_lt hf; omega) fun l1 g1 h1 he1 hn1 hb1 => ?_
 rw [hfs] at he1 hb1
 exact H l1 g1 (by simpa using h1) he1 fun b hb => by simpa using hb1 b hb
/-- A cell's element, put behind one's own. -/
theorem oneG {lo' bk : Nat} {k : α} {l1 : Sl} {ys : List α} {K : Sl → Hp → Prop} (h1 : Own T sz enc lo' g l1 ys) (hb : Blk g bk (enc k).toArray T) (hly : ys.length ≤ 2 ^ 30) (hlo : lo' ≤ g.size)
  (H : ∀ s' g', Own T sz enc lo' g' s' (ys ++ [k]) → Ext (sBlk l1) g g' → (∀ b ∈ sBlk s', b ∈ sBlk l1 ∨ g.size ≤ b) → K s' g') :
  ∃ cs2 : List Value, cellsAt g (some ⟨bk, 0, none⟩) (1 * sz) cs2 ∧ appS P T bytes sz g ⟨l1.a, l1.n, l1.c⟩ 1 cs2 K := by
 have hn1 := h1.1
 refine ⟨enc k, ?_, ?_⟩
 ·have := cellsAt_blk hb (o := 0) (n := 1 * sz) (by simp [hen])
  rw [List.drop_zero, List.take_of_length_le (by simp [hen])] at this
  exact this
 ·exact app_own (ys := [k]) h1 hz hen (fun x _ => hone x) (by simp) rfl (bytes_le36 hby (by simp only; omega)) (by simp only; omega) hlo fun l2 g2 h2 he2 hn2 hb2 => H l2 g2 h2 he2 hb2
/-- A list is read and one is put behind it, in a new slice: both, one behind the other. -/
theorem clOneG {lo' f bk m : Nat} {s : Sl} {k : α} {ys : List α} {K : Sl → Hp → Prop} (hc : Reads sz enc g s ys) (hm : m = s.n) (hl : ys.length ≤ 2 ^ 30) (hf : Blk g f #[] T) (hlf : lo' ≤ f) (hb : Blk g bk (enc k).toArray T) (hbf : bk ≠ f)
  (H : ∀ s' g', Own T sz enc lo' g' s' (ys ++ [k]) → Ext [f] g g' → K s' g') :
  ∃ cs : List Value, cellsAt g s.a (m * sz) cs ∧ appS P T bytes sz g ⟨some ⟨f, 0, none⟩, 0, 0⟩ m cs fun l1 g1 =>
  ∃ cs2 : List Value, cellsAt g1 (some ⟨bk, 0, none⟩) (1 * sz) cs2 ∧ appS P T bytes sz g1 ⟨l1.a, l1.n, l1.c⟩ 1 cs2 K := by
 subst hm
 have hn := hc.1
 refine clG hen hone hz hby hc.2.2 hn (by omega) hf hlf fun l1 g1 h1 he1 hb1 => ?_
 have hz1 := he1.sz
 have hfg := blk_lt hf
 refine oneG hen hone hz hby h1 (he1.get hb (by simp; exact hbf)) hl (by omega) fun s' g' ho' he' hb' => H s' g' ho' (he1.trans he' fun b hb hlt => ?_)
 rcases hb1 b hb with q | q
 ·simp [q]
 ·omega
end
section
variable {α : Type} {T : TypeId} {sz : Nat} {enc : α → List Value} {lo : Nat} {g : Hp} {s : Sl} {xs : List α}
theorem Own.capN (ho : Own T sz enc lo g s xs) : s.n ≤ s.c := by
 cases hsa : s.a with
 | none => have := ho.1; rw [(ho.2.1 hsa).1] at this; simp at this; omega
 | some a =>
  obtain ⟨b, c, h1, h2, h3, h4, h5, h6⟩ := ho.2.2 a hsa
  exact h4
theorem flatMap_dropN (hen : ∀ x, (enc x).length = sz) (xs : List α) (c : Nat) : (xs.drop c).flatMap enc = (xs.flatMap enc).drop (c * sz) := by
 induction xs generalizing c with
 | nil => simp
 | cons x xs ih =>
  cases c with
  | zero => simp
  | succ c =>
   rw [List.drop_succ_cons, ih, List.flatMap_cons, List.drop_append, hen, List.drop_eq_nil_of_le (as := enc x) (by rw [hen, Nat.add_mul]; omega), List.nil_append, Nat.add_mul, Nat.one_mul, Nat.add_sub_cancel]
/-- The elements from one on up to another one. -/
theorem partCN (hen : ∀ x, (enc x).length = sz) (ho : Own T sz enc lo g s xs) {i j : Nat} (hij : i ≤ j) (hj : j ≤ xs.length) : cellsAt g (slAd s.a i s.c sz) ((j - i) * sz) (((xs.take j).drop i).flatMap enc) := by
 have hn := ho.1
 cases hsa : s.a with
 | none =>
  have := (ho.2.1 hsa).1
  subst this
  simp only [List.length_nil] at hj
  have e1 : j = 0 := by omega
  have e2 : i = 0 := by omega
  subst e1 e2
  unfold slAd
  split <;> simp [cellsAt]
 | some a =>
  obtain ⟨b, c, rfl, h2, h3, h4, h5, h6⟩ := ho.2.2 a hsa
  have hsub := Nat.mul_le_mul_right sz hij
  have hjn : j * sz ≤ s.n * sz := Nat.mul_le_mul_right sz (by omega)
  have hnc : s.n * sz ≤ s.c * sz := Nat.mul_le_mul_right sz h4
  have he : (j - i) * sz = j * sz - i * sz := Nat.sub_mul ..
  have hfl : (xs.flatMap enc).length = s.n * sz := by rw [flatMap_length hen, hn]
  have hcells : ((xs.take j).drop i).flatMap enc = (c.toList.drop (i * sz)).take (j * sz - i * sz) := by
   rw [flatMap_dropN hen, flatMap_take hen, ← h6, List.take_take, Nat.min_eq_left hjn, List.drop_take]
  unfold slAd
  by_cases hci : s.c = i
  ·rw [if_pos hci]
   have : j = i := by omega
   subst this
   rw [Nat.sub_self, Nat.zero_mul, hcells, Nat.sub_self, List.take_zero]
   exact ⟨rfl, fun k hk => by omega⟩
  ·rw [if_neg hci]
   simp only [Option.map_some, addr_mk]
   rw [hcells, he]
   have := cellsAt_blk h3 (o := i * sz) (n := j * sz - i * sz) (by omega)
   simpa using this
theorem takeCN (hen : ∀ x, (enc x).length = sz) (ho : Own T sz enc lo g s xs) {c : Nat} (hc : c ≤ xs.length) : cellsAt g (slAd s.a 0 s.c sz) ((c - 0) * sz) ((xs.take c).flatMap enc) := by
 have := partCN hen ho (i := 0) (j := c) (by omega) hc
 simpa using this
theorem dropCN (hen : ∀ x, (enc x).length = sz) (ho : Own T sz enc lo g s xs) {c : Nat} (hc : c ≤ xs.length) : cellsAt g (slAd s.a c s.c sz) ((s.n - c) * sz) ((xs.drop c).flatMap enc) := by
 have := partCN hen ho (i := c) (j := s.n) (by have := ho.1; omega) (by have := ho.1; omega)
 rw [List.take_of_length_le (by have := ho.1; omega)] at this
 exact this
end
end Go.Lift

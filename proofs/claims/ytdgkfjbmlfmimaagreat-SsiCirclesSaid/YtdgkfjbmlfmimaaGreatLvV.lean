/- Parts of slices of one cell an element, put one behind the other. -/
import Derived.Test.YtdgkfjbmlfmimaaGreatLvS
set_option linter.unusedSimpArgs false
set_option linter.unusedVariables false
namespace Go.Lift
open Go
theorem bytes_le {bytes n : Nat} (hby : bytes ≤ 1024) (hn : n ≤ 2 ^ 32) : n * bytes ≤ 2 ^ 47 := by
  calc n * bytes ≤ 2 ^ 32 * 1024 := Nat.mul_le_mul hn hby
    _ ≤ 2 ^ 47 := by decide
section
variable {α : Type} {T : TypeId} {enc : α → List Value} {lo : Nat} {g : Hp} {s : Sl} {xs : List α}
theorem Own.takeG (hen : ∀ x, (enc x).length = 1) (ho : Own T 1 enc lo g s xs) {c : Nat} (hc : c ≤ xs.length) : Own T 1 enc lo g ⟨s.a, c, s.c⟩ (xs.take c) := by
  have hV := ho.toV hen
  have hfl : (xs.flatMap enc).length = xs.length := by rw [flatMap_length hen]; omega
  have := hV.takeV (i := c) (by rw [hfl]; exact hc)
  refine Own.ofV hen ?_
  rw [flatMap_take hen, Nat.mul_one]
  exact this
theorem flatMap_dropG (hen : ∀ x, (enc x).length = 1) (xs : List α) (c : Nat) : (xs.drop c).flatMap enc = (xs.flatMap enc).drop c := by
  induction xs generalizing c with
  | nil => simp
  | cons x xs ih =>
    cases c with
    | zero => rfl
    | succ c =>
      rw [List.drop_succ_cons, ih, List.flatMap_cons, List.drop_append, hen, List.drop_eq_nil_of_le (as := enc x) (by rw [hen]; omega), List.nil_append, Nat.add_sub_cancel]
theorem Own.capG (ho : Own T 1 enc lo g s xs) : s.n ≤ s.c := by
  cases hsa : s.a with
  | none => have := ho.1; rw [(ho.2.1 hsa).1] at this; simp at this; omega
  | some a =>
    obtain ⟨b, c, h1, h2, h3, h4, h5, h6⟩ := ho.2.2 a hsa
    exact h4
theorem takeCG (hen : ∀ x, (enc x).length = 1) (ho : Own T 1 enc lo g s xs) {c : Nat} (hc : c ≤ xs.length) : cellsAt g (slAd s.a 0 s.c 1) ((c - 0) * 1) ((xs.take c).flatMap enc) := by
  rw [slAd0]
  exact (ho.takeG hen hc).sl.reads.2.2
theorem dropCG (hen : ∀ x, (enc x).length = 1) (ho : Own T 1 enc lo g s xs) {c : Nat} (hc : c ≤ xs.length) : cellsAt g (slAd s.a c s.c 1) ((s.n - c) * 1) ((xs.drop c).flatMap enc) := by
  have hn := ho.1
  rcases Nat.lt_or_ge c xs.length with g1 | g1
  · have hne : s.a ≠ none := by
      intro e
      have := (ho.2.1 e).1
      subst this
      simp at g1
    have hfl : (xs.flatMap enc).length = xs.length := by rw [flatMap_length hen]; omega
    have := (ho.toV hen).cellsV hne (o := c) (n := s.n - c) (by omega) (by omega)
    rw [List.take_of_length_le (by simp [hfl]; omega), ← flatMap_dropG hen] at this
    rw [Nat.mul_one]
    exact this
  · rw [List.drop_eq_nil_of_le g1, show s.n - c = 0 by omega]
    cases slAd s.a c s.c 1 with
    | none => rfl
    | some a => exact ⟨rfl, fun i hi => by omega⟩
theorem Own.emptyG {sz : Nat} {f : Nat} (hf : Blk g f #[] T) (hlf : lo ≤ f) : Own T sz enc lo g ⟨some ⟨f, 0, none⟩, 0, 0⟩ [] := ⟨rfl, fun e => (by cases e), fun a ha => by cases ha; exact ⟨f, _, rfl, hlf, hf, Nat.le_refl _, by simp, by simp⟩⟩
theorem own_ltG {sz : Nat} (ho : Own T sz enc lo g s xs) : ∀ b ∈ sBlk s, lo ≤ b ∧ b < g.size := by
  intro b hb
  refine ⟨ho.blk b hb, ?_⟩
  obtain ⟨a, ha, hab⟩ := mem_sBlk.1 hb
  obtain ⟨b', c', q1, _, q3, _⟩ := ho.2.2 a ha
  have := blk_lt q3
  rw [q1] at hab
  simp at hab
  omega
variable {P : Program} {bytes : Nat} (hen : ∀ x, (enc x).length = 1) (hone : ∀ x, ∀ v ∈ enc x, oneCell v = true) (hz : (zc P T).size = 1) (hby : bytes ≤ 1024)
include hen hone hz hby
/-- One element is put behind a part, and another part behind it. -/
theorem app23G {lo' bk p : Nat} {k : α} {l1 : Sl} {ys : List α} {K : Sl → Hp → Prop} (ho : Own T 1 enc lo g s xs) (h1 : Own T 1 enc lo' g l1 ys) (hb : Blk g bk (enc k).toArray T) (hsl : ∀ b ∈ sBlk s, b ∉ sBlk l1)
    (hp : p ≤ xs.length) (hl : xs.length ≤ 2 ^ 30) (hly : ys.length ≤ 2 ^ 30) (hlo : lo' ≤ g.size)
    (H : ∀ s' g', Own T 1 enc lo' g' s' (ys ++ [k] ++ xs.drop p) → Ext (sBlk l1) g g' → K s' g') :
    ∃ cs2 : List Value, cellsAt g (some ⟨bk, 0, none⟩) (1 * 1) cs2 ∧ appS P T bytes 1 g ⟨l1.a, l1.n, l1.c⟩ 1 cs2 fun l2 g2 =>
      ∃ cs3 : List Value, cellsAt g2 (slAd s.a p s.c 1) ((s.n - p) * 1) cs3 ∧ appS P T bytes 1 g2 ⟨l2.a, l2.n, l2.c⟩ (s.n - p) cs3 K := by
  have hn := ho.1
  have hn1 := h1.1
  refine ⟨enc k, ?_, ?_⟩
  · have := cellsAt_blk hb (o := 0) (n := 1 * 1) (by simp [hen])
    rw [List.drop_zero, List.take_of_length_le (by simp [hen])] at this
    exact this
  · refine app_own (ys := [k]) h1 hz hen (fun x _ => hone x) (by simp) rfl (bytes_le hby (by simp only; omega)) (by simp only; omega) hlo fun l2 g2 h2 he2 hn2 hb2 => ?_
    have ho2 := ho.ext he2 fun a ha hm => hsl _ (mem_sBlk.2 ⟨a, ha, rfl⟩) hm
    refine ⟨_, dropCG hen ho2 hp, ?_⟩
    have hn2' := h2.1
    simp only [List.length_append, List.length_cons, List.length_nil] at hn2'
    refine app_own (ys := xs.drop p) h2 hz hen (fun x _ => hone x) rfl (by simp; omega) (bytes_le hby (by simp only; omega)) (by simp only; omega) (by have := he2.sz; omega) fun l3 g3 h3 he3 hn3 hb3 => H l3 g3 (by simpa using h3) ?_
    refine he2.trans he3 fun b hb hlt => ?_
    rcases hb2 b hb with q | q
    · exact q
    · omega
/-- A part of a slice, put behind an empty one. -/
theorem app1sG {lo' f m : Nat} {ad : Option Addr} {ys : List α} {K : Sl → Hp → Prop} (hc : cellsAt g ad (m * 1) (ys.flatMap enc)) (hm : m = ys.length) (hl : m ≤ 2 ^ 30) (hf : Blk g f #[] T) (hlf : lo' ≤ f)
    (H : ∀ s' g', Own T 1 enc lo' g' s' ys → Ext [f] g g' → (∀ b ∈ sBlk s', b = f ∨ g.size ≤ b) → K s' g') :
    ∃ cs : List Value, cellsAt g ad (m * 1) cs ∧ appS P T bytes 1 g ⟨some ⟨f, 0, none⟩, 0, 0⟩ m cs K := by
  refine ⟨_, hc, ?_⟩
  have hfs : sBlk ⟨some ⟨f, 0, none⟩, 0, 0⟩ = [f] := rfl
  refine app_own (ys := ys) (Own.emptyG (lo := lo') hf hlf) hz hen (fun x _ => hone x) rfl hm (bytes_le hby (by simp only; omega)) (by simp only; omega) (by have := blk_lt hf; omega) fun l1 g1 h1 he1 hn1 hb1 => ?_
  rw [hfs] at he1 hb1
  exact H l1 g1 (by simpa using h1) he1 fun b hb => by simpa using hb1 b hb
/-- The two parts of a slice, and one between them, put behind an empty slice. -/
theorem app3G {lo' f bk p : Nat} {k : α} {K : Sl → Hp → Prop} (ho : Own T 1 enc lo g s xs) (hf : Blk g f #[] T) (hlf : lo' ≤ f) (hb : Blk g bk (enc k).toArray T) (hbf : bk ≠ f) (hsf : f ∉ sBlk s)
    (hp : p ≤ xs.length) (hl : xs.length ≤ 2 ^ 30)
    (H : ∀ s' g', Own T 1 enc lo' g' s' (xs.take p ++ [k] ++ xs.drop p) → Ext [f] g g' → K s' g') :
    ∃ cs : List Value, cellsAt g (slAd s.a 0 s.c 1) ((p - 0) * 1) cs ∧ appS P T bytes 1 g ⟨some ⟨f, 0, none⟩, 0, 0⟩ (p - 0) cs fun l1 g1 =>
    ∃ cs2 : List Value, cellsAt g1 (some ⟨bk, 0, none⟩) (1 * 1) cs2 ∧ appS P T bytes 1 g1 ⟨l1.a, l1.n, l1.c⟩ 1 cs2 fun l2 g2 =>
      ∃ cs3 : List Value, cellsAt g2 (slAd s.a p s.c 1) ((s.n - p) * 1) cs3 ∧ appS P T bytes 1 g2 ⟨l2.a, l2.n, l2.c⟩ (s.n - p) cs3 K := by
  refine app1sG hen hone hz hby (takeCG hen ho hp) (by simp; omega) (by omega) hf hlf fun l1 g1 h1 he1 hb1 => ?_
  have hz1 := he1.sz
  have hbg := blk_lt hb
  have hfg := blk_lt hf
  refine app23G hen hone hz hby (ho.ext he1 fun a ha hm => hsf (by simp at hm; rw [← hm]; exact mem_sBlk.2 ⟨a, ha, rfl⟩)) h1 (he1.get hb (by simp; exact hbf)) (fun b hb hm => ?_) hp hl (by simp; omega) (by omega) fun s' g' ho' he' => H s' g' ho' (he1.trans he' fun b hb hlt => ?_)
  · have := (own_ltG ho b hb).2
    rcases hb1 b hm with q | q
    · subst q; exact hsf hb
    · omega
  · rcases hb1 b hb with q | q
    · simp [q]
    · omega
end
end Go.Lift

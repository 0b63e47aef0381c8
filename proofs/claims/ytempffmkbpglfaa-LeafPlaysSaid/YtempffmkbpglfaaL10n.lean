/- A part of an element is written; parts of a slice of strings, put one behind the other. -/
import Derived.Test.YtempffmkbpglfaaL10m
set_option linter.unusedSimpArgs false
set_option linter.unusedVariables false
namespace Go.Lift
open Go Go.Proofs
set_option maxRecDepth 100000
section
variable {α : Type} {T : TypeId} {sz : Nat} {enc : α → List Value}
theorem Own.setF {lo : Nat} {h : Hp} {s : Sl} {xs : List α} (ho : Own T sz enc lo h s xs) (he : ∀ x, (enc x).length = sz) {i : Nat} (hi : i < xs.length) {x : α} {o : Nat} {v : Value} {K : Hp → Prop} (hos : o < sz)
    (hx : ∀ k, k < sz → (enc x)[k]? = if k = o then some v else (enc xs[i])[k]?)
    (H : ∀ h1, Own T sz enc lo h1 s (xs.set i x) → Ext (sBlk s) h h1 → h1.size = h.size → K h1) : ∃ a, s.a = some a ∧ stOk h (Addr.add (Addr.add a (i * sz)) o) 1 ∧ wth (wrs h (Addr.add (Addr.add a (i * sz)) o) 0 [v]) K := by
  cases hsa : s.a with
  | none => have := (ho.2.1 hsa).1; subst this; simp at hi
  | some a =>
    obtain ⟨b, c, h1, h2, h3, h4, h5, h6⟩ := ho.2.2 a hsa
    subst h1
    refine ⟨_, rfl, ?_⟩
    have hn := ho.1
    have hsz : i * sz + sz ≤ c.size := by
      have g1 : (i + 1) * sz ≤ s.c * sz := Nat.mul_le_mul_right sz (by omega)
      rw [Nat.add_mul] at g1
      omega
    have hlen := flatMap_length he xs
    have hfull : i * sz + sz ≤ s.n * sz := by
      have g1 : (i + 1) * sz ≤ s.n * sz := Nat.mul_le_mul_right sz (by omega)
      rw [Nat.add_mul] at g1
      omega
    rw [addr_mk, addr_mk, Nat.zero_add]
    have hput : putAt c (i * sz + o) [v] = putAt c (i * sz) (enc x) := by
      apply Array.ext_getElem?
      intro j
      rw [putAt_get0 c _ _ j (by simp; omega), putAt_get0 c _ _ j (by rw [he]; omega)]
      simp only [List.length_cons, List.length_nil, he]
      by_cases g1 : i * sz ≤ j ∧ j < i * sz + sz
      · rw [if_pos g1]
        have hxk := hx (j - i * sz) (by omega)
        rw [hxk]
        by_cases g2 : j - i * sz = o
        · rw [if_pos g2, if_pos (by omega), show j - (i * sz + o) = 0 by omega]; rfl
        · rw [if_neg g2, if_neg (by omega), ← flatMap_get he xs i (j - i * sz) hi (by omega), ← h6, show i * sz + (j - i * sz) = j by omega, List.getElem?_take_of_lt (by omega), Array.getElem?_toList]
      · rw [if_neg g1, if_neg (by omega)]
    refine st_blk h3 (by omega) fun h7 s7 b7 e7 => ?_
    rw [hput] at b7
    refine H h7 ⟨by simp [hn], fun e => (by rw [hsa] at e; cases e), fun a' ha' => ?_⟩ (by unfold sBlk; rw [hsa]; exact e7) s7
    rw [hsa] at ha'
    cases ha'
    refine ⟨b, _, rfl, h2, b7, h4, by simpa using h5, ?_⟩
    rw [putAt_all _ _ (by rw [he]; omega), flatMap_set he xs i x hi, ← h6, he]
    rw [List.take_take, Nat.min_eq_left (by omega)]
    have e2 : (List.take (s.n * sz) c.toList).drop ((i + 1) * sz) = (c.toList.drop (i * sz + sz)).take (s.n * sz - (i * sz + sz)) := by
      rw [List.drop_take, Nat.add_mul, Nat.one_mul]
    rw [e2, List.take_append]
    have e3 : (List.take (i * sz) c.toList ++ enc x).length = i * sz + sz := by simp [he]; omega
    rw [e3, List.take_of_length_le (by rw [e3]; omega)]
theorem Own.empty {lo f : Nat} {g : Hp} (hf : Blk g f #[] T) (hlf : lo ≤ f) : Own T sz enc lo g ⟨some ⟨f, 0, none⟩, 0, 0⟩ [] := ⟨rfl, fun e => (by cases e), fun a ha => by cases ha; exact ⟨f, _, rfl, hlf, hf, Nat.le_refl _, by simp, by simp⟩⟩
end
section
variable {lo : Nat} {g : Hp} {s : Sl} {xs : List ByteArray}
theorem Own.cap (ho : Own T_string 1 encB lo g s xs) : s.n ≤ s.c := by
  cases hsa : s.a with
  | none => have := ho.1; rw [(ho.2.1 hsa).1] at this; simp at this; omega
  | some a =>
    obtain ⟨b, c, h1, h2, h3, h4, h5, h6⟩ := ho.2.2 a hsa
    exact h4
theorem takeC (ho : Own T_string 1 encB lo g s xs) {c : Nat} (hc : c ≤ xs.length) : cellsAt g (slAd s.a 0 s.c 1) ((c - 0) * 1) ((xs.take c).flatMap encB) := by
  rw [slAd0]
  exact (ho.takeR hc).sl.reads.2.2
theorem dropC (ho : Own T_string 1 encB lo g s xs) {c : Nat} (hc : c ≤ xs.length) : cellsAt g (slAd s.a c s.c 1) ((s.n - c) * 1) ((xs.drop c).flatMap encB) := by
  rcases Nat.lt_or_ge c xs.length with g1 | g1
  · exact (ho.dropR g1).2.2
  · have hn := ho.1
    rw [List.drop_eq_nil_of_le g1, show s.n - c = 0 by omega]
    cases slAd s.a c s.c 1 with
    | none => rfl
    | some a => exact ⟨rfl, fun i hi => by omega⟩
/-- A key is put behind a part, and the other part behind it. -/
theorem app23 {lo' bk p : Nat} {k : ByteArray} {l1 : Sl} {ys : List ByteArray} {K : Sl → Hp → Prop} (ho : Own T_string 1 encB lo g s xs) (h1 : Own T_string 1 encB lo' g l1 ys) (hb : Blk g bk #[.string k] T_string) (hbl : bk ∉ sBlk l1) (hsl : ∀ b ∈ sBlk s, b ∉ sBlk l1)
    (hp : p ≤ xs.length) (hl : xs.length ≤ 2 ^ 30) (hly : ys.length ≤ 2 ^ 30) (hlo : lo' ≤ g.size)
    (H : ∀ s' g', Own T_string 1 encB lo' g' s' (ys ++ [k] ++ xs.drop p) → Ext (sBlk l1) g g' → K s' g') :
    ∃ cs2 : List Value, cellsAt g (some ⟨bk, 0, none⟩) (1 * 1) cs2 ∧ appS PP T_string 16 1 g ⟨l1.a, l1.n, l1.c⟩ 1 cs2 fun l2 g2 =>
      ∃ cs3 : List Value, cellsAt g2 (slAd s.a p s.c 1) ((s.n - p) * 1) cs3 ∧ appS PP T_string 16 1 g2 ⟨l2.a, l2.n, l2.c⟩ (s.n - p) cs3 K := by
  have hn := ho.1
  have hn1 := h1.1
  refine ⟨[.string k], ?_, ?_⟩
  · have := cellsAt_blk hb (o := 0) (n := 1 * 1) (by simp)
    simpa using this
  · refine app_own (ys := [k]) h1 zc_str encB_len (fun x _ => encB_one x) rfl rfl (by simp only; omega) (by simp only; omega) hlo fun l2 g2 h2 he2 hn2 hb2 => ?_
    have ho2 := ho.ext he2 fun a ha hm => hsl _ (mem_sBlk.2 ⟨a, ha, rfl⟩) hm
    refine ⟨_, dropC ho2 hp, ?_⟩
    have hn2' := h2.1
    refine app_own (ys := xs.drop p) h2 zc_str encB_len (fun x _ => encB_one x) rfl (by simp; omega) (by simp at hn2' ⊢; omega) (by simp at hn2' ⊢; omega) (by have := he2.sz; omega) fun l3 g3 h3 he3 hn3 hb3 => H l3 g3 (by simpa using h3) ?_
    refine he2.trans he3 fun b hb hlt => ?_
    rcases hb2 b hb with q | q
    · exact q
    · omega
/-- The two parts of a slice, and a key between them, put behind an empty slice. -/
theorem app3 {lo' f bk p : Nat} {k : ByteArray} {K : Sl → Hp → Prop} (ho : Own T_string 1 encB lo g s xs) (hf : Blk g f #[] T_string) (hlf : lo' ≤ f) (hb : Blk g bk #[.string k] T_string) (hbf : bk ≠ f) (hsf : f ∉ sBlk s)
    (hp : p ≤ xs.length) (hl : xs.length ≤ 2 ^ 30)
    (H : ∀ s' g', Own T_string 1 encB lo' g' s' (xs.take p ++ [k] ++ xs.drop p) → Ext [f] g g' → K s' g') :
    ∃ cs : List Value, cellsAt g (slAd s.a 0 s.c 1) ((p - 0) * 1) cs ∧ appS PP T_string 16 1 g ⟨some ⟨f, 0, none⟩, 0, 0⟩ (p - 0) cs fun l1 g1 =>
    ∃ cs2 : List Value, cellsAt g1 (some ⟨bk, 0, none⟩) (1 * 1) cs2 ∧ appS PP T_string 16 1 g1 ⟨l1.a, l1.n, l1.c⟩ 1 cs2 fun l2 g2 =>
      ∃ cs3 : List Value, cellsAt g2 (slAd s.a p s.c 1) ((s.n - p) * 1) cs3 ∧ appS PP T_string 16 1 g2 ⟨l2.a, l2.n, l2.c⟩ (s.n - p) cs3 K := by
  refine ⟨_, takeC ho hp, ?_⟩
  have hfs : sBlk ⟨some ⟨f, 0, none⟩, 0, 0⟩ = [f] := rfl
  refine app_own (ys := xs.take p) (Own.empty (lo := lo') hf hlf) zc_str encB_len (fun x _ => encB_one x) rfl (by simp; omega) (by simp only; omega) (by simp only; omega) (by have := blk_lt hf; omega) fun l1 g1 h1 he1 hn1 hb1 => ?_
  rw [hfs] at he1 hb1
  have hz := he1.sz
  have hbg := blk_lt hb
  have hfg := blk_lt hf
  simp only [List.nil_append] at h1
  refine app23 (ho.ext he1 fun a ha hm => hsf (by simp at hm; rw [← hm]; exact mem_sBlk.2 ⟨a, ha, rfl⟩)) h1 (he1.get hb (by simp; exact hbf)) (fun hm => ?_) (fun b hb hm => ?_) hp hl (by simp; omega) (by omega) fun s' g' ho' he' => H s' g' ho' (he1.trans he' fun b hb hlt => ?_)
  · rcases hb1 _ hm with q | q
    · simp at q; exact hbf q
    · omega
  · have := own_lt ho b hb
    rcases hb1 b hm with q | q
    · simp at q; subst q; exact hsf hb
    · omega
  · rcases hb1 b hb with q | q
    · exact q
    · omega
/-- A part of a slice, put behind an empty one. -/
theorem app1s {lo' f m : Nat} {ad : Option Addr} {ys : List ByteArray} {K : Sl → Hp → Prop} (hc : cellsAt g ad (m * 1) (ys.flatMap encB)) (hm : m = ys.length) (hl : m ≤ 2 ^ 30) (hf : Blk g f #[] T_string) (hlf : lo' ≤ f)
    (H : ∀ s' g', Own T_string 1 encB lo' g' s' ys → Ext [f] g g' → (∀ b ∈ sBlk s', b = f ∨ g.size ≤ b) → K s' g') :
    ∃ cs : List Value, cellsAt g ad (m * 1) cs ∧ appS PP T_string 16 1 g ⟨some ⟨f, 0, none⟩, 0, 0⟩ m cs K := by
  refine ⟨_, hc, ?_⟩
  have hfs : sBlk ⟨some ⟨f, 0, none⟩, 0, 0⟩ = [f] := rfl
  refine app_own (ys := ys) (Own.empty (lo := lo') hf hlf) zc_str encB_len (fun x _ => encB_one x) rfl hm (by simp only; omega) (by simp only; omega) (by have := blk_lt hf; omega) fun l1 g1 h1 he1 hn1 hb1 => ?_
  rw [hfs] at he1 hb1
  exact H l1 g1 (by simpa using h1) he1 fun b hb => by simpa using hb1 b hb
end
end Go.Lift

/- Things that were read: the plain model, many takes. -/
import Derived.Test.YtifmibpjpnpcpaaW13i
set_option linter.unusedSimpArgs false
set_option linter.unusedVariables false
namespace Go.Lift
open Go
theorem nodup_len : ∀ (n : Nat) (l : List Int), l.Nodup → (∀ x ∈ l, 0 ≤ x ∧ x < (n : Int)) → l.length ≤ n
  | 0, l, _, hb => by
    cases l with
    | nil => simp
    | cons a l => have := hb a (by simp); omega
  | n + 1, l, hn, hb => by
    have h1 := nodup_len n (l.erase (n : Int)) (hn.erase _) fun x hx => by
      have h2 := (hn.mem_erase_iff).1 hx
      have := hb x h2.2
      have := h2.1
      omega
    by_cases hm : (n : Int) ∈ l
    · rw [List.length_erase_of_mem hm] at h1
      omega
    · rw [List.erase_of_not_mem hm] at h1
      omega
section
variable {N : Nat} {S : SM} {o : Int}
theorem SOk.up (h : SOk N S) {N' : Nat} (hN : tot S.m ≤ N') : SOk N' S := ⟨h.nd, h.own, h.tnd, h.kind, h.one, h.each, h.fine, h.all, h.ea, h.al, hN⟩
theorem SOk.owners (h : SOk N S) : S.m.length ≤ 201 := by
  have := nodup_len 201 (S.m.map Prod.fst) h.nd fun x hx => by have := h.own x hx; omega
  simpa using this
theorem ownersS_mem (h : SOk N S) (p : ThingM → Bool) {x : Int} (hx : x ∈ ownersS S p) : (0 ≤ x ∧ x ≤ 200) ∧ ∃ y ∈ thgs S.m x, p y = true := by
  unfold ownersS at hx
  rw [sortI_mem] at hx
  obtain ⟨⟨a, l⟩, h1, rfl⟩ := List.mem_map.1 hx
  obtain ⟨h2, h3⟩ := List.mem_filter.1 h1
  refine ⟨h.own a (List.mem_map.2 ⟨_, h2, rfl⟩), ?_⟩
  rw [thgs_some (afind_of_mem h.nd h2)]
  obtain ⟨y, hy, hp⟩ := List.any_eq_true.1 h3
  exact ⟨y, hy, hp⟩
theorem mem_ownersS (h : SOk N S) (p : ThingM → Bool) {x : Int} : x ∈ ownersS S p ↔ ∃ y ∈ thgs S.m x, p y = true := by
  refine ⟨fun hx => (ownersS_mem h p hx).2, fun ⟨y, hy, hp⟩ => ?_⟩
  unfold ownersS
  rw [sortI_mem]
  cases hf : afind S.m x with
  | none => rw [thgs_none hf] at hy; cases hy
  | some l =>
    rw [thgs_some hf] at hy
    exact List.mem_map.2 ⟨(x, l), List.mem_filter.2 ⟨afind_mem hf, List.any_eq_true.2 ⟨y, hy, hp⟩⟩, rfl⟩
theorem ownersS_len (h : SOk N S) (p : ThingM → Bool) : (ownersS S p).length ≤ 201 := by
  have := h.owners
  unfold ownersS
  rw [sortI_len, List.length_map]
  exact Nat.le_trans (List.length_filter_le _ _) this
theorem takesS_ok (x : ThingM) : ∀ (l : List Int) {N : Nat} {S : SM}, SOk N S → (∀ o ∈ l, 0 ≤ o ∧ o ≤ 200) → SOk (N + l.length) (takesS S l x) ∧ (takesS S l x).each = S.each ∧ (takesS S l x).all = S.all ∧ (takesS S l x).csn = S.csn ∧ ∀ o, o ∉ l → thgs (takesS S l x).m o = thgs S.m o
  | [], N, S, h, _ => ⟨h, rfl, rfl, rfl, fun _ _ => rfl⟩
  | a :: l, N, S, h, hl => by
    obtain ⟨h1, _, h2, h3, h4, h5⟩ := takeS_ok h (hl a (by simp)) x
    obtain ⟨g1, g2, g3, g4, g5⟩ := takesS_ok x l h1 fun o ho => hl o (by simp [ho])
    have e : takesS S (a :: l) x = takesS (takeS S a x) l x := rfl
    rw [e]
    refine ⟨?_, by rw [g2, h3], by rw [g3, h4], by rw [g4, h5], fun o ho => ?_⟩
    · rw [List.length_cons]
      have : N + (l.length + 1) = N + 1 + l.length := by omega
      rw [this]
      exact g1
    · simp only [List.mem_cons, not_or] at ho
      rw [g5 o ho.2, h2 o ho.1]
theorem dropS_ok (h : SOk N S) (ho : 0 ≤ o ∧ o ≤ 200) : SOk N (dropS S o) ∧ thgs (dropS S o).m o = [] ∧ (∀ o', o' ≠ o → thgs (dropS S o).m o' = thgs S.m o') ∧ tot (dropS S o).m + (thgs S.m o).length = tot S.m ∧ (dropS S o).each = S.each ∧ (dropS S o).all = S.all ∧ (dropS S o).csn = if o = 0 then 0 else S.csn := by
  obtain ⟨a1, a2, a3, a4, a5, a6, a7, a8, a9⟩ := loseS_ok h ho fun _ => true
  have hd : dropS S o = { loseS S o (fun _ => true) with m := adel (loseS S o fun _ => true).m o, csn := if o = 0 then 0 else (loseS S o fun _ => true).csn } := rfl
  rw [hd]
  clear hd
  dsimp only at a1 a2 a3 a4 a5 a6 a7 a8 a9 ⊢
  generalize loseS S o (fun _ => true) = S1 at *
  have a3 : thgs S1.m o = [] := by rw [a3]; simp
  rw [show (thgs S.m o).filter (fun _ => true) = thgs S.m o from List.filter_eq_self.2 (by simp)] at a6
  have hfa : ∀ o', afind (adel S1.m o) o' = if o' = o then none else afind S1.m o' := fun o' => afind_adel a1.nd o o'
  have hsub := (adel_nodup a1.nd o).2
  have ht := tot_adel a1.nd o
  have hf := totF_adel a1.nd o
  rw [a3] at ht hf
  simp only [List.length_nil, Nat.add_zero] at ht
  have hnf : nF [] = 0 := rfl
  rw [hnf] at hf
  have hb := a1.bnd
  refine ⟨⟨(adel_nodup a1.nd o).1, fun o' ho' => a1.own o' (hsub o' ho'), fun o' l hl => ?_, fun o' l hl => ?_, fun o' l hl => ?_, fun o' l hl => ?_, ?_, a1.all, a1.ea, a1.al, by first | omega | (simp only; omega)⟩, ?_, fun o' ho' => ?_, by first | omega | (simp only; omega), a7, a8, ?_⟩
  · simp only [hfa] at hl; split at hl
    · cases hl
    · exact a1.tnd o' l hl
  · simp only [hfa] at hl; split at hl
    · cases hl
    · exact a1.kind o' l hl
  · simp only [hfa] at hl; split at hl
    · cases hl
    · exact a1.one o' l hl
  · simp only [hfa] at hl; split at hl
    · cases hl
    · exact a1.each o' l hl
  · simp only; have := a1.fine; omega
  · unfold thgs; rw [hfa, if_pos rfl]; rfl
  · unfold thgs; rw [hfa, if_neg ho']; exact a4 o' ho'
  · simp only [a9]
theorem foldTakes_ok : ∀ (l : List ThingM) {N : Nat} {S : SM}, SOk N S → SOk (N + l.length) (l.foldl (fun S x => takeS S 0 x) S) ∧ (l.foldl (fun S x => takeS S 0 x) S).each = S.each ∧ (l.foldl (fun S x => takeS S 0 x) S).all = S.all ∧ ∀ o, o ≠ 0 → thgs (l.foldl (fun S x => takeS S 0 x) S).m o = thgs S.m o
  | [], N, S, h => ⟨h, rfl, rfl, fun _ _ => rfl⟩
  | a :: l, N, S, h => by
    obtain ⟨h1, _, h2, h3, h4, h5⟩ := takeS_ok h (o := 0) (by omega) a
    obtain ⟨g1, g2, g3, g4⟩ := foldTakes_ok l h1
    rw [List.foldl_cons]
    refine ⟨?_, by rw [g2, h3], by rw [g3, h4], fun o ho => by rw [g4 o ho, h2 o ho]⟩
    rw [List.length_cons]
    have : N + (l.length + 1) = N + 1 + l.length := by omega
    rw [this]
    exact g1
theorem foldS_ok (h : SOk N S) (csn : Int) : SOk N (foldS S o csn) ∧ (foldS S o csn).each = S.each ∧ (foldS S o csn).all = S.all := by
  unfold foldS
  split
  · exact ⟨h, rfl, rfl⟩
  · rename_i ho
    obtain ⟨d1, d2, d3, d4, d5, d6, d7⟩ := dropS_ok h (o := o) (by omega)
    obtain ⟨g1, g2, g3, g4⟩ := foldTakes_ok (ofS S o) (d1.up (Nat.le_refl _))
    have hl : (ofS S o).length = (thgs S.m o).length := sortC_len
    have hb := g1.bnd
    have hb2 := h.bnd
    have g1' := g1.up (N' := N) (by omega)
    exact ⟨⟨g1'.nd, g1'.own, g1'.tnd, g1'.kind, g1'.one, g1'.each, g1'.fine, g1'.all, g1'.ea, g1'.al, g1'.bnd⟩, by rw [g2, d5], by rw [g3, d6]⟩
theorem takesO_ok (h : SOk N S) (p : ThingM → Bool) (x : ThingM) : SOk (N + 201) (takesS S (ownersS S p) x) ∧ (takesS S (ownersS S p) x).each = S.each ∧ (takesS S (ownersS S p) x).all = S.all := by
  have hl := ownersS_len h p
  obtain ⟨h1, h2, h3, _⟩ := takesS_ok x (ownersS S p) h fun o ho => (ownersS_mem h p ho).1
  have := h1.bnd
  exact ⟨h1.up (by omega), h2, h3⟩
end
end Go.Lift

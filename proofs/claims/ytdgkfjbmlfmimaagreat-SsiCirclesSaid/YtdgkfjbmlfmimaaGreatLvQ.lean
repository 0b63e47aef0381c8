/- A map of memory with keys of the kind int, as the library's contracts on maps want it; and what they hand back. -/
import Derived.Test.YtdgkfjbmlfmimaaGreatLvP
import Derived.Lib.SlKeysI
set_option linter.unusedSimpArgs false
set_option linter.unusedVariables false
namespace Go.Lift
open Go Go.RowKit Go.Maps

theorem insert_perm {H : Type} (x : Lit × DataW H) (r : List (Lit × DataW H)) : (DataW.insert x r).Perm (x :: r) := by
  induction r with
  | nil => exact List.Perm.refl _
  | cons y r ih =>
    simp only [DataW.insert]
    split
    · exact List.Perm.refl _
    · exact (List.Perm.cons y ih).trans (List.Perm.swap x y r)
theorem foldr_perm {H : Type} (l : List (Lit × DataW H)) : (l.foldr DataW.insert []).Perm l := by
  induction l with
  | nil => exact List.Perm.refl _
  | cons x l ih => exact (insert_perm x _).trans (List.Perm.cons x ih)
theorem encI_inj : Function.Injective (fun n : Int => Value.int .i64 n) := by intro a b h; simpa using h
theorem owns_of {P : Program} {k : TypeId} {V : Type} {ev : V → Value} {w : World} {m : Nat} {T : List (Int × V)} (hk : P.underlying k = some (.int .i64)) (hm : IsMap (fun n : Int => Value.int .i64 n) ev w.heap m T)
    (hw : ∀ x ∈ T.map Prod.fst, (Lit.int .i64 x).wf = true) (hnd : (T.map Prod.fst).Nodup) (hl : T.length ≤ 2 ^ 40) :
    ∃ D0 : DataW Unit, w.ownsMap P k (fun _ => some (.nil, [])) m T.length D0 ∧ (intKeys D0).Perm (T.map Prod.fst) ∧ Maps.size D0 = T.length := by
  obtain ⟨es, c, h1, h2, h3⟩ := hm
  have hs := ents_size h2
  have hkeys : es.toList.map (·.key) = (T.map Prod.fst).map (fun n : Int => Value.int .i64 n) := by
    have := congrArg (List.map Prod.fst) h2
    simpa [List.map_map, Function.comp_def, encE] using this
  have hrd : ∀ x ∈ es.toList, ∃ y : Int, x.key = .int .i64 y ∧ WideElems.rd (H := Unit) P k (fun _ => some (.nil, [])) x = some (.int .i64 y, .nil) := by
    intro x hx
    have : x.key ∈ es.toList.map (·.key) := List.mem_map.2 ⟨x, hx, rfl⟩
    rw [hkeys] at this
    obtain ⟨y, hy, he⟩ := List.mem_map.1 this
    refine ⟨y, he.symm, ?_⟩
    unfold WideElems.rd
    rw [← he, keyOf_int_mk hk (hw y hy)]
    rfl
  refine ⟨.map ((es.toList.map (WideElems.rg P k (fun _ => some (.nil, [])))).foldr DataW.insert []), ⟨es, c, h1, ⟨?_, ⟨?_, h3.2, ?_⟩, ?_⟩, by omega, rfl⟩, ?_, ?_⟩
  · unfold maxLen; omega
  · intro x hx
    exact h3.1 _ (List.mem_map.2 ⟨x, hx, rfl⟩)
  · rw [hkeys]
    exact List.Pairwise.map _ (fun a b hne e => hne (encI_inj e)) hnd
  · intro x hx
    obtain ⟨y, _, hy⟩ := hrd x hx
    exact ⟨_, hy⟩
  · show (List.map (fun p : Lit × DataW Unit => intOf p.1) _).Perm _
    refine ((foldr_perm _).map _).trans ?_
    rw [List.map_map]
    have : es.toList.map ((fun p : Lit × DataW Unit => intOf p.1) ∘ WideElems.rg P k (fun _ => some (.nil, []))) = T.map Prod.fst := by
      have h4 : es.toList.map ((fun p : Lit × DataW Unit => intOf p.1) ∘ WideElems.rg P k (fun _ => some (.nil, []))) = (es.toList.map (·.key)).map (fun v => match v with | .int _ n => n | _ => 0) := by
        rw [List.map_map]
        apply List.map_congr_left
        intro x hx
        obtain ⟨y, he, hy⟩ := hrd x hx
        simp [WideElems.rg, hy, he, intOf]
      rw [h4, hkeys, List.map_map]
      simp [Function.comp_def]
    rw [this]
  · show (List.foldr DataW.insert [] _).length = _
    rw [(foldr_perm _).length_eq]
    simpa using hs
/-- What a contract says of a new slice. -/
theorem own_of_row {w w' : World} {e : TypeId} {v : Value} {xs : List Int} (hr : w'.ownsRow w.heap.size e 1 v xs.length (xs.map fun n => Value.int .i64 n)) :
    ∃ s : Sl, v = .slice s.a s.n s.c ∧ Own e 1 (fun n : Int => [Value.int .i64 n]) w.heap.size w'.heap s xs := by
  obtain ⟨_, ⟨rfl, hz⟩ | ⟨g, cap, cur, rfl, h1, h2, h3, _, h5, h6⟩⟩ := hr
  · have : xs = [] := List.eq_nil_of_length_eq_zero hz
    subst this
    exact ⟨⟨none, 0, 0⟩, rfl, Own.nil _ _⟩
  · refine ⟨⟨some ⟨g, 0, none⟩, xs.length, cap⟩, rfl, rfl, fun e => (by cases e), fun a ha => ?_⟩
    cases ha
    refine ⟨g, cur, rfl, h1, h2, h3, (show cap * 1 ≤ cur.size by omega), ?_⟩
    rw [h6]
    rw [List.map_eq_flatMap]
def sortI (xs : List Int) : List Int := xs.mergeSort fun x y => decide (x ≤ y)
end Go.Lift

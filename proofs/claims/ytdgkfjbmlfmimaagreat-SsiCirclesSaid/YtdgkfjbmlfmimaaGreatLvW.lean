/- A map of memory whose keys are strings, as the library's contracts on maps want it; and what they hand back. -/
import Derived.Test.YtdgkfjbmlfmimaaGreatLvQ
import Derived.Sort.KeysCollected
set_option linter.unusedSimpArgs false
set_option linter.unusedVariables false
namespace Go.Lift
open Go Go.RowKit Go.Maps
/-- The bytes of a string, as the library's contracts have them. -/
def btl (s : ByteArray) : List UInt8 := s.data.toList
def ofBtl (l : List UInt8) : ByteArray := ⟨l.toArray⟩
theorem ofBtl_btl (s : ByteArray) : ofBtl (btl s) = s := by cases s; simp [ofBtl, btl]
theorem btl_ofBtl (l : List UInt8) : btl (ofBtl l) = l := by simp [ofBtl, btl]
theorem btl_inj {a b : ByteArray} (h : btl a = btl b) : a = b := by rw [← ofBtl_btl a, h, ofBtl_btl]
theorem owns_ofS {P : Program} {k : TypeId} {V : Type} {ev : V → Value} {w : World} {m : Nat} {T : List (ByteArray × V)} (hk : P.underlying k = some .string) (hm : IsMap (fun s : ByteArray => Value.string s) ev w.heap m T)
    (hw : ∀ x ∈ T.map Prod.fst, x.size ≤ maxLen) (hnd : (T.map Prod.fst).Nodup) (hl : T.length ≤ 2 ^ 40) :
    ∃ D0 : DataW Unit, w.ownsMap P k (fun _ => some (.nil, [])) m T.length D0 ∧ (strKeys D0).Perm ((T.map Prod.fst).map btl) ∧ Maps.size D0 = T.length := by
  obtain ⟨es, c, h1, h2, h3⟩ := hm
  have hs := ents_size h2
  have hkeys : es.toList.map (·.key) = (T.map Prod.fst).map (fun s : ByteArray => Value.string s) := by
    have := congrArg (List.map Prod.fst) h2
    simpa [List.map_map, Function.comp_def, encE] using this
  have hrd : ∀ x ∈ es.toList, ∃ y : ByteArray, x.key = .string y ∧ WideElems.rd (H := Unit) P k (fun _ => some (.nil, [])) x = some (.string (btl y), .nil) := by
    intro x hx
    have : x.key ∈ es.toList.map (·.key) := List.mem_map.2 ⟨x, hx, rfl⟩
    rw [hkeys] at this
    obtain ⟨y, hy, he⟩ := List.mem_map.1 this
    refine ⟨y, he.symm, ?_⟩
    have hko : keyOf P k (.string y) = some (.string (btl y)) := by
      simp [keyOf, mapKey, hk, hw y hy, btl]
    unfold WideElems.rd
    rw [← he, hko]
    rfl
  refine ⟨.map ((es.toList.map (WideElems.rg P k (fun _ => some (.nil, [])))).foldr DataW.insert []), ⟨es, c, h1, ⟨?_, ⟨?_, h3.2, ?_⟩, ?_⟩, by omega, rfl⟩, ?_, ?_⟩
  · unfold maxLen; omega
  · intro x hx
    exact h3.1 _ (List.mem_map.2 ⟨x, hx, rfl⟩)
  · rw [hkeys]
    exact List.Pairwise.map _ (fun a b hne e => hne (by simpa using e)) hnd
  · intro x hx
    obtain ⟨y, _, hy⟩ := hrd x hx
    exact ⟨_, hy⟩
  · show (List.map (fun p : Lit × DataW Unit => strOf p.1) _).Perm _
    refine ((foldr_perm _).map _).trans ?_
    rw [List.map_map]
    have : es.toList.map ((fun p : Lit × DataW Unit => strOf p.1) ∘ WideElems.rg P k (fun _ => some (.nil, []))) = (T.map Prod.fst).map btl := by
      have h4 : es.toList.map ((fun p : Lit × DataW Unit => strOf p.1) ∘ WideElems.rg P k (fun _ => some (.nil, []))) = (es.toList.map (·.key)).map (fun v => match v with | .string s => btl s | _ => []) := by
        rw [List.map_map]
        apply List.map_congr_left
        intro x hx
        obtain ⟨y, he, hy⟩ := hrd x hx
        simp [WideElems.rg, hy, he, strOf]
      rw [h4, hkeys, List.map_map]
      simp [Function.comp_def]
    rw [this]
  · show (List.foldr DataW.insert [] _).length = _
    rw [(foldr_perm _).length_eq]
    simpa using hs
/-- What a contract says of a new slice of strings. -/
theorem own_of_rowS {w w' : World} {e : TypeId} {v : Value} {xs : List (List UInt8)} (hr : w'.ownsRow w.heap.size e 1 v xs.length (xs.map Go.Proofs.encStr)) :
    ∃ s : Sl, v = .slice s.a s.n s.c ∧ Own e 1 (fun s : ByteArray => [Value.string s]) w.heap.size w'.heap s (xs.map ofBtl) := by
  obtain ⟨_, ⟨rfl, hz⟩ | ⟨g, cap, cur, rfl, h1, h2, h3, _, h5, h6⟩⟩ := hr
  · have : xs = [] := List.eq_nil_of_length_eq_zero hz
    subst this
    exact ⟨⟨none, 0, 0⟩, rfl, Own.nil _ _⟩
  · refine ⟨⟨some ⟨g, 0, none⟩, xs.length, cap⟩, rfl, by simp, fun e => (by cases e), fun a ha => ?_⟩
    cases ha
    refine ⟨g, cur, rfl, h1, h2, by simpa using h3, (show cap * 1 ≤ cur.size by omega), ?_⟩
    show List.take (xs.length * 1) cur.toList = _
    rw [h6, List.flatMap_map, List.map_eq_flatMap]
    rfl
/-- Strings in the order of their bytes. -/
def sortS (xs : List ByteArray) : List ByteArray := ((xs.map btl).mergeSort fun x y => decide (x ≤ y)).map ofBtl
end Go.Lift

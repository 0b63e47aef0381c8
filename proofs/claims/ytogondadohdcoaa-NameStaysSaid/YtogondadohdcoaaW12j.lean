/- Numbers as keys of maps, sorted. -/
import Derived.Test.YtogondadohdcoaaW12i
import Derived.Test.YtogondadohdcoaaItM
import Derived.Test.YtogondadohdcoaaSh12
set_option linter.unusedSimpArgs false
set_option linter.unusedVariables false
namespace Go.Lift
open Go Go.Proofs Go.RowKit Go.Shelf
set_option maxRecDepth 100000
section
variable {h h' : Hp} {Q : List Value → Hp → Prop}
/-- slices.Sort over a slice of one's own. -/
theorem SortI_s {T : TypeId} {l : Nat} {s : Sl} {xs : List Int} (ho : Own T 1 encIL l h s xs) (hl : xs.length ≤ 2 ^ 40)
    (hQ : ∀ h', Own T 1 encIL l h' s (sortI xs) → Ext (sBlk s) h h' → Q [] h') : S_slices_Sort_sint_int s h Q := by
  refine fn_of_calls Try.func46 (c := bodyOf Try.f46) (by kernel_rfl) (by kernel_rfl) ?_
  refine sort1_c (P := PP) (enc := encI) (fun n : Int => n) (fun l => l.mergeSort fun x y => decide (x ≤ y)) (fun l => List.length_mergeSort _)
    (fun blk off cap zs w h1 h2 h3 => AnyM.slices_Sort_int Try.sortI blk off cap zs w h1 h2 h3) (fun p cap w => AnyM.slices_Sort_int_none Try.sortI p cap w) (ys := sortI xs) ?_ ho hl fun h' o e => hQ h' o e
  rw [List.map_id', List.map_id']
  rfl
theorem SortedI {V : Type} {ev : V → Value} {m : Nat} {T : List (Int × V)} (hm : IsMap encI ev h m T) (hl : T.length ≤ 2 ^ 28) (hn : (T.map Prod.fst).Nodup)
    (hQ : ∀ h' s, Ext [] h h' → Own T_int 1 encIL h.size h' s (sortI (T.map Prod.fst)) → Q [.slice s.a s.n s.c] h') : S_maps_Keys_map_int_int_int_int (some m) h fun vs42 h43 =>
            ∃ f44 : Nat, ∃ cs45 : Array Value, vs42 = [(Value.func (.func f44) #[] cs45)] ∧
            S_slices_Sorted_int f44 cs45 h43 fun (vs46 : List Value) (h47 : Hp) =>
            ∃ l48 : Sl, vs46 = [(Value.slice l48.a l48.n l48.c)] ∧
            Q [(Value.slice l48.a l48.n l48.c)] h47 := by
  refine O_maps_Keys_map_int_int_int_int _ ?_
  unfold F_maps_Keys_map_int_int_int_int
  refine newI fun h1 s1 b1 e1 => ⟨_, _, rfl, ?_⟩
  refine O_slices_Sorted_int _ _ ?_
  unfold F_slices_Sorted_int
  refine CollectI b1 (MapOr.ext (r := some m) hm e1 (by simp)) hl fun h2 s ks hp ho e2 => ⟨s, rfl, ?_⟩
  have hlk : ks.length ≤ 2 ^ 40 := by rw [hp.length_eq, List.length_map]; omega
  refine SortI_s ho hlk fun h3 o3 e3 => ⟨rfl, s, rfl, ?_⟩
  have hs := own_ltG ho
  refine hQ h3 s (((e1.trans0 e2).trans e3 fun b hb hlt => by have := hs b hb; omega)) ?_
  have hEq : sortI ks = sortI (T.map Prod.fst) := by
    unfold sortI
    refine List.Perm.eq_of_pairwise (le := fun a b => (decide (a ≤ b)) = true) (fun a b _ _ h1 h2 => ?_) (List.pairwise_mergeSort (fun a b c h1 h2 => by simp at *; omega) (fun a b => by simp; omega) ks) (List.pairwise_mergeSort (fun a b c h1 h2 => by simp at *; omega) (fun a b => by simp; omega) _) (((List.mergeSort_perm ks _).trans hp).trans (List.mergeSort_perm _ _).symm)
    simp at h1 h2
    omega
  rw [hEq] at o3
  exact o3.mono (by omega)
end
end Go.Lift

/- Who waits for whom: the keys of a map, sorted. -/
import Derived.Test.YtdfehndegjmngaaLvQ
import Derived.Test.YtdfehndegjmngaaSh07
import Derived.Test.YtdfehndegjmngaaW07b
set_option linter.unusedSimpArgs false
set_option linter.unusedVariables false
namespace Go.Lift
open Go Go.Proofs Go.RowKit Go.Maps Go.Shelf
set_option maxRecDepth 100000
theorem sortsA (m : Nat) : AnyZI.SortsIn Try.prog Try.sortedA_ren Fence.wide m :=
  ⟨fun blk off cap ss W hH hblk hsz => callsIn_wide.2 (AnyM.slices_Sort_int Try.sortA blk off cap ss W hH hblk hsz),
   fun p cap W => callsIn_wide.2 (AnyM.slices_Sort_int_none Try.sortA p cap W)⟩
section
variable {h : Hp} {m : Nat} {Q : List Value → Hp → Prop}
theorem SortedA_s {V : Type} {ev : V → Value} {B : Nat} {T : List (Int × V)} (hB : h[B]? = some (.cells #[.map (some m)] T_map_int_sint)) (hm : IsMap encI ev h m T)
    (hw : ∀ x ∈ T.map Prod.fst, (Lit.int .i64 x).wf = true) (hnd : (T.map Prod.fst).Nodup) (hl : T.length ≤ 2 ^ 40)
    (hQ : ∀ h' s, Ext [] h h' → Own T_int 1 encIL h.size h' s (sortI (T.map Prod.fst)) → Q [.slice s.a s.n s.c] h') : S_slices_Sorted_int 26 #[.pointer (some ⟨B, 0, none⟩)] h Q := by
  refine fn_of_calls Try.func18 (c := bodyOf Try.f18) (by kernel_rfl) (by kernel_rfl) ?_
  intro w hw'
  subst hw'
  obtain ⟨D0, hown, hperm, hsz⟩ := owns_of (P := Try.prog) (k := 3) Try.underlying3 hm hw hnd hl
  have hcell : w.cell? ⟨B, 0, none⟩ = some (.map (some m)) := by
    have := rd_blk hB 0
    exact this
  have hseq : SeqGives Fence.wide 2 Try.prog 26 #[.pointer (some ⟨B, 0, none⟩)] encZ (fun ss => ss.Perm (intKeys D0)) (Maps.size D0) w :=
    AnyZI.keys_gives (ρ := Try.keysA_ren) { Try.keysA with } Fence.wide _ trivial rfl (by omega) B m T.length D0 w (blk_lt hB) hcell hown
  have cS := AnyZI.sorted_in Try.sortedA Fence.wide 5 trivial trivial trivial trivial rfl (by omega) (sortsA _) (enters_of Try.func25 (by kernel_rfl) rfl) 26 #[.pointer (some ⟨B, 0, none⟩)] trivial (enters_of Try.func26 (by kernel_rfl) rfl) _ _ (by rw [hsz]; unfold maxLen; omega) (by rw [hsz]; omega) _ hseq
  refine (callsIn_wide.1 cS).mono ?_
  rintro e w' ⟨v, ss, rfl, hS, hrow, _, hb⟩
  have hsort : ss.mergeSort (fun x y => decide (x ≤ y)) = sortI (T.map Prod.fst) := mergeSort_of_perm_i (hS.trans hperm)
  have hlen : ss.length = (sortI (T.map Prod.fst)).length := by rw [← hsort, List.length_mergeSort]
  rw [hsort, hlen] at hrow
  obtain ⟨s, rfl, ho⟩ := own_of_row hrow
  exact ⟨[.slice s.a s.n s.c], rfl, ⟨hb.os, hb.output, hb.tape⟩, hQ w'.heap s ⟨hb.size, fun b hlt _ => hb.block b hlt⟩ ho⟩
theorem SortedB_s {V : Type} {ev : V → Value} {B : Nat} {T : List (Int × V)} (hB : h[B]? = some (.cells #[.map (some m)] T_map_int_int)) (hm : IsMap encI ev h m T)
    (hw : ∀ x ∈ T.map Prod.fst, (Lit.int .i64 x).wf = true) (hnd : (T.map Prod.fst).Nodup) (hl : T.length ≤ 2 ^ 40)
    (hQ : ∀ h' s, Ext [] h h' → Own T_int 1 encIL h.size h' s (sortI (T.map Prod.fst)) → Q [.slice s.a s.n s.c] h') : S_slices_Sorted_int 27 #[.pointer (some ⟨B, 0, none⟩)] h Q := by
  refine fn_of_calls Try.func18 (c := bodyOf Try.f18) (by kernel_rfl) (by kernel_rfl) ?_
  intro w hw'
  subst hw'
  obtain ⟨D0, hown, hperm, hsz⟩ := owns_of (P := Try.prog) (k := 3) Try.underlying3 hm hw hnd hl
  have hcell : w.cell? ⟨B, 0, none⟩ = some (.map (some m)) := by
    have := rd_blk hB 0
    exact this
  have hseq : SeqGives Fence.wide 2 Try.prog 27 #[.pointer (some ⟨B, 0, none⟩)] encZ (fun ss => ss.Perm (intKeys D0)) (Maps.size D0) w :=
    AnyZI.keys_gives (ρ := Try.keysB_ren) { Try.keysB with } Fence.wide _ trivial rfl (by omega) B m T.length D0 w (blk_lt hB) hcell hown
  have cS := AnyZI.sorted_in Try.sortedA Fence.wide 5 trivial trivial trivial trivial rfl (by omega) (sortsA _) (enters_of Try.func25 (by kernel_rfl) rfl) 27 #[.pointer (some ⟨B, 0, none⟩)] trivial (enters_of Try.func27 (by kernel_rfl) rfl) _ _ (by rw [hsz]; unfold maxLen; omega) (by rw [hsz]; omega) _ hseq
  refine (callsIn_wide.1 cS).mono ?_
  rintro e w' ⟨v, ss, rfl, hS, hrow, _, hb⟩
  have hsort : ss.mergeSort (fun x y => decide (x ≤ y)) = sortI (T.map Prod.fst) := mergeSort_of_perm_i (hS.trans hperm)
  have hlen : ss.length = (sortI (T.map Prod.fst)).length := by rw [← hsort, List.length_mergeSort]
  rw [hsort, hlen] at hrow
  obtain ⟨s, rfl, ho⟩ := own_of_row hrow
  exact ⟨[.slice s.a s.n s.c], rfl, ⟨hb.os, hb.output, hb.tape⟩, hQ w'.heap s ⟨hb.size, fun b hlt _ => hb.block b hlt⟩ ho⟩
/-- slices.Sorted(maps.Keys(m)). -/
theorem KeysA_s {V : Type} {ev : V → Value} {T : List (Int × V)} (hm : IsMap encI ev h m T) (hw : ∀ x ∈ T.map Prod.fst, (Lit.int .i64 x).wf = true) (hnd : (T.map Prod.fst).Nodup) (hl : T.length ≤ 2 ^ 40)
    (hQ : ∀ h' s, Ext [] h h' → Own T_int 1 encIL h.size h' s (sortI (T.map Prod.fst)) → Q [.slice s.a s.n s.c] h') : S_maps_Keys_map_int_sint_int_sint (some m) h fun vs h2 => ∃ f16 : Nat, ∃ cs17 : Array Value, vs = [(Value.func (.func f16) #[] cs17)] ∧ S_slices_Sorted_int f16 cs17 h2 Q := by
  refine O_maps_Keys_map_int_sint_int_sint _ ?_
  unfold F_maps_Keys_map_int_sint_int_sint
  refine newI fun h1 s1 b1 e1 => ⟨_, _, rfl, ?_⟩
  exact SortedA_s b1 (hm.ext e1 (by simp)) hw hnd hl fun h2 s e2 ho => hQ h2 s (e1.trans0 e2) (ho.mono (by omega))
theorem KeysB_s {V : Type} {ev : V → Value} {T : List (Int × V)} (hm : IsMap encI ev h m T) (hw : ∀ x ∈ T.map Prod.fst, (Lit.int .i64 x).wf = true) (hnd : (T.map Prod.fst).Nodup) (hl : T.length ≤ 2 ^ 40)
    (hQ : ∀ h' s, Ext [] h h' → Own T_int 1 encIL h.size h' s (sortI (T.map Prod.fst)) → Q [.slice s.a s.n s.c] h') : S_maps_Keys_map_int_int_int_int (some m) h fun vs h2 => ∃ f16 : Nat, ∃ cs17 : Array Value, vs = [(Value.func (.func f16) #[] cs17)] ∧ S_slices_Sorted_int f16 cs17 h2 Q := by
  refine O_maps_Keys_map_int_int_int_int _ ?_
  unfold F_maps_Keys_map_int_int_int_int
  refine newI fun h1 s1 b1 e1 => ⟨_, _, rfl, ?_⟩
  exact SortedB_s b1 (hm.ext e1 (by simp)) hw hnd hl fun h2 s e2 ho => hQ h2 s (e1.trans0 e2) (ho.mono (by omega))
end
end Go.Lift

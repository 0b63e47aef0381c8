/- The numbers of all versions: sorted. -/
import Derived.Test.YteopnfdhaeoodaaLvQ
import Derived.Test.YteopnfdhaeoodaaSh09
import Derived.Test.YteopnfdhaeoodaaC09e
set_option linter.unusedSimpArgs false
set_option linter.unusedVariables false
namespace Go.Lift
open Go Go.Proofs Go.RowKit Go.Maps Go.Shelf
set_option maxRecDepth 100000

theorem sortsA (m : Nat) : AnyZI.SortsIn Try.prog Try.sortedA_ren Fence.wide m :=
  ⟨fun blk off cap ss W hH hblk hsz => callsIn_wide.2 (AnyM.slices_Sort_int Try.sortA blk off cap ss W hH hblk hsz),
   fun p cap W => callsIn_wide.2 (AnyM.slices_Sort_int_none Try.sortA p cap W)⟩
section
variable {h : Hp} {p r m : Nat} {L : LogM} {R : RelM} {Q : List Value → Hp → Prop}
theorem SortedKeys_s {V : Type} {ev : V → Value} {B : Nat} {T : List (Int × V)} (hB : h[B]? = some (.cells #[.map (some m)] 71)) (hm : IsMap encI ev h m T)
    (hw : ∀ x ∈ T.map Prod.fst, (Lit.int .i64 x).wf = true) (hnd : (T.map Prod.fst).Nodup) (hl : T.length ≤ 2 ^ 40)
    (hQ : ∀ h' s, Ext [] h h' → Own T_int 1 (fun n : Int => [encI n]) h.size h' s (sortI (T.map Prod.fst)) → Q [.slice s.a s.n s.c] h') : S_slices_Sorted_int 51 #[.pointer (some ⟨B, 0, none⟩)] h Q := by
  refine fn_of_calls Try.func40 (c := bodyOf Try.f40) (by kernel_rfl) (by kernel_rfl) ?_
  intro w hw'
  subst hw'
  obtain ⟨D0, hown, hperm, hsz⟩ := owns_of (P := Try.prog) (k := 3) Try.underlying3 hm hw hnd hl
  have hcell : w.cell? ⟨B, 0, none⟩ = some (.map (some m)) := by
    have := rd_blk hB 0
    exact this
  have hseq : SeqGives Fence.wide 2 Try.prog 51 #[.pointer (some ⟨B, 0, none⟩)] encZ (fun ss => ss.Perm (intKeys D0)) (Maps.size D0) w :=
    AnyZI.keys_gives (ρ := Try.keysA_ren) { Try.keysA with } Fence.wide _ trivial rfl (by omega) B m T.length D0 w (blk_lt hB) hcell hown
  have cS := AnyZI.sorted_in Try.sortedA Fence.wide 5 trivial trivial trivial trivial rfl (by omega) (sortsA _) (enters_of Try.func50 (by kernel_rfl) rfl) 51 #[.pointer (some ⟨B, 0, none⟩)] trivial (enters_of Try.func51 (by kernel_rfl) rfl) _ _ (by rw [hsz]; unfold maxLen; omega) (by rw [hsz]; omega) _ hseq
  refine (callsIn_wide.1 cS).mono ?_
  rintro e w' ⟨v, ss, rfl, hS, hrow, _, hb⟩
  have hsort : ss.mergeSort (fun x y => decide (x ≤ y)) = sortI (T.map Prod.fst) := mergeSort_of_perm_i (hS.trans hperm)
  have hlen : ss.length = (sortI (T.map Prod.fst)).length := by rw [← hsort, List.length_mergeSort]
  rw [hsort, hlen] at hrow
  obtain ⟨s, rfl, ho⟩ := own_of_row hrow
  exact ⟨[.slice s.a s.n s.c], rfl, ⟨hb.os, hb.output, hb.tape⟩, hQ w'.heap s ⟨hb.size, fun b hlt _ => hb.block b hlt⟩ ho⟩
theorem Keys_s (hQ : ∀ h', h'[h.size]? = some (.cells #[.map (some m)] 71) → Ext [] h h' → Q [.func (.func 51) #[] #[.pointer (some ⟨h.size, 0, none⟩)]] h') : S_maps_Keys_map_int_api_Tuple_int_api_Tuple (some m) h Q := by
  refine O_maps_Keys_map_int_api_Tuple_int_api_Tuple _ ?_
  unfold F_maps_Keys_map_int_api_Tuple_int_api_Tuple
  refine newI fun h1 s1 b1 e1 => ?_
  exact hQ h1 b1 e1
theorem All_s (hr : IsRel h r m R) (hQ : ∀ h' s, Ext [] h h' → Own T_int 1 (fun n : Int => [encI n]) h.size h' s (sortI (R.T.map Prod.fst)) → Q [.slice s.a s.n s.c] h') : S_heap_Rel_All (some ⟨r, 0, none⟩) h Q := by
  refine O_heap_Rel_All _ ?_
  unfold F_heap_Rel_All
  rw [if_neg (by simp)]
  obtain ⟨C, hc, hT⟩ := hr.mem
  simp only [nilW_some, addr_mk, rd_blk hc.blk]
  refine ⟨some m, rfl, ?_⟩
  refine Keys_s fun h1 b1 e1 => ⟨_, _, rfl, ?_⟩
  have hk : (amap Prod.fst C).map Prod.fst = R.T.map Prod.fst := by rw [hT, keys_amap, keys_amap]
  have := hr.nd
  have hlt := hr.lt
  have hnx := hr.nx
  refine SortedKeys_s b1 (hc.map.ext e1 (by simp)) ?_ (by rw [hk]; exact this) ?_ fun h2 s e2 ho => ⟨s, rfl, ?_⟩
  · rw [hk]
    intro x hx
    have := hlt x hx
    simp only [Lit.wf, Bool.and_eq_true, decide_eq_true_eq]
    have e1 : IntKind.min .i64 = -9223372036854775808 := by decide
    have e2 : IntKind.max .i64 = 9223372036854775807 := by decide
    rw [e1, e2]
    omega
  · have h3 := hr.len
    have : (amap Prod.fst C).length = R.T.length := by rw [hT]; simp [amap]
    omega
  · rw [hk] at ho
    exact hQ h2 s (e1.trans0 e2) (ho.mono e1.sz)
end
end Go.Lift

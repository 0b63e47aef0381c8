/- Locks: the keys of a map, sorted. -/
import Derived.Test.YtgobalogbijliaaSh06
import Derived.Test.YtgobalogbijliaaLf06
import Derived.Test.YtgobalogbijliaaW06a
set_option linter.unusedSimpArgs false
set_option linter.unusedVariables false
namespace Go.Lift
open Go Go.Proofs Go.RowKit Go.Maps Go.Shelf
set_option maxRecDepth 100000
abbrev encI (n : Int) : Value := .int .i64 n
abbrev encIL (n : Int) : List Value := [.int .i64 n]
abbrev encStV (s : ByteArray) : Value := .string s
abbrev encB (s : ByteArray) : List Value := [.string s]
theorem beq_bytes (a b : ByteArray) : (a == b) = decide (a = b) := by
  cases a with | mk x => cases b with | mk y =>
  have h : ((⟨x⟩ : ByteArray) == ⟨y⟩) = (x == y) := rfl
  rw [h, Bool.eq_iff_iff, beq_iff_eq, decide_eq_true_eq]
  constructor
  · intro h; rw [h]
  · intro h; exact ByteArray.mk.inj h
instance keyStr : KeyEnc encStV := ⟨fun a b => by simp only [keyB]; exact beq_bytes a b, fun a b => by simp [likeK]⟩
theorem sortsI (m : Nat) : AnyZI.SortsIn Try.prog Try.sortedI_ren Fence.wide m :=
  ⟨fun blk off cap ss W hH hblk hsz => callsIn_wide.2 (AnyM.slices_Sort_int Try.sortI blk off cap ss W hH hblk hsz),
   fun p cap W => callsIn_wide.2 (AnyM.slices_Sort_int_none Try.sortI p cap W)⟩
theorem sortsS (m : Nat) : AnyZ.SortsIn Try.prog Try.sortedS_ren Fence.wide m :=
  ⟨fun blk off cap ss W hH hblk hsz => callsIn_wide.2 (AnyM.slices_Sort_string Try.sortS blk off cap ss W hH hblk hsz),
   fun p cap W => callsIn_wide.2 (AnyM.slices_Sort_string_none Try.sortS p cap W)⟩
section
variable {h : Hp} {m : Nat} {Q : List Value → Hp → Prop}
theorem SortedI_s {V : Type} {ev : V → Value} {B : Nat} {T : List (Int × V)} (hB : h[B]? = some (.cells #[.map (some m)] T_map_int_int)) (hm : IsMap encI ev h m T)
    (hw : ∀ x ∈ T.map Prod.fst, (Lit.int .i64 x).wf = true) (hnd : (T.map Prod.fst).Nodup) (hl : T.length ≤ 2 ^ 40)
    (hQ : ∀ h' s, Ext [] h h' → Own T_int 1 encIL h.size h' s (sortI (T.map Prod.fst)) → Q [.slice s.a s.n s.c] h') : S_slices_Sorted_int 59 #[.pointer (some ⟨B, 0, none⟩)] h Q := by
  refine fn_of_calls Try.func49 (c := bodyOf Try.f49) (by kernel_rfl) (by kernel_rfl) ?_
  intro w hw'
  subst hw'
  obtain ⟨D0, hown, hperm, hsz⟩ := owns_of (P := Try.prog) (k := 3) Try.underlying3 hm hw hnd hl
  have hcell : w.cell? ⟨B, 0, none⟩ = some (.map (some m)) := by
    have := rd_blk hB 0
    exact this
  have hseq : SeqGives Fence.wide 2 Try.prog 59 #[.pointer (some ⟨B, 0, none⟩)] encZ (fun ss => ss.Perm (intKeys D0)) (Maps.size D0) w :=
    AnyZI.keys_gives (ρ := Try.keysI_ren) { Try.keysI with } Fence.wide _ trivial rfl (by omega) B m T.length D0 w (blk_lt hB) hcell hown
  have cS := AnyZI.sorted_in Try.sortedI Fence.wide 5 trivial trivial trivial trivial rfl (by omega) (sortsI _) (enters_of Try.func58 (by kernel_rfl) rfl) 59 #[.pointer (some ⟨B, 0, none⟩)] trivial (enters_of Try.func59 (by kernel_rfl) rfl) _ _ (by rw [hsz]; unfold maxLen; omega) (by rw [hsz]; omega) _ hseq
  refine (callsIn_wide.1 cS).mono ?_
  rintro e w' ⟨v, ss, rfl, hS, hrow, _, hb⟩
  have hsort : ss.mergeSort (fun x y => decide (x ≤ y)) = sortI (T.map Prod.fst) := mergeSort_of_perm_i (hS.trans hperm)
  have hlen : ss.length = (sortI (T.map Prod.fst)).length := by rw [← hsort, List.length_mergeSort]
  rw [hsort, hlen] at hrow
  obtain ⟨s, rfl, ho⟩ := own_of_row hrow
  exact ⟨[.slice s.a s.n s.c], rfl, ⟨hb.os, hb.output, hb.tape⟩, hQ w'.heap s ⟨hb.size, fun b hlt _ => hb.block b hlt⟩ ho⟩
/-- slices.Sorted(maps.Keys(m)), numbers. -/
theorem KeysI_s {V : Type} {ev : V → Value} {T : List (Int × V)} (hm : IsMap encI ev h m T) (hw : ∀ x ∈ T.map Prod.fst, (Lit.int .i64 x).wf = true) (hnd : (T.map Prod.fst).Nodup) (hl : T.length ≤ 2 ^ 40)
    (hQ : ∀ h' s, Ext [] h h' → Own T_int 1 encIL h.size h' s (sortI (T.map Prod.fst)) → Q [.slice s.a s.n s.c] h') : S_maps_Keys_map_int_int_int_int (some m) h fun vs h2 => ∃ f16 : Nat, ∃ cs17 : Array Value, vs = [(Value.func (.func f16) #[] cs17)] ∧ S_slices_Sorted_int f16 cs17 h2 Q := by
  refine O_maps_Keys_map_int_int_int_int _ ?_
  unfold F_maps_Keys_map_int_int_int_int
  refine newI fun h1 s1 b1 e1 => ⟨_, _, rfl, ?_⟩
  exact SortedI_s b1 (hm.ext e1 (by simp)) hw hnd hl fun h2 s e2 ho => hQ h2 s (e1.trans0 e2) (ho.mono (by omega))
theorem SortedS_s {V : Type} {ev : V → Value} {B : Nat} {T : List (ByteArray × V)} (hB : h[B]? = some (.cells #[.map (some m)] T_map_string_plock_queue)) (hm : IsMap encStV ev h m T)
    (hw : ∀ x ∈ T.map Prod.fst, x.size ≤ maxLen) (hnd : (T.map Prod.fst).Nodup) (hl : T.length ≤ 2 ^ 40)
    (hQ : ∀ h' s, Ext [] h h' → Own T_string 1 encB h.size h' s (sortS (T.map Prod.fst)) → Q [.slice s.a s.n s.c] h') : S_slices_Sorted_string 56 #[.pointer (some ⟨B, 0, none⟩)] h Q := by
  refine fn_of_calls Try.func41 (c := bodyOf Try.f41) (by kernel_rfl) (by kernel_rfl) ?_
  intro w hw'
  subst hw'
  obtain ⟨D0, hown, hperm, hsz⟩ := owns_ofS (P := Try.prog) (k := 9) Try.underlying9 hm hw hnd hl
  have hcell : w.cell? ⟨B, 0, none⟩ = some (.map (some m)) := by
    have := rd_blk hB 0
    exact this
  have hseq : SeqGives Fence.wide 2 Try.prog 56 #[.pointer (some ⟨B, 0, none⟩)] encStr (fun ss => ss.Perm (strKeys D0)) (Maps.size D0) w :=
    AnyZ.keys_gives (ρ := Try.keysS_ren) { Try.keysS with } Fence.wide _ trivial rfl (by omega) B m T.length D0 w (blk_lt hB) hcell hown
  have cS := AnyZ.sorted_in Try.sortedS Fence.wide 5 trivial trivial trivial trivial rfl (by omega) (sortsS _) (enters_of Try.func55 (by kernel_rfl) rfl) 56 #[.pointer (some ⟨B, 0, none⟩)] trivial (enters_of Try.func56 (by kernel_rfl) rfl) _ _ (by rw [hsz]; unfold maxLen; omega) (by rw [hsz]; omega) _ hseq
  refine (callsIn_wide.1 cS).mono ?_
  rintro e w' ⟨v, ss, rfl, hS, hrow, _, hb⟩
  have hsort : ss.mergeSort (fun x y => decide (x ≤ y)) = ((T.map Prod.fst).map btl).mergeSort (fun x y => decide (x ≤ y)) := mergeSort_of_perm (hS.trans hperm)
  have hlen : ss.length = (((T.map Prod.fst).map btl).mergeSort (fun x y => decide (x ≤ y))).length := by rw [← hsort, List.length_mergeSort]
  rw [hsort, hlen] at hrow
  obtain ⟨s, rfl, ho⟩ := own_of_rowS hrow
  exact ⟨[.slice s.a s.n s.c], rfl, ⟨hb.os, hb.output, hb.tape⟩, hQ w'.heap s ⟨hb.size, fun b hlt _ => hb.block b hlt⟩ ho⟩
/-- slices.Sorted(maps.Keys(m)), strings. -/
theorem KeysS_s {V : Type} {ev : V → Value} {T : List (ByteArray × V)} (hm : IsMap encStV ev h m T) (hw : ∀ x ∈ T.map Prod.fst, x.size ≤ maxLen) (hnd : (T.map Prod.fst).Nodup) (hl : T.length ≤ 2 ^ 40)
    (hQ : ∀ h' s, Ext [] h h' → Own T_string 1 encB h.size h' s (sortS (T.map Prod.fst)) → Q [.slice s.a s.n s.c] h') : S_maps_Keys_map_string_plock_queue_string_plock_queue (some m) h fun vs h2 => ∃ f16 : Nat, ∃ cs17 : Array Value, vs = [(Value.func (.func f16) #[] cs17)] ∧ S_slices_Sorted_string f16 cs17 h2 Q := by
  refine O_maps_Keys_map_string_plock_queue_string_plock_queue _ ?_
  unfold F_maps_Keys_map_string_plock_queue_string_plock_queue
  refine newI fun h1 s1 b1 e1 => ⟨_, _, rfl, ?_⟩
  exact SortedS_s b1 (hm.ext e1 (by simp)) hw hnd hl fun h2 s e2 ho => hQ h2 s (e1.trans0 e2) (ho.mono (by omega))
end
end Go.Lift

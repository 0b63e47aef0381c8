/- strings.ReplaceAll of noughts; strings.Builder. -/
import Derived.Test.YtgmnomkhmdeapaaDoorW03a
import Derived.Test.YtgmnomkhmdeapaaDoorK03b
set_option linter.unusedSimpArgs false
set_option linter.unusedVariables false
namespace Go.Lift
open Go Go.Proofs Go.RowKit
set_option maxRecDepth 100000
theorem index_cons_ne {c : UInt8} (hc : c ≠ 0) (t : List UInt8) : Lib.index (c :: t) [0] = if Lib.index t [0] == -1 then -1 else Lib.index t [0] + 1 := by
  rw [Lib.index]
  have : [(0 : UInt8)].isPrefixOf (c :: t) = false := by
    simp [List.isPrefixOf]
    exact fun e => hc e.symm
  rw [this]
  rfl
theorem index_found : ∀ {t : List UInt8}, 0 < t.count 0 → ∃ i : Nat, Lib.index t [0] = i
  | [], h => by simp at h
  | c :: t, h => by
    by_cases hc : c = 0
    · subst hc
      exact ⟨0, by rw [Lib.index]; simp [List.isPrefixOf]⟩
    · rw [List.count_cons_of_ne (by simpa using hc)] at h
      obtain ⟨i, hi⟩ := index_found h
      refine ⟨i + 1, ?_⟩
      rw [index_cons_ne hc, hi, if_neg (by simp)]
      omega
theorem replaceK_esc : ∀ (s : List UInt8), Lib.replaceK [0] [0, 255] (s.count 0) s = escL s
  | [] => rfl
  | c :: t => by
    rw [escL_cons]
    have ih := replaceK_esc t
    by_cases hc : c = 0
    · subst hc
      rw [List.count_cons_self, if_pos rfl, ← ih]
      have hi : Lib.index (0 :: t) [0] = ((0 : Nat) : Int) := by rw [Lib.index]; simp [List.isPrefixOf]
      rw [Lib.replaceK_hit _ _ _ _ 0 hi]
      rfl
    · rw [List.count_cons_of_ne (by simpa using hc), if_neg hc, ← ih]
      cases hk : t.count 0 with
      | zero => rfl
      | succ k =>
        obtain ⟨i, hi⟩ := index_found (t := t) (by omega)
        have hi2 : Lib.index (c :: t) [0] = ((i + 1 : Nat) : Int) := by
          rw [index_cons_ne hc, hi, if_neg (by simp)]
          omega
        rw [Lib.replaceK_hit _ _ _ _ (i + 1) hi2, Lib.replaceK_hit _ _ _ _ i hi]
        rfl
theorem replaceAll_esc (s : List UInt8) : Lib.replaceAll s [0] [0, 255] = escL s := by
  unfold Lib.replaceAll Lib.replace
  rw [if_neg (by decide)]
  unfold Lib.replaceNum
  rw [if_pos (Or.inl (by decide)), Lib.count_one]
  exact replaceK_esc s
theorem isB_heap {T e : TypeId} {B b : Nat} {bs : List Value} {w w2 : World} (hh : w2.heap = w.heap) (h : Lib.IsBuilder T e B b bs w) : Lib.IsBuilder T e B b bs w2 := by
  unfold Lib.IsBuilder Lib.BuilderAt World.ownsRow at *
  rw [hh]
  exact h
section
variable {h : Hp} {Q : List Value → Hp → Prop}
def GM (h : Hp) : Prop := ∃ m : Int, rd h ⟨1, 0, none⟩ = some (.int .i64 m)
theorem GM.ext {h h' : Hp} (hg : GM h) (he : Ext [] h h') : GM h' := by
  obtain ⟨m, hm⟩ := hg
  exact ⟨m, rd_ext0 he hm⟩
theorem rd_world {w : World} {a : Addr} : w.cell? a = rd w.heap a := by
  unfold World.cell? rd
  rfl
theorem ReplaceAll_s (s : ByteArray) (hg : GM h) (hl : s.size ≤ 256) (hQ : ∀ h', Ext [] h h' → Q [.string ⟨(escL (btl s)).toArray⟩] h') : S_strings_ReplaceAll s (ByteArray.mk #[0]) (ByteArray.mk #[0, 255]) h Q := by
  obtain ⟨m, hm⟩ := hg
  refine fn_below (B := h.size) Tryd.func32 (c := bodyOf Tryd.f32) (by kernel_rfl) (by kernel_rfl) (vs := [.string ⟨(escL (btl s)).toArray⟩]) (fun w hw => ?_) fun h' e => hQ h' e.ext
  have hcount : Lib.countB s (ByteArray.mk #[0]) ≤ s.size := Lib.countB_le (ByteArray.mk #[0]) (by decide) s.size s (Nat.le_refl _)
  have := Tryd.strings_ReplaceAll s (ByteArray.mk #[0]) (ByteArray.mk #[0, 255]) m w (by omega) (by rw [rd_world, hw]; exact hm) (by decide) (by
    have h2 : (ByteArray.mk #[0, 255]).size = 2 := rfl
    rw [h2]
    omega)
  refine this.mono fun e w' ⟨he, hbl⟩ => ⟨?_, by rw [hw] at hbl; exact hbl⟩
  rw [he]
  show Ending.returned (.string ⟨(Lib.replaceAll s.data.toList [0] [0, 255]).toArray⟩) = _
  rw [replaceAll_esc]
  rfl
theorem BuH.new {b : Nat} (hb : Blk h b #[.pointer none, .slice none 0 0] T_strings_Builder) : BuH h b b [] := by
  intro w hw
  refine Or.inl ⟨Nat.le_refl _, .slice none 0 0, by rw [hw]; exact hb, ⟨rfl, Or.inl ⟨rfl, rfl⟩⟩, by simp [Value.ownBlock]⟩
theorem WriteString_s {B b : Nat} {l : List UInt8} (hB : BuH h B b l) (hBh : B ≤ h.size) (s : ByteArray) (hl : l.length + s.size ≤ 2 ^ 46)
    (hQ : ∀ h', Lo B h h' → BuH h' B b (l ++ btl s) → Q [.int .i64 s.size, .nilIface] h') : S_strings_Builder_WriteString (some ⟨b, 0, none⟩) s h Q := by
  refine fn_of_calls Tryd.func60 (c := bodyOf Tryd.f60) (by kernel_rfl) (by kernel_rfl) fun w hw => ?_
  refine (Tryd.Builder_WriteString B b (Lib.byteCells l) s w (hB w hw) (by simp [Lib.byteCells]; omega) (by rw [hw]; exact hBh)).mono fun e w' ⟨he, hat, hbl⟩ => ⟨[.int .i64 s.size, .nilIface], ?_, kept_below hbl, ?_⟩
  · rw [he]; rfl
  · refine hQ w'.heap ⟨by rw [← hw]; exact hbl.size, fun k hk => by rw [← hw]; exact hbl.block k hk⟩ fun w2 h2 => isB_heap h2 (Or.inr ?_)
    have e1 : Lib.byteCells (l ++ btl s) = Lib.byteCells l ++ Lib.strCells s := by unfold Lib.byteCells Lib.strCells btl; rw [List.map_append]
    rw [e1]
    exact hat
theorem WriteByte_s {B b : Nat} {l : List UInt8} (hB : BuH h B b l) (hBh : B ≤ h.size) (hl : l.length ≤ 2 ^ 46)
    (hQ : ∀ h', Lo B h h' → BuH h' B b (l ++ [0]) → Q [.nilIface] h') : S_strings_Builder_WriteByte (some ⟨b, 0, none⟩) 0 h Q := by
  refine fn_of_calls Tryd.func66 (c := bodyOf Tryd.f66) (by kernel_rfl) (by kernel_rfl) fun w hw => ?_
  refine (Tryd.Builder_WriteByte B b (Lib.byteCells l) 0 w (hB w hw) (by simp [Lib.byteCells]; omega) (by rw [hw]; exact hBh)).mono fun e w' ⟨he, hat, hbl⟩ => ⟨[.nilIface], ?_, kept_below hbl, ?_⟩
  · rw [he]; rfl
  · refine hQ w'.heap ⟨by rw [← hw]; exact hbl.size, fun k hk => by rw [← hw]; exact hbl.block k hk⟩ fun w2 h2 => isB_heap h2 (Or.inr ?_)
    have e1 : Lib.byteCells (l ++ [0]) = Lib.byteCells l ++ [.int .u8 0] := by unfold Lib.byteCells; rw [List.map_append]; rfl
    rw [e1]
    exact hat
theorem String_s {B b : Nat} {l : List UInt8} (hB : BuH h B b l) (hBh : B ≤ h.size) (hQ : ∀ h', Lo B h h' → Q [.string ⟨l.toArray⟩] h') : S_strings_Builder_String (some ⟨b, 0, none⟩) h Q := by
  refine fn_below (B := B) Tryd.func61 (c := bodyOf Tryd.f61) (by kernel_rfl) (by kernel_rfl) (vs := [.string ⟨l.toArray⟩]) (fun w hw => ?_) hQ
  exact Tryd.Builder_String_any B b l w (hB w hw) (by rw [hw]; exact hBh)
end
end Go.Lift

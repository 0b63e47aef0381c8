/- Leaves in order: what wakes the law; leaves that nobody made. -/
import Derived.Test.YtempffmkbpglfaaL10u
set_option linter.unusedSimpArgs false
set_option linter.unusedVariables false
namespace Go.Lift
open Go Go.Proofs
set_option maxRecDepth 100000
abbrev kA : ByteArray := ByteArray.mk #[97]
abbrev kB : ByteArray := ByteArray.mk #[98]
abbrev kC : ByteArray := ByteArray.mk #[99]
abbrev m0 : LeafM := ⟨2, 2, [⟨1, ByteArray.mk #[], []⟩]⟩
abbrev m1 : LeafM := ⟨2, 2, [⟨1, ByteArray.mk #[], [kA]⟩]⟩
abbrev m2 : LeafM := ⟨2, 2, [⟨1, ByteArray.mk #[], [kA, kB]⟩]⟩
abbrev m3 : LeafM := ⟨2, 3, [⟨1, ByteArray.mk #[], [kA, kB]⟩, ⟨2, kC, [kC]⟩]⟩
theorem ins_a : m0.ins kA = (m1, ⟨1, 0, 0, 0⟩) := by kernel_rfl
theorem ins_b : m1.ins kB = (m2, ⟨1, 0, 0, 0⟩) := by kernel_rfl
theorem ins_c : m2.ins kC = (m3, ⟨2, 1, 2, 0⟩) := by kernel_rfl
theorem rng_3 : m3.rng kA (ByteArray.mk #[]) = ([kA, kB, kC], [1, 2]) := by kernel_rfl
theorem keys_3 : (keysOf m3.l 1).getD [] = [kA, kB] := by kernel_rfl
theorem of_3 : ofL m3.l (ByteArray.mk #[98, 98]) = 1 := by kernel_rfl
section
variable {h : Hp} {Q : List Value → Hp → Prop}
theorem reads_lit {α : Type} {enc : α → List Value} (hen : ∀ x, (enc x).length = 1) {h : Hp} {b : Nat} {T : TypeId} {xs : List α} {n : Nat} (hb : Blk h b (xs.flatMap enc).toArray T) (hn : n = xs.length) : Reads 1 enc h ⟨some ⟨b, 0, none⟩, n, n⟩ xs := by
  have hl : (xs.flatMap enc).length = xs.length := by rw [flatMap_length hen]; omega
  refine ⟨hn, fun e => (by cases e), ?_⟩
  have := cellsAt_blk hb (o := 0) (n := n * 1) (by simp [hl, hn])
  rw [show (xs.flatMap enc).toArray.toList.drop 0 = xs.flatMap enc by simp, List.take_of_length_le (by omega)] at this
  exact this
theorem wakes10_s (hQ : ∀ h', Ext [] h h' → Q [.bool true] h') : S_liverylaw10_wakes h Q := by
  refine O_liverylaw10_wakes ?_
  unfold F_liverylaw10_wakes
  refine New_L (by decide) fun h1 x hv e1 => ⟨_, _, rfl, ?_⟩
  have ok0 : OkM m0 0 := new_ok (by decide)
  intro J hJ
  rw [if_neg (by decide)]
  refine hJ _ _ ?_
  rw [if_neg (by simp)]
  have ok1 := (ins_ok ok0 kA).1
  refine ins_L hv ok0 (by decide) kA fun h2 S2 hv2 e2 hS2 => ⟨_, _, _, _, rfl, ?_⟩
  rw [ins_a] at hv2 ok1
  have ok2 := (ins_ok ok1 kB).1
  refine ins_L hv2 ok1 (by decide) kB fun h3 S3 hv3 e3 hS3 => ⟨_, _, _, _, rfl, ?_⟩
  rw [ins_b] at hv3 ok2
  have ok3 := (ins_ok ok2 kC).1
  refine ins_L hv3 ok2 (by decide) kC fun h4 S4 hv4 e4 hS4 => ⟨_, _, _, _, rfl, ?_⟩
  rw [ins_c] at hv4 ok3 ⊢
  refine varI rfl rfl fun h5 s5 b5 e5 => ?_
  have hv5 := hv4.e0 e5
  have e05 : Ext [] h h5 := (((e1.trans e2 (fun b hb hlt => by have := (hS2 b hb).1; omega)).trans e3 (fun b hb hlt => by have := (hS3 b hb).1; omega)).trans e4 (fun b hb hlt => by have := (hS4 b hb).1; omega)).trans0 e5
  refine Range_L hv5 ok3 (by decide) kA (ByteArray.mk #[]) fun h6 sk sn hv6 e6 ok6 on6 => ⟨sk, sn, rfl, ?_⟩
  rw [rng_3] at ok6 on6
  rw [if_pos (by decide), if_pos (by decide)]
  have b6 := e6.get b5 (by simp)
  refine ⟨1, by rw [addr_mk, rd_blk b6]; rfl, ?_⟩
  rw [if_pos (by decide)]
  refine ⟨2, by rw [addr_mk, rd_blk b6]; rfl, ?_⟩
  rw [if_pos (by decide)]
  refine Keys_L hv6 ok3 (by decide) 1 fun h7 s7 hv7 e7 ho7 => ⟨s7, rfl, ?_⟩
  rw [keys_3] at ho7
  refine newI fun h8 s8 b8 e8 => ?_
  have hv8 := hv7.e0 e8
  refine Texts_s (ho7.ext0 e8).sl.reads (reads_lit (xs := [kA, kB]) encB_len b8 rfl) (by decide) ⟨_, rfl, ?_⟩
  rw [if_pos (by decide)]
  have hkn := ok6.1
  rw [if_pos (by simp at hkn ⊢; omega)]
  refine newI fun h9 s9 b9 e9 => ?_
  have hv9 := hv8.e0 e9
  refine Ints_s (((on6.ext0 e7).ext0 e8).ext0 e9).sl.reads (reads_lit (xs := [(1 : Int), 2]) encIL_len b9 rfl) (by decide) ⟨_, rfl, ?_⟩
  rw [if_pos (by decide)]
  refine Of_L hv9 ok3 (by decide) _ ⟨_, rfl, ?_⟩
  rw [of_3]
  exact hQ h9 ((((e05.trans0 e6).trans0 e7).trans0 e8).trans0 e9)
theorem LeafNone_s {k : ByteArray} (hQ : ∀ h', Ext [] h h' → Q [.bool true] h') : F_liverylaw10_LeafNone k h Q := by
  unfold F_liverylaw10_LeafNone
  by_cases hk : (k.size : Int) > 2000
  · rw [if_pos (by simp; omega)]
    exact wakes10_s fun h' e => ⟨_, rfl, hQ h' e⟩
  · rw [if_neg (by simp; omega)]
    refine O_leaf_Leaves_Insert _ _ ?_
    unfold F_leaf_Leaves_Insert
    refine newI fun h1 s1 b1 e1 => ?_
    rw [if_pos (by decide)]
    refine st_blk b1 (by simp) fun h2 s2 b2 e2 => ?_
    refine ⟨_, by simp [rd_blk b2]; rfl, _, by simp [rd_blk b2]; rfl, _, _, _, _, rfl, ?_⟩
    have e02 : Ext [] h h2 := e1.trans e2 (by intro b hb hlt; simp at hb; omega)
    refine varI rfl rfl fun h3 s3 b3 e3 => ?_
    refine O_leaf_Leaves_Remove _ _ ?_
    unfold F_leaf_Leaves_Remove
    refine newI fun h4 s4 b4 e4 => ?_
    rw [if_pos (by decide)]
    refine st_blk b4 (by simp) fun h5 s5 b5 e5 => ?_
    refine ⟨_, by simp [rd_blk b5]; rfl, _, by simp [rd_blk b5]; rfl, _, _, _, _, rfl, ?_⟩
    have e35 : Ext [] h3 h5 := e4.trans e5 (by intro b hb hlt; simp at hb; omega)
    refine varI rfl rfl fun h6 s6 b6 e6 => ?_
    have e06 := ((e02.trans0 e3).trans0 e35).trans0 e6
    have c3 := (e35.trans0 e6).get b3 (by simp)
    refine O_leaf_Leaves_Range _ _ _ ?_
    unfold F_leaf_Leaves_Range
    intro J hJ
    rw [if_pos (by decide)]
    refine hJ _ _ ?_
    rw [if_pos rfl]
    refine ⟨⟨none, 0, 0⟩, ⟨none, 0, 0⟩, rfl, ?_⟩
    rw [if_pos (by decide)]
    refine ⟨0, by rw [addr_mk, rd_blk c3]; rfl, ?_⟩
    rw [if_pos (by decide), if_pos (by decide), if_pos (by decide)]
    refine ⟨0, by rw [addr_mk, rd_blk b6]; rfl, ?_⟩
    rw [if_pos (by decide), if_pos (by decide), if_pos (by decide), if_pos (by decide)]
    refine O_leaf_Leaves_Has _ _ ?_
    unfold F_leaf_Leaves_Has
    rw [if_pos (by decide)]
    refine ⟨_, rfl, ?_⟩
    rw [if_pos (by decide)]
    refine O_leaf_Leaves_Of _ _ ?_
    unfold F_leaf_Leaves_Of
    rw [if_pos (by decide)]
    refine ⟨_, rfl, ?_⟩
    rw [if_pos (by decide)]
    refine O_leaf_Leaves_All _ ?_
    unfold F_leaf_Leaves_All
    rw [if_pos (by decide)]
    refine ⟨⟨none, 0, 0⟩, rfl, ?_⟩
    rw [if_pos (by decide)]
    refine O_leaf_Leaves_Keys _ _ ?_
    unfold F_leaf_Leaves_Keys
    refine newI fun h7 s7 b7 e7 => ?_
    rw [if_pos (by decide)]
    refine ⟨⟨none, 0, 0⟩, rfl, ?_⟩
    rw [if_pos (by decide)]
    refine O_leaf_Leaves_Len _ ?_
    unfold F_leaf_Leaves_Len
    intro J hJ
    rw [if_neg (by decide)]
    refine hJ _ _ ⟨_, rfl, ?_⟩
    rw [if_pos (by decide)]
    exact wakes10_s fun h' e => ⟨_, rfl, hQ h' ((e06.trans0 e7).trans0 e)⟩
end
end Go.Lift

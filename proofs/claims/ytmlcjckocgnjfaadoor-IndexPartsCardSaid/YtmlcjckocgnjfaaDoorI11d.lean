/- What wakes the laws of indices; an index that nobody made. -/
import Derived.Test.YtmlcjckocgnjfaaDoorI11c
set_option linter.unusedSimpArgs false
set_option linter.unusedVariables false
namespace Go.Lift
open Go Go.Proofs Go.RowKit
set_option maxRecDepth 100000
theorem sub_flat {α β : Type} (f : α → List β) : ∀ {l m : List α}, l.Sublist m → (l.flatMap f).Sublist (m.flatMap f)
  | _, _, .slnil => List.Sublist.refl _
  | _, _, .cons a h => by
    rw [List.flatMap_cons]
    exact (sub_flat f h).trans (List.sublist_append_right _ _)
  | _, _, .cons_cons a h => by
    rw [List.flatMap_cons, List.flatMap_cons]
    exact List.Sublist.append (List.Sublist.refl _) (sub_flat f h)
theorem rng_sub (M : LeafM) (a b : ByteArray) : ((M.rng a b).1).Sublist (M.l.flatMap OneM.keys) := by
  unfold LeafM.rng
  split
  · exact List.nil_sublist _
  · exact List.filter_sublist.trans (sub_flat _ ((List.drop_sublist _ _).trans (List.take_sublist _ _)))
theorem KM_of {M : LeafM} (h1 : ∀ k ∈ M.l.flatMap OneM.keys, k.size ≤ 2 ^ 40) (h2 : (M.l.flatMap OneM.keys).length ≤ 2 ^ 29) : KM M := fun a b =>
  ⟨fun k hk => h1 k ((rng_sub M a b).subset hk), Nat.le_trans (rng_sub M a b).length_le h2⟩
theorem two_be {n : Nat} (hn : n ≤ 65535) : twoL (beL 2 n) = (n : Int) := by
  have h := num_beL (k := 2) (u := n) (by omega)
  have hl := beL_len 2 n
  unfold twoL
  generalize hb : beL 2 n = b at h hl ⊢
  obtain ⟨x, y, rfl⟩ : ∃ x y, b = [x, y] := by
    cases b with
    | nil => cases hl
    | cons x b => cases b with
      | nil => cases hl
      | cons y b => cases b with
        | nil => exact ⟨x, y, rfl⟩
        | cons z b => simp at hl
  rw [numL_cons, numL_cons] at h
  have h0 : numL [] = 0 := rfl
  rw [h0] at h
  simp at h ⊢
  omega
theorem splitP_of {v : V4} (hv : VOk v) (hg : goodX v = true) {n : Nat} (hn : n ≤ 65535) : splitP (encX v ++ beL 2 n) = (v, (n : Int), 0) := by
  unfold splitP
  rw [firstL_of hv hg]
  simp only
  rw [if_pos (beL_len 2 n), two_be hn]
theorem entryP_good {v : V4} (hg : goodX v = true) {n : Nat} (hn : n ≤ 65535) : entryP v n = (ofBtl (encX v ++ beL 2 n), 0) := by
  unfold entryP
  rw [if_pos hg, if_neg (by omega), Int.toNat_natCast]
theorem afterP_good {v : V4} (hg : goodX v = true) : afterP v = (ofBtl (encX v ++ beL 2 65535 ++ [0]), 0) := by
  unfold afterP
  rw [if_pos hg]
theorem entP_of {v : V4} (hv : VOk v) (hg : goodX v = true) {n : Nat} (hn : n ≤ 65535) : entP (ofBtl (encX v ++ beL 2 n)) = some (n : Int) := by
  unfold entP
  rw [btl_ofBtl, splitP_of hv hg hn, if_pos rfl]
def v5 : V4 := ⟨2, 5, 0, sE⟩
theorem v5_ok : VOk v5 := ⟨by decide, by decide, by decide⟩
theorem v5_good : goodX v5 = true := by
  unfold goodX goodV v5
  simp [bareV]
abbrev kT (t : UInt8) : ByteArray := ByteArray.mk #[2, 128, 0, 0, 0, 0, 0, 0, 5, 0, t]
theorem enc5 : encX v5 = [2, 128, 0, 0, 0, 0, 0, 0, 5] := by decide +kernel
theorem ent5 {t : Nat} (ht : t < 256) : entryP v5 t = (kT (UInt8.ofNat t), 0) := by
  rw [entryP_good v5_good (by omega), enc5]
  have h0 : t / 256 = 0 := by omega
  have : beL 2 t = [0, UInt8.ofNat t] := by
    unfold beL beL beL
    simp [h0]
    rw [Nat.mod_eq_of_lt ht]
  rw [this]
  rfl
theorem aft5 : afterP v5 = (ByteArray.mk #[2, 128, 0, 0, 0, 0, 0, 0, 5, 255, 255, 0], 0) := by
  rw [afterP_good v5_good, enc5]
  have : beL 2 65535 = [255, 255] := by decide +kernel
  rw [this]
  rfl
abbrev i0 : LeafM := ⟨2, 2, [⟨1, ByteArray.mk #[], []⟩]⟩
abbrev i1 : LeafM := ⟨2, 2, [⟨1, ByteArray.mk #[], [kT 3]⟩]⟩
abbrev i2 : LeafM := ⟨2, 2, [⟨1, ByteArray.mk #[], [kT 1, kT 3]⟩]⟩
abbrev i3 : LeafM := ⟨2, 3, [⟨1, ByteArray.mk #[], [kT 1, kT 3]⟩, ⟨2, kT 7, [kT 7]⟩]⟩
theorem insI_a : i0.ins (kT 3) = (i1, ⟨1, 0, 0, 0⟩) := by kernel_rfl
theorem insI_b : i1.ins (kT 1) = (i2, ⟨1, 0, 0, 0⟩) := by kernel_rfl
theorem insI_c : i2.ins (kT 7) = (i3, ⟨2, 1, 2, 0⟩) := by kernel_rfl
theorem rngI : i3.rng (kT 0) (ByteArray.mk #[2, 128, 0, 0, 0, 0, 0, 0, 5, 255, 255, 0]) = ([kT 1, kT 3, kT 7], [1, 2]) := by kernel_rfl
theorem hasI : ((i3.l[atL i3.l (kT 3)]?).map fun o => hasK o.keys (kT 3)) = some true := by kernel_rfl
theorem sumI : sumL i3.l = 3 := by kernel_rfl
theorem addI {M : LeafM} {t : Nat} (ht : t < 256) : addM M v5 t = M.ins (kT (UInt8.ofNat t)) := by
  unfold addM
  rw [ent5 ht, if_pos rfl]
theorem tids5 : tidsL [kT 1, kT 3, kT 7] = [1, 3, 7] := by
  have e : ∀ t : Nat, t < 256 → entP (kT (UInt8.ofNat t)) = some (t : Int) := fun t ht => by
    have h1 := ent5 ht
    rw [entryP_good v5_good (by omega)] at h1
    have h2 := congrArg Prod.fst h1
    simp only at h2
    rw [← h2]
    exact entP_of v5_ok v5_good (by omega)
  have e1 := e 1 (by decide)
  have e3 := e 3 (by decide)
  have e7 := e 7 (by decide)
  unfold tidsL
  simp only [List.filterMap_cons, List.filterMap_nil]
  have f1 : entP (kT 1) = some 1 := e1
  have f3 : entP (kT 3) = some 3 := e3
  have f7 : entP (kT 7) = some 7 := e7
  rw [f1, f3, f7]
theorem find5 : findP i3 v5 = ([1, 3, 7], [1, 2]) := by
  unfold findP
  have e0 : entryP v5 0 = (kT 0, 0) := ent5 (t := 0) (by decide)
  rw [if_pos v5_good, e0, aft5, rngI, tids5]
theorem km3 : KM i3 := KM_of (by decide +kernel) (by decide +kernel)
theorem reads_litI {h : Hp} {b : Nat} {T : TypeId} {xs : List Int} {n : Nat} (hb : Blk h b (xs.flatMap encIL).toArray T) (hn : n = xs.length) : Reads 1 encIL h ⟨some ⟨b, 0, none⟩, n, n⟩ xs := by
  have hl : (xs.flatMap encIL).length = xs.length := by rw [flatMap_length encIL_len]; omega
  refine ⟨hn, fun e => (by cases e), ?_⟩
  have := cellsAt_blk hb (o := 0) (n := n * 1) (by simp [hl, hn])
  rw [show (xs.flatMap encIL).toArray.toList.drop 0 = xs.flatMap encIL by simp, List.take_of_length_le (by omega)] at this
  exact this
section
variable {h : Hp} {Q : List Value → Hp → Prop}
theorem wakes_i (hg : GM h) (hQ : ∀ h', Ext [] h h' → Q [.bool true] h') : S_liverylaw11_wakes h Q := by
  refine O_liverylaw11_wakes ?_
  unfold F_liverylaw11_wakes
  have h2 := hg.two
  refine New_i (by decide) fun h1 x hx1 e1 => ⟨_, _, rfl, ?_⟩
  have ok0 : OkM i0 0 := new_ok (by decide)
  refine newI fun h5 s5 b5 e5 => put4 b5 rfl v5 fun h6 s6 b6 e6 => ?_
  have e16 : Ext [] h1 h6 := e5.trans e6 fun b hb hlt => by simp at hb; omega
  have e06 := e1.trans0 e16
  have hx6 : Ix h.size (fun b => b = h1.size) h6 x i0 := hx1.grow e16 fun b hb => ⟨Or.inr (by omega), by omega⟩
  intro J hJ
  rw [if_neg (by simp)]
  refine hJ _ _ ?_
  rw [if_neg (by simp)]
  refine rdV b6 ?_
  refine Add_i hx6 ok0 (by decide) h2 v5 v5_ok 3 (hg.ext e06) fun h7 S7 hx7 e7 hS7 => ⟨_, _, _, _, rfl, ?_⟩
  have a3 : addM i0 v5 3 = i0.ins (kT 3) := addI (t := 3) (by decide)
  rw [a3, insI_a] at hx7
  have ok1 := (ins_ok ok0 (kT 3)).1
  rw [insI_a] at ok1
  have b7 := e7.get b6 (fun hm => (hS7 _ hm).2 rfl)
  have g7 : GM h7 := (hg.ext e06).exS e7 fun b hb => by have := (hS7 b hb).1; omega
  refine rdV b7 ?_
  refine Add_i hx7 ok1 (by decide) h2 v5 v5_ok 1 g7 fun h8 S8 hx8 e8 hS8 => ⟨_, _, _, _, rfl, ?_⟩
  have a1 : addM i1 v5 1 = i1.ins (kT 1) := addI (t := 1) (by decide)
  rw [a1, insI_b] at hx8
  have ok2 := (ins_ok ok1 (kT 1)).1
  rw [insI_b] at ok2
  have b8 := e8.get b7 (fun hm => (hS8 _ hm).2 rfl)
  have g8 : GM h8 := g7.exS e8 fun b hb => by have := (hS8 b hb).1; omega
  refine rdV b8 ?_
  refine Add_i hx8 ok2 (by decide) h2 v5 v5_ok 7 g8 fun h9 S9 hx9 e9 hS9 => ?_
  have a7 : addM i2 v5 7 = i2.ins (kT 7) := addI (t := 7) (by decide)
  rw [a7, insI_c] at hx9 ⊢
  refine ⟨_, _, _, _, rfl, ?_⟩
  have ok3 := (ins_ok ok2 (kT 7)).1
  rw [insI_c] at ok3
  have b9 := e9.get b8 (fun hm => (hS9 _ hm).2 rfl)
  have g9 : GM h9 := g8.exS e9 fun b hb => by have := (hS9 b hb).1; omega
  have e09 : Ext [] h h9 := ((e06.trans e7 (fun b hb hlt => by have := (hS7 b hb).1; omega)).trans e8 (fun b hb hlt => by have := (hS8 b hb).1; omega)).trans e9 (fun b hb hlt => by have := (hS9 b hb).1; omega)
  refine newI fun h10 s10 b10 e10 => ?_
  refine st_blk b10 (by simp) fun h11 s11 b11 e11 => ?_
  have e911 : Ext [] h9 h11 := e10.trans e11 fun b hb hlt => by simp at hb; omega
  have hx11 := hx9.e0 e911
  have b9' := e911.get b9 (by simp)
  refine rdV b9' ?_
  refine Find_i hx11 ok3 (by decide) km3 v5 v5_ok (g9.ext e911) fun h12 st sn hx12 e12 ot on => ⟨st, sn, rfl, ?_⟩
  rw [find5] at ot on
  have b12 := e12.get b11 (by simp)
  have e912 := e911.trans0 e12
  rw [if_pos (by rfl)]
  refine ⟨1, by simp [rd_blk b12], ?_⟩
  rw [if_pos (by decide)]
  refine ⟨2, by simp [rd_blk b12], ?_⟩
  rw [if_pos (by decide)]
  refine newI fun h13 s13 b13 e13 => ?_
  refine Ints_s (ot.ext0 e13).sl.reads (reads_litI (xs := [(1 : Int), 3, 7]) b13 rfl) (by decide) ⟨_, rfl, ?_⟩
  rw [if_pos (by decide)]
  refine newI fun h14 s14 b14 e14 => ?_
  refine Ints_s ((on.ext0 e13).ext0 e14).sl.reads (reads_litI (xs := [(1 : Int), 2]) b14 rfl) (by decide) ⟨_, rfl, ?_⟩
  rw [if_pos (by decide)]
  have e914 := (e912.trans0 e13).trans0 e14
  have hx14 := hx9.e0 e914
  refine rdV (e914.get b9 (by simp)) ?_
  refine Has_i hx14 ok3 (by decide) v5 v5_ok 3 (g9.ext e914) fun h15 e15 => ⟨_, rfl, ?_⟩
  have e3 : entryP v5 3 = (kT 3, 0) := ent5 (t := 3) (by decide)
  have hh := hasI
  rw [List.getElem?_eq_getElem (atL_lt ok3.ne _)] at hh
  have hh2 := Option.some.inj hh
  rw [if_pos (by simp only [e3]; exact hh2)]
  refine Len_i (hx14.e0 e15) ok3 (by decide) ⟨_, rfl, ?_⟩
  rw [sumI]
  exact hQ h15 ((e09.trans0 e914).trans0 e15)
end
end Go.Lift

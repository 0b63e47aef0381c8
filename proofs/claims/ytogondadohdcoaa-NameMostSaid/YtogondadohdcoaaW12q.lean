/- NameMost. -/
import Derived.Test.YtogondadohdcoaaW12p
set_option linter.unusedSimpArgs false
set_option linter.unusedVariables false
namespace Go.Lift
open Go Go.Proofs Go.RowKit Go.Shelf
set_option maxRecDepth 100000
def nmB (i : Nat) : ByteArray := ⟨#[UInt8.ofNat (97 + i)]⟩
abbrev sMore : ByteArray := ByteArray.mk #[109, 111, 114, 101]
def whoM (k j : Nat) : Int := if j ≥ k then 2 else 1
def mostN (k i : Nat) : NM := (List.range i).map fun j => (nmB j, [⟨whoM k j, 0, tabT (nmB j) 1⟩])
theorem mostN_succ (k i : Nat) : mostN k (i + 1) = mostN k i ++ [(nmB i, [⟨whoM k i, 0, tabT (nmB i) 1⟩])] := by unfold mostN; rw [List.range_succ, List.map_append]; rfl
theorem mostN_len (k i : Nat) : (mostN k i).length = i := by simp [mostN]
theorem mostN_new : ∀ k, k < 7 → ∀ i, i < 6 → (afind (mostN k i) (nmB i)).isNone = true := by decide +kernel
theorem mostN_more : ∀ k, k < 7 → (afind (mostN k 6) sMore).isNone = true := by decide +kernel
theorem most_full : ∀ k, k < 7 → othersN wL2 (mostN k 6) 1 sMore = 6 ∧ othersN wL2 (mostN k 6) 2 sMore = 6 := by decide +kernel
theorem most_left : ∀ k, k < 7 → othersN (abortL wL2 2) (mostN k 6) 1 sMore = k := by decide +kernel
theorem nm_byte : ∀ i : Nat, i < 6 → IntKind.wrap .u8 (IntKind.wrap .i64 ((97 : Int) + (i : Int))) = ((UInt8.ofNat (97 + i)).toNat : Int) := by decide +kernel
theorem nm_good : ∀ i, i < 6 → nameB (nmB i) = true := by decide +kernel
theorem more_good : nameB sMore = true := by decide +kernel
theorem vs_none {N : NM} {k : ByteArray} (h : (afind N k).isNone = true) : vsN N k = [] := by
  unfold vsN
  rw [Option.isNone_iff_eq_none] at h
  rw [h]
  rfl
theorem un_none {L : LM} {N : NM} {x : Int} {k : ByteArray} (h : (afind N k).isNone = true) : unseenN L N x k = [] := by
  rw [unseen_nil, vs_none h]
  intro v hv
  cases hv
theorem at_none {L : LM} {N : NM} {x : Int} {k : ByteArray} (h : (afind N k).isNone = true) : atN L N x k = -1 := by
  unfold atN
  rw [vs_none h]
  rfl
theorem add_none {N : NM} {k : ByteArray} (h : (afind N k).isNone = true) (v : VM) : addN N k v = N ++ [(k, [v])] := by
  unfold addN
  rw [vs_none h, List.nil_append]
  exact aput_new (by rw [← afind_none]; exact Option.isNone_iff_eq_none.1 h) _
theorem others_le (L : LM) (N : NM) (x : Int) (k : ByteArray) : othersN L N x k ≤ N.length := by
  unfold othersN
  have := List.length_filter_le (fun j => decide (j ≠ k) && (vsN N j).any (goneP L x)) (N.map Prod.fst)
  rwa [List.length_map] at this
theorem runs_w (k j : Nat) : (txL wL2 (whoM k j)).state = 1 := by
  unfold whoM
  split <;> kernel_rfl
theorem most_put {k i : Nat} (hk : k < 7) (hi : i < 6) : putE wL2 (mostN k i) (whoM k i) (tabT (nmB i) 1) = 0 ∧ putN wL2 (mostN k i) (whoM k i) (tabT (nmB i) 1) = mostN k (i + 1) := by
  have hn := mostN_new k hk i hi
  have hE : putE wL2 (mostN k i) (whoM k i) (tabT (nmB i) 1) = 0 := by
    rw [putE_tab (runs_w k i) (nm_good i hi) (by omega) (un_none hn), if_neg]
    rintro ⟨_, h⟩
    have := others_le wL2 (mostN k i) (whoM k i) (nmB i)
    rw [mostN_len] at this
    omega
  refine ⟨hE, ?_⟩
  unfold putN
  rw [if_pos hE, show (tabT (nmB i) 1).name = nmB i from rfl, at_none hn, if_pos (by decide), add_none hn, mostN_succ]
theorem most_many {k : Nat} (hk : k < 7) {x : Int} (hx : x = 1 ∨ x = 2) : putE wL2 (mostN k 6) x (tabT sMore 1) = 3 ∧ putN wL2 (mostN k 6) x (tabT sMore 1) = mostN k 6 := by
  have hn := mostN_more k hk
  have hE : putE wL2 (mostN k 6) x (tabT sMore 1) = 3 := by
    rw [putE_tab (by rcases hx with rfl | rfl <;> kernel_rfl) more_good (by omega) (un_none hn), if_pos]
    refine ⟨by rw [at_none hn]; decide, ?_⟩
    have := most_full k hk
    rcases hx with rfl | rfl
    · rw [this.1]; exact Nat.le_refl _
    · rw [this.2]; exact Nat.le_refl _
  refine ⟨hE, ?_⟩
  unfold putN
  rw [if_neg (by rw [hE]; decide)]
theorem most_last {k : Nat} (hk : k < 7) : putE (abortL wL2 2) (mostN k 6) 1 (tabT sMore 1) = if k < 6 then 0 else 3 := by
  have hn := mostN_more k hk
  rw [putE_tab (by kernel_rfl) more_good (by omega) (un_none hn), at_none hn, most_left k hk]
  by_cases h6 : k < 6
  · rw [if_neg (by omega), if_pos h6]
  · rw [if_pos ⟨by decide, by omega⟩, if_neg h6]
theorem most_ok {k : Nat} (hk : k < 7) : ∀ i, i ≤ 6 → NOk i (mostN k i) := by
  intro i
  induction i with
  | zero => intro _; exact nok_nil
  | succ i ih =>
    intro hi
    have := (ih (by omega)).put wL2 (whoM k i) (tabT (nmB i) 1)
    rwa [(most_put hk (by omega)).2] at this
section
variable {h : Hp} {Q : List Value → Hp → Prop}
theorem NameMost_s (a : Int) (ha : 0 ≤ a ∧ a ≤ 255) (hQ : ∀ h', Ext [] h h' → Q [.bool true] h') : F_liverylaw12_NameMost a h Q := by
  unfold F_liverylaw12_NameMost
  refine New08_s fun h1 cb hC1 e1 hcb => ⟨_, rfl, ?_⟩
  have hG1 : ∀ b, b < h.size → b < h1.size := fun b hb => by have := e1.sz; omega
  refine New12_s (G := fun b => b < h.size) hG1 hC1 (by omega) fun h2 t hE2 e2 => ⟨_, rfl, ?_⟩
  have k2 := kg_ext0 (G := fun b => b < h.size) (e1.trans0 e2) fun b hb => hb
  have kgx : ∀ g, KG (fun b => b < h.size) h g → Ext [] h g := fun g hk => ⟨hk.sz, fun b hb _ => hk.old b hb⟩
  intro J hJ
  rw [if_neg (by simp)]
  refine hJ _ _ ?_
  rw [if_neg (by simp)]
  refine Begin_s hE2.cl false fun h3 hC3 e3 _ => ⟨_, _, rfl, ?_⟩
  obtain ⟨hE3, k3⟩ := hE2.log hC3 e3
  refine Begin_s hE3.cl false fun h4 hC4 e4 _ => ⟨_, _, rfl, ?_⟩
  obtain ⟨hE4, k4⟩ := hE3.log hC4 e4
  rw [wL2_eq] at hE4
  have k04 := (k2.trans k3).trans k4
  refine ⟨by omega, ?_⟩
  obtain ⟨k, hk7, hk⟩ : ∃ k : Nat, k < 7 ∧ Int.tmod (IntKind.wrap .i64 a) 7 = (k : Int) := by
    rw [wrap64 (by omega) (by omega)]
    refine ⟨(a % 7).toNat, by omega, ?_⟩
    rw [Int.tmod_eq_emod_of_nonneg ha.1]
    omega
  rw [hk]
  intro X hX
  have key : ∀ d i g, d + i = 6 → NvS (fun b => b < h.size) g cb t wL2 (mostN k i) → KG (fun b => b < h.size) h g → X [.int .i64 (i : Int)] g := by
    intro d
    induction d with
    | zero =>
      intro i g hi hS kg
      have hi6 : i = 6 := by omega
      subst hi6
      refine hX _ _ ?_
      rw [if_neg (by simp)]
      have hok := most_ok hk7 6 (by omega)
      intro J34 hJ34
      refine PutTab_s hS hok (by omega) 1 sMore 1 fun g2 hS2 k2 => ⟨_, rfl, ?_⟩
      have hm1 := most_many hk7 (x := 1) (Or.inl rfl)
      rw [hm1.1, if_neg (by decide)]
      rw [hm1.2] at hS2
      refine PutTab_s hS2 hok (by omega) 2 sMore 1 fun g3 hS3 k3 => ⟨_, rfl, ?_⟩
      have hm2 := most_many hk7 (x := 2) (Or.inr rfl)
      rw [hm2.1]
      rw [hm2.2] at hS3
      refine hJ34 _ _ ?_
      rw [if_neg (by decide)]
      refine Abort_s hS3.cl 2 fun g4 hC4 e4 _ => ⟨_, rfl, ?_⟩
      obtain ⟨hS4, k4⟩ := hS3.log hC4 e4
      refine PutTab_s hS4 hok (by omega) 1 sMore 1 fun g5 hS5 k5 => ⟨_, rfl, ?_⟩
      rw [most_last hk7]
      have hc : (((if k < 6 then (0 : Int) else 3) == 0) == decide ((k : Int) < 6)) = true := by
        by_cases h6 : k < 6
        · have : (k : Int) < 6 := by omega
          simp [h6, this]
        · have : ¬ (k : Int) < 6 := by omega
          simp [h6, this]
      rw [if_pos hc]
      refine wakes12_s fun g6 e6 => ⟨_, rfl, hQ g6 ((kgx _ ((((kg.trans k2).trans k3).trans k4).trans k5)).trans0 e6)⟩
    | succ d ih =>
      intro i g hi hS kg
      refine hX _ _ ?_
      rw [if_pos (by simp; omega)]
      intro J21 hJ21
      have hj : J21 [.int .i64 (whoM k i)] g := by
        refine hJ21 _ _ ?_
        refine newI fun g1 s1 b1 e1 => ⟨nmB i, ?_, ?_⟩
        · refine ⟨rfl, fun j hj => ?_⟩
          have hj0 : j = 0 := by omega
          subst hj0
          rw [addr_mk, rd_blk b1]
          show some (Value.int .u8 (IntKind.wrap .u8 (IntKind.wrap .i64 ((97 : Int) + (i : Int))))) = some (Value.int .u8 ((UInt8.ofNat (97 + i)).toNat : Int))
          rw [nm_byte i (by omega)]
        · have hS1 := hS.ext0 e1
          refine PutTab_s hS1 (most_ok hk7 i (by omega)) (by omega) (whoM k i) (nmB i) 1 fun g2 hS2 k2 => ⟨_, rfl, ?_⟩
          have hm := most_put hk7 (i := i) (by omega)
          rw [hm.1, if_neg (by decide), wrap64 (by omega) (by omega)]
          rw [hm.2] at hS2
          have := ih (i + 1) g2 (by omega) hS2 ((kg.trans (kg_ext0 e1 hS.lt)).trans k2)
          simpa using this
      unfold whoM at hj
      by_cases hki : i ≥ k
      · rw [if_pos (by simpa using hki)]
        rw [if_pos hki] at hj
        exact hj
      · rw [if_neg (by simpa using hki)]
        rw [if_neg hki] at hj
        exact hj
  exact key 6 0 h4 (by omega) hE4 k04
end
end Go.Lift

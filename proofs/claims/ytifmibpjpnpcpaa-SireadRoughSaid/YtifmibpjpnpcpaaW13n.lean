/- Things that were read: the law that wakes; the fair ones. -/
import Derived.Test.YtifmibpjpnpcpaaW13m
set_option linter.unusedSimpArgs false
set_option linter.unusedVariables false
namespace Go.Lift
open Go Go.Proofs Go.RowKit Go.Shelf
set_option maxRecDepth 100000
def wS2 : SM := ⟨2, 9, [(1, [verT 3 1, verT 3 2])], 2, 0⟩
def wS3 : SM := ⟨2, 9, [(1, [⟨2, sE, 3, sE, 0⟩])], 0, 0⟩
def wS4 : SM := ⟨2, 9, [(0, [⟨2, sE, 3, sE, 0⟩])], 0, 7⟩
theorem wS2_eq : TakeS (TakeS ⟨2, 9, [], 0, 0⟩ 1 (verT 3 1)) 1 (verT 3 2) = wS2 := by kernel_rfl
theorem wS3_eq : TakeS wS2 1 (verT 3 5) = wS3 := by kernel_rfl
theorem sortC_one {α : Type} (c : α → α → Int) (x : α) : sortC c [x] = [x] := by unfold sortC; exact List.mergeSort_singleton _
theorem wS4_eq : foldS wS3 1 7 = wS4 := by
  have h : ofS wS3 1 = [⟨2, sE, 3, sE, 0⟩] := by
    show sortC cmpT [⟨2, sE, 3, sE, 0⟩] = _
    exact sortC_one _ _
  have e : ∀ l, ofS wS3 1 = l → foldS wS3 1 7 = ⟨(l.foldl (fun S x => takeS S 0 x) (dropS wS3 1)).each, (l.foldl (fun S x => takeS S 0 x) (dropS wS3 1)).all, (l.foldl (fun S x => takeS S 0 x) (dropS wS3 1)).m, (l.foldl (fun S x => takeS S 0 x) (dropS wS3 1)).fine, max (l.foldl (fun S x => takeS S 0 x) (dropS wS3 1)).csn 7⟩ := by
    intro l hl
    unfold foldS
    rw [hl, if_neg (by decide)]
  refine (e _ h).trans ?_
  kernel_rfl
theorem wOwn : ownersS wS4 (ownP (verT 3 9)) = [0] := by
  unfold ownersS
  have : ((wS4.m.filter fun e => e.2.any (ownP (verT 3 9))).map Prod.fst) = [0] := by kernel_rfl
  rw [this]
  unfold sortI
  exact List.mergeSort_singleton _
section
variable {G : Nat → Prop} {h : Hp} {t m : Nat} {S : SM} {o : Int} {Q : List Value → Hp → Prop}
theorem TakeS_ok {N : Nat} (h : SOk N S) (x : ThingM) : SOk (N + 1) (TakeS S o x) ∧ (TakeS S o x).each = S.each ∧ (TakeS S o x).all = S.all := by
  unfold TakeS
  split
  · rename_i hk
    have hk1 := hk.1
    obtain ⟨h1, _, _, h2, h3, _⟩ := takeS_ok h (o := o) (by omega) x
    exact ⟨h1, h2, h3⟩
  · exact ⟨h.up (by have := h.bnd; omega), rfl, rfl⟩
theorem ekT5 (x : ThingM) {K : Int → ByteArray → Int → ByteArray → Int → Prop} (H : K x.kind x.name x.rel x.index x.n) :
    ∃ n1 : Int, ∃ s2 : ByteArray, ∃ n3 : Int, ∃ s4 : ByteArray, ∃ n5 : Int, [ekT x] = [(Value.agg #[(Value.int .i64 n1), (Value.string s2), (Value.int .i64 n3), (Value.string s4), (Value.int .i64 n5)])] ∧ K n1 s2 n3 s4 n5 := ⟨_, _, _, _, _, rfl, H⟩
theorem wakes_s (hQ : ∀ h', Ext [] h h' → Q [.bool true] h') : S_liverylaw13_wakes h Q := by
  refine O_liverylaw13_wakes ?_
  unfold F_liverylaw13_wakes
  refine New_s (G := fun b => b < h.size) (fun b hb => hb) (by omega) (by omega) fun h1 t hS0 e1 => ⟨_, _, rfl, ?_⟩
  have ok0 := SOk.new (each := 2) (all := 9) (by omega) (by omega)
  have kg : ∀ g, KG (fun b => b < h.size) h1 g → Ext [] h g := fun g hk => ⟨Nat.le_trans e1.sz hk.sz, fun b hb _ => by rw [hk.old b hb, e1.old b hb (by simp)]⟩
  intro J hJ
  rw [if_neg (by decide)]
  refine hJ _ _ ?_
  rw [if_neg (by simp)]
  refine version_s _ _ fun h2 e2 => ?_
  refine ekT5 (verT 3 1) ?_
  refine TakeV_s (o := 1) (hS0.ext0 e2) ok0 (by omega) (verT 3 1) fun h3 hS3 k3 => ⟨_, rfl, ?_⟩
  have ok3 := (TakeS_ok (o := 1) ok0 (verT 3 1)).1
  refine version_s _ _ fun h4 e4 => ?_
  refine ekT5 (verT 3 2) ?_
  refine TakeV_s (o := 1) (hS3.ext0 e4) ok3 (by omega) (verT 3 2) fun h5 hS5 k5 => ⟨_, rfl, ?_⟩
  have ok5 := (TakeS_ok (o := 1) ok3 (verT 3 2)).1
  rw [wS2_eq] at hS5 ok5
  refine Fine_s hS5 ⟨_, rfl, ?_⟩
  refine version_s _ _ fun h6 e6 => ?_
  refine ekT5 (verT 3 5) ?_
  refine TakeV_s (o := 1) (hS5.ext0 e6) ok5 (by omega) (verT 3 5) fun h7 hS7 k7 => ⟨_, rfl, ?_⟩
  have ok7 := (TakeS_ok (o := 1) ok5 (verT 3 5)).1
  rw [wS3_eq] at hS7 ok7
  refine Fold_s hS7 ok7 (by omega) 1 7 fun h8 hS8 k8 => ⟨rfl, ?_⟩
  have ok8 := (foldS_ok (o := 1) ok7 7).1
  rw [wS4_eq] at hS8 ok8
  rw [if_pos (by decide)]
  refine Fine_s hS8 ⟨_, rfl, ?_⟩
  rw [if_pos (by decide)]
  refine Has_s (o := 0) hS8 ⟨2, sE, 3, sE, 0⟩ fun h9 e9 => ⟨_, rfl, ?_⟩
  have hd : decide ((⟨2, sE, 3, sE, 0⟩ : ThingM) ∈ thgs wS4.m 0) = true := by kernel_rfl
  rw [if_pos hd]
  refine version_s _ _ fun h10 e10 => ?_
  refine ekT5 (verT 3 9) ?_
  have hS10 := (hS8.ext0 e9).ext0 e10
  refine Owners_s hS10 ok8 (verT 3 9) fun h11 s e11 ho => ⟨s, rfl, ?_⟩
  rw [wOwn] at ho
  refine newI fun h12 s12 b12 e12 => ?_
  refine Ints_s (xs := [0]) (ys := [0]) (ho.ext0 e12).sl.reads (reads_lit b12 rfl rfl) (by simp) ⟨_, rfl, ?_⟩
  rw [if_pos (by decide)]
  have hS12 := (hS10.ext0 e11).ext0 e12
  refine Old_s hS12 ⟨_, rfl, ?_⟩
  have eE : Ext [] h h12 := by
    have a1 := kg_ext0 e2 hS0.1
    have a2 := (a1.trans k3).trans (kg_ext0 e4 hS3.1)
    have a3 := (a2.trans k5).trans (kg_ext0 e6 hS5.1)
    have a4 := ((a3.trans k7).trans k8)
    exact ((((kg _ a4).trans0 e9).trans0 e10).trans0 e11).trans0 e12
  exact hQ h12 eE
theorem Mod5_s (k : Int) (hQ : ∀ v : Int, 0 ≤ v → v ≤ 4 → Q [.int .i64 v] h) : S_liverykeep_Mod k 5 h Q := by
  refine O_liverykeep_Mod _ _ ?_
  unfold F_liverykeep_Mod
  rw [if_neg (by decide)]
  refine ⟨by decide, by decide, ?_⟩
  have h1 : -5 < Int.tmod k 5 := Int.lt_tmod_of_pos k (by decide)
  have h2 : Int.tmod k 5 < 5 := Int.tmod_lt_of_pos k (by decide)
  rw [wrap64 (by omega) (by omega), Int.tmod_eq_emod_of_nonneg (by omega)]
  exact hQ _ (by omega) (by omega)
theorem rdStep {s : Sl} {xs : List StepS} (hs : Reads 13 encStep h s xs) {i : Nat} (hi : i < xs.length) : ∃ a, s.a = some a ∧ ∀ k, k < 13 → rd h (Addr.add (Addr.add a (i * 13)) k) = (encStep xs[i])[k]? := by
  obtain ⟨a, h1, h2⟩ := hs.rd encStep_len hi
  exact ⟨a, h1, fun k hk => by rw [addr_add_add]; exact h2 k hk⟩
theorem Fair_s {s : Sl} {xs : List StepS} (hs : Reads 13 encStep h s xs) (hl : xs.length ≤ 9223372036854775807) (hQ : ∀ b, (b = true → xs.length ≤ 150) → Q [.bool b] h) : S_liverylaw13_Fair s h Q := by
  refine O_liverylaw13_Fair _ ?_
  unfold F_liverylaw13_Fair
  have hn := hs.1
  intro X hX
  refine loopI xs.length (fun i g => g = h) (fun g hg => ?_) (fun i g hi hg hnext => ?_) h rfl
  · subst hg
    refine hX _ _ ?_
    rw [if_neg (by simp; omega)]
    exact hQ _ fun hb => by simp at hb; omega
  · subst hg
    refine hX _ _ ?_
    rw [if_pos (by simp; omega)]
    intro J hJ
    have jT : J [.bool true] g := by
      refine hJ _ _ ?_
      rw [if_pos rfl]
      exact hQ _ fun hb => by cases hb
    have jF : J [.bool false] g := by
      refine hJ _ _ ?_
      rw [if_neg (by decide), wrap64 (by omega) (by omega)]
      exact hnext g rfl
    obtain ⟨a, ha, hrd⟩ := rdStep hs hi
    have hrd2 : ∀ k j, k + j < 13 → rd g (Addr.add (Addr.add (Addr.add a (i * 13)) k) j) = (encStep xs[i])[k + j]? := fun k j hk => by rw [addr_add_add]; exact hrd _ hk
    rw [ha]
    simp only [nilW_some, Int.toNat_natCast]
    refine ⟨by omega, by omega, _, hrd2 3 1 (by omega), ?_⟩
    split
    · exact jT
    refine ⟨by omega, by omega, _, hrd2 3 3 (by omega), ?_⟩
    split
    · exact jT
    refine ⟨by omega, by omega, _, hrd2 8 1 (by omega), ?_⟩
    split
    · exact jT
    refine ⟨by omega, by omega, _, hrd2 8 3 (by omega), ?_⟩
    rename_i q1 q2 q3
    by_cases q4 : ((xs[i].b.index.size : Nat) : Int) > 100
    · rw [decide_eq_true q4]; exact jT
    · rw [decide_eq_false q4]; exact jF
end
end Go.Lift

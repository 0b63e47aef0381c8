/- SsiLate, SsiSkew: what they come to. -/
import Derived.Test.YtdgkfjbmlfmimaaGreatS15i
set_option linter.unusedSimpArgs false
set_option linter.unusedVariables false
namespace Go.Lift.E14
open Go Go.Proofs Go.RowKit
set_option maxRecDepth 100000
/-- The first thing of an owner. -/
theorem take1 {S : SM} {o : Int} {x : ThingM} (hk : 1 ≤ x.kind ∧ x.kind ≤ 4) (hn : afind S.m o = none) (he : 1 ≤ S.each) (hf : S.fine < S.all) :
    takeS S o x = { S with m := aput S.m o [x], fine := S.fine + if fineT x = true then 1 else 0 } := by
  unfold takeS
  rw [if_neg (by omega)]
  have hb : bornS S o = { S with m := aput S.m o [] } := by unfold bornS; rw [hn]
  have hfa : afind (aput S.m o ([] : List ThingM)) o = some [] := by rw [afind_aput, if_pos rfl]
  have ht : thgs (aput S.m o ([] : List ThingM)) o = [] := by unfold thgs; rw [hfa]; rfl
  simp only [hb, ht]
  rw [if_neg (by simp)]
  by_cases hfx : fineT x = true
  · rw [if_pos hfx, if_pos hfx, if_pos ⟨by show ((0 : Nat) : Int) < S.each; omega, hf⟩]
    unfold addS
    simp only [ht, List.nil_append, aput_aput]
  · rw [if_neg hfx, if_neg hfx]
    unfold wholeS
    have hl : (if x.kind = 2 then loseS { S with m := aput S.m o [] } o (fun y => fineT y && decide (y.rel = x.rel)) else { S with m := aput S.m o [] }) = { S with m := aput S.m o [] } := by
      split
      · unfold loseS
        simp only [hfa, List.filter_nil, aput_aput]
        show ({ S with m := aput S.m o [], fine := S.fine - ((0 : Nat) : Int) } : SM) = _
        simp
      · rfl
    rw [hl]
    simp only [ht, List.not_mem_nil, if_false]
    unfold addS
    simp only [ht, List.nil_append, aput_aput]
theorem ownP_self (y : ThingM) : ownP y y = true := by unfold ownP; simp
theorem take_okT {o : Int} {x : ThingM} {S : SM} (ho : 1 ≤ o ∧ o ≤ 200) (hk : 1 ≤ x.kind ∧ x.kind ≤ 4) : TakeS S o x = takeS S o x := by
  unfold TakeS
  rw [if_pos ⟨ho, hk.1, hk.2⟩]
/-! SsiLate -/
abbrev lL2 : LM := ⟨[⟨1, 0, 0, false⟩, ⟨1, 0, 0, true⟩], 0⟩
abbrev lL4 : LM := ⟨[⟨1, 0, 0, false⟩, ⟨2, 1, 0, true⟩], 1⟩
abbrev lL6 : LM := ⟨[⟨2, 2, 0, false⟩, ⟨2, 1, 0, true⟩], 2⟩
abbrev lL7 : LM := ⟨[⟨3, 0, 0, false⟩, ⟨2, 1, 0, true⟩], 1⟩
abbrev lE : EM := ⟨[(2, 1)], []⟩
def lS (y : ThingM) : SM := ⟨9, 99, [(2, [y])], if fineT y = true then 1 else 0, 0⟩
theorem late_a : beginM (beginM (newM 9 99 9) false) true = ⟨lL2, ⟨9, 99, [], 0, 0⟩, ⟨[], []⟩, 9, [], [], []⟩ := by kernel_rfl
theorem late_b (y : ThingM) (hk : 1 ≤ y.kind ∧ y.kind ≤ 4) : readM ⟨lL2, ⟨9, 99, [], 0, 0⟩, ⟨[], []⟩, 9, [], [], []⟩ 2 y = ⟨lL2, lS y, ⟨[], []⟩, 9, [], [], []⟩ := by
  have h : readsB ⟨lL2, ⟨9, 99, [], 0, 0⟩, ⟨[], []⟩, 9, [], [], []⟩ 2 = true := by decide +kernel
  unfold readM
  rw [if_pos h]
  simp only
  rw [take_okT (by decide) hk, take1 hk rfl (by decide) (by decide)]
  unfold lS
  simp only [Int.zero_add]
  rfl
theorem late_c (S : SM) : commitM ⟨lL2, S, ⟨[], []⟩, 9, [], [], []⟩ 2 = (⟨lL4, S, ⟨[], []⟩, 9, [2], [], []⟩, 0) := by kernel_rfl
theorem srt : Go.Lift.sortI [2] = [2] ∧ Go.Lift.sortI [1] = [1] ∧ Go.Lift.sortI [1, 2] = [1, 2] :=
  ⟨List.mergeSort_singleton _, List.mergeSort_singleton _, List.mergeSort_of_pairwise (by simp)⟩
theorem late_d (y : ThingM) : ownersS (lS y) (ownP y) = [2] := by
  unfold ownersS lS
  simp [ownP_self]
  exact srt.1
theorem late_e (S : SM) : wstep 1 ⟨lL4, S, ⟨[], []⟩, 9, [2], [], []⟩ 2 = ⟨lL4, S, lE, 9, [2], [], []⟩ := by kernel_rfl
theorem late_f (y : ThingM) : wroteM ⟨lL4, lS y, ⟨[], []⟩, 9, [2], [], []⟩ 1 y = ⟨lL4, lS y, lE, 9, [2], [], []⟩ := by
  have h : runsB lL4 1 = true := by decide +kernel
  unfold wroteM
  simp only
  rw [if_pos h, late_d]
  exact late_e _
theorem late_g (S : SM) : commitM ⟨lL4, S, lE, 9, [2], [], []⟩ 1 = (⟨lL6, dropS (dropS (dropS S 2) 1) 0, lE, 9, [], [], []⟩, 0) := by kernel_rfl
theorem late_h (S : SM) : abortM ⟨lL4, S, lE, 9, [2], [], []⟩ 1 = ⟨lL7, dropS (dropS (dropS S 1) 2) 0, ⟨[], []⟩, 9, [], [], []⟩ := by kernel_rfl
theorem late_i : inE lE 1 = [2] := by decide +kernel
theorem late_j : (allE lE).length = 1 ∧ (allE ⟨[], []⟩).length = 0 := by decide +kernel
theorem late_k (y : ThingM) : y ∈ thgs (lS y).m 2 := by
  have : thgs (lS y).m 2 = [y] := rfl
  rw [this]
  simp
theorem late_l {N : Nat} {S : SM} (h : SOk N S) : ofS (dropS (dropS (dropS S 2) 1) 0) 2 = [] ∧ ofS (dropS (dropS (dropS S 1) 2) 0) 2 = [] := by
  unfold ofS
  obtain ⟨a1, a2, a3, _⟩ := dropS_ok h (o := 2) (by decide)
  obtain ⟨b1, b2, b3, _⟩ := dropS_ok a1 (o := 1) (by decide)
  obtain ⟨c1, c2, c3, _⟩ := dropS_ok b1 (o := 0) (by decide)
  obtain ⟨d1, d2, d3, _⟩ := dropS_ok h (o := 1) (by decide)
  obtain ⟨f1, f2, f3, _⟩ := dropS_ok d1 (o := 2) (by decide)
  obtain ⟨g1, g2, g3, _⟩ := dropS_ok f1 (o := 0) (by decide)
  rw [c3 2 (by decide), b3 2 (by decide), a2, g3 2 (by decide), f2]
  exact ⟨(by decide +kernel : sortC cmpT [] = []), (by decide +kernel : sortC cmpT [] = [])⟩
/-! SsiSkew -/
abbrev kN (n : Nat) : SsiM := ⟨⟨List.replicate n ⟨1, 0, 0, false⟩, 0⟩, ⟨50, 500, [], 0, 0⟩, ⟨[], []⟩, 50, [], [], []⟩
theorem skew_begin {n : Nat} (hn : n < 200) : beginM (kN n) false = kN (n + 1) := by
  unfold beginM
  rw [if_neg (by simp; omega), if_neg (by simp)]
  have : beginL (kN n).L false = (kN (n + 1)).L := by
    unfold beginL
    rw [if_neg (by simp; omega)]
    simp only [List.replicate_succ']
  rw [this]
def kS (x y : ThingM) : SM := ⟨50, 500, [(1, [x]), (2, [y])], (if fineT x = true then 1 else 0) + (if fineT y = true then 1 else 0), 0⟩
abbrev kL (n : Nat) : LM := ⟨List.replicate n ⟨1, 0, 0, false⟩, 0⟩
theorem skew_reads {n : Nat} (h2 : 2 ≤ n) (h6 : n ≤ 6) (x y : ThingM) (hx : 1 ≤ x.kind ∧ x.kind ≤ 4) (hy : 1 ≤ y.kind ∧ y.kind ≤ 4) : readM (readM (kN n) 1 x) 2 y = ⟨kL n, kS x y, ⟨[], []⟩, 50, [], [], []⟩ := by
  have r1 : readsB (kN n) 1 = true := by
    rcases (by omega : n = 2 ∨ n = 3 ∨ n = 4 ∨ n = 5 ∨ n = 6) with rfl | rfl | rfl | rfl | rfl <;> decide +kernel
  have r2 : ∀ S, readsB ⟨kL n, S, ⟨[], []⟩, 50, [], [], []⟩ 2 = true := fun S => by
    rcases (by omega : n = 2 ∨ n = 3 ∨ n = 4 ∨ n = 5 ∨ n = 6) with rfl | rfl | rfl | rfl | rfl <;> kernel_rfl
  have e1 : readM (kN n) 1 x = ⟨kL n, ⟨50, 500, [(1, [x])], if fineT x = true then 1 else 0, 0⟩, ⟨[], []⟩, 50, [], [], []⟩ := by
    unfold readM
    rw [if_pos r1]
    simp only
    rw [take_okT (by decide) hx, take1 hx rfl (by decide) (by decide)]
    simp only [Int.zero_add]
    rfl
  rw [e1]
  unfold readM
  rw [if_pos (r2 _)]
  simp only
  rw [take_okT (by decide) hy, take1 hy rfl (by simp) (by simp only; split <;> decide)]
  rfl
theorem skew_own (x y : ThingM) : (ownersS (kS x y) (ownP y) = [1, 2] ∨ ownersS (kS x y) (ownP y) = [2]) ∧ (ownersS (kS x y) (ownP x) = [1, 2] ∨ ownersS (kS x y) (ownP x) = [1]) := by
  unfold ownersS kS
  simp only [List.filter_cons, List.filter_nil, List.any_cons, List.any_nil, Bool.or_false, ownP_self, if_true]
  refine ⟨?_, ?_⟩
  · cases ownP y x
    · exact Or.inr srt.1
    · exact Or.inl srt.2.2
  · cases ownP x y
    · exact Or.inr srt.2.1
    · exact Or.inl srt.2.2
theorem skew_wrote {n : Nat} (h2 : 2 ≤ n) (h6 : n ≤ 6) (x y : ThingM) : wroteM (wroteM ⟨kL n, kS x y, ⟨[], []⟩, 50, [], [], []⟩ 1 y) 2 x = ⟨kL n, kS x y, ⟨[(2, 1), (1, 2)], []⟩, 50, [], [], []⟩ := by
  obtain ⟨o1, o2⟩ := skew_own x y
  have r1 : runsB (kL n) 1 = true := by
    rcases (by omega : n = 2 ∨ n = 3 ∨ n = 4 ∨ n = 5 ∨ n = 6) with rfl | rfl | rfl | rfl | rfl <;> decide +kernel
  have r2 : runsB (kL n) 2 = true := by
    rcases (by omega : n = 2 ∨ n = 3 ∨ n = 4 ∨ n = 5 ∨ n = 6) with rfl | rfl | rfl | rfl | rfl <;> decide +kernel
  have w1 : ∀ S, [1, 2].foldl (wstep 1) ⟨kL n, S, ⟨[], []⟩, 50, [], [], []⟩ = ⟨kL n, S, ⟨[(2, 1)], []⟩, 50, [], [], []⟩ ∧ [2].foldl (wstep 1) ⟨kL n, S, ⟨[], []⟩, 50, [], [], []⟩ = ⟨kL n, S, ⟨[(2, 1)], []⟩, 50, [], [], []⟩ := fun S => by
    rcases (by omega : n = 2 ∨ n = 3 ∨ n = 4 ∨ n = 5 ∨ n = 6) with rfl | rfl | rfl | rfl | rfl <;> exact ⟨by kernel_rfl, by kernel_rfl⟩
  have w2 : ∀ S, [1, 2].foldl (wstep 2) ⟨kL n, S, ⟨[(2, 1)], []⟩, 50, [], [], []⟩ = ⟨kL n, S, ⟨[(2, 1), (1, 2)], []⟩, 50, [], [], []⟩ ∧ [1].foldl (wstep 2) ⟨kL n, S, ⟨[(2, 1)], []⟩, 50, [], [], []⟩ = ⟨kL n, S, ⟨[(2, 1), (1, 2)], []⟩, 50, [], [], []⟩ := fun S => by
    rcases (by omega : n = 2 ∨ n = 3 ∨ n = 4 ∨ n = 5 ∨ n = 6) with rfl | rfl | rfl | rfl | rfl <;> exact ⟨by kernel_rfl, by kernel_rfl⟩
  have e1 : wroteM ⟨kL n, kS x y, ⟨[], []⟩, 50, [], [], []⟩ 1 y = ⟨kL n, kS x y, ⟨[(2, 1)], []⟩, 50, [], [], []⟩ := by
    unfold wroteM
    simp only
    rw [if_pos r1]
    rcases o1 with q | q
    · rw [q]; exact (w1 _).1
    · rw [q]; exact (w1 _).2
  rw [e1]
  unfold wroteM
  simp only
  rw [if_pos r2]
  rcases o2 with q | q
  · rw [q]; exact (w2 _).1
  · rw [q]; exact (w2 _).2
theorem skew_end {n : Nat} (h2 : 2 ≤ n) (h6 : n ≤ 6) (S : SM) {a b : Int} (hab : (a = 1 ∧ b = 2) ∨ (a = 2 ∧ b = 1)) :
    (commitM ⟨kL n, S, ⟨[(2, 1), (1, 2)], []⟩, 50, [], [], []⟩ a).2 = 0 ∧ (commitM (commitM ⟨kL n, S, ⟨[(2, 1), (1, 2)], []⟩, 50, [], [], []⟩ a).1 b).2 = 72 ∧ (txL (commitM (commitM ⟨kL n, S, ⟨[(2, 1), (1, 2)], []⟩, 50, [], [], []⟩ a).1 b).1.L b).state = 3 := by
  rcases hab with ⟨rfl, rfl⟩ | ⟨rfl, rfl⟩ <;> rcases (by omega : n = 2 ∨ n = 3 ∨ n = 4 ∨ n = 5 ∨ n = 6) with rfl | rfl | rfl | rfl | rfl <;> exact ⟨by kernel_rfl, by kernel_rfl, by kernel_rfl⟩
end Go.Lift.E14

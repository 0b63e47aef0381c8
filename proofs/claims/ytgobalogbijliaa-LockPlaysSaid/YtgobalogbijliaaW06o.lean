/- Locks: holders stay apart. -/
import Derived.Test.YtgobalogbijliaaW06n
set_option linter.unusedSimpArgs false
set_option linter.unusedVariables false
namespace Go.Lift
open Go Go.Proofs
set_option maxRecDepth 100000
def inR (set : Nat) (m : Int) : Bool := isM m && set.testBit m.toNat
def anyR (set : Nat) (m : Int) : Bool := (List.range 8).any fun (i : Nat) => inR set ((i : Int) + 1) && barsR m ((i : Int) + 1)
def barsL (a b : Nat) : Bool := (List.range 8).any fun (i : Nat) => inR a ((i : Int) + 1) && anyR b ((i : Int) + 1)
def Clash (a b : Nat) : Prop := ∃ m k : Int, inR a m = true ∧ inR b k = true ∧ barsR m k = true
theorem withM_bit9 : ∀ x : Fin 8, ∀ i : Fin 9, (withM ((x.val : Int) + 1)).testBit i.val = (decide (1 ≤ i.val) && barsR ((x.val : Int) + 1) (i.val : Int)) := by decide +kernel
theorem withM_bit {m : Int} (hm : isM m = true) (i : Nat) : (withM m).testBit i = (isM (i : Int) && barsR m (i : Int)) := by
  have h8 := isM_iff.1 hm
  rcases Nat.lt_or_ge i 9 with hi | hi
  · have := withM_bit9 ⟨(m - 1).toNat, by omega⟩ ⟨i, hi⟩
    simp only [show (((m - 1).toNat : Nat) : Int) + 1 = m by omega] at this
    rw [this]
    congr 1
    unfold isM
    have : decide ((i : Int) ≤ 8) = true := decide_eq_true (by omega)
    rw [this, Bool.and_true, Bool.eq_iff_iff]
    simp only [decide_eq_true_eq]
    omega
  · have h1 : (withM m).testBit i = false := by
      have := withM_lt m
      exact Nat.testBit_lt_two_pow (Nat.lt_of_lt_of_le this (Nat.pow_le_pow_right (n := 2) (by omega) hi))
    have h2 : isM (i : Int) = false := by
      unfold isM
      rw [decide_eq_false (by omega : ¬ ((i : Int) ≤ 8)), Bool.and_false]
    rw [h1, h2, Bool.false_and]
theorem barsR_sym8 : ∀ x y : Fin 8, barsR ((x.val : Int) + 1) ((y.val : Int) + 1) = barsR ((y.val : Int) + 1) ((x.val : Int) + 1) := by decide +kernel
theorem barsR_sym {a b : Int} (ha : isM a = true) (hb : isM b = true) : barsR a b = barsR b a := by
  have h1 := isM_iff.1 ha
  have h2 := isM_iff.1 hb
  have := barsR_sym8 ⟨(a - 1).toNat, by omega⟩ ⟨(b - 1).toNat, by omega⟩
  simpa only [show (((a - 1).toNat : Nat) : Int) + 1 = a by omega, show (((b - 1).toNat : Nat) : Int) + 1 = b by omega] using this
theorem inR_is {a : Nat} {m : Int} (h : inR a m = true) : isM m = true := by
  unfold inR at h
  rw [Bool.and_eq_true] at h
  exact h.1
theorem Clash.symm {a b : Nat} (h : Clash a b) : Clash b a := by
  obtain ⟨m, k, h1, h2, h3⟩ := h
  exact ⟨k, m, h2, h1, by rw [barsR_sym (inR_is h2) (inR_is h1)]; exact h3⟩
theorem anyM_iff {set : Nat} {m : Int} (hm : isM m = true) : anyM set m = true ↔ ∃ k : Int, inR set k = true ∧ barsR m k = true := by
  unfold anyM
  rw [bne_iff_ne]
  constructor
  · intro h
    obtain ⟨i, hi⟩ := Nat.exists_testBit_of_ne_zero h
    rw [Nat.testBit_and, withM_bit hm, Bool.and_eq_true, Bool.and_eq_true] at hi
    refine ⟨(i : Int), ?_, hi.2.2⟩
    unfold inR
    rw [hi.2.1, Bool.true_and, Int.toNat_natCast]
    exact hi.1
  · rintro ⟨k, h1, h2⟩ h0
    have hk := inR_is h1
    have hk8 := isM_iff.1 hk
    have : (set &&& withM m).testBit k.toNat = true := by
      rw [Nat.testBit_and, withM_bit hm]
      unfold inR at h1
      rw [Bool.and_eq_true] at h1
      rw [h1.2, show ((k.toNat : Nat) : Int) = k by omega, hk, h2]
      rfl
    rw [h0] at this
    simp at this
theorem any8 {p : Int → Bool} : (List.range 8).any (fun (i : Nat) => p ((i : Int) + 1)) = true ↔ ∃ m : Int, isM m = true ∧ p m = true := by
  rw [List.any_eq_true]
  constructor
  · rintro ⟨i, hi, hp⟩
    rw [List.mem_range] at hi
    exact ⟨(i : Int) + 1, isM_iff.2 (by omega), hp⟩
  · rintro ⟨m, hm, hp⟩
    have := isM_iff.1 hm
    refine ⟨(m - 1).toNat, List.mem_range.2 (by omega), ?_⟩
    rw [show (((m - 1).toNat : Nat) : Int) + 1 = m by omega]
    exact hp
theorem barsL_iff (a b : Nat) : barsL a b = true ↔ Clash a b := by
  unfold barsL
  rw [any8 (p := fun m => inR a m && anyR b m)]
  constructor
  · rintro ⟨m, hm, h⟩
    rw [Bool.and_eq_true] at h
    have h2 := h.2
    unfold anyR at h2
    rw [any8 (p := fun k => inR b k && barsR m k)] at h2
    obtain ⟨k, hk, h3⟩ := h2
    rw [Bool.and_eq_true] at h3
    exact ⟨m, k, h.1, h3.1, h3.2⟩
  · rintro ⟨m, k, h1, h2, h3⟩
    refine ⟨m, inR_is h1, ?_⟩
    rw [h1, Bool.true_and]
    unfold anyR
    rw [any8 (p := fun k => inR b k && barsR m k)]
    exact ⟨k, inR_is h2, by rw [h2, h3]; rfl⟩
theorem inR_or {a : Nat} {m x : Int} (hm : isM m = true) : inR (a ||| bitM m) x = (inR a x || decide (x = m)) := by
  unfold inR bitM
  rw [Nat.testBit_or, Nat.testBit_two_pow]
  have h1 := isM_iff.1 hm
  cases hx : isM x with
  | false =>
    have : x ≠ m := fun e => by subst e; rw [hm] at hx; cases hx
    simp [this]
  | true =>
    have h2 := isM_iff.1 hx
    simp only [Bool.true_and]
    congr 1
    rw [Bool.eq_iff_iff]
    simp only [decide_eq_true_eq]
    omega
theorem inR_zero (m : Int) : inR 0 m = false := by simp [inR]
theorem clash_zero {b : Nat} : ¬ Clash 0 b := by
  rintro ⟨m, k, h1, _⟩
  rw [inR_zero] at h1
  cases h1
theorem inR_and {set : Nat} {m : Int} (hm : isM m = true) : set &&& bitM m = 0 ↔ inR set m = false := by
  unfold inR bitM
  rw [hm, Bool.true_and]
  constructor
  · intro h
    have : (set &&& 2 ^ m.toNat).testBit m.toNat = false := by rw [h]; simp
    rw [Nat.testBit_and, Nat.testBit_two_pow_self, Bool.and_true] at this
    exact this
  · intro h
    refine Nat.eq_of_testBit_eq fun i => ?_
    rw [Nat.testBit_and, Nat.testBit_two_pow, Nat.zero_testBit]
    by_cases e : m.toNat = i
    · subst e; rw [h, Bool.false_and]
    · simp [e]
/-- Nobody of a name bars another one; who waits does not have it, and is barred. -/
structure QA (L : List (Int × Nat)) (W R : List (Int × Int)) : Prop where
  ap : ∀ p ∈ L, ∀ p' ∈ L, p.1 ≠ p'.1 → ¬ Clash p.2 p'.2
  nh : ∀ r ∈ W ++ R, inR (hasM L r.1) r.2 = false
  br : ∀ i (hi : i < W.length), barsQ L (W.take i) W[i].1 W[i].2 ≠ []
theorem hasM_aput (L : List (Int × Nat)) (k j : Int) (v : Nat) : hasM (aput L k v) j = if j = k then v else hasM L j := by
  unfold hasM
  rw [afind_aput]
  by_cases e : j = k <;> simp [e]
theorem anyM_or {a b : Nat} {m : Int} (hm : isM m = true) (h : anyM a m = true) : anyM (a ||| b) m = true := by
  rw [anyM_iff hm] at h ⊢
  obtain ⟨k, h1, h2⟩ := h
  refine ⟨k, ?_, h2⟩
  unfold inR at h1 ⊢
  rw [Bool.and_eq_true] at h1
  rw [h1.1, Bool.true_and, Nat.testBit_or, h1.2, Bool.true_or]
/-- Somebody else gets more: who was barred stays so. -/
theorem bars_more {L : List (Int × Nat)} (hn : (L.map Prod.fst).Nodup) {W : List (Int × Int)} {k m x y : Int} (hm : isM m = true) (hne : k ≠ x) (h : barsQ L W k m ≠ []) (b : Nat) : barsQ (aput L x (hasM L x ||| b)) W k m ≠ [] := by
  obtain ⟨z, hz⟩ := List.exists_mem_of_ne_nil _ h
  refine List.ne_nil_of_mem (a := z) (barsQ_mem.2 ?_)
  rcases barsQ_mem.1 hz with g | ⟨g1, g2⟩
  · left
    unfold metA at g ⊢
    obtain ⟨p, hp, rfl⟩ := List.mem_map.1 g
    rw [List.mem_filter, Bool.and_eq_true] at hp
    have hf := afind_of_mem hn (n := p.1) (q := p.2) hp.1
    have h2 : afind (aput L x (hasM L x ||| b)) p.1 = some (if p.1 = x then hasM L x ||| b else p.2) := by
      rw [afind_aput]
      by_cases e : p.1 = x <;> simp [e, hf]
    refine List.mem_map.2 ⟨_, List.mem_filter.2 ⟨afind_mem h2, ?_⟩, rfl⟩
    rw [Bool.and_eq_true]
    refine ⟨hp.2.1, ?_⟩
    simp only
    by_cases e : p.1 = x
    · rw [if_pos e]
      have : hasM L x = p.2 := by unfold hasM; rw [← e, hf]; rfl
      rw [this]
      exact anyM_or hm hp.2.2
    · rw [if_neg e]
      exact hp.2.2
  · right
    rw [hasM_aput, if_neg hne]
    exact ⟨g1, g2⟩
theorem ap_more {L : List (Int × Nat)} (hn : (L.map Prod.fst).Nodup) (hap : ∀ p ∈ L, ∀ p' ∈ L, p.1 ≠ p'.1 → ¬ Clash p.2 p'.2) {W : List (Int × Int)} {k m : Int} (hm : isM m = true) (hf : barsQ L W k m = []) :
    ∀ p ∈ aput L k (hasM L k ||| bitM m), ∀ p' ∈ aput L k (hasM L k ||| bitM m), p.1 ≠ p'.1 → ¬ Clash p.2 p'.2 := by
  have hfree : ∀ p ∈ L, p.1 ≠ k → anyM p.2 m = false := by
    intro p hp hne
    rw [Bool.eq_false_iff]
    intro g
    have : p.1 ∈ barsQ L W k m := barsQ_mem.2 (Or.inl (List.mem_map.2 ⟨p, List.mem_filter.2 ⟨hp, by rw [g]; simpa using hne⟩, rfl⟩))
    rw [hf] at this
    cases this
  have hold : ∀ p ∈ aput L k (hasM L k ||| bitM m), p.1 ≠ k → p ∈ L := by
    intro p hp hne
    rcases mem_aput hp with rfl | g
    · exact absurd rfl hne
    · exact g
  have hnew : ∀ p ∈ aput L k (hasM L k ||| bitM m), p.1 = k → p.2 = hasM L k ||| bitM m := by
    intro p hp he
    have h1 := afind_of_mem (aput_nodup hn k (hasM L k ||| bitM m)) (n := p.1) (q := p.2) hp
    rw [afind_aput, if_pos he] at h1
    exact (Option.some.inj h1).symm
  have side : ∀ p' ∈ L, p'.1 ≠ k → ¬ Clash (hasM L k ||| bitM m) p'.2 := by
    rintro p' hp' hne ⟨a, b, h1, h2, h3⟩
    rw [inR_or hm, Bool.or_eq_true] at h1
    rcases h1 with h1 | h1
    · cases hfk : afind L k with
      | none =>
        have : hasM L k = 0 := by unfold hasM; rw [hfk]; rfl
        rw [this, inR_zero] at h1
        cases h1
      | some v =>
        have hv : hasM L k = v := by unfold hasM; rw [hfk]; rfl
        rw [hv] at h1
        exact hap (k, v) (afind_mem hfk) p' hp' (fun e => hne e.symm) ⟨a, b, h1, h2, h3⟩
    · have ha : a = m := of_decide_eq_true h1
      subst ha
      have := hfree p' hp' hne
      rw [Bool.eq_false_iff] at this
      exact this ((anyM_iff hm).2 ⟨b, h2, h3⟩)
  intro p hp p' hp' hne
  by_cases e : p.1 = k
  · rw [hnew p hp e]
    exact side p' (hold p' hp' fun e' => hne (e.trans e'.symm)) fun e' => hne (e.trans e'.symm)
  · by_cases e' : p'.1 = k
    · rw [hnew p' hp' e']
      exact fun h => side p (hold p hp e) e h.symm
    · exact hap p (hold p hp e) p' (hold p' hp' e') hne
theorem QA.grant : ∀ (R : List (Int × Int)) (L : List (Int × Nat)) (W : List (Int × Int)) (O : List Int), QOk ⟨L, W ++ R⟩ → QA L W R → QA (grantQ L W O R).1 (grantQ L W O R).2.1 []
  | [], L, W, O, _, h => h
  | r :: R, L, W, O, hq, h => by
    rw [grantQ_cons]
    have hr := hq.wait r (by simp)
    split
    · rename_i hb
      refine QA.grant R L (W ++ [r]) O (by simpa using hq) ⟨h.ap, by simpa using h.nh, fun i hi => ?_⟩
      rcases Nat.lt_or_ge i W.length with g | g
      · rw [List.getElem_append_left g, List.take_append_of_le_length (by omega)]
        exact h.br i g
      · have : i = W.length := by simp at hi; omega
        subst this
        rw [List.getElem_append_right (Nat.le_refl _), List.take_left' rfl]
        simpa using hb
    · rename_i hb
      have hb' : barsQ L W r.1 r.2 = [] := by simpa using hb
      have hsub : (W ++ R).Sublist (W ++ r :: R) := List.Sublist.append (List.Sublist.refl _) (List.sublist_cons_self _ _)
      have hq2 : QOk ⟨L, W ++ R⟩ := ⟨hq.set, hq.hold, hq.nd, fun x hx => hq.wait x (hsub.subset hx), hq.once.sublist (hsub.map _)⟩
      have hne : ∀ x ∈ W ++ R, x.1 ≠ r.1 := by
        intro x hx e
        have hn := hq.once
        rw [List.map_append, List.map_cons] at hn
        have hp : (W.map Prod.fst ++ r.1 :: R.map Prod.fst).Perm (r.1 :: (W ++ R).map Prod.fst) := by rw [List.map_append]; exact List.perm_middle
        have := hp.nodup_iff.1 hn
        rw [List.nodup_cons] at this
        exact this.1 (e ▸ List.mem_map.2 ⟨x, hx, rfl⟩)
      refine QA.grant R _ W _ (hq2.grant hr.1 hr.2) ⟨ap_more hq.nd h.ap hr.2 hb', fun x hx => ?_, fun i hi => ?_⟩
      · rw [hasM_aput, if_neg (hne x hx)]
        exact h.nh x (hsub.subset hx)
      · have hx : W[i] ∈ W ++ R := List.mem_append_left _ (List.getElem_mem hi)
        exact bars_more (y := 0) hq.nd (hq2.wait _ hx).2 (hne _ hx) (h.br i hi) _
/-- All names. -/
def TA (T : TM) : Prop := ∀ n, QA (hasT T n) (waitT T n) []
theorem TA.put {T : TM} (h : TA T) {n : ByteArray} {q : QM} (hq : QA q.has q.waits []) : TA (aput T n q) := by
  intro n'
  unfold hasT waitT
  rw [afind_aput]
  by_cases e : n' = n
  · rw [if_pos e]; exact hq
  · rw [if_neg e]; exact h n'
theorem QA.nil : QA [] [] [] := ⟨by simp, by simp, by simp⟩
theorem TA.del {T : TM} (h : TA T) (hn : (T.map Prod.fst).Nodup) (n : ByteArray) : TA (adel T n) := by
  intro n'
  unfold hasT waitT
  rw [afind_adel hn]
  by_cases e : n' = n
  · rw [if_pos e]; exact QA.nil
  · rw [if_neg e]; exact h n'
theorem TA.take {T : TM} (hT : TOk T) (h : TA T) (k : Int) (n : ByteArray) (m : Int) : TA (takeT T k n m).1 := by
  unfold takeT
  split
  · exact h
  · rename_i h1
    split
    · exact h
    · rename_i h2
      split
      · exact h
      · rename_i h3
        have hm : isM m = true := by
          cases hm : isM m with
          | true => rfl
          | false => exact absurd (Or.inr (Or.inr (Or.inl hm))) h1
        have hno : ∀ r ∈ waitT T n, r.1 ≠ k := fun r hr => by
          obtain ⟨q, a1, a2⟩ := wait_of hr
          exact waitsT_none.1 (by simpa using h2) (n, q) (afind_mem a1) r a2
        have hqa := h n
        have hok := has_ok hT n
        split
        · rename_i h4
          refine h.put ⟨hqa.ap, fun r hr => ?_, fun i hi => ?_⟩
          · rw [List.append_nil] at hr
            rcases List.mem_append.1 hr with g | g
            · exact hqa.nh r (by simpa using g)
            · simp at g
              subst g
              exact (inR_and hm).1 (by unfold modesT at h3; simpa using h3)
          · simp only
            simp only at hi
            rcases Nat.lt_or_ge i (waitT T n).length with g | g
            · rw [List.getElem_append_left g, List.take_append_of_le_length (by omega)]
              exact hqa.br i g
            · have : i = (waitT T n).length := by simp at hi; omega
              subst this
              rw [List.getElem_append_right (Nat.le_refl _), List.take_left' rfl]
              simpa using h4
        · rename_i h4
          have h4' : barsQ (hasT T n) (waitT T n) k m = [] := by simpa using h4
          refine h.put ⟨ap_more hok.nd hqa.ap hm h4', fun r hr => ?_, fun i hi => ?_⟩
          · rw [List.append_nil] at hr
            simp only at hr ⊢
            unfold modesT
            rw [hasM_aput, if_neg (hno r hr)]
            exact hqa.nh r (by simpa using hr)
          · simp only at hi ⊢
            have hx := List.getElem_mem hi
            exact bars_more (y := 0) hok.nd (hok.wait _ hx).2 (hno _ hx) (hqa.br i hi) _
theorem TA.rel {T : TM} (hT : TOk T) (h : TA T) (k : Int) (O : List Int) (n : ByteArray) : TA (relStep k (T, O) n).1 := by
  unfold relStep
  cases hf : afind T n with
  | none => exact h
  | some q =>
    simp only
    split
    · exact h
    · have hq := (hT.q n q hf).1
      have hqa := h n
      have hh : hasT T n = q.has := by unfold hasT; rw [hf]
      have hw : waitT T n = q.waits := by unfold waitT; rw [hf]
      rw [hh, hw] at hqa
      have h0 : QA (adel q.has k) [] (q.waits.filter fun r => r.1 != k) := by
        refine ⟨fun p hp p' hp' => hqa.ap p (mem_adel hp) p' (mem_adel hp'), fun r hr => ?_, by simp⟩
        rw [List.nil_append, List.mem_filter] at hr
        have : hasM (adel q.has k) r.1 = hasM q.has r.1 := by
          unfold hasM
          rw [afind_adel hq.nd, if_neg (by simpa using hr.2)]
        rw [this]
        exact hqa.nh r (by simpa using hr.1)
      have := QA.grant _ _ [] [] (by simpa using hq.rel k) h0
      split
      · exact h.del hT.nd n
      · exact h.put this
theorem TA.fold (k : Int) : ∀ (N : List ByteArray) (T : TM) (O : List Int), TOk T → TA T → TA (N.foldl (relStep k) (T, O)).1
  | [], _, _, _, h => h
  | n :: N, T, O, hT, h => by
    rw [List.foldl_cons]
    exact TA.fold k N (relStep k (T, O) n).1 (relStep k (T, O) n).2 (relStep_ok hT k O n).1 (h.rel hT k O n)
theorem TA.release {T : TM} (hT : TOk T) (h : TA T) (k : Int) : TA (releaseT T k).1 := TA.fold k _ T [] hT h
theorem TA.apart {T : TM} (h : TA T) (n : ByteArray) {a b : Int} (hne : a ≠ b) : barsL (modesT T a n) (modesT T b n) = false := by
  rw [Bool.eq_false_iff]
  intro g
  rw [barsL_iff] at g
  unfold modesT at g
  cases ha : afind (hasT T n) a with
  | none =>
    have : hasM (hasT T n) a = 0 := by unfold hasM; rw [ha]; rfl
    rw [this] at g
    exact clash_zero g
  | some va =>
    cases hb : afind (hasT T n) b with
    | none =>
      have : hasM (hasT T n) b = 0 := by unfold hasM; rw [hb]; rfl
      rw [this] at g
      exact clash_zero g.symm
    | some vb =>
      have h1 : hasM (hasT T n) a = va := by unfold hasM; rw [ha]; rfl
      have h2 : hasM (hasT T n) b = vb := by unfold hasM; rw [hb]; rfl
      rw [h1, h2] at g
      exact (h n).ap _ (afind_mem ha) _ (afind_mem hb) hne g
theorem TA.waits {T : TM} (hT : TOk T) (h : TA T) {a m : Int} {n : ByteArray} (hw : waitsT T a = some (n, m)) : inR (modesT T a n) m = false ∧ forT T a ≠ [] := by
  obtain ⟨q, h1, h2⟩ := waitsT_some hw
  have hf := afind_of_mem hT.nd h1
  have hwt : waitT T n = q.waits := by unfold waitT; rw [hf]
  have hqa := h n
  refine ⟨hqa.nh (a, m) (by rw [hwt]; simpa using h2), ?_⟩
  unfold forT
  rw [hw]
  simp only
  obtain ⟨i, hi, hie⟩ := List.mem_iff_getElem.1 (by rw [hwt]; exact h2 : (a, m) ∈ waitT T n)
  have hbef : ∀ j (hj : j < (waitT T n).length), j < i → (waitT T n)[j].1 ≠ a := by
    intro j hj hji e
    have hn := (has_ok hT n).once
    have := List.pairwise_iff_getElem.1 hn j i (by simpa using hj) (by simpa using hi) hji
    simp only [List.getElem_map] at this
    rw [hie] at this
    exact this e
  rw [takeWhile_at hi (by rw [hie]) hbef]
  have := hqa.br i hi
  rw [hie] at this
  exact this
end Go.Lift

/- What one sees stays: the plain law. -/
import Derived.Test.YtogondadohdcoaaW12s
set_option linter.unusedSimpArgs false
set_option linter.unusedVariables false
namespace Go.Lift
open Go Go.Proofs Go.RowKit Go.Shelf
set_option maxRecDepth 100000
def SameFor (L L' : LM) (me : Int) : Prop := ∀ y, seesL L' me y = seesL L me y ∧ (seesL L me y = true → ((txL L' y).state ≠ 3 ↔ (txL L y).state ≠ 3))
theorem SameFor.v {L L' : LM} {me : Int} (h : SameFor L L' me) (v : VM) : seesV L' me v = seesV L me v := by
  unfold seesV
  rw [(h v.xmin).1, (h v.xmax).1]
  cases hs : seesL L me v.xmax with
  | false => simp
  | true =>
    have := (h v.xmax).2 hs
    simp only [this]
theorem SameFor.refl (L : LM) (me : Int) : SameFor L L me := fun y => ⟨rfl, fun _ => Iff.rfl⟩
theorem sees_of_tx {L L' : LM} {me y : Int} (hm : hasL L me) (hm' : hasL L' me) (hsn : (txL L' me).snap = (txL L me).snap) (hy : hasL L' y ↔ hasL L y) (h1 : (txL L' y).state = (txL L y).state) (h2 : (txL L' y).csn = (txL L y).csn) :
    seesL L' me y = seesL L me y ∧ (seesL L me y = true → ((txL L' y).state ≠ 3 ↔ (txL L y).state ≠ 3)) := by
  unfold seesL
  simp only [hm, hm', hy, h1, h2, hsn, true_and, and_self, implies_true]
theorem sees_not {L : LM} {me y : Int} (hne : me ≠ y) (h : ¬ ((txL L y).state = 2 ∧ (txL L y).csn ≤ (txL L me).snap)) : seesL L me y = false := by
  unfold seesL
  rw [decide_eq_false hne, decide_eq_false h]
  simp
theorem same_begin {L : LM} {me : Int} (hm : hasL L me) (r : Bool) : SameFor L (beginL L r) me ∧ hasL (beginL L r) me ∧ (txL (beginL L r) me).snap = (txL L me).snap := by
  unfold beginL
  split
  · exact ⟨SameFor.refl _ _, hm, rfl⟩
  · have hold : ∀ y, hasL L y → txL { L with l := L.l ++ [⟨1, 0, L.clock, r⟩] } y = txL L y ∧ hasL { L with l := L.l ++ [⟨1, 0, L.clock, r⟩] } y := by
      intro y hy
      have h2 : hasL { L with l := L.l ++ [⟨1, 0, L.clock, r⟩] } y := ⟨hy.1, by have := hy.2; simp; omega⟩
      refine ⟨?_, h2⟩
      unfold txL
      rw [if_pos hy, if_pos h2, List.getElem?_append_left (by have := hy.1; have := hy.2; omega)]
    have hme := hold me hm
    refine ⟨fun y => ?_, hme.2, by rw [hme.1]⟩
    by_cases hy : hasL L y
    · have := hold y hy
      exact sees_of_tx hm hme.2 (by rw [hme.1]) (by simp [hy, this.2]) (by rw [this.1]) (by rw [this.1])
    · have h1 : seesL L me y = false := by unfold seesL; simp [hy]
      have h2 : seesL { L with l := L.l ++ [⟨1, 0, L.clock, r⟩] } me y = false := by
        by_cases hy2 : hasL { L with l := L.l ++ [⟨1, 0, L.clock, r⟩] } y
        · have hyl : y = (L.l.length : Int) + 1 := by
            have a := hy2.1
            have b := hy2.2
            simp only [List.length_append, List.length_cons, List.length_nil] at b
            unfold hasL at hy
            omega
          have hne : me ≠ y := by have := hm.2; omega
          refine sees_not hne ?_
          have : txL { L with l := L.l ++ [⟨1, 0, L.clock, r⟩] } y = ⟨1, 0, L.clock, r⟩ := by
            unfold txL
            rw [if_pos hy2, List.getElem?_append_right (by omega)]
            have : y.toNat - 1 - L.l.length = 0 := by omega
            rw [this]
            rfl
          rw [this]
          simp
        · unfold seesL; simp [hy2]
      exact ⟨by rw [h1, h2], fun h => by rw [h1] at h; cases h⟩
theorem same_set {L : LM} {me x : Int} (hm : hasL L me) (hx : runsL L x) (hne : x ≠ me) (u : TxM) (c : Int) (hu : u.state = 3 ∨ (u.state = 2 ∧ ¬ u.csn ≤ (txL L me).snap)) :
    SameFor L { setL L x u with clock := c } me ∧ hasL { setL L x u with clock := c } me ∧ (txL { setL L x u with clock := c } me).snap = (txL L me).snap := by
  have ht : ∀ y, txL { setL L x u with clock := c } y = if y = x then u else txL L y := fun y => txL_set hx.1 u y
  have hh : ∀ y, hasL { setL L x u with clock := c } y ↔ hasL L y := fun y => hasL_set L x y u
  have hme : txL { setL L x u with clock := c } me = txL L me := by rw [ht, if_neg (Ne.symm hne)]
  refine ⟨fun y => ?_, (hh me).2 hm, by rw [hme]⟩
  by_cases hy : y = x
  · subst hy
    have h1 : seesL L me y = false := sees_not (Ne.symm hne) (by rw [hx.2]; rintro ⟨h, _⟩; cases h)
    have h2 : seesL { setL L y u with clock := c } me y = false := by
      refine sees_not (Ne.symm hne) ?_
      rw [ht, if_pos rfl, hme]
      rcases hu with h | h
      · rw [h]; rintro ⟨h, _⟩; cases h
      · rintro ⟨_, h3⟩; exact h.2 h3
    exact ⟨by rw [h1, h2], fun h => by rw [h1] at h; cases h⟩
  · exact sees_of_tx hm ((hh me).2 hm) (by rw [hme]) (hh y) (by rw [ht, if_neg hy]) (by rw [ht, if_neg hy])
theorem same_commit {L : LM} {me x : Int} (hm : hasL L me) (hs : (txL L me).snap ≤ L.clock) (hne : x ≠ me) : SameFor L (commitL L x) me ∧ hasL (commitL L x) me ∧ (txL (commitL L x) me).snap ≤ (commitL L x).clock := by
  unfold commitL
  split
  · rename_i hx
    have := same_set hm hx hne { txL L x with state := 2, csn := L.clock + 1 } (L.clock + 1) (Or.inr ⟨rfl, by show ¬ L.clock + 1 ≤ _; omega⟩)
    exact ⟨this.1, this.2.1, by rw [this.2.2]; show _ ≤ L.clock + 1; omega⟩
  · exact ⟨SameFor.refl _ _, hm, hs⟩
theorem same_abort {L : LM} {me x : Int} (hm : hasL L me) (hs : (txL L me).snap ≤ L.clock) (hne : x ≠ me) : SameFor L (abortL L x) me ∧ hasL (abortL L x) me ∧ (txL (abortL L x) me).snap ≤ (abortL L x).clock := by
  unfold abortL
  split
  · rename_i hx
    have := same_set hm hx hne { txL L x with state := 3 } L.clock (Or.inl rfl)
    exact ⟨this.1, this.2.1, by have h2 := this.2.2; show (txL { setL L x { txL L x with state := 3 } with clock := L.clock } me).snap ≤ L.clock; rw [h2]; exact hs⟩
  · exact ⟨SameFor.refl _ _, hm, hs⟩
def seT (L : LM) (N : NM) (me : Int) (k : ByteArray) : Option TM := (seeN L N me k).map VM.t
theorem SameFor.see {L L' : LM} {me : Int} (h : SameFor L L' me) (N : NM) (k : ByteArray) : seT L' N me k = seT L N me k := by
  unfold seT seeN
  have : seesV L' me = seesV L me := funext fun v => h.v v
  rw [this]
theorem find_set {p : VM → Bool} : ∀ (l : List VM) (j : Nat) (w : VM) (hj : j < l.length), p w = p l[j] → w.t = l[j].t → ((l.set j w).find? p).map VM.t = (l.find? p).map VM.t
  | [], j, w, hj, _, _ => by simp at hj
  | v :: l, 0, w, hj, hp, ht => by
    simp only [List.getElem_cons_zero] at hp ht
    rw [List.set_cons_zero, List.find?_cons, List.find?_cons, hp]
    split
    · simp [ht]
    · rfl
  | v :: l, j + 1, w, hj, hp, ht => by
    simp only [List.getElem_cons_succ] at hp ht
    rw [List.set_cons_succ, List.find?_cons, List.find?_cons]
    split
    · rfl
    · exact find_set l j w (by simpa using hj) hp ht
theorem see_mark {L : LM} {N : NM} {me x : Int} {k : ByteArray} (hne : x ≠ me) (hx : (txL L x).state = 1) (hu : unseenN L N x k = []) (ha : ¬ atN L N x k < 0) (k' : ByteArray) : seT L (markN N k (atN L N x k).toNat x) me k' = seT L N me k' := by
  have hsx : seesL L me x = false := sees_not (Ne.symm hne) (by rw [hx]; rintro ⟨h, _⟩; cases h)
  unfold seT seeN markN
  rw [vsN_aput]
  split
  · rename_i e
    subst e
    unfold atN at ha ⊢
    rcases atV_find L x (vsN N k') 0 with ⟨q1, _⟩ | ⟨j, q1, hj, _, q3⟩
    · rw [q1] at ha; exact absurd (by omega) ha
    · rw [q1, Nat.zero_add, Int.toNat_natCast]
      unfold endL
      rw [List.getElem?_eq_getElem hj]
      refine find_set _ _ _ hj ?_ rfl
      have hw := (unseen_nil.1 hu _ (List.getElem_mem hj)).2
      generalize (vsN N k')[j] = v at q3 hw
      have hend : decide (v.xmax ≠ 0 ∧ (txL L v.xmax).state ≠ 3) = false := by
        unfold seesV at q3
        unfold whoP at hw
        cases hd : decide (v.xmax ≠ 0 ∧ (txL L v.xmax).state ≠ 3) with
        | false => rfl
        | true =>
          rw [hd, Bool.true_and] at hw
          simp only [Bool.not_eq_false'] at hw
          rw [hd, hw] at q3
          simp at q3
      unfold seesV
      rw [hend, hsx]
      simp
  · rfl
theorem see_add {L : LM} {N : NM} {me x : Int} {k : ByteArray} (hne : x ≠ me) (hx : (txL L x).state = 1) (u : TM) (k' : ByteArray) : seT L (addN N k ⟨x, 0, u⟩) me k' = seT L N me k' := by
  have hsx : seesL L me x = false := sees_not (Ne.symm hne) (by rw [hx]; rintro ⟨h, _⟩; cases h)
  unfold seT seeN addN
  rw [vsN_aput]
  split
  · rename_i e
    subst e
    rw [List.find?_append]
    have : [(⟨x, 0, u⟩ : VM)].find? (seesV L me) = none := by
      rw [List.find?_cons_of_neg]
      · rfl
      · unfold seesV
        simp [hsx]
    rw [this]
    simp
  · rfl
theorem see_put {L : LM} {N : NM} {me x : Int} (hne : x ≠ me) (u : TM) (k' : ByteArray) : seT L (putN L N x u) me k' = seT L N me k' := by
  unfold putN
  split
  · rename_i hE
    have hx : (txL L x).state = 1 := by
      apply Classical.byContradiction
      intro hn
      unfold putE at hE
      rw [if_pos (Or.inl hn)] at hE
      cases hE
    rw [see_add hne hx]
    split
    · rfl
    · rename_i ha
      exact see_mark hne hx (putE_may hE) ha k'
  · rfl
theorem see_drop {L : LM} {N : NM} {me x : Int} (hne : x ≠ me) (k k' : ByteArray) : seT L (dropN L N x k) me k' = seT L N me k' := by
  unfold dropN
  split
  · rename_i hE
    unfold dropE at hE
    split at hE
    · cases hE
    · rename_i h1
      split at hE
      · contradiction
      · rename_i h2
        split at hE
        · cases hE
        · rename_i h3
          exact see_mark hne (by simpa using h1) (may_zero (by simpa using h2)) h3 k'
  · rfl
theorem all_same {L L' : LM} {N N' : NM} {me : Int} (hn : (N.map Prod.fst).Nodup) (hn' : (N'.map Prod.fst).Nodup) (h : ∀ k, seT L' N' me k = seT L N me k) : allN L' N' me = allN L N me := by
  have hkey : ∀ {L : LM} {N : NM} {k : ByteArray}, (seeN L N me k).isSome = true → k ∈ N.map Prod.fst := by
    intro L N k hk
    apply Classical.byContradiction
    intro hn
    rw [← afind_none] at hn
    unfold seeN vsN at hk
    rw [hn] at hk
    cases hk
  have hsome : ∀ k, (seeN L' N' me k).isSome = (seeN L N me k).isSome := fun k => by
    have := congrArg Option.isSome (h k)
    unfold seT at this
    simpa using this
  have hs : sortC cmpS ((N'.map Prod.fst).filter fun k => (seeN L' N' me k).isSome) = sortC cmpS ((N.map Prod.fst).filter fun k => (seeN L N me k).isSome) := by
    refine ordC_ext cmp3S (sortC_ord cmp3S (fun x y h => cmpS_zero h) (hn'.filter _)) (sortC_ord cmp3S (fun x y h => cmpS_zero h) (hn.filter _)) fun k => ?_
    rw [sortC_mem, sortC_mem, List.mem_filter, List.mem_filter]
    constructor
    · rintro ⟨_, h2⟩
      have h2 : (seeN L N me k).isSome = true := by rw [← hsome]; exact h2
      exact ⟨hkey h2, h2⟩
    · rintro ⟨_, h2⟩
      have h2 : (seeN L' N' me k).isSome = true := by rw [hsome]; exact h2
      exact ⟨hkey h2, h2⟩
  unfold allN
  rw [hs]
  have : (fun k => (seeN L' N' me k).map VM.t) = fun k => (seeN L N me k).map VM.t := funext h
  rw [this]
end Go.Lift

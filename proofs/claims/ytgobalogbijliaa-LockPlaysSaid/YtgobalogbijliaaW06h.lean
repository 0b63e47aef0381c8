/- Locks: what stays true of a table. -/
import Derived.Test.YtgobalogbijliaaW06g
set_option linter.unusedSimpArgs false
set_option linter.unusedVariables false
namespace Go.Lift
open Go Go.Proofs
set_option maxRecDepth 100000
theorem wait_of {T : TM} {n : ByteArray} {r : Int × Int} (hr : r ∈ waitT T n) : ∃ q, afind T n = some q ∧ r ∈ q.waits := by
  unfold waitT at hr
  cases hf : afind T n with
  | none => rw [hf] at hr; cases hr
  | some q => rw [hf] at hr; exact ⟨q, rfl, hr⟩
theorem TOk.put {T : TM} (hT : TOk T) {n : ByteArray} {q' : QM} (hq : QOk q') (hne : q'.has ≠ [] ∨ q'.waits ≠ []) (hn : n.size ≤ 8) (hw : ∀ r ∈ q'.waits, r ∈ waitT T n ∨ ∀ p ∈ T, ∀ r' ∈ p.2.waits, r'.1 ≠ r.1) : TOk (aput T n q') := by
  have hfa : ∀ j, afind (aput T n q') j = if j = n then some q' else afind T j := fun j => afind_aput T n j q'
  refine ⟨fun j q hj => ?_, aput_nodup hT.nd _ _, fun j j' q q2 r r' hj hj' hr hr' he => ?_⟩
  · rw [hfa] at hj
    by_cases e : j = n
    · rw [if_pos e] at hj
      cases hj
      exact ⟨hq, hne, by rw [e]; exact hn⟩
    · rw [if_neg e] at hj
      exact hT.q j q hj
  · have side : ∀ j' q2 r r', j' ≠ n → afind T j' = some q2 → r ∈ q'.waits → r' ∈ q2.waits → r.1 = r'.1 → False := by
      intro j' q2 r r' hne hj' hr hr' he
      rcases hw r hr with g | g
      · obtain ⟨q0, h1, h2⟩ := wait_of g
        exact hne (hT.one n j' q0 q2 r r' h1 hj' h2 hr' he).symm
      · exact g (j', q2) (afind_mem hj') r' hr' he.symm
    rw [hfa] at hj hj'
    by_cases e : j = n
    · by_cases e' : j' = n
      · rw [e, e']
      · rw [if_pos e] at hj
        rw [if_neg e'] at hj'
        cases hj
        exact (side j' q2 r r' e' hj' hr hr' he).elim
    · by_cases e' : j' = n
      · rw [if_neg e] at hj
        rw [if_pos e'] at hj'
        cases hj'
        exact (side j q r' r e hj hr' hr he.symm).elim
      · rw [if_neg e] at hj
        rw [if_neg e'] at hj'
        exact hT.one j j' q q2 r r' hj hj' hr hr' he
theorem TOk.del {T : TM} (hT : TOk T) (n : ByteArray) : TOk (adel T n) := by
  have hfa : ∀ j q, afind (adel T n) j = some q → afind T j = some q := fun j q hj => by
    rw [afind_adel hT.nd] at hj
    by_cases e : j = n
    · rw [if_pos e] at hj; cases hj
    · rw [if_neg e] at hj; exact hj
  exact ⟨fun j q hj => hT.q j q (hfa j q hj), (adel_nodup hT.nd n).1, fun j j' q q2 r r' hj hj' => hT.one j j' q q2 r r' (hfa j q hj) (hfa j' q2 hj')⟩
theorem QOk.grant {L : List (Int × Nat)} {W : List (Int × Int)} {k m : Int} (hq : QOk ⟨L, W⟩) (hk : 1 ≤ k ∧ k ≤ 200) (hm : isM m = true) : QOk ⟨aput L k (hasM L k ||| bitM m), W⟩ := by
  have h1 := hasM_lt (fun p hp => (hq.set p hp).2) k
  have h2 := bitM_lt hm
  refine ⟨fun p hp => ?_, fun p hp => ?_, aput_nodup hq.nd _ _, hq.wait, hq.once⟩
  · rcases mem_aput hp with rfl | g
    · refine ⟨?_, Nat.or_lt_two_pow (n := 9) h1 h2⟩
      have := bitM_pos m
      have h3 : bitM m ≤ hasM L k ||| bitM m := Nat.right_le_or
      simp only
      omega
    · exact hq.set p g
  · rcases mem_aput hp with rfl | g
    · exact hk
    · exact hq.hold p g
theorem grantQ_ok : ∀ (R : List (Int × Int)) (L : List (Int × Nat)) (W : List (Int × Int)) (O : List Int), QOk ⟨L, W ++ R⟩ → QOk ⟨(grantQ L W O R).1, (grantQ L W O R).2.1⟩ ∧ (grantQ L W O R).2.1.Sublist (W ++ R)
  | [], L, W, O, h => by
    rw [List.append_nil] at h ⊢
    exact ⟨h, List.Sublist.refl _⟩
  | r :: R, L, W, O, h => by
    rw [grantQ_cons]
    split
    · have := grantQ_ok R L (W ++ [r]) O (by simpa using h)
      simpa using this
    · have hsub : (W ++ R).Sublist (W ++ r :: R) := List.Sublist.append (List.Sublist.refl _) (List.sublist_cons_self _ _)
      have hr := h.wait r (by simp)
      have h2 : QOk ⟨L, W ++ R⟩ := ⟨h.set, h.hold, h.nd, fun x hx => h.wait x (hsub.subset hx), h.once.sublist (hsub.map _)⟩
      have := grantQ_ok R (aput L r.1 (hasM L r.1 ||| bitM r.2)) W (O ++ [r.1]) (h2.grant hr.1 hr.2)
      exact ⟨this.1, this.2.trans hsub⟩
theorem takeT_ok {T : TM} (hT : TOk T) (k : Int) (n : ByteArray) (m : Int) : TOk (takeT T k n m).1 ∧ (takeT T k n m).1.length ≤ T.length + 1 := by
  unfold takeT
  split
  · exact ⟨hT, by simp⟩
  · rename_i h1
    split
    · exact ⟨hT, by simp⟩
    · rename_i h2
      split
      · exact ⟨hT, by simp⟩
      · rename_i h3
        have hqk := has_ok hT n
        have hm : isM m = true := by
          cases hm : isM m with
          | true => rfl
          | false => exact absurd (Or.inr (Or.inr (Or.inl hm))) h1
        have hk : 1 ≤ k ∧ k ≤ 200 := ⟨Int.not_lt.1 fun g => h1 (Or.inl g), Int.not_lt.1 fun g => h1 (Or.inr (Or.inl g))⟩
        have hn : n.size ≤ 8 := Nat.not_lt.1 fun g => h1 (Or.inr (Or.inr (Or.inr g)))
        have hno : ∀ p ∈ T, ∀ r' ∈ p.2.waits, r'.1 ≠ k := waitsT_none.1 (by simpa using h2)
        have hlen : ∀ q, (aput T n q).length ≤ T.length + 1 := fun q => by rw [aput_length]; split <;> omega
        split
        · refine ⟨hT.put ⟨hqk.set, hqk.hold, hqk.nd, fun r hr => ?_, ?_⟩ (Or.inr (by simp)) hn fun r hr => ?_, hlen _⟩
          · rcases List.mem_append.1 hr with g | g
            · exact hqk.wait r g
            · simp at g
              subst g
              exact ⟨hk, hm⟩
          · rw [List.map_append, List.nodup_append]
            refine ⟨hqk.once, by simp, fun a ha b hb => ?_⟩
            simp at hb
            subst hb
            obtain ⟨r, hr, rfl⟩ := List.mem_map.1 ha
            obtain ⟨q0, g1, g2⟩ := wait_of hr
            exact hno _ (afind_mem g1) r g2
          · rcases List.mem_append.1 hr with g | g
            · exact Or.inl g
            · simp at g
              subst g
              exact Or.inr hno
        · have hput := QOk.grant hqk hk hm
          refine ⟨hT.put hput (Or.inl ?_) hn fun r hr => Or.inl hr, hlen _⟩
          intro e
          have := aput_length (hasT T n) k (modesT T k n ||| bitM m)
          rw [show aput (hasT T n) k (modesT T k n ||| bitM m) = [] from e] at this
          split at this
          · rename_i hk'
            rw [List.eq_nil_of_length_eq_zero this.symm] at hk'
            cases hk'
          · simp at this
theorem relStep_ok {T : TM} (hT : TOk T) (k : Int) (O : List Int) (n : ByteArray) : TOk (relStep k (T, O) n).1 ∧ (relStep k (T, O) n).1.length ≤ T.length := by
  unfold relStep
  cases hf : afind T n with
  | none => exact ⟨hT, Nat.le_refl _⟩
  | some q =>
    simp only
    split
    · exact ⟨hT, Nat.le_refl _⟩
    · have hq := (hT.q n q hf).1.rel k
      have hg := grantQ_ok (q.waits.filter fun r => r.1 != k) (adel q.has k) [] [] (by simpa using hq)
      rw [List.nil_append] at hg
      simp only
      split
      · refine ⟨hT.del n, ?_⟩
        have hl : ∀ (T : TM) (n : ByteArray), (adel T n).length ≤ T.length := by
          intro T n
          induction T with
          | nil => simp [adel]
          | cons p T ih =>
            obtain ⟨a, u⟩ := p
            simp only [adel]
            split
            · simp
            · simpa using ih
        exact hl T n
      · rename_i hne
        refine ⟨hT.put hg.1 ?_ (hT.q n q hf).2.2 fun r hr => Or.inl ?_, ?_⟩
        · rcases Classical.em ((grantQ (adel q.has k) [] [] (q.waits.filter fun r => r.1 != k)).1 = []) with g | g
          · exact Or.inr fun g2 => hne ⟨g, g2⟩
          · exact Or.inl g
        · unfold waitT
          rw [hf]
          exact (List.mem_filter.1 (hg.2.subset hr)).1
        · rw [aput_length, if_pos (List.mem_map.2 ⟨_, afind_mem hf, rfl⟩)]
          exact Nat.le_refl _
theorem relFold_ok (k : Int) : ∀ (N : List ByteArray) (T : TM) (O : List Int), TOk T → TOk (N.foldl (relStep k) (T, O)).1 ∧ (N.foldl (relStep k) (T, O)).1.length ≤ T.length
  | [], T, O, h => ⟨h, Nat.le_refl _⟩
  | n :: N, T, O, h => by
    rw [List.foldl_cons]
    have h1 := relStep_ok h k O n
    have h2 := relFold_ok k N (relStep k (T, O) n).1 (relStep k (T, O) n).2 h1.1
    exact ⟨h2.1, Nat.le_trans h2.2 h1.2⟩
theorem releaseT_ok {T : TM} (hT : TOk T) (k : Int) : TOk (releaseT T k).1 ∧ (releaseT T k).1.length ≤ T.length := relFold_ok k _ T [] hT
theorem nil_ok : TOk [] := ⟨fun n q hf => by simp [afind] at hf, by simp, fun n n' q q' r r' hf => by simp [afind] at hf⟩
/-- A table in memory, apart from other blocks. -/
def Lk (lo : Nat) (G : Nat → Prop) (h : Hp) (t : Nat) (T : TM) : Prop := (∀ b, G b → b < h.size) ∧ lo ≤ h.size ∧ TOk T ∧ ∃ mb C, TabAt lo h t mb C ∧ amap QC.m C = T ∧ ∀ b, Ft t mb C b → ¬ G b
section
variable {lo : Nat} {G : Nat → Prop} {h : Hp} {t : Nat} {T : TM} {Q : List Value → Hp → Prop}
theorem Lk.grow {G' : Nat → Prop} {h' : Hp} (hv : Lk lo G h t T) (he : Ext [] h h') (hG : ∀ b, G' b → (G b ∨ h.size ≤ b) ∧ b < h'.size) : Lk lo G' h' t T := by
  obtain ⟨h1, h2, hok, mb, C, hT, hC, h3⟩ := hv
  refine ⟨fun b hb => (hG b hb).2, Nat.le_trans h2 he.sz, hok, mb, C, hT.ext0 he, hC, fun b hb hg => ?_⟩
  rcases (hG b hg).1 with g | g
  · exact h3 b hb g
  · have := (hT.lt hb).2; omega
theorem Lk.e0 {h' : Hp} (hv : Lk lo G h t T) (he : Ext [] h h') : Lk lo G h' t T := hv.grow he fun b hb => ⟨Or.inl hb, Nat.lt_of_lt_of_le (hv.1 b hb) he.sz⟩
theorem Lk.less {G' : Nat → Prop} (hv : Lk lo G h t T) (hG : ∀ b, G' b → G b) : Lk lo G' h t T := hv.grow (Ext.refl _ _) fun b hb => ⟨Or.inl (hG b hb), hv.1 b (hG b hb)⟩
/-- What is apart is written. -/
theorem Lk.eG {h' : Hp} {S : List Nat} (hv : Lk lo G h t T) (he : Ext S h h') (hS : ∀ b ∈ S, b < h.size → G b) : Lk lo G h' t T := by
  obtain ⟨h1, h2, hok, mb, C, hT, hC, h3⟩ := hv
  exact ⟨fun b hb => Nat.lt_of_lt_of_le (h1 b hb) he.sz, Nat.le_trans h2 he.sz, hok, mb, C, hT.extF he fun b hb hm => h3 b hb (hS b hm (hT.lt hb).2), hC, h3⟩
theorem Lk.ok (hv : Lk lo G h t T) : TOk T := hv.2.2.1
theorem new_L {G : Nat → Prop} (hG : ∀ b, G b → b < h.size) (hQ : ∀ h' t, Lk h.size G h' t [] → Ext [] h h' → Q [.pointer (some ⟨t, 0, none⟩)] h') : S_lock_New h Q := by
  refine New_s fun h' hT e hz => hQ h' (h.size + 1) ⟨fun b hb => by have := hG b hb; omega, by omega, nil_ok, h.size, [], hT, rfl, fun b hb hg => ?_⟩ e
  have := hG b hg
  rcases hb with rfl | rfl | ⟨n, c, hf, _⟩
  · omega
  · omega
  · simp [afind] at hf
theorem take_L (hv : Lk lo G h t T) (k : Int) (n : ByteArray) (m : Int)
    (hQ : ∀ h' S, Lk lo G h' t (takeT T k n m).1 → Ext S h h' → (∀ b ∈ S, lo ≤ b ∧ ¬ G b) → Q [.int .i64 (takeT T k n m).2] h') : S_lock_Table_Take (some ⟨t, 0, none⟩) k n m h Q := by
  obtain ⟨h1, h2, hok, mb, C, hT, rfl, h3⟩ := hv
  refine Take_s hT hok k n m h2 fun h' C' S hT' hC' he hS hF => hQ h' S ⟨fun b hb => Nat.lt_of_lt_of_le (h1 b hb) he.sz, Nat.le_trans h2 he.sz, (takeT_ok hok k n m).1, mb, C', hT', hC', fun b hb hg => ?_⟩ he fun b hb => ?_
  · rcases hF b hb with g | g
    · exact h3 b g hg
    · have := h1 b hg; omega
  · rcases Nat.lt_or_ge b h.size with g | g
    · have := hS b hb g
      exact ⟨(hT.lt this).1, h3 b this⟩
    · exact ⟨by omega, fun hg => by have := h1 b hg; omega⟩
theorem release_L (hv : Lk lo G h t T) (k : Int) (hl : T.length ≤ 2 ^ 16)
    (hQ : ∀ h' s' S, Lk lo G h' t (releaseT T k).1 → Own T_int 1 encIL h.size h' s' (releaseT T k).2 → (∀ b ∈ sBlk s', h.size ≤ b ∧ ¬ G b) → Ext S h h' → (∀ b ∈ S, lo ≤ b ∧ ¬ G b) → Q [.slice s'.a s'.n s'.c] h') : S_lock_Table_Release (some ⟨t, 0, none⟩) k h Q := by
  obtain ⟨h1, h2, hok, mb, C, hT, rfl, h3⟩ := hv
  refine Release_s hT hok k h2 (by simpa [amap] using hl) fun h' C' s' S hT' hC' ho he hS hF => hQ h' s' S ⟨fun b hb => Nat.lt_of_lt_of_le (h1 b hb) he.sz, Nat.le_trans h2 he.sz, (releaseT_ok hok k).1, mb, C', hT', hC', fun b hb hg => ?_⟩ ho (fun b hb => ?_) he fun b hb => ?_
  · rcases hF b hb with g | g
    · exact h3 b g hg
    · have := h1 b hg; omega
  · have := (own_ltG ho b hb).1
    exact ⟨this, fun hg => by have := h1 b hg; omega⟩
  · rcases Nat.lt_or_ge b h.size with g | g
    · have := hS b hb g
      exact ⟨(hT.lt this).1, h3 b this⟩
    · exact ⟨by omega, fun hg => by have := h1 b hg; omega⟩
theorem waits_L (hv : Lk lo G h t T) (k : Int) (hQ : ∀ h', Lk lo G h' t T → Ext [] h h' → Q (match waitsT T k with | none => [.string (ByteArray.mk #[]), .int .i64 0, .bool false] | some (n, m) => [.string n, .int .i64 m, .bool true]) h') : S_lock_Table_Waits (some ⟨t, 0, none⟩) k h Q := by
  have hv0 := hv
  obtain ⟨h1, h2, hok, mb, C, hT, rfl, h3⟩ := hv
  exact Waits_s hT hok k fun h' e => hQ h' (hv0.e0 e) e
theorem modes_L (hv : Lk lo G h t T) (k : Int) (n : ByteArray) (hQ : Q [.int .i64 (modesT T k n : Nat)] h) : S_lock_Table_Modes (some ⟨t, 0, none⟩) k n h Q := by
  obtain ⟨h1, h2, hok, mb, C, hT, rfl, h3⟩ := hv
  exact Modes_s hT k n hQ
theorem for_L (hv : Lk lo G h t T) (k : Int) (hQ : ∀ h' s', Lk lo G h' t T → Ext [] h h' → Own T_int 1 encIL h.size h' s' (forT T k) → Q [.slice s'.a s'.n s'.c] h') : S_lock_Table_For (some ⟨t, 0, none⟩) k h Q := by
  have hv0 := hv
  obtain ⟨h1, h2, hok, mb, C, hT, rfl, h3⟩ := hv
  exact For_s hT hok k fun h' s' e ho => hQ h' s' (hv0.e0 e) e ho
theorem names_L (hv : Lk lo G h t T) (hl : T.length ≤ 2 ^ 16) (hQ : ∀ h' s', Lk lo G h' t T → Ext [] h h' → Own T_string 1 encB h.size h' s' (namesT T) → Q [.slice s'.a s'.n s'.c] h') : S_lock_Table_Names (some ⟨t, 0, none⟩) h Q := by
  have hv0 := hv
  obtain ⟨h1, h2, hok, mb, C, hT, rfl, h3⟩ := hv
  have hl' : C.length ≤ 2 ^ 16 := by simpa [amap] using hl
  exact Names_s hT hok (by omega) fun h' s' e ho => hQ h' s' (hv0.e0 e) e ho
/-! The nil table. -/
theorem takeN_s (k : Int) (n : ByteArray) (m : Int) (hQ : Q [.int .i64 1] h) : S_lock_Table_Take none k n m h Q := by
  refine O_lock_Table_Take _ _ _ _ ?_
  unfold F_lock_Table_Take
  intro J hJ
  rw [if_pos (by rfl)]
  refine hJ _ _ ?_
  rw [if_pos (by rfl)]
  exact hQ
theorem releaseN_s (k : Int) (hQ : ∀ h', Ext [] h h' → Q [.slice none 0 0] h') : S_lock_Table_Release none k h Q := by
  refine O_lock_Table_Release _ _ ?_
  unfold F_lock_Table_Release
  refine newI fun h1 s1 b1 e1 => ?_
  rw [if_pos (by rfl)]
  exact hQ h1 e1
theorem modesN_s (k : Int) (n : ByteArray) (hQ : Q [.int .i64 0] h) : S_lock_Table_Modes none k n h Q := by
  refine O_lock_Table_Modes _ _ _ ?_
  unfold F_lock_Table_Modes
  intro J hJ
  rw [if_pos (by rfl)]
  refine hJ _ _ ?_
  rw [if_pos (by rfl)]
  exact hQ
theorem waitingN_s (k : Int) (hQ : ∀ h', Ext [] h h' → Q [.string (ByteArray.mk #[]), .int .i64 0, .bool false] h') : S_lock_Table_waiting none k h Q := by
  refine O_lock_Table_waiting _ _ ?_
  unfold F_lock_Table_waiting
  refine newI fun h1 s1 b1 e1 => ?_
  rw [if_pos (by rfl)]
  exact hQ h1 e1
theorem waitsN_s (k : Int) (hQ : ∀ h', Ext [] h h' → Q [.string (ByteArray.mk #[]), .int .i64 0, .bool false] h') : S_lock_Table_Waits none k h Q := by
  refine O_lock_Table_Waits _ _ ?_
  unfold F_lock_Table_Waits
  refine waitingN_s k fun h1 e1 => ⟨_, _, _, rfl, ?_⟩
  rw [if_pos (by rfl)]
  exact hQ h1 e1
theorem forN_s (k : Int) (hQ : ∀ h', Ext [] h h' → Q [.slice none 0 0] h') : S_lock_Table_For none k h Q := by
  refine O_lock_Table_For _ _ ?_
  unfold F_lock_Table_For
  refine waitingN_s k fun h1 e1 => ⟨_, _, _, rfl, ?_⟩
  rw [if_pos (by rfl)]
  exact hQ h1 e1
theorem namesN_s (hQ : Q [.slice none 0 0] h) : S_lock_Table_Names none h Q := by
  refine O_lock_Table_Names _ ?_
  unfold F_lock_Table_Names
  rw [if_pos (by rfl)]
  exact hQ
/-- Are two lists alike? -/
theorem Ints_s {a b : Sl} {xs ys : List Int} (ha : Reads 1 encIL h a xs) (hb : Reads 1 encIL h b ys) (hl : xs.length ≤ 2 ^ 40) (hQ : Q [.bool (decide (xs = ys))] h) : S_liverykeep_Ints a b h Q := by
  refine O_liverykeep_Ints _ _ ?_
  unfold F_liverykeep_Ints
  have ha1 := ha.1
  have hb1 := hb.1
  by_cases hn : xs.length = ys.length
  · rw [if_neg (by simp; omega)]
    intro X hX
    have key : ∀ d i, d + i = xs.length → xs.take i = ys.take i → X [.int .i64 (i : Int)] h := by
      intro d
      induction d with
      | zero =>
        intro i hi ht
        refine hX _ _ ?_
        rw [if_neg (by simp; omega)]
        rw [List.take_of_length_le (by omega), List.take_of_length_le (by omega)] at ht
        simpa [ht] using hQ
      | succ d ih =>
        intro i hi ht
        refine hX _ _ ?_
        rw [if_pos (by simp; omega)]
        obtain ⟨a1, u1, u2⟩ := ha.rd encIL_len (i := i) (by omega)
        obtain ⟨b1, v1, v2⟩ := hb.rd encIL_len (i := i) (by omega)
        have u2 := u2 0 (by omega)
        have v2 := v2 0 (by omega)
        rw [u1, v1]
        simp only [nilW_some, Int.toNat_natCast]
        refine ⟨by omega, by omega, _, by simpa using u2, by omega, by omega, _, by simpa using v2, ?_⟩
        have hx : xs.take (i + 1) = xs.take i ++ [xs[i]'(by omega)] := by rw [List.take_add_one, List.getElem?_eq_getElem (by omega)]; rfl
        have hy : ys.take (i + 1) = ys.take i ++ [ys[i]'(by omega)] := by rw [List.take_add_one, List.getElem?_eq_getElem (by omega)]; rfl
        by_cases he : xs[i]'(by omega) = ys[i]'(by omega)
        · rw [if_neg (by simpa using he), wrap64 (by omega) (by omega)]
          have := ih (i + 1) (by omega) (by rw [hx, hy, ht, he])
          simpa using this
        · rw [if_pos (by simpa using he)]
          have hne : xs ≠ ys := fun e => he (by subst e; rfl)
          simpa [hne] using hQ
    have := key xs.length 0 (by omega) (by simp)
    simpa using this
  · rw [if_pos (by simp; omega)]
    have hne : xs ≠ ys := fun e => hn (by rw [e])
    simpa [hne] using hQ
end
end Go.Lift

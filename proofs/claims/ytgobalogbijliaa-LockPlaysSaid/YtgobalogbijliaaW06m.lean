/- Locks: who goes on when a holder goes. -/
import Derived.Test.YtgobalogbijliaaW06l
set_option linter.unusedSimpArgs false
set_option linter.unusedVariables false
namespace Go.Lift
open Go Go.Proofs
set_option maxRecDepth 100000
theorem grantQ_perm : ∀ (R : List (Int × Int)) (L : List (Int × Nat)) (W : List (Int × Int)) (O : List Int), ∃ (L' : List (Int × Nat)) (G S : List (Int × Int)),
    grantQ L W O R = (L', W ++ S, O ++ G.map Prod.fst) ∧ R.Perm (G ++ S) ∧ ∀ k, k ∈ L'.map Prod.fst ↔ k ∈ L.map Prod.fst ∨ k ∈ G.map Prod.fst
  | [], L, W, O => ⟨L, [], [], by simp [grantQ], by simp, by simp⟩
  | r :: R, L, W, O => by
    rw [grantQ_cons]
    split
    · obtain ⟨L', G, S, h1, h2, h3⟩ := grantQ_perm R L (W ++ [r]) O
      refine ⟨L', G, r :: S, by rw [h1]; simp, ?_, h3⟩
      exact (List.Perm.cons r h2).trans List.perm_middle.symm
    · obtain ⟨L', G, S, h1, h2, h3⟩ := grantQ_perm R (aput L r.1 (hasM L r.1 ||| bitM r.2)) W (O ++ [r.1])
      refine ⟨L', r :: G, S, by rw [h1]; simp, List.Perm.cons r h2, fun k => ?_⟩
      rw [h3, keys_aput]
      split
      · rename_i hm
        constructor
        · rintro (g | g)
          · exact Or.inl g
          · exact Or.inr (by simp [g])
        · rintro (g | g)
          · exact Or.inl g
          · rw [List.map_cons, List.mem_cons] at g
            rcases g with rfl | g
            · exact Or.inl hm
            · exact Or.inr g
      · simp only [List.mem_append, List.map_cons, List.mem_cons, List.not_mem_nil, or_false, or_assoc]
theorem hasM_pos {L : List (Int × Nat)} (hL : ∀ p ∈ L, 0 < p.2) (k : Int) : hasM L k = 0 ↔ k ∉ L.map Prod.fst := by
  unfold hasM
  cases hf : afind L k with
  | none => simp; exact fun x hx => (afind_none L k).1 hf (List.mem_map.2 ⟨_, hx, rfl⟩)
  | some v =>
    have h1 := hL _ (afind_mem hf)
    simp only [Option.getD_some]
    constructor
    · intro e; simp only at h1; omega
    · intro e; exact absurd (List.mem_map.2 ⟨_, afind_mem hf, rfl⟩) e
theorem keys_adel {K V : Type} [DecidableEq K] {T : List (K × V)} (hn : (T.map Prod.fst).Nodup) (k j : K) : j ∈ (adel T k).map Prod.fst ↔ j ∈ T.map Prod.fst ∧ j ≠ k := by
  have h1 := afind_adel hn k j
  have h2 := afind_none (adel T k) j
  have h3 := afind_none T j
  rw [h1] at h2
  by_cases e : j = k
  · rw [if_pos e] at h2
    constructor
    · intro g; exact absurd g (h2.1 rfl)
    · intro g; exact absurd e g.2
  · rw [if_neg e] at h2
    constructor
    · intro g
      refine ⟨Classical.byContradiction fun hn => ?_, e⟩
      exact (h2.1 (h3.2 hn)) g
    · intro g
      refine Classical.byContradiction fun hn => ?_
      exact (h3.1 (h2.2 hn)) g.1
def wk (T : TM) (n : ByteArray) : List Int := (waitT T n).map Prod.fst
def hk (T : TM) (n : ByteArray) : List Int := (hasT T n).map Prod.fst
/-- One name, when a holder goes. -/
theorem relOne {T : TM} (hT : TOk T) (k : Int) (O : List Int) (n : ByteArray) : ∃ (G S : List (Int × Int)),
    (relStep k (T, O) n).2 = O ++ G.map Prod.fst ∧ ((waitT T n).filter fun r => r.1 != k).Perm (G ++ S) ∧ waitT (relStep k (T, O) n).1 n = S ∧
    (∀ j, j ∈ hk (relStep k (T, O) n).1 n ↔ (j ∈ hk T n ∧ j ≠ k) ∨ j ∈ G.map Prod.fst) ∧ ∀ n', n' ≠ n → afind (relStep k (T, O) n).1 n' = afind T n' := by
  unfold relStep
  cases hf : afind T n with
  | none =>
    have hw : waitT T n = [] := by unfold waitT; rw [hf]
    have hh : hk T n = [] := by unfold hk hasT; rw [hf]; rfl
    refine ⟨[], [], by simp, by rw [hw]; simp, hw, fun j => by simp only; rw [hh]; simp, fun n' _ => rfl⟩
  | some q =>
    have hw : waitT T n = q.waits := by unfold waitT; rw [hf]
    have hh : hk T n = q.has.map Prod.fst := by unfold hk hasT; rw [hf]
    have hq := (hT.q n q hf).1
    simp only
    split
    · rename_i hs
      have hno : k ∉ hk T n := by rw [hh]; exact (hasM_pos (fun p hp => (hq.set p hp).1) k).1 hs.1
      refine ⟨[], q.waits, by simp, ?_, hw, fun j => ?_, fun n' _ => rfl⟩
      · rw [hw, List.filter_eq_self.2 fun r hr => by simpa using hs.2 r hr]
        simp
      · constructor
        · intro g
          exact Or.inl ⟨g, fun e => hno (e ▸ g)⟩
        · rintro (g | g)
          · exact g.1
          · cases g
    · obtain ⟨L', G, S, h1, h2, h3⟩ := grantQ_perm (q.waits.filter fun r => r.1 != k) (adel q.has k) [] []
      have h4 : ∀ j, j ∈ L'.map Prod.fst ↔ (j ∈ hk T n ∧ j ≠ k) ∨ j ∈ G.map Prod.fst := fun j => by rw [h3, keys_adel hq.nd, hh]
      rw [h1]
      simp only [List.nil_append]
      refine ⟨G, S, rfl, by rw [hw]; exact h2, ?_, ?_, fun n' hn' => ?_⟩
      · split
        · rename_i he
          unfold waitT
          rw [afind_adel hT.nd, if_pos rfl, he.2]
        · unfold waitT
          rw [afind_aput, if_pos rfl]
      · split
        · rename_i he
          intro j
          rw [← h4, he.1]
          unfold hk hasT
          rw [afind_adel hT.nd, if_pos rfl]
        · intro j
          rw [← h4]
          unfold hk hasT
          rw [afind_aput, if_pos rfl]
      · split
        · rw [afind_adel hT.nd, if_neg hn']
        · rw [afind_aput, if_neg hn']
theorem wk_eq {T T' : TM} {n : ByteArray} (h : afind T' n = afind T n) : wk T' n = wk T n ∧ hk T' n = hk T n ∧ waitT T' n = waitT T n := by
  unfold wk hk waitT hasT
  rw [h]
  exact ⟨rfl, rfl, rfl⟩
theorem wk_one {T : TM} (hT : TOk T) {n n' : ByteArray} {k : Int} (h1 : k ∈ wk T n) (h2 : k ∈ wk T n') : n = n' := by
  obtain ⟨r, hr, rfl⟩ := List.mem_map.1 h1
  obtain ⟨r', hr', he⟩ := List.mem_map.1 h2
  obtain ⟨q, a1, a2⟩ := wait_of hr
  obtain ⟨q', b1, b2⟩ := wait_of hr'
  exact hT.one n n' q q' r r' a1 b1 a2 b2 he.symm
/-- All names of a list, when a holder goes. -/
theorem relFold (k : Int) : ∀ (N : List ByteArray), N.Nodup → ∀ (T : TM) (O : List Int), TOk T → ∃ gs : List Int, (N.foldl (relStep k) (T, O)).2 = O ++ gs ∧ gs.Nodup ∧
    (∀ n, n ∉ N → afind (N.foldl (relStep k) (T, O)).1 n = afind T n) ∧ (∀ n ∈ N, k ∉ wk (N.foldl (relStep k) (T, O)).1 n ∧ k ∉ hk (N.foldl (relStep k) (T, O)).1 n) ∧
    (∀ j ∈ gs, j ≠ k ∧ ∃ n ∈ N, j ∈ wk T n) ∧ (∀ n j, j ∈ wk (N.foldl (relStep k) (T, O)).1 n → j ∈ wk T n ∧ j ∉ gs) ∧
    (∀ n ∈ N, ∀ j ∈ wk T n, j = k ∨ j ∈ gs ∨ j ∈ wk (N.foldl (relStep k) (T, O)).1 n) ∧ (∀ n j, j ∈ hk (N.foldl (relStep k) (T, O)).1 n → j ∈ hk T n ∨ j ∈ gs)
  | [], _, T, O, hT => ⟨[], by simp, by simp, fun n _ => rfl, by simp, by simp, fun n j hj => ⟨hj, by simp⟩, by simp, fun n j hj => Or.inl hj⟩
  | n :: N, hN, T, O, hT => by
    rw [List.nodup_cons] at hN
    obtain ⟨G, S, a1, a2, a3, a4, a5⟩ := relOne hT k O n
    have hT1 := (relStep_ok hT k O n).1
    obtain ⟨gs, b1, b2, b3, b4, b5, b6, b7, b8⟩ := relFold k N hN.2 (relStep k (T, O) n).1 (relStep k (T, O) n).2 hT1
    rw [List.foldl_cons]
    have heta : ((relStep k (T, O) n).1, (relStep k (T, O) n).2) = relStep k (T, O) n := rfl
    rw [heta] at b1 b3 b4 b6 b7 b8
    have hnd : (((waitT T n).filter fun r => r.1 != k).map Prod.fst).Nodup := (has_ok hT n).once.sublist (List.filter_sublist.map _)
    have hnd2 : ((G ++ S).map Prod.fst).Nodup := (a2.map _).nodup_iff.1 hnd
    rw [List.map_append, List.nodup_append] at hnd2
    have hGS : ∀ j, j ∈ G.map Prod.fst → j ∉ S.map Prod.fst := fun j h1 h2 => hnd2.2.2 j h1 j h2 rfl
    have hfil : ∀ j, (j ∈ G.map Prod.fst ∨ j ∈ S.map Prod.fst) ↔ j ∈ wk T n ∧ j ≠ k := by
      intro j
      rw [← List.mem_append, ← List.map_append, ← (a2.map Prod.fst).mem_iff]
      unfold wk
      constructor
      · intro h
        obtain ⟨r, hr, rfl⟩ := List.mem_map.1 h
        rw [List.mem_filter] at hr
        exact ⟨List.mem_map.2 ⟨r, hr.1, rfl⟩, by simpa using hr.2⟩
      · rintro ⟨h1, h2⟩
        obtain ⟨r, hr, rfl⟩ := List.mem_map.1 h1
        exact List.mem_map.2 ⟨r, List.mem_filter.2 ⟨hr, by simpa using h2⟩, rfl⟩
    have hwS : wk (relStep k (T, O) n).1 n = S.map Prod.fst := by unfold wk; rw [a3]
    have hGw : ∀ j, j ∈ G.map Prod.fst → j ∈ wk T n ∧ j ≠ k := fun j h => (hfil j).1 (Or.inl h)
    refine ⟨G.map Prod.fst ++ gs, by rw [b1, a1, List.append_assoc], ?_, ?_, ?_, ?_, ?_, ?_, ?_⟩
    · rw [List.nodup_append]
      refine ⟨hnd2.1, b2, fun x hx y hy e => ?_⟩
      subst e
      obtain ⟨_, n', hn', hw⟩ := b5 x hy
      have hne : n' ≠ n := fun e => hN.1 (e ▸ hn')
      rw [(wk_eq (a5 n' hne)).1] at hw
      exact hne (wk_one hT hw (hGw x hx).1)
    · intro n' hn'
      rw [List.mem_cons, not_or] at hn'
      rw [b3 n' hn'.2, a5 n' hn'.1]
    · intro n' hn'
      rcases List.mem_cons.1 hn' with rfl | hn'
      · have := wk_eq (b3 n' hN.1)
        rw [this.1, this.2.1, hwS]
        refine ⟨fun h => ((hfil k).1 (Or.inr h)).2 rfl, fun h => ?_⟩
        rcases (a4 k).1 h with g | g
        · exact g.2 rfl
        · exact (hGw k g).2 rfl
      · exact b4 n' hn'
    · intro j hj
      rcases List.mem_append.1 hj with g | g
      · exact ⟨(hGw j g).2, n, by simp, (hGw j g).1⟩
      · obtain ⟨c1, n', c2, c3⟩ := b5 j g
        have hne : n' ≠ n := fun e => hN.1 (e ▸ c2)
        rw [(wk_eq (a5 n' hne)).1] at c3
        exact ⟨c1, n', List.mem_cons_of_mem _ c2, c3⟩
    · intro n' j hj
      obtain ⟨c1, c2⟩ := b6 n' j hj
      by_cases hne : n' = n
      · subst hne
        rw [hwS] at c1
        refine ⟨((hfil j).1 (Or.inr c1)).1, fun hm => ?_⟩
        rcases List.mem_append.1 hm with g | g
        · exact hGS j g c1
        · exact c2 g
      · rw [(wk_eq (a5 n' hne)).1] at c1
        refine ⟨c1, fun hm => ?_⟩
        rcases List.mem_append.1 hm with g | g
        · exact hne (wk_one hT c1 (hGw j g).1)
        · exact c2 g
    · intro n' hn' j hj
      rcases List.mem_cons.1 hn' with rfl | hn'
      · by_cases e : j = k
        · exact Or.inl e
        · rcases (hfil j).2 ⟨hj, e⟩ with g | g
          · exact Or.inr (Or.inl (List.mem_append_left _ g))
          · refine Or.inr (Or.inr ?_)
            rw [(wk_eq (b3 n' hN.1)).1, hwS]
            exact g
      · have hne : n' ≠ n := fun e => hN.1 (e ▸ hn')
        rcases b7 n' hn' j (by rw [(wk_eq (a5 n' hne)).1]; exact hj) with g | g | g
        · exact Or.inl g
        · exact Or.inr (Or.inl (List.mem_append_right _ g))
        · exact Or.inr (Or.inr g)
    · intro n' j hj
      rcases b8 n' j hj with g | g
      · by_cases hne : n' = n
        · subst hne
          rcases (a4 j).1 g with q | q
          · exact Or.inl q.1
          · exact Or.inr (List.mem_append_left _ q)
        · rw [(wk_eq (a5 n' hne)).2.1] at g
          exact Or.inl g
      · exact Or.inr (List.mem_append_right _ g)
theorem wk_mem {T : TM} {n : ByteArray} {j : Int} (h : j ∈ wk T n ∨ j ∈ hk T n) : n ∈ namesT T := by
  unfold namesT
  rw [sortS_mem]
  refine Classical.byContradiction fun hn => ?_
  have := (afind_none T n).2 hn
  unfold wk hk waitT hasT at h
  rw [this] at h
  simp at h
theorem names_nodup {T : TM} (hT : TOk T) : (namesT T).Nodup := sortS_nodup hT.nd
/-- Who waits, waits for one name. -/
theorem waits_iff {T : TM} (hT : TOk T) (j : Int) : (waitsT T j).isSome = true ↔ ∃ n, j ∈ wk T n := by
  constructor
  · intro h
    cases hw : waitsT T j with
    | none => rw [hw] at h; cases h
    | some x =>
      obtain ⟨n, m⟩ := x
      obtain ⟨q, h1, h2⟩ := waitsT_some hw
      refine ⟨n, ?_⟩
      unfold wk waitT
      rw [afind_of_mem hT.nd h1]
      exact List.mem_map.2 ⟨_, h2, rfl⟩
  · rintro ⟨n, hn⟩
    obtain ⟨r, hr, rfl⟩ := List.mem_map.1 hn
    obtain ⟨q, h1, h2⟩ := wait_of hr
    rw [waitsT_of hT (m := r.2) h1 h2]
    rfl
/-- A holder goes. -/
theorem release_facts {T : TM} (hT : TOk T) (k : Int) : (releaseT T k).2.Nodup ∧ (∀ j ∈ (releaseT T k).2, j ≠ k ∧ (waitsT T j).isSome = true) ∧
    (∀ j, (waitsT (releaseT T k).1 j).isSome = ((waitsT T j).isSome && decide (j ∉ (releaseT T k).2) && decide (j ≠ k))) ∧ (∀ n, k ∉ wk (releaseT T k).1 n ∧ k ∉ hk (releaseT T k).1 n) ∧
    (∀ n j, j ∈ wk (releaseT T k).1 n ∨ j ∈ hk (releaseT T k).1 n → ∃ n', j ∈ wk T n' ∨ j ∈ hk T n') := by
  obtain ⟨gs, b1, b2, b3, b4, b5, b6, b7, b8⟩ := relFold k (namesT T) (names_nodup hT) T [] hT
  have hgs : (releaseT T k).2 = gs := by unfold releaseT; rw [b1]; rfl
  have hT1 := (releaseT_ok hT k).1
  have hall : ∀ n, k ∉ wk (releaseT T k).1 n ∧ k ∉ hk (releaseT T k).1 n := fun n => by
    by_cases hn : n ∈ namesT T
    · exact b4 n hn
    · have := wk_eq (b3 n hn)
      unfold releaseT
      rw [this.1, this.2.1]
      exact ⟨fun h => hn (wk_mem (Or.inl h)), fun h => hn (wk_mem (Or.inr h))⟩
  rw [hgs]
  refine ⟨b2, fun j hj => ?_, fun j => ?_, hall, fun n j hj => ?_⟩
  · obtain ⟨c1, n, _, c2⟩ := b5 j hj
    exact ⟨c1, (waits_iff hT j).2 ⟨n, c2⟩⟩
  · rw [Bool.eq_iff_iff, waits_iff hT1, Bool.and_eq_true, Bool.and_eq_true, waits_iff hT, decide_eq_true_eq, decide_eq_true_eq]
    constructor
    · rintro ⟨n, hn⟩
      obtain ⟨c1, c2⟩ := b6 n j hn
      exact ⟨⟨⟨n, c1⟩, c2⟩, fun e => (hall n).1 (e ▸ hn)⟩
    · rintro ⟨⟨⟨n, c1⟩, c2⟩, c3⟩
      rcases b7 n (wk_mem (Or.inl c1)) j c1 with g | g | g
      · exact absurd g c3
      · exact absurd g c2
      · exact ⟨n, g⟩
  · rcases hj with hj | hj
    · exact ⟨n, Or.inl (b6 n j hj).1⟩
    · rcases b8 n j hj with g | g
      · exact ⟨n, Or.inr g⟩
      · obtain ⟨_, n', _, c⟩ := b5 j g
        exact ⟨n', Or.inl c⟩
/-- A mode is taken: nobody new but who takes. -/
theorem take_facts {T : TM} (k : Int) (n : ByteArray) (m : Int) (n' : ByteArray) (j : Int) (h : j ∈ wk (takeT T k n m).1 n' ∨ j ∈ hk (takeT T k n m).1 n') : j = k ∨ j ∈ wk T n' ∨ j ∈ hk T n' := by
  have hput : ∀ q, q.waits = waitT T n ∨ q.waits = waitT T n ++ [(k, m)] → (∀ j, j ∈ q.has.map Prod.fst → j = k ∨ j ∈ hk T n) → (j ∈ wk (aput T n q) n' ∨ j ∈ hk (aput T n q) n') → j = k ∨ j ∈ wk T n' ∨ j ∈ hk T n' := by
    intro q h1 h2 h
    by_cases e : n' = n
    · subst e
      unfold wk hk waitT hasT at h
      rw [afind_aput, if_pos rfl] at h
      simp only at h
      rcases h with h | h
      · rcases h1 with h1 | h1
        · rw [h1] at h; exact Or.inr (Or.inl h)
        · rw [h1, List.map_append, List.mem_append] at h
          rcases h with h | h
          · exact Or.inr (Or.inl h)
          · simp at h; exact Or.inl h
      · rcases h2 j h with g | g
        · exact Or.inl g
        · exact Or.inr (Or.inr g)
    · have := wk_eq (T := T) (T' := aput T n q) (n := n') (by rw [afind_aput, if_neg e])
      rw [this.1, this.2.1] at h
      exact Or.inr h
  unfold takeT at h
  split at h
  · exact Or.inr h
  · split at h
    · exact Or.inr h
    · split at h
      · exact Or.inr h
      · split at h
        · exact hput ⟨hasT T n, waitT T n ++ [(k, m)]⟩ (Or.inr rfl) (fun j hj => Or.inr hj) h
        · refine hput _ (Or.inl rfl) (fun j hj => ?_) h
          simp only at hj
          rw [keys_aput] at hj
          split at hj
          · exact Or.inr hj
          · rw [List.mem_append, List.mem_singleton] at hj
            exact hj.symm
theorem nobody {T : TM} (hT : TOk T) (h : ∀ n j, ¬ (j ∈ wk T n ∨ j ∈ hk T n)) : T = [] := by
  rcases T with _ | ⟨⟨n, q⟩, T⟩
  · rfl
  · exfalso
    have hf : afind ((n, q) :: T) n = some q := by simp [afind]
    rcases (hT.q n q hf).2.1 with g | g
    · obtain ⟨p, hp⟩ := List.exists_mem_of_ne_nil _ g
      refine h n p.1 (Or.inr ?_)
      unfold hk hasT
      rw [hf]
      exact List.mem_map.2 ⟨p, hp, rfl⟩
    · obtain ⟨p, hp⟩ := List.exists_mem_of_ne_nil _ g
      refine h n p.1 (Or.inl ?_)
      unfold wk waitT
      rw [hf]
      exact List.mem_map.2 ⟨p, hp, rfl⟩
end Go.Lift

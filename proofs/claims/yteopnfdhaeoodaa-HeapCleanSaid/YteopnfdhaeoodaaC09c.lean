/- Versions of rows: what is asked of them. -/
import Derived.Test.YteopnfdhaeoodaaC09b
set_option linter.unusedSimpArgs false
set_option linter.unusedVariables false
namespace Go.Lift
open Go Go.Proofs
set_option maxRecDepth 100000

section
variable {h : Hp} {p r m : Nat} {L : LogM} {R : RelM} {Q : List Value → Hp → Prop}
theorem ended_s (hl : IsLog h p L) {a b : Int} {s : Sl} {t : Tup} (ht : t.xmax = b) (hQ : ∀ h', Ext [] h h' → Q [.bool (endedM L t)] h') : S_heap_ended (some ⟨p, 0, none⟩) a b s h Q := by
  refine O_heap_ended _ _ _ _ ?_
  unfold F_heap_ended
  subst ht
  unfold endedM at hQ
  simp only [wthE, addr_mk, rd_push, Nat.zero_add, List.getElem?_toArray, List.getElem?_cons_succ, List.getElem?_cons_zero, Option.some.injEq, Value.int.injEq, true_and, exists_eq_left']
  split
  · rename_i e
    refine State_s (hl.ext (Ext.push [] _ _) (by simp)) fun h' he => ⟨_, rfl, ?_⟩
    have := hQ h' he.ofPush
    simpa [e] using this
  · rename_i e
    have := hQ _ (Ext.push [] h (Obj.cells #[(Value.int .i64 a), (Value.int .i64 t.xmax), (Value.slice s.a s.n s.c)] T_api_Tuple))
    simpa [e] using this
theorem Sees_s (hl : IsLog h p L) (hr : IsRel h r m R) {x t : Int} (hQ : ∀ h', Ext [] h h' → Q [.bool (R.sees L x t)] h') : S_heap_Rel_Sees (some ⟨r, 0, none⟩) (some ⟨p, 0, none⟩) x t h Q := by
  refine O_heap_Rel_Sees _ _ _ _ ?_
  unfold F_heap_Rel_Sees
  refine rget_s hr fun h2 s e2 hs hn => ⟨_, _, s, _, rfl, ?_⟩
  unfold RelM.sees at hQ
  refine varI rfl rfl fun h3 s3 b3 e3 => ?_
  have e3 := e2.trans0 e3
  have l3 := hl.ext e3 (by simp)
  simp [-Bool.exists_bool, rd_blk b3]
  split
  · rename_i g
    refine LSees_s l3 ⟨_, rfl, ?_⟩
    split
    · rename_i g2
      simp [-Bool.exists_bool, rd_blk b3]
      refine ended_s l3 (t := R.get t) rfl fun h4 e4 => ⟨_, rfl, ?_⟩
      have l4 := l3.ext e4 (by simp)
      have b4 := e4.get b3 (by simp)
      have hq := hQ h4 (e3.trans0 e4)
      simp [-Bool.exists_bool, rd_blk b4]
      split
      · rename_i g3
        refine LSees_s l4 ⟨_, rfl, ?_⟩
        simpa [g, g2, g3] using hq
      · rename_i g3
        simpa [g, g2, g3] using hq
    · rename_i g2
      have hq := hQ _ e3
      simpa [g, g2] using hq
  · rename_i g
    have hq := hQ _ e3
    simpa [g] using hq
theorem May_s (hl : IsLog h p L) (hr : IsRel h r m R) {x t : Int} (hQ : ∀ h', Ext [] h h' → Q [.int .i64 (R.may L x t).1, .int .i64 (R.may L x t).2] h') : S_heap_Rel_May (some ⟨r, 0, none⟩) (some ⟨p, 0, none⟩) x t h Q := by
  refine O_heap_Rel_May _ _ _ _ ?_
  unfold F_heap_Rel_May
  simp only [Option.isNone_some, Bool.false_eq_true, if_false]
  refine rget_s hr fun h2 s e2 hs hn => ⟨_, _, s, _, rfl, ?_⟩
  unfold RelM.may at hQ
  refine varI rfl rfl fun h3 s3 b3 e3 => ?_
  have e3 := e2.trans0 e3
  have l3 := hl.ext e3 (by simp)
  intro J hJ
  cases g : (R.find t).isSome with
  | false =>
    rw [if_pos (by decide)]
    refine hJ _ _ ?_
    have hq := hQ _ e3
    simpa [g] using hq
  | true =>
    rw [if_neg (by decide)]
    refine ⟨_, by simp [rd_blk b3]; rfl, ?_⟩
    refine LSees_s l3 ⟨_, rfl, ?_⟩
    refine hJ _ _ ?_
    cases g2 : L.sees x (R.get t).xmin with
    | true =>
      rw [if_neg (by decide)]
      refine ⟨_, by simp [rd_blk b3]; rfl, _, by simp [rd_blk b3]; rfl, s, by simp [rd_blk b3], ?_⟩
      refine ended_s l3 (t := R.get t) rfl fun h4 e4 => ⟨_, rfl, ?_⟩
      have l4 := l3.ext e4 (by simp)
      have b4 := e4.get b3 (by simp)
      have e5 := e3.trans0 e4
      have hq := hQ h4 e5
      cases g3 : endedM L (R.get t) with
      | false =>
        rw [if_pos (by decide)]
        simpa [g, g2, g3] using hq
      | true =>
        rw [if_neg (by decide)]
        refine ⟨_, by simp [rd_blk b4]; rfl, ?_⟩
        refine LSees_s l4 ⟨_, rfl, ?_⟩
        cases g4 : L.sees x (R.get t).xmax with
        | true =>
          rw [if_pos (by decide)]
          simpa [g, g2, g3, g4] using hq
        | false =>
          rw [if_neg (by decide)]
          refine ⟨_, by simp [rd_blk b4]; rfl, ?_⟩
          refine State_s l4 fun h5 e6 => ⟨_, rfl, ?_⟩
          have b5 := e6.get b4 (by simp)
          have hq := hQ h5 (e5.trans0 e6)
          split
          · rename_i g6
            refine ⟨_, by simp [rd_blk b5]; rfl, ?_⟩
            have g6 := eq_of_beq g6
            simpa [g, g2, g3, g4, g6] using hq
          · rename_i g6
            refine ⟨_, by simp [rd_blk b5]; rfl, ?_⟩
            have g6 : (L.at (R.get t).xmax).st ≠ 1 := by intro e; rw [e] at g6; exact g6 rfl
            simpa [g, g2, g3, g4, g6] using hq
    | false =>
      rw [if_pos (by decide)]
      have hq := hQ _ e3
      simpa [g, g2] using hq
abbrev IntsAt (h : Hp) (s : Sl) (xs : List Int) : Prop := SlOf T_int 1 (fun n => [Value.int .i64 n]) h s xs
theorem ints_one (h : Hp) (n : Int) : IntsAt (h.push (Obj.cells #[Value.int .i64 n] T_int)) ⟨some ⟨h.size, 0, none⟩, 1, 1⟩ [n] := by
  refine ⟨rfl, fun e => (by cases e), fun a ha => ?_⟩
  cases ha
  exact ⟨_, 0, _, _, rfl, push_get _ _, by simp, by simp⟩
theorem Unseen_s (hl : IsLog h p L) (hr : IsRel h r m R) {x t : Int} (hQ : ∀ h' s, Ext [] h h' → IntsAt h' s (R.unseen L x t) → Q [.slice s.a s.n s.c] h') : S_heap_Rel_Unseen (some ⟨r, 0, none⟩) (some ⟨p, 0, none⟩) x t h Q := by
  refine O_heap_Rel_Unseen _ _ _ _ ?_
  unfold F_heap_Rel_Unseen
  refine rget_s hr fun h2 s e2 hs hn => ⟨_, _, s, _, rfl, ?_⟩
  unfold RelM.unseen at hQ
  refine varI rfl rfl fun h3 s3 b3 e3 => ?_
  have e3 := e2.trans0 e3
  have l3 := hl.ext e3 (by simp)
  intro J9 hJ9
  cases g : (R.find t).isSome with
  | false =>
    rw [if_pos (by decide)]
    refine hQ _ ⟨none, 0, 0⟩ e3 ?_
    simp only [g, Bool.false_eq_true, if_false]
    exact SlOf.nil _ _
  | true =>
    rw [if_neg (by decide)]
    refine ⟨_, by simp [rd_blk b3]; rfl, ?_⟩
    refine LSees_s l3 ⟨_, rfl, ?_⟩
    cases g2 : L.sees x (R.get t).xmin with
    | true =>
      simp only [g, g2, if_true] at hQ
      rw [if_neg (by decide)]
      intro J hJ
      refine ⟨_, by simp [rd_blk b3]; rfl, _, by simp [rd_blk b3]; rfl, s, by simp [rd_blk b3], ?_⟩
      refine ended_s l3 (t := R.get t) rfl fun h4 e4 => ⟨_, rfl, ?_⟩
      have l4 := l3.ext e4 (by simp)
      have b4 := e4.get b3 (by simp)
      have e5 := e3.trans0 e4
      cases g3 : endedM L (R.get t) with
      | true =>
        rw [if_pos (by decide)]
        refine ⟨_, by simp [rd_blk b4]; rfl, ?_⟩
        refine LSees_s l4 ⟨_, rfl, ?_⟩
        refine hJ _ _ ?_
        cases g4 : L.sees x (R.get t).xmax with
        | true =>
          rw [if_neg (by decide)]
          refine hJ9 _ (hQ _ ⟨none, 0, 0⟩ e5 ?_)
          simp only [g3, g4]
          exact SlOf.nil _ _
        | false =>
          rw [if_pos (by decide)]
          refine ⟨_, by simp [rd_blk b4]; rfl, ?_⟩
          refine hQ _ ⟨some ⟨h4.size, 0, none⟩, 1, 1⟩ (e5.pushR _) ?_
          rw [if_pos ⟨g3, g4⟩]
          exact ints_one _ _
      | false =>
        rw [if_neg (by decide)]
        refine hJ _ _ ?_
        rw [if_neg (by decide)]
        refine hJ9 _ (hQ _ ⟨none, 0, 0⟩ e5 ?_)
        rw [if_neg (by simp [g3])]
        exact SlOf.nil _ _
    | false =>
      simp only [g, g2, if_true, Bool.false_eq_true, if_false] at hQ
      rw [if_pos (by decide)]
      refine ⟨_, by simp [rd_blk b3]; rfl, ?_⟩
      refine State_s l3 fun h5 e6 => ⟨_, rfl, ?_⟩
      have b5 := e6.get b3 (by simp)
      have e7 := e3.trans0 e6
      split
      · rename_i g3
        rw [if_neg (by simpa using g3)] at hQ
        refine ⟨_, by simp [rd_blk b5]; rfl, ?_⟩
        exact hQ _ ⟨some ⟨h5.size, 0, none⟩, 1, 1⟩ (e7.pushR _) (ints_one _ _)
      · rename_i g3
        rw [if_pos (by simpa using g3)] at hQ
        exact hJ9 _ (hQ _ ⟨none, 0, 0⟩ e7 (SlOf.nil _ _))
end
end Go.Lift

/- A relation that nobody made. -/
import Derived.Test.YteopnfdhaeoodaaC09e
set_option linter.unusedSimpArgs false
set_option linter.unusedVariables false
namespace Go.Lift
open Go Go.Proofs
set_option maxRecDepth 100000
section
variable {h : Hp} {p : Nat} {L : LogM} {Q : List Value → Hp → Prop}
theorem InsertN_s {x : Int} {s : Sl} (hQ : Q [.int .i64 0, .int .i64 1] h) : S_heap_Rel_Insert none x s h Q := by
  refine O_heap_Rel_Insert _ _ _ ?_
  unfold F_heap_Rel_Insert
  intro J1 hJ1
  rw [if_pos (by decide)]
  refine hJ1 _ _ ?_
  rw [if_pos (by decide)]
  exact hQ
theorem DeleteN_s {x t : Int} (hQ : Q [.int .i64 1] h) : S_heap_Rel_Delete none x t h Q := by
  refine O_heap_Rel_Delete _ _ _ ?_
  unfold F_heap_Rel_Delete
  intro J1 hJ1
  rw [if_pos (by decide)]
  refine hJ1 _ _ ?_
  rw [if_pos (by decide)]
  exact hQ
theorem rgetN_s {t : Int} (hQ : ∀ h', Ext [] h h' → Q [.agg #[.int .i64 0, .int .i64 0, .slice none 0 0], .bool false] h') : S_heap_Rel_get none t h Q := by
  refine O_heap_Rel_get _ _ ?_
  unfold F_heap_Rel_get
  simp only [wthE, Option.isNone_none, if_true]
  simp [-Array.size_push]
  exact hQ _ (Ext.push _ _ _)
theorem CloneN_s (hQ : Q [.slice none 0 0] h) : S_slices_Clone_sapi_Value_api_Value ⟨none, 0, 0⟩ h Q := by
  refine O_slices_Clone_sapi_Value_api_Value _ ?_
  unfold F_slices_Clone_sapi_Value_api_Value
  rw [if_pos (by decide)]
  exact hQ
theorem GetN_s {t : Int} (hQ : ∀ h', Ext [] h h' → Q [.agg #[.int .i64 0, .int .i64 0, .slice none 0 0], .bool false] h') : S_heap_Rel_Get none t h Q := by
  refine O_heap_Rel_Get _ _ ?_
  unfold F_heap_Rel_Get
  refine newI fun h1 s1 b1 e1 => ?_
  refine rgetN_s fun h2 e2 => ⟨_, _, ⟨none, 0, 0⟩, _, rfl, ?_⟩
  refine varI rfl rfl fun h3 s3 b3 e3 => ?_
  refine ⟨⟨none, 0, 0⟩, by simp [rd_blk b3], ?_⟩
  refine CloneN_s ⟨⟨none, 0, 0⟩, rfl, ?_⟩
  have c3 := e3.get (e2.get b1 (by simp)) (by simp)
  have lt1 : h.size < h2.size := by have := e2.sz; omega
  simp only [addr_mk]
  refine st_blk b3 (by simp) fun h5 s5 b5 e5 => ?_
  have c5 := e5.get c3 (by simp; omega)
  refine ⟨_, by simp [rd_blk b5]; rfl, _, by simp [rd_blk b5]; rfl, ⟨none, 0, 0⟩, by simp [rd_blk b5], ?_⟩
  refine st_blk c5 (by simp) fun h6 s6 b6 e6 => ?_
  refine ⟨_, by simp [rd_blk b6]; rfl, _, by simp [rd_blk b6]; rfl, ⟨none, 0, 0⟩, by simp [rd_blk b6], ?_⟩
  exact hQ h6 ((((e1.trans0 e2).trans0 e3).trans e5 (by intro b hb hlt; simp at hb; omega)).trans e6 (by intro b hb hlt; simp at hb; omega))
theorem SeesN_s {x t : Int} {q : Option Addr} (hQ : ∀ h', Ext [] h h' → Q [.bool false] h') : S_heap_Rel_Sees none q x t h Q := by
  refine O_heap_Rel_Sees _ _ _ _ ?_
  unfold F_heap_Rel_Sees
  refine rgetN_s fun h2 e2 => ⟨_, _, ⟨none, 0, 0⟩, _, rfl, ?_⟩
  refine varI rfl rfl fun h3 s3 b3 e3 => ?_
  exact hQ _ (e2.trans0 e3)
theorem MayN_s {x t : Int} {q : Option Addr} (hQ : Q [.int .i64 1, .int .i64 0] h) : S_heap_Rel_May none q x t h Q := by
  refine O_heap_Rel_May _ _ _ _ ?_
  unfold F_heap_Rel_May
  rw [if_pos (by decide)]
  exact hQ
theorem UnseenN_s {x t : Int} {q : Option Addr} (hQ : ∀ h', Ext [] h h' → Q [.slice none 0 0] h') : S_heap_Rel_Unseen none q x t h Q := by
  refine O_heap_Rel_Unseen _ _ _ _ ?_
  unfold F_heap_Rel_Unseen
  refine rgetN_s fun h2 e2 => ⟨_, _, ⟨none, 0, 0⟩, _, rfl, ?_⟩
  refine varI rfl rfl fun h3 s3 b3 e3 => ?_
  intro J9 hJ9
  exact hQ _ (e2.trans0 e3)
theorem AllN_s (hQ : Q [.slice none 0 0] h) : S_heap_Rel_All none h Q := by
  refine O_heap_Rel_All _ ?_
  unfold F_heap_Rel_All
  rw [if_pos (by decide)]
  exact hQ
theorem VisibleN_s {x : Int} {q : Option Addr} (hQ : ∀ h', Ext [] h h' → Q [.slice none 0 0] h') : S_heap_Rel_Visible none q x h Q := by
  refine O_heap_Rel_Visible _ _ _ ?_
  unfold F_heap_Rel_Visible
  refine newI fun h1 s1 b1 e1 => newI fun h2 s2 b2 e2 => newI fun h3 s3 b3 e3 => ?_
  refine ⟨none, by rw [rd_blk (e3.get (e2.get b1 (by simp)) (by simp))]; rfl, ?_⟩
  refine AllN_s ⟨⟨none, 0, 0⟩, rfl, ?_⟩
  refine O_slices_DeleteFunc_sint_int _ _ _ ?_
  unfold F_slices_DeleteFunc_sint_int
  refine O_slices_IndexFunc_sint_int _ _ _ ?_
  unfold F_slices_IndexFunc_sint_int
  intro X hX
  refine hX _ _ ?_
  rw [if_neg (by simp)]
  refine ⟨_, rfl, ?_⟩
  rw [if_pos (by decide)]
  exact ⟨⟨none, 0, 0⟩, rfl, hQ _ ((e1.trans0 e2).trans0 e3)⟩
theorem VacuumN_s {q : Option Addr} (hQ : Q [.slice none 0 0] h) : S_heap_Rel_Vacuum none q h Q := by
  refine O_heap_Rel_Vacuum _ _ ?_
  unfold F_heap_Rel_Vacuum
  refine AllN_s ⟨⟨none, 0, 0⟩, rfl, ?_⟩
  intro X hX
  refine hX ⟨none, 0, 0⟩ _ _ ?_
  rw [if_neg (by simp)]
  exact hQ
theorem CopyN_s {q : Option Addr} (hQ : Q [.pointer none] h) : S_heap_Rel_Copy none q h Q := by
  refine O_heap_Rel_Copy _ _ ?_
  unfold F_heap_Rel_Copy
  rw [if_pos (by decide)]
  exact hQ
theorem HeapNone_s {h0 : Hp} {x t : Int} (hQ : ∀ h', Ext [] h0 h' → Q [.bool true] h') : F_liverylaw09_HeapNone x t h0 Q := by
  unfold F_liverylaw09_HeapNone
  refine New_s fun h1 l1 e1 s1 => ⟨_, rfl, ?_⟩
  refine InsertN_s ⟨_, _, rfl, ?_⟩
  refine GetN_s fun h2 e2 => ⟨_, _, ⟨none, 0, 0⟩, _, rfl, ?_⟩
  refine varI rfl rfl fun h3 s3 b3 e3 => ?_
  refine MayN_s ⟨_, _, rfl, ?_⟩
  rw [if_pos (by decide), if_pos (by decide)]
  refine DeleteN_s ⟨_, rfl, ?_⟩
  rw [if_pos (by decide), if_pos (by decide)]
  refine SeesN_s fun h4 e4 => ⟨_, rfl, ?_⟩
  rw [if_pos (by decide), if_pos (by decide), if_pos (by decide)]
  refine UnseenN_s fun h5 e5 => ⟨⟨none, 0, 0⟩, rfl, ?_⟩
  rw [if_pos (by decide)]
  refine AllN_s ⟨⟨none, 0, 0⟩, rfl, ?_⟩
  rw [if_pos (by decide)]
  refine VisibleN_s fun h6 e6 => ⟨⟨none, 0, 0⟩, rfl, ?_⟩
  rw [if_pos (by decide)]
  refine VacuumN_s ⟨⟨none, 0, 0⟩, rfl, ?_⟩
  rw [if_pos (by decide)]
  refine CopyN_s ⟨_, rfl, ?_⟩
  rw [if_pos (by decide)]
  refine wakes_s fun h7 e7 => ⟨_, rfl, ?_⟩
  exact hQ _ ((((((e1.trans0 e2).trans0 e3).trans0 e4).trans0 e5).trans0 e6).trans0 e7)
end
end Go.Lift

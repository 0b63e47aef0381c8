/- What was read: copied, made rough, of an index. -/
import Derived.Test.YtgdiihffjogdiaaGreatDoorW13m
set_option linter.unusedSimpArgs false
set_option linter.unusedVariables false
namespace Go.Lift
open Go Go.Proofs Go.RowKit
set_option maxRecDepth 100000
section
variable {G : Nat → Prop} {h : Hp} {t m : Nat} {S : SM} {o : Int} {Q : List Value → Hp → Prop}
theorem copy1_s {b : Nat} (y x : ThingM) (hb : Blk h b (encT x).toArray T_siread_Thing) (hQ : ∀ h', Ext [] h h' → Q [.bool (decide (y = x))] h') : Fn PP 116 ((#[] ++ #[ekT y]) ++ #[.pointer (some ⟨b, 0, none⟩)]) h Q := by
  refine O_siread_Table_Copy_1 _ _ _ _ _ _ ?_
  delta F_siread_Table_Copy_1 rI rB rS rP rM rL vI vB vS vP vM vL vC vA ad nb gb wi bl bz tn isn sib pu oc
  refine newI fun h1 s1 b1 e1 => ?_
  have b1' : Blk h1 h.size (encT y).toArray T_siread_Thing := b1
  have hb1 := e1.get hb (by simp)
  refine rd5I b1' ?_
  refine rd5I hb1 ?_
  rw [beqT y x]
  exact hQ h1 e1
theorem Copy_s {N : Nat} (hS : Sv G h t S) (hok : SOk N S) (hN : N + 201 ≤ 2 ^ 20) (a b : ThingM) (hQ : ∀ h', Sv G h' t (copyS S a b) → KG G h h' → Q [] h') : S_siread_Table_Copy (some ⟨t, 0, none⟩) a.kind a.name a.rel a.index a.n b.kind b.name b.rel b.index b.n h Q := by
  refine O_siread_Table_Copy _ _ _ _ _ _ _ _ _ _ _ ?_
  delta F_siread_Table_Copy rI rB rS rP rM rL vI vB vS vP vM vL vC vA ad nb gb wi bl bz tn isn sib pu oc
  refine newI fun h1 s1 b1 e1 => ?_
  refine newI fun h2 s2 b2 e2 => ?_
  have e12 := e1.trans0 e2
  have b1' : Blk h2 h.size (encT a).toArray T_siread_Thing := e2.get b1 (by simp)
  have b2' : Blk h2 h1.size (encT b).toArray T_siread_Thing := b2
  rw [if_neg (by simp)]
  refine ownersV_s (hS.ext0 e12) hok (fun y => decide (y = a)) (fun y g K e hK => copy1_s y a (e.get b1' (by simp)) hK) fun h3 s e3 ho => ⟨s, rfl, ?_⟩
  have e13 := e12.trans0 e3
  have b3 := e3.get b2' (by simp)
  have hS3 := hS.more e13
  have hl := ownersS_len hok fun y => decide (y = a)
  have z3 := e3.sz
  have hGo : ∀ b ∈ sBlk s, GX G h h3 b := own_gx ho (by omega)
  have hGb : GX G h h3 h1.size := Or.inr ⟨by omega, by have := blk_lt b3; omega⟩
  have hn := ho.1
  intro X hX
  refine takes_s (l := ownersS S fun y => decide (y = a)) hS3 hok (by omega) (fun o ho => (ownersS_mem hok _ ho).1) b (fun g hSg hkg => ?_) fun i hi g hkg hst => ?_
  · refine hX _ _ ?_
    rw [if_neg (by simp [hn])]
    exact hQ g (hSg.anti gx_l) ((kg_ext0 e13 hS.1).trans (hkg.anti gx_l))
  · refine hX _ _ ?_
    rw [if_pos (by simp; omega)]
    obtain ⟨ad, ha, hrd⟩ := rdI (ho.kg hkg hGo).sl.reads hi
    rw [ha]
    simp only [nilW_some]
    refine ⟨by omega, by omega, ?_⟩
    rw [Int.toNat_natCast]
    refine ⟨_, hrd, ?_⟩
    refine rd5I (hkg.get b3 hGb) ?_
    exact hst
end
end Go.Lift

/- IndexNone: true, whatever the input. -/
import Derived.Test.YtmlcjckocgnjfaaDoorI11d
set_option linter.unusedSimpArgs false
set_option linter.unusedVariables false
namespace Go.Lift
open Go Go.Proofs Go.RowKit
set_option maxRecDepth 100000
section
variable {h : Hp} {Q : List Value → Hp → Prop}
theorem IndexNone_s (v : V4) (hv : VOk v) (t : Int) (hg : GM h) (hQ : ∀ h', Ext [] h h' → Q [.bool true] h') : F_liverylaw11_IndexNone v.k v.n v.f v.s t h Q := by
  unfold F_liverylaw11_IndexNone
  refine newI fun h1 s1 b1' e1 => ?_
  have b1 : Blk h1 h.size (cells4 v) T_api_Value := b1'
  refine rdV b1 ?_
  refine Large_i v fun h7 e7 => ⟨_, rfl, ?_⟩
  have e07 := e1.trans0 e7
  by_cases hL : ((v.s.size : Int) > 2000)
  · rw [if_pos (by simpa using hL)]
    exact wakes_i (hg.ext e07) fun h' e => ⟨_, rfl, hQ h' (e07.trans0 e)⟩
  · rw [if_neg (by simpa using hL)]
    have b7 := e7.get b1 (by simp)
    refine rdV b7 ?_
    refine AddN_i v t fun h17 e17 => ⟨_, _, _, _, rfl, ?_⟩
    have b17 := e17.get b7 (by simp)
    refine newI fun h22 s22 b22 e22 => ?_
    refine st_blk b22 (by simp) fun h23 s23 b23 e23 => ?_
    have e1723 : Ext [] h17 h23 := e22.trans e23 fun b hb hlt => by simp at hb; omega
    have b23v := e1723.get b17 (by simp)
    refine rdV b23v ?_
    refine DropN_i v t fun h29 e29 => ⟨_, _, _, _, rfl, ?_⟩
    have b29 := e29.get b23v (by simp)
    refine newI fun h34 s34 b34 e34 => ?_
    refine st_blk b34 (by simp) fun h35 s35 b35 e35 => ?_
    have e2935 : Ext [] h29 h35 := e34.trans e35 fun b hb hlt => by simp at hb; omega
    have b35v := e2935.get b29 (by simp)
    have e035 := (((e07.trans0 e17).trans0 e1723).trans0 e29).trans0 e2935
    refine rdV b35v ?_
    refine FindN_i v hv (hg.ext e035) fun h41 e41 => ⟨⟨none, 0, 0⟩, ⟨none, 0, 0⟩, rfl, ?_⟩
    have b41 := e41.get b35v (by simp)
    have e041 := e035.trans0 e41
    refine rdV b41 ?_
    refine rdV b41 ?_
    refine RangeN_i v v hv hv (hg.ext e041) fun h53 e53 => ⟨⟨none, 0, 0⟩, ⟨none, 0, 0⟩, rfl, ?_⟩
    have b53 := e53.get b41 (by simp)
    have e053 := e041.trans0 e53
    have m1 := e53.get (e41.get (e2935.get (e29.get b23 (by simp)) (by simp)) (by simp)) (by simp)
    have m2 := e53.get (e41.get b35 (by simp)) (by simp)
    rw [if_pos (by rfl)]
    refine ⟨0, by simp [rd_blk m1, noDid], ?_⟩
    rw [if_pos (by decide), if_pos (by rfl), if_pos (by rfl)]
    refine ⟨0, by simp [rd_blk m2, noDid], ?_⟩
    rw [if_pos (by decide), if_pos (by rfl), if_pos (by rfl), if_pos (by rfl), if_pos (by rfl), if_pos (by rfl)]
    refine rdV b53 ?_
    refine HasN_i v hv t (hg.ext e053) fun h63 e63 => ⟨_, rfl, ?_⟩
    rw [if_pos (by rfl)]
    refine LenN_i ⟨_, rfl, ?_⟩
    rw [if_pos (by rfl)]
    refine LeavesN_i ⟨⟨none, 0, 0⟩, rfl, ?_⟩
    rw [if_pos (by rfl)]
    have e063 := e053.trans0 e63
    exact wakes_i (hg.ext e063) fun h' e => ⟨_, rfl, hQ h' (e063.trans0 e)⟩
end
end Go.Lift

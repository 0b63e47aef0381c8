/- wakes answers true: the run, in stages. -/
import Derived.Test.YtgmbhlfecbpclabGreatDoorW21h
import Derived.Test.YtgmbhlfecbpclabGreatDoorW21s
import Derived.Test.YtgmbhlfecbpclabGreatDoorLvM
set_option linter.unusedSimpArgs false
set_option linter.unusedVariables false
namespace Go.Lift
open Go Go.Proofs
noncomputable section
set_option maxRecDepth 100000
set_option maxHeartbeats 4000000
def hk0 : HookX := hook21
theorem hk0_ok : HookOK PP hk0 := hook21_ok
theorem k0 : stageX PP hk0 1000 12 st0 = true := by kernel_rfl
theorem o0 : StageOK PP 12 st0 := stageX_ok mixedPP names21 hk0_ok k0
def hk1 : HookX := withX 12 [st0] (hook21)
theorem hk1_ok : HookOK PP hk1 := (withX_ok hook21_ok (fun s hs => by
    simp only [List.mem_cons, List.not_mem_nil, or_false] at hs
    subst hs
    exact o0))
theorem k1 : stageX PP hk1 1000 15 st1 = true := by kernel_rfl
theorem o1 : StageOK PP 15 st1 := stageX_ok mixedPP names21 hk1_ok k1
def hk2 : HookX := withX 15 [st1] (withX 12 [st0] (hook21))
theorem hk2_ok : HookOK PP hk2 := (withX_ok (withX_ok hook21_ok (fun s hs => by
    simp only [List.mem_cons, List.not_mem_nil, or_false] at hs
    subst hs
    exact o0)) (fun s hs => by
    simp only [List.mem_cons, List.not_mem_nil, or_false] at hs
    subst hs
    exact o1))
theorem k2 : stageX PP hk2 1000 9 st2 = true := by kernel_rfl
theorem o2 : StageOK PP 9 st2 := stageX_ok mixedPP names21 hk2_ok k2
def hk3 : HookX := withX 15 [st1] (withX 12 [st0] (hook21))
theorem hk3_ok : HookOK PP hk3 := (withX_ok (withX_ok hook21_ok (fun s hs => by
    simp only [List.mem_cons, List.not_mem_nil, or_false] at hs
    subst hs
    exact o0)) (fun s hs => by
    simp only [List.mem_cons, List.not_mem_nil, or_false] at hs
    subst hs
    exact o1))
theorem k3 : stageX PP hk3 1000 9 st3 = true := by kernel_rfl
theorem o3 : StageOK PP 9 st3 := stageX_ok mixedPP names21 hk3_ok k3
def hk4 : HookX := withX 15 [st1] (withX 12 [st0] (hook21))
theorem hk4_ok : HookOK PP hk4 := (withX_ok (withX_ok hook21_ok (fun s hs => by
    simp only [List.mem_cons, List.not_mem_nil, or_false] at hs
    subst hs
    exact o0)) (fun s hs => by
    simp only [List.mem_cons, List.not_mem_nil, or_false] at hs
    subst hs
    exact o1))
theorem k4 : stageX PP hk4 1000 9 st4 = true := by kernel_rfl
theorem o4 : StageOK PP 9 st4 := stageX_ok mixedPP names21 hk4_ok k4
def hkE : HookX := withX 9 [st2, st3, st4] (withX 15 [st1] (withX 12 [st0] (hook21)))
theorem hkE_ok : HookOK PP hkE := (withX_ok (withX_ok (withX_ok hook21_ok (fun s hs => by
    simp only [List.mem_cons, List.not_mem_nil, or_false] at hs
    subst hs
    exact o0)) (fun s hs => by
    simp only [List.mem_cons, List.not_mem_nil, or_false] at hs
    subst hs
    exact o1)) (fun s hs => by
    simp only [List.mem_cons, List.not_mem_nil, or_false] at hs
    rcases hs with rfl | rfl | rfl
    · exact o2
    · exact o3
    · exact o4))
theorem wakes_runs : trueX (runX PP hkE 1000 6 [] []) = true := by kernel_rfl
theorem wakes_s {h : Hp} {Q : List Value → Hp → Prop} (hQ : ∀ h', Ext [] h h' → Q [.bool true] h') : S_liverylaw21_wakes h Q :=
  runX_true mixedPP names21 hkE_ok wakes_runs hQ
end
end Go.Lift

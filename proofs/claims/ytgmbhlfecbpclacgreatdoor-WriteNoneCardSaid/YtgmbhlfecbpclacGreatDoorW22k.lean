/- wakes answers true: the run, in stages. -/
import Derived.Test.YtgmbhlfecbpclacGreatDoorW22h
import Derived.Test.YtgmbhlfecbpclacGreatDoorW22s
import Derived.Test.YtgmbhlfecbpclacGreatDoorLvM
set_option linter.unusedSimpArgs false
set_option linter.unusedVariables false
namespace Go.Lift
open Go Go.Proofs
noncomputable section
set_option maxRecDepth 100000
set_option maxHeartbeats 4000000
def hk0 : HookX := hook22
theorem hk0_ok : HookOK PP hk0 := hook22_ok
theorem k0 : stageX PP hk0 1000 11 st0 = true := by kernel_rfl
theorem o0 : StageOK PP 11 st0 := stageX_ok mixedPP names22 hk0_ok k0
def hk1 : HookX := withX 11 [st0] (hook22)
theorem hk1_ok : HookOK PP hk1 := (withX_ok hook22_ok (fun s hs => by
    simp only [List.mem_cons, List.not_mem_nil, or_false] at hs
    subst hs
    exact o0))
theorem k1 : stageX PP hk1 1000 57 st1 = true := by kernel_rfl
theorem o1 : StageOK PP 57 st1 := stageX_ok mixedPP names22 hk1_ok k1
def hk2 : HookX := withX 57 [st1] (withX 11 [st0] (hook22))
theorem hk2_ok : HookOK PP hk2 := (withX_ok (withX_ok hook22_ok (fun s hs => by
    simp only [List.mem_cons, List.not_mem_nil, or_false] at hs
    subst hs
    exact o0)) (fun s hs => by
    simp only [List.mem_cons, List.not_mem_nil, or_false] at hs
    subst hs
    exact o1))
theorem k2 : stageX PP hk2 1000 6 st2 = true := by kernel_rfl
theorem o2 : StageOK PP 6 st2 := stageX_ok mixedPP names22 hk2_ok k2
def hk3 : HookX := withX 6 [st2] (withX 57 [st1] (withX 11 [st0] (hook22)))
theorem hk3_ok : HookOK PP hk3 := (withX_ok (withX_ok (withX_ok hook22_ok (fun s hs => by
    simp only [List.mem_cons, List.not_mem_nil, or_false] at hs
    subst hs
    exact o0)) (fun s hs => by
    simp only [List.mem_cons, List.not_mem_nil, or_false] at hs
    subst hs
    exact o1)) (fun s hs => by
    simp only [List.mem_cons, List.not_mem_nil, or_false] at hs
    subst hs
    exact o2))
theorem k3 : stageX PP hk3 1000 58 st3 = true := by kernel_rfl
theorem o3 : StageOK PP 58 st3 := stageX_ok mixedPP names22 hk3_ok k3
def hk4 : HookX := withX 58 [st3] (withX 6 [st2] (withX 11 [st0] (hook22)))
theorem hk4_ok : HookOK PP hk4 := (withX_ok (withX_ok (withX_ok hook22_ok (fun s hs => by
    simp only [List.mem_cons, List.not_mem_nil, or_false] at hs
    subst hs
    exact o0)) (fun s hs => by
    simp only [List.mem_cons, List.not_mem_nil, or_false] at hs
    subst hs
    exact o2)) (fun s hs => by
    simp only [List.mem_cons, List.not_mem_nil, or_false] at hs
    subst hs
    exact o3))
theorem k4 : stageX PP hk4 1000 57 st4 = true := by kernel_rfl
theorem o4 : StageOK PP 57 st4 := stageX_ok mixedPP names22 hk4_ok k4
def hk5 : HookX := withX 58 [st3] (withX 57 [st1, st4] (withX 11 [st0] (hook22)))
theorem hk5_ok : HookOK PP hk5 := (withX_ok (withX_ok (withX_ok hook22_ok (fun s hs => by
    simp only [List.mem_cons, List.not_mem_nil, or_false] at hs
    subst hs
    exact o0)) (fun s hs => by
    simp only [List.mem_cons, List.not_mem_nil, or_false] at hs
    rcases hs with rfl | rfl
    · exact o1
    · exact o4)) (fun s hs => by
    simp only [List.mem_cons, List.not_mem_nil, or_false] at hs
    subst hs
    exact o3))
theorem k5 : stageX PP hk5 1000 6 st5 = true := by kernel_rfl
theorem o5 : StageOK PP 6 st5 := stageX_ok mixedPP names22 hk5_ok k5
def hk6 : HookX := withX 6 [st2, st5] (withX 57 [st1, st4] (withX 11 [st0] (hook22)))
theorem hk6_ok : HookOK PP hk6 := (withX_ok (withX_ok (withX_ok hook22_ok (fun s hs => by
    simp only [List.mem_cons, List.not_mem_nil, or_false] at hs
    subst hs
    exact o0)) (fun s hs => by
    simp only [List.mem_cons, List.not_mem_nil, or_false] at hs
    rcases hs with rfl | rfl
    · exact o1
    · exact o4)) (fun s hs => by
    simp only [List.mem_cons, List.not_mem_nil, or_false] at hs
    rcases hs with rfl | rfl
    · exact o2
    · exact o5))
theorem k6 : stageX PP hk6 1000 58 st6 = true := by kernel_rfl
theorem o6 : StageOK PP 58 st6 := stageX_ok mixedPP names22 hk6_ok k6
def hk7 : HookX := withX 58 [st3, st6] (withX 57 [st1, st4] (withX 11 [st0] (hook22)))
theorem hk7_ok : HookOK PP hk7 := (withX_ok (withX_ok (withX_ok hook22_ok (fun s hs => by
    simp only [List.mem_cons, List.not_mem_nil, or_false] at hs
    subst hs
    exact o0)) (fun s hs => by
    simp only [List.mem_cons, List.not_mem_nil, or_false] at hs
    rcases hs with rfl | rfl
    · exact o1
    · exact o4)) (fun s hs => by
    simp only [List.mem_cons, List.not_mem_nil, or_false] at hs
    rcases hs with rfl | rfl
    · exact o3
    · exact o6))
theorem k7 : stageX PP hk7 1000 6 st7 = true := by kernel_rfl
theorem o7 : StageOK PP 6 st7 := stageX_ok mixedPP names22 hk7_ok k7
def hkE : HookX := withX 58 [st3, st6] (withX 6 [st2, st5, st7] (withX 57 [st1, st4] (withX 11 [st0] (hook22))))
theorem hkE_ok : HookOK PP hkE := (withX_ok (withX_ok (withX_ok (withX_ok hook22_ok (fun s hs => by
    simp only [List.mem_cons, List.not_mem_nil, or_false] at hs
    subst hs
    exact o0)) (fun s hs => by
    simp only [List.mem_cons, List.not_mem_nil, or_false] at hs
    rcases hs with rfl | rfl
    · exact o1
    · exact o4)) (fun s hs => by
    simp only [List.mem_cons, List.not_mem_nil, or_false] at hs
    rcases hs with rfl | rfl | rfl
    · exact o2
    · exact o5
    · exact o7)) (fun s hs => by
    simp only [List.mem_cons, List.not_mem_nil, or_false] at hs
    rcases hs with rfl | rfl
    · exact o3
    · exact o6))
theorem wakes_runs : trueX (runX PP hkE 1000 5 [] []) = true := by kernel_rfl
theorem wakes_s {h : Hp} {Q : List Value → Hp → Prop} (hQ : ∀ h', Ext [] h h' → Q [.bool true] h') : S_liverylaw22_wakes h Q :=
  runX_true mixedPP names22 hkE_ok wakes_runs hQ
end
end Go.Lift

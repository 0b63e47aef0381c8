/- wakes of layer 19 answers true, by the evaluator. -/
import Derived.Test.YtgdiihffjogdiaaGreatDoorW19h
import Derived.Test.YtgdiihffjogdiaaGreatDoorLvM
set_option linter.unusedSimpArgs false
set_option linter.unusedVariables false
namespace Go.Lift
open Go Go.Proofs
set_option maxRecDepth 100000
theorem wakes_runs : trueX (runX PP hook19 1000 9 [] []) = true := by kernel_rfl
theorem wakes_s {h : Hp} {Q : List Value → Hp → Prop} (hQ : ∀ h', Ext [] h h' → Q [.bool true] h') : S_liverylaw19_wakes h Q :=
  runX_true mixedPP names19 hook19_ok wakes_runs hQ
end Go.Lift

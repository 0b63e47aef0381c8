/- wakes of layer 23 answers true, by the evaluator. -/
import Derived.Test.YtgmbhlfecbpclaaGreatDoorW23h
import Derived.Test.YtgmbhlfecbpclaaGreatDoorLvM
set_option linter.unusedSimpArgs false
set_option linter.unusedVariables false
namespace Go.Lift
open Go Go.Proofs
set_option maxRecDepth 100000
theorem wakes_runs : trueX (runX PP hook23 1000 5 [] []) = true := by kernel_rfl
theorem wakes_s {h : Hp} {Q : List Value → Hp → Prop} (hQ : ∀ h', Ext [] h h' → Q [.bool true] h') : S_liverylaw23_wakes h Q :=
  runX_true mixedPP names23 hook23_ok wakes_runs hQ
end Go.Lift

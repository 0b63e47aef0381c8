/- A map of memory with keys of the kind int, as the library's contracts on maps want it; and what they hand back. -/
import Derived.Test.YtgdiihffjogdiaaGreatDoorLvP
import Derived.Lib.SlKeysI
set_option linter.unusedSimpArgs false
set_option linter.unusedVariables false
namespace Go.Lift
open Go Go.RowKit Go.Maps

def sortI (xs : List Int) : List Int := xs.mergeSort fun x y => decide (x ≤ y)
end Go.Lift

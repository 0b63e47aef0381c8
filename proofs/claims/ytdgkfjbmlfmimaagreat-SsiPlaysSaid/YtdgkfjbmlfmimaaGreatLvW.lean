/- A map of memory whose keys are strings, as the library's contracts on maps want it; and what they hand back. -/
import Derived.Test.YtdgkfjbmlfmimaaGreatLvQ
import Derived.Sort.KeysCollected
set_option linter.unusedSimpArgs false
set_option linter.unusedVariables false
namespace Go.Lift
open Go Go.RowKit Go.Maps
end Go.Lift

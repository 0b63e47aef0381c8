/- Slices of one cell each: views, writes in place, growing. -/
import Derived.Test.YtdgkfjbmlfmimaaGreatLvR
set_option linter.unusedSimpArgs false
set_option linter.unusedVariables false
namespace Go.Lift
open Go

section
variable {T : TypeId} {lo : Nat} {h : Hp} {s : Sl} {vs : List Value}
end
section
variable {T : TypeId} {lo : Nat} {h : Hp} {s : Sl} {vs : List Value}
end
end Go.Lift

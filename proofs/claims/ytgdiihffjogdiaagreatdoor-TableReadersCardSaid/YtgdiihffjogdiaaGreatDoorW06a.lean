/- Locks: lists in order; which modes bar which. -/
import Derived.Test.YtgdiihffjogdiaaGreatDoorLvW
import Derived.Test.YtgdiihffjogdiaaGreatDoorL10s
set_option linter.unusedSimpArgs false
set_option linter.unusedVariables false
namespace Go.Lift
open Go
theorem sortI_mem {l : List Int} {x : Int} : x ∈ sortI l ↔ x ∈ l := by unfold sortI; exact List.mem_mergeSort
theorem sortI_len (l : List Int) : (sortI l).length = l.length := by unfold sortI; exact List.length_mergeSort _
/-! Strings in their order. -/
end Go.Lift

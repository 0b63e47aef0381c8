/- A map of memory whose keys are strings, as the library's contracts on maps want it; and what they hand back. -/
import Derived.Test.YtgdiihffjogdiaaGreatDoorLvQ
import Derived.Sort.KeysCollected
set_option linter.unusedSimpArgs false
set_option linter.unusedVariables false
namespace Go.Lift
open Go Go.RowKit Go.Maps
/-- The bytes of a string, as the library's contracts have them. -/
def btl (s : ByteArray) : List UInt8 := s.data.toList
def ofBtl (l : List UInt8) : ByteArray := ⟨l.toArray⟩
theorem ofBtl_btl (s : ByteArray) : ofBtl (btl s) = s := by cases s; simp [ofBtl, btl]
theorem btl_ofBtl (l : List UInt8) : btl (ofBtl l) = l := by simp [ofBtl, btl]
theorem btl_inj {a b : ByteArray} (h : btl a = btl b) : a = b := by rw [← ofBtl_btl a, h, ofBtl_btl]
end Go.Lift

/- The order of strings. -/
import Derived.Test.YtgdiihffjogdiaaGreatDoorLvS
set_option linter.unusedSimpArgs false
set_option linter.unusedVariables false
namespace Go.Lift
open Go
theorem bl_irrefl : ∀ x : List UInt8, Op.bytesLess x x = false
  | [] => rfl
  | a :: x => by simp [Op.bytesLess, bl_irrefl x]
theorem bl_trans : ∀ x y z : List UInt8, Op.bytesLess x y = true → Op.bytesLess y z = true → Op.bytesLess x z = true
  | _, [], _, h, _ => by simp [Op.bytesLess] at h
  | _, _ :: _, [], _, h => by simp [Op.bytesLess] at h
  | [], _ :: _, _ :: _, _, _ => rfl
  | a :: x, b :: y, c :: z, h1, h2 => by
    simp only [Op.bytesLess, Bool.or_eq_true, Bool.and_eq_true, decide_eq_true_eq, beq_iff_eq] at h1 h2 ⊢
    rcases h1 with h1 | ⟨rfl, h1⟩ <;> rcases h2 with h2 | ⟨rfl, h2⟩
    · exact Or.inl (UInt8.lt_trans h1 h2)
    · exact Or.inl h1
    · exact Or.inl h2
    · exact Or.inr ⟨rfl, bl_trans x y z h1 h2⟩
theorem bl_total : ∀ x y : List UInt8, x = y ∨ Op.bytesLess x y = true ∨ Op.bytesLess y x = true
  | [], [] => Or.inl rfl
  | [], _ :: _ => Or.inr (Or.inl rfl)
  | _ :: _, [] => Or.inr (Or.inr rfl)
  | a :: x, b :: y => by
    by_cases h1 : a < b
    · exact Or.inr (Or.inl (by simp [Op.bytesLess, h1]))
    · by_cases h2 : b < a
      · exact Or.inr (Or.inr (by simp [Op.bytesLess, h2]))
      · have e : a = b := UInt8.le_antisymm (UInt8.not_lt.1 h2) (UInt8.not_lt.1 h1)
        subst e
        rcases bl_total x y with h | h | h
        · exact Or.inl (by rw [h])
        · exact Or.inr (Or.inl (by simp [Op.bytesLess, h]))
        · exact Or.inr (Or.inr (by simp [Op.bytesLess, h]))
def sLt (a b : ByteArray) : Bool := Op.bytesLess a.toList b.toList
theorem sLt_irrefl (a : ByteArray) : sLt a a = false := bl_irrefl _
theorem sLt_trans {a b c : ByteArray} (h1 : sLt a b = true) (h2 : sLt b c = true) : sLt a c = true := bl_trans _ _ _ h1 h2
theorem sLt_asymm {a b : ByteArray} (h1 : sLt a b = true) : sLt b a = false := by
  cases h : sLt b a with
  | false => rfl
  | true => have := sLt_trans h1 h; rw [sLt_irrefl] at this; cases this
theorem toList_inj {a b : ByteArray} (h : a.toList = b.toList) : a = b := by
  rw [ByteArray.toList_eq, ByteArray.toList_eq] at h
  exact WideShapes.bytes_inj h
theorem sLt_total (a b : ByteArray) : a = b ∨ sLt a b = true ∨ sLt b a = true := by
  rcases bl_total a.toList b.toList with h | h | h
  · exact Or.inl (toList_inj h)
  · exact Or.inr (Or.inl h)
  · exact Or.inr (Or.inr h)
/-- Keys in their order. -/
def InOrder (xs : List ByteArray) : Prop := xs.Pairwise fun a b => sLt a b = true
theorem InOrder.mono {xs : List ByteArray} (ho : InOrder xs) (k : ByteArray) : ∀ a b (_ : a < b) (hb : b < xs.length), sLt xs[b] k = true → sLt (xs[a]'(by omega)) k = true := by
  intro a b hab hb h
  exact sLt_trans (List.pairwise_iff_getElem.1 ho a b (by omega) hb hab) h
end Go.Lift

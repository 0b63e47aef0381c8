/- Leaves in order: Insert. -/
import Derived.Test.YtempffmkbpglfaaL10g
set_option linter.unusedSimpArgs false
set_option linter.unusedVariables false
namespace Go.Lift
open Go Go.Proofs
set_option maxRecDepth 100000
/-- How many keys come ahead of one. -/
def posK (xs : List ByteArray) (k : ByteArray) : Nat := (xs.takeWhile fun y => sLt y k).length
theorem posK_eq {xs : List ByteArray} {k : ByteArray} {i : Nat} (hi : i ≤ xs.length) (h1 : ∀ a (ha : a < xs.length), a < i → sLt xs[a] k = true) (h2 : ∀ a (ha : a < xs.length), i ≤ a → sLt xs[a] k = false) : posK xs k = i :=
  tw_len _ xs i (fun j hj hji => h1 j hj hji) hi fun hn => h2 i hn (Nat.le_refl _)
def putK (xs : List ByteArray) (k : ByteArray) : List ByteArray := xs.take (posK xs k) ++ [k] ++ xs.drop (posK xs k)
structure Did where
  leaf : Int
  mf : Int
  mt : Int
  err : Int
def LeafM.insAt (M : LeafM) (k : ByteArray) (o : OneM) : LeafM × Did :=
  if hasK o.keys k = true then (M, ⟨0, 0, 0, 62⟩)
  else if ((putK o.keys k).length : Int) ≤ M.fan then ({ M with l := M.l.set (atL M.l k) { o with keys := putK o.keys k } }, ⟨o.n, 0, 0, 0⟩)
  else
    let cut := ((putK o.keys k).length + 1) / 2
    let z : OneM := ⟨M.next, (putK o.keys k).getD cut (ByteArray.mk #[]), (putK o.keys k).drop cut⟩
    (⟨M.fan, M.next + 1, M.l.take (atL M.l k) ++ [{ o with keys := (putK o.keys k).take cut }, z] ++ M.l.drop (atL M.l k + 1)⟩, ⟨if posK o.keys k < cut then o.n else M.next, o.n, M.next, 0⟩)
def LeafM.ins (M : LeafM) (k : ByteArray) : LeafM × Did :=
  if k.size > 1024 then (M, ⟨0, 0, 0, 2⟩)
  else match M.l[atL M.l k]? with
    | none => (M, ⟨0, 0, 0, 0⟩)
    | some o => M.insAt k o
theorem ins_eq {M : LeafM} {k : ByteArray} (hk : ¬ k.size > 1024) (hlt : atL M.l k < M.l.length) : M.ins k = M.insAt k M.l[atL M.l k] := by
  unfold LeafM.ins
  rw [if_neg hk, List.getElem?_eq_getElem hlt]
section
variable {lo : Nat} {h : Hp} {x : Nat} {M : LeafM} {ls : Sl} {C : List OneC} {Q : List Value → Hp → Prop}
theorem flatB (xs : List ByteArray) : xs.flatMap encB = xs.map Value.string := by rw [List.map_eq_flatMap]
theorem putK_flat (xs : List ByteArray) (k : ByteArray) : (putK xs k).flatMap encB = (xs.flatMap encB).take (posK xs k) ++ [Value.string k] ++ (xs.flatMap encB).drop (posK xs k) := by
  simp [putK, flatB, List.map_take, List.map_drop]
end
end Go.Lift

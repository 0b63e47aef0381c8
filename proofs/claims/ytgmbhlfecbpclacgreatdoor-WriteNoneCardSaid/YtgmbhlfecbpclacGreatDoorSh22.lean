/-
  DERIVED: THE SHELF's CONTRACTS AT THIS DUMP, IN PLAIN WORDS (tools/lay-plain.mjs out of 'Sh22Try.lean', which tools/lay-shelf.mjs wrote): THE SAME DECLARATIONS UNDER THE SAME NAMES: 'import', 'namespace', 'open', 'def', 'theorem' AND NOTHING ELSE: no command of the shelf's: FOR A HAND-IN. Each laying: the table of numbers ('.._ren') and one theorem, a field a fact of the dump's own or the kernel's comparison; each contract: ONE APPLICATION.
-/
import Derived.Shelf.Strings.Builder1
import Derived.Shelf.Strings.OnBuilder
import Derived.Shelf.Small.Strs
import Derived.Test.YtgmbhlfecbpclacGreatDoorProg
set_option linter.unusedSimpArgs false
set_option linter.unusedVariables false
namespace Go.Proofs
open Go.Shelf
def Tryz.lays156_ren : Go.Shelf.Ren := ⟨fun | 156 => 285 | 165 => 323 | 166 => 324 | 169 => 325 | 240 => 338 | 241 => 339 | 276 => 351 | 277 => 352 | n => n, fun | 31 => 285 | 9 => 9 | 3 => 3 | 4 => 4 | 0 => 0 | 20 => 20 | 72 => 432 | 76 => 435 | 70 => 430 | 37 => 374 | 75 => 434 | 127 => 447 | 164 => 460 | 5 => 5 | 80 => 437 | n => n, fun | n => n⟩
theorem Tryz.lays156 : Go.Proofs.Lays.n156 Tryz.prog Tryz.lays156_ren := {
  mixed := by kernel_rfl
  f156 := Tryz.func285.trans (congrArg some (by kernel_rfl))
  f165 := Tryz.func323.trans (congrArg some (by kernel_rfl))
  f166 := Tryz.func324.trans (congrArg some (by kernel_rfl))
  f169 := Tryz.func325.trans (congrArg some (by kernel_rfl))
  f240 := Tryz.func338.trans (congrArg some (by kernel_rfl))
  f241 := Tryz.func339.trans (congrArg some (by kernel_rfl))
  f276 := Tryz.func351.trans (congrArg some (by kernel_rfl))
  f277 := Tryz.func352.trans (congrArg some (by kernel_rfl))
  t0 := Tryz.underlying0
  a0 := Tryz.isAgg0
  z0 := Tryz.sizeOf0
  v0 := Tryz.zeroValue0
  t3 := Tryz.underlying3
  a3 := Tryz.isAgg3
  z3 := Tryz.sizeOf3
  v3 := Tryz.zeroValue3
  t4 := Tryz.underlying4
  a4 := Tryz.isAgg4
  z4 := Tryz.sizeOf4
  v4 := Tryz.zeroValue4
  t9 := Tryz.underlying9
  a9 := Tryz.isAgg9
  z9 := Tryz.sizeOf9
  v9 := Tryz.zeroValue9
  t20 := Tryz.underlying20
  a20 := Tryz.isAgg20
  z20 := Tryz.sizeOf20
  v20 := Tryz.zeroValue20
  t31 := Tryz.underlying285
  a31 := Tryz.isAgg285
  z31 := Tryz.sizeOf285
  v31 := Tryz.zeroValue285
  t37 := Tryz.underlying374
  a37 := Tryz.isAgg374
  z37 := Tryz.sizeOf374
  v37 := Tryz.zeroValue374
  t70 := Tryz.underlying430
  a70 := Tryz.isAgg430
  z70 := Tryz.sizeOf430
  v70 := Tryz.zeroValue430
  t72 := Tryz.underlying432
  a72 := Tryz.isAgg432
  z72 := Tryz.sizeOf432
  v72 := Tryz.zeroValue432
  t75 := Tryz.underlying434
  a75 := Tryz.isAgg434
  z75 := Tryz.sizeOf434
  v75 := Tryz.zeroValue434
  t76 := Tryz.underlying435
  a76 := Tryz.isAgg435
  z76 := Tryz.sizeOf435
  v76 := Tryz.zeroValue435
  t127 := Tryz.underlying447
  a127 := Tryz.isAgg447
  z127 := Tryz.sizeOf447
  v127 := Tryz.zeroValue447
  t164 := Tryz.underlying460
  a164 := Tryz.isAgg460
  z164 := Tryz.sizeOf460
  v164 := Tryz.zeroValue460 }
theorem Tryz.Builder_Extra_156 : Builder.Extra Tryz.prog Tryz.lays156_ren := {
  sizeBuilder := by kernel_rfl
  liesBuilder := by kernel_rfl
  t5 := Tryz.underlying5
  a5 := Tryz.isAgg5
  z5 := Tryz.sizeOf5
  v5 := Tryz.zeroValue5
  infoByte := by kernel_rfl
  cellsByte := by kernel_rfl
  sizeByte := by kernel_rfl
  neB5 := by decide }
open Go.RowKit in
/-- No element: the empty string; the world is as it was. (Whatever the slice's address and capacity: a nil slice too.) (LAID: no walk: one application.) -/
theorem Tryz.strings_Join_none (a : Option Addr) (c : Nat) (sep : ByteArray) (w : World) :
    Calls Tryz.prog 285 #[.slice a 0 c, .string sep] w fun e w' => e = .returned (.string ⟨#[]⟩) ∧ w' = w := Any.strings_Join_none Tryz.lays156 Tryz.Builder_Extra_156 a c sep w
open Go.RowKit in
/-- strings.Join: "Join concatenates the elements of its first argument to create a single string. The separator string sep is placed between elements in the resulting string.": HOWEVER MANY ELEMENTS. Below the heap's end the world is as it was. (LAID: no walk: one application.) -/
theorem Tryz.strings_Join (bk o c : Nat) (xs : List ByteArray) (sep : ByteArray) (w : World) (hcells : ∀ (j : Nat) x, xs[j]? = some x → w.cell? ⟨bk, o + j, none⟩ = some (.string x)) (hbk : bk < w.heap.size) (hN : xs.length ≤ 140737488355328) (hcap : xs.length ≤ c) (hlen : (Lib.join (xs.map (·.data.toList)) sep.data.toList).length ≤ 140737488355328) :
    Calls Tryz.prog 285 #[.slice (some ⟨bk, o, none⟩) xs.length c, .string sep] w fun e w' => e = .returned (.string ⟨(Lib.join (xs.map (·.data.toList)) sep.data.toList).toArray⟩) ∧ Below w.heap.size w w' := Any.strings_Join Tryz.lays156 Tryz.Builder_Extra_156 bk o c xs sep w hcells hbk hN hcap hlen
end Go.Proofs

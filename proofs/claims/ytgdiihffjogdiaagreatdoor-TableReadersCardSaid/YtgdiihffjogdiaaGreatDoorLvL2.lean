/- Short words for the printed texts. -/
import Derived.Test.YtgdiihffjogdiaaGreatDoorLvL
set_option linter.unusedSimpArgs false
set_option linter.unusedVariables false
namespace Go.Lift
open Go
abbrev PQ := List Value → Hp → Prop
abbrev HW := Hp → PQ → Prop
abbrev OA := Option Addr
abbrev BA := ByteArray
abbrev AV := Array Value
abbrev ON := Option Nat
abbrev vI (n : Int) : Value := .int .i64 n
abbrev vB (b : Bool) : Value := .bool b
abbrev vS (s : ByteArray) : Value := .string s
abbrev vP (p : Option Addr) : Value := .pointer p
abbrev vM (m : Option Nat) : Value := .map m
abbrev vL (l : Sl) : Value := .slice l.a l.n l.c
abbrev vC (a : Option Addr) (n c : Nat) : Value := .slice a n c
abbrev vA (l : Array Value) : Value := .agg l
abbrev ad (a : Addr) (k : Nat) : Addr := Addr.add a k
abbrev nb (h : Hp) : Addr := Addr.mk (Array.size h) 0 none
abbrev gb (k : Nat) : Addr := Addr.mk k 0 none
abbrev wi (n : Int) : Int := IntKind.wrap .i64 n
abbrev bl (s : ByteArray) : List UInt8 := ByteArray.toList s
abbrev bz (s : ByteArray) : Nat := ByteArray.size s
abbrev tn (n : Int) : Nat := Int.toNat n
abbrev isn {α : Type} (x : Option α) : Bool := Option.isNone x
abbrev sib (h : Hp) (k : Nat) (o : Obj) : Hp := Array.setIfInBounds h k o
abbrev pu (h : Hp) (o : Obj) : Hp := Array.push h o
abbrev oc (c : Array Value) (t : TypeId) (f : Nat × Nat := (0, 0)) : Obj := Obj.cells c t f
abbrev rI (h : Hp) (a : Addr) (n : Int) : Prop := rd h a = some (Value.int .i64 n)
abbrev rB (h : Hp) (a : Addr) (n : Bool) : Prop := rd h a = some (Value.bool n)
abbrev rS (h : Hp) (a : Addr) (n : ByteArray) : Prop := rd h a = some (Value.string n)
abbrev rP (h : Hp) (a : Addr) (n : Option Addr) : Prop := rd h a = some (Value.pointer n)
abbrev rM (h : Hp) (a : Addr) (n : Option Nat) : Prop := rd h a = some (Value.map n)
abbrev rL (h : Hp) (a : Addr) (l : Sl) : Prop := rd h a = some (Value.slice l.a l.n l.c)
namespace Cmp
abbrev Z : Ann := .nil
abbrev E : Jn := ⟨[], []⟩
abbrev N (l r : Ann) : Ann := .mk none E l r
abbrev L (x : Ann) : Ann := .mk none E x .nil
abbrev R (x : Ann) : Ann := .mk none E .nil x
end Cmp
end Go.Lift

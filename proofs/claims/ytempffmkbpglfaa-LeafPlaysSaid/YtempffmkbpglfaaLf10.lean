/- Printed by lift.py: each Go function of this seat as a Prop over the heap, and that the Go code comes to it. -/
import Derived.Test.YtempffmkbpglfaaLvL
import Derived.Test.YtempffmkbpglfaaProg
set_option linter.unusedSimpArgs false
set_option linter.unusedVariables false
namespace Go.Lift
open Go Go.Proofs
set_option maxRecDepth 100000
noncomputable abbrev PP : Program := Try.prog
theorem mixedPP : PP.follows .mixedOrders = true := by kernel_rfl
def bodyOf (f : Func) : Code := f.body.getD .skip
abbrev T_int : TypeId := 3
abbrev T_uint8 : TypeId := 5
abbrev T_string : TypeId := 9
abbrev T_leaf_Move : TypeId := 27
abbrev T_liverylaw10_Step : TypeId := 40
abbrev T_liveryref10_Did : TypeId := 52
abbrev T_liveryref10_Span : TypeId := 55
abbrev T_liveryref10_Leaves : TypeId := 63
abbrev T_liveryref10_Leaf : TypeId := 65
abbrev T_pleaf_one : TypeId := 67
abbrev T_leaf_one : TypeId := 69
abbrev T_leaf_Leaves : TypeId := 72
/-- main.main -/
def S_main_main (h : Hp) (Q : List Value → Hp → Prop) : Prop := Fn PP 0 #[] h Q
/-- gosem.cut -/
def S_gosem_cut (h : Hp) (Q : List Value → Hp → Prop) : Prop := Fn PP 1 #[] h Q
/-- gosem.cut.init -/
def S_gosem_cut_init (h : Hp) (Q : List Value → Hp → Prop) : Prop := Fn PP 2 #[] h Q
/-- livery/leaf.New -/
def S_leaf_New (g0_fan : Int) (h : Hp) (Q : List Value → Hp → Prop) : Prop := Fn PP 8 #[(Value.int .i64 g0_fan)] h Q
/-- (*livery/leaf.Leaves).at -/
def S_leaf_Leaves_at (g0_x : Option Addr) (g1_k : ByteArray) (h : Hp) (Q : List Value → Hp → Prop) : Prop := Fn PP 32 #[(Value.pointer g0_x), (Value.string g1_k)] h Q
/-- cmp.isNaN[string] -/
def S_cmp_isNaN_string (g0_x : ByteArray) (h : Hp) (Q : List Value → Hp → Prop) : Prop := Fn PP 48 #[(Value.string g0_x)] h Q
/-- cmp.Less[string] -/
def S_cmp_Less_string (g0_x : ByteArray) (g1_y : ByteArray) (h : Hp) (Q : List Value → Hp → Prop) : Prop := Fn PP 42 #[(Value.string g0_x), (Value.string g1_y)] h Q
/-- slices.isNaN[string] -/
def S_slices_isNaN_string (g0_x : ByteArray) (h : Hp) (Q : List Value → Hp → Prop) : Prop := Fn PP 43 #[(Value.string g0_x)] h Q
/-- slices.BinarySearch[[]string,string] -/
def S_slices_BinarySearch_sstring_string (g0_x : Sl) (g1_target : ByteArray) (h : Hp) (Q : List Value → Hp → Prop) : Prop := Fn PP 33 #[(Value.slice g0_x.a g0_x.n g0_x.c), (Value.string g1_target)] h Q
/-- slices.overlaps[string] -/
def S_slices_overlaps_string (g0_x : Sl) (g1_x : Sl) (h : Hp) (Q : List Value → Hp → Prop) : Prop := Fn PP 44 #[(Value.slice g0_x.a g0_x.n g0_x.c), (Value.slice g1_x.a g1_x.n g1_x.c)] h Q
/-- slices.Reverse[[]string,string] -/
def S_slices_Reverse_sstring_string (g0_s : Sl) (h : Hp) (Q : List Value → Hp → Prop) : Prop := Fn PP 51 #[(Value.slice g0_s.a g0_s.n g0_s.c)] h Q
/-- slices.rotateLeft[string] -/
def S_slices_rotateLeft_string (g0_s : Sl) (g1_r : Int) (h : Hp) (Q : List Value → Hp → Prop) : Prop := Fn PP 49 #[(Value.slice g0_s.a g0_s.n g0_s.c), (Value.int .i64 g1_r)] h Q
/-- slices.rotateRight[string] -/
def S_slices_rotateRight_string (g0_s : Sl) (g1_r : Int) (h : Hp) (Q : List Value → Hp → Prop) : Prop := Fn PP 45 #[(Value.slice g0_s.a g0_s.n g0_s.c), (Value.int .i64 g1_r)] h Q
/-- slices.Insert[[]string,string] -/
def S_slices_Insert_sstring_string (g0_s : Sl) (g1_i : Int) (g2_v : Sl) (h : Hp) (Q : List Value → Hp → Prop) : Prop := Fn PP 34 #[(Value.slice g0_s.a g0_s.n g0_s.c), (Value.int .i64 g1_i), (Value.slice g2_v.a g2_v.n g2_v.c)] h Q
/-- slices.Clone[[]string,string] -/
def S_slices_Clone_sstring_string (g0_s : Sl) (h : Hp) (Q : List Value → Hp → Prop) : Prop := Fn PP 35 #[(Value.slice g0_s.a g0_s.n g0_s.c)] h Q
/-- slices.overlaps[*livery/leaf.one] -/
def S_slices_overlaps_pleaf_one (g0_x : Sl) (g1_x : Sl) (h : Hp) (Q : List Value → Hp → Prop) : Prop := Fn PP 46 #[(Value.slice g0_x.a g0_x.n g0_x.c), (Value.slice g1_x.a g1_x.n g1_x.c)] h Q
/-- slices.Reverse[[]*livery/leaf.one,*livery/leaf.one] -/
def S_slices_Reverse_spleaf_one_pleaf_one (g0_s : Sl) (h : Hp) (Q : List Value → Hp → Prop) : Prop := Fn PP 52 #[(Value.slice g0_s.a g0_s.n g0_s.c)] h Q
/-- slices.rotateLeft[*livery/leaf.one] -/
def S_slices_rotateLeft_pleaf_one (g0_s : Sl) (g1_r : Int) (h : Hp) (Q : List Value → Hp → Prop) : Prop := Fn PP 50 #[(Value.slice g0_s.a g0_s.n g0_s.c), (Value.int .i64 g1_r)] h Q
/-- slices.rotateRight[*livery/leaf.one] -/
def S_slices_rotateRight_pleaf_one (g0_s : Sl) (g1_r : Int) (h : Hp) (Q : List Value → Hp → Prop) : Prop := Fn PP 47 #[(Value.slice g0_s.a g0_s.n g0_s.c), (Value.int .i64 g1_r)] h Q
/-- slices.Insert[[]*livery/leaf.one,*livery/leaf.one] -/
def S_slices_Insert_spleaf_one_pleaf_one (g0_s : Sl) (g1_i : Int) (g2_v : Sl) (h : Hp) (Q : List Value → Hp → Prop) : Prop := Fn PP 36 #[(Value.slice g0_s.a g0_s.n g0_s.c), (Value.int .i64 g1_i), (Value.slice g2_v.a g2_v.n g2_v.c)] h Q
/-- (*livery/leaf.Leaves).Insert -/
def S_leaf_Leaves_Insert (g0_x : Option Addr) (g1_k : ByteArray) (h : Hp) (Q : List Value → Hp → Prop) : Prop := Fn PP 9 #[(Value.pointer g0_x), (Value.string g1_k)] h Q
/-- (*livery/leaf.Leaves).All -/
def S_leaf_Leaves_All (g0_x : Option Addr) (h : Hp) (Q : List Value → Hp → Prop) : Prop := Fn PP 10 #[(Value.pointer g0_x)] h Q
/-- slices.IndexFunc[[]*livery/leaf.one,*livery/leaf.one] -/
def S_slices_IndexFunc_spleaf_one_pleaf_one (g0_s : Sl) (g1_f_f : Nat) (g1_f_c : Array Value) (h : Hp) (Q : List Value → Hp → Prop) : Prop := Fn PP 37 #[(Value.slice g0_s.a g0_s.n g0_s.c), (Value.func (.func g1_f_f) #[] g1_f_c)] h Q
/-- (*livery/leaf.Leaves).Keys -/
def S_leaf_Leaves_Keys (g0_x : Option Addr) (g1_leaf : Int) (h : Hp) (Q : List Value → Hp → Prop) : Prop := Fn PP 11 #[(Value.pointer g0_x), (Value.int .i64 g1_leaf)] h Q
/-- (*livery/leaf.Leaves).Len -/
def S_leaf_Leaves_Len (g0_x : Option Addr) (h : Hp) (Q : List Value → Hp → Prop) : Prop := Fn PP 12 #[(Value.pointer g0_x)] h Q
/-- (*livery/leaf.Leaves).Range -/
def S_leaf_Leaves_Range (g0_x : Option Addr) (g1_from : ByteArray) (g2_to : ByteArray) (h : Hp) (Q : List Value → Hp → Prop) : Prop := Fn PP 17 #[(Value.pointer g0_x), (Value.string g1_from), (Value.string g2_to)] h Q
/-- livery/liverykeep.Texts -/
def S_liverykeep_Texts (g0_a : Sl) (g1_b : Sl) (h : Hp) (Q : List Value → Hp → Prop) : Prop := Fn PP 24 #[(Value.slice g0_a.a g0_a.n g0_a.c), (Value.slice g1_b.a g1_b.n g1_b.c)] h Q
/-- livery/liverykeep.Ints -/
def S_liverykeep_Ints (g0_a : Sl) (g1_b : Sl) (h : Hp) (Q : List Value → Hp → Prop) : Prop := Fn PP 25 #[(Value.slice g0_a.a g0_a.n g0_a.c), (Value.slice g1_b.a g1_b.n g1_b.c)] h Q
/-- (*livery/leaf.Leaves).Of -/
def S_leaf_Leaves_Of (g0_x : Option Addr) (g1_k : ByteArray) (h : Hp) (Q : List Value → Hp → Prop) : Prop := Fn PP 28 #[(Value.pointer g0_x), (Value.string g1_k)] h Q
/-- livery/liverylaw10.wakes -/
def S_liverylaw10_wakes (h : Hp) (Q : List Value → Hp → Prop) : Prop := Fn PP 13 #[] h Q
/-- livery/liverylaw10.LeafHalves -/
def S_liverylaw10_LeafHalves (g0_fan : Int) (g1_n : Int) (h : Hp) (Q : List Value → Hp → Prop) : Prop := Fn PP 3 #[(Value.int .u8 g0_fan), (Value.int .u8 g1_n)] h Q
/-- livery/liverykeep.Mod -/
def S_liverykeep_Mod (g0_k : Int) (g1_n : Int) (h : Hp) (Q : List Value → Hp → Prop) : Prop := Fn PP 14 #[(Value.int .i64 g0_k), (Value.int .i64 g1_n)] h Q
/-- livery/liverylaw10.fair -/
def S_liverylaw10_fair (g0_l : Sl) (h : Hp) (Q : List Value → Hp → Prop) : Prop := Fn PP 15 #[(Value.slice g0_l.a g0_l.n g0_l.c)] h Q
/-- slices.Delete[[]string,string] -/
def S_slices_Delete_sstring_string (g0_s : Sl) (g1_i : Int) (g2_j : Int) (h : Hp) (Q : List Value → Hp → Prop) : Prop := Fn PP 40 #[(Value.slice g0_s.a g0_s.n g0_s.c), (Value.int .i64 g1_i), (Value.int .i64 g2_j)] h Q
/-- slices.Delete[[]*livery/leaf.one,*livery/leaf.one] -/
def S_slices_Delete_spleaf_one_pleaf_one (g0_s : Sl) (g1_i : Int) (g2_j : Int) (h : Hp) (Q : List Value → Hp → Prop) : Prop := Fn PP 41 #[(Value.slice g0_s.a g0_s.n g0_s.c), (Value.int .i64 g1_i), (Value.int .i64 g2_j)] h Q
/-- (*livery/leaf.Leaves).Remove -/
def S_leaf_Leaves_Remove (g0_x : Option Addr) (g1_k : ByteArray) (h : Hp) (Q : List Value → Hp → Prop) : Prop := Fn PP 21 #[(Value.pointer g0_x), (Value.string g1_k)] h Q
/-- livery/liverylaw10.do -/
def S_liverylaw10_do (g0_x : Option Addr) (g1_s_0 : Int) (g1_s_1 : ByteArray) (g1_s_2 : ByteArray) (h : Hp) (Q : List Value → Hp → Prop) : Prop := Fn PP 16 #[(Value.pointer g0_x), (Value.agg #[(Value.int .i64 g1_s_0), (Value.string g1_s_1), (Value.string g1_s_2)])] h Q
/-- livery/liverykeep.Has -/
def S_liverykeep_Has (g0_l : Sl) (g1_n : Int) (h : Hp) (Q : List Value → Hp → Prop) : Prop := Fn PP 18 #[(Value.slice g0_l.a g0_l.n g0_l.c), (Value.int .i64 g1_n)] h Q
/-- livery/liverylaw10.LeafCovers -/
def S_liverylaw10_LeafCovers (g0_ahead : Sl) (g1_behind : Sl) (g2_s_0 : Int) (g2_s_1 : ByteArray) (g2_s_2 : ByteArray) (h : Hp) (Q : List Value → Hp → Prop) : Prop := Fn PP 4 #[(Value.slice g0_ahead.a g0_ahead.n g0_ahead.c), (Value.slice g1_behind.a g1_behind.n g1_behind.c), (Value.agg #[(Value.int .i64 g2_s_0), (Value.string g2_s_1), (Value.string g2_s_2)])] h Q
/-- livery/liveryref10.New -/
def S_liveryref10_New (g0_fan : Int) (h : Hp) (Q : List Value → Hp → Prop) : Prop := Fn PP 19 #[(Value.int .i64 g0_fan)] h Q
/-- (*livery/liveryref10.Leaves).at -/
def S_liveryref10_Leaves_at (g0_x : Option Addr) (g1_k : ByteArray) (h : Hp) (Q : List Value → Hp → Prop) : Prop := Fn PP 39 #[(Value.pointer g0_x), (Value.string g1_k)] h Q
/-- (*livery/liveryref10.Leaves).Has -/
def S_liveryref10_Leaves_Has (g0_x : Option Addr) (g1_k : ByteArray) (h : Hp) (Q : List Value → Hp → Prop) : Prop := Fn PP 27 #[(Value.pointer g0_x), (Value.string g1_k)] h Q
/-- (*livery/liveryref10.Leaves).Insert -/
def S_liveryref10_Leaves_Insert (g0_x : Option Addr) (g1_k : ByteArray) (h : Hp) (Q : List Value → Hp → Prop) : Prop := Fn PP 20 #[(Value.pointer g0_x), (Value.string g1_k)] h Q
/-- (*livery/liveryref10.Leaves).Remove -/
def S_liveryref10_Leaves_Remove (g0_x : Option Addr) (g1_k : ByteArray) (h : Hp) (Q : List Value → Hp → Prop) : Prop := Fn PP 22 #[(Value.pointer g0_x), (Value.string g1_k)] h Q
/-- (*livery/liveryref10.Leaves).Range -/
def S_liveryref10_Leaves_Range (g0_x : Option Addr) (g1_from : ByteArray) (g2_to : ByteArray) (h : Hp) (Q : List Value → Hp → Prop) : Prop := Fn PP 23 #[(Value.pointer g0_x), (Value.string g1_from), (Value.string g2_to)] h Q
/-- (*livery/leaf.Leaves).Has -/
def S_leaf_Leaves_Has (g0_x : Option Addr) (g1_k : ByteArray) (h : Hp) (Q : List Value → Hp → Prop) : Prop := Fn PP 26 #[(Value.pointer g0_x), (Value.string g1_k)] h Q
/-- (*livery/liveryref10.Leaves).Of -/
def S_liveryref10_Leaves_Of (g0_x : Option Addr) (g1_k : ByteArray) (h : Hp) (Q : List Value → Hp → Prop) : Prop := Fn PP 29 #[(Value.pointer g0_x), (Value.string g1_k)] h Q
/-- (*livery/liveryref10.Leaves).All -/
def S_liveryref10_Leaves_All (g0_x : Option Addr) (h : Hp) (Q : List Value → Hp → Prop) : Prop := Fn PP 30 #[(Value.pointer g0_x)] h Q
/-- (*livery/liveryref10.Leaves).Len -/
def S_liveryref10_Leaves_Len (g0_x : Option Addr) (h : Hp) (Q : List Value → Hp → Prop) : Prop := Fn PP 31 #[(Value.pointer g0_x)] h Q
/-- livery/liverylaw10.LeafPlays -/
def S_liverylaw10_LeafPlays (g0_fan : Int) (g1_l : Sl) (h : Hp) (Q : List Value → Hp → Prop) : Prop := Fn PP 5 #[(Value.int .i64 g0_fan), (Value.slice g1_l.a g1_l.n g1_l.c)] h Q
/-- livery/liverylaw10.LeafOrder -/
def S_liverylaw10_LeafOrder (g0_fan : Int) (g1_l : Sl) (h : Hp) (Q : List Value → Hp → Prop) : Prop := Fn PP 6 #[(Value.int .i64 g0_fan), (Value.slice g1_l.a g1_l.n g1_l.c)] h Q
/-- livery/liverylaw10.LeafNone -/
def S_liverylaw10_LeafNone (g0_k : ByteArray) (h : Hp) (Q : List Value → Hp → Prop) : Prop := Fn PP 7 #[(Value.string g0_k)] h Q
/-- (*livery/leaf.Leaves).Keys$1 -/
def S_leaf_Leaves_Keys_1 (g0_y : Option Addr) (g1_x : Addr) (h : Hp) (Q : List Value → Hp → Prop) : Prop := Fn PP 38 #[(Value.pointer g0_y), (Value.pointer (some g1_x))] h Q
/-- (runtime.boundsError).Error -/
def S_runtime_boundsError_Error (g0_x_0 : Int) (g0_x_1 : Int) (g0_x_2 : Bool) (g0_x_3 : Int) (h : Hp) (Q : List Value → Hp → Prop) : Prop := Fn PP 53 #[(Value.agg #[(Value.int .i64 g0_x_0), (Value.int .i64 g0_x_1), (Value.bool g0_x_2), (Value.int .u8 g0_x_3)])] h Q
/-- (runtime.boundsError).RuntimeError -/
def S_runtime_boundsError_RuntimeError (g0_x_0 : Int) (g0_x_1 : Int) (g0_x_2 : Bool) (g0_x_3 : Int) (h : Hp) (Q : List Value → Hp → Prop) : Prop := Fn PP 54 #[(Value.agg #[(Value.int .i64 g0_x_0), (Value.int .i64 g0_x_1), (Value.bool g0_x_2), (Value.int .u8 g0_x_3)])] h Q
/-- (runtime.errorString).Error -/
def S_runtime_errorString_Error (g0_x : ByteArray) (h : Hp) (Q : List Value → Hp → Prop) : Prop := Fn PP 55 #[(Value.string g0_x)] h Q
/-- (runtime.errorString).RuntimeError -/
def S_runtime_errorString_RuntimeError (g0_x : ByteArray) (h : Hp) (Q : List Value → Hp → Prop) : Prop := Fn PP 56 #[(Value.string g0_x)] h Q
/-- (runtime.plainError).Error -/
def S_runtime_plainError_Error (g0_x : ByteArray) (h : Hp) (Q : List Value → Hp → Prop) : Prop := Fn PP 57 #[(Value.string g0_x)] h Q
/-- (runtime.plainError).RuntimeError -/
def S_runtime_plainError_RuntimeError (g0_x : ByteArray) (h : Hp) (Q : List Value → Hp → Prop) : Prop := Fn PP 58 #[(Value.string g0_x)] h Q
/-- (runtime.errorAddressString).Error -/
def S_runtime_errorAddressString_Error (g0_x_0 : ByteArray) (g0_x_1 : Int) (h : Hp) (Q : List Value → Hp → Prop) : Prop := Fn PP 59 #[(Value.agg #[(Value.string g0_x_0), (Value.int .u64 g0_x_1)])] h Q
/-- (runtime.errorAddressString).RuntimeError -/
def S_runtime_errorAddressString_RuntimeError (g0_x_0 : ByteArray) (g0_x_1 : Int) (h : Hp) (Q : List Value → Hp → Prop) : Prop := Fn PP 60 #[(Value.agg #[(Value.string g0_x_0), (Value.int .u64 g0_x_1)])] h Q
/-- (*runtime.TypeAssertionError).Error -/
def S_runtime_TypeAssertionError_Error (g0_x : Option Addr) (h : Hp) (Q : List Value → Hp → Prop) : Prop := Fn PP 61 #[(Value.pointer g0_x)] h Q
/-- (*runtime.TypeAssertionError).RuntimeError -/
def S_runtime_TypeAssertionError_RuntimeError (g0_x : Option Addr) (h : Hp) (Q : List Value → Hp → Prop) : Prop := Fn PP 62 #[(Value.pointer g0_x)] h Q
/-- (*runtime.PanicNilError).Error -/
def S_runtime_PanicNilError_Error (g0_x : Option Addr) (h : Hp) (Q : List Value → Hp → Prop) : Prop := Fn PP 63 #[(Value.pointer g0_x)] h Q
/-- (*runtime.PanicNilError).RuntimeError -/
def S_runtime_PanicNilError_RuntimeError (g0_x : Option Addr) (h : Hp) (Q : List Value → Hp → Prop) : Prop := Fn PP 64 #[(Value.pointer g0_x)] h Q
/-- (*internal/abi.Type).Align -/
def S_internal_abi_Type_Align (g0_x : Option Addr) (h : Hp) (Q : List Value → Hp → Prop) : Prop := Fn PP 65 #[(Value.pointer g0_x)] h Q
/-- (internal/runtime/maps.unhashableTypeError).Error -/
def S_internal_runtime_maps_unhashableTypeError_Error (g0_x_0 : Option Addr) (h : Hp) (Q : List Value → Hp → Prop) : Prop := Fn PP 66 #[(Value.agg #[(Value.pointer g0_x_0)])] h Q
/-- (internal/runtime/maps.unhashableTypeError).RuntimeError -/
def S_internal_runtime_maps_unhashableTypeError_RuntimeError (g0_x_0 : Option Addr) (h : Hp) (Q : List Value → Hp → Prop) : Prop := Fn PP 67 #[(Value.agg #[(Value.pointer g0_x_0)])] h Q
/-- (livery/api.Errno).Error -/
def S_api_Errno_Error (g0_x : Int) (h : Hp) (Q : List Value → Hp → Prop) : Prop := Fn PP 68 #[(Value.int .i64 g0_x)] h Q
/-- (internal/abi.Kind).String -/
def S_internal_abi_Kind_String (g0_x : Int) (h : Hp) (Q : List Value → Hp → Prop) : Prop := Fn PP 69 #[(Value.int .u8 g0_x)] h Q
def F_gosem_cut_init (h : Hp) (Q : List Value → Hp → Prop) : Prop :=
S_gosem_cut  h fun (vs1 : List Value) (h2 : Hp) =>
vs1 = [] ∧
Q [] h2
def A_gosem_cut_init : Ann := .nil
theorem E_gosem_cut_init (h : Hp) (Q : List Value → Hp → Prop) : cw PP 1 (fun _ => []) (bodyOf Try.f2) A_gosem_cut_init (finQ PP (Try.f2.results.toList) Q) (argFr []) h = F_gosem_cut_init h Q := by kernel_rfl
theorem O_gosem_cut_init {h : Hp} {Q : List Value → Hp → Prop} (H : F_gosem_cut_init h Q) : S_gosem_cut_init h Q :=
  fn_of_cw (hs := (fun _ => [])) (ann := A_gosem_cut_init) (args := []) mixedPP Try.func2 (c := bodyOf Try.f2) (by kernel_rfl) (by kernel_rfl) (by kernel_rfl) (Eq.mpr (E_gosem_cut_init h Q) H)
def F_leaf_New (g0_fan : Int) (h : Hp) (Q : List Value → Hp → Prop) : Prop :=
∀ J1 : List Value → Hp → Prop, (∀ b2 : Bool, ∀ h3 : Hp, ((if b2 = true then
      (Q [(Value.pointer none), (Value.int .i64 (1 : Int))] h3) else
      (wth (Array.push h3 (Obj.cells #[(Value.int .i64 (1 : Int)), (Value.string (ByteArray.mk #[])), (Value.slice none 0 0)] T_leaf_one)) fun h4 =>
        wth (Array.push h4 (Obj.cells #[(Value.pointer (some (Addr.mk (Array.size h3) 0 none)))] T_pleaf_one)) fun h5 =>
        wth (Array.push h5 (Obj.cells #[(Value.int .i64 g0_fan), (Value.slice (some (Addr.mk (Array.size h4) 0 none)) 1 1), (Value.int .i64 (2 : Int))] T_leaf_Leaves)) fun h6 =>
        Q [(Value.pointer (some (Addr.mk (Array.size h5) 0 none))), (Value.int .i64 (0 : Int))] h6))) → J1 [(Value.bool b2)] h3) →
(if (decide (g0_fan < (2 : Int))) = true then (J1 [(Value.bool true)] h) else
  (J1 [(Value.bool (decide (g0_fan > (64 : Int))))] h))
def A_leaf_New : Ann := (.mk none ⟨[], []⟩ .nil (.mk none ⟨[], []⟩ (.mk none ⟨[], []⟩ (.mk (some ⟨[0], [(9, (.c .bool))]⟩) ⟨[], []⟩ .nil .nil) .nil) .nil))
theorem E_leaf_New (g0_fan : Int) (h : Hp) (Q : List Value → Hp → Prop) : cw PP 16 (fun _ => []) (bodyOf Try.f8) A_leaf_New (finQ PP (Try.f8.results.toList) Q) (argFr [(Value.int .i64 g0_fan)]) h = F_leaf_New g0_fan h Q := by kernel_rfl
theorem O_leaf_New (g0_fan : Int) {h : Hp} {Q : List Value → Hp → Prop} (H : F_leaf_New g0_fan h Q) : S_leaf_New g0_fan h Q :=
  fn_of_cw (hs := (fun _ => [])) (ann := A_leaf_New) (args := [(Value.int .i64 g0_fan)]) mixedPP Try.func8 (c := bodyOf Try.f8) (by kernel_rfl) (by kernel_rfl) (by kernel_rfl) (Eq.mpr (E_leaf_New g0_fan h Q) H)
def F_leaf_Leaves_at (g0_x : Option Addr) (g1_k : ByteArray) (h : Hp) (Q : List Value → Hp → Prop) : Prop :=
nilW g0_x fun a1 => ∃ l2 : Sl, rd h (Addr.add a1 1) = some (Value.slice l2.a l2.n l2.c) ∧
∀ J3 : List Value → Hp → Prop, (∀ n4 : Int, ∀ h5 : Hp, (Q [(Value.int .i64 n4)] h5) → J3 [(Value.int .i64 n4)] h5) →
∀ X6 : List Value → Hp → Prop, (∀ n7 : Int, ∀ n8 : Int, ∀ h9 : Hp, ((if (decide (n8 < (l2.n : Int))) = true then
      (nilW l2.a fun a10 => ixOk n8 l2.n (∃ p11 : Option Addr, rd h9 (Addr.add a10 (Int.toNat n8 * 1)) = some (Value.pointer p11) ∧
          ∀ J12 : List Value → Hp → Prop, (∀ b13 : Bool, ∀ h14 : Hp, ((if b13 = true then
                (J3 [(Value.int .i64 n7)] h14) else
                (X6 [(Value.int .i64 n8), (Value.int .i64 (IntKind.wrap .i64 (n8 + (1 : Int))))] h14))) → J12 [(Value.bool b13)] h14) →
          (if (decide (n8 > (0 : Int))) = true then (nilW p11 fun a15 => ∃ s16 : ByteArray, rd h9 (Addr.add a15 1) = some (Value.string s16) ∧
              J12 [(Value.bool (!(Op.bytesLess (ByteArray.toList s16) (ByteArray.toList g1_k) || (ByteArray.toList s16) == (ByteArray.toList g1_k))))] h9) else
            (J12 [(Value.bool false)] h9)))) else
      (J3 [(Value.int .i64 n7)] h9))) → X6 [(Value.int .i64 n7), (Value.int .i64 n8)] h9) →
X6 [(Value.int .i64 (0 : Int)), (Value.int .i64 (0 : Int))] h
def A_leaf_Leaves_at : Ann := (.mk none ⟨[], []⟩ .nil (.mk none ⟨[], []⟩ (.mk none ⟨[], []⟩ .nil (.mk none ⟨[], []⟩ .nil (.mk none ⟨[], []⟩ (.mk none ⟨[], []⟩ .nil (.mk (some ⟨[], [(5, (.c (.int .i64)))]⟩) ⟨[], []⟩ (.mk none ⟨[1, 11, 12], [(5, (.c (.int .i64))), (13, (.c (.int .i64)))]⟩ (.mk none ⟨[], []⟩ .nil (.mk none ⟨[], []⟩ .nil (.mk none ⟨[], []⟩ (.mk none ⟨[], []⟩ (.mk none ⟨[], []⟩ .nil (.mk none ⟨[], []⟩ (.mk none ⟨[], []⟩ (.mk (some ⟨[1, 5, 6, 11, 12, 13], [(27, (.c .bool))]⟩) ⟨[], []⟩ .nil .nil) .nil) .nil)) .nil) .nil))) .nil) .nil)) .nil))) .nil))
theorem E_leaf_Leaves_at (g0_x : Option Addr) (g1_k : ByteArray) (h : Hp) (Q : List Value → Hp → Prop) : cw PP 31 (fun _ => []) (bodyOf Try.f32) A_leaf_Leaves_at (finQ PP (Try.f32.results.toList) Q) (argFr [(Value.pointer g0_x), (Value.string g1_k)]) h = F_leaf_Leaves_at g0_x g1_k h Q := by kernel_rfl
theorem O_leaf_Leaves_at (g0_x : Option Addr) (g1_k : ByteArray) {h : Hp} {Q : List Value → Hp → Prop} (H : F_leaf_Leaves_at g0_x g1_k h Q) : S_leaf_Leaves_at g0_x g1_k h Q :=
  fn_of_cw (hs := (fun _ => [])) (ann := A_leaf_Leaves_at) (args := [(Value.pointer g0_x), (Value.string g1_k)]) mixedPP Try.func32 (c := bodyOf Try.f32) (by kernel_rfl) (by kernel_rfl) (by kernel_rfl) (Eq.mpr (E_leaf_Leaves_at g0_x g1_k h Q) H)
def F_cmp_isNaN_string (g0_x : ByteArray) (h : Hp) (Q : List Value → Hp → Prop) : Prop :=
Q [(Value.bool (!((ByteArray.toList g0_x) == (ByteArray.toList g0_x))))] h
def A_cmp_isNaN_string : Ann := .nil
theorem E_cmp_isNaN_string (g0_x : ByteArray) (h : Hp) (Q : List Value → Hp → Prop) : cw PP 6 (fun _ => []) (bodyOf Try.f48) A_cmp_isNaN_string (finQ PP (Try.f48.results.toList) Q) (argFr [(Value.string g0_x)]) h = F_cmp_isNaN_string g0_x h Q := by kernel_rfl
theorem O_cmp_isNaN_string (g0_x : ByteArray) {h : Hp} {Q : List Value → Hp → Prop} (H : F_cmp_isNaN_string g0_x h Q) : S_cmp_isNaN_string g0_x h Q :=
  fn_of_cw (hs := (fun _ => [])) (ann := A_cmp_isNaN_string) (args := [(Value.string g0_x)]) mixedPP Try.func48 (c := bodyOf Try.f48) (by kernel_rfl) (by kernel_rfl) (by kernel_rfl) (Eq.mpr (E_cmp_isNaN_string g0_x h Q) H)
def F_cmp_Less_string (g0_x : ByteArray) (g1_y : ByteArray) (h : Hp) (Q : List Value → Hp → Prop) : Prop :=
S_cmp_isNaN_string g0_x h fun (vs1 : List Value) (h2 : Hp) =>
∃ b3 : Bool, vs1 = [(Value.bool b3)] ∧
(if b3 = true then (S_cmp_isNaN_string g1_y h2 fun (vs4 : List Value) (h5 : Hp) =>
    ∃ b6 : Bool, vs4 = [(Value.bool b6)] ∧
    (if (!b6) = true then (Q [(Value.bool true)] h5) else
      (Q [(Value.bool (Op.bytesLess (ByteArray.toList g0_x) (ByteArray.toList g1_y)))] h5))) else
  (Q [(Value.bool (Op.bytesLess (ByteArray.toList g0_x) (ByteArray.toList g1_y)))] h2))
def A_cmp_Less_string : Ann := .nil
theorem E_cmp_Less_string (g0_x : ByteArray) (g1_y : ByteArray) (h : Hp) (Q : List Value → Hp → Prop) : cw PP 17 (fun _ => []) (bodyOf Try.f42) A_cmp_Less_string (finQ PP (Try.f42.results.toList) Q) (argFr [(Value.string g0_x), (Value.string g1_y)]) h = F_cmp_Less_string g0_x g1_y h Q := by kernel_rfl
theorem O_cmp_Less_string (g0_x : ByteArray) (g1_y : ByteArray) {h : Hp} {Q : List Value → Hp → Prop} (H : F_cmp_Less_string g0_x g1_y h Q) : S_cmp_Less_string g0_x g1_y h Q :=
  fn_of_cw (hs := (fun _ => [])) (ann := A_cmp_Less_string) (args := [(Value.string g0_x), (Value.string g1_y)]) mixedPP Try.func42 (c := bodyOf Try.f42) (by kernel_rfl) (by kernel_rfl) (by kernel_rfl) (Eq.mpr (E_cmp_Less_string g0_x g1_y h Q) H)
def F_slices_isNaN_string (g0_x : ByteArray) (h : Hp) (Q : List Value → Hp → Prop) : Prop :=
Q [(Value.bool (!((ByteArray.toList g0_x) == (ByteArray.toList g0_x))))] h
def A_slices_isNaN_string : Ann := .nil
theorem E_slices_isNaN_string (g0_x : ByteArray) (h : Hp) (Q : List Value → Hp → Prop) : cw PP 6 (fun _ => []) (bodyOf Try.f43) A_slices_isNaN_string (finQ PP (Try.f43.results.toList) Q) (argFr [(Value.string g0_x)]) h = F_slices_isNaN_string g0_x h Q := by kernel_rfl
theorem O_slices_isNaN_string (g0_x : ByteArray) {h : Hp} {Q : List Value → Hp → Prop} (H : F_slices_isNaN_string g0_x h Q) : S_slices_isNaN_string g0_x h Q :=
  fn_of_cw (hs := (fun _ => [])) (ann := A_slices_isNaN_string) (args := [(Value.string g0_x)]) mixedPP Try.func43 (c := bodyOf Try.f43) (by kernel_rfl) (by kernel_rfl) (by kernel_rfl) (Eq.mpr (E_slices_isNaN_string g0_x h Q) H)
def F_slices_BinarySearch_sstring_string (g0_x : Sl) (g1_target : ByteArray) (h : Hp) (Q : List Value → Hp → Prop) : Prop :=
∀ X1 : List Value → Hp → Prop, (∀ n2 : Int, ∀ n3 : Int, ∀ h4 : Hp, ((if (decide (n2 < n3)) = true then
      (shOk (1 : Int) (nilW g0_x.a fun a5 => ixOk (IntKind.wrap .i64 (iShr .u64 (IntKind.wrap .u64 (IntKind.wrap .i64 (n2 + n3))) (1 : Int))) g0_x.n (∃ s6 : ByteArray, rd h4 (Addr.add a5 (Int.toNat (IntKind.wrap .i64 (iShr .u64 (IntKind.wrap .u64 (IntKind.wrap .i64 (n2 + n3))) (1 : Int))) * 1)) = some (Value.string s6) ∧
            S_cmp_Less_string s6 g1_target h4 fun (vs7 : List Value) (h8 : Hp) =>
            ∃ b9 : Bool, vs7 = [(Value.bool b9)] ∧
            (if b9 = true then
              (X1 [(Value.int .i64 (IntKind.wrap .i64 ((IntKind.wrap .i64 (iShr .u64 (IntKind.wrap .u64 (IntKind.wrap .i64 (n2 + n3))) (1 : Int))) + (1 : Int)))), (Value.int .i64 n3)] h8) else
              (X1 [(Value.int .i64 n2), (Value.int .i64 (IntKind.wrap .i64 (iShr .u64 (IntKind.wrap .u64 (IntKind.wrap .i64 (n2 + n3))) (1 : Int))))] h8))))) else
      ((if (decide (n2 < (g0_x.n : Int))) = true then (nilW g0_x.a fun a10 => ixOk n2 g0_x.n (∃ s11 : ByteArray, rd h4 (Addr.add a10 (Int.toNat n2 * 1)) = some (Value.string s11) ∧
              (if ((ByteArray.toList s11) == (ByteArray.toList g1_target)) = true then (Q [(Value.int .i64 n2), (Value.bool true)] h4) else
                (nilW g0_x.a fun a12 => ixOk n2 g0_x.n (∃ s13 : ByteArray, rd h4 (Addr.add a12 (Int.toNat n2 * 1)) = some (Value.string s13) ∧
                    S_slices_isNaN_string s13 h4 fun (vs14 : List Value) (h15 : Hp) =>
                    ∃ b16 : Bool, vs14 = [(Value.bool b16)] ∧
                    (if b16 = true then (S_slices_isNaN_string g1_target h15 fun (vs17 : List Value) (h18 : Hp) =>
                        ∃ b19 : Bool, vs17 = [(Value.bool b19)] ∧
                        Q [(Value.int .i64 n2), (Value.bool b19)] h18) else
                      (Q [(Value.int .i64 n2), (Value.bool false)] h15))))))) else
          (Q [(Value.int .i64 n2), (Value.bool false)] h4))))) → X1 [(Value.int .i64 n2), (Value.int .i64 n3)] h4) →
X1 [(Value.int .i64 (0 : Int)), (Value.int .i64 (g0_x.n : Int))] h
def A_slices_BinarySearch_sstring_string : Ann := (.mk none ⟨[], []⟩ .nil (.mk none ⟨[], []⟩ .nil (.mk none ⟨[], []⟩ .nil (.mk none ⟨[], []⟩ (.mk none ⟨[], []⟩ (.mk none ⟨[0, 1, 6], [(7, (.c (.int .i64))), (8, (.c (.int .i64)))]⟩ .nil .nil) .nil) .nil))))
theorem E_slices_BinarySearch_sstring_string (g0_x : Sl) (g1_target : ByteArray) (h : Hp) (Q : List Value → Hp → Prop) : cw PP 54 (fun _ => []) (bodyOf Try.f33) A_slices_BinarySearch_sstring_string (finQ PP (Try.f33.results.toList) Q) (argFr [(Value.slice g0_x.a g0_x.n g0_x.c), (Value.string g1_target)]) h = F_slices_BinarySearch_sstring_string g0_x g1_target h Q := by kernel_rfl
theorem O_slices_BinarySearch_sstring_string (g0_x : Sl) (g1_target : ByteArray) {h : Hp} {Q : List Value → Hp → Prop} (H : F_slices_BinarySearch_sstring_string g0_x g1_target h Q) : S_slices_BinarySearch_sstring_string g0_x g1_target h Q :=
  fn_of_cw (hs := (fun _ => [])) (ann := A_slices_BinarySearch_sstring_string) (args := [(Value.slice g0_x.a g0_x.n g0_x.c), (Value.string g1_target)]) mixedPP Try.func33 (c := bodyOf Try.f33) (by kernel_rfl) (by kernel_rfl) (by kernel_rfl) (Eq.mpr (E_slices_BinarySearch_sstring_string g0_x g1_target h Q) H)
def F_slices_Reverse_sstring_string (g0_s : Sl) (h : Hp) (Q : List Value → Hp → Prop) : Prop :=
∀ X1 : List Value → Hp → Prop, (∀ n2 : Int, ∀ n3 : Int, ∀ h4 : Hp, ((if (decide (n2 < n3)) = true then
      (nilW g0_s.a fun a5 => ixOk n3 g0_s.n (∃ s6 : ByteArray, rd h4 (Addr.add a5 (Int.toNat n3 * 1)) = some (Value.string s6) ∧
          nilW g0_s.a fun a7 => ixOk n2 g0_s.n (∃ s8 : ByteArray, rd h4 (Addr.add a7 (Int.toNat n2 * 1)) = some (Value.string s8) ∧
            nilW g0_s.a fun a9 => ixOk n2 g0_s.n (stOk h4 (Addr.add a9 (Int.toNat n2 * 1)) 1 ∧ wth (wrs h4 (Addr.add a9 (Int.toNat n2 * 1)) 0 [(Value.string s6)]) fun h10 =>
              nilW g0_s.a fun a11 => ixOk n3 g0_s.n (stOk h10 (Addr.add a11 (Int.toNat n3 * 1)) 1 ∧ wth (wrs h10 (Addr.add a11 (Int.toNat n3 * 1)) 0 [(Value.string s8)]) fun h12 =>
                X1 [(Value.int .i64 (IntKind.wrap .i64 (n2 + (1 : Int)))), (Value.int .i64 (IntKind.wrap .i64 (n3 - (1 : Int))))] h12))))) else
      (Q [] h4))) → X1 [(Value.int .i64 n2), (Value.int .i64 n3)] h4) →
X1 [(Value.int .i64 (0 : Int)), (Value.int .i64 (IntKind.wrap .i64 ((g0_s.n : Int) - (1 : Int))))] h
def A_slices_Reverse_sstring_string : Ann := (.mk none ⟨[], []⟩ .nil (.mk none ⟨[], []⟩ (.mk none ⟨[0], [(2, (.c (.int .i64))), (3, (.c (.int .i64)))]⟩ .nil .nil) .nil))
theorem E_slices_Reverse_sstring_string (g0_s : Sl) (h : Hp) (Q : List Value → Hp → Prop) : cw PP 28 (fun _ => []) (bodyOf Try.f51) A_slices_Reverse_sstring_string (finQ PP (Try.f51.results.toList) Q) (argFr [(Value.slice g0_s.a g0_s.n g0_s.c)]) h = F_slices_Reverse_sstring_string g0_s h Q := by kernel_rfl
theorem O_slices_Reverse_sstring_string (g0_s : Sl) {h : Hp} {Q : List Value → Hp → Prop} (H : F_slices_Reverse_sstring_string g0_s h Q) : S_slices_Reverse_sstring_string g0_s h Q :=
  fn_of_cw (hs := (fun _ => [])) (ann := A_slices_Reverse_sstring_string) (args := [(Value.slice g0_s.a g0_s.n g0_s.c)]) mixedPP Try.func51 (c := bodyOf Try.f51) (by kernel_rfl) (by kernel_rfl) (by kernel_rfl) (Eq.mpr (E_slices_Reverse_sstring_string g0_s h Q) H)
def F_slices_rotateLeft_string (g0_s : Sl) (g1_r : Int) (h : Hp) (Q : List Value → Hp → Prop) : Prop :=
(0 ≤ g1_r ∧ g1_r ≤ (g0_s.c : Nat)) ∧ S_slices_Reverse_sstring_string ⟨(slAd g0_s.a 0 g0_s.c 1), ((Int.toNat g1_r) - 0), (g0_s.c - 0)⟩ h fun (vs1 : List Value) (h2 : Hp) =>
vs1 = [] ∧
(0 ≤ g1_r ∧ g1_r ≤ (g0_s.n : Nat)) ∧ S_slices_Reverse_sstring_string ⟨(slAd g0_s.a (Int.toNat g1_r) g0_s.c 1), (g0_s.n - (Int.toNat g1_r)), (g0_s.c - (Int.toNat g1_r))⟩ h2 fun (vs3 : List Value) (h4 : Hp) =>
vs3 = [] ∧
S_slices_Reverse_sstring_string ⟨g0_s.a, g0_s.n, g0_s.c⟩ h4 fun (vs5 : List Value) (h6 : Hp) =>
vs5 = [] ∧
Q [] h6
def A_slices_rotateLeft_string : Ann := .nil
theorem E_slices_rotateLeft_string (g0_s : Sl) (g1_r : Int) (h : Hp) (Q : List Value → Hp → Prop) : cw PP 14 (fun _ => []) (bodyOf Try.f49) A_slices_rotateLeft_string (finQ PP (Try.f49.results.toList) Q) (argFr [(Value.slice g0_s.a g0_s.n g0_s.c), (Value.int .i64 g1_r)]) h = F_slices_rotateLeft_string g0_s g1_r h Q := by kernel_rfl
theorem O_slices_rotateLeft_string (g0_s : Sl) (g1_r : Int) {h : Hp} {Q : List Value → Hp → Prop} (H : F_slices_rotateLeft_string g0_s g1_r h Q) : S_slices_rotateLeft_string g0_s g1_r h Q :=
  fn_of_cw (hs := (fun _ => [])) (ann := A_slices_rotateLeft_string) (args := [(Value.slice g0_s.a g0_s.n g0_s.c), (Value.int .i64 g1_r)]) mixedPP Try.func49 (c := bodyOf Try.f49) (by kernel_rfl) (by kernel_rfl) (by kernel_rfl) (Eq.mpr (E_slices_rotateLeft_string g0_s g1_r h Q) H)
def F_slices_rotateRight_string (g0_s : Sl) (g1_r : Int) (h : Hp) (Q : List Value → Hp → Prop) : Prop :=
S_slices_rotateLeft_string ⟨g0_s.a, g0_s.n, g0_s.c⟩ (IntKind.wrap .i64 ((g0_s.n : Int) - g1_r)) h fun (vs1 : List Value) (h2 : Hp) =>
vs1 = [] ∧
Q [] h2
def A_slices_rotateRight_string : Ann := .nil
theorem E_slices_rotateRight_string (g0_s : Sl) (g1_r : Int) (h : Hp) (Q : List Value → Hp → Prop) : cw PP 10 (fun _ => []) (bodyOf Try.f45) A_slices_rotateRight_string (finQ PP (Try.f45.results.toList) Q) (argFr [(Value.slice g0_s.a g0_s.n g0_s.c), (Value.int .i64 g1_r)]) h = F_slices_rotateRight_string g0_s g1_r h Q := by kernel_rfl
theorem O_slices_rotateRight_string (g0_s : Sl) (g1_r : Int) {h : Hp} {Q : List Value → Hp → Prop} (H : F_slices_rotateRight_string g0_s g1_r h Q) : S_slices_rotateRight_string g0_s g1_r h Q :=
  fn_of_cw (hs := (fun _ => [])) (ann := A_slices_rotateRight_string) (args := [(Value.slice g0_s.a g0_s.n g0_s.c), (Value.int .i64 g1_r)]) mixedPP Try.func45 (c := bodyOf Try.f45) (by kernel_rfl) (by kernel_rfl) (by kernel_rfl) (Eq.mpr (E_slices_rotateRight_string g0_s g1_r h Q) H)
def F_slices_Insert_sstring_string (g0_s : Sl) (g1_i : Int) (g2_v : Sl) (h : Hp) (Q : List Value → Hp → Prop) : Prop :=
(0 ≤ g1_i ∧ g1_i ≤ (g0_s.n : Nat)) ∧ (if ((g2_v.n : Int) == (0 : Int)) = true then
  (Q [(Value.slice g0_s.a g0_s.n g0_s.c)] h) else
  ((if (g1_i == (g0_s.n : Int)) = true then
      (∃ cs3 : List Value, cellsAt h g2_v.a (g2_v.n * 1) cs3 ∧ appS PP T_string 16 1 h ⟨g0_s.a, g0_s.n, g0_s.c⟩ g2_v.n cs3 fun (l1 : Sl) (h2 : Hp) =>
        Q [(Value.slice l1.a l1.n l1.c)] h2) else
      ((if (decide ((IntKind.wrap .i64 ((g0_s.n : Int) + (g2_v.n : Int))) > ((g0_s.c : Nat) : Int))) = true then
          ((0 ≤ g1_i ∧ g1_i ≤ (g0_s.c : Nat)) ∧ (0 ≤ (IntKind.wrap .i64 ((IntKind.wrap .i64 ((g0_s.n : Int) + (g2_v.n : Int))) - g1_i)) ∧ (IntKind.wrap .i64 ((IntKind.wrap .i64 ((g0_s.n : Int) + (g2_v.n : Int))) - g1_i)) < 2 ^ 63 ∧ (IntKind.wrap .i64 ((IntKind.wrap .i64 ((g0_s.n : Int) + (g2_v.n : Int))) - g1_i)) * (16 : Nat) ≤ 2 ^ 47) ∧ appS PP T_string 16 1 h ⟨(slAd g0_s.a 0 g0_s.c 1), ((Int.toNat g1_i) - 0), (g0_s.c - 0)⟩ (Int.toNat (IntKind.wrap .i64 ((IntKind.wrap .i64 ((g0_s.n : Int) + (g2_v.n : Int))) - g1_i))) (Array.toList (Builtin.zeroCells (zc PP T_string) (Int.toNat (IntKind.wrap .i64 ((IntKind.wrap .i64 ((g0_s.n : Int) + (g2_v.n : Int))) - g1_i))))) fun (l4 : Sl) (h5 : Hp) =>
            (0 ≤ g1_i ∧ g1_i ≤ (l4.n : Nat)) ∧ ∃ cs6 : List Value, cellsAt h5 g2_v.a ((Nat.min g2_v.n (l4.n - (Int.toNat g1_i))) * 1) cs6 ∧ cpOk h5 (slAd l4.a (Int.toNat g1_i) l4.c 1) ((Nat.min g2_v.n (l4.n - (Int.toNat g1_i))) * 1) cs6 ∧ wth (cpHp h5 (slAd l4.a (Int.toNat g1_i) l4.c 1) cs6) fun h7 =>
            (0 ≤ (IntKind.wrap .i64 (g1_i + (g2_v.n : Int))) ∧ (IntKind.wrap .i64 (g1_i + (g2_v.n : Int))) ≤ (l4.n : Nat)) ∧ (0 ≤ g1_i ∧ g1_i ≤ (g0_s.n : Nat)) ∧ ∃ cs8 : List Value, cellsAt h7 (slAd g0_s.a (Int.toNat g1_i) g0_s.c 1) ((Nat.min (g0_s.n - (Int.toNat g1_i)) (l4.n - (Int.toNat (IntKind.wrap .i64 (g1_i + (g2_v.n : Int)))))) * 1) cs8 ∧ cpOk h7 (slAd l4.a (Int.toNat (IntKind.wrap .i64 (g1_i + (g2_v.n : Int)))) l4.c 1) ((Nat.min (g0_s.n - (Int.toNat g1_i)) (l4.n - (Int.toNat (IntKind.wrap .i64 (g1_i + (g2_v.n : Int)))))) * 1) cs8 ∧ wth (cpHp h7 (slAd l4.a (Int.toNat (IntKind.wrap .i64 (g1_i + (g2_v.n : Int)))) l4.c 1) cs8) fun h9 =>
            Q [(Value.slice l4.a l4.n l4.c)] h9) else
          ((0 ≤ (IntKind.wrap .i64 ((g0_s.n : Int) + (g2_v.n : Int))) ∧ (IntKind.wrap .i64 ((g0_s.n : Int) + (g2_v.n : Int))) ≤ (g0_s.c : Nat)) ∧ (0 ≤ (IntKind.wrap .i64 (g1_i + (g2_v.n : Int))) ∧ (IntKind.wrap .i64 (g1_i + (g2_v.n : Int))) ≤ (((Int.toNat (IntKind.wrap .i64 ((g0_s.n : Int) + (g2_v.n : Int)))) - 0) : Nat)) ∧ S_slices_overlaps_string ⟨g2_v.a, g2_v.n, g2_v.c⟩ ⟨(slAd (slAd g0_s.a 0 g0_s.c 1) (Int.toNat (IntKind.wrap .i64 (g1_i + (g2_v.n : Int)))) (g0_s.c - 0) 1), (((Int.toNat (IntKind.wrap .i64 ((g0_s.n : Int) + (g2_v.n : Int)))) - 0) - (Int.toNat (IntKind.wrap .i64 (g1_i + (g2_v.n : Int))))), ((g0_s.c - 0) - (Int.toNat (IntKind.wrap .i64 (g1_i + (g2_v.n : Int)))))⟩ h fun (vs10 : List Value) (h11 : Hp) =>
            ∃ b12 : Bool, vs10 = [(Value.bool b12)] ∧
            (if (!b12) = true then
              ((0 ≤ (IntKind.wrap .i64 (g1_i + (g2_v.n : Int))) ∧ (IntKind.wrap .i64 (g1_i + (g2_v.n : Int))) ≤ (((Int.toNat (IntKind.wrap .i64 ((g0_s.n : Int) + (g2_v.n : Int)))) - 0) : Nat)) ∧ (0 ≤ g1_i ∧ g1_i ≤ (((Int.toNat (IntKind.wrap .i64 ((g0_s.n : Int) + (g2_v.n : Int)))) - 0) : Nat)) ∧ ∃ cs13 : List Value, cellsAt h11 (slAd (slAd g0_s.a 0 g0_s.c 1) (Int.toNat g1_i) (g0_s.c - 0) 1) ((Nat.min (((Int.toNat (IntKind.wrap .i64 ((g0_s.n : Int) + (g2_v.n : Int)))) - 0) - (Int.toNat g1_i)) (((Int.toNat (IntKind.wrap .i64 ((g0_s.n : Int) + (g2_v.n : Int)))) - 0) - (Int.toNat (IntKind.wrap .i64 (g1_i + (g2_v.n : Int)))))) * 1) cs13 ∧ cpOk h11 (slAd (slAd g0_s.a 0 g0_s.c 1) (Int.toNat (IntKind.wrap .i64 (g1_i + (g2_v.n : Int)))) (g0_s.c - 0) 1) ((Nat.min (((Int.toNat (IntKind.wrap .i64 ((g0_s.n : Int) + (g2_v.n : Int)))) - 0) - (Int.toNat g1_i)) (((Int.toNat (IntKind.wrap .i64 ((g0_s.n : Int) + (g2_v.n : Int)))) - 0) - (Int.toNat (IntKind.wrap .i64 (g1_i + (g2_v.n : Int)))))) * 1) cs13 ∧ wth (cpHp h11 (slAd (slAd g0_s.a 0 g0_s.c 1) (Int.toNat (IntKind.wrap .i64 (g1_i + (g2_v.n : Int)))) (g0_s.c - 0) 1) cs13) fun h14 =>
                (0 ≤ g1_i ∧ g1_i ≤ (((Int.toNat (IntKind.wrap .i64 ((g0_s.n : Int) + (g2_v.n : Int)))) - 0) : Nat)) ∧ ∃ cs15 : List Value, cellsAt h14 g2_v.a ((Nat.min g2_v.n (((Int.toNat (IntKind.wrap .i64 ((g0_s.n : Int) + (g2_v.n : Int)))) - 0) - (Int.toNat g1_i))) * 1) cs15 ∧ cpOk h14 (slAd (slAd g0_s.a 0 g0_s.c 1) (Int.toNat g1_i) (g0_s.c - 0) 1) ((Nat.min g2_v.n (((Int.toNat (IntKind.wrap .i64 ((g0_s.n : Int) + (g2_v.n : Int)))) - 0) - (Int.toNat g1_i))) * 1) cs15 ∧ wth (cpHp h14 (slAd (slAd g0_s.a 0 g0_s.c 1) (Int.toNat g1_i) (g0_s.c - 0) 1) cs15) fun h16 =>
                Q [(Value.slice (slAd g0_s.a 0 g0_s.c 1) ((Int.toNat (IntKind.wrap .i64 ((g0_s.n : Int) + (g2_v.n : Int)))) - 0) (g0_s.c - 0))] h16) else
              ((0 ≤ (g0_s.n : Int) ∧ (g0_s.n : Int) ≤ (((Int.toNat (IntKind.wrap .i64 ((g0_s.n : Int) + (g2_v.n : Int)))) - 0) : Nat)) ∧ ∃ cs17 : List Value, cellsAt h11 g2_v.a ((Nat.min g2_v.n (((Int.toNat (IntKind.wrap .i64 ((g0_s.n : Int) + (g2_v.n : Int)))) - 0) - (Int.toNat (g0_s.n : Int)))) * 1) cs17 ∧ cpOk h11 (slAd (slAd g0_s.a 0 g0_s.c 1) (Int.toNat (g0_s.n : Int)) (g0_s.c - 0) 1) ((Nat.min g2_v.n (((Int.toNat (IntKind.wrap .i64 ((g0_s.n : Int) + (g2_v.n : Int)))) - 0) - (Int.toNat (g0_s.n : Int)))) * 1) cs17 ∧ wth (cpHp h11 (slAd (slAd g0_s.a 0 g0_s.c 1) (Int.toNat (g0_s.n : Int)) (g0_s.c - 0) 1) cs17) fun h18 =>
                (0 ≤ g1_i ∧ g1_i ≤ (((Int.toNat (IntKind.wrap .i64 ((g0_s.n : Int) + (g2_v.n : Int)))) - 0) : Nat)) ∧ S_slices_rotateRight_string ⟨(slAd (slAd g0_s.a 0 g0_s.c 1) (Int.toNat g1_i) (g0_s.c - 0) 1), (((Int.toNat (IntKind.wrap .i64 ((g0_s.n : Int) + (g2_v.n : Int)))) - 0) - (Int.toNat g1_i)), ((g0_s.c - 0) - (Int.toNat g1_i))⟩ (g2_v.n : Int) h18 fun (vs19 : List Value) (h20 : Hp) =>
                vs19 = [] ∧
                Q [(Value.slice (slAd g0_s.a 0 g0_s.c 1) ((Int.toNat (IntKind.wrap .i64 ((g0_s.n : Int) + (g2_v.n : Int)))) - 0) (g0_s.c - 0))] h20))))))))
def A_slices_Insert_sstring_string : Ann := .nil
theorem E_slices_Insert_sstring_string (g0_s : Sl) (g1_i : Int) (g2_v : Sl) (h : Hp) (Q : List Value → Hp → Prop) : cw PP 95 (fun _ => []) (bodyOf Try.f34) A_slices_Insert_sstring_string (finQ PP (Try.f34.results.toList) Q) (argFr [(Value.slice g0_s.a g0_s.n g0_s.c), (Value.int .i64 g1_i), (Value.slice g2_v.a g2_v.n g2_v.c)]) h = F_slices_Insert_sstring_string g0_s g1_i g2_v h Q := by kernel_rfl
theorem O_slices_Insert_sstring_string (g0_s : Sl) (g1_i : Int) (g2_v : Sl) {h : Hp} {Q : List Value → Hp → Prop} (H : F_slices_Insert_sstring_string g0_s g1_i g2_v h Q) : S_slices_Insert_sstring_string g0_s g1_i g2_v h Q :=
  fn_of_cw (hs := (fun _ => [])) (ann := A_slices_Insert_sstring_string) (args := [(Value.slice g0_s.a g0_s.n g0_s.c), (Value.int .i64 g1_i), (Value.slice g2_v.a g2_v.n g2_v.c)]) mixedPP Try.func34 (c := bodyOf Try.f34) (by kernel_rfl) (by kernel_rfl) (by kernel_rfl) (Eq.mpr (E_slices_Insert_sstring_string g0_s g1_i g2_v h Q) H)
def F_slices_Clone_sstring_string (g0_s : Sl) (h : Hp) (Q : List Value → Hp → Prop) : Prop :=
(if (Option.isNone g0_s.a) = true then
  (Q [(Value.slice none 0 0)] h) else
  (wth (Array.push h (Obj.cells #[] T_string)) fun h1 =>
    ∃ cs4 : List Value, cellsAt h1 g0_s.a (g0_s.n * 1) cs4 ∧ appS PP T_string 16 1 h1 ⟨(some (Addr.mk (Array.size h) 0 none)), 0, 0⟩ g0_s.n cs4 fun (l2 : Sl) (h3 : Hp) =>
    Q [(Value.slice l2.a l2.n l2.c)] h3))
def A_slices_Clone_sstring_string : Ann := .nil
theorem E_slices_Clone_sstring_string (g0_s : Sl) (h : Hp) (Q : List Value → Hp → Prop) : cw PP 8 (fun _ => []) (bodyOf Try.f35) A_slices_Clone_sstring_string (finQ PP (Try.f35.results.toList) Q) (argFr [(Value.slice g0_s.a g0_s.n g0_s.c)]) h = F_slices_Clone_sstring_string g0_s h Q := by kernel_rfl
theorem O_slices_Clone_sstring_string (g0_s : Sl) {h : Hp} {Q : List Value → Hp → Prop} (H : F_slices_Clone_sstring_string g0_s h Q) : S_slices_Clone_sstring_string g0_s h Q :=
  fn_of_cw (hs := (fun _ => [])) (ann := A_slices_Clone_sstring_string) (args := [(Value.slice g0_s.a g0_s.n g0_s.c)]) mixedPP Try.func35 (c := bodyOf Try.f35) (by kernel_rfl) (by kernel_rfl) (by kernel_rfl) (Eq.mpr (E_slices_Clone_sstring_string g0_s h Q) H)
def F_slices_Reverse_spleaf_one_pleaf_one (g0_s : Sl) (h : Hp) (Q : List Value → Hp → Prop) : Prop :=
∀ X1 : List Value → Hp → Prop, (∀ n2 : Int, ∀ n3 : Int, ∀ h4 : Hp, ((if (decide (n2 < n3)) = true then
      (nilW g0_s.a fun a5 => ixOk n3 g0_s.n (∃ p6 : Option Addr, rd h4 (Addr.add a5 (Int.toNat n3 * 1)) = some (Value.pointer p6) ∧
          nilW g0_s.a fun a7 => ixOk n2 g0_s.n (∃ p8 : Option Addr, rd h4 (Addr.add a7 (Int.toNat n2 * 1)) = some (Value.pointer p8) ∧
            nilW g0_s.a fun a9 => ixOk n2 g0_s.n (stOk h4 (Addr.add a9 (Int.toNat n2 * 1)) 1 ∧ wth (wrs h4 (Addr.add a9 (Int.toNat n2 * 1)) 0 [(Value.pointer p6)]) fun h10 =>
              nilW g0_s.a fun a11 => ixOk n3 g0_s.n (stOk h10 (Addr.add a11 (Int.toNat n3 * 1)) 1 ∧ wth (wrs h10 (Addr.add a11 (Int.toNat n3 * 1)) 0 [(Value.pointer p8)]) fun h12 =>
                X1 [(Value.int .i64 (IntKind.wrap .i64 (n2 + (1 : Int)))), (Value.int .i64 (IntKind.wrap .i64 (n3 - (1 : Int))))] h12))))) else
      (Q [] h4))) → X1 [(Value.int .i64 n2), (Value.int .i64 n3)] h4) →
X1 [(Value.int .i64 (0 : Int)), (Value.int .i64 (IntKind.wrap .i64 ((g0_s.n : Int) - (1 : Int))))] h
def A_slices_Reverse_spleaf_one_pleaf_one : Ann := (.mk none ⟨[], []⟩ .nil (.mk none ⟨[], []⟩ (.mk none ⟨[0], [(2, (.c (.int .i64))), (3, (.c (.int .i64)))]⟩ .nil .nil) .nil))
theorem E_slices_Reverse_spleaf_one_pleaf_one (g0_s : Sl) (h : Hp) (Q : List Value → Hp → Prop) : cw PP 28 (fun _ => []) (bodyOf Try.f52) A_slices_Reverse_spleaf_one_pleaf_one (finQ PP (Try.f52.results.toList) Q) (argFr [(Value.slice g0_s.a g0_s.n g0_s.c)]) h = F_slices_Reverse_spleaf_one_pleaf_one g0_s h Q := by kernel_rfl
theorem O_slices_Reverse_spleaf_one_pleaf_one (g0_s : Sl) {h : Hp} {Q : List Value → Hp → Prop} (H : F_slices_Reverse_spleaf_one_pleaf_one g0_s h Q) : S_slices_Reverse_spleaf_one_pleaf_one g0_s h Q :=
  fn_of_cw (hs := (fun _ => [])) (ann := A_slices_Reverse_spleaf_one_pleaf_one) (args := [(Value.slice g0_s.a g0_s.n g0_s.c)]) mixedPP Try.func52 (c := bodyOf Try.f52) (by kernel_rfl) (by kernel_rfl) (by kernel_rfl) (Eq.mpr (E_slices_Reverse_spleaf_one_pleaf_one g0_s h Q) H)
def F_slices_rotateLeft_pleaf_one (g0_s : Sl) (g1_r : Int) (h : Hp) (Q : List Value → Hp → Prop) : Prop :=
(0 ≤ g1_r ∧ g1_r ≤ (g0_s.c : Nat)) ∧ S_slices_Reverse_spleaf_one_pleaf_one ⟨(slAd g0_s.a 0 g0_s.c 1), ((Int.toNat g1_r) - 0), (g0_s.c - 0)⟩ h fun (vs1 : List Value) (h2 : Hp) =>
vs1 = [] ∧
(0 ≤ g1_r ∧ g1_r ≤ (g0_s.n : Nat)) ∧ S_slices_Reverse_spleaf_one_pleaf_one ⟨(slAd g0_s.a (Int.toNat g1_r) g0_s.c 1), (g0_s.n - (Int.toNat g1_r)), (g0_s.c - (Int.toNat g1_r))⟩ h2 fun (vs3 : List Value) (h4 : Hp) =>
vs3 = [] ∧
S_slices_Reverse_spleaf_one_pleaf_one ⟨g0_s.a, g0_s.n, g0_s.c⟩ h4 fun (vs5 : List Value) (h6 : Hp) =>
vs5 = [] ∧
Q [] h6
def A_slices_rotateLeft_pleaf_one : Ann := .nil
theorem E_slices_rotateLeft_pleaf_one (g0_s : Sl) (g1_r : Int) (h : Hp) (Q : List Value → Hp → Prop) : cw PP 14 (fun _ => []) (bodyOf Try.f50) A_slices_rotateLeft_pleaf_one (finQ PP (Try.f50.results.toList) Q) (argFr [(Value.slice g0_s.a g0_s.n g0_s.c), (Value.int .i64 g1_r)]) h = F_slices_rotateLeft_pleaf_one g0_s g1_r h Q := by kernel_rfl
theorem O_slices_rotateLeft_pleaf_one (g0_s : Sl) (g1_r : Int) {h : Hp} {Q : List Value → Hp → Prop} (H : F_slices_rotateLeft_pleaf_one g0_s g1_r h Q) : S_slices_rotateLeft_pleaf_one g0_s g1_r h Q :=
  fn_of_cw (hs := (fun _ => [])) (ann := A_slices_rotateLeft_pleaf_one) (args := [(Value.slice g0_s.a g0_s.n g0_s.c), (Value.int .i64 g1_r)]) mixedPP Try.func50 (c := bodyOf Try.f50) (by kernel_rfl) (by kernel_rfl) (by kernel_rfl) (Eq.mpr (E_slices_rotateLeft_pleaf_one g0_s g1_r h Q) H)
def F_slices_rotateRight_pleaf_one (g0_s : Sl) (g1_r : Int) (h : Hp) (Q : List Value → Hp → Prop) : Prop :=
S_slices_rotateLeft_pleaf_one ⟨g0_s.a, g0_s.n, g0_s.c⟩ (IntKind.wrap .i64 ((g0_s.n : Int) - g1_r)) h fun (vs1 : List Value) (h2 : Hp) =>
vs1 = [] ∧
Q [] h2
def A_slices_rotateRight_pleaf_one : Ann := .nil
theorem E_slices_rotateRight_pleaf_one (g0_s : Sl) (g1_r : Int) (h : Hp) (Q : List Value → Hp → Prop) : cw PP 10 (fun _ => []) (bodyOf Try.f47) A_slices_rotateRight_pleaf_one (finQ PP (Try.f47.results.toList) Q) (argFr [(Value.slice g0_s.a g0_s.n g0_s.c), (Value.int .i64 g1_r)]) h = F_slices_rotateRight_pleaf_one g0_s g1_r h Q := by kernel_rfl
theorem O_slices_rotateRight_pleaf_one (g0_s : Sl) (g1_r : Int) {h : Hp} {Q : List Value → Hp → Prop} (H : F_slices_rotateRight_pleaf_one g0_s g1_r h Q) : S_slices_rotateRight_pleaf_one g0_s g1_r h Q :=
  fn_of_cw (hs := (fun _ => [])) (ann := A_slices_rotateRight_pleaf_one) (args := [(Value.slice g0_s.a g0_s.n g0_s.c), (Value.int .i64 g1_r)]) mixedPP Try.func47 (c := bodyOf Try.f47) (by kernel_rfl) (by kernel_rfl) (by kernel_rfl) (Eq.mpr (E_slices_rotateRight_pleaf_one g0_s g1_r h Q) H)
def F_slices_Insert_spleaf_one_pleaf_one (g0_s : Sl) (g1_i : Int) (g2_v : Sl) (h : Hp) (Q : List Value → Hp → Prop) : Prop :=
(0 ≤ g1_i ∧ g1_i ≤ (g0_s.n : Nat)) ∧ (if ((g2_v.n : Int) == (0 : Int)) = true then
  (Q [(Value.slice g0_s.a g0_s.n g0_s.c)] h) else
  ((if (g1_i == (g0_s.n : Int)) = true then
      (∃ cs3 : List Value, cellsAt h g2_v.a (g2_v.n * 1) cs3 ∧ appS PP T_pleaf_one 8 1 h ⟨g0_s.a, g0_s.n, g0_s.c⟩ g2_v.n cs3 fun (l1 : Sl) (h2 : Hp) =>
        Q [(Value.slice l1.a l1.n l1.c)] h2) else
      ((if (decide ((IntKind.wrap .i64 ((g0_s.n : Int) + (g2_v.n : Int))) > ((g0_s.c : Nat) : Int))) = true then
          ((0 ≤ g1_i ∧ g1_i ≤ (g0_s.c : Nat)) ∧ (0 ≤ (IntKind.wrap .i64 ((IntKind.wrap .i64 ((g0_s.n : Int) + (g2_v.n : Int))) - g1_i)) ∧ (IntKind.wrap .i64 ((IntKind.wrap .i64 ((g0_s.n : Int) + (g2_v.n : Int))) - g1_i)) < 2 ^ 63 ∧ (IntKind.wrap .i64 ((IntKind.wrap .i64 ((g0_s.n : Int) + (g2_v.n : Int))) - g1_i)) * (8 : Nat) ≤ 2 ^ 47) ∧ appS PP T_pleaf_one 8 1 h ⟨(slAd g0_s.a 0 g0_s.c 1), ((Int.toNat g1_i) - 0), (g0_s.c - 0)⟩ (Int.toNat (IntKind.wrap .i64 ((IntKind.wrap .i64 ((g0_s.n : Int) + (g2_v.n : Int))) - g1_i))) (Array.toList (Builtin.zeroCells (zc PP T_pleaf_one) (Int.toNat (IntKind.wrap .i64 ((IntKind.wrap .i64 ((g0_s.n : Int) + (g2_v.n : Int))) - g1_i))))) fun (l4 : Sl) (h5 : Hp) =>
            (0 ≤ g1_i ∧ g1_i ≤ (l4.n : Nat)) ∧ ∃ cs6 : List Value, cellsAt h5 g2_v.a ((Nat.min g2_v.n (l4.n - (Int.toNat g1_i))) * 1) cs6 ∧ cpOk h5 (slAd l4.a (Int.toNat g1_i) l4.c 1) ((Nat.min g2_v.n (l4.n - (Int.toNat g1_i))) * 1) cs6 ∧ wth (cpHp h5 (slAd l4.a (Int.toNat g1_i) l4.c 1) cs6) fun h7 =>
            (0 ≤ (IntKind.wrap .i64 (g1_i + (g2_v.n : Int))) ∧ (IntKind.wrap .i64 (g1_i + (g2_v.n : Int))) ≤ (l4.n : Nat)) ∧ (0 ≤ g1_i ∧ g1_i ≤ (g0_s.n : Nat)) ∧ ∃ cs8 : List Value, cellsAt h7 (slAd g0_s.a (Int.toNat g1_i) g0_s.c 1) ((Nat.min (g0_s.n - (Int.toNat g1_i)) (l4.n - (Int.toNat (IntKind.wrap .i64 (g1_i + (g2_v.n : Int)))))) * 1) cs8 ∧ cpOk h7 (slAd l4.a (Int.toNat (IntKind.wrap .i64 (g1_i + (g2_v.n : Int)))) l4.c 1) ((Nat.min (g0_s.n - (Int.toNat g1_i)) (l4.n - (Int.toNat (IntKind.wrap .i64 (g1_i + (g2_v.n : Int)))))) * 1) cs8 ∧ wth (cpHp h7 (slAd l4.a (Int.toNat (IntKind.wrap .i64 (g1_i + (g2_v.n : Int)))) l4.c 1) cs8) fun h9 =>
            Q [(Value.slice l4.a l4.n l4.c)] h9) else
          ((0 ≤ (IntKind.wrap .i64 ((g0_s.n : Int) + (g2_v.n : Int))) ∧ (IntKind.wrap .i64 ((g0_s.n : Int) + (g2_v.n : Int))) ≤ (g0_s.c : Nat)) ∧ (0 ≤ (IntKind.wrap .i64 (g1_i + (g2_v.n : Int))) ∧ (IntKind.wrap .i64 (g1_i + (g2_v.n : Int))) ≤ (((Int.toNat (IntKind.wrap .i64 ((g0_s.n : Int) + (g2_v.n : Int)))) - 0) : Nat)) ∧ S_slices_overlaps_pleaf_one ⟨g2_v.a, g2_v.n, g2_v.c⟩ ⟨(slAd (slAd g0_s.a 0 g0_s.c 1) (Int.toNat (IntKind.wrap .i64 (g1_i + (g2_v.n : Int)))) (g0_s.c - 0) 1), (((Int.toNat (IntKind.wrap .i64 ((g0_s.n : Int) + (g2_v.n : Int)))) - 0) - (Int.toNat (IntKind.wrap .i64 (g1_i + (g2_v.n : Int))))), ((g0_s.c - 0) - (Int.toNat (IntKind.wrap .i64 (g1_i + (g2_v.n : Int)))))⟩ h fun (vs10 : List Value) (h11 : Hp) =>
            ∃ b12 : Bool, vs10 = [(Value.bool b12)] ∧
            (if (!b12) = true then
              ((0 ≤ (IntKind.wrap .i64 (g1_i + (g2_v.n : Int))) ∧ (IntKind.wrap .i64 (g1_i + (g2_v.n : Int))) ≤ (((Int.toNat (IntKind.wrap .i64 ((g0_s.n : Int) + (g2_v.n : Int)))) - 0) : Nat)) ∧ (0 ≤ g1_i ∧ g1_i ≤ (((Int.toNat (IntKind.wrap .i64 ((g0_s.n : Int) + (g2_v.n : Int)))) - 0) : Nat)) ∧ ∃ cs13 : List Value, cellsAt h11 (slAd (slAd g0_s.a 0 g0_s.c 1) (Int.toNat g1_i) (g0_s.c - 0) 1) ((Nat.min (((Int.toNat (IntKind.wrap .i64 ((g0_s.n : Int) + (g2_v.n : Int)))) - 0) - (Int.toNat g1_i)) (((Int.toNat (IntKind.wrap .i64 ((g0_s.n : Int) + (g2_v.n : Int)))) - 0) - (Int.toNat (IntKind.wrap .i64 (g1_i + (g2_v.n : Int)))))) * 1) cs13 ∧ cpOk h11 (slAd (slAd g0_s.a 0 g0_s.c 1) (Int.toNat (IntKind.wrap .i64 (g1_i + (g2_v.n : Int)))) (g0_s.c - 0) 1) ((Nat.min (((Int.toNat (IntKind.wrap .i64 ((g0_s.n : Int) + (g2_v.n : Int)))) - 0) - (Int.toNat g1_i)) (((Int.toNat (IntKind.wrap .i64 ((g0_s.n : Int) + (g2_v.n : Int)))) - 0) - (Int.toNat (IntKind.wrap .i64 (g1_i + (g2_v.n : Int)))))) * 1) cs13 ∧ wth (cpHp h11 (slAd (slAd g0_s.a 0 g0_s.c 1) (Int.toNat (IntKind.wrap .i64 (g1_i + (g2_v.n : Int)))) (g0_s.c - 0) 1) cs13) fun h14 =>
                (0 ≤ g1_i ∧ g1_i ≤ (((Int.toNat (IntKind.wrap .i64 ((g0_s.n : Int) + (g2_v.n : Int)))) - 0) : Nat)) ∧ ∃ cs15 : List Value, cellsAt h14 g2_v.a ((Nat.min g2_v.n (((Int.toNat (IntKind.wrap .i64 ((g0_s.n : Int) + (g2_v.n : Int)))) - 0) - (Int.toNat g1_i))) * 1) cs15 ∧ cpOk h14 (slAd (slAd g0_s.a 0 g0_s.c 1) (Int.toNat g1_i) (g0_s.c - 0) 1) ((Nat.min g2_v.n (((Int.toNat (IntKind.wrap .i64 ((g0_s.n : Int) + (g2_v.n : Int)))) - 0) - (Int.toNat g1_i))) * 1) cs15 ∧ wth (cpHp h14 (slAd (slAd g0_s.a 0 g0_s.c 1) (Int.toNat g1_i) (g0_s.c - 0) 1) cs15) fun h16 =>
                Q [(Value.slice (slAd g0_s.a 0 g0_s.c 1) ((Int.toNat (IntKind.wrap .i64 ((g0_s.n : Int) + (g2_v.n : Int)))) - 0) (g0_s.c - 0))] h16) else
              ((0 ≤ (g0_s.n : Int) ∧ (g0_s.n : Int) ≤ (((Int.toNat (IntKind.wrap .i64 ((g0_s.n : Int) + (g2_v.n : Int)))) - 0) : Nat)) ∧ ∃ cs17 : List Value, cellsAt h11 g2_v.a ((Nat.min g2_v.n (((Int.toNat (IntKind.wrap .i64 ((g0_s.n : Int) + (g2_v.n : Int)))) - 0) - (Int.toNat (g0_s.n : Int)))) * 1) cs17 ∧ cpOk h11 (slAd (slAd g0_s.a 0 g0_s.c 1) (Int.toNat (g0_s.n : Int)) (g0_s.c - 0) 1) ((Nat.min g2_v.n (((Int.toNat (IntKind.wrap .i64 ((g0_s.n : Int) + (g2_v.n : Int)))) - 0) - (Int.toNat (g0_s.n : Int)))) * 1) cs17 ∧ wth (cpHp h11 (slAd (slAd g0_s.a 0 g0_s.c 1) (Int.toNat (g0_s.n : Int)) (g0_s.c - 0) 1) cs17) fun h18 =>
                (0 ≤ g1_i ∧ g1_i ≤ (((Int.toNat (IntKind.wrap .i64 ((g0_s.n : Int) + (g2_v.n : Int)))) - 0) : Nat)) ∧ S_slices_rotateRight_pleaf_one ⟨(slAd (slAd g0_s.a 0 g0_s.c 1) (Int.toNat g1_i) (g0_s.c - 0) 1), (((Int.toNat (IntKind.wrap .i64 ((g0_s.n : Int) + (g2_v.n : Int)))) - 0) - (Int.toNat g1_i)), ((g0_s.c - 0) - (Int.toNat g1_i))⟩ (g2_v.n : Int) h18 fun (vs19 : List Value) (h20 : Hp) =>
                vs19 = [] ∧
                Q [(Value.slice (slAd g0_s.a 0 g0_s.c 1) ((Int.toNat (IntKind.wrap .i64 ((g0_s.n : Int) + (g2_v.n : Int)))) - 0) (g0_s.c - 0))] h20))))))))
def A_slices_Insert_spleaf_one_pleaf_one : Ann := .nil
theorem E_slices_Insert_spleaf_one_pleaf_one (g0_s : Sl) (g1_i : Int) (g2_v : Sl) (h : Hp) (Q : List Value → Hp → Prop) : cw PP 95 (fun _ => []) (bodyOf Try.f36) A_slices_Insert_spleaf_one_pleaf_one (finQ PP (Try.f36.results.toList) Q) (argFr [(Value.slice g0_s.a g0_s.n g0_s.c), (Value.int .i64 g1_i), (Value.slice g2_v.a g2_v.n g2_v.c)]) h = F_slices_Insert_spleaf_one_pleaf_one g0_s g1_i g2_v h Q := by kernel_rfl
theorem O_slices_Insert_spleaf_one_pleaf_one (g0_s : Sl) (g1_i : Int) (g2_v : Sl) {h : Hp} {Q : List Value → Hp → Prop} (H : F_slices_Insert_spleaf_one_pleaf_one g0_s g1_i g2_v h Q) : S_slices_Insert_spleaf_one_pleaf_one g0_s g1_i g2_v h Q :=
  fn_of_cw (hs := (fun _ => [])) (ann := A_slices_Insert_spleaf_one_pleaf_one) (args := [(Value.slice g0_s.a g0_s.n g0_s.c), (Value.int .i64 g1_i), (Value.slice g2_v.a g2_v.n g2_v.c)]) mixedPP Try.func36 (c := bodyOf Try.f36) (by kernel_rfl) (by kernel_rfl) (by kernel_rfl) (Eq.mpr (E_slices_Insert_spleaf_one_pleaf_one g0_s g1_i g2_v h Q) H)
def F_leaf_Leaves_Insert (g0_x : Option Addr) (g1_k : ByteArray) (h : Hp) (Q : List Value → Hp → Prop) : Prop :=
wth (Array.push h (Obj.cells #[(Value.int .i64 (0 : Int)), (Value.int .i64 (0 : Int))] T_leaf_Move)) fun h1 =>
(if (Option.isNone g0_x) = true then
  (stOk h1 (Addr.mk (Array.size h) 0 none) 2 ∧ wth (wrs h1 (Addr.mk (Array.size h) 0 none) 0 [(Value.int .i64 (0 : Int)), (Value.int .i64 (0 : Int))]) fun h2 =>
    ∃ n3 : Int, rd h2 (Addr.add (Addr.mk (Array.size h) 0 none) 0) = some (Value.int .i64 n3) ∧ ∃ n4 : Int, rd h2 (Addr.add (Addr.mk (Array.size h) 0 none) 1) = some (Value.int .i64 n4) ∧ Q [(Value.int .i64 (0 : Int)), (Value.agg #[(Value.int .i64 n3), (Value.int .i64 n4)]), (Value.int .i64 (1 : Int))] h2) else
  ((if (decide ((ByteArray.size g1_k : Int) > (1024 : Int))) = true then
      (stOk h1 (Addr.mk (Array.size h) 0 none) 2 ∧ wth (wrs h1 (Addr.mk (Array.size h) 0 none) 0 [(Value.int .i64 (0 : Int)), (Value.int .i64 (0 : Int))]) fun h5 =>
        ∃ n6 : Int, rd h5 (Addr.add (Addr.mk (Array.size h) 0 none) 0) = some (Value.int .i64 n6) ∧ ∃ n7 : Int, rd h5 (Addr.add (Addr.mk (Array.size h) 0 none) 1) = some (Value.int .i64 n7) ∧ Q [(Value.int .i64 (0 : Int)), (Value.agg #[(Value.int .i64 n6), (Value.int .i64 n7)]), (Value.int .i64 (2 : Int))] h5) else
      (S_leaf_Leaves_at g0_x g1_k h1 fun (vs8 : List Value) (h9 : Hp) =>
        ∃ n10 : Int, vs8 = [(Value.int .i64 n10)] ∧
        nilW g0_x fun a11 => ∃ l12 : Sl, rd h9 (Addr.add a11 1) = some (Value.slice l12.a l12.n l12.c) ∧
        nilW l12.a fun a13 => ixOk n10 l12.n (∃ p14 : Option Addr, rd h9 (Addr.add a13 (Int.toNat n10 * 1)) = some (Value.pointer p14) ∧
          nilW p14 fun a15 => ∃ l16 : Sl, rd h9 (Addr.add a15 2) = some (Value.slice l16.a l16.n l16.c) ∧
          S_slices_BinarySearch_sstring_string ⟨l16.a, l16.n, l16.c⟩ g1_k h9 fun (vs17 : List Value) (h18 : Hp) =>
          ∃ n19 : Int, ∃ b20 : Bool, vs17 = [(Value.int .i64 n19), (Value.bool b20)] ∧
          (if b20 = true then
            (stOk h18 (Addr.mk (Array.size h) 0 none) 2 ∧ wth (wrs h18 (Addr.mk (Array.size h) 0 none) 0 [(Value.int .i64 (0 : Int)), (Value.int .i64 (0 : Int))]) fun h21 =>
              ∃ n22 : Int, rd h21 (Addr.add (Addr.mk (Array.size h) 0 none) 0) = some (Value.int .i64 n22) ∧ ∃ n23 : Int, rd h21 (Addr.add (Addr.mk (Array.size h) 0 none) 1) = some (Value.int .i64 n23) ∧ Q [(Value.int .i64 (0 : Int)), (Value.agg #[(Value.int .i64 n22), (Value.int .i64 n23)]), (Value.int .i64 (62 : Int))] h21) else
            (nilW p14 fun a24 => ∃ l25 : Sl, rd h18 (Addr.add a24 2) = some (Value.slice l25.a l25.n l25.c) ∧
              wth (Array.push h18 (Obj.cells #[(Value.string g1_k)] T_string)) fun h26 =>
              S_slices_Insert_sstring_string ⟨l25.a, l25.n, l25.c⟩ n19 ⟨(some (Addr.mk (Array.size h18) 0 none)), 1, 1⟩ h26 fun (vs27 : List Value) (h28 : Hp) =>
              ∃ l29 : Sl, vs27 = [(Value.slice l29.a l29.n l29.c)] ∧
              nilW p14 fun a30 => stOk h28 (Addr.add a30 2) 1 ∧ wth (wrs h28 (Addr.add a30 2) 0 [(Value.slice l29.a l29.n l29.c)]) fun h31 =>
              nilW p14 fun a32 => ∃ l33 : Sl, rd h31 (Addr.add a32 2) = some (Value.slice l33.a l33.n l33.c) ∧
              nilW g0_x fun a34 => ∃ n35 : Int, rd h31 (Addr.add a34 0) = some (Value.int .i64 n35) ∧
              (if (decide ((l33.n : Int) ≤ n35)) = true then
                (nilW p14 fun a36 => ∃ n37 : Int, rd h31 (Addr.add a36 0) = some (Value.int .i64 n37) ∧
                  stOk h31 (Addr.mk (Array.size h) 0 none) 2 ∧ wth (wrs h31 (Addr.mk (Array.size h) 0 none) 0 [(Value.int .i64 (0 : Int)), (Value.int .i64 (0 : Int))]) fun h38 =>
                  ∃ n39 : Int, rd h38 (Addr.add (Addr.mk (Array.size h) 0 none) 0) = some (Value.int .i64 n39) ∧ ∃ n40 : Int, rd h38 (Addr.add (Addr.mk (Array.size h) 0 none) 1) = some (Value.int .i64 n40) ∧ Q [(Value.int .i64 n37), (Value.agg #[(Value.int .i64 n39), (Value.int .i64 n40)]), (Value.int .i64 (0 : Int))] h38) else
                (nilW p14 fun a41 => ∃ l42 : Sl, rd h31 (Addr.add a41 2) = some (Value.slice l42.a l42.n l42.c) ∧
                  divOk (2 : Int) (nilW g0_x fun a43 => ∃ n44 : Int, rd h31 (Addr.add a43 2) = some (Value.int .i64 n44) ∧
                    nilW p14 fun a45 => ∃ l46 : Sl, rd h31 (Addr.add a45 2) = some (Value.slice l46.a l46.n l46.c) ∧
                    nilW l46.a fun a47 => ixOk (IntKind.wrap .i64 (Int.tdiv (IntKind.wrap .i64 ((l42.n : Int) + (1 : Int))) (2 : Int))) l46.n (∃ s48 : ByteArray, rd h31 (Addr.add a47 (Int.toNat (IntKind.wrap .i64 (Int.tdiv (IntKind.wrap .i64 ((l42.n : Int) + (1 : Int))) (2 : Int))) * 1)) = some (Value.string s48) ∧
                      nilW p14 fun a49 => ∃ l50 : Sl, rd h31 (Addr.add a49 2) = some (Value.slice l50.a l50.n l50.c) ∧
                      (0 ≤ (IntKind.wrap .i64 (Int.tdiv (IntKind.wrap .i64 ((l42.n : Int) + (1 : Int))) (2 : Int))) ∧ (IntKind.wrap .i64 (Int.tdiv (IntKind.wrap .i64 ((l42.n : Int) + (1 : Int))) (2 : Int))) ≤ (l50.n : Nat)) ∧ S_slices_Clone_sstring_string ⟨(slAd l50.a (Int.toNat (IntKind.wrap .i64 (Int.tdiv (IntKind.wrap .i64 ((l42.n : Int) + (1 : Int))) (2 : Int)))) l50.c 1), (l50.n - (Int.toNat (IntKind.wrap .i64 (Int.tdiv (IntKind.wrap .i64 ((l42.n : Int) + (1 : Int))) (2 : Int))))), (l50.c - (Int.toNat (IntKind.wrap .i64 (Int.tdiv (IntKind.wrap .i64 ((l42.n : Int) + (1 : Int))) (2 : Int)))))⟩ h31 fun (vs51 : List Value) (h52 : Hp) =>
                      ∃ l53 : Sl, vs51 = [(Value.slice l53.a l53.n l53.c)] ∧
                      rd h52 (Addr.add a47 (Int.toNat (IntKind.wrap .i64 (Int.tdiv (IntKind.wrap .i64 ((l42.n : Int) + (1 : Int))) (2 : Int))) * 1)) = some (Value.string s48) ∧ rd h52 (Addr.add a45 2) = some (Value.slice l46.a l46.n l46.c) ∧ rd h52 (Addr.add a43 2) = some (Value.int .i64 n44) ∧ wth (Array.push h52 (Obj.cells #[(Value.int .i64 n44), (Value.string s48), (Value.slice l53.a l53.n l53.c)] T_leaf_one)) fun h54 =>
                      nilW p14 fun a55 => ∃ l56 : Sl, rd h54 (Addr.add a55 2) = some (Value.slice l56.a l56.n l56.c) ∧
                      (0 ≤ (IntKind.wrap .i64 (Int.tdiv (IntKind.wrap .i64 ((l42.n : Int) + (1 : Int))) (2 : Int))) ∧ (IntKind.wrap .i64 (Int.tdiv (IntKind.wrap .i64 ((l42.n : Int) + (1 : Int))) (2 : Int))) ≤ (l56.c : Nat)) ∧ S_slices_Clone_sstring_string ⟨(slAd l56.a 0 l56.c 1), ((Int.toNat (IntKind.wrap .i64 (Int.tdiv (IntKind.wrap .i64 ((l42.n : Int) + (1 : Int))) (2 : Int)))) - 0), (l56.c - 0)⟩ h54 fun (vs57 : List Value) (h58 : Hp) =>
                      ∃ l59 : Sl, vs57 = [(Value.slice l59.a l59.n l59.c)] ∧
                      nilW p14 fun a60 => stOk h58 (Addr.add a60 2) 1 ∧ wth (wrs h58 (Addr.add a60 2) 0 [(Value.slice l59.a l59.n l59.c)]) fun h61 =>
                      nilW g0_x fun a62 => ∃ n63 : Int, rd h61 (Addr.add a62 2) = some (Value.int .i64 n63) ∧
                      nilW g0_x fun a64 => stOk h61 (Addr.add a64 2) 1 ∧ wth (wrs h61 (Addr.add a64 2) 0 [(Value.int .i64 (IntKind.wrap .i64 (n63 + (1 : Int))))]) fun h65 =>
                      nilW g0_x fun a66 => ∃ l67 : Sl, rd h65 (Addr.add a66 1) = some (Value.slice l67.a l67.n l67.c) ∧
                      wth (Array.push h65 (Obj.cells #[(Value.pointer (some (Addr.mk (Array.size h52) 0 none)))] T_pleaf_one)) fun h68 =>
                      S_slices_Insert_spleaf_one_pleaf_one ⟨l67.a, l67.n, l67.c⟩ (IntKind.wrap .i64 (n10 + (1 : Int))) ⟨(some (Addr.mk (Array.size h65) 0 none)), 1, 1⟩ h68 fun (vs69 : List Value) (h70 : Hp) =>
                      ∃ l71 : Sl, vs69 = [(Value.slice l71.a l71.n l71.c)] ∧
                      nilW g0_x fun a72 => stOk h70 (Addr.add a72 1) 1 ∧ wth (wrs h70 (Addr.add a72 1) 0 [(Value.slice l71.a l71.n l71.c)]) fun h73 =>
                      nilW p14 fun a74 => ∃ n75 : Int, rd h73 (Addr.add a74 0) = some (Value.int .i64 n75) ∧
                      nilW (some (Addr.mk (Array.size h52) 0 none)) fun a76 => ∃ n77 : Int, rd h73 (Addr.add a76 0) = some (Value.int .i64 n77) ∧
                      stOk h73 (Addr.mk (Array.size h) 0 none) 2 ∧ wth (wrs h73 (Addr.mk (Array.size h) 0 none) 0 [(Value.int .i64 n75), (Value.int .i64 n77)]) fun h78 =>
                      (if (decide (n19 < (IntKind.wrap .i64 (Int.tdiv (IntKind.wrap .i64 ((l42.n : Int) + (1 : Int))) (2 : Int))))) = true then
                        (nilW p14 fun a79 => ∃ n80 : Int, rd h78 (Addr.add a79 0) = some (Value.int .i64 n80) ∧
                          ∃ n81 : Int, rd h78 (Addr.add (Addr.mk (Array.size h) 0 none) 0) = some (Value.int .i64 n81) ∧ ∃ n82 : Int, rd h78 (Addr.add (Addr.mk (Array.size h) 0 none) 1) = some (Value.int .i64 n82) ∧ stOk h78 (Addr.mk (Array.size h) 0 none) 2 ∧ wth (wrs h78 (Addr.mk (Array.size h) 0 none) 0 [(Value.int .i64 n81), (Value.int .i64 n82)]) fun h83 =>
                          ∃ n84 : Int, rd h83 (Addr.add (Addr.mk (Array.size h) 0 none) 0) = some (Value.int .i64 n84) ∧ ∃ n85 : Int, rd h83 (Addr.add (Addr.mk (Array.size h) 0 none) 1) = some (Value.int .i64 n85) ∧ Q [(Value.int .i64 n80), (Value.agg #[(Value.int .i64 n84), (Value.int .i64 n85)]), (Value.int .i64 (0 : Int))] h83) else
                        (nilW (some (Addr.mk (Array.size h52) 0 none)) fun a86 => ∃ n87 : Int, rd h78 (Addr.add a86 0) = some (Value.int .i64 n87) ∧
                          ∃ n88 : Int, rd h78 (Addr.add (Addr.mk (Array.size h) 0 none) 0) = some (Value.int .i64 n88) ∧ ∃ n89 : Int, rd h78 (Addr.add (Addr.mk (Array.size h) 0 none) 1) = some (Value.int .i64 n89) ∧ stOk h78 (Addr.mk (Array.size h) 0 none) 2 ∧ wth (wrs h78 (Addr.mk (Array.size h) 0 none) 0 [(Value.int .i64 n88), (Value.int .i64 n89)]) fun h90 =>
                          ∃ n91 : Int, rd h90 (Addr.add (Addr.mk (Array.size h) 0 none) 0) = some (Value.int .i64 n91) ∧ ∃ n92 : Int, rd h90 (Addr.add (Addr.mk (Array.size h) 0 none) 1) = some (Value.int .i64 n92) ∧ Q [(Value.int .i64 n87), (Value.agg #[(Value.int .i64 n91), (Value.int .i64 n92)]), (Value.int .i64 (0 : Int))] h90)))))))))))))
def A_leaf_Leaves_Insert : Ann := .nil
theorem E_leaf_Leaves_Insert (g0_x : Option Addr) (g1_k : ByteArray) (h : Hp) (Q : List Value → Hp → Prop) : cw PP 147 (fun _ => []) (bodyOf Try.f9) A_leaf_Leaves_Insert (finQ PP (Try.f9.results.toList) Q) (argFr [(Value.pointer g0_x), (Value.string g1_k)]) h = F_leaf_Leaves_Insert g0_x g1_k h Q := by kernel_rfl
theorem O_leaf_Leaves_Insert (g0_x : Option Addr) (g1_k : ByteArray) {h : Hp} {Q : List Value → Hp → Prop} (H : F_leaf_Leaves_Insert g0_x g1_k h Q) : S_leaf_Leaves_Insert g0_x g1_k h Q :=
  fn_of_cw (hs := (fun _ => [])) (ann := A_leaf_Leaves_Insert) (args := [(Value.pointer g0_x), (Value.string g1_k)]) mixedPP Try.func9 (c := bodyOf Try.f9) (by kernel_rfl) (by kernel_rfl) (by kernel_rfl) (Eq.mpr (E_leaf_Leaves_Insert g0_x g1_k h Q) H)
def F_leaf_Leaves_All (g0_x : Option Addr) (h : Hp) (Q : List Value → Hp → Prop) : Prop :=
(if (Option.isNone g0_x) = true then
  (Q [(Value.slice none 0 0)] h) else
  (nilW g0_x fun a1 => ∃ l2 : Sl, rd h (Addr.add a1 1) = some (Value.slice l2.a l2.n l2.c) ∧
    ∀ X3 : List Value → Hp → Prop, (∀ l4 : Sl, ∀ n5 : Int, ∀ h6 : Hp, ((if (decide (n5 < (l2.n : Int))) = true then
          (nilW l2.a fun a7 => ixOk n5 l2.n (∃ p8 : Option Addr, rd h6 (Addr.add a7 (Int.toNat n5 * 1)) = some (Value.pointer p8) ∧
              nilW p8 fun a9 => ∃ n10 : Int, rd h6 (Addr.add a9 0) = some (Value.int .i64 n10) ∧
              wth (Array.push h6 (Obj.cells #[(Value.int .i64 n10)] T_int)) fun h11 =>
              ∃ cs14 : List Value, cellsAt h11 (some (Addr.mk (Array.size h6) 0 none)) (1 * 1) cs14 ∧ appS PP T_int 8 1 h11 ⟨l4.a, l4.n, l4.c⟩ 1 cs14 fun (l12 : Sl) (h13 : Hp) =>
              X3 [(Value.slice l12.a l12.n l12.c), (Value.int .i64 (IntKind.wrap .i64 (n5 + (1 : Int))))] h13)) else
          (Q [(Value.slice l4.a l4.n l4.c)] h6))) → X3 [(Value.slice l4.a l4.n l4.c), (Value.int .i64 n5)] h6) →
    X3 [(Value.slice none 0 0), (Value.int .i64 (0 : Int))] h))
def A_leaf_Leaves_All : Ann := (.mk none ⟨[], []⟩ .nil (.mk none ⟨[], []⟩ .nil (.mk none ⟨[], []⟩ .nil (.mk none ⟨[], []⟩ (.mk none ⟨[], []⟩ .nil (.mk none ⟨[], []⟩ (.mk none ⟨[11, 12], [(3, (.c .sl)), (13, (.c (.int .i64)))]⟩ .nil .nil) .nil)) .nil))))
theorem E_leaf_Leaves_All (g0_x : Option Addr) (h : Hp) (Q : List Value → Hp → Prop) : cw PP 26 (fun _ => []) (bodyOf Try.f10) A_leaf_Leaves_All (finQ PP (Try.f10.results.toList) Q) (argFr [(Value.pointer g0_x)]) h = F_leaf_Leaves_All g0_x h Q := by kernel_rfl
theorem O_leaf_Leaves_All (g0_x : Option Addr) {h : Hp} {Q : List Value → Hp → Prop} (H : F_leaf_Leaves_All g0_x h Q) : S_leaf_Leaves_All g0_x h Q :=
  fn_of_cw (hs := (fun _ => [])) (ann := A_leaf_Leaves_All) (args := [(Value.pointer g0_x)]) mixedPP Try.func10 (c := bodyOf Try.f10) (by kernel_rfl) (by kernel_rfl) (by kernel_rfl) (Eq.mpr (E_leaf_Leaves_All g0_x h Q) H)
def F_slices_IndexFunc_spleaf_one_pleaf_one (g0_s : Sl) (g1_f_f : Nat) (g1_f_c : Array Value) (h : Hp) (Q : List Value → Hp → Prop) : Prop :=
∀ X1 : List Value → Hp → Prop, (∀ n2 : Int, ∀ h3 : Hp, ((if (decide (n2 < (g0_s.n : Int))) = true then
      (nilW g0_s.a fun a4 => ixOk n2 g0_s.n (∃ p5 : Option Addr, rd h3 (Addr.add a4 (Int.toNat n2 * 1)) = some (Value.pointer p5) ∧
          Fn PP g1_f_f ((#[] ++ #[(Value.pointer p5)]) ++ g1_f_c) h3 fun (vs6 : List Value) (h7 : Hp) =>
          ∃ b8 : Bool, vs6 = [(Value.bool b8)] ∧
          (if b8 = true then
            (Q [(Value.int .i64 n2)] h7) else
            (X1 [(Value.int .i64 (IntKind.wrap .i64 (n2 + (1 : Int))))] h7)))) else
      (Q [(Value.int .i64 (-1 : Int))] h3))) → X1 [(Value.int .i64 n2)] h3) →
X1 [(Value.int .i64 (0 : Int))] h
def A_slices_IndexFunc_spleaf_one_pleaf_one : Ann := (.mk none ⟨[], []⟩ .nil (.mk none ⟨[], []⟩ (.mk none ⟨[], []⟩ .nil (.mk none ⟨[], []⟩ (.mk none ⟨[0, 1, 7], [(8, (.c (.int .i64)))]⟩ .nil .nil) .nil)) .nil))
theorem E_slices_IndexFunc_spleaf_one_pleaf_one (g0_s : Sl) (g1_f_f : Nat) (g1_f_c : Array Value) (h : Hp) (Q : List Value → Hp → Prop) : cw PP 19 (fun _ => []) (bodyOf Try.f37) A_slices_IndexFunc_spleaf_one_pleaf_one (finQ PP (Try.f37.results.toList) Q) (argFr [(Value.slice g0_s.a g0_s.n g0_s.c), (Value.func (.func g1_f_f) #[] g1_f_c)]) h = F_slices_IndexFunc_spleaf_one_pleaf_one g0_s g1_f_f g1_f_c h Q := by kernel_rfl
theorem O_slices_IndexFunc_spleaf_one_pleaf_one (g0_s : Sl) (g1_f_f : Nat) (g1_f_c : Array Value) {h : Hp} {Q : List Value → Hp → Prop} (H : F_slices_IndexFunc_spleaf_one_pleaf_one g0_s g1_f_f g1_f_c h Q) : S_slices_IndexFunc_spleaf_one_pleaf_one g0_s g1_f_f g1_f_c h Q :=
  fn_of_cw (hs := (fun _ => [])) (ann := A_slices_IndexFunc_spleaf_one_pleaf_one) (args := [(Value.slice g0_s.a g0_s.n g0_s.c), (Value.func (.func g1_f_f) #[] g1_f_c)]) mixedPP Try.func37 (c := bodyOf Try.f37) (by kernel_rfl) (by kernel_rfl) (by kernel_rfl) (Eq.mpr (E_slices_IndexFunc_spleaf_one_pleaf_one g0_s g1_f_f g1_f_c h Q) H)
def F_leaf_Leaves_Keys (g0_x : Option Addr) (g1_leaf : Int) (h : Hp) (Q : List Value → Hp → Prop) : Prop :=
wth (Array.push h (Obj.cells #[(Value.int .i64 g1_leaf)] T_int)) fun h1 =>
(if (Option.isNone g0_x) = true then
  (Q [(Value.slice none 0 0)] h1) else
  (nilW g0_x fun a2 => ∃ l3 : Sl, rd h1 (Addr.add a2 1) = some (Value.slice l3.a l3.n l3.c) ∧
    S_slices_IndexFunc_spleaf_one_pleaf_one ⟨l3.a, l3.n, l3.c⟩ 38 #[(Value.pointer (some (Addr.mk (Array.size h) 0 none)))] h1 fun (vs4 : List Value) (h5 : Hp) =>
    ∃ n6 : Int, vs4 = [(Value.int .i64 n6)] ∧
    (if (decide (n6 < (0 : Int))) = true then
      (Q [(Value.slice none 0 0)] h5) else
      (nilW g0_x fun a7 => ∃ l8 : Sl, rd h5 (Addr.add a7 1) = some (Value.slice l8.a l8.n l8.c) ∧
        nilW l8.a fun a9 => ixOk n6 l8.n (∃ p10 : Option Addr, rd h5 (Addr.add a9 (Int.toNat n6 * 1)) = some (Value.pointer p10) ∧
          nilW p10 fun a11 => ∃ l12 : Sl, rd h5 (Addr.add a11 2) = some (Value.slice l12.a l12.n l12.c) ∧
          S_slices_Clone_sstring_string ⟨l12.a, l12.n, l12.c⟩ h5 fun (vs13 : List Value) (h14 : Hp) =>
          ∃ l15 : Sl, vs13 = [(Value.slice l15.a l15.n l15.c)] ∧
          Q [(Value.slice l15.a l15.n l15.c)] h14)))))
def A_leaf_Leaves_Keys : Ann := .nil
theorem E_leaf_Leaves_Keys (g0_x : Option Addr) (g1_leaf : Int) (h : Hp) (Q : List Value → Hp → Prop) : cw PP 27 (fun _ => []) (bodyOf Try.f11) A_leaf_Leaves_Keys (finQ PP (Try.f11.results.toList) Q) (argFr [(Value.pointer g0_x), (Value.int .i64 g1_leaf)]) h = F_leaf_Leaves_Keys g0_x g1_leaf h Q := by kernel_rfl
theorem O_leaf_Leaves_Keys (g0_x : Option Addr) (g1_leaf : Int) {h : Hp} {Q : List Value → Hp → Prop} (H : F_leaf_Leaves_Keys g0_x g1_leaf h Q) : S_leaf_Leaves_Keys g0_x g1_leaf h Q :=
  fn_of_cw (hs := (fun _ => [])) (ann := A_leaf_Leaves_Keys) (args := [(Value.pointer g0_x), (Value.int .i64 g1_leaf)]) mixedPP Try.func11 (c := bodyOf Try.f11) (by kernel_rfl) (by kernel_rfl) (by kernel_rfl) (Eq.mpr (E_leaf_Leaves_Keys g0_x g1_leaf h Q) H)
def F_leaf_Leaves_Len (g0_x : Option Addr) (h : Hp) (Q : List Value → Hp → Prop) : Prop :=
∀ J1 : List Value → Hp → Prop, (∀ n2 : Int, ∀ h3 : Hp, (Q [(Value.int .i64 n2)] h3) → J1 [(Value.int .i64 n2)] h3) →
(if (!(Option.isNone g0_x)) = true then
  (nilW g0_x fun a4 => ∃ l5 : Sl, rd h (Addr.add a4 1) = some (Value.slice l5.a l5.n l5.c) ∧
    ∀ X6 : List Value → Hp → Prop, (∀ n7 : Int, ∀ n8 : Int, ∀ h9 : Hp, ((if (decide (n8 < (l5.n : Int))) = true then
          (nilW l5.a fun a10 => ixOk n8 l5.n (∃ p11 : Option Addr, rd h9 (Addr.add a10 (Int.toNat n8 * 1)) = some (Value.pointer p11) ∧
              nilW p11 fun a12 => ∃ l13 : Sl, rd h9 (Addr.add a12 2) = some (Value.slice l13.a l13.n l13.c) ∧
              X6 [(Value.int .i64 (IntKind.wrap .i64 (n7 + (l13.n : Int)))), (Value.int .i64 (IntKind.wrap .i64 (n8 + (1 : Int))))] h9)) else
          (J1 [(Value.int .i64 n7)] h9))) → X6 [(Value.int .i64 n7), (Value.int .i64 n8)] h9) →
    X6 [(Value.int .i64 (0 : Int)), (Value.int .i64 (0 : Int))] h) else
  (J1 [(Value.int .i64 (0 : Int))] h))
def A_leaf_Leaves_Len : Ann := (.mk none ⟨[], []⟩ .nil (.mk none ⟨[], []⟩ .nil (.mk none ⟨[], []⟩ (.mk none ⟨[], []⟩ .nil (.mk (some ⟨[], [(3, (.c (.int .i64)))]⟩) ⟨[], []⟩ (.mk none ⟨[], []⟩ .nil (.mk none ⟨[], []⟩ (.mk none ⟨[11, 12], [(3, (.c (.int .i64))), (13, (.c (.int .i64)))]⟩ .nil .nil) .nil)) .nil)) .nil)))
theorem E_leaf_Leaves_Len (g0_x : Option Addr) (h : Hp) (Q : List Value → Hp → Prop) : cw PP 26 (fun _ => []) (bodyOf Try.f12) A_leaf_Leaves_Len (finQ PP (Try.f12.results.toList) Q) (argFr [(Value.pointer g0_x)]) h = F_leaf_Leaves_Len g0_x h Q := by kernel_rfl
theorem O_leaf_Leaves_Len (g0_x : Option Addr) {h : Hp} {Q : List Value → Hp → Prop} (H : F_leaf_Leaves_Len g0_x h Q) : S_leaf_Leaves_Len g0_x h Q :=
  fn_of_cw (hs := (fun _ => [])) (ann := A_leaf_Leaves_Len) (args := [(Value.pointer g0_x)]) mixedPP Try.func12 (c := bodyOf Try.f12) (by kernel_rfl) (by kernel_rfl) (by kernel_rfl) (Eq.mpr (E_leaf_Leaves_Len g0_x h Q) H)
def F_leaf_Leaves_Range (g0_x : Option Addr) (g1_from : ByteArray) (g2_to : ByteArray) (h : Hp) (Q : List Value → Hp → Prop) : Prop :=
∀ J1 : List Value → Hp → Prop, (∀ b2 : Bool, ∀ h3 : Hp, ((if b2 = true then
      (Q [(Value.slice none 0 0), (Value.slice none 0 0)] h3) else
      (nilW g0_x fun a4 => ∃ l5 : Sl, rd h3 (Addr.add a4 1) = some (Value.slice l5.a l5.n l5.c) ∧
        ∀ J6 : List Value → Hp → Prop, (∀ n7 : Int, ∀ h8 : Hp, (nilW g0_x fun a9 => ∃ l10 : Sl, rd h8 (Addr.add a9 1) = some (Value.slice l10.a l10.n l10.c) ∧
            S_leaf_Leaves_at g0_x g1_from h8 fun (vs11 : List Value) (h12 : Hp) =>
            ∃ n13 : Int, vs11 = [(Value.int .i64 n13)] ∧
            rd h12 (Addr.add a9 1) = some (Value.slice l10.a l10.n l10.c) ∧ (0 ≤ n13 ∧ n13 ≤ (IntKind.wrap .i64 (n7 + (1 : Int))) ∧ (IntKind.wrap .i64 (n7 + (1 : Int))) ≤ (l10.c : Nat)) ∧ ∀ X14 : List Value → Hp → Prop, (∀ l15 : Sl, ∀ l16 : Sl, ∀ n17 : Int, ∀ h18 : Hp, ((if (decide (n17 < ((((Int.toNat (IntKind.wrap .i64 (n7 + (1 : Int)))) - (Int.toNat n13)) : Nat) : Int))) = true then
                  (nilW (slAd l10.a (Int.toNat n13) l10.c 1) fun a19 => ixOk n17 ((Int.toNat (IntKind.wrap .i64 (n7 + (1 : Int)))) - (Int.toNat n13)) (∃ p20 : Option Addr, rd h18 (Addr.add a19 (Int.toNat n17 * 1)) = some (Value.pointer p20) ∧
                      nilW p20 fun a21 => ∃ n22 : Int, rd h18 (Addr.add a21 0) = some (Value.int .i64 n22) ∧
                      wth (Array.push h18 (Obj.cells #[(Value.int .i64 n22)] T_int)) fun h23 =>
                      ∃ cs44 : List Value, cellsAt h23 (some (Addr.mk (Array.size h18) 0 none)) (1 * 1) cs44 ∧ appS PP T_int 8 1 h23 ⟨l16.a, l16.n, l16.c⟩ 1 cs44 fun (l24 : Sl) (h25 : Hp) =>
                      nilW p20 fun a26 => ∃ l27 : Sl, rd h25 (Addr.add a26 2) = some (Value.slice l27.a l27.n l27.c) ∧
                      ∀ X28 : List Value → Hp → Prop, (∀ l29 : Sl, ∀ n30 : Int, ∀ h31 : Hp, ((if (decide (n30 < (l27.n : Int))) = true then
                            (∀ J32 : List Value → Hp → Prop, (∀ l33 : Sl, ∀ h34 : Hp, (X28 [(Value.slice l33.a l33.n l33.c), (Value.int .i64 (IntKind.wrap .i64 (n30 + (1 : Int))))] h34) → J32 [(Value.slice l33.a l33.n l33.c)] h34) →
                              nilW l27.a fun a35 => ixOk n30 l27.n (∃ s36 : ByteArray, rd h31 (Addr.add a35 (Int.toNat n30 * 1)) = some (Value.string s36) ∧
                                ∀ J37 : List Value → Hp → Prop, (∀ b38 : Bool, ∀ h39 : Hp, ((if b38 = true then
                                      (wth (Array.push h39 (Obj.cells #[(Value.string s36)] T_string)) fun h40 =>
                                        ∃ cs43 : List Value, cellsAt h40 (some (Addr.mk (Array.size h39) 0 none)) (1 * 1) cs43 ∧ appS PP T_string 16 1 h40 ⟨l29.a, l29.n, l29.c⟩ 1 cs43 fun (l41 : Sl) (h42 : Hp) =>
                                        J32 [(Value.slice l41.a l41.n l41.c)] h42) else
                                      (J32 [(Value.slice l29.a l29.n l29.c)] h39))) → J37 [(Value.bool b38)] h39) →
                                (if (!(Op.bytesLess (ByteArray.toList s36) (ByteArray.toList g1_from))) = true then ((if ((ByteArray.toList g2_to) == (ByteArray.toList (ByteArray.mk #[]))) = true then (J37 [(Value.bool true)] h31) else
                                      (J37 [(Value.bool (Op.bytesLess (ByteArray.toList s36) (ByteArray.toList g2_to)))] h31))) else
                                  (J37 [(Value.bool false)] h31)))) else
                            (X14 [(Value.slice l29.a l29.n l29.c), (Value.slice l24.a l24.n l24.c), (Value.int .i64 (IntKind.wrap .i64 (n17 + (1 : Int))))] h31))) → X28 [(Value.slice l29.a l29.n l29.c), (Value.int .i64 n30)] h31) →
                      X28 [(Value.slice l15.a l15.n l15.c), (Value.int .i64 (0 : Int))] h25)) else
                  (Q [(Value.slice l15.a l15.n l15.c), (Value.slice l16.a l16.n l16.c)] h18))) → X14 [(Value.slice l15.a l15.n l15.c), (Value.slice l16.a l16.n l16.c), (Value.int .i64 n17)] h18) →
            X14 [(Value.slice none 0 0), (Value.slice none 0 0), (Value.int .i64 (0 : Int))] h12) → J6 [(Value.int .i64 n7)] h8) →
        (if (!((ByteArray.toList g2_to) == (ByteArray.toList (ByteArray.mk #[])))) = true then
          (S_leaf_Leaves_at g0_x g2_to h3 fun (vs45 : List Value) (h46 : Hp) =>
            ∃ n47 : Int, vs45 = [(Value.int .i64 n47)] ∧
            J6 [(Value.int .i64 n47)] h46) else
          (J6 [(Value.int .i64 (IntKind.wrap .i64 ((l5.n : Int) - (1 : Int))))] h3))))) → J1 [(Value.bool b2)] h3) →
(if (Option.isNone g0_x) = true then (J1 [(Value.bool true)] h) else
  ((if (!((ByteArray.toList g2_to) == (ByteArray.toList (ByteArray.mk #[])))) = true then (J1 [(Value.bool (Op.bytesLess (ByteArray.toList g2_to) (ByteArray.toList g1_from) || (ByteArray.toList g2_to) == (ByteArray.toList g1_from)))] h) else
      (J1 [(Value.bool false)] h))))
def A_leaf_Leaves_Range : Ann := (.mk none ⟨[], []⟩ .nil (.mk none ⟨[], []⟩ (.mk none ⟨[], []⟩ (.mk (some ⟨[0, 1, 2, 6, 7], [(23, (.c .bool))]⟩) ⟨[], []⟩ .nil .nil) .nil) (.mk none ⟨[], []⟩ .nil (.mk none ⟨[], []⟩ (.mk none ⟨[], []⟩ .nil (.mk (some ⟨[0, 1, 2, 6, 7], [(8, (.c (.int .i64)))]⟩) ⟨[], []⟩ .nil .nil)) (.mk none ⟨[], []⟩ (.mk none ⟨[], []⟩ .nil (.mk none ⟨[], []⟩ (.mk none ⟨[1, 2, 44, 45], [(6, (.c .sl)), (7, (.c .sl)), (46, (.c (.int .i64)))]⟩ (.mk none ⟨[], []⟩ .nil (.mk none ⟨[], []⟩ .nil (.mk none ⟨[], []⟩ (.mk none ⟨[], []⟩ (.mk none ⟨[], []⟩ .nil (.mk none ⟨[], []⟩ .nil (.mk none ⟨[], []⟩ .nil (.mk none ⟨[], []⟩ (.mk none ⟨[1, 2, 7, 44, 45, 46, 60, 61], [(6, (.c .sl)), (62, (.c (.int .i64)))]⟩ (.mk none ⟨[], []⟩ .nil (.mk none ⟨[], []⟩ .nil (.mk none ⟨[], []⟩ (.mk (some ⟨[1, 2, 7, 44, 45, 46, 60, 61, 62], [(6, (.c .sl))]⟩) ⟨[], []⟩ (.mk none ⟨[], []⟩ .nil (.mk none ⟨[], []⟩ (.mk (some ⟨[1, 2, 6, 7, 12, 44, 45, 46, 60, 61, 62], [(77, (.c .bool))]⟩) ⟨[], []⟩ .nil .nil) .nil)) .nil) .nil))) .nil) .nil)))) .nil) .nil))) .nil) .nil)) .nil)))))
theorem E_leaf_Leaves_Range (g0_x : Option Addr) (g1_from : ByteArray) (g2_to : ByteArray) (h : Hp) (Q : List Value → Hp → Prop) : cw PP 86 (fun _ => []) (bodyOf Try.f17) A_leaf_Leaves_Range (finQ PP (Try.f17.results.toList) Q) (argFr [(Value.pointer g0_x), (Value.string g1_from), (Value.string g2_to)]) h = F_leaf_Leaves_Range g0_x g1_from g2_to h Q := by kernel_rfl
theorem O_leaf_Leaves_Range (g0_x : Option Addr) (g1_from : ByteArray) (g2_to : ByteArray) {h : Hp} {Q : List Value → Hp → Prop} (H : F_leaf_Leaves_Range g0_x g1_from g2_to h Q) : S_leaf_Leaves_Range g0_x g1_from g2_to h Q :=
  fn_of_cw (hs := (fun _ => [])) (ann := A_leaf_Leaves_Range) (args := [(Value.pointer g0_x), (Value.string g1_from), (Value.string g2_to)]) mixedPP Try.func17 (c := bodyOf Try.f17) (by kernel_rfl) (by kernel_rfl) (by kernel_rfl) (Eq.mpr (E_leaf_Leaves_Range g0_x g1_from g2_to h Q) H)
def F_liverykeep_Texts (g0_a : Sl) (g1_b : Sl) (h : Hp) (Q : List Value → Hp → Prop) : Prop :=
(if ((g0_a.n : Int) != (g1_b.n : Int)) = true then
  (Q [(Value.bool false)] h) else
  (∀ X1 : List Value → Hp → Prop, (∀ n2 : Int, ∀ h3 : Hp, ((if (decide (n2 < (g0_a.n : Int))) = true then
          (nilW g0_a.a fun a4 => ixOk n2 g0_a.n (∃ s5 : ByteArray, rd h3 (Addr.add a4 (Int.toNat n2 * 1)) = some (Value.string s5) ∧
              nilW g1_b.a fun a6 => ixOk n2 g1_b.n (∃ s7 : ByteArray, rd h3 (Addr.add a6 (Int.toNat n2 * 1)) = some (Value.string s7) ∧
                (if (!((ByteArray.toList s5) == (ByteArray.toList s7))) = true then
                  (Q [(Value.bool false)] h3) else
                  (X1 [(Value.int .i64 (IntKind.wrap .i64 (n2 + (1 : Int))))] h3))))) else
          (Q [(Value.bool true)] h3))) → X1 [(Value.int .i64 n2)] h3) →
    X1 [(Value.int .i64 (0 : Int))] h))
def A_liverykeep_Texts : Ann := (.mk none ⟨[], []⟩ .nil (.mk none ⟨[], []⟩ .nil (.mk none ⟨[], []⟩ (.mk none ⟨[], []⟩ .nil (.mk none ⟨[], []⟩ (.mk none ⟨[0, 1], [(5, (.c (.int .i64)))]⟩ .nil .nil) .nil)) .nil)))
theorem E_liverykeep_Texts (g0_a : Sl) (g1_b : Sl) (h : Hp) (Q : List Value → Hp → Prop) : cw PP 26 (fun _ => []) (bodyOf Try.f24) A_liverykeep_Texts (finQ PP (Try.f24.results.toList) Q) (argFr [(Value.slice g0_a.a g0_a.n g0_a.c), (Value.slice g1_b.a g1_b.n g1_b.c)]) h = F_liverykeep_Texts g0_a g1_b h Q := by kernel_rfl
theorem O_liverykeep_Texts (g0_a : Sl) (g1_b : Sl) {h : Hp} {Q : List Value → Hp → Prop} (H : F_liverykeep_Texts g0_a g1_b h Q) : S_liverykeep_Texts g0_a g1_b h Q :=
  fn_of_cw (hs := (fun _ => [])) (ann := A_liverykeep_Texts) (args := [(Value.slice g0_a.a g0_a.n g0_a.c), (Value.slice g1_b.a g1_b.n g1_b.c)]) mixedPP Try.func24 (c := bodyOf Try.f24) (by kernel_rfl) (by kernel_rfl) (by kernel_rfl) (Eq.mpr (E_liverykeep_Texts g0_a g1_b h Q) H)
def F_liverykeep_Ints (g0_a : Sl) (g1_b : Sl) (h : Hp) (Q : List Value → Hp → Prop) : Prop :=
(if ((g0_a.n : Int) != (g1_b.n : Int)) = true then
  (Q [(Value.bool false)] h) else
  (∀ X1 : List Value → Hp → Prop, (∀ n2 : Int, ∀ h3 : Hp, ((if (decide (n2 < (g0_a.n : Int))) = true then
          (nilW g0_a.a fun a4 => ixOk n2 g0_a.n (∃ n5 : Int, rd h3 (Addr.add a4 (Int.toNat n2 * 1)) = some (Value.int .i64 n5) ∧
              nilW g1_b.a fun a6 => ixOk n2 g1_b.n (∃ n7 : Int, rd h3 (Addr.add a6 (Int.toNat n2 * 1)) = some (Value.int .i64 n7) ∧
                (if (n5 != n7) = true then
                  (Q [(Value.bool false)] h3) else
                  (X1 [(Value.int .i64 (IntKind.wrap .i64 (n2 + (1 : Int))))] h3))))) else
          (Q [(Value.bool true)] h3))) → X1 [(Value.int .i64 n2)] h3) →
    X1 [(Value.int .i64 (0 : Int))] h))
def A_liverykeep_Ints : Ann := (.mk none ⟨[], []⟩ .nil (.mk none ⟨[], []⟩ .nil (.mk none ⟨[], []⟩ (.mk none ⟨[], []⟩ .nil (.mk none ⟨[], []⟩ (.mk none ⟨[0, 1], [(5, (.c (.int .i64)))]⟩ .nil .nil) .nil)) .nil)))
theorem E_liverykeep_Ints (g0_a : Sl) (g1_b : Sl) (h : Hp) (Q : List Value → Hp → Prop) : cw PP 26 (fun _ => []) (bodyOf Try.f25) A_liverykeep_Ints (finQ PP (Try.f25.results.toList) Q) (argFr [(Value.slice g0_a.a g0_a.n g0_a.c), (Value.slice g1_b.a g1_b.n g1_b.c)]) h = F_liverykeep_Ints g0_a g1_b h Q := by kernel_rfl
theorem O_liverykeep_Ints (g0_a : Sl) (g1_b : Sl) {h : Hp} {Q : List Value → Hp → Prop} (H : F_liverykeep_Ints g0_a g1_b h Q) : S_liverykeep_Ints g0_a g1_b h Q :=
  fn_of_cw (hs := (fun _ => [])) (ann := A_liverykeep_Ints) (args := [(Value.slice g0_a.a g0_a.n g0_a.c), (Value.slice g1_b.a g1_b.n g1_b.c)]) mixedPP Try.func25 (c := bodyOf Try.f25) (by kernel_rfl) (by kernel_rfl) (by kernel_rfl) (Eq.mpr (E_liverykeep_Ints g0_a g1_b h Q) H)
def F_leaf_Leaves_Of (g0_x : Option Addr) (g1_k : ByteArray) (h : Hp) (Q : List Value → Hp → Prop) : Prop :=
(if (Option.isNone g0_x) = true then
  (Q [(Value.int .i64 (0 : Int))] h) else
  (nilW g0_x fun a1 => ∃ l2 : Sl, rd h (Addr.add a1 1) = some (Value.slice l2.a l2.n l2.c) ∧
    S_leaf_Leaves_at g0_x g1_k h fun (vs3 : List Value) (h4 : Hp) =>
    ∃ n5 : Int, vs3 = [(Value.int .i64 n5)] ∧
    rd h4 (Addr.add a1 1) = some (Value.slice l2.a l2.n l2.c) ∧ nilW l2.a fun a6 => ixOk n5 l2.n (∃ p7 : Option Addr, rd h4 (Addr.add a6 (Int.toNat n5 * 1)) = some (Value.pointer p7) ∧
      nilW p7 fun a8 => ∃ n9 : Int, rd h4 (Addr.add a8 0) = some (Value.int .i64 n9) ∧
      Q [(Value.int .i64 n9)] h4)))
def A_leaf_Leaves_Of : Ann := .nil
theorem E_leaf_Leaves_Of (g0_x : Option Addr) (g1_k : ByteArray) (h : Hp) (Q : List Value → Hp → Prop) : cw PP 19 (fun _ => []) (bodyOf Try.f28) A_leaf_Leaves_Of (finQ PP (Try.f28.results.toList) Q) (argFr [(Value.pointer g0_x), (Value.string g1_k)]) h = F_leaf_Leaves_Of g0_x g1_k h Q := by kernel_rfl
theorem O_leaf_Leaves_Of (g0_x : Option Addr) (g1_k : ByteArray) {h : Hp} {Q : List Value → Hp → Prop} (H : F_leaf_Leaves_Of g0_x g1_k h Q) : S_leaf_Leaves_Of g0_x g1_k h Q :=
  fn_of_cw (hs := (fun _ => [])) (ann := A_leaf_Leaves_Of) (args := [(Value.pointer g0_x), (Value.string g1_k)]) mixedPP Try.func28 (c := bodyOf Try.f28) (by kernel_rfl) (by kernel_rfl) (by kernel_rfl) (Eq.mpr (E_leaf_Leaves_Of g0_x g1_k h Q) H)
def F_liverylaw10_wakes (h : Hp) (Q : List Value → Hp → Prop) : Prop :=
S_leaf_New (2 : Int) h fun (vs1 : List Value) (h2 : Hp) =>
∃ p3 : Option Addr, ∃ n4 : Int, vs1 = [(Value.pointer p3), (Value.int .i64 n4)] ∧
∀ J5 : List Value → Hp → Prop, (∀ b6 : Bool, ∀ h7 : Hp, ((if b6 = true then
      (Q [(Value.bool false)] h7) else
      (S_leaf_Leaves_Insert p3 (ByteArray.mk #[97]) h7 fun (vs8 : List Value) (h9 : Hp) =>
        ∃ n10 : Int, ∃ n11 : Int, ∃ n12 : Int, ∃ n13 : Int, vs8 = [(Value.int .i64 n10), (Value.agg #[(Value.int .i64 n11), (Value.int .i64 n12)]), (Value.int .i64 n13)] ∧
        S_leaf_Leaves_Insert p3 (ByteArray.mk #[98]) h9 fun (vs14 : List Value) (h15 : Hp) =>
        ∃ n16 : Int, ∃ n17 : Int, ∃ n18 : Int, ∃ n19 : Int, vs14 = [(Value.int .i64 n16), (Value.agg #[(Value.int .i64 n17), (Value.int .i64 n18)]), (Value.int .i64 n19)] ∧
        S_leaf_Leaves_Insert p3 (ByteArray.mk #[99]) h15 fun (vs20 : List Value) (h21 : Hp) =>
        ∃ n22 : Int, ∃ n23 : Int, ∃ n24 : Int, ∃ n25 : Int, vs20 = [(Value.int .i64 n22), (Value.agg #[(Value.int .i64 n23), (Value.int .i64 n24)]), (Value.int .i64 n25)] ∧
        wth (Array.push h21 (Obj.cells #[(Value.int .i64 (0 : Int)), (Value.int .i64 (0 : Int))] T_leaf_Move)) fun h26 =>
        stOk h26 (Addr.mk (Array.size h21) 0 none) 2 ∧ wth (wrs h26 (Addr.mk (Array.size h21) 0 none) 0 [(Value.int .i64 n23), (Value.int .i64 n24)]) fun h27 =>
        S_leaf_Leaves_Range p3 (ByteArray.mk #[97]) (ByteArray.mk #[]) h27 fun (vs28 : List Value) (h29 : Hp) =>
        ∃ l30 : Sl, ∃ l31 : Sl, vs28 = [(Value.slice l30.a l30.n l30.c), (Value.slice l31.a l31.n l31.c)] ∧
        (if (n25 == (0 : Int)) = true then ((if (n22 == (2 : Int)) = true then (∃ n32 : Int, rd h29 (Addr.add (Addr.mk (Array.size h21) 0 none) 0) = some (Value.int .i64 n32) ∧
                (if (n32 == (1 : Int)) = true then (∃ n33 : Int, rd h29 (Addr.add (Addr.mk (Array.size h21) 0 none) 1) = some (Value.int .i64 n33) ∧
                    (if (n33 == (2 : Int)) = true then (S_leaf_Leaves_Keys p3 (1 : Int) h29 fun (vs34 : List Value) (h35 : Hp) =>
                        ∃ l36 : Sl, vs34 = [(Value.slice l36.a l36.n l36.c)] ∧
                        wth (Array.push h35 (Obj.cells #[(Value.string (ByteArray.mk #[97])), (Value.string (ByteArray.mk #[98]))] T_string)) fun h37 =>
                        S_liverykeep_Texts ⟨l36.a, l36.n, l36.c⟩ ⟨(some (Addr.mk (Array.size h35) 0 none)), 2, 2⟩ h37 fun (vs38 : List Value) (h39 : Hp) =>
                        ∃ b40 : Bool, vs38 = [(Value.bool b40)] ∧
                        (if b40 = true then ((if ((l30.n : Int) == (3 : Int)) = true then (wth (Array.push h39 (Obj.cells #[(Value.int .i64 (1 : Int)), (Value.int .i64 (2 : Int))] T_int)) fun h41 =>
                                S_liverykeep_Ints ⟨l31.a, l31.n, l31.c⟩ ⟨(some (Addr.mk (Array.size h39) 0 none)), 2, 2⟩ h41 fun (vs42 : List Value) (h43 : Hp) =>
                                ∃ b44 : Bool, vs42 = [(Value.bool b44)] ∧
                                (if b44 = true then (S_leaf_Leaves_Of p3 (ByteArray.mk #[98, 98]) h43 fun (vs45 : List Value) (h46 : Hp) =>
                                    ∃ n47 : Int, vs45 = [(Value.int .i64 n47)] ∧
                                    Q [(Value.bool (n47 == (1 : Int)))] h46) else
                                  (Q [(Value.bool false)] h43))) else
                              (Q [(Value.bool false)] h39))) else
                          (Q [(Value.bool false)] h39))) else
                      (Q [(Value.bool false)] h29))) else
                  (Q [(Value.bool false)] h29))) else
              (Q [(Value.bool false)] h29))) else
          (Q [(Value.bool false)] h29))))) → J5 [(Value.bool b6)] h7) →
(if (n4 != (0 : Int)) = true then (J5 [(Value.bool true)] h2) else
  (J5 [(Value.bool (Option.isNone p3))] h2))
def A_liverylaw10_wakes : Ann := (.mk none ⟨[], []⟩ .nil (.mk none ⟨[], []⟩ .nil (.mk none ⟨[], []⟩ (.mk none ⟨[], []⟩ (.mk (some ⟨[1], [(17, (.c .bool))]⟩) ⟨[], []⟩ .nil .nil) .nil) .nil)))
theorem E_liverylaw10_wakes (h : Hp) (Q : List Value → Hp → Prop) : cw PP 70 (fun _ => []) (bodyOf Try.f13) A_liverylaw10_wakes (finQ PP (Try.f13.results.toList) Q) (argFr []) h = F_liverylaw10_wakes h Q := by kernel_rfl
theorem O_liverylaw10_wakes {h : Hp} {Q : List Value → Hp → Prop} (H : F_liverylaw10_wakes h Q) : S_liverylaw10_wakes h Q :=
  fn_of_cw (hs := (fun _ => [])) (ann := A_liverylaw10_wakes) (args := []) mixedPP Try.func13 (c := bodyOf Try.f13) (by kernel_rfl) (by kernel_rfl) (by kernel_rfl) (Eq.mpr (E_liverylaw10_wakes h Q) H)
def F_liverylaw10_LeafHalves (g0_fan : Int) (g1_n : Int) (h : Hp) (Q : List Value → Hp → Prop) : Prop :=
divOk (10 : Int) (S_leaf_New (IntKind.wrap .i64 ((2 : Int) + (Int.tmod (IntKind.wrap .i64 g0_fan) (10 : Int)))) h fun (vs1 : List Value) (h2 : Hp) =>
  ∃ p3 : Option Addr, ∃ n4 : Int, vs1 = [(Value.pointer p3), (Value.int .i64 n4)] ∧
  ∀ J5 : List Value → Hp → Prop, (∀ b6 : Bool, ∀ h7 : Hp, ((if b6 = true then
        (Q [(Value.bool false)] h7) else
        (∀ X8 : List Value → Hp → Prop, (∀ n9 : Int, ∀ h10 : Hp, ((if (decide (n9 < (IntKind.wrap .i64 g1_n))) = true then
                (wth (Array.push h10 (Obj.cells #[(Value.int .u8 (IntKind.wrap .u8 n9))] T_uint8)) fun h11 =>
                  ∃ s12 : ByteArray, bytesAt h11 (some (Addr.mk (Array.size h10) 0 none)) 1 s12 ∧
                  S_leaf_Leaves_Insert p3 s12 h11 fun (vs13 : List Value) (h14 : Hp) =>
                  ∃ n15 : Int, ∃ n16 : Int, ∃ n17 : Int, ∃ n18 : Int, vs13 = [(Value.int .i64 n15), (Value.agg #[(Value.int .i64 n16), (Value.int .i64 n17)]), (Value.int .i64 n18)] ∧
                  wth (Array.push h14 (Obj.cells #[(Value.int .i64 (0 : Int)), (Value.int .i64 (0 : Int))] T_leaf_Move)) fun h19 =>
                  stOk h19 (Addr.mk (Array.size h14) 0 none) 2 ∧ wth (wrs h19 (Addr.mk (Array.size h14) 0 none) 0 [(Value.int .i64 n16), (Value.int .i64 n17)]) fun h20 =>
                  (if (n18 != (0 : Int)) = true then
                    (Q [(Value.bool false)] h20) else
                    (X8 [(Value.int .i64 (IntKind.wrap .i64 (n9 + (1 : Int))))] h20))) else
                (S_leaf_Leaves_All p3 h10 fun (vs21 : List Value) (h22 : Hp) =>
                  ∃ l23 : Sl, vs21 = [(Value.slice l23.a l23.n l23.c)] ∧
                  divOk (2 : Int) (∀ X24 : List Value → Hp → Prop, (∀ n25 : Int, ∀ h26 : Hp, ((if (decide (n25 < (l23.n : Int))) = true then
                          (∀ J27 : List Value → Hp → Prop, (∀ b28 : Bool, ∀ h29 : Hp, ((if b28 = true then
                                  (Q [(Value.bool false)] h29) else
                                  (X24 [(Value.int .i64 (IntKind.wrap .i64 (n25 + (1 : Int))))] h29))) → J27 [(Value.bool b28)] h29) →
                            nilW l23.a fun a30 => ixOk n25 l23.n (∃ n31 : Int, rd h26 (Addr.add a30 (Int.toNat n25 * 1)) = some (Value.int .i64 n31) ∧
                              (if (n31 != (IntKind.wrap .i64 (n25 + (1 : Int)))) = true then (J27 [(Value.bool true)] h26) else
                                ((if (decide ((IntKind.wrap .i64 (n25 + (1 : Int))) < (l23.n : Int))) = true then (nilW l23.a fun a32 => ixOk n25 l23.n (∃ n33 : Int, rd h26 (Addr.add a32 (Int.toNat n25 * 1)) = some (Value.int .i64 n33) ∧
                                        S_leaf_Leaves_Keys p3 n33 h26 fun (vs34 : List Value) (h35 : Hp) =>
                                        ∃ l36 : Sl, vs34 = [(Value.slice l36.a l36.n l36.c)] ∧
                                        J27 [(Value.bool ((l36.n : Int) != (IntKind.wrap .i64 (Int.tdiv (IntKind.wrap .i64 ((IntKind.wrap .i64 ((2 : Int) + (Int.tmod (IntKind.wrap .i64 g0_fan) (10 : Int)))) + (2 : Int))) (2 : Int)))))] h35)) else
                                    (J27 [(Value.bool false)] h26)))))) else
                          (S_leaf_Leaves_Len p3 h26 fun (vs37 : List Value) (h38 : Hp) =>
                            ∃ n39 : Int, vs37 = [(Value.int .i64 n39)] ∧
                            (if (n39 == (IntKind.wrap .i64 g1_n)) = true then ((if (decide ((l23.n : Int) > (0 : Int))) = true then (nilW l23.a fun a40 => ixOk (IntKind.wrap .i64 ((l23.n : Int) - (1 : Int))) l23.n (∃ n41 : Int, rd h38 (Addr.add a40 (Int.toNat (IntKind.wrap .i64 ((l23.n : Int) - (1 : Int))) * 1)) = some (Value.int .i64 n41) ∧
                                      S_leaf_Leaves_Keys p3 n41 h38 fun (vs42 : List Value) (h43 : Hp) =>
                                      ∃ l44 : Sl, vs42 = [(Value.slice l44.a l44.n l44.c)] ∧
                                      (if ((l44.n : Int) == (IntKind.wrap .i64 ((IntKind.wrap .i64 g1_n) - (IntKind.wrap .i64 ((IntKind.wrap .i64 (Int.tdiv (IntKind.wrap .i64 ((IntKind.wrap .i64 ((2 : Int) + (Int.tmod (IntKind.wrap .i64 g0_fan) (10 : Int)))) + (2 : Int))) (2 : Int))) * (IntKind.wrap .i64 ((l23.n : Int) - (1 : Int)))))))) = true then (S_liverylaw10_wakes  h43 fun (vs45 : List Value) (h46 : Hp) =>
                                          ∃ b47 : Bool, vs45 = [(Value.bool b47)] ∧
                                          Q [(Value.bool b47)] h46) else
                                        (Q [(Value.bool false)] h43)))) else
                                  (Q [(Value.bool false)] h38))) else
                              (Q [(Value.bool false)] h38))))) → X24 [(Value.int .i64 n25)] h26) →
                    X24 [(Value.int .i64 (0 : Int))] h22)))) → X8 [(Value.int .i64 n9)] h10) →
          X8 [(Value.int .i64 (0 : Int))] h7))) → J5 [(Value.bool b6)] h7) →
  (if (n4 != (0 : Int)) = true then (J5 [(Value.bool true)] h2) else
    (J5 [(Value.bool (Option.isNone p3))] h2)))
def A_liverylaw10_LeafHalves : Ann := (.mk none ⟨[], []⟩ .nil (.mk none ⟨[], []⟩ .nil (.mk none ⟨[], []⟩ .nil (.mk none ⟨[], []⟩ (.mk none ⟨[], []⟩ (.mk (some ⟨[1, 5, 6], [(30, (.c .bool))]⟩) ⟨[], []⟩ .nil .nil) .nil) (.mk none ⟨[], []⟩ .nil (.mk none ⟨[], []⟩ (.mk none ⟨[], []⟩ .nil (.mk none ⟨[], []⟩ (.mk none ⟨[5, 6, 8], [(9, (.c (.int .i64)))]⟩ .nil .nil) .nil)) (.mk none ⟨[], []⟩ .nil (.mk none ⟨[], []⟩ .nil (.mk none ⟨[], []⟩ (.mk none ⟨[], []⟩ .nil (.mk none ⟨[], []⟩ (.mk none ⟨[6, 8, 13, 14], [(15, (.c (.int .i64)))]⟩ (.mk none ⟨[], []⟩ .nil (.mk none ⟨[], []⟩ (.mk none ⟨[], []⟩ (.mk none ⟨[], []⟩ (.mk (some ⟨[6, 8, 13, 14, 15], [(85, (.c .bool))]⟩) ⟨[], []⟩ .nil .nil) .nil) .nil) .nil)) .nil) .nil)) .nil)))))))))
theorem E_liverylaw10_LeafHalves (g0_fan : Int) (g1_n : Int) (h : Hp) (Q : List Value → Hp → Prop) : cw PP 117 (fun _ => []) (bodyOf Try.f3) A_liverylaw10_LeafHalves (finQ PP (Try.f3.results.toList) Q) (argFr [(Value.int .u8 g0_fan), (Value.int .u8 g1_n)]) h = F_liverylaw10_LeafHalves g0_fan g1_n h Q := by kernel_rfl
theorem O_liverylaw10_LeafHalves (g0_fan : Int) (g1_n : Int) {h : Hp} {Q : List Value → Hp → Prop} (H : F_liverylaw10_LeafHalves g0_fan g1_n h Q) : S_liverylaw10_LeafHalves g0_fan g1_n h Q :=
  fn_of_cw (hs := (fun _ => [])) (ann := A_liverylaw10_LeafHalves) (args := [(Value.int .u8 g0_fan), (Value.int .u8 g1_n)]) mixedPP Try.func3 (c := bodyOf Try.f3) (by kernel_rfl) (by kernel_rfl) (by kernel_rfl) (Eq.mpr (E_liverylaw10_LeafHalves g0_fan g1_n h Q) H)
def F_liverykeep_Mod (g0_k : Int) (g1_n : Int) (h : Hp) (Q : List Value → Hp → Prop) : Prop :=
(if (decide (g1_n < (1 : Int))) = true then
  (Q [(Value.int .i64 (0 : Int))] h) else
  (divOk g1_n (divOk g1_n (Q [(Value.int .i64 (Int.tmod (IntKind.wrap .i64 ((Int.tmod g0_k g1_n) + g1_n)) g1_n))] h))))
def A_liverykeep_Mod : Ann := .nil
theorem E_liverykeep_Mod (g0_k : Int) (g1_n : Int) (h : Hp) (Q : List Value → Hp → Prop) : cw PP 14 (fun _ => []) (bodyOf Try.f14) A_liverykeep_Mod (finQ PP (Try.f14.results.toList) Q) (argFr [(Value.int .i64 g0_k), (Value.int .i64 g1_n)]) h = F_liverykeep_Mod g0_k g1_n h Q := by kernel_rfl
theorem O_liverykeep_Mod (g0_k : Int) (g1_n : Int) {h : Hp} {Q : List Value → Hp → Prop} (H : F_liverykeep_Mod g0_k g1_n h Q) : S_liverykeep_Mod g0_k g1_n h Q :=
  fn_of_cw (hs := (fun _ => [])) (ann := A_liverykeep_Mod) (args := [(Value.int .i64 g0_k), (Value.int .i64 g1_n)]) mixedPP Try.func14 (c := bodyOf Try.f14) (by kernel_rfl) (by kernel_rfl) (by kernel_rfl) (Eq.mpr (E_liverykeep_Mod g0_k g1_n h Q) H)
def F_liverylaw10_fair (g0_l : Sl) (h : Hp) (Q : List Value → Hp → Prop) : Prop :=
∀ X1 : List Value → Hp → Prop, (∀ n2 : Int, ∀ h3 : Hp, ((if (decide (n2 < (g0_l.n : Int))) = true then
      (∀ J4 : List Value → Hp → Prop, (∀ b5 : Bool, ∀ h6 : Hp, ((if b5 = true then
              (Q [(Value.bool false)] h6) else
              (X1 [(Value.int .i64 (IntKind.wrap .i64 (n2 + (1 : Int))))] h6))) → J4 [(Value.bool b5)] h6) →
        nilW g0_l.a fun a7 => ixOk n2 g0_l.n (∃ s8 : ByteArray, rd h3 (Addr.add (Addr.add a7 (Int.toNat n2 * 3)) 1) = some (Value.string s8) ∧
          (if (decide ((ByteArray.size s8 : Int) > (1100 : Int))) = true then (J4 [(Value.bool true)] h3) else
            (nilW g0_l.a fun a9 => ixOk n2 g0_l.n (∃ s10 : ByteArray, rd h3 (Addr.add (Addr.add a9 (Int.toNat n2 * 3)) 2) = some (Value.string s10) ∧
                J4 [(Value.bool (decide ((ByteArray.size s10 : Int) > (1100 : Int))))] h3))))) else
      (Q [(Value.bool (decide ((g0_l.n : Int) ≤ (200 : Int))))] h3))) → X1 [(Value.int .i64 n2)] h3) →
X1 [(Value.int .i64 (0 : Int))] h
def A_liverylaw10_fair : Ann := (.mk none ⟨[], []⟩ .nil (.mk none ⟨[], []⟩ (.mk none ⟨[], []⟩ .nil (.mk none ⟨[], []⟩ (.mk none ⟨[0], [(3, (.c (.int .i64)))]⟩ (.mk none ⟨[], []⟩ .nil (.mk none ⟨[], []⟩ (.mk none ⟨[], []⟩ (.mk none ⟨[], []⟩ (.mk (some ⟨[0, 3], [(25, (.c .bool))]⟩) ⟨[], []⟩ .nil .nil) .nil) .nil) .nil)) .nil) .nil)) .nil))
theorem E_liverylaw10_fair (g0_l : Sl) (h : Hp) (Q : List Value → Hp → Prop) : cw PP 29 (fun _ => []) (bodyOf Try.f15) A_liverylaw10_fair (finQ PP (Try.f15.results.toList) Q) (argFr [(Value.slice g0_l.a g0_l.n g0_l.c)]) h = F_liverylaw10_fair g0_l h Q := by kernel_rfl
theorem O_liverylaw10_fair (g0_l : Sl) {h : Hp} {Q : List Value → Hp → Prop} (H : F_liverylaw10_fair g0_l h Q) : S_liverylaw10_fair g0_l h Q :=
  fn_of_cw (hs := (fun _ => [])) (ann := A_liverylaw10_fair) (args := [(Value.slice g0_l.a g0_l.n g0_l.c)]) mixedPP Try.func15 (c := bodyOf Try.f15) (by kernel_rfl) (by kernel_rfl) (by kernel_rfl) (Eq.mpr (E_liverylaw10_fair g0_l h Q) H)
def F_slices_Delete_sstring_string (g0_s : Sl) (g1_i : Int) (g2_j : Int) (h : Hp) (Q : List Value → Hp → Prop) : Prop :=
(0 ≤ g1_i ∧ g1_i ≤ g2_j ∧ g2_j ≤ (g0_s.n : Int) ∧ (g0_s.n : Int) ≤ (g0_s.c : Nat)) ∧ (if (g1_i == g2_j) = true then
  (Q [(Value.slice g0_s.a g0_s.n g0_s.c)] h) else
  ((0 ≤ g1_i ∧ g1_i ≤ (g0_s.c : Nat)) ∧ (0 ≤ g2_j ∧ g2_j ≤ (g0_s.n : Nat)) ∧ ∃ cs4 : List Value, cellsAt h (slAd g0_s.a (Int.toNat g2_j) g0_s.c 1) ((g0_s.n - (Int.toNat g2_j)) * 1) cs4 ∧ appS PP T_string 16 1 h ⟨(slAd g0_s.a 0 g0_s.c 1), ((Int.toNat g1_i) - 0), (g0_s.c - 0)⟩ (g0_s.n - (Int.toNat g2_j)) cs4 fun (l1 : Sl) (h2 : Hp) =>
    (0 ≤ (l1.n : Int) ∧ (l1.n : Int) ≤ (g0_s.n : Int) ∧ (g0_s.n : Int) ≤ (l1.c : Nat)) ∧ (List.all (Array.toList (zc PP T_string)) oneCell = true ∧ ∀ a : Addr, (slAd l1.a (Int.toNat (l1.n : Int)) l1.c 1) = some a → stOk h2 a (((Int.toNat (g0_s.n : Int)) - (Int.toNat (l1.n : Int))) * Array.size (zc PP T_string))) ∧ wth (cpHp h2 (if ((Int.toNat (g0_s.n : Int)) - (Int.toNat (l1.n : Int))) = 0 then none else (slAd l1.a (Int.toNat (l1.n : Int)) l1.c 1)) (Array.toList (Builtin.zeroCells (zc PP T_string) ((Int.toNat (g0_s.n : Int)) - (Int.toNat (l1.n : Int)))))) fun h3 =>
    Q [(Value.slice l1.a l1.n l1.c)] h3))
def A_slices_Delete_sstring_string : Ann := .nil
theorem E_slices_Delete_sstring_string (g0_s : Sl) (g1_i : Int) (g2_j : Int) (h : Hp) (Q : List Value → Hp → Prop) : cw PP 33 (fun _ => []) (bodyOf Try.f40) A_slices_Delete_sstring_string (finQ PP (Try.f40.results.toList) Q) (argFr [(Value.slice g0_s.a g0_s.n g0_s.c), (Value.int .i64 g1_i), (Value.int .i64 g2_j)]) h = F_slices_Delete_sstring_string g0_s g1_i g2_j h Q := by kernel_rfl
theorem O_slices_Delete_sstring_string (g0_s : Sl) (g1_i : Int) (g2_j : Int) {h : Hp} {Q : List Value → Hp → Prop} (H : F_slices_Delete_sstring_string g0_s g1_i g2_j h Q) : S_slices_Delete_sstring_string g0_s g1_i g2_j h Q :=
  fn_of_cw (hs := (fun _ => [])) (ann := A_slices_Delete_sstring_string) (args := [(Value.slice g0_s.a g0_s.n g0_s.c), (Value.int .i64 g1_i), (Value.int .i64 g2_j)]) mixedPP Try.func40 (c := bodyOf Try.f40) (by kernel_rfl) (by kernel_rfl) (by kernel_rfl) (Eq.mpr (E_slices_Delete_sstring_string g0_s g1_i g2_j h Q) H)
def F_slices_Delete_spleaf_one_pleaf_one (g0_s : Sl) (g1_i : Int) (g2_j : Int) (h : Hp) (Q : List Value → Hp → Prop) : Prop :=
(0 ≤ g1_i ∧ g1_i ≤ g2_j ∧ g2_j ≤ (g0_s.n : Int) ∧ (g0_s.n : Int) ≤ (g0_s.c : Nat)) ∧ (if (g1_i == g2_j) = true then
  (Q [(Value.slice g0_s.a g0_s.n g0_s.c)] h) else
  ((0 ≤ g1_i ∧ g1_i ≤ (g0_s.c : Nat)) ∧ (0 ≤ g2_j ∧ g2_j ≤ (g0_s.n : Nat)) ∧ ∃ cs4 : List Value, cellsAt h (slAd g0_s.a (Int.toNat g2_j) g0_s.c 1) ((g0_s.n - (Int.toNat g2_j)) * 1) cs4 ∧ appS PP T_pleaf_one 8 1 h ⟨(slAd g0_s.a 0 g0_s.c 1), ((Int.toNat g1_i) - 0), (g0_s.c - 0)⟩ (g0_s.n - (Int.toNat g2_j)) cs4 fun (l1 : Sl) (h2 : Hp) =>
    (0 ≤ (l1.n : Int) ∧ (l1.n : Int) ≤ (g0_s.n : Int) ∧ (g0_s.n : Int) ≤ (l1.c : Nat)) ∧ (List.all (Array.toList (zc PP T_pleaf_one)) oneCell = true ∧ ∀ a : Addr, (slAd l1.a (Int.toNat (l1.n : Int)) l1.c 1) = some a → stOk h2 a (((Int.toNat (g0_s.n : Int)) - (Int.toNat (l1.n : Int))) * Array.size (zc PP T_pleaf_one))) ∧ wth (cpHp h2 (if ((Int.toNat (g0_s.n : Int)) - (Int.toNat (l1.n : Int))) = 0 then none else (slAd l1.a (Int.toNat (l1.n : Int)) l1.c 1)) (Array.toList (Builtin.zeroCells (zc PP T_pleaf_one) ((Int.toNat (g0_s.n : Int)) - (Int.toNat (l1.n : Int)))))) fun h3 =>
    Q [(Value.slice l1.a l1.n l1.c)] h3))
def A_slices_Delete_spleaf_one_pleaf_one : Ann := .nil
theorem E_slices_Delete_spleaf_one_pleaf_one (g0_s : Sl) (g1_i : Int) (g2_j : Int) (h : Hp) (Q : List Value → Hp → Prop) : cw PP 33 (fun _ => []) (bodyOf Try.f41) A_slices_Delete_spleaf_one_pleaf_one (finQ PP (Try.f41.results.toList) Q) (argFr [(Value.slice g0_s.a g0_s.n g0_s.c), (Value.int .i64 g1_i), (Value.int .i64 g2_j)]) h = F_slices_Delete_spleaf_one_pleaf_one g0_s g1_i g2_j h Q := by kernel_rfl
theorem O_slices_Delete_spleaf_one_pleaf_one (g0_s : Sl) (g1_i : Int) (g2_j : Int) {h : Hp} {Q : List Value → Hp → Prop} (H : F_slices_Delete_spleaf_one_pleaf_one g0_s g1_i g2_j h Q) : S_slices_Delete_spleaf_one_pleaf_one g0_s g1_i g2_j h Q :=
  fn_of_cw (hs := (fun _ => [])) (ann := A_slices_Delete_spleaf_one_pleaf_one) (args := [(Value.slice g0_s.a g0_s.n g0_s.c), (Value.int .i64 g1_i), (Value.int .i64 g2_j)]) mixedPP Try.func41 (c := bodyOf Try.f41) (by kernel_rfl) (by kernel_rfl) (by kernel_rfl) (Eq.mpr (E_slices_Delete_spleaf_one_pleaf_one g0_s g1_i g2_j h Q) H)
def F_leaf_Leaves_Remove (g0_x : Option Addr) (g1_k : ByteArray) (h : Hp) (Q : List Value → Hp → Prop) : Prop :=
wth (Array.push h (Obj.cells #[(Value.int .i64 (0 : Int)), (Value.int .i64 (0 : Int))] T_leaf_Move)) fun h1 =>
(if (Option.isNone g0_x) = true then
  (stOk h1 (Addr.mk (Array.size h) 0 none) 2 ∧ wth (wrs h1 (Addr.mk (Array.size h) 0 none) 0 [(Value.int .i64 (0 : Int)), (Value.int .i64 (0 : Int))]) fun h2 =>
    ∃ n3 : Int, rd h2 (Addr.add (Addr.mk (Array.size h) 0 none) 0) = some (Value.int .i64 n3) ∧ ∃ n4 : Int, rd h2 (Addr.add (Addr.mk (Array.size h) 0 none) 1) = some (Value.int .i64 n4) ∧ Q [(Value.int .i64 (0 : Int)), (Value.agg #[(Value.int .i64 n3), (Value.int .i64 n4)]), (Value.int .i64 (1 : Int))] h2) else
  (S_leaf_Leaves_at g0_x g1_k h1 fun (vs5 : List Value) (h6 : Hp) =>
    ∃ n7 : Int, vs5 = [(Value.int .i64 n7)] ∧
    nilW g0_x fun a8 => ∃ l9 : Sl, rd h6 (Addr.add a8 1) = some (Value.slice l9.a l9.n l9.c) ∧
    nilW l9.a fun a10 => ixOk n7 l9.n (∃ p11 : Option Addr, rd h6 (Addr.add a10 (Int.toNat n7 * 1)) = some (Value.pointer p11) ∧
      nilW p11 fun a12 => ∃ l13 : Sl, rd h6 (Addr.add a12 2) = some (Value.slice l13.a l13.n l13.c) ∧
      S_slices_BinarySearch_sstring_string ⟨l13.a, l13.n, l13.c⟩ g1_k h6 fun (vs14 : List Value) (h15 : Hp) =>
      ∃ n16 : Int, ∃ b17 : Bool, vs14 = [(Value.int .i64 n16), (Value.bool b17)] ∧
      (if (!b17) = true then
        (stOk h15 (Addr.mk (Array.size h) 0 none) 2 ∧ wth (wrs h15 (Addr.mk (Array.size h) 0 none) 0 [(Value.int .i64 (0 : Int)), (Value.int .i64 (0 : Int))]) fun h18 =>
          ∃ n19 : Int, rd h18 (Addr.add (Addr.mk (Array.size h) 0 none) 0) = some (Value.int .i64 n19) ∧ ∃ n20 : Int, rd h18 (Addr.add (Addr.mk (Array.size h) 0 none) 1) = some (Value.int .i64 n20) ∧ Q [(Value.int .i64 (0 : Int)), (Value.agg #[(Value.int .i64 n19), (Value.int .i64 n20)]), (Value.int .i64 (60 : Int))] h18) else
        (nilW p11 fun a21 => ∃ l22 : Sl, rd h15 (Addr.add a21 2) = some (Value.slice l22.a l22.n l22.c) ∧
          S_slices_Delete_sstring_string ⟨l22.a, l22.n, l22.c⟩ n16 (IntKind.wrap .i64 (n16 + (1 : Int))) h15 fun (vs23 : List Value) (h24 : Hp) =>
          ∃ l25 : Sl, vs23 = [(Value.slice l25.a l25.n l25.c)] ∧
          nilW p11 fun a26 => stOk h24 (Addr.add a26 2) 1 ∧ wth (wrs h24 (Addr.add a26 2) 0 [(Value.slice l25.a l25.n l25.c)]) fun h27 =>
          ∀ J28 : List Value → Hp → Prop, (∀ b29 : Bool, ∀ h30 : Hp, ((if b29 = true then
                (nilW p11 fun a31 => ∃ n32 : Int, rd h30 (Addr.add a31 0) = some (Value.int .i64 n32) ∧
                  stOk h30 (Addr.mk (Array.size h) 0 none) 2 ∧ wth (wrs h30 (Addr.mk (Array.size h) 0 none) 0 [(Value.int .i64 (0 : Int)), (Value.int .i64 (0 : Int))]) fun h33 =>
                  ∃ n34 : Int, rd h33 (Addr.add (Addr.mk (Array.size h) 0 none) 0) = some (Value.int .i64 n34) ∧ ∃ n35 : Int, rd h33 (Addr.add (Addr.mk (Array.size h) 0 none) 1) = some (Value.int .i64 n35) ∧ Q [(Value.int .i64 n32), (Value.agg #[(Value.int .i64 n34), (Value.int .i64 n35)]), (Value.int .i64 (0 : Int))] h33) else
                (nilW g0_x fun a36 => ∃ l37 : Sl, rd h30 (Addr.add a36 1) = some (Value.slice l37.a l37.n l37.c) ∧
                  S_slices_Delete_spleaf_one_pleaf_one ⟨l37.a, l37.n, l37.c⟩ n7 (IntKind.wrap .i64 (n7 + (1 : Int))) h30 fun (vs38 : List Value) (h39 : Hp) =>
                  ∃ l40 : Sl, vs38 = [(Value.slice l40.a l40.n l40.c)] ∧
                  nilW g0_x fun a41 => stOk h39 (Addr.add a41 1) 1 ∧ wth (wrs h39 (Addr.add a41 1) 0 [(Value.slice l40.a l40.n l40.c)]) fun h42 =>
                  nilW p11 fun a43 => ∃ n44 : Int, rd h42 (Addr.add a43 0) = some (Value.int .i64 n44) ∧
                  nilW p11 fun a45 => ∃ n46 : Int, rd h42 (Addr.add a45 0) = some (Value.int .i64 n46) ∧
                  nilW g0_x fun a47 => ∃ l48 : Sl, rd h42 (Addr.add a47 1) = some (Value.slice l48.a l48.n l48.c) ∧
                  nilW l48.a fun a49 => ixOk (mxI (IntKind.wrap .i64 (n7 - (1 : Int))) (0 : Int)) l48.n (∃ p50 : Option Addr, rd h42 (Addr.add a49 (Int.toNat (mxI (IntKind.wrap .i64 (n7 - (1 : Int))) (0 : Int)) * 1)) = some (Value.pointer p50) ∧
                    nilW p50 fun a51 => ∃ n52 : Int, rd h42 (Addr.add a51 0) = some (Value.int .i64 n52) ∧
                    stOk h42 (Addr.mk (Array.size h) 0 none) 2 ∧ wth (wrs h42 (Addr.mk (Array.size h) 0 none) 0 [(Value.int .i64 n46), (Value.int .i64 n52)]) fun h53 =>
                    ∃ n54 : Int, rd h53 (Addr.add (Addr.mk (Array.size h) 0 none) 0) = some (Value.int .i64 n54) ∧ ∃ n55 : Int, rd h53 (Addr.add (Addr.mk (Array.size h) 0 none) 1) = some (Value.int .i64 n55) ∧ Q [(Value.int .i64 n44), (Value.agg #[(Value.int .i64 n54), (Value.int .i64 n55)]), (Value.int .i64 (0 : Int))] h53)))) → J28 [(Value.bool b29)] h30) →
          nilW p11 fun a56 => ∃ l57 : Sl, rd h27 (Addr.add a56 2) = some (Value.slice l57.a l57.n l57.c) ∧
          (if (decide ((l57.n : Int) > (0 : Int))) = true then (J28 [(Value.bool true)] h27) else
            (nilW g0_x fun a58 => ∃ l59 : Sl, rd h27 (Addr.add a58 1) = some (Value.slice l59.a l59.n l59.c) ∧
              J28 [(Value.bool ((l59.n : Int) == (1 : Int)))] h27)))))))
def A_leaf_Leaves_Remove : Ann := (.mk none ⟨[], []⟩ .nil (.mk none ⟨[], []⟩ .nil (.mk none ⟨[], []⟩ .nil (.mk none ⟨[], []⟩ .nil (.mk none ⟨[], []⟩ .nil (.mk none ⟨[], []⟩ .nil (.mk none ⟨[], []⟩ .nil (.mk none ⟨[], []⟩ (.mk none ⟨[], []⟩ (.mk (some ⟨[0, 5, 7, 8], [(60, (.c .bool))]⟩) ⟨[], []⟩ .nil .nil) .nil) .nil))))))))
theorem E_leaf_Leaves_Remove (g0_x : Option Addr) (g1_k : ByteArray) (h : Hp) (Q : List Value → Hp → Prop) : cw PP 98 (fun _ => []) (bodyOf Try.f21) A_leaf_Leaves_Remove (finQ PP (Try.f21.results.toList) Q) (argFr [(Value.pointer g0_x), (Value.string g1_k)]) h = F_leaf_Leaves_Remove g0_x g1_k h Q := by kernel_rfl
theorem O_leaf_Leaves_Remove (g0_x : Option Addr) (g1_k : ByteArray) {h : Hp} {Q : List Value → Hp → Prop} (H : F_leaf_Leaves_Remove g0_x g1_k h Q) : S_leaf_Leaves_Remove g0_x g1_k h Q :=
  fn_of_cw (hs := (fun _ => [])) (ann := A_leaf_Leaves_Remove) (args := [(Value.pointer g0_x), (Value.string g1_k)]) mixedPP Try.func21 (c := bodyOf Try.f21) (by kernel_rfl) (by kernel_rfl) (by kernel_rfl) (Eq.mpr (E_leaf_Leaves_Remove g0_x g1_k h Q) H)
def F_liverylaw10_do (g0_x : Option Addr) (g1_s_0 : Int) (g1_s_1 : ByteArray) (g1_s_2 : ByteArray) (h : Hp) (Q : List Value → Hp → Prop) : Prop :=
wth (Array.push h (Obj.cells #[(Value.int .i64 g1_s_0), (Value.string g1_s_1), (Value.string g1_s_2)] T_liverylaw10_Step)) fun h1 =>
wth (Array.push h1 (Obj.cells #[(Value.int .i64 (0 : Int)), (Value.int .i64 (0 : Int))] T_leaf_Move)) fun h2 =>
∃ n3 : Int, rd h2 (Addr.add (Addr.mk (Array.size h) 0 none) 0) = some (Value.int .i64 n3) ∧
(if (n3 == (0 : Int)) = true then
  (∃ s4 : ByteArray, rd h2 (Addr.add (Addr.mk (Array.size h) 0 none) 1) = some (Value.string s4) ∧
    S_leaf_Leaves_Insert g0_x s4 h2 fun (vs5 : List Value) (h6 : Hp) =>
    ∃ n7 : Int, ∃ n8 : Int, ∃ n9 : Int, ∃ n10 : Int, vs5 = [(Value.int .i64 n7), (Value.agg #[(Value.int .i64 n8), (Value.int .i64 n9)]), (Value.int .i64 n10)] ∧
    stOk h6 (Addr.mk (Array.size h1) 0 none) 2 ∧ wth (wrs h6 (Addr.mk (Array.size h1) 0 none) 0 [(Value.int .i64 n8), (Value.int .i64 n9)]) fun h11 =>
    ∃ n12 : Int, rd h11 (Addr.add (Addr.mk (Array.size h1) 0 none) 0) = some (Value.int .i64 n12) ∧ ∃ n13 : Int, rd h11 (Addr.add (Addr.mk (Array.size h1) 0 none) 1) = some (Value.int .i64 n13) ∧ Q [(Value.int .i64 n7), (Value.agg #[(Value.int .i64 n12), (Value.int .i64 n13)]), (Value.int .i64 n10)] h11) else
  (∃ s14 : ByteArray, rd h2 (Addr.add (Addr.mk (Array.size h) 0 none) 1) = some (Value.string s14) ∧
    S_leaf_Leaves_Remove g0_x s14 h2 fun (vs15 : List Value) (h16 : Hp) =>
    ∃ n17 : Int, ∃ n18 : Int, ∃ n19 : Int, ∃ n20 : Int, vs15 = [(Value.int .i64 n17), (Value.agg #[(Value.int .i64 n18), (Value.int .i64 n19)]), (Value.int .i64 n20)] ∧
    stOk h16 (Addr.mk (Array.size h1) 0 none) 2 ∧ wth (wrs h16 (Addr.mk (Array.size h1) 0 none) 0 [(Value.int .i64 n18), (Value.int .i64 n19)]) fun h21 =>
    ∃ n22 : Int, rd h21 (Addr.add (Addr.mk (Array.size h1) 0 none) 0) = some (Value.int .i64 n22) ∧ ∃ n23 : Int, rd h21 (Addr.add (Addr.mk (Array.size h1) 0 none) 1) = some (Value.int .i64 n23) ∧ Q [(Value.int .i64 n17), (Value.agg #[(Value.int .i64 n22), (Value.int .i64 n23)]), (Value.int .i64 n20)] h21))
def A_liverylaw10_do : Ann := .nil
theorem E_liverylaw10_do (g0_x : Option Addr) (g1_s_0 : Int) (g1_s_1 : ByteArray) (g1_s_2 : ByteArray) (h : Hp) (Q : List Value → Hp → Prop) : cw PP 24 (fun _ => []) (bodyOf Try.f16) A_liverylaw10_do (finQ PP (Try.f16.results.toList) Q) (argFr [(Value.pointer g0_x), (Value.agg #[(Value.int .i64 g1_s_0), (Value.string g1_s_1), (Value.string g1_s_2)])]) h = F_liverylaw10_do g0_x g1_s_0 g1_s_1 g1_s_2 h Q := by kernel_rfl
theorem O_liverylaw10_do (g0_x : Option Addr) (g1_s_0 : Int) (g1_s_1 : ByteArray) (g1_s_2 : ByteArray) {h : Hp} {Q : List Value → Hp → Prop} (H : F_liverylaw10_do g0_x g1_s_0 g1_s_1 g1_s_2 h Q) : S_liverylaw10_do g0_x g1_s_0 g1_s_1 g1_s_2 h Q :=
  fn_of_cw (hs := (fun _ => [])) (ann := A_liverylaw10_do) (args := [(Value.pointer g0_x), (Value.agg #[(Value.int .i64 g1_s_0), (Value.string g1_s_1), (Value.string g1_s_2)])]) mixedPP Try.func16 (c := bodyOf Try.f16) (by kernel_rfl) (by kernel_rfl) (by kernel_rfl) (Eq.mpr (E_liverylaw10_do g0_x g1_s_0 g1_s_1 g1_s_2 h Q) H)
def F_liverykeep_Has (g0_l : Sl) (g1_n : Int) (h : Hp) (Q : List Value → Hp → Prop) : Prop :=
∀ X1 : List Value → Hp → Prop, (∀ n2 : Int, ∀ h3 : Hp, ((if (decide (n2 < (g0_l.n : Int))) = true then
      (nilW g0_l.a fun a4 => ixOk n2 g0_l.n (∃ n5 : Int, rd h3 (Addr.add a4 (Int.toNat n2 * 1)) = some (Value.int .i64 n5) ∧
          (if (n5 == g1_n) = true then
            (Q [(Value.bool true)] h3) else
            (X1 [(Value.int .i64 (IntKind.wrap .i64 (n2 + (1 : Int))))] h3)))) else
      (Q [(Value.bool false)] h3))) → X1 [(Value.int .i64 n2)] h3) →
X1 [(Value.int .i64 (0 : Int))] h
def A_liverykeep_Has : Ann := (.mk none ⟨[], []⟩ .nil (.mk none ⟨[], []⟩ (.mk none ⟨[], []⟩ .nil (.mk none ⟨[], []⟩ (.mk none ⟨[0, 1], [(5, (.c (.int .i64)))]⟩ .nil .nil) .nil)) .nil))
theorem E_liverykeep_Has (g0_l : Sl) (g1_n : Int) (h : Hp) (Q : List Value → Hp → Prop) : cw PP 18 (fun _ => []) (bodyOf Try.f18) A_liverykeep_Has (finQ PP (Try.f18.results.toList) Q) (argFr [(Value.slice g0_l.a g0_l.n g0_l.c), (Value.int .i64 g1_n)]) h = F_liverykeep_Has g0_l g1_n h Q := by kernel_rfl
theorem O_liverykeep_Has (g0_l : Sl) (g1_n : Int) {h : Hp} {Q : List Value → Hp → Prop} (H : F_liverykeep_Has g0_l g1_n h Q) : S_liverykeep_Has g0_l g1_n h Q :=
  fn_of_cw (hs := (fun _ => [])) (ann := A_liverykeep_Has) (args := [(Value.slice g0_l.a g0_l.n g0_l.c), (Value.int .i64 g1_n)]) mixedPP Try.func18 (c := bodyOf Try.f18) (by kernel_rfl) (by kernel_rfl) (by kernel_rfl) (Eq.mpr (E_liverykeep_Has g0_l g1_n h Q) H)
def F_liverylaw10_LeafCovers (g0_ahead : Sl) (g1_behind : Sl) (g2_s_0 : Int) (g2_s_1 : ByteArray) (g2_s_2 : ByteArray) (h : Hp) (Q : List Value → Hp → Prop) : Prop :=
wth (Array.push h (Obj.cells #[(Value.int .i64 g2_s_0), (Value.string g2_s_1), (Value.string g2_s_2)] T_liverylaw10_Step)) fun h1 =>
S_liverykeep_Mod (g0_ahead.n : Int) (6 : Int) h1 fun (vs2 : List Value) (h3 : Hp) =>
∃ n4 : Int, vs2 = [(Value.int .i64 n4)] ∧
S_leaf_New (IntKind.wrap .i64 ((2 : Int) + n4)) h3 fun (vs5 : List Value) (h6 : Hp) =>
∃ p7 : Option Addr, ∃ n8 : Int, vs5 = [(Value.pointer p7), (Value.int .i64 n8)] ∧
∀ J9 : List Value → Hp → Prop, (∀ b10 : Bool, ∀ h11 : Hp, ((if b10 = true then
      (∀ J12 : List Value → Hp → Prop, (∀ b13 : Bool, ∀ h14 : Hp, (Q [(Value.bool b13)] h14) → J12 [(Value.bool b13)] h14) →
        (if (n8 == (0 : Int)) = true then (S_liverylaw10_wakes  h11 fun (vs15 : List Value) (h16 : Hp) =>
            ∃ b17 : Bool, vs15 = [(Value.bool b17)] ∧
            J12 [(Value.bool b17)] h16) else
          (J12 [(Value.bool false)] h11))) else
      (∀ X18 : List Value → Hp → Prop, (∀ n19 : Int, ∀ h20 : Hp, ((if (decide (n19 < (g0_ahead.n : Int))) = true then
              (nilW g0_ahead.a fun a21 => ixOk n19 g0_ahead.n (∃ n22 : Int, rd h20 (Addr.add (Addr.add a21 (Int.toNat n19 * 3)) 0) = some (Value.int .i64 n22) ∧ ∃ s23 : ByteArray, rd h20 (Addr.add (Addr.add a21 (Int.toNat n19 * 3)) 1) = some (Value.string s23) ∧ ∃ s24 : ByteArray, rd h20 (Addr.add (Addr.add a21 (Int.toNat n19 * 3)) 2) = some (Value.string s24) ∧ S_liverylaw10_do p7 n22 s23 s24 h20 fun (vs25 : List Value) (h26 : Hp) =>
                  ∃ n27 : Int, ∃ n28 : Int, ∃ n29 : Int, ∃ n30 : Int, vs25 = [(Value.int .i64 n27), (Value.agg #[(Value.int .i64 n28), (Value.int .i64 n29)]), (Value.int .i64 n30)] ∧
                  X18 [(Value.int .i64 (IntKind.wrap .i64 (n19 + (1 : Int))))] h26)) else
              (∃ s31 : ByteArray, rd h20 (Addr.add (Addr.mk (Array.size h) 0 none) 1) = some (Value.string s31) ∧
                ∃ s32 : ByteArray, rd h20 (Addr.add (Addr.mk (Array.size h) 0 none) 2) = some (Value.string s32) ∧
                S_leaf_Leaves_Range p7 s31 s32 h20 fun (vs33 : List Value) (h34 : Hp) =>
                ∃ l35 : Sl, ∃ l36 : Sl, vs33 = [(Value.slice l35.a l35.n l35.c), (Value.slice l36.a l36.n l36.c)] ∧
                ∀ J37 : List Value → Hp → Prop, (∀ b38 : Bool, ∀ h39 : Hp, ((if b38 = true then
                      (∀ J40 : List Value → Hp → Prop, (∀ b41 : Bool, ∀ h42 : Hp, (Q [(Value.bool b41)] h42) → J40 [(Value.bool b41)] h42) →
                        (if ((l36.n : Int) == (0 : Int)) = true then (S_liverylaw10_wakes  h39 fun (vs43 : List Value) (h44 : Hp) =>
                            ∃ b45 : Bool, vs43 = [(Value.bool b45)] ∧
                            J40 [(Value.bool b45)] h44) else
                          (J40 [(Value.bool false)] h39))) else
                      ((if ((l36.n : Int) == (0 : Int)) = true then
                          (Q [(Value.bool false)] h39) else
                          (∀ X46 : List Value → Hp → Prop, (∀ l47 : Sl, ∀ n48 : Int, ∀ h49 : Hp, ((if (decide (n48 < (g1_behind.n : Int))) = true then
                                  (nilW g1_behind.a fun a50 => ixOk n48 g1_behind.n (∃ s51 : ByteArray, rd h49 (Addr.add (Addr.add a50 (Int.toNat n48 * 3)) 1) = some (Value.string s51) ∧
                                      nilW g1_behind.a fun a52 => ixOk n48 g1_behind.n (∃ n53 : Int, rd h49 (Addr.add (Addr.add a52 (Int.toNat n48 * 3)) 0) = some (Value.int .i64 n53) ∧ ∃ s54 : ByteArray, rd h49 (Addr.add (Addr.add a52 (Int.toNat n48 * 3)) 1) = some (Value.string s54) ∧ ∃ s55 : ByteArray, rd h49 (Addr.add (Addr.add a52 (Int.toNat n48 * 3)) 2) = some (Value.string s55) ∧ S_liverylaw10_do p7 n53 s54 s55 h49 fun (vs56 : List Value) (h57 : Hp) =>
                                        ∃ n58 : Int, ∃ n59 : Int, ∃ n60 : Int, ∃ n61 : Int, vs56 = [(Value.int .i64 n58), (Value.agg #[(Value.int .i64 n59), (Value.int .i64 n60)]), (Value.int .i64 n61)] ∧
                                        wth (Array.push h57 (Obj.cells #[(Value.int .i64 (0 : Int)), (Value.int .i64 (0 : Int))] T_leaf_Move)) fun h62 =>
                                        stOk h62 (Addr.mk (Array.size h57) 0 none) 2 ∧ wth (wrs h62 (Addr.mk (Array.size h57) 0 none) 0 [(Value.int .i64 n59), (Value.int .i64 n60)]) fun h63 =>
                                        ∀ J64 : List Value → Hp → Prop, (∀ b65 : Bool, ∀ h66 : Hp, (∀ J67 : List Value → Hp → Prop, (∀ l68 : Sl, ∀ h69 : Hp, (∀ J70 : List Value → Hp → Prop, (∀ b71 : Bool, ∀ h72 : Hp, ((if b71 = true then
                                                      (Q [(Value.bool false)] h72) else
                                                      (X46 [(Value.slice l68.a l68.n l68.c), (Value.int .i64 (IntKind.wrap .i64 (n48 + (1 : Int))))] h72))) → J70 [(Value.bool b71)] h72) →
                                                nilW g1_behind.a fun a73 => ixOk n48 g1_behind.n (∃ n74 : Int, rd h69 (Addr.add (Addr.add a73 (Int.toNat n48 * 3)) 0) = some (Value.int .i64 n74) ∧
                                                  (if (n74 == (0 : Int)) = true then ((if (n61 == (0 : Int)) = true then (∃ s75 : ByteArray, rd h69 (Addr.add (Addr.mk (Array.size h) 0 none) 1) = some (Value.string s75) ∧
                                                          (if (!(Op.bytesLess (ByteArray.toList s51) (ByteArray.toList s75))) = true then (∃ s76 : ByteArray, rd h69 (Addr.add (Addr.mk (Array.size h) 0 none) 2) = some (Value.string s76) ∧
                                                            (if ((ByteArray.toList s76) == (ByteArray.toList (ByteArray.mk #[]))) = true then (S_liverykeep_Has ⟨l68.a, l68.n, l68.c⟩ n58 h69 fun (vs77 : List Value) (h78 : Hp) =>
                                                            ∃ b79 : Bool, vs77 = [(Value.bool b79)] ∧
                                                            J70 [(Value.bool (!b79))] h78) else
                                                            (∃ s80 : ByteArray, rd h69 (Addr.add (Addr.mk (Array.size h) 0 none) 2) = some (Value.string s80) ∧
                                                            (if (Op.bytesLess (ByteArray.toList s51) (ByteArray.toList s80)) = true then (S_liverykeep_Has ⟨l68.a, l68.n, l68.c⟩ n58 h69 fun (vs81 : List Value) (h82 : Hp) =>
                                                            ∃ b83 : Bool, vs81 = [(Value.bool b83)] ∧
                                                            J70 [(Value.bool (!b83))] h82) else
                                                            (J70 [(Value.bool false)] h69))))) else
                                                            (J70 [(Value.bool false)] h69))) else
                                                        (J70 [(Value.bool false)] h69))) else
                                                    (J70 [(Value.bool false)] h69)))) → J67 [(Value.slice l68.a l68.n l68.c)] h69) →
                                            (if b65 = true then
                                              (∃ n84 : Int, rd h66 (Addr.add (Addr.mk (Array.size h57) 0 none) 1) = some (Value.int .i64 n84) ∧
                                                (wth (Array.push h66 (Obj.cells #[] T_int)) fun h85 =>
                                                  rd h85 (Addr.add (Addr.mk (Array.size h57) 0 none) 1) = some (Value.int .i64 n84) ∧ (∃ cs92 : List Value, cellsAt h85 l47.a (l47.n * 1) cs92 ∧ appS PP T_int 8 1 h85 ⟨(some (Addr.mk (Array.size h66) 0 none)), 0, 0⟩ l47.n cs92 fun (l86 : Sl) (h87 : Hp) =>
                                                    rd h87 (Addr.add (Addr.mk (Array.size h57) 0 none) 1) = some (Value.int .i64 n84) ∧ wth (Array.push h87 (Obj.cells #[(Value.int .i64 n84)] T_int)) fun h88 =>
                                                    ∃ cs91 : List Value, cellsAt h88 (some (Addr.mk (Array.size h87) 0 none)) (1 * 1) cs91 ∧ appS PP T_int 8 1 h88 ⟨l86.a, l86.n, l86.c⟩ 1 cs91 fun (l89 : Sl) (h90 : Hp) =>
                                                    J67 [(Value.slice l89.a l89.n l89.c)] h90) ∧
                                                  (wth (Array.push h85 (Obj.cells #[(Value.int .i64 n84)] T_int)) fun h93 =>
                                                    ∃ cs99 : List Value, cellsAt h93 l47.a (l47.n * 1) cs99 ∧ appS PP T_int 8 1 h93 ⟨(some (Addr.mk (Array.size h66) 0 none)), 0, 0⟩ l47.n cs99 fun (l94 : Sl) (h95 : Hp) =>
                                                    ∃ cs98 : List Value, cellsAt h95 (some (Addr.mk (Array.size h85) 0 none)) (1 * 1) cs98 ∧ appS PP T_int 8 1 h95 ⟨l94.a, l94.n, l94.c⟩ 1 cs98 fun (l96 : Sl) (h97 : Hp) =>
                                                    J67 [(Value.slice l96.a l96.n l96.c)] h97)) ∧
                                                (wth (Array.push h66 (Obj.cells #[(Value.int .i64 n84)] T_int)) fun h100 =>
                                                  wth (Array.push h100 (Obj.cells #[] T_int)) fun h101 =>
                                                  ∃ cs107 : List Value, cellsAt h101 l47.a (l47.n * 1) cs107 ∧ appS PP T_int 8 1 h101 ⟨(some (Addr.mk (Array.size h100) 0 none)), 0, 0⟩ l47.n cs107 fun (l102 : Sl) (h103 : Hp) =>
                                                  ∃ cs106 : List Value, cellsAt h103 (some (Addr.mk (Array.size h66) 0 none)) (1 * 1) cs106 ∧ appS PP T_int 8 1 h103 ⟨l102.a, l102.n, l102.c⟩ 1 cs106 fun (l104 : Sl) (h105 : Hp) =>
                                                  J67 [(Value.slice l104.a l104.n l104.c)] h105)) else
                                              (J67 [(Value.slice l47.a l47.n l47.c)] h66))) → J64 [(Value.bool b65)] h66) →
                                        ∃ n108 : Int, rd h63 (Addr.add (Addr.mk (Array.size h57) 0 none) 0) = some (Value.int .i64 n108) ∧
                                        (if (n108 != (0 : Int)) = true then (∃ n109 : Int, rd h63 (Addr.add (Addr.mk (Array.size h57) 0 none) 0) = some (Value.int .i64 n109) ∧
                                            S_liverykeep_Has ⟨l47.a, l47.n, l47.c⟩ n109 h63 fun (vs110 : List Value) (h111 : Hp) =>
                                            ∃ b112 : Bool, vs110 = [(Value.bool b112)] ∧
                                            J64 [(Value.bool b112)] h111) else
                                          (J64 [(Value.bool false)] h63))))) else
                                  (S_liverylaw10_wakes  h49 fun (vs113 : List Value) (h114 : Hp) =>
                                    ∃ b115 : Bool, vs113 = [(Value.bool b115)] ∧
                                    Q [(Value.bool b115)] h114))) → X46 [(Value.slice l47.a l47.n l47.c), (Value.int .i64 n48)] h49) →
                            X46 [(Value.slice l36.a l36.n l36.c), (Value.int .i64 (0 : Int))] h39))))) → J37 [(Value.bool b38)] h39) →
                ∃ s116 : ByteArray, rd h34 (Addr.add (Addr.mk (Array.size h) 0 none) 2) = some (Value.string s116) ∧
                (if (!((ByteArray.toList s116) == (ByteArray.toList (ByteArray.mk #[])))) = true then (∃ s117 : ByteArray, rd h34 (Addr.add (Addr.mk (Array.size h) 0 none) 2) = some (Value.string s117) ∧
                    ∃ s118 : ByteArray, rd h34 (Addr.add (Addr.mk (Array.size h) 0 none) 1) = some (Value.string s118) ∧
                    J37 [(Value.bool (Op.bytesLess (ByteArray.toList s117) (ByteArray.toList s118) || (ByteArray.toList s117) == (ByteArray.toList s118)))] h34) else
                  (J37 [(Value.bool false)] h34))))) → X18 [(Value.int .i64 n19)] h20) →
        X18 [(Value.int .i64 (0 : Int))] h11))) → J9 [(Value.bool b10)] h11) →
(if (n8 != (0 : Int)) = true then (J9 [(Value.bool true)] h6) else
  (S_liverylaw10_fair ⟨g0_ahead.a, g0_ahead.n, g0_ahead.c⟩ h6 fun (vs119 : List Value) (h120 : Hp) =>
    ∃ b121 : Bool, vs119 = [(Value.bool b121)] ∧
    (if (!b121) = true then (J9 [(Value.bool true)] h120) else
      (S_liverylaw10_fair ⟨g1_behind.a, g1_behind.n, g1_behind.c⟩ h120 fun (vs122 : List Value) (h123 : Hp) =>
        ∃ b124 : Bool, vs122 = [(Value.bool b124)] ∧
        (if (!b124) = true then (J9 [(Value.bool true)] h123) else
          (∃ n125 : Int, rd h123 (Addr.add (Addr.mk (Array.size h) 0 none) 0) = some (Value.int .i64 n125) ∧ ∃ s126 : ByteArray, rd h123 (Addr.add (Addr.mk (Array.size h) 0 none) 1) = some (Value.string s126) ∧ ∃ s127 : ByteArray, rd h123 (Addr.add (Addr.mk (Array.size h) 0 none) 2) = some (Value.string s127) ∧ wth (Array.push h123 (Obj.cells #[(Value.int .i64 n125), (Value.string s126), (Value.string s127)] T_liverylaw10_Step)) fun h128 =>
            S_liverylaw10_fair ⟨(some (Addr.mk (Array.size h123) 0 none)), 1, 1⟩ h128 fun (vs129 : List Value) (h130 : Hp) =>
            ∃ b131 : Bool, vs129 = [(Value.bool b131)] ∧
            J9 [(Value.bool (!b131))] h130))))))
def A_liverylaw10_LeafCovers : Ann := (.mk none ⟨[], []⟩ .nil (.mk none ⟨[], []⟩ .nil (.mk none ⟨[], []⟩ .nil (.mk none ⟨[], []⟩ (.mk none ⟨[], []⟩ (.mk (some ⟨[0, 1, 5, 8, 9], [(44, (.c .bool))]⟩) ⟨[], []⟩ .nil .nil) (.mk none ⟨[], []⟩ (.mk none ⟨[], []⟩ (.mk (some ⟨[], [(6, (.c .bool))]⟩) ⟨[], []⟩ .nil .nil) .nil) .nil)) (.mk none ⟨[], []⟩ (.mk none ⟨[], []⟩ .nil (.mk none ⟨[], []⟩ (.mk none ⟨[0, 1, 5, 8], [(10, (.c (.int .i64)))]⟩ .nil .nil) .nil)) (.mk none ⟨[], []⟩ .nil (.mk none ⟨[], []⟩ (.mk none ⟨[], []⟩ (.mk (some ⟨[1, 5, 8, 12], [(80, (.c .bool))]⟩) ⟨[], []⟩ .nil .nil) (.mk none ⟨[], []⟩ (.mk none ⟨[], []⟩ (.mk (some ⟨[], [(6, (.c .bool))]⟩) ⟨[], []⟩ .nil .nil) .nil) .nil)) (.mk none ⟨[], []⟩ .nil (.mk none ⟨[], []⟩ (.mk none ⟨[], []⟩ .nil (.mk none ⟨[], []⟩ (.mk none ⟨[1, 5, 8], [(12, (.c .sl)), (13, (.c (.int .i64)))]⟩ (.mk none ⟨[], []⟩ .nil (.mk none ⟨[], []⟩ (.mk none ⟨[], []⟩ (.mk none ⟨[], []⟩ .nil (.mk none ⟨[], []⟩ .nil (.mk none ⟨[], []⟩ (.mk none ⟨[], []⟩ (.mk (some ⟨[1, 5, 8, 12, 13, 14, 15, 16, 17], [(119, (.c .bool))]⟩) ⟨[], []⟩ .nil .nil) (.mk (some ⟨[1, 5, 8, 13, 14, 15, 17], [(12, (.c .sl))]⟩) ⟨[], []⟩ .nil .nil)) (.mk none ⟨[], []⟩ (.mk (some ⟨[1, 5, 8, 12, 13], [(159, (.c .bool))]⟩) ⟨[], []⟩ .nil .nil) .nil)))) .nil) .nil)) .nil) .nil)) .nil)))))))))
theorem E_liverylaw10_LeafCovers (g0_ahead : Sl) (g1_behind : Sl) (g2_s_0 : Int) (g2_s_1 : ByteArray) (g2_s_2 : ByteArray) (h : Hp) (Q : List Value → Hp → Prop) : cw PP 161 (fun _ => []) (bodyOf Try.f4) A_liverylaw10_LeafCovers (finQ PP (Try.f4.results.toList) Q) (argFr [(Value.slice g0_ahead.a g0_ahead.n g0_ahead.c), (Value.slice g1_behind.a g1_behind.n g1_behind.c), (Value.agg #[(Value.int .i64 g2_s_0), (Value.string g2_s_1), (Value.string g2_s_2)])]) h = F_liverylaw10_LeafCovers g0_ahead g1_behind g2_s_0 g2_s_1 g2_s_2 h Q := by kernel_rfl
theorem O_liverylaw10_LeafCovers (g0_ahead : Sl) (g1_behind : Sl) (g2_s_0 : Int) (g2_s_1 : ByteArray) (g2_s_2 : ByteArray) {h : Hp} {Q : List Value → Hp → Prop} (H : F_liverylaw10_LeafCovers g0_ahead g1_behind g2_s_0 g2_s_1 g2_s_2 h Q) : S_liverylaw10_LeafCovers g0_ahead g1_behind g2_s_0 g2_s_1 g2_s_2 h Q :=
  fn_of_cw (hs := (fun _ => [])) (ann := A_liverylaw10_LeafCovers) (args := [(Value.slice g0_ahead.a g0_ahead.n g0_ahead.c), (Value.slice g1_behind.a g1_behind.n g1_behind.c), (Value.agg #[(Value.int .i64 g2_s_0), (Value.string g2_s_1), (Value.string g2_s_2)])]) mixedPP Try.func4 (c := bodyOf Try.f4) (by kernel_rfl) (by kernel_rfl) (by kernel_rfl) (Eq.mpr (E_liverylaw10_LeafCovers g0_ahead g1_behind g2_s_0 g2_s_1 g2_s_2 h Q) H)
def F_liveryref10_New (g0_fan : Int) (h : Hp) (Q : List Value → Hp → Prop) : Prop :=
∀ J1 : List Value → Hp → Prop, (∀ b2 : Bool, ∀ h3 : Hp, ((if b2 = true then
      (Q [(Value.pointer none), (Value.int .i64 (1 : Int))] h3) else
      (wth (Array.push h3 (Obj.cells #[(Value.int .i64 (1 : Int)), (Value.bool true), (Value.string (ByteArray.mk #[])), (Value.slice none 0 0)] T_liveryref10_Leaf)) fun h4 =>
        wth (Array.push h4 (Obj.cells #[(Value.slice (some (Addr.mk (Array.size h3) 0 none)) 1 1), (Value.int .i64 g0_fan), (Value.int .i64 (2 : Int))] T_liveryref10_Leaves)) fun h5 =>
        Q [(Value.pointer (some (Addr.mk (Array.size h4) 0 none))), (Value.int .i64 (0 : Int))] h5))) → J1 [(Value.bool b2)] h3) →
(if (decide (g0_fan < (2 : Int))) = true then (J1 [(Value.bool true)] h) else
  (J1 [(Value.bool (decide (g0_fan > (64 : Int))))] h))
def A_liveryref10_New : Ann := (.mk none ⟨[], []⟩ .nil (.mk none ⟨[], []⟩ (.mk none ⟨[], []⟩ (.mk (some ⟨[0], [(9, (.c .bool))]⟩) ⟨[], []⟩ .nil .nil) .nil) .nil))
theorem E_liveryref10_New (g0_fan : Int) (h : Hp) (Q : List Value → Hp → Prop) : cw PP 15 (fun _ => []) (bodyOf Try.f19) A_liveryref10_New (finQ PP (Try.f19.results.toList) Q) (argFr [(Value.int .i64 g0_fan)]) h = F_liveryref10_New g0_fan h Q := by kernel_rfl
theorem O_liveryref10_New (g0_fan : Int) {h : Hp} {Q : List Value → Hp → Prop} (H : F_liveryref10_New g0_fan h Q) : S_liveryref10_New g0_fan h Q :=
  fn_of_cw (hs := (fun _ => [])) (ann := A_liveryref10_New) (args := [(Value.int .i64 g0_fan)]) mixedPP Try.func19 (c := bodyOf Try.f19) (by kernel_rfl) (by kernel_rfl) (by kernel_rfl) (Eq.mpr (E_liveryref10_New g0_fan h Q) H)
def F_liveryref10_Leaves_at (g0_x : Option Addr) (g1_k : ByteArray) (h : Hp) (Q : List Value → Hp → Prop) : Prop :=
∀ X1 : List Value → Hp → Prop, (∀ n2 : Int, ∀ n3 : Int, ∀ h4 : Hp, (nilW g0_x fun a5 => ∃ l6 : Sl, rd h4 (Addr.add a5 0) = some (Value.slice l6.a l6.n l6.c) ∧
    (if (decide (n3 < (l6.n : Int))) = true then
      (∀ J7 : List Value → Hp → Prop, (∀ n8 : Int, ∀ h9 : Hp, (X1 [(Value.int .i64 n8), (Value.int .i64 (IntKind.wrap .i64 (n3 + (1 : Int))))] h9) → J7 [(Value.int .i64 n8)] h9) →
        ∀ J10 : List Value → Hp → Prop, (∀ b11 : Bool, ∀ h12 : Hp, ((if b11 = true then
              (J7 [(Value.int .i64 n3)] h12) else
              (J7 [(Value.int .i64 n2)] h12))) → J10 [(Value.bool b11)] h12) →
        nilW g0_x fun a13 => ∃ l14 : Sl, rd h4 (Addr.add a13 0) = some (Value.slice l14.a l14.n l14.c) ∧
        nilW l14.a fun a15 => ixOk n3 l14.n (∃ b16 : Bool, rd h4 (Addr.add (Addr.add a15 (Int.toNat n3 * 4)) 1) = some (Value.bool b16) ∧
          (if b16 = true then (J10 [(Value.bool true)] h4) else
            (nilW g0_x fun a17 => ∃ l18 : Sl, rd h4 (Addr.add a17 0) = some (Value.slice l18.a l18.n l18.c) ∧
              nilW l18.a fun a19 => ixOk n3 l18.n (∃ s20 : ByteArray, rd h4 (Addr.add (Addr.add a19 (Int.toNat n3 * 4)) 2) = some (Value.string s20) ∧
                J10 [(Value.bool (Op.bytesLess (ByteArray.toList s20) (ByteArray.toList g1_k) || (ByteArray.toList s20) == (ByteArray.toList g1_k)))] h4))))) else
      (Q [(Value.int .i64 n2)] h4))) → X1 [(Value.int .i64 n2), (Value.int .i64 n3)] h4) →
X1 [(Value.int .i64 (0 : Int)), (Value.int .i64 (0 : Int))] h
def A_liveryref10_Leaves_at : Ann := (.mk none ⟨[], []⟩ .nil (.mk none ⟨[], []⟩ .nil (.mk none ⟨[], []⟩ (.mk none ⟨[], []⟩ .nil (.mk none ⟨[], []⟩ (.mk none ⟨[0, 1], [(5, (.c (.int .i64))), (6, (.c (.int .i64)))]⟩ (.mk none ⟨[], []⟩ .nil (.mk none ⟨[], []⟩ (.mk (some ⟨[0, 1, 6], [(5, (.c (.int .i64)))]⟩) ⟨[], []⟩ (.mk none ⟨[], []⟩ (.mk (some ⟨[0, 1, 5, 6], [(35, (.c .bool))]⟩) ⟨[], []⟩ .nil .nil) .nil) .nil) .nil)) .nil) .nil)) .nil)))
theorem E_liveryref10_Leaves_at (g0_x : Option Addr) (g1_k : ByteArray) (h : Hp) (Q : List Value → Hp → Prop) : cw PP 38 (fun _ => []) (bodyOf Try.f39) A_liveryref10_Leaves_at (finQ PP (Try.f39.results.toList) Q) (argFr [(Value.pointer g0_x), (Value.string g1_k)]) h = F_liveryref10_Leaves_at g0_x g1_k h Q := by kernel_rfl
theorem O_liveryref10_Leaves_at (g0_x : Option Addr) (g1_k : ByteArray) {h : Hp} {Q : List Value → Hp → Prop} (H : F_liveryref10_Leaves_at g0_x g1_k h Q) : S_liveryref10_Leaves_at g0_x g1_k h Q :=
  fn_of_cw (hs := (fun _ => [])) (ann := A_liveryref10_Leaves_at) (args := [(Value.pointer g0_x), (Value.string g1_k)]) mixedPP Try.func39 (c := bodyOf Try.f39) (by kernel_rfl) (by kernel_rfl) (by kernel_rfl) (Eq.mpr (E_liveryref10_Leaves_at g0_x g1_k h Q) H)
def F_liveryref10_Leaves_Has (g0_x : Option Addr) (g1_k : ByteArray) (h : Hp) (Q : List Value → Hp → Prop) : Prop :=
nilW g0_x fun a1 => ∃ l2 : Sl, rd h (Addr.add a1 0) = some (Value.slice l2.a l2.n l2.c) ∧
S_liveryref10_Leaves_at g0_x g1_k h fun (vs3 : List Value) (h4 : Hp) =>
∃ n5 : Int, vs3 = [(Value.int .i64 n5)] ∧
rd h4 (Addr.add a1 0) = some (Value.slice l2.a l2.n l2.c) ∧ nilW l2.a fun a6 => ixOk n5 l2.n (∃ l7 : Sl, rd h4 (Addr.add (Addr.add a6 (Int.toNat n5 * 4)) 3) = some (Value.slice l7.a l7.n l7.c) ∧
  ∀ X8 : List Value → Hp → Prop, (∀ n9 : Int, ∀ h10 : Hp, ((if (decide (n9 < (l7.n : Int))) = true then
        (nilW l7.a fun a11 => ixOk n9 l7.n (∃ s12 : ByteArray, rd h10 (Addr.add a11 (Int.toNat n9 * 1)) = some (Value.string s12) ∧
            (if ((ByteArray.toList s12) == (ByteArray.toList g1_k)) = true then
              (Q [(Value.bool true)] h10) else
              (X8 [(Value.int .i64 (IntKind.wrap .i64 (n9 + (1 : Int))))] h10)))) else
        (Q [(Value.bool false)] h10))) → X8 [(Value.int .i64 n9)] h10) →
  X8 [(Value.int .i64 (0 : Int))] h4)
def A_liveryref10_Leaves_Has : Ann := (.mk none ⟨[], []⟩ .nil (.mk none ⟨[], []⟩ .nil (.mk none ⟨[], []⟩ (.mk none ⟨[], []⟩ .nil (.mk none ⟨[], []⟩ (.mk none ⟨[1, 5], [(6, (.c (.int .i64)))]⟩ .nil .nil) .nil)) .nil)))
theorem E_liveryref10_Leaves_Has (g0_x : Option Addr) (g1_k : ByteArray) (h : Hp) (Q : List Value → Hp → Prop) : cw PP 29 (fun _ => []) (bodyOf Try.f27) A_liveryref10_Leaves_Has (finQ PP (Try.f27.results.toList) Q) (argFr [(Value.pointer g0_x), (Value.string g1_k)]) h = F_liveryref10_Leaves_Has g0_x g1_k h Q := by kernel_rfl
theorem O_liveryref10_Leaves_Has (g0_x : Option Addr) (g1_k : ByteArray) {h : Hp} {Q : List Value → Hp → Prop} (H : F_liveryref10_Leaves_Has g0_x g1_k h Q) : S_liveryref10_Leaves_Has g0_x g1_k h Q :=
  fn_of_cw (hs := (fun _ => [])) (ann := A_liveryref10_Leaves_Has) (args := [(Value.pointer g0_x), (Value.string g1_k)]) mixedPP Try.func27 (c := bodyOf Try.f27) (by kernel_rfl) (by kernel_rfl) (by kernel_rfl) (Eq.mpr (E_liveryref10_Leaves_Has g0_x g1_k h Q) H)
def F_liveryref10_Leaves_Insert (g0_x : Option Addr) (g1_k : ByteArray) (h : Hp) (Q : List Value → Hp → Prop) : Prop :=
wth (Array.push h (Obj.cells #[(Value.int .i64 (0 : Int)), (Value.int .i64 (0 : Int)), (Value.int .i64 (0 : Int)), (Value.int .i64 (0 : Int))] T_liveryref10_Did)) fun h1 =>
(if (decide ((ByteArray.size g1_k : Int) > (1024 : Int))) = true then
  (stOk h1 (Addr.mk (Array.size h) 0 none) 4 ∧ wth (wrs h1 (Addr.mk (Array.size h) 0 none) 0 [(Value.int .i64 (0 : Int)), (Value.int .i64 (0 : Int)), (Value.int .i64 (0 : Int)), (Value.int .i64 (2 : Int))]) fun h2 =>
    ∃ n3 : Int, rd h2 (Addr.add (Addr.mk (Array.size h) 0 none) 0) = some (Value.int .i64 n3) ∧ ∃ n4 : Int, rd h2 (Addr.add (Addr.mk (Array.size h) 0 none) 1) = some (Value.int .i64 n4) ∧ ∃ n5 : Int, rd h2 (Addr.add (Addr.mk (Array.size h) 0 none) 2) = some (Value.int .i64 n5) ∧ ∃ n6 : Int, rd h2 (Addr.add (Addr.mk (Array.size h) 0 none) 3) = some (Value.int .i64 n6) ∧ Q [(Value.agg #[(Value.int .i64 n3), (Value.int .i64 n4), (Value.int .i64 n5), (Value.int .i64 n6)])] h2) else
  (S_liveryref10_Leaves_Has g0_x g1_k h1 fun (vs7 : List Value) (h8 : Hp) =>
    ∃ b9 : Bool, vs7 = [(Value.bool b9)] ∧
    (if b9 = true then
      (stOk h8 (Addr.mk (Array.size h) 0 none) 4 ∧ wth (wrs h8 (Addr.mk (Array.size h) 0 none) 0 [(Value.int .i64 (0 : Int)), (Value.int .i64 (0 : Int)), (Value.int .i64 (0 : Int)), (Value.int .i64 (62 : Int))]) fun h10 =>
        ∃ n11 : Int, rd h10 (Addr.add (Addr.mk (Array.size h) 0 none) 0) = some (Value.int .i64 n11) ∧ ∃ n12 : Int, rd h10 (Addr.add (Addr.mk (Array.size h) 0 none) 1) = some (Value.int .i64 n12) ∧ ∃ n13 : Int, rd h10 (Addr.add (Addr.mk (Array.size h) 0 none) 2) = some (Value.int .i64 n13) ∧ ∃ n14 : Int, rd h10 (Addr.add (Addr.mk (Array.size h) 0 none) 3) = some (Value.int .i64 n14) ∧ Q [(Value.agg #[(Value.int .i64 n11), (Value.int .i64 n12), (Value.int .i64 n13), (Value.int .i64 n14)])] h10) else
      (S_liveryref10_Leaves_at g0_x g1_k h8 fun (vs15 : List Value) (h16 : Hp) =>
        ∃ n17 : Int, vs15 = [(Value.int .i64 n17)] ∧
        nilW g0_x fun a18 => ∃ l19 : Sl, rd h16 (Addr.add a18 0) = some (Value.slice l19.a l19.n l19.c) ∧
        nilW l19.a fun a20 => ixOk n17 l19.n (∃ l21 : Sl, rd h16 (Addr.add (Addr.add a20 (Int.toNat n17 * 4)) 3) = some (Value.slice l21.a l21.n l21.c) ∧
          ∀ X22 : List Value → Hp → Prop, (∀ n23 : Int, ∀ h24 : Hp, (∀ J25 : List Value → Hp → Prop, (∀ b26 : Bool, ∀ h27 : Hp, ((if b26 = true then
                    (X22 [(Value.int .i64 (IntKind.wrap .i64 (n23 + (1 : Int))))] h27) else
                    (∀ J28 : List Value → Hp → Prop, (∀ l29 : Sl, ∀ h30 : Hp, (nilW g0_x fun a31 => ∃ l32 : Sl, rd h30 (Addr.add a31 0) = some (Value.slice l32.a l32.n l32.c) ∧
                          nilW l32.a fun a33 => ixOk n17 l32.n (∃ n34 : Int, rd h30 (Addr.add (Addr.add a33 (Int.toNat n17 * 4)) 0) = some (Value.int .i64 n34) ∧
                            wth (Array.push h30 (Obj.cells #[(Value.int .i64 (0 : Int)), (Value.int .i64 (0 : Int)), (Value.int .i64 (0 : Int)), (Value.int .i64 (0 : Int))] T_liveryref10_Did)) fun h35 =>
                            stOk h35 (Addr.mk (Array.size h30) 0 none) 4 ∧ wth (wrs h35 (Addr.mk (Array.size h30) 0 none) 0 [(Value.int .i64 n34), (Value.int .i64 (0 : Int)), (Value.int .i64 (0 : Int)), (Value.int .i64 (0 : Int))]) fun h36 =>
                            nilW g0_x fun a37 => ∃ n38 : Int, rd h36 (Addr.add a37 1) = some (Value.int .i64 n38) ∧
                            (if (decide ((l29.n : Int) ≤ n38)) = true then
                              (nilW g0_x fun a39 => ∃ l40 : Sl, rd h36 (Addr.add a39 0) = some (Value.slice l40.a l40.n l40.c) ∧
                                nilW l40.a fun a41 => ixOk n17 l40.n (stOk h36 (Addr.add (Addr.add a41 (Int.toNat n17 * 4)) 3) 1 ∧ wth (wrs h36 (Addr.add (Addr.add a41 (Int.toNat n17 * 4)) 3) 0 [(Value.slice l29.a l29.n l29.c)]) fun h42 =>
                                  ∃ n43 : Int, rd h42 (Addr.add (Addr.mk (Array.size h30) 0 none) 0) = some (Value.int .i64 n43) ∧ ∃ n44 : Int, rd h42 (Addr.add (Addr.mk (Array.size h30) 0 none) 1) = some (Value.int .i64 n44) ∧ ∃ n45 : Int, rd h42 (Addr.add (Addr.mk (Array.size h30) 0 none) 2) = some (Value.int .i64 n45) ∧ ∃ n46 : Int, rd h42 (Addr.add (Addr.mk (Array.size h30) 0 none) 3) = some (Value.int .i64 n46) ∧ stOk h42 (Addr.mk (Array.size h) 0 none) 4 ∧ wth (wrs h42 (Addr.mk (Array.size h) 0 none) 0 [(Value.int .i64 n43), (Value.int .i64 n44), (Value.int .i64 n45), (Value.int .i64 n46)]) fun h47 =>
                                  ∃ n48 : Int, rd h47 (Addr.add (Addr.mk (Array.size h) 0 none) 0) = some (Value.int .i64 n48) ∧ ∃ n49 : Int, rd h47 (Addr.add (Addr.mk (Array.size h) 0 none) 1) = some (Value.int .i64 n49) ∧ ∃ n50 : Int, rd h47 (Addr.add (Addr.mk (Array.size h) 0 none) 2) = some (Value.int .i64 n50) ∧ ∃ n51 : Int, rd h47 (Addr.add (Addr.mk (Array.size h) 0 none) 3) = some (Value.int .i64 n51) ∧ Q [(Value.agg #[(Value.int .i64 n48), (Value.int .i64 n49), (Value.int .i64 n50), (Value.int .i64 n51)])] h47)) else
                              (divOk (2 : Int) (∀ J52 : List Value → Hp → Prop, (∀ a53 : Addr, ∀ h54 : Hp, (nilW g0_x fun a55 => ∃ n56 : Int, rd h54 (Addr.add a55 2) = some (Value.int .i64 n56) ∧
                                      nilW g0_x fun a57 => stOk h54 (Addr.add a57 2) 1 ∧ wth (wrs h54 (Addr.add a57 2) 0 [(Value.int .i64 (IntKind.wrap .i64 (n56 + (1 : Int))))]) fun h58 =>
                                      ∃ n59 : Int, rd h58 (Addr.add (Addr.mk (Array.size h30) 0 none) 0) = some (Value.int .i64 n59) ∧
                                      ∃ n60 : Int, rd h58 (Addr.add a53 0) = some (Value.int .i64 n60) ∧
                                      stOk h58 (Addr.add (Addr.mk (Array.size h30) 0 none) 1) 1 ∧ wth (wrs h58 (Addr.add (Addr.mk (Array.size h30) 0 none) 1) 0 [(Value.int .i64 n59)]) fun h61 =>
                                      rd h61 (Addr.add a53 0) = some (Value.int .i64 n60) ∧ stOk h61 (Addr.add (Addr.mk (Array.size h30) 0 none) 2) 1 ∧ wth (wrs h61 (Addr.add (Addr.mk (Array.size h30) 0 none) 2) 0 [(Value.int .i64 n60)]) fun h62 =>
                                      ∀ J63 : List Value → Hp → Prop, (∀ h64 : Hp, (∀ X65 : List Value → Hp → Prop, (∀ l66 : Sl, ∀ n67 : Int, ∀ h68 : Hp, (nilW g0_x fun a69 => ∃ l70 : Sl, rd h68 (Addr.add a69 0) = some (Value.slice l70.a l70.n l70.c) ∧
                                              (if (decide (n67 < (l70.n : Int))) = true then
                                                (∀ J71 : List Value → Hp → Prop, (∀ l72 : Sl, ∀ h73 : Hp, (X65 [(Value.slice l72.a l72.n l72.c), (Value.int .i64 (IntKind.wrap .i64 (n67 + (1 : Int))))] h73) → J71 [(Value.slice l72.a l72.n l72.c)] h73) →
                                                  nilW g0_x fun a74 => ∃ l75 : Sl, rd h68 (Addr.add a74 0) = some (Value.slice l75.a l75.n l75.c) ∧
                                                  nilW l75.a fun a76 => ixOk n67 l75.n (∃ n77 : Int, rd h68 (Addr.add (Addr.add a76 (Int.toNat n67 * 4)) 0) = some (Value.int .i64 n77) ∧ ∃ b78 : Bool, rd h68 (Addr.add (Addr.add a76 (Int.toNat n67 * 4)) 1) = some (Value.bool b78) ∧ ∃ s79 : ByteArray, rd h68 (Addr.add (Addr.add a76 (Int.toNat n67 * 4)) 2) = some (Value.string s79) ∧ ∃ l80 : Sl, rd h68 (Addr.add (Addr.add a76 (Int.toNat n67 * 4)) 3) = some (Value.slice l80.a l80.n l80.c) ∧ wth (Array.push h68 (Obj.cells #[(Value.int .i64 (0 : Int)), (Value.bool false), (Value.string (ByteArray.mk #[])), (Value.slice none 0 0)] T_liveryref10_Leaf)) fun h81 =>
                                                    stOk h81 (Addr.mk (Array.size h68) 0 none) 4 ∧ wth (wrs h81 (Addr.mk (Array.size h68) 0 none) 0 [(Value.int .i64 n77), (Value.bool b78), (Value.string s79), (Value.slice l80.a l80.n l80.c)]) fun h82 =>
                                                    ∀ J83 : List Value → Hp → Prop, (∀ h84 : Hp, (∃ n85 : Int, rd h84 (Addr.add (Addr.mk (Array.size h68) 0 none) 0) = some (Value.int .i64 n85) ∧ ∃ b86 : Bool, rd h84 (Addr.add (Addr.mk (Array.size h68) 0 none) 1) = some (Value.bool b86) ∧ ∃ s87 : ByteArray, rd h84 (Addr.add (Addr.mk (Array.size h68) 0 none) 2) = some (Value.string s87) ∧ ∃ l88 : Sl, rd h84 (Addr.add (Addr.mk (Array.size h68) 0 none) 3) = some (Value.slice l88.a l88.n l88.c) ∧ wth (Array.push h84 (Obj.cells #[(Value.int .i64 n85), (Value.bool b86), (Value.string s87), (Value.slice l88.a l88.n l88.c)] T_liveryref10_Leaf)) fun h89 =>
                                                        ∃ cs100 : List Value, cellsAt h89 (some (Addr.mk (Array.size h84) 0 none)) (1 * 4) cs100 ∧ appS PP T_liveryref10_Leaf 56 4 h89 ⟨l66.a, l66.n, l66.c⟩ 1 cs100 fun (l90 : Sl) (h91 : Hp) =>
                                                        (if (n67 == n17) = true then
                                                          (∃ n92 : Int, rd h91 (Addr.add a53 0) = some (Value.int .i64 n92) ∧ ∃ b93 : Bool, rd h91 (Addr.add a53 1) = some (Value.bool b93) ∧ ∃ s94 : ByteArray, rd h91 (Addr.add a53 2) = some (Value.string s94) ∧ ∃ l95 : Sl, rd h91 (Addr.add a53 3) = some (Value.slice l95.a l95.n l95.c) ∧ wth (Array.push h91 (Obj.cells #[(Value.int .i64 n92), (Value.bool b93), (Value.string s94), (Value.slice l95.a l95.n l95.c)] T_liveryref10_Leaf)) fun h96 =>
                                                            ∃ cs99 : List Value, cellsAt h96 (some (Addr.mk (Array.size h91) 0 none)) (1 * 4) cs99 ∧ appS PP T_liveryref10_Leaf 56 4 h96 ⟨l90.a, l90.n, l90.c⟩ 1 cs99 fun (l97 : Sl) (h98 : Hp) =>
                                                            J71 [(Value.slice l97.a l97.n l97.c)] h98) else
                                                          (J71 [(Value.slice l90.a l90.n l90.c)] h91))) → J83 [] h84) →
                                                    (if (n67 == n17) = true then
                                                      (wth (Array.push h82 (Obj.cells #[] T_string)) fun h101 =>
                                                        (0 ≤ (IntKind.wrap .i64 (Int.tdiv (IntKind.wrap .i64 ((l29.n : Int) + (1 : Int))) (2 : Int))) ∧ (IntKind.wrap .i64 (Int.tdiv (IntKind.wrap .i64 ((l29.n : Int) + (1 : Int))) (2 : Int))) ≤ (l29.c : Nat)) ∧ ∃ cs105 : List Value, cellsAt h101 (slAd l29.a 0 l29.c 1) (((Int.toNat (IntKind.wrap .i64 (Int.tdiv (IntKind.wrap .i64 ((l29.n : Int) + (1 : Int))) (2 : Int)))) - 0) * 1) cs105 ∧ appS PP T_string 16 1 h101 ⟨(some (Addr.mk (Array.size h82) 0 none)), 0, 0⟩ ((Int.toNat (IntKind.wrap .i64 (Int.tdiv (IntKind.wrap .i64 ((l29.n : Int) + (1 : Int))) (2 : Int)))) - 0) cs105 fun (l102 : Sl) (h103 : Hp) =>
                                                        stOk h103 (Addr.add (Addr.mk (Array.size h68) 0 none) 3) 1 ∧ wth (wrs h103 (Addr.add (Addr.mk (Array.size h68) 0 none) 3) 0 [(Value.slice l102.a l102.n l102.c)]) fun h104 =>
                                                        J83 [] h104) else
                                                      (J83 [] h82)))) else
                                                (nilW g0_x fun a106 => stOk h68 (Addr.add a106 0) 1 ∧ wth (wrs h68 (Addr.add a106 0) 0 [(Value.slice l66.a l66.n l66.c)]) fun h107 =>
                                                  ∃ n108 : Int, rd h107 (Addr.add (Addr.mk (Array.size h30) 0 none) 0) = some (Value.int .i64 n108) ∧ ∃ n109 : Int, rd h107 (Addr.add (Addr.mk (Array.size h30) 0 none) 1) = some (Value.int .i64 n109) ∧ ∃ n110 : Int, rd h107 (Addr.add (Addr.mk (Array.size h30) 0 none) 2) = some (Value.int .i64 n110) ∧ ∃ n111 : Int, rd h107 (Addr.add (Addr.mk (Array.size h30) 0 none) 3) = some (Value.int .i64 n111) ∧ stOk h107 (Addr.mk (Array.size h) 0 none) 4 ∧ wth (wrs h107 (Addr.mk (Array.size h) 0 none) 0 [(Value.int .i64 n108), (Value.int .i64 n109), (Value.int .i64 n110), (Value.int .i64 n111)]) fun h112 =>
                                                  ∃ n113 : Int, rd h112 (Addr.add (Addr.mk (Array.size h) 0 none) 0) = some (Value.int .i64 n113) ∧ ∃ n114 : Int, rd h112 (Addr.add (Addr.mk (Array.size h) 0 none) 1) = some (Value.int .i64 n114) ∧ ∃ n115 : Int, rd h112 (Addr.add (Addr.mk (Array.size h) 0 none) 2) = some (Value.int .i64 n115) ∧ ∃ n116 : Int, rd h112 (Addr.add (Addr.mk (Array.size h) 0 none) 3) = some (Value.int .i64 n116) ∧ Q [(Value.agg #[(Value.int .i64 n113), (Value.int .i64 n114), (Value.int .i64 n115), (Value.int .i64 n116)])] h112))) → X65 [(Value.slice l66.a l66.n l66.c), (Value.int .i64 n67)] h68) →
                                          X65 [(Value.slice none 0 0), (Value.int .i64 (0 : Int))] h64) → J63 [] h64) →
                                      (if (decide (n23 ≥ (IntKind.wrap .i64 (Int.tdiv (IntKind.wrap .i64 ((l29.n : Int) + (1 : Int))) (2 : Int))))) = true then
                                        (∃ n117 : Int, rd h62 (Addr.add a53 0) = some (Value.int .i64 n117) ∧
                                          stOk h62 (Addr.add (Addr.mk (Array.size h30) 0 none) 0) 1 ∧ wth (wrs h62 (Addr.add (Addr.mk (Array.size h30) 0 none) 0) 0 [(Value.int .i64 n117)]) fun h118 =>
                                          J63 [] h118) else
                                        (J63 [] h62))) → J52 [(Value.pointer (some a53))] h54) →
                                  nilW g0_x fun a119 => ∃ n120 : Int, rd h36 (Addr.add a119 2) = some (Value.int .i64 n120) ∧
                                  nilW l29.a fun a121 => ixOk (IntKind.wrap .i64 (Int.tdiv (IntKind.wrap .i64 ((l29.n : Int) + (1 : Int))) (2 : Int))) l29.n (∃ s122 : ByteArray, rd h36 (Addr.add a121 (Int.toNat (IntKind.wrap .i64 (Int.tdiv (IntKind.wrap .i64 ((l29.n : Int) + (1 : Int))) (2 : Int))) * 1)) = some (Value.string s122) ∧
                                    (0 ≤ (IntKind.wrap .i64 (Int.tdiv (IntKind.wrap .i64 ((l29.n : Int) + (1 : Int))) (2 : Int))) ∧ (IntKind.wrap .i64 (Int.tdiv (IntKind.wrap .i64 ((l29.n : Int) + (1 : Int))) (2 : Int))) ≤ (l29.n : Nat)) ∧ (wth (Array.push h36 (Obj.cells #[] T_string)) fun h123 =>
                                      rd h123 (Addr.add a121 (Int.toNat (IntKind.wrap .i64 (Int.tdiv (IntKind.wrap .i64 ((l29.n : Int) + (1 : Int))) (2 : Int))) * 1)) = some (Value.string s122) ∧ rd h123 (Addr.add a119 2) = some (Value.int .i64 n120) ∧ (∃ cs128 : List Value, cellsAt h123 (slAd l29.a (Int.toNat (IntKind.wrap .i64 (Int.tdiv (IntKind.wrap .i64 ((l29.n : Int) + (1 : Int))) (2 : Int)))) l29.c 1) ((l29.n - (Int.toNat (IntKind.wrap .i64 (Int.tdiv (IntKind.wrap .i64 ((l29.n : Int) + (1 : Int))) (2 : Int))))) * 1) cs128 ∧ appS PP T_string 16 1 h123 ⟨(some (Addr.mk (Array.size h36) 0 none)), 0, 0⟩ (l29.n - (Int.toNat (IntKind.wrap .i64 (Int.tdiv (IntKind.wrap .i64 ((l29.n : Int) + (1 : Int))) (2 : Int))))) cs128 fun (l124 : Sl) (h125 : Hp) =>
                                        rd h125 (Addr.add a121 (Int.toNat (IntKind.wrap .i64 (Int.tdiv (IntKind.wrap .i64 ((l29.n : Int) + (1 : Int))) (2 : Int))) * 1)) = some (Value.string s122) ∧ rd h125 (Addr.add a119 2) = some (Value.int .i64 n120) ∧ wth (Array.push h125 (Obj.cells #[(Value.int .i64 (0 : Int)), (Value.bool false), (Value.string (ByteArray.mk #[])), (Value.slice none 0 0)] T_liveryref10_Leaf)) fun h126 =>
                                        rd h126 (Addr.add a121 (Int.toNat (IntKind.wrap .i64 (Int.tdiv (IntKind.wrap .i64 ((l29.n : Int) + (1 : Int))) (2 : Int))) * 1)) = some (Value.string s122) ∧ rd h126 (Addr.add a119 2) = some (Value.int .i64 n120) ∧ stOk h126 (Addr.mk (Array.size h125) 0 none) 4 ∧ wth (wrs h126 (Addr.mk (Array.size h125) 0 none) 0 [(Value.int .i64 n120), (Value.bool false), (Value.string s122), (Value.slice l124.a l124.n l124.c)]) fun h127 =>
                                        J52 [(Value.pointer (some (Addr.mk (Array.size h125) 0 none)))] h127) ∧
                                      (wth (Array.push h123 (Obj.cells #[(Value.int .i64 (0 : Int)), (Value.bool false), (Value.string (ByteArray.mk #[])), (Value.slice none 0 0)] T_liveryref10_Leaf)) fun h129 =>
                                        rd h129 (Addr.add a121 (Int.toNat (IntKind.wrap .i64 (Int.tdiv (IntKind.wrap .i64 ((l29.n : Int) + (1 : Int))) (2 : Int))) * 1)) = some (Value.string s122) ∧ rd h129 (Addr.add a119 2) = some (Value.int .i64 n120) ∧ ∃ cs133 : List Value, cellsAt h129 (slAd l29.a (Int.toNat (IntKind.wrap .i64 (Int.tdiv (IntKind.wrap .i64 ((l29.n : Int) + (1 : Int))) (2 : Int)))) l29.c 1) ((l29.n - (Int.toNat (IntKind.wrap .i64 (Int.tdiv (IntKind.wrap .i64 ((l29.n : Int) + (1 : Int))) (2 : Int))))) * 1) cs133 ∧ appS PP T_string 16 1 h129 ⟨(some (Addr.mk (Array.size h36) 0 none)), 0, 0⟩ (l29.n - (Int.toNat (IntKind.wrap .i64 (Int.tdiv (IntKind.wrap .i64 ((l29.n : Int) + (1 : Int))) (2 : Int))))) cs133 fun (l130 : Sl) (h131 : Hp) =>
                                        rd h131 (Addr.add a121 (Int.toNat (IntKind.wrap .i64 (Int.tdiv (IntKind.wrap .i64 ((l29.n : Int) + (1 : Int))) (2 : Int))) * 1)) = some (Value.string s122) ∧ rd h131 (Addr.add a119 2) = some (Value.int .i64 n120) ∧ stOk h131 (Addr.mk (Array.size h123) 0 none) 4 ∧ wth (wrs h131 (Addr.mk (Array.size h123) 0 none) 0 [(Value.int .i64 n120), (Value.bool false), (Value.string s122), (Value.slice l130.a l130.n l130.c)]) fun h132 =>
                                        J52 [(Value.pointer (some (Addr.mk (Array.size h123) 0 none)))] h132)) ∧
                                    (wth (Array.push h36 (Obj.cells #[(Value.int .i64 (0 : Int)), (Value.bool false), (Value.string (ByteArray.mk #[])), (Value.slice none 0 0)] T_liveryref10_Leaf)) fun h134 =>
                                      rd h134 (Addr.add a121 (Int.toNat (IntKind.wrap .i64 (Int.tdiv (IntKind.wrap .i64 ((l29.n : Int) + (1 : Int))) (2 : Int))) * 1)) = some (Value.string s122) ∧ rd h134 (Addr.add a119 2) = some (Value.int .i64 n120) ∧ wth (Array.push h134 (Obj.cells #[] T_string)) fun h135 =>
                                      rd h135 (Addr.add a121 (Int.toNat (IntKind.wrap .i64 (Int.tdiv (IntKind.wrap .i64 ((l29.n : Int) + (1 : Int))) (2 : Int))) * 1)) = some (Value.string s122) ∧ rd h135 (Addr.add a119 2) = some (Value.int .i64 n120) ∧ ∃ cs139 : List Value, cellsAt h135 (slAd l29.a (Int.toNat (IntKind.wrap .i64 (Int.tdiv (IntKind.wrap .i64 ((l29.n : Int) + (1 : Int))) (2 : Int)))) l29.c 1) ((l29.n - (Int.toNat (IntKind.wrap .i64 (Int.tdiv (IntKind.wrap .i64 ((l29.n : Int) + (1 : Int))) (2 : Int))))) * 1) cs139 ∧ appS PP T_string 16 1 h135 ⟨(some (Addr.mk (Array.size h134) 0 none)), 0, 0⟩ (l29.n - (Int.toNat (IntKind.wrap .i64 (Int.tdiv (IntKind.wrap .i64 ((l29.n : Int) + (1 : Int))) (2 : Int))))) cs139 fun (l136 : Sl) (h137 : Hp) =>
                                      rd h137 (Addr.add a121 (Int.toNat (IntKind.wrap .i64 (Int.tdiv (IntKind.wrap .i64 ((l29.n : Int) + (1 : Int))) (2 : Int))) * 1)) = some (Value.string s122) ∧ rd h137 (Addr.add a119 2) = some (Value.int .i64 n120) ∧ stOk h137 (Addr.mk (Array.size h36) 0 none) 4 ∧ wth (wrs h137 (Addr.mk (Array.size h36) 0 none) 0 [(Value.int .i64 n120), (Value.bool false), (Value.string s122), (Value.slice l136.a l136.n l136.c)]) fun h138 =>
                                      J52 [(Value.pointer (some (Addr.mk (Array.size h36) 0 none)))] h138))))))) → J28 [(Value.slice l29.a l29.n l29.c)] h30) →
                      (0 ≤ n23 ∧ n23 ≤ (l21.c : Nat)) ∧ (0 ≤ n23 ∧ n23 ≤ (l21.n : Nat)) ∧ (wth (Array.push h27 (Obj.cells #[] T_string)) fun h140 =>
                        (∃ cs150 : List Value, cellsAt h140 (slAd l21.a 0 l21.c 1) (((Int.toNat n23) - 0) * 1) cs150 ∧ appS PP T_string 16 1 h140 ⟨(some (Addr.mk (Array.size h27) 0 none)), 0, 0⟩ ((Int.toNat n23) - 0) cs150 fun (l141 : Sl) (h142 : Hp) =>
                          wth (Array.push h142 (Obj.cells #[(Value.string g1_k)] T_string)) fun h143 =>
                          ∃ cs149 : List Value, cellsAt h143 (some (Addr.mk (Array.size h142) 0 none)) (1 * 1) cs149 ∧ appS PP T_string 16 1 h143 ⟨l141.a, l141.n, l141.c⟩ 1 cs149 fun (l144 : Sl) (h145 : Hp) =>
                          ∃ cs148 : List Value, cellsAt h145 (slAd l21.a (Int.toNat n23) l21.c 1) ((l21.n - (Int.toNat n23)) * 1) cs148 ∧ appS PP T_string 16 1 h145 ⟨l144.a, l144.n, l144.c⟩ (l21.n - (Int.toNat n23)) cs148 fun (l146 : Sl) (h147 : Hp) =>
                          J28 [(Value.slice l146.a l146.n l146.c)] h147) ∧
                        (wth (Array.push h140 (Obj.cells #[(Value.string g1_k)] T_string)) fun h151 =>
                          ∃ cs160 : List Value, cellsAt h151 (slAd l21.a 0 l21.c 1) (((Int.toNat n23) - 0) * 1) cs160 ∧ appS PP T_string 16 1 h151 ⟨(some (Addr.mk (Array.size h27) 0 none)), 0, 0⟩ ((Int.toNat n23) - 0) cs160 fun (l152 : Sl) (h153 : Hp) =>
                          ∃ cs159 : List Value, cellsAt h153 (some (Addr.mk (Array.size h140) 0 none)) (1 * 1) cs159 ∧ appS PP T_string 16 1 h153 ⟨l152.a, l152.n, l152.c⟩ 1 cs159 fun (l154 : Sl) (h155 : Hp) =>
                          ∃ cs158 : List Value, cellsAt h155 (slAd l21.a (Int.toNat n23) l21.c 1) ((l21.n - (Int.toNat n23)) * 1) cs158 ∧ appS PP T_string 16 1 h155 ⟨l154.a, l154.n, l154.c⟩ (l21.n - (Int.toNat n23)) cs158 fun (l156 : Sl) (h157 : Hp) =>
                          J28 [(Value.slice l156.a l156.n l156.c)] h157)) ∧
                      (wth (Array.push h27 (Obj.cells #[(Value.string g1_k)] T_string)) fun h161 =>
                        wth (Array.push h161 (Obj.cells #[] T_string)) fun h162 =>
                        ∃ cs171 : List Value, cellsAt h162 (slAd l21.a 0 l21.c 1) (((Int.toNat n23) - 0) * 1) cs171 ∧ appS PP T_string 16 1 h162 ⟨(some (Addr.mk (Array.size h161) 0 none)), 0, 0⟩ ((Int.toNat n23) - 0) cs171 fun (l163 : Sl) (h164 : Hp) =>
                        ∃ cs170 : List Value, cellsAt h164 (some (Addr.mk (Array.size h27) 0 none)) (1 * 1) cs170 ∧ appS PP T_string 16 1 h164 ⟨l163.a, l163.n, l163.c⟩ 1 cs170 fun (l165 : Sl) (h166 : Hp) =>
                        ∃ cs169 : List Value, cellsAt h166 (slAd l21.a (Int.toNat n23) l21.c 1) ((l21.n - (Int.toNat n23)) * 1) cs169 ∧ appS PP T_string 16 1 h166 ⟨l165.a, l165.n, l165.c⟩ (l21.n - (Int.toNat n23)) cs169 fun (l167 : Sl) (h168 : Hp) =>
                        J28 [(Value.slice l167.a l167.n l167.c)] h168)))) → J25 [(Value.bool b26)] h27) →
              (if (decide (n23 < (l21.n : Int))) = true then (nilW l21.a fun a172 => ixOk n23 l21.n (∃ s173 : ByteArray, rd h24 (Addr.add a172 (Int.toNat n23 * 1)) = some (Value.string s173) ∧
                    J25 [(Value.bool (Op.bytesLess (ByteArray.toList s173) (ByteArray.toList g1_k)))] h24)) else
                (J25 [(Value.bool false)] h24))) → X22 [(Value.int .i64 n23)] h24) →
          X22 [(Value.int .i64 (0 : Int))] h16)))))
def A_liveryref10_Leaves_Insert : Ann := (.mk none ⟨[], []⟩ .nil (.mk none ⟨[], []⟩ .nil (.mk none ⟨[], []⟩ .nil (.mk none ⟨[], []⟩ .nil (.mk none ⟨[], []⟩ .nil (.mk none ⟨[], []⟩ .nil (.mk none ⟨[], []⟩ (.mk none ⟨[], []⟩ (.mk none ⟨[0, 1, 4, 5, 6], [(7, (.c (.int .i64)))]⟩ (.mk none ⟨[], []⟩ (.mk none ⟨[], []⟩ (.mk (some ⟨[0, 1, 4, 5, 6, 7], [(44, (.c .bool))]⟩) ⟨[], []⟩ .nil .nil) .nil) .nil) .nil) .nil) (.mk none ⟨[], []⟩ (.mk (some ⟨[0, 4, 5, 7], [(6, (.c .sl))]⟩) ⟨[], []⟩ .nil .nil) (.mk none ⟨[], []⟩ .nil (.mk none ⟨[], []⟩ .nil (.mk none ⟨[], []⟩ .nil (.mk none ⟨[], []⟩ (.mk (some ⟨[0, 4, 5, 6, 7, 8, 9], [(10, (.c .adr))]⟩) ⟨[], []⟩ .nil .nil) (.mk none ⟨[], []⟩ .nil (.mk none ⟨[], []⟩ .nil (.mk none ⟨[], []⟩ (.mk none ⟨[], []⟩ .nil (.mk (some ⟨[0, 4, 5, 6, 8, 9, 10], []⟩) ⟨[], []⟩ .nil .nil)) (.mk none ⟨[], []⟩ .nil (.mk none ⟨[], []⟩ (.mk none ⟨[], []⟩ .nil (.mk none ⟨[], []⟩ (.mk none ⟨[0, 4, 5, 6, 8, 9, 10], [(11, (.c .sl)), (12, (.c (.int .i64)))]⟩ (.mk none ⟨[], []⟩ .nil (.mk none ⟨[], []⟩ (.mk (some ⟨[0, 4, 5, 6, 8, 9, 10, 12], [(11, (.c .sl))]⟩) ⟨[], []⟩ (.mk none ⟨[], []⟩ .nil (.mk none ⟨[], []⟩ (.mk none ⟨[], []⟩ .nil (.mk (some ⟨[0, 4, 5, 6, 8, 9, 10, 11, 12, 13], []⟩) ⟨[], []⟩ .nil .nil)) .nil)) .nil) .nil)) .nil) .nil)) .nil)))))))))))))))))
theorem E_liveryref10_Leaves_Insert (g0_x : Option Addr) (g1_k : ByteArray) (h : Hp) (Q : List Value → Hp → Prop) : cw PP 162 (fun _ => []) (bodyOf Try.f20) A_liveryref10_Leaves_Insert (finQ PP (Try.f20.results.toList) Q) (argFr [(Value.pointer g0_x), (Value.string g1_k)]) h = F_liveryref10_Leaves_Insert g0_x g1_k h Q := by kernel_rfl
theorem O_liveryref10_Leaves_Insert (g0_x : Option Addr) (g1_k : ByteArray) {h : Hp} {Q : List Value → Hp → Prop} (H : F_liveryref10_Leaves_Insert g0_x g1_k h Q) : S_liveryref10_Leaves_Insert g0_x g1_k h Q :=
  fn_of_cw (hs := (fun _ => [])) (ann := A_liveryref10_Leaves_Insert) (args := [(Value.pointer g0_x), (Value.string g1_k)]) mixedPP Try.func20 (c := bodyOf Try.f20) (by kernel_rfl) (by kernel_rfl) (by kernel_rfl) (Eq.mpr (E_liveryref10_Leaves_Insert g0_x g1_k h Q) H)
def F_liveryref10_Leaves_Remove (g0_x : Option Addr) (g1_k : ByteArray) (h : Hp) (Q : List Value → Hp → Prop) : Prop :=
wth (Array.push h (Obj.cells #[(Value.int .i64 (0 : Int)), (Value.int .i64 (0 : Int)), (Value.int .i64 (0 : Int)), (Value.int .i64 (0 : Int))] T_liveryref10_Did)) fun h1 =>
S_liveryref10_Leaves_Has g0_x g1_k h1 fun (vs2 : List Value) (h3 : Hp) =>
∃ b4 : Bool, vs2 = [(Value.bool b4)] ∧
(if (!b4) = true then
  (stOk h3 (Addr.mk (Array.size h) 0 none) 4 ∧ wth (wrs h3 (Addr.mk (Array.size h) 0 none) 0 [(Value.int .i64 (0 : Int)), (Value.int .i64 (0 : Int)), (Value.int .i64 (0 : Int)), (Value.int .i64 (60 : Int))]) fun h5 =>
    ∃ n6 : Int, rd h5 (Addr.add (Addr.mk (Array.size h) 0 none) 0) = some (Value.int .i64 n6) ∧ ∃ n7 : Int, rd h5 (Addr.add (Addr.mk (Array.size h) 0 none) 1) = some (Value.int .i64 n7) ∧ ∃ n8 : Int, rd h5 (Addr.add (Addr.mk (Array.size h) 0 none) 2) = some (Value.int .i64 n8) ∧ ∃ n9 : Int, rd h5 (Addr.add (Addr.mk (Array.size h) 0 none) 3) = some (Value.int .i64 n9) ∧ Q [(Value.agg #[(Value.int .i64 n6), (Value.int .i64 n7), (Value.int .i64 n8), (Value.int .i64 n9)])] h5) else
  (S_liveryref10_Leaves_at g0_x g1_k h3 fun (vs10 : List Value) (h11 : Hp) =>
    ∃ n12 : Int, vs10 = [(Value.int .i64 n12)] ∧
    ∀ X13 : List Value → Hp → Prop, (∀ l14 : Sl, ∀ n15 : Int, ∀ h16 : Hp, (nilW g0_x fun a17 => ∃ l18 : Sl, rd h16 (Addr.add a17 0) = some (Value.slice l18.a l18.n l18.c) ∧
        nilW l18.a fun a19 => ixOk n12 l18.n (∃ l20 : Sl, rd h16 (Addr.add (Addr.add a19 (Int.toNat n12 * 4)) 3) = some (Value.slice l20.a l20.n l20.c) ∧
          (if (decide (n15 < (l20.n : Int))) = true then
            (∀ J21 : List Value → Hp → Prop, (∀ l22 : Sl, ∀ h23 : Hp, (X13 [(Value.slice l22.a l22.n l22.c), (Value.int .i64 (IntKind.wrap .i64 (n15 + (1 : Int))))] h23) → J21 [(Value.slice l22.a l22.n l22.c)] h23) →
              nilW g0_x fun a24 => ∃ l25 : Sl, rd h16 (Addr.add a24 0) = some (Value.slice l25.a l25.n l25.c) ∧
              nilW l25.a fun a26 => ixOk n12 l25.n (∃ l27 : Sl, rd h16 (Addr.add (Addr.add a26 (Int.toNat n12 * 4)) 3) = some (Value.slice l27.a l27.n l27.c) ∧
                nilW l27.a fun a28 => ixOk n15 l27.n (∃ s29 : ByteArray, rd h16 (Addr.add a28 (Int.toNat n15 * 1)) = some (Value.string s29) ∧
                  (if (!((ByteArray.toList s29) == (ByteArray.toList g1_k))) = true then
                    (nilW g0_x fun a30 => ∃ l31 : Sl, rd h16 (Addr.add a30 0) = some (Value.slice l31.a l31.n l31.c) ∧
                      nilW l31.a fun a32 => ixOk n12 l31.n (∃ l33 : Sl, rd h16 (Addr.add (Addr.add a32 (Int.toNat n12 * 4)) 3) = some (Value.slice l33.a l33.n l33.c) ∧
                        nilW l33.a fun a34 => ixOk n15 l33.n (∃ s35 : ByteArray, rd h16 (Addr.add a34 (Int.toNat n15 * 1)) = some (Value.string s35) ∧
                          wth (Array.push h16 (Obj.cells #[(Value.string s35)] T_string)) fun h36 =>
                          ∃ cs39 : List Value, cellsAt h36 (some (Addr.mk (Array.size h16) 0 none)) (1 * 1) cs39 ∧ appS PP T_string 16 1 h36 ⟨l14.a, l14.n, l14.c⟩ 1 cs39 fun (l37 : Sl) (h38 : Hp) =>
                          J21 [(Value.slice l37.a l37.n l37.c)] h38))) else
                    (J21 [(Value.slice l14.a l14.n l14.c)] h16))))) else
            (nilW g0_x fun a40 => ∃ l41 : Sl, rd h16 (Addr.add a40 0) = some (Value.slice l41.a l41.n l41.c) ∧
              nilW l41.a fun a42 => ixOk n12 l41.n (∃ n43 : Int, rd h16 (Addr.add (Addr.add a42 (Int.toNat n12 * 4)) 0) = some (Value.int .i64 n43) ∧
                wth (Array.push h16 (Obj.cells #[(Value.int .i64 (0 : Int)), (Value.int .i64 (0 : Int)), (Value.int .i64 (0 : Int)), (Value.int .i64 (0 : Int))] T_liveryref10_Did)) fun h44 =>
                stOk h44 (Addr.mk (Array.size h16) 0 none) 4 ∧ wth (wrs h44 (Addr.mk (Array.size h16) 0 none) 0 [(Value.int .i64 n43), (Value.int .i64 (0 : Int)), (Value.int .i64 (0 : Int)), (Value.int .i64 (0 : Int))]) fun h45 =>
                ∀ J46 : List Value → Hp → Prop, (∀ b47 : Bool, ∀ h48 : Hp, ((if b47 = true then
                      (nilW g0_x fun a49 => ∃ l50 : Sl, rd h48 (Addr.add a49 0) = some (Value.slice l50.a l50.n l50.c) ∧
                        nilW l50.a fun a51 => ixOk n12 l50.n (stOk h48 (Addr.add (Addr.add a51 (Int.toNat n12 * 4)) 3) 1 ∧ wth (wrs h48 (Addr.add (Addr.add a51 (Int.toNat n12 * 4)) 3) 0 [(Value.slice l14.a l14.n l14.c)]) fun h52 =>
                          ∃ n53 : Int, rd h52 (Addr.add (Addr.mk (Array.size h16) 0 none) 0) = some (Value.int .i64 n53) ∧ ∃ n54 : Int, rd h52 (Addr.add (Addr.mk (Array.size h16) 0 none) 1) = some (Value.int .i64 n54) ∧ ∃ n55 : Int, rd h52 (Addr.add (Addr.mk (Array.size h16) 0 none) 2) = some (Value.int .i64 n55) ∧ ∃ n56 : Int, rd h52 (Addr.add (Addr.mk (Array.size h16) 0 none) 3) = some (Value.int .i64 n56) ∧ stOk h52 (Addr.mk (Array.size h) 0 none) 4 ∧ wth (wrs h52 (Addr.mk (Array.size h) 0 none) 0 [(Value.int .i64 n53), (Value.int .i64 n54), (Value.int .i64 n55), (Value.int .i64 n56)]) fun h57 =>
                          ∃ n58 : Int, rd h57 (Addr.add (Addr.mk (Array.size h) 0 none) 0) = some (Value.int .i64 n58) ∧ ∃ n59 : Int, rd h57 (Addr.add (Addr.mk (Array.size h) 0 none) 1) = some (Value.int .i64 n59) ∧ ∃ n60 : Int, rd h57 (Addr.add (Addr.mk (Array.size h) 0 none) 2) = some (Value.int .i64 n60) ∧ ∃ n61 : Int, rd h57 (Addr.add (Addr.mk (Array.size h) 0 none) 3) = some (Value.int .i64 n61) ∧ Q [(Value.agg #[(Value.int .i64 n58), (Value.int .i64 n59), (Value.int .i64 n60), (Value.int .i64 n61)])] h57)) else
                      (∃ n62 : Int, rd h48 (Addr.add (Addr.mk (Array.size h16) 0 none) 0) = some (Value.int .i64 n62) ∧
                        stOk h48 (Addr.add (Addr.mk (Array.size h16) 0 none) 1) 1 ∧ wth (wrs h48 (Addr.add (Addr.mk (Array.size h16) 0 none) 1) 0 [(Value.int .i64 n62)]) fun h63 =>
                        ∀ J64 : List Value → Hp → Prop, (∀ h65 : Hp, (∀ X66 : List Value → Hp → Prop, (∀ l67 : Sl, ∀ n68 : Int, ∀ h69 : Hp, (nilW g0_x fun a70 => ∃ l71 : Sl, rd h69 (Addr.add a70 0) = some (Value.slice l71.a l71.n l71.c) ∧
                                (if (decide (n68 < (l71.n : Int))) = true then
                                  (∀ J72 : List Value → Hp → Prop, (∀ l73 : Sl, ∀ h74 : Hp, (X66 [(Value.slice l73.a l73.n l73.c), (Value.int .i64 (IntKind.wrap .i64 (n68 + (1 : Int))))] h74) → J72 [(Value.slice l73.a l73.n l73.c)] h74) →
                                    nilW g0_x fun a75 => ∃ l76 : Sl, rd h69 (Addr.add a75 0) = some (Value.slice l76.a l76.n l76.c) ∧
                                    nilW l76.a fun a77 => ixOk n68 l76.n (∃ n78 : Int, rd h69 (Addr.add (Addr.add a77 (Int.toNat n68 * 4)) 0) = some (Value.int .i64 n78) ∧ ∃ b79 : Bool, rd h69 (Addr.add (Addr.add a77 (Int.toNat n68 * 4)) 1) = some (Value.bool b79) ∧ ∃ s80 : ByteArray, rd h69 (Addr.add (Addr.add a77 (Int.toNat n68 * 4)) 2) = some (Value.string s80) ∧ ∃ l81 : Sl, rd h69 (Addr.add (Addr.add a77 (Int.toNat n68 * 4)) 3) = some (Value.slice l81.a l81.n l81.c) ∧ wth (Array.push h69 (Obj.cells #[(Value.int .i64 (0 : Int)), (Value.bool false), (Value.string (ByteArray.mk #[])), (Value.slice none 0 0)] T_liveryref10_Leaf)) fun h82 =>
                                      stOk h82 (Addr.mk (Array.size h69) 0 none) 4 ∧ wth (wrs h82 (Addr.mk (Array.size h69) 0 none) 0 [(Value.int .i64 n78), (Value.bool b79), (Value.string s80), (Value.slice l81.a l81.n l81.c)]) fun h83 =>
                                      (if (n68 == n12) = true then
                                        (J72 [(Value.slice l67.a l67.n l67.c)] h83) else
                                        (∀ J84 : List Value → Hp → Prop, (∀ b85 : Bool, ∀ h86 : Hp, (∀ J87 : List Value → Hp → Prop, (∀ h88 : Hp, (∃ n89 : Int, rd h88 (Addr.add (Addr.mk (Array.size h69) 0 none) 0) = some (Value.int .i64 n89) ∧ ∃ b90 : Bool, rd h88 (Addr.add (Addr.mk (Array.size h69) 0 none) 1) = some (Value.bool b90) ∧ ∃ s91 : ByteArray, rd h88 (Addr.add (Addr.mk (Array.size h69) 0 none) 2) = some (Value.string s91) ∧ ∃ l92 : Sl, rd h88 (Addr.add (Addr.mk (Array.size h69) 0 none) 3) = some (Value.slice l92.a l92.n l92.c) ∧ wth (Array.push h88 (Obj.cells #[(Value.int .i64 n89), (Value.bool b90), (Value.string s91), (Value.slice l92.a l92.n l92.c)] T_liveryref10_Leaf)) fun h93 =>
                                                  ∃ cs96 : List Value, cellsAt h93 (some (Addr.mk (Array.size h88) 0 none)) (1 * 4) cs96 ∧ appS PP T_liveryref10_Leaf 56 4 h93 ⟨l67.a, l67.n, l67.c⟩ 1 cs96 fun (l94 : Sl) (h95 : Hp) =>
                                                  J72 [(Value.slice l94.a l94.n l94.c)] h95) → J87 [] h88) →
                                              (if b85 = true then
                                                (stOk h86 (Addr.add (Addr.mk (Array.size h69) 0 none) 1) 1 ∧ wth (wrs h86 (Addr.add (Addr.mk (Array.size h69) 0 none) 1) 0 [(Value.bool true)]) fun h97 =>
                                                  stOk h97 (Addr.add (Addr.mk (Array.size h69) 0 none) 2) 1 ∧ wth (wrs h97 (Addr.add (Addr.mk (Array.size h69) 0 none) 2) 0 [(Value.string (ByteArray.mk #[]))]) fun h98 =>
                                                  J87 [] h98) else
                                                (J87 [] h86))) → J84 [(Value.bool b85)] h86) →
                                          (if (n12 == (0 : Int)) = true then (J84 [(Value.bool (n68 == (1 : Int)))] h83) else
                                            (J84 [(Value.bool false)] h83)))))) else
                                  (nilW g0_x fun a99 => stOk h69 (Addr.add a99 0) 1 ∧ wth (wrs h69 (Addr.add a99 0) 0 [(Value.slice l67.a l67.n l67.c)]) fun h100 =>
                                    ∃ n101 : Int, rd h100 (Addr.add (Addr.mk (Array.size h16) 0 none) 0) = some (Value.int .i64 n101) ∧ ∃ n102 : Int, rd h100 (Addr.add (Addr.mk (Array.size h16) 0 none) 1) = some (Value.int .i64 n102) ∧ ∃ n103 : Int, rd h100 (Addr.add (Addr.mk (Array.size h16) 0 none) 2) = some (Value.int .i64 n103) ∧ ∃ n104 : Int, rd h100 (Addr.add (Addr.mk (Array.size h16) 0 none) 3) = some (Value.int .i64 n104) ∧ stOk h100 (Addr.mk (Array.size h) 0 none) 4 ∧ wth (wrs h100 (Addr.mk (Array.size h) 0 none) 0 [(Value.int .i64 n101), (Value.int .i64 n102), (Value.int .i64 n103), (Value.int .i64 n104)]) fun h105 =>
                                    ∃ n106 : Int, rd h105 (Addr.add (Addr.mk (Array.size h) 0 none) 0) = some (Value.int .i64 n106) ∧ ∃ n107 : Int, rd h105 (Addr.add (Addr.mk (Array.size h) 0 none) 1) = some (Value.int .i64 n107) ∧ ∃ n108 : Int, rd h105 (Addr.add (Addr.mk (Array.size h) 0 none) 2) = some (Value.int .i64 n108) ∧ ∃ n109 : Int, rd h105 (Addr.add (Addr.mk (Array.size h) 0 none) 3) = some (Value.int .i64 n109) ∧ Q [(Value.agg #[(Value.int .i64 n106), (Value.int .i64 n107), (Value.int .i64 n108), (Value.int .i64 n109)])] h105))) → X66 [(Value.slice l67.a l67.n l67.c), (Value.int .i64 n68)] h69) →
                            X66 [(Value.slice none 0 0), (Value.int .i64 (0 : Int))] h65) → J64 [] h65) →
                        (if (decide (n12 > (0 : Int))) = true then
                          (nilW g0_x fun a110 => ∃ l111 : Sl, rd h63 (Addr.add a110 0) = some (Value.slice l111.a l111.n l111.c) ∧
                            nilW l111.a fun a112 => ixOk (IntKind.wrap .i64 (n12 - (1 : Int))) l111.n (∃ n113 : Int, rd h63 (Addr.add (Addr.add a112 (Int.toNat (IntKind.wrap .i64 (n12 - (1 : Int))) * 4)) 0) = some (Value.int .i64 n113) ∧
                              stOk h63 (Addr.add (Addr.mk (Array.size h16) 0 none) 2) 1 ∧ wth (wrs h63 (Addr.add (Addr.mk (Array.size h16) 0 none) 2) 0 [(Value.int .i64 n113)]) fun h114 =>
                              J64 [] h114)) else
                          (nilW g0_x fun a115 => ∃ l116 : Sl, rd h63 (Addr.add a115 0) = some (Value.slice l116.a l116.n l116.c) ∧
                            nilW l116.a fun a117 => ixOk (1 : Int) l116.n (∃ n118 : Int, rd h63 (Addr.add (Addr.add a117 (Int.toNat (1 : Int) * 4)) 0) = some (Value.int .i64 n118) ∧
                              stOk h63 (Addr.add (Addr.mk (Array.size h16) 0 none) 2) 1 ∧ wth (wrs h63 (Addr.add (Addr.mk (Array.size h16) 0 none) 2) 0 [(Value.int .i64 n118)]) fun h119 =>
                              J64 [] h119)))))) → J46 [(Value.bool b47)] h48) →
                (if (decide ((l14.n : Int) > (0 : Int))) = true then (J46 [(Value.bool true)] h45) else
                  (nilW g0_x fun a120 => ∃ l121 : Sl, rd h45 (Addr.add a120 0) = some (Value.slice l121.a l121.n l121.c) ∧
                    J46 [(Value.bool ((l121.n : Int) == (1 : Int)))] h45))))))) → X13 [(Value.slice l14.a l14.n l14.c), (Value.int .i64 n15)] h16) →
    X13 [(Value.slice none 0 0), (Value.int .i64 (0 : Int))] h11))
def A_liveryref10_Leaves_Remove : Ann := (.mk none ⟨[], []⟩ .nil (.mk none ⟨[], []⟩ .nil (.mk none ⟨[], []⟩ .nil (.mk none ⟨[], []⟩ .nil (.mk none ⟨[], []⟩ (.mk none ⟨[], []⟩ .nil (.mk none ⟨[], []⟩ (.mk none ⟨[0, 1, 4, 5], [(6, (.c .sl)), (7, (.c (.int .i64)))]⟩ (.mk none ⟨[], []⟩ .nil (.mk none ⟨[], []⟩ (.mk (some ⟨[0, 1, 4, 5, 7], [(6, (.c .sl))]⟩) ⟨[], []⟩ .nil .nil) .nil)) .nil) .nil)) (.mk none ⟨[], []⟩ .nil (.mk none ⟨[], []⟩ (.mk none ⟨[], []⟩ (.mk (some ⟨[0, 4, 5, 6, 8], [(79, (.c .bool))]⟩) ⟨[], []⟩ .nil .nil) .nil) (.mk none ⟨[], []⟩ .nil (.mk none ⟨[], []⟩ (.mk none ⟨[], []⟩ .nil (.mk (some ⟨[0, 4, 5, 8], []⟩) ⟨[], []⟩ .nil .nil)) (.mk none ⟨[], []⟩ .nil (.mk none ⟨[], []⟩ (.mk none ⟨[], []⟩ .nil (.mk none ⟨[], []⟩ (.mk none ⟨[0, 4, 5, 8], [(9, (.c .sl)), (10, (.c (.int .i64)))]⟩ (.mk none ⟨[], []⟩ .nil (.mk none ⟨[], []⟩ (.mk (some ⟨[0, 4, 5, 8, 10], [(9, (.c .sl))]⟩) ⟨[], []⟩ (.mk none ⟨[], []⟩ .nil (.mk none ⟨[], []⟩ .nil (.mk none ⟨[], []⟩ (.mk none ⟨[], []⟩ (.mk (some ⟨[0, 4, 5, 8, 9, 10, 11], [(136, (.c .bool))]⟩) ⟨[], []⟩ .nil .nil) (.mk (some ⟨[0, 4, 5, 8, 9, 10, 11], []⟩) ⟨[], []⟩ .nil .nil)) .nil))) .nil) .nil)) .nil) .nil)) .nil)))))))))))
theorem E_liveryref10_Leaves_Remove (g0_x : Option Addr) (g1_k : ByteArray) (h : Hp) (Q : List Value → Hp → Prop) : cw PP 148 (fun _ => []) (bodyOf Try.f22) A_liveryref10_Leaves_Remove (finQ PP (Try.f22.results.toList) Q) (argFr [(Value.pointer g0_x), (Value.string g1_k)]) h = F_liveryref10_Leaves_Remove g0_x g1_k h Q := by kernel_rfl
theorem O_liveryref10_Leaves_Remove (g0_x : Option Addr) (g1_k : ByteArray) {h : Hp} {Q : List Value → Hp → Prop} (H : F_liveryref10_Leaves_Remove g0_x g1_k h Q) : S_liveryref10_Leaves_Remove g0_x g1_k h Q :=
  fn_of_cw (hs := (fun _ => [])) (ann := A_liveryref10_Leaves_Remove) (args := [(Value.pointer g0_x), (Value.string g1_k)]) mixedPP Try.func22 (c := bodyOf Try.f22) (by kernel_rfl) (by kernel_rfl) (by kernel_rfl) (Eq.mpr (E_liveryref10_Leaves_Remove g0_x g1_k h Q) H)
def F_liveryref10_Leaves_Range (g0_x : Option Addr) (g1_from : ByteArray) (g2_to : ByteArray) (h : Hp) (Q : List Value → Hp → Prop) : Prop :=
wth (Array.push h (Obj.cells #[(Value.slice none 0 0), (Value.slice none 0 0)] T_liveryref10_Span)) fun h1 =>
wth (Array.push h1 (Obj.cells #[(Value.slice none 0 0), (Value.slice none 0 0)] T_liveryref10_Span)) fun h2 =>
∀ J3 : List Value → Hp → Prop, (∀ b4 : Bool, ∀ h5 : Hp, ((if b4 = true then
      (∃ l6 : Sl, rd h5 (Addr.add (Addr.mk (Array.size h1) 0 none) 0) = some (Value.slice l6.a l6.n l6.c) ∧ ∃ l7 : Sl, rd h5 (Addr.add (Addr.mk (Array.size h1) 0 none) 1) = some (Value.slice l7.a l7.n l7.c) ∧ stOk h5 (Addr.mk (Array.size h) 0 none) 2 ∧ wth (wrs h5 (Addr.mk (Array.size h) 0 none) 0 [(Value.slice l6.a l6.n l6.c), (Value.slice l7.a l7.n l7.c)]) fun h8 =>
        ∃ l9 : Sl, rd h8 (Addr.add (Addr.mk (Array.size h) 0 none) 0) = some (Value.slice l9.a l9.n l9.c) ∧ ∃ l10 : Sl, rd h8 (Addr.add (Addr.mk (Array.size h) 0 none) 1) = some (Value.slice l10.a l10.n l10.c) ∧ Q [(Value.agg #[(Value.slice l9.a l9.n l9.c), (Value.slice l10.a l10.n l10.c)])] h8) else
      (nilW g0_x fun a11 => ∃ l12 : Sl, rd h5 (Addr.add a11 0) = some (Value.slice l12.a l12.n l12.c) ∧
        ∀ J13 : List Value → Hp → Prop, (∀ n14 : Int, ∀ h15 : Hp, (S_liveryref10_Leaves_at g0_x g1_from h15 fun (vs16 : List Value) (h17 : Hp) =>
            ∃ n18 : Int, vs16 = [(Value.int .i64 n18)] ∧
            ∀ X19 : List Value → Hp → Prop, (∀ n20 : Int, ∀ h21 : Hp, ((if (decide (n20 ≤ n14)) = true then
                  (∃ l22 : Sl, rd h21 (Addr.add (Addr.mk (Array.size h1) 0 none) 1) = some (Value.slice l22.a l22.n l22.c) ∧
                    nilW g0_x fun a23 => ∃ l24 : Sl, rd h21 (Addr.add a23 0) = some (Value.slice l24.a l24.n l24.c) ∧
                    nilW l24.a fun a25 => ixOk n20 l24.n (∃ n26 : Int, rd h21 (Addr.add (Addr.add a25 (Int.toNat n20 * 4)) 0) = some (Value.int .i64 n26) ∧
                      wth (Array.push h21 (Obj.cells #[(Value.int .i64 n26)] T_int)) fun h27 =>
                      rd h27 (Addr.add (Addr.mk (Array.size h1) 0 none) 1) = some (Value.slice l22.a l22.n l22.c) ∧ ∃ cs55 : List Value, cellsAt h27 (some (Addr.mk (Array.size h21) 0 none)) (1 * 1) cs55 ∧ appS PP T_int 8 1 h27 ⟨l22.a, l22.n, l22.c⟩ 1 cs55 fun (l28 : Sl) (h29 : Hp) =>
                      stOk h29 (Addr.add (Addr.mk (Array.size h1) 0 none) 1) 1 ∧ wth (wrs h29 (Addr.add (Addr.mk (Array.size h1) 0 none) 1) 0 [(Value.slice l28.a l28.n l28.c)]) fun h30 =>
                      ∀ X31 : List Value → Hp → Prop, (∀ n32 : Int, ∀ h33 : Hp, (nilW g0_x fun a34 => ∃ l35 : Sl, rd h33 (Addr.add a34 0) = some (Value.slice l35.a l35.n l35.c) ∧
                          nilW l35.a fun a36 => ixOk n20 l35.n (∃ l37 : Sl, rd h33 (Addr.add (Addr.add a36 (Int.toNat n20 * 4)) 3) = some (Value.slice l37.a l37.n l37.c) ∧
                            (if (decide (n32 < (l37.n : Int))) = true then
                              (∀ J38 : List Value → Hp → Prop, (∀ h39 : Hp, (X31 [(Value.int .i64 (IntKind.wrap .i64 (n32 + (1 : Int))))] h39) → J38 [] h39) →
                                nilW g0_x fun a40 => ∃ l41 : Sl, rd h33 (Addr.add a40 0) = some (Value.slice l41.a l41.n l41.c) ∧
                                nilW l41.a fun a42 => ixOk n20 l41.n (∃ l43 : Sl, rd h33 (Addr.add (Addr.add a42 (Int.toNat n20 * 4)) 3) = some (Value.slice l43.a l43.n l43.c) ∧
                                  nilW l43.a fun a44 => ixOk n32 l43.n (∃ s45 : ByteArray, rd h33 (Addr.add a44 (Int.toNat n32 * 1)) = some (Value.string s45) ∧
                                    ∀ J46 : List Value → Hp → Prop, (∀ b47 : Bool, ∀ h48 : Hp, ((if b47 = true then
                                          (∃ l49 : Sl, rd h48 (Addr.add (Addr.mk (Array.size h1) 0 none) 0) = some (Value.slice l49.a l49.n l49.c) ∧
                                            wth (Array.push h48 (Obj.cells #[(Value.string s45)] T_string)) fun h50 =>
                                            ∃ cs54 : List Value, cellsAt h50 (some (Addr.mk (Array.size h48) 0 none)) (1 * 1) cs54 ∧ appS PP T_string 16 1 h50 ⟨l49.a, l49.n, l49.c⟩ 1 cs54 fun (l51 : Sl) (h52 : Hp) =>
                                            stOk h52 (Addr.add (Addr.mk (Array.size h1) 0 none) 0) 1 ∧ wth (wrs h52 (Addr.add (Addr.mk (Array.size h1) 0 none) 0) 0 [(Value.slice l51.a l51.n l51.c)]) fun h53 =>
                                            J38 [] h53) else
                                          (J38 [] h48))) → J46 [(Value.bool b47)] h48) →
                                    (if (!(Op.bytesLess (ByteArray.toList s45) (ByteArray.toList g1_from))) = true then ((if ((ByteArray.toList g2_to) == (ByteArray.toList (ByteArray.mk #[]))) = true then (J46 [(Value.bool true)] h33) else
                                          (J46 [(Value.bool (Op.bytesLess (ByteArray.toList s45) (ByteArray.toList g2_to)))] h33))) else
                                      (J46 [(Value.bool false)] h33))))) else
                              (X19 [(Value.int .i64 (IntKind.wrap .i64 (n20 + (1 : Int))))] h33)))) → X31 [(Value.int .i64 n32)] h33) →
                      X31 [(Value.int .i64 (0 : Int))] h30)) else
                  (∃ l56 : Sl, rd h21 (Addr.add (Addr.mk (Array.size h1) 0 none) 0) = some (Value.slice l56.a l56.n l56.c) ∧ ∃ l57 : Sl, rd h21 (Addr.add (Addr.mk (Array.size h1) 0 none) 1) = some (Value.slice l57.a l57.n l57.c) ∧ stOk h21 (Addr.mk (Array.size h) 0 none) 2 ∧ wth (wrs h21 (Addr.mk (Array.size h) 0 none) 0 [(Value.slice l56.a l56.n l56.c), (Value.slice l57.a l57.n l57.c)]) fun h58 =>
                    ∃ l59 : Sl, rd h58 (Addr.add (Addr.mk (Array.size h) 0 none) 0) = some (Value.slice l59.a l59.n l59.c) ∧ ∃ l60 : Sl, rd h58 (Addr.add (Addr.mk (Array.size h) 0 none) 1) = some (Value.slice l60.a l60.n l60.c) ∧ Q [(Value.agg #[(Value.slice l59.a l59.n l59.c), (Value.slice l60.a l60.n l60.c)])] h58))) → X19 [(Value.int .i64 n20)] h21) →
            X19 [(Value.int .i64 n18)] h17) → J13 [(Value.int .i64 n14)] h15) →
        (if (!((ByteArray.toList g2_to) == (ByteArray.toList (ByteArray.mk #[])))) = true then
          (S_liveryref10_Leaves_at g0_x g2_to h5 fun (vs61 : List Value) (h62 : Hp) =>
            ∃ n63 : Int, vs61 = [(Value.int .i64 n63)] ∧
            J13 [(Value.int .i64 n63)] h62) else
          (J13 [(Value.int .i64 (IntKind.wrap .i64 ((l12.n : Int) - (1 : Int))))] h5))))) → J3 [(Value.bool b4)] h5) →
(if (!((ByteArray.toList g2_to) == (ByteArray.toList (ByteArray.mk #[])))) = true then (J3 [(Value.bool (Op.bytesLess (ByteArray.toList g2_to) (ByteArray.toList g1_from) || (ByteArray.toList g2_to) == (ByteArray.toList g1_from)))] h2) else
  (J3 [(Value.bool false)] h2))
def A_liveryref10_Leaves_Range : Ann := (.mk none ⟨[], []⟩ .nil (.mk none ⟨[], []⟩ .nil (.mk none ⟨[], []⟩ (.mk none ⟨[], []⟩ (.mk (some ⟨[0, 1, 2, 6, 7], [(18, (.c .bool))]⟩) ⟨[], []⟩ .nil .nil) .nil) (.mk none ⟨[], []⟩ .nil (.mk none ⟨[], []⟩ (.mk none ⟨[], []⟩ .nil (.mk (some ⟨[0, 1, 2, 6, 7], [(8, (.c (.int .i64)))]⟩) ⟨[], []⟩ .nil .nil)) (.mk none ⟨[], []⟩ (.mk none ⟨[], []⟩ .nil (.mk none ⟨[], []⟩ (.mk none ⟨[0, 1, 2, 6, 7, 8], [(9, (.c (.int .i64)))]⟩ (.mk none ⟨[], []⟩ .nil (.mk none ⟨[], []⟩ (.mk none ⟨[], []⟩ (.mk none ⟨[], []⟩ .nil (.mk none ⟨[], []⟩ .nil (.mk none ⟨[], []⟩ (.mk none ⟨[0, 1, 2, 6, 7, 8, 9], [(10, (.c (.int .i64)))]⟩ (.mk none ⟨[], []⟩ .nil (.mk none ⟨[], []⟩ (.mk (some ⟨[0, 1, 2, 6, 7, 8, 9, 10], []⟩) ⟨[], []⟩ (.mk none ⟨[], []⟩ .nil (.mk none ⟨[], []⟩ (.mk (some ⟨[0, 1, 2, 6, 7, 8, 9, 10, 11], [(87, (.c .bool))]⟩) ⟨[], []⟩ .nil .nil) .nil)) .nil) .nil)) .nil) .nil))) .nil) .nil)) .nil) .nil)) .nil))))))
theorem E_liveryref10_Leaves_Range (g0_x : Option Addr) (g1_from : ByteArray) (g2_to : ByteArray) (h : Hp) (Q : List Value → Hp → Prop) : cw PP 95 (fun _ => []) (bodyOf Try.f23) A_liveryref10_Leaves_Range (finQ PP (Try.f23.results.toList) Q) (argFr [(Value.pointer g0_x), (Value.string g1_from), (Value.string g2_to)]) h = F_liveryref10_Leaves_Range g0_x g1_from g2_to h Q := by kernel_rfl
theorem O_liveryref10_Leaves_Range (g0_x : Option Addr) (g1_from : ByteArray) (g2_to : ByteArray) {h : Hp} {Q : List Value → Hp → Prop} (H : F_liveryref10_Leaves_Range g0_x g1_from g2_to h Q) : S_liveryref10_Leaves_Range g0_x g1_from g2_to h Q :=
  fn_of_cw (hs := (fun _ => [])) (ann := A_liveryref10_Leaves_Range) (args := [(Value.pointer g0_x), (Value.string g1_from), (Value.string g2_to)]) mixedPP Try.func23 (c := bodyOf Try.f23) (by kernel_rfl) (by kernel_rfl) (by kernel_rfl) (Eq.mpr (E_liveryref10_Leaves_Range g0_x g1_from g2_to h Q) H)
def F_leaf_Leaves_Has (g0_x : Option Addr) (g1_k : ByteArray) (h : Hp) (Q : List Value → Hp → Prop) : Prop :=
(if (Option.isNone g0_x) = true then
  (Q [(Value.bool false)] h) else
  (nilW g0_x fun a1 => ∃ l2 : Sl, rd h (Addr.add a1 1) = some (Value.slice l2.a l2.n l2.c) ∧
    S_leaf_Leaves_at g0_x g1_k h fun (vs3 : List Value) (h4 : Hp) =>
    ∃ n5 : Int, vs3 = [(Value.int .i64 n5)] ∧
    rd h4 (Addr.add a1 1) = some (Value.slice l2.a l2.n l2.c) ∧ nilW l2.a fun a6 => ixOk n5 l2.n (∃ p7 : Option Addr, rd h4 (Addr.add a6 (Int.toNat n5 * 1)) = some (Value.pointer p7) ∧
      nilW p7 fun a8 => ∃ l9 : Sl, rd h4 (Addr.add a8 2) = some (Value.slice l9.a l9.n l9.c) ∧
      S_slices_BinarySearch_sstring_string ⟨l9.a, l9.n, l9.c⟩ g1_k h4 fun (vs10 : List Value) (h11 : Hp) =>
      ∃ n12 : Int, ∃ b13 : Bool, vs10 = [(Value.int .i64 n12), (Value.bool b13)] ∧
      Q [(Value.bool b13)] h11)))
def A_leaf_Leaves_Has : Ann := .nil
theorem E_leaf_Leaves_Has (g0_x : Option Addr) (g1_k : ByteArray) (h : Hp) (Q : List Value → Hp → Prop) : cw PP 27 (fun _ => []) (bodyOf Try.f26) A_leaf_Leaves_Has (finQ PP (Try.f26.results.toList) Q) (argFr [(Value.pointer g0_x), (Value.string g1_k)]) h = F_leaf_Leaves_Has g0_x g1_k h Q := by kernel_rfl
theorem O_leaf_Leaves_Has (g0_x : Option Addr) (g1_k : ByteArray) {h : Hp} {Q : List Value → Hp → Prop} (H : F_leaf_Leaves_Has g0_x g1_k h Q) : S_leaf_Leaves_Has g0_x g1_k h Q :=
  fn_of_cw (hs := (fun _ => [])) (ann := A_leaf_Leaves_Has) (args := [(Value.pointer g0_x), (Value.string g1_k)]) mixedPP Try.func26 (c := bodyOf Try.f26) (by kernel_rfl) (by kernel_rfl) (by kernel_rfl) (Eq.mpr (E_leaf_Leaves_Has g0_x g1_k h Q) H)
def F_liveryref10_Leaves_Of (g0_x : Option Addr) (g1_k : ByteArray) (h : Hp) (Q : List Value → Hp → Prop) : Prop :=
nilW g0_x fun a1 => ∃ l2 : Sl, rd h (Addr.add a1 0) = some (Value.slice l2.a l2.n l2.c) ∧
S_liveryref10_Leaves_at g0_x g1_k h fun (vs3 : List Value) (h4 : Hp) =>
∃ n5 : Int, vs3 = [(Value.int .i64 n5)] ∧
rd h4 (Addr.add a1 0) = some (Value.slice l2.a l2.n l2.c) ∧ nilW l2.a fun a6 => ixOk n5 l2.n (∃ n7 : Int, rd h4 (Addr.add (Addr.add a6 (Int.toNat n5 * 4)) 0) = some (Value.int .i64 n7) ∧
  Q [(Value.int .i64 n7)] h4)
def A_liveryref10_Leaves_Of : Ann := .nil
theorem E_liveryref10_Leaves_Of (g0_x : Option Addr) (g1_k : ByteArray) (h : Hp) (Q : List Value → Hp → Prop) : cw PP 15 (fun _ => []) (bodyOf Try.f29) A_liveryref10_Leaves_Of (finQ PP (Try.f29.results.toList) Q) (argFr [(Value.pointer g0_x), (Value.string g1_k)]) h = F_liveryref10_Leaves_Of g0_x g1_k h Q := by kernel_rfl
theorem O_liveryref10_Leaves_Of (g0_x : Option Addr) (g1_k : ByteArray) {h : Hp} {Q : List Value → Hp → Prop} (H : F_liveryref10_Leaves_Of g0_x g1_k h Q) : S_liveryref10_Leaves_Of g0_x g1_k h Q :=
  fn_of_cw (hs := (fun _ => [])) (ann := A_liveryref10_Leaves_Of) (args := [(Value.pointer g0_x), (Value.string g1_k)]) mixedPP Try.func29 (c := bodyOf Try.f29) (by kernel_rfl) (by kernel_rfl) (by kernel_rfl) (Eq.mpr (E_liveryref10_Leaves_Of g0_x g1_k h Q) H)
def F_liveryref10_Leaves_All (g0_x : Option Addr) (h : Hp) (Q : List Value → Hp → Prop) : Prop :=
∀ X1 : List Value → Hp → Prop, (∀ l2 : Sl, ∀ n3 : Int, ∀ h4 : Hp, (nilW g0_x fun a5 => ∃ l6 : Sl, rd h4 (Addr.add a5 0) = some (Value.slice l6.a l6.n l6.c) ∧
    (if (decide (n3 < (l6.n : Int))) = true then
      (nilW g0_x fun a7 => ∃ l8 : Sl, rd h4 (Addr.add a7 0) = some (Value.slice l8.a l8.n l8.c) ∧
        nilW l8.a fun a9 => ixOk n3 l8.n (∃ n10 : Int, rd h4 (Addr.add (Addr.add a9 (Int.toNat n3 * 4)) 0) = some (Value.int .i64 n10) ∧
          wth (Array.push h4 (Obj.cells #[(Value.int .i64 n10)] T_int)) fun h11 =>
          ∃ cs14 : List Value, cellsAt h11 (some (Addr.mk (Array.size h4) 0 none)) (1 * 1) cs14 ∧ appS PP T_int 8 1 h11 ⟨l2.a, l2.n, l2.c⟩ 1 cs14 fun (l12 : Sl) (h13 : Hp) =>
          X1 [(Value.slice l12.a l12.n l12.c), (Value.int .i64 (IntKind.wrap .i64 (n3 + (1 : Int))))] h13)) else
      (Q [(Value.slice l2.a l2.n l2.c)] h4))) → X1 [(Value.slice l2.a l2.n l2.c), (Value.int .i64 n3)] h4) →
X1 [(Value.slice none 0 0), (Value.int .i64 (0 : Int))] h
def A_liveryref10_Leaves_All : Ann := (.mk none ⟨[], []⟩ .nil (.mk none ⟨[], []⟩ .nil (.mk none ⟨[], []⟩ (.mk none ⟨[], []⟩ .nil (.mk none ⟨[], []⟩ (.mk none ⟨[0], [(3, (.c .sl)), (4, (.c (.int .i64)))]⟩ .nil .nil) .nil)) .nil)))
theorem E_liveryref10_Leaves_All (g0_x : Option Addr) (h : Hp) (Q : List Value → Hp → Prop) : cw PP 26 (fun _ => []) (bodyOf Try.f30) A_liveryref10_Leaves_All (finQ PP (Try.f30.results.toList) Q) (argFr [(Value.pointer g0_x)]) h = F_liveryref10_Leaves_All g0_x h Q := by kernel_rfl
theorem O_liveryref10_Leaves_All (g0_x : Option Addr) {h : Hp} {Q : List Value → Hp → Prop} (H : F_liveryref10_Leaves_All g0_x h Q) : S_liveryref10_Leaves_All g0_x h Q :=
  fn_of_cw (hs := (fun _ => [])) (ann := A_liveryref10_Leaves_All) (args := [(Value.pointer g0_x)]) mixedPP Try.func30 (c := bodyOf Try.f30) (by kernel_rfl) (by kernel_rfl) (by kernel_rfl) (Eq.mpr (E_liveryref10_Leaves_All g0_x h Q) H)
def F_liveryref10_Leaves_Len (g0_x : Option Addr) (h : Hp) (Q : List Value → Hp → Prop) : Prop :=
∀ X1 : List Value → Hp → Prop, (∀ n2 : Int, ∀ n3 : Int, ∀ h4 : Hp, (nilW g0_x fun a5 => ∃ l6 : Sl, rd h4 (Addr.add a5 0) = some (Value.slice l6.a l6.n l6.c) ∧
    (if (decide (n3 < (l6.n : Int))) = true then
      (nilW g0_x fun a7 => ∃ l8 : Sl, rd h4 (Addr.add a7 0) = some (Value.slice l8.a l8.n l8.c) ∧
        nilW l8.a fun a9 => ixOk n3 l8.n (∃ l10 : Sl, rd h4 (Addr.add (Addr.add a9 (Int.toNat n3 * 4)) 3) = some (Value.slice l10.a l10.n l10.c) ∧
          X1 [(Value.int .i64 (IntKind.wrap .i64 (n2 + (l10.n : Int)))), (Value.int .i64 (IntKind.wrap .i64 (n3 + (1 : Int))))] h4)) else
      (Q [(Value.int .i64 n2)] h4))) → X1 [(Value.int .i64 n2), (Value.int .i64 n3)] h4) →
X1 [(Value.int .i64 (0 : Int)), (Value.int .i64 (0 : Int))] h
def A_liveryref10_Leaves_Len : Ann := (.mk none ⟨[], []⟩ .nil (.mk none ⟨[], []⟩ .nil (.mk none ⟨[], []⟩ (.mk none ⟨[], []⟩ .nil (.mk none ⟨[], []⟩ (.mk none ⟨[0], [(3, (.c (.int .i64))), (4, (.c (.int .i64)))]⟩ .nil .nil) .nil)) .nil)))
theorem E_liveryref10_Leaves_Len (g0_x : Option Addr) (h : Hp) (Q : List Value → Hp → Prop) : cw PP 26 (fun _ => []) (bodyOf Try.f31) A_liveryref10_Leaves_Len (finQ PP (Try.f31.results.toList) Q) (argFr [(Value.pointer g0_x)]) h = F_liveryref10_Leaves_Len g0_x h Q := by kernel_rfl
theorem O_liveryref10_Leaves_Len (g0_x : Option Addr) {h : Hp} {Q : List Value → Hp → Prop} (H : F_liveryref10_Leaves_Len g0_x h Q) : S_liveryref10_Leaves_Len g0_x h Q :=
  fn_of_cw (hs := (fun _ => [])) (ann := A_liveryref10_Leaves_Len) (args := [(Value.pointer g0_x)]) mixedPP Try.func31 (c := bodyOf Try.f31) (by kernel_rfl) (by kernel_rfl) (by kernel_rfl) (Eq.mpr (E_liveryref10_Leaves_Len g0_x h Q) H)
def F_liverylaw10_LeafPlays (g0_fan : Int) (g1_l : Sl) (h : Hp) (Q : List Value → Hp → Prop) : Prop :=
S_leaf_New g0_fan h fun (vs1 : List Value) (h2 : Hp) =>
∃ p3 : Option Addr, ∃ n4 : Int, vs1 = [(Value.pointer p3), (Value.int .i64 n4)] ∧
S_liveryref10_New g0_fan h2 fun (vs5 : List Value) (h6 : Hp) =>
∃ p7 : Option Addr, ∃ n8 : Int, vs5 = [(Value.pointer p7), (Value.int .i64 n8)] ∧
∀ J9 : List Value → Hp → Prop, (∀ b10 : Bool, ∀ h11 : Hp, ((if b10 = true then
      (Q [(Value.bool false)] h11) else
      (∀ J12 : List Value → Hp → Prop, (∀ b13 : Bool, ∀ h14 : Hp, ((if b13 = true then
              (S_liverylaw10_wakes  h14 fun (vs15 : List Value) (h16 : Hp) =>
                ∃ b17 : Bool, vs15 = [(Value.bool b17)] ∧
                Q [(Value.bool b17)] h16) else
              (∀ X18 : List Value → Hp → Prop, (∀ n19 : Int, ∀ h20 : Hp, ((if (decide (n19 < (g1_l.n : Int))) = true then
                      (nilW g1_l.a fun a21 => ixOk n19 g1_l.n (∃ n22 : Int, rd h20 (Addr.add (Addr.add a21 (Int.toNat n19 * 3)) 0) = some (Value.int .i64 n22) ∧ ∃ s23 : ByteArray, rd h20 (Addr.add (Addr.add a21 (Int.toNat n19 * 3)) 1) = some (Value.string s23) ∧ ∃ s24 : ByteArray, rd h20 (Addr.add (Addr.add a21 (Int.toNat n19 * 3)) 2) = some (Value.string s24) ∧ wth (Array.push h20 (Obj.cells #[(Value.int .i64 (0 : Int)), (Value.string (ByteArray.mk #[])), (Value.string (ByteArray.mk #[]))] T_liverylaw10_Step)) fun h25 =>
                          stOk h25 (Addr.mk (Array.size h20) 0 none) 3 ∧ wth (wrs h25 (Addr.mk (Array.size h20) 0 none) 0 [(Value.int .i64 n22), (Value.string s23), (Value.string s24)]) fun h26 =>
                          ∃ n27 : Int, rd h26 (Addr.add (Addr.mk (Array.size h20) 0 none) 0) = some (Value.int .i64 n27) ∧
                          ∀ J28 : List Value → Hp → Prop, (∀ h29 : Hp, (∃ n30 : Int, rd h29 (Addr.add (Addr.mk (Array.size h20) 0 none) 0) = some (Value.int .i64 n30) ∧
                              ∀ J31 : List Value → Hp → Prop, (∀ h32 : Hp, (∃ s33 : ByteArray, rd h32 (Addr.add (Addr.mk (Array.size h20) 0 none) 1) = some (Value.string s33) ∧
                                  ∃ s34 : ByteArray, rd h32 (Addr.add (Addr.mk (Array.size h20) 0 none) 2) = some (Value.string s34) ∧
                                  S_leaf_Leaves_Range p3 s33 s34 h32 fun (vs35 : List Value) (h36 : Hp) =>
                                  ∃ l37 : Sl, ∃ l38 : Sl, vs35 = [(Value.slice l37.a l37.n l37.c), (Value.slice l38.a l38.n l38.c)] ∧
                                  ∃ s39 : ByteArray, rd h36 (Addr.add (Addr.mk (Array.size h20) 0 none) 1) = some (Value.string s39) ∧
                                  ∃ s40 : ByteArray, rd h36 (Addr.add (Addr.mk (Array.size h20) 0 none) 2) = some (Value.string s40) ∧
                                  S_liveryref10_Leaves_Range p7 s39 s40 h36 fun (vs41 : List Value) (h42 : Hp) =>
                                  ∃ l43 : Sl, ∃ l44 : Sl, vs41 = [(Value.agg #[(Value.slice l43.a l43.n l43.c), (Value.slice l44.a l44.n l44.c)])] ∧
                                  wth (Array.push h42 (Obj.cells #[(Value.slice none 0 0), (Value.slice none 0 0)] T_liveryref10_Span)) fun h45 =>
                                  stOk h45 (Addr.mk (Array.size h42) 0 none) 2 ∧ wth (wrs h45 (Addr.mk (Array.size h42) 0 none) 0 [(Value.slice l43.a l43.n l43.c), (Value.slice l44.a l44.n l44.c)]) fun h46 =>
                                  ∀ J47 : List Value → Hp → Prop, (∀ b48 : Bool, ∀ h49 : Hp, ((if b48 = true then
                                        (Q [(Value.bool false)] h49) else
                                        (X18 [(Value.int .i64 (IntKind.wrap .i64 (n19 + (1 : Int))))] h49))) → J47 [(Value.bool b48)] h49) →
                                  ∃ l50 : Sl, rd h46 (Addr.add (Addr.mk (Array.size h42) 0 none) 0) = some (Value.slice l50.a l50.n l50.c) ∧
                                  S_liverykeep_Texts ⟨l37.a, l37.n, l37.c⟩ ⟨l50.a, l50.n, l50.c⟩ h46 fun (vs51 : List Value) (h52 : Hp) =>
                                  ∃ b53 : Bool, vs51 = [(Value.bool b53)] ∧
                                  (if (!b53) = true then (J47 [(Value.bool true)] h52) else
                                    (∃ l54 : Sl, rd h52 (Addr.add (Addr.mk (Array.size h42) 0 none) 1) = some (Value.slice l54.a l54.n l54.c) ∧
                                      S_liverykeep_Ints ⟨l38.a, l38.n, l38.c⟩ ⟨l54.a, l54.n, l54.c⟩ h52 fun (vs55 : List Value) (h56 : Hp) =>
                                      ∃ b57 : Bool, vs55 = [(Value.bool b57)] ∧
                                      (if (!b57) = true then (J47 [(Value.bool true)] h56) else
                                        (∃ s58 : ByteArray, rd h56 (Addr.add (Addr.mk (Array.size h20) 0 none) 1) = some (Value.string s58) ∧
                                          ∃ s59 : ByteArray, rd h56 (Addr.add (Addr.mk (Array.size h20) 0 none) 1) = some (Value.string s59) ∧
                                          S_leaf_Leaves_Has p3 s58 h56 fun (vs60 : List Value) (h61 : Hp) =>
                                          ∃ b62 : Bool, vs60 = [(Value.bool b62)] ∧
                                          rd h61 (Addr.add (Addr.mk (Array.size h20) 0 none) 1) = some (Value.string s59) ∧ S_liveryref10_Leaves_Has p7 s59 h61 fun (vs63 : List Value) (h64 : Hp) =>
                                          ∃ b65 : Bool, vs63 = [(Value.bool b65)] ∧
                                          (if (!(b62 == b65)) = true then (J47 [(Value.bool true)] h64) else
                                            (∃ s66 : ByteArray, rd h64 (Addr.add (Addr.mk (Array.size h20) 0 none) 1) = some (Value.string s66) ∧
                                              ∃ s67 : ByteArray, rd h64 (Addr.add (Addr.mk (Array.size h20) 0 none) 1) = some (Value.string s67) ∧
                                              S_leaf_Leaves_Of p3 s66 h64 fun (vs68 : List Value) (h69 : Hp) =>
                                              ∃ n70 : Int, vs68 = [(Value.int .i64 n70)] ∧
                                              rd h69 (Addr.add (Addr.mk (Array.size h20) 0 none) 1) = some (Value.string s67) ∧ S_liveryref10_Leaves_Of p7 s67 h69 fun (vs71 : List Value) (h72 : Hp) =>
                                              ∃ n73 : Int, vs71 = [(Value.int .i64 n73)] ∧
                                              (if (n70 != n73) = true then (J47 [(Value.bool true)] h72) else
                                                (S_leaf_Leaves_All p3 h72 fun (vs74 : List Value) (h75 : Hp) =>
                                                  ∃ l76 : Sl, vs74 = [(Value.slice l76.a l76.n l76.c)] ∧
                                                  S_liveryref10_Leaves_All p7 h75 fun (vs77 : List Value) (h78 : Hp) =>
                                                  ∃ l79 : Sl, vs77 = [(Value.slice l79.a l79.n l79.c)] ∧
                                                  S_liverykeep_Ints ⟨l76.a, l76.n, l76.c⟩ ⟨l79.a, l79.n, l79.c⟩ h78 fun (vs80 : List Value) (h81 : Hp) =>
                                                  ∃ b82 : Bool, vs80 = [(Value.bool b82)] ∧
                                                  (if (!b82) = true then (J47 [(Value.bool true)] h81) else
                                                    (S_leaf_Leaves_Len p3 h81 fun (vs83 : List Value) (h84 : Hp) =>
                                                      ∃ n85 : Int, vs83 = [(Value.int .i64 n85)] ∧
                                                      S_liveryref10_Leaves_Len p7 h84 fun (vs86 : List Value) (h87 : Hp) =>
                                                      ∃ n88 : Int, vs86 = [(Value.int .i64 n88)] ∧
                                                      J47 [(Value.bool (n85 != n88))] h87))))))))))) → J31 [] h32) →
                              (if (n30 == (1 : Int)) = true then
                                (∃ s89 : ByteArray, rd h29 (Addr.add (Addr.mk (Array.size h20) 0 none) 1) = some (Value.string s89) ∧
                                  S_leaf_Leaves_Remove p3 s89 h29 fun (vs90 : List Value) (h91 : Hp) =>
                                  ∃ n92 : Int, ∃ n93 : Int, ∃ n94 : Int, ∃ n95 : Int, vs90 = [(Value.int .i64 n92), (Value.agg #[(Value.int .i64 n93), (Value.int .i64 n94)]), (Value.int .i64 n95)] ∧
                                  wth (Array.push h91 (Obj.cells #[(Value.int .i64 (0 : Int)), (Value.int .i64 (0 : Int))] T_leaf_Move)) fun h96 =>
                                  stOk h96 (Addr.mk (Array.size h91) 0 none) 2 ∧ wth (wrs h96 (Addr.mk (Array.size h91) 0 none) 0 [(Value.int .i64 n93), (Value.int .i64 n94)]) fun h97 =>
                                  ∃ s98 : ByteArray, rd h97 (Addr.add (Addr.mk (Array.size h20) 0 none) 1) = some (Value.string s98) ∧
                                  S_liveryref10_Leaves_Remove p7 s98 h97 fun (vs99 : List Value) (h100 : Hp) =>
                                  ∃ n101 : Int, ∃ n102 : Int, ∃ n103 : Int, ∃ n104 : Int, vs99 = [(Value.agg #[(Value.int .i64 n101), (Value.int .i64 n102), (Value.int .i64 n103), (Value.int .i64 n104)])] ∧
                                  wth (Array.push h100 (Obj.cells #[(Value.int .i64 (0 : Int)), (Value.int .i64 (0 : Int)), (Value.int .i64 (0 : Int)), (Value.int .i64 (0 : Int))] T_liveryref10_Did)) fun h105 =>
                                  stOk h105 (Addr.mk (Array.size h100) 0 none) 4 ∧ wth (wrs h105 (Addr.mk (Array.size h100) 0 none) 0 [(Value.int .i64 n101), (Value.int .i64 n102), (Value.int .i64 n103), (Value.int .i64 n104)]) fun h106 =>
                                  ∀ J107 : List Value → Hp → Prop, (∀ b108 : Bool, ∀ h109 : Hp, ((if b108 = true then
                                        (Q [(Value.bool false)] h109) else
                                        (J31 [] h109))) → J107 [(Value.bool b108)] h109) →
                                  ∃ n110 : Int, rd h106 (Addr.add (Addr.mk (Array.size h100) 0 none) 0) = some (Value.int .i64 n110) ∧
                                  (if (n92 != n110) = true then (J107 [(Value.bool true)] h106) else
                                    (∃ n111 : Int, rd h106 (Addr.add (Addr.mk (Array.size h91) 0 none) 0) = some (Value.int .i64 n111) ∧
                                      ∃ n112 : Int, rd h106 (Addr.add (Addr.mk (Array.size h100) 0 none) 1) = some (Value.int .i64 n112) ∧
                                      (if (n111 != n112) = true then (J107 [(Value.bool true)] h106) else
                                        (∃ n113 : Int, rd h106 (Addr.add (Addr.mk (Array.size h91) 0 none) 1) = some (Value.int .i64 n113) ∧
                                          ∃ n114 : Int, rd h106 (Addr.add (Addr.mk (Array.size h100) 0 none) 2) = some (Value.int .i64 n114) ∧
                                          (if (n113 != n114) = true then (J107 [(Value.bool true)] h106) else
                                            (∃ n115 : Int, rd h106 (Addr.add (Addr.mk (Array.size h100) 0 none) 3) = some (Value.int .i64 n115) ∧
                                              J107 [(Value.bool (n95 != n115))] h106))))))) else
                                (J31 [] h29))) → J28 [] h29) →
                          (if (n27 == (0 : Int)) = true then
                            (∃ s116 : ByteArray, rd h26 (Addr.add (Addr.mk (Array.size h20) 0 none) 1) = some (Value.string s116) ∧
                              S_leaf_Leaves_Insert p3 s116 h26 fun (vs117 : List Value) (h118 : Hp) =>
                              ∃ n119 : Int, ∃ n120 : Int, ∃ n121 : Int, ∃ n122 : Int, vs117 = [(Value.int .i64 n119), (Value.agg #[(Value.int .i64 n120), (Value.int .i64 n121)]), (Value.int .i64 n122)] ∧
                              wth (Array.push h118 (Obj.cells #[(Value.int .i64 (0 : Int)), (Value.int .i64 (0 : Int))] T_leaf_Move)) fun h123 =>
                              stOk h123 (Addr.mk (Array.size h118) 0 none) 2 ∧ wth (wrs h123 (Addr.mk (Array.size h118) 0 none) 0 [(Value.int .i64 n120), (Value.int .i64 n121)]) fun h124 =>
                              ∃ s125 : ByteArray, rd h124 (Addr.add (Addr.mk (Array.size h20) 0 none) 1) = some (Value.string s125) ∧
                              S_liveryref10_Leaves_Insert p7 s125 h124 fun (vs126 : List Value) (h127 : Hp) =>
                              ∃ n128 : Int, ∃ n129 : Int, ∃ n130 : Int, ∃ n131 : Int, vs126 = [(Value.agg #[(Value.int .i64 n128), (Value.int .i64 n129), (Value.int .i64 n130), (Value.int .i64 n131)])] ∧
                              wth (Array.push h127 (Obj.cells #[(Value.int .i64 (0 : Int)), (Value.int .i64 (0 : Int)), (Value.int .i64 (0 : Int)), (Value.int .i64 (0 : Int))] T_liveryref10_Did)) fun h132 =>
                              stOk h132 (Addr.mk (Array.size h127) 0 none) 4 ∧ wth (wrs h132 (Addr.mk (Array.size h127) 0 none) 0 [(Value.int .i64 n128), (Value.int .i64 n129), (Value.int .i64 n130), (Value.int .i64 n131)]) fun h133 =>
                              ∀ J134 : List Value → Hp → Prop, (∀ b135 : Bool, ∀ h136 : Hp, ((if b135 = true then
                                    (Q [(Value.bool false)] h136) else
                                    (J28 [] h136))) → J134 [(Value.bool b135)] h136) →
                              ∃ n137 : Int, rd h133 (Addr.add (Addr.mk (Array.size h127) 0 none) 0) = some (Value.int .i64 n137) ∧
                              (if (n119 != n137) = true then (J134 [(Value.bool true)] h133) else
                                (∃ n138 : Int, rd h133 (Addr.add (Addr.mk (Array.size h118) 0 none) 0) = some (Value.int .i64 n138) ∧
                                  ∃ n139 : Int, rd h133 (Addr.add (Addr.mk (Array.size h127) 0 none) 1) = some (Value.int .i64 n139) ∧
                                  (if (n138 != n139) = true then (J134 [(Value.bool true)] h133) else
                                    (∃ n140 : Int, rd h133 (Addr.add (Addr.mk (Array.size h118) 0 none) 1) = some (Value.int .i64 n140) ∧
                                      ∃ n141 : Int, rd h133 (Addr.add (Addr.mk (Array.size h127) 0 none) 2) = some (Value.int .i64 n141) ∧
                                      (if (n140 != n141) = true then (J134 [(Value.bool true)] h133) else
                                        (∃ n142 : Int, rd h133 (Addr.add (Addr.mk (Array.size h127) 0 none) 3) = some (Value.int .i64 n142) ∧
                                          J134 [(Value.bool (n122 != n142))] h133))))))) else
                            (J28 [] h26)))) else
                      (∀ X143 : List Value → Hp → Prop, (∀ n144 : Int, ∀ h145 : Hp, (nilW p7 fun a146 => ∃ l147 : Sl, rd h145 (Addr.add a146 0) = some (Value.slice l147.a l147.n l147.c) ∧
                            (if (decide (n144 < (l147.n : Int))) = true then
                              (nilW p7 fun a148 => ∃ l149 : Sl, rd h145 (Addr.add a148 0) = some (Value.slice l149.a l149.n l149.c) ∧
                                nilW l149.a fun a150 => ixOk n144 l149.n (∃ n151 : Int, rd h145 (Addr.add (Addr.add a150 (Int.toNat n144 * 4)) 0) = some (Value.int .i64 n151) ∧
                                  nilW p7 fun a152 => ∃ l153 : Sl, rd h145 (Addr.add a152 0) = some (Value.slice l153.a l153.n l153.c) ∧
                                  nilW l153.a fun a154 => ixOk n144 l153.n (∃ l155 : Sl, rd h145 (Addr.add (Addr.add a154 (Int.toNat n144 * 4)) 3) = some (Value.slice l155.a l155.n l155.c) ∧
                                    S_leaf_Leaves_Keys p3 n151 h145 fun (vs156 : List Value) (h157 : Hp) =>
                                    ∃ l158 : Sl, vs156 = [(Value.slice l158.a l158.n l158.c)] ∧
                                    rd h157 (Addr.add (Addr.add a154 (Int.toNat n144 * 4)) 3) = some (Value.slice l155.a l155.n l155.c) ∧ rd h157 (Addr.add a152 0) = some (Value.slice l153.a l153.n l153.c) ∧ S_liverykeep_Texts ⟨l158.a, l158.n, l158.c⟩ ⟨l155.a, l155.n, l155.c⟩ h157 fun (vs159 : List Value) (h160 : Hp) =>
                                    ∃ b161 : Bool, vs159 = [(Value.bool b161)] ∧
                                    (if (!b161) = true then
                                      (Q [(Value.bool false)] h160) else
                                      (X143 [(Value.int .i64 (IntKind.wrap .i64 (n144 + (1 : Int))))] h160))))) else
                              (S_leaf_Leaves_Keys p3 (-1 : Int) h145 fun (vs162 : List Value) (h163 : Hp) =>
                                ∃ l164 : Sl, vs162 = [(Value.slice l164.a l164.n l164.c)] ∧
                                (if ((l164.n : Int) == (0 : Int)) = true then (S_liverylaw10_wakes  h163 fun (vs165 : List Value) (h166 : Hp) =>
                                    ∃ b167 : Bool, vs165 = [(Value.bool b167)] ∧
                                    Q [(Value.bool b167)] h166) else
                                  (Q [(Value.bool false)] h163))))) → X143 [(Value.int .i64 n144)] h145) →
                        X143 [(Value.int .i64 (0 : Int))] h20))) → X18 [(Value.int .i64 n19)] h20) →
                X18 [(Value.int .i64 (0 : Int))] h14))) → J12 [(Value.bool b13)] h14) →
        (if (Option.isNone p7) = true then (J12 [(Value.bool true)] h11) else
          (S_liverylaw10_fair ⟨g1_l.a, g1_l.n, g1_l.c⟩ h11 fun (vs168 : List Value) (h169 : Hp) =>
            ∃ b170 : Bool, vs168 = [(Value.bool b170)] ∧
            J12 [(Value.bool (!b170))] h169))))) → J9 [(Value.bool b10)] h11) →
(if (n4 != n8) = true then (J9 [(Value.bool true)] h6) else
  (J9 [(Value.bool (!((Option.isNone p3) == (Option.isNone p7))))] h6))
def A_liverylaw10_LeafPlays : Ann := (.mk none ⟨[], []⟩ .nil (.mk none ⟨[], []⟩ .nil (.mk none ⟨[], []⟩ .nil (.mk none ⟨[], []⟩ (.mk none ⟨[], []⟩ (.mk (some ⟨[1, 5, 7], [(42, (.c .bool))]⟩) ⟨[], []⟩ .nil .nil) .nil) (.mk none ⟨[], []⟩ (.mk none ⟨[], []⟩ (.mk (some ⟨[1, 5, 7], [(49, (.c .bool))]⟩) ⟨[], []⟩ .nil .nil) .nil) (.mk none ⟨[], []⟩ (.mk none ⟨[], []⟩ .nil (.mk none ⟨[], []⟩ (.mk none ⟨[1, 5, 7], [(9, (.c (.int .i64)))]⟩ (.mk none ⟨[], []⟩ .nil (.mk none ⟨[], []⟩ (.mk none ⟨[], []⟩ (.mk none ⟨[], []⟩ .nil (.mk none ⟨[], []⟩ (.mk none ⟨[], []⟩ .nil (.mk (some ⟨[1, 5, 7, 9, 10], []⟩) ⟨[], []⟩ (.mk none ⟨[], []⟩ .nil (.mk none ⟨[], []⟩ .nil (.mk none ⟨[], []⟩ (.mk (some ⟨[1, 5, 7, 9, 10], [(99, (.c .bool))]⟩) ⟨[], []⟩ .nil .nil) .nil))) .nil)) (.mk none ⟨[], []⟩ (.mk none ⟨[], []⟩ .nil (.mk (some ⟨[1, 5, 7, 9, 10], []⟩) ⟨[], []⟩ (.mk none ⟨[], []⟩ .nil (.mk none ⟨[], []⟩ .nil (.mk none ⟨[], []⟩ (.mk (some ⟨[1, 5, 7, 9, 10], [(138, (.c .bool))]⟩) ⟨[], []⟩ .nil .nil) .nil))) .nil)) (.mk none ⟨[], []⟩ .nil (.mk none ⟨[], []⟩ .nil (.mk none ⟨[], []⟩ (.mk (some ⟨[1, 5, 7, 9], [(202, (.c .bool))]⟩) ⟨[], []⟩ .nil .nil) .nil)))))) .nil) .nil)) .nil) .nil)) (.mk none ⟨[], []⟩ (.mk none ⟨[], []⟩ .nil (.mk none ⟨[], []⟩ (.mk none ⟨[5, 7], [(22, (.c (.int .i64)))]⟩ .nil .nil) .nil)) .nil)))))))
theorem E_liverylaw10_LeafPlays (g0_fan : Int) (g1_l : Sl) (h : Hp) (Q : List Value → Hp → Prop) : cw PP 239 (fun _ => []) (bodyOf Try.f5) A_liverylaw10_LeafPlays (finQ PP (Try.f5.results.toList) Q) (argFr [(Value.int .i64 g0_fan), (Value.slice g1_l.a g1_l.n g1_l.c)]) h = F_liverylaw10_LeafPlays g0_fan g1_l h Q := by kernel_rfl
theorem O_liverylaw10_LeafPlays (g0_fan : Int) (g1_l : Sl) {h : Hp} {Q : List Value → Hp → Prop} (H : F_liverylaw10_LeafPlays g0_fan g1_l h Q) : S_liverylaw10_LeafPlays g0_fan g1_l h Q :=
  fn_of_cw (hs := (fun _ => [])) (ann := A_liverylaw10_LeafPlays) (args := [(Value.int .i64 g0_fan), (Value.slice g1_l.a g1_l.n g1_l.c)]) mixedPP Try.func5 (c := bodyOf Try.f5) (by kernel_rfl) (by kernel_rfl) (by kernel_rfl) (Eq.mpr (E_liverylaw10_LeafPlays g0_fan g1_l h Q) H)
def F_liverylaw10_LeafOrder (g0_fan : Int) (g1_l : Sl) (h : Hp) (Q : List Value → Hp → Prop) : Prop :=
S_liverykeep_Mod g0_fan (6 : Int) h fun (vs1 : List Value) (h2 : Hp) =>
∃ n3 : Int, vs1 = [(Value.int .i64 n3)] ∧
S_leaf_New (IntKind.wrap .i64 ((2 : Int) + n3)) h2 fun (vs4 : List Value) (h5 : Hp) =>
∃ p6 : Option Addr, ∃ n7 : Int, vs4 = [(Value.pointer p6), (Value.int .i64 n7)] ∧
∀ J8 : List Value → Hp → Prop, (∀ b9 : Bool, ∀ h10 : Hp, ((if b9 = true then
      (∀ J11 : List Value → Hp → Prop, (∀ b12 : Bool, ∀ h13 : Hp, (Q [(Value.bool b12)] h13) → J11 [(Value.bool b12)] h13) →
        (if (n7 == (0 : Int)) = true then (S_liverylaw10_wakes  h10 fun (vs14 : List Value) (h15 : Hp) =>
            ∃ b16 : Bool, vs14 = [(Value.bool b16)] ∧
            J11 [(Value.bool b16)] h15) else
          (J11 [(Value.bool false)] h10))) else
      (∀ X17 : List Value → Hp → Prop, (∀ n18 : Int, ∀ h19 : Hp, ((if (decide (n18 < (g1_l.n : Int))) = true then
              (nilW g1_l.a fun a20 => ixOk n18 g1_l.n (∃ n21 : Int, rd h19 (Addr.add (Addr.add a20 (Int.toNat n18 * 3)) 0) = some (Value.int .i64 n21) ∧ ∃ s22 : ByteArray, rd h19 (Addr.add (Addr.add a20 (Int.toNat n18 * 3)) 1) = some (Value.string s22) ∧ ∃ s23 : ByteArray, rd h19 (Addr.add (Addr.add a20 (Int.toNat n18 * 3)) 2) = some (Value.string s23) ∧ S_liverylaw10_do p6 n21 s22 s23 h19 fun (vs24 : List Value) (h25 : Hp) =>
                  ∃ n26 : Int, ∃ n27 : Int, ∃ n28 : Int, ∃ n29 : Int, vs24 = [(Value.int .i64 n26), (Value.agg #[(Value.int .i64 n27), (Value.int .i64 n28)]), (Value.int .i64 n29)] ∧
                  X17 [(Value.int .i64 (IntKind.wrap .i64 (n18 + (1 : Int))))] h25)) else
              (S_leaf_Leaves_All p6 h19 fun (vs30 : List Value) (h31 : Hp) =>
                ∃ l32 : Sl, vs30 = [(Value.slice l32.a l32.n l32.c)] ∧
                ∀ X33 : List Value → Hp → Prop, (∀ s34 : ByteArray, ∀ n35 : Int, ∀ n36 : Int, ∀ h37 : Hp, ((if (decide (n36 < (l32.n : Int))) = true then
                      (nilW l32.a fun a38 => ixOk n36 l32.n (∃ n39 : Int, rd h37 (Addr.add a38 (Int.toNat n36 * 1)) = some (Value.int .i64 n39) ∧
                          S_leaf_Leaves_Keys p6 n39 h37 fun (vs40 : List Value) (h41 : Hp) =>
                          ∃ l42 : Sl, vs40 = [(Value.slice l42.a l42.n l42.c)] ∧
                          ∀ J43 : List Value → Hp → Prop, (∀ b44 : Bool, ∀ h45 : Hp, ((if b44 = true then
                                (Q [(Value.bool false)] h45) else
                                (∀ X46 : List Value → Hp → Prop, (∀ s47 : ByteArray, ∀ n48 : Int, ∀ n49 : Int, ∀ h50 : Hp, ((if (decide (n49 < (l42.n : Int))) = true then
                                        (∀ J51 : List Value → Hp → Prop, (∀ b52 : Bool, ∀ h53 : Hp, ((if b52 = true then
                                                (Q [(Value.bool false)] h53) else
                                                (nilW l42.a fun a54 => ixOk n49 l42.n (∃ s55 : ByteArray, rd h53 (Addr.add a54 (Int.toNat n49 * 1)) = some (Value.string s55) ∧
                                                    X46 [(Value.string s55), (Value.int .i64 (IntKind.wrap .i64 (n48 + (1 : Int)))), (Value.int .i64 (IntKind.wrap .i64 (n49 + (1 : Int))))] h53)))) → J51 [(Value.bool b52)] h53) →
                                          (if (decide (n48 > (0 : Int))) = true then (nilW l42.a fun a56 => ixOk n49 l42.n (∃ s57 : ByteArray, rd h50 (Addr.add a56 (Int.toNat n49 * 1)) = some (Value.string s57) ∧
                                                (if (Op.bytesLess (ByteArray.toList s57) (ByteArray.toList s47) || (ByteArray.toList s57) == (ByteArray.toList s47)) = true then (J51 [(Value.bool true)] h50) else
                                                  (nilW l42.a fun a58 => ixOk n49 l42.n (∃ s59 : ByteArray, rd h50 (Addr.add a58 (Int.toNat n49 * 1)) = some (Value.string s59) ∧
                                                      nilW l32.a fun a60 => ixOk n36 l32.n (∃ n61 : Int, rd h50 (Addr.add a60 (Int.toNat n36 * 1)) = some (Value.int .i64 n61) ∧
                                                        S_leaf_Leaves_Of p6 s59 h50 fun (vs62 : List Value) (h63 : Hp) =>
                                                        ∃ n64 : Int, vs62 = [(Value.int .i64 n64)] ∧
                                                        rd h63 (Addr.add a60 (Int.toNat n36 * 1)) = some (Value.int .i64 n61) ∧ (if (n64 != n61) = true then (J51 [(Value.bool true)] h63) else
                                                          (nilW l42.a fun a65 => ixOk n49 l42.n (∃ s66 : ByteArray, rd h63 (Addr.add a65 (Int.toNat n49 * 1)) = some (Value.string s66) ∧
                                                            S_leaf_Leaves_Has p6 s66 h63 fun (vs67 : List Value) (h68 : Hp) =>
                                                            ∃ b69 : Bool, vs67 = [(Value.bool b69)] ∧
                                                            J51 [(Value.bool (!b69))] h68))))))))) else
                                            (nilW l42.a fun a70 => ixOk n49 l42.n (∃ s71 : ByteArray, rd h50 (Addr.add a70 (Int.toNat n49 * 1)) = some (Value.string s71) ∧
                                                nilW l32.a fun a72 => ixOk n36 l32.n (∃ n73 : Int, rd h50 (Addr.add a72 (Int.toNat n36 * 1)) = some (Value.int .i64 n73) ∧
                                                  S_leaf_Leaves_Of p6 s71 h50 fun (vs74 : List Value) (h75 : Hp) =>
                                                  ∃ n76 : Int, vs74 = [(Value.int .i64 n76)] ∧
                                                  rd h75 (Addr.add a72 (Int.toNat n36 * 1)) = some (Value.int .i64 n73) ∧ (if (n76 != n73) = true then (J51 [(Value.bool true)] h75) else
                                                    (nilW l42.a fun a77 => ixOk n49 l42.n (∃ s78 : ByteArray, rd h75 (Addr.add a77 (Int.toNat n49 * 1)) = some (Value.string s78) ∧
                                                        S_leaf_Leaves_Has p6 s78 h75 fun (vs79 : List Value) (h80 : Hp) =>
                                                        ∃ b81 : Bool, vs79 = [(Value.bool b81)] ∧
                                                        J51 [(Value.bool (!b81))] h80)))))))) else
                                        (X33 [(Value.string s47), (Value.int .i64 n48), (Value.int .i64 (IntKind.wrap .i64 (n36 + (1 : Int))))] h50))) → X46 [(Value.string s47), (Value.int .i64 n48), (Value.int .i64 n49)] h50) →
                                  X46 [(Value.string s34), (Value.int .i64 n35), (Value.int .i64 (0 : Int))] h45))) → J43 [(Value.bool b44)] h45) →
                          (if (decide ((l42.n : Int) > (IntKind.wrap .i64 ((2 : Int) + n3)))) = true then (J43 [(Value.bool true)] h41) else
                            ((if ((l42.n : Int) == (0 : Int)) = true then (J43 [(Value.bool (decide ((l32.n : Int) > (1 : Int))))] h41) else
                                (J43 [(Value.bool false)] h41)))))) else
                      (S_leaf_Leaves_Len p6 h37 fun (vs82 : List Value) (h83 : Hp) =>
                        ∃ n84 : Int, vs82 = [(Value.int .i64 n84)] ∧
                        (if (n35 == n84) = true then ((if (decide ((l32.n : Int) > (0 : Int))) = true then (S_liverylaw10_wakes  h83 fun (vs85 : List Value) (h86 : Hp) =>
                                ∃ b87 : Bool, vs85 = [(Value.bool b87)] ∧
                                Q [(Value.bool b87)] h86) else
                              (Q [(Value.bool false)] h83))) else
                          (Q [(Value.bool false)] h83))))) → X33 [(Value.string s34), (Value.int .i64 n35), (Value.int .i64 n36)] h37) →
                X33 [(Value.string (ByteArray.mk #[])), (Value.int .i64 (0 : Int)), (Value.int .i64 (0 : Int))] h31))) → X17 [(Value.int .i64 n18)] h19) →
        X17 [(Value.int .i64 (0 : Int))] h10))) → J8 [(Value.bool b9)] h10) →
(if (n7 != (0 : Int)) = true then (J8 [(Value.bool true)] h5) else
  (S_liverylaw10_fair ⟨g1_l.a, g1_l.n, g1_l.c⟩ h5 fun (vs88 : List Value) (h89 : Hp) =>
    ∃ b90 : Bool, vs88 = [(Value.bool b90)] ∧
    J8 [(Value.bool (!b90))] h89))
def A_liverylaw10_LeafOrder : Ann := (.mk none ⟨[], []⟩ .nil (.mk none ⟨[], []⟩ .nil (.mk none ⟨[], []⟩ .nil (.mk none ⟨[], []⟩ (.mk none ⟨[], []⟩ (.mk (some ⟨[1, 5, 6, 7], [(29, (.c .bool))]⟩) ⟨[], []⟩ .nil .nil) (.mk none ⟨[], []⟩ (.mk none ⟨[], []⟩ (.mk (some ⟨[], [(4, (.c .bool))]⟩) ⟨[], []⟩ .nil .nil) .nil) .nil)) (.mk none ⟨[], []⟩ (.mk none ⟨[], []⟩ .nil (.mk none ⟨[], []⟩ (.mk none ⟨[1, 5, 6], [(8, (.c (.int .i64)))]⟩ .nil .nil) .nil)) (.mk none ⟨[], []⟩ .nil (.mk none ⟨[], []⟩ .nil (.mk none ⟨[], []⟩ (.mk none ⟨[], []⟩ .nil (.mk none ⟨[], []⟩ (.mk none ⟨[5, 6, 9], [(10, (.c .str)), (11, (.c (.int .i64))), (12, (.c (.int .i64)))]⟩ (.mk none ⟨[], []⟩ .nil (.mk none ⟨[], []⟩ (.mk none ⟨[], []⟩ (.mk none ⟨[], []⟩ .nil (.mk none ⟨[], []⟩ (.mk none ⟨[], []⟩ (.mk (some ⟨[5, 6, 9, 10, 11, 12, 13], [(74, (.c .bool))]⟩) ⟨[], []⟩ .nil .nil) .nil) (.mk none ⟨[], []⟩ .nil (.mk none ⟨[], []⟩ (.mk none ⟨[5, 6, 9, 12, 13], [(10, (.c .str)), (11, (.c (.int .i64))), (14, (.c (.int .i64)))]⟩ (.mk none ⟨[], []⟩ .nil (.mk none ⟨[], []⟩ (.mk none ⟨[], []⟩ (.mk none ⟨[], []⟩ (.mk none ⟨[], []⟩ (.mk (some ⟨[5, 6, 9, 11, 12, 13, 14], [(112, (.c .bool))]⟩) ⟨[], []⟩ .nil .nil) .nil) .nil) .nil) .nil)) .nil) .nil)))) .nil) .nil)) .nil) .nil)) .nil))))))))
theorem E_liverylaw10_LeafOrder (g0_fan : Int) (g1_l : Sl) (h : Hp) (Q : List Value → Hp → Prop) : cw PP 131 (fun _ => []) (bodyOf Try.f6) A_liverylaw10_LeafOrder (finQ PP (Try.f6.results.toList) Q) (argFr [(Value.int .i64 g0_fan), (Value.slice g1_l.a g1_l.n g1_l.c)]) h = F_liverylaw10_LeafOrder g0_fan g1_l h Q := by kernel_rfl
theorem O_liverylaw10_LeafOrder (g0_fan : Int) (g1_l : Sl) {h : Hp} {Q : List Value → Hp → Prop} (H : F_liverylaw10_LeafOrder g0_fan g1_l h Q) : S_liverylaw10_LeafOrder g0_fan g1_l h Q :=
  fn_of_cw (hs := (fun _ => [])) (ann := A_liverylaw10_LeafOrder) (args := [(Value.int .i64 g0_fan), (Value.slice g1_l.a g1_l.n g1_l.c)]) mixedPP Try.func6 (c := bodyOf Try.f6) (by kernel_rfl) (by kernel_rfl) (by kernel_rfl) (Eq.mpr (E_liverylaw10_LeafOrder g0_fan g1_l h Q) H)
def F_liverylaw10_LeafNone (g0_k : ByteArray) (h : Hp) (Q : List Value → Hp → Prop) : Prop :=
(if (decide ((ByteArray.size g0_k : Int) > (2000 : Int))) = true then
  (S_liverylaw10_wakes  h fun (vs1 : List Value) (h2 : Hp) =>
    ∃ b3 : Bool, vs1 = [(Value.bool b3)] ∧
    Q [(Value.bool b3)] h2) else
  (S_leaf_Leaves_Insert none g0_k h fun (vs4 : List Value) (h5 : Hp) =>
    ∃ n6 : Int, ∃ n7 : Int, ∃ n8 : Int, ∃ n9 : Int, vs4 = [(Value.int .i64 n6), (Value.agg #[(Value.int .i64 n7), (Value.int .i64 n8)]), (Value.int .i64 n9)] ∧
    wth (Array.push h5 (Obj.cells #[(Value.int .i64 (0 : Int)), (Value.int .i64 (0 : Int))] T_leaf_Move)) fun h10 =>
    stOk h10 (Addr.mk (Array.size h5) 0 none) 2 ∧ wth (wrs h10 (Addr.mk (Array.size h5) 0 none) 0 [(Value.int .i64 n7), (Value.int .i64 n8)]) fun h11 =>
    S_leaf_Leaves_Remove none g0_k h11 fun (vs12 : List Value) (h13 : Hp) =>
    ∃ n14 : Int, ∃ n15 : Int, ∃ n16 : Int, ∃ n17 : Int, vs12 = [(Value.int .i64 n14), (Value.agg #[(Value.int .i64 n15), (Value.int .i64 n16)]), (Value.int .i64 n17)] ∧
    wth (Array.push h13 (Obj.cells #[(Value.int .i64 (0 : Int)), (Value.int .i64 (0 : Int))] T_leaf_Move)) fun h18 =>
    stOk h18 (Addr.mk (Array.size h13) 0 none) 2 ∧ wth (wrs h18 (Addr.mk (Array.size h13) 0 none) 0 [(Value.int .i64 n15), (Value.int .i64 n16)]) fun h19 =>
    S_leaf_Leaves_Range none g0_k (ByteArray.mk #[]) h19 fun (vs20 : List Value) (h21 : Hp) =>
    ∃ l22 : Sl, ∃ l23 : Sl, vs20 = [(Value.slice l22.a l22.n l22.c), (Value.slice l23.a l23.n l23.c)] ∧
    (if (n6 == (0 : Int)) = true then (∃ n24 : Int, rd h21 (Addr.add (Addr.mk (Array.size h5) 0 none) 1) = some (Value.int .i64 n24) ∧
        (if (n24 == (0 : Int)) = true then ((if (n9 == (1 : Int)) = true then ((if (n14 == (0 : Int)) = true then (∃ n25 : Int, rd h21 (Addr.add (Addr.mk (Array.size h13) 0 none) 1) = some (Value.int .i64 n25) ∧
                    (if (n25 == (0 : Int)) = true then ((if (n17 == (1 : Int)) = true then ((if ((l22.n : Int) == (0 : Int)) = true then ((if ((l23.n : Int) == (0 : Int)) = true then (S_leaf_Leaves_Has none g0_k h21 fun (vs26 : List Value) (h27 : Hp) =>
                                    ∃ b28 : Bool, vs26 = [(Value.bool b28)] ∧
                                    (if (!b28) = true then (S_leaf_Leaves_Of none g0_k h27 fun (vs29 : List Value) (h30 : Hp) =>
                                        ∃ n31 : Int, vs29 = [(Value.int .i64 n31)] ∧
                                        (if (n31 == (0 : Int)) = true then (S_leaf_Leaves_All none h30 fun (vs32 : List Value) (h33 : Hp) =>
                                            ∃ l34 : Sl, vs32 = [(Value.slice l34.a l34.n l34.c)] ∧
                                            (if ((l34.n : Int) == (0 : Int)) = true then (S_leaf_Leaves_Keys none (1 : Int) h33 fun (vs35 : List Value) (h36 : Hp) =>
                                                ∃ l37 : Sl, vs35 = [(Value.slice l37.a l37.n l37.c)] ∧
                                                (if ((l37.n : Int) == (0 : Int)) = true then (S_leaf_Leaves_Len none h36 fun (vs38 : List Value) (h39 : Hp) =>
                                                    ∃ n40 : Int, vs38 = [(Value.int .i64 n40)] ∧
                                                    (if (n40 == (0 : Int)) = true then (S_liverylaw10_wakes  h39 fun (vs41 : List Value) (h42 : Hp) =>
                                                        ∃ b43 : Bool, vs41 = [(Value.bool b43)] ∧
                                                        Q [(Value.bool b43)] h42) else
                                                      (Q [(Value.bool false)] h39))) else
                                                  (Q [(Value.bool false)] h36))) else
                                              (Q [(Value.bool false)] h33))) else
                                          (Q [(Value.bool false)] h30))) else
                                      (Q [(Value.bool false)] h27))) else
                                  (Q [(Value.bool false)] h21))) else
                              (Q [(Value.bool false)] h21))) else
                          (Q [(Value.bool false)] h21))) else
                      (Q [(Value.bool false)] h21))) else
                  (Q [(Value.bool false)] h21))) else
              (Q [(Value.bool false)] h21))) else
          (Q [(Value.bool false)] h21))) else
      (Q [(Value.bool false)] h21))))
def A_liverylaw10_LeafNone : Ann := .nil
theorem E_liverylaw10_LeafNone (g0_k : ByteArray) (h : Hp) (Q : List Value → Hp → Prop) : cw PP 102 (fun _ => []) (bodyOf Try.f7) A_liverylaw10_LeafNone (finQ PP (Try.f7.results.toList) Q) (argFr [(Value.string g0_k)]) h = F_liverylaw10_LeafNone g0_k h Q := by kernel_rfl
theorem O_liverylaw10_LeafNone (g0_k : ByteArray) {h : Hp} {Q : List Value → Hp → Prop} (H : F_liverylaw10_LeafNone g0_k h Q) : S_liverylaw10_LeafNone g0_k h Q :=
  fn_of_cw (hs := (fun _ => [])) (ann := A_liverylaw10_LeafNone) (args := [(Value.string g0_k)]) mixedPP Try.func7 (c := bodyOf Try.f7) (by kernel_rfl) (by kernel_rfl) (by kernel_rfl) (Eq.mpr (E_liverylaw10_LeafNone g0_k h Q) H)
def F_leaf_Leaves_Keys_1 (g0_y : Option Addr) (g1_x : Addr) (h : Hp) (Q : List Value → Hp → Prop) : Prop :=
nilW g0_y fun a1 => ∃ n2 : Int, rd h (Addr.add a1 0) = some (Value.int .i64 n2) ∧
∃ n3 : Int, rd h g1_x = some (Value.int .i64 n3) ∧
Q [(Value.bool (n2 == n3))] h
def A_leaf_Leaves_Keys_1 : Ann := .nil
theorem E_leaf_Leaves_Keys_1 (g0_y : Option Addr) (g1_x : Addr) (h : Hp) (Q : List Value → Hp → Prop) : cw PP 10 (fun _ => []) (bodyOf Try.f38) A_leaf_Leaves_Keys_1 (finQ PP (Try.f38.results.toList) Q) (argFr [(Value.pointer g0_y), (Value.pointer (some g1_x))]) h = F_leaf_Leaves_Keys_1 g0_y g1_x h Q := by kernel_rfl
theorem O_leaf_Leaves_Keys_1 (g0_y : Option Addr) (g1_x : Addr) {h : Hp} {Q : List Value → Hp → Prop} (H : F_leaf_Leaves_Keys_1 g0_y g1_x h Q) : S_leaf_Leaves_Keys_1 g0_y g1_x h Q :=
  fn_of_cw (hs := (fun _ => [])) (ann := A_leaf_Leaves_Keys_1) (args := [(Value.pointer g0_y), (Value.pointer (some g1_x))]) mixedPP Try.func38 (c := bodyOf Try.f38) (by kernel_rfl) (by kernel_rfl) (by kernel_rfl) (Eq.mpr (E_leaf_Leaves_Keys_1 g0_y g1_x h Q) H)
end Go.Lift

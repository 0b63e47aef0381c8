/- Printed by lift.py: each Go function of this seat as a Prop over the heap, and that the Go code comes to it. -/
import Derived.Test.YtdfehndegjmngaaLvL
import Derived.Test.YtdfehndegjmngaaProg
set_option linter.unusedSimpArgs false
set_option linter.unusedVariables false
namespace Go.Lift
open Go Go.Proofs
set_option maxRecDepth 100000
noncomputable abbrev PP : Program := Try.prog
theorem mixedPP : PP.follows .mixedOrders = true := by kernel_rfl
def bodyOf (f : Func) : Code := f.body.getD .skip
abbrev T_int : TypeId := 3
abbrev T_sint : TypeId := 28
abbrev T_2_int : TypeId := 31
abbrev T_map_int_sint : TypeId := 36
abbrev T_map_int_int : TypeId := 39
abbrev T_slices_xorshift : TypeId := 66
/-- main.main -/
def S_main_main (h : Hp) (Q : List Value → Hp → Prop) : Prop := Fn PP 0 #[] h Q
/-- gosem.cut -/
def S_gosem_cut (h : Hp) (Q : List Value → Hp → Prop) : Prop := Fn PP 1 #[] h Q
/-- gosem.cut.init -/
def S_gosem_cut_init (h : Hp) (Q : List Value → Hp → Prop) : Prop := Fn PP 2 #[] h Q
/-- livery/wait.graph -/
def S_wait_graph (g0_l : Sl) (h : Hp) (Q : List Value → Hp → Prop) : Prop := Fn PP 16 #[(Value.slice g0_l.a g0_l.n g0_l.c)] h Q
/-- livery/wait.reach -/
def S_wait_reach (g0_g : Option Nat) (g1_from : Int) (h : Hp) (Q : List Value → Hp → Prop) : Prop := Fn PP 17 #[(Value.map g0_g), (Value.int .i64 g1_from)] h Q
/-- slices.AppendSeq[[]int,int] -/
def S_slices_AppendSeq_sint_int (g0_s : Sl) (g1_seq_f : Nat) (g1_seq_c : Array Value) (h : Hp) (Q : List Value → Hp → Prop) : Prop := Fn PP 28 #[(Value.slice g0_s.a g0_s.n g0_s.c), (Value.func (.func g1_seq_f) #[] g1_seq_c)] h Q
/-- slices.Collect[int] -/
def S_slices_Collect_int (g0_seq_f : Nat) (g0_seq_c : Array Value) (h : Hp) (Q : List Value → Hp → Prop) : Prop := Fn PP 24 #[(Value.func (.func g0_seq_f) #[] g0_seq_c)] h Q
/-- cmp.isNaN[int] -/
def S_cmp_isNaN_int (g0_x : Int) (h : Hp) (Q : List Value → Hp → Prop) : Prop := Fn PP 47 #[(Value.int .i64 g0_x)] h Q
/-- cmp.Less[int] -/
def S_cmp_Less_int (g0_x : Int) (g1_y : Int) (h : Hp) (Q : List Value → Hp → Prop) : Prop := Fn PP 37 #[(Value.int .i64 g0_x), (Value.int .i64 g1_y)] h Q
/-- slices.insertionSortOrdered[int] -/
def S_slices_insertionSortOrdered_int (g0_data : Sl) (g1_a : Int) (g2_b : Int) (h : Hp) (Q : List Value → Hp → Prop) : Prop := Fn PP 31 #[(Value.slice g0_data.a g0_data.n g0_data.c), (Value.int .i64 g1_a), (Value.int .i64 g2_b)] h Q
/-- slices.siftDownOrdered[int] -/
def S_slices_siftDownOrdered_int (g0_data : Sl) (g1_lo : Int) (g2_hi : Int) (g3_first : Int) (h : Hp) (Q : List Value → Hp → Prop) : Prop := Fn PP 42 #[(Value.slice g0_data.a g0_data.n g0_data.c), (Value.int .i64 g1_lo), (Value.int .i64 g2_hi), (Value.int .i64 g3_first)] h Q
/-- slices.heapSortOrdered[int] -/
def S_slices_heapSortOrdered_int (g0_data : Sl) (g1_a : Int) (g2_b : Int) (h : Hp) (Q : List Value → Hp → Prop) : Prop := Fn PP 32 #[(Value.slice g0_data.a g0_data.n g0_data.c), (Value.int .i64 g1_a), (Value.int .i64 g2_b)] h Q
/-- math/bits.Len64 -/
def S_math_bits_Len64 (g0_x : Int) (h : Hp) (Q : List Value → Hp → Prop) : Prop := Fn PP 41 #[(Value.int .u64 g0_x)] h Q
/-- math/bits.Len -/
def S_math_bits_Len (g0_x : Int) (h : Hp) (Q : List Value → Hp → Prop) : Prop := Fn PP 30 #[(Value.int .u64 g0_x)] h Q
/-- slices.nextPowerOfTwo -/
def S_slices_nextPowerOfTwo (g0_length : Int) (h : Hp) (Q : List Value → Hp → Prop) : Prop := Fn PP 43 #[(Value.int .i64 g0_length)] h Q
/-- (*slices.xorshift).Next -/
def S_slices_xorshift_Next (g0_r : Option Addr) (h : Hp) (Q : List Value → Hp → Prop) : Prop := Fn PP 44 #[(Value.pointer g0_r)] h Q
/-- slices.breakPatternsOrdered[int] -/
def S_slices_breakPatternsOrdered_int (g0_data : Sl) (g1_a : Int) (g2_b : Int) (h : Hp) (Q : List Value → Hp → Prop) : Prop := Fn PP 33 #[(Value.slice g0_data.a g0_data.n g0_data.c), (Value.int .i64 g1_a), (Value.int .i64 g2_b)] h Q
/-- slices.order2Ordered[int] -/
def S_slices_order2Ordered_int (g0_data : Sl) (g1_a : Int) (g2_b : Int) (g3_swaps : Option Addr) (h : Hp) (Q : List Value → Hp → Prop) : Prop := Fn PP 48 #[(Value.slice g0_data.a g0_data.n g0_data.c), (Value.int .i64 g1_a), (Value.int .i64 g2_b), (Value.pointer g3_swaps)] h Q
/-- slices.medianOrdered[int] -/
def S_slices_medianOrdered_int (g0_data : Sl) (g1_a : Int) (g2_b : Int) (g3_c : Int) (g4_swaps : Option Addr) (h : Hp) (Q : List Value → Hp → Prop) : Prop := Fn PP 46 #[(Value.slice g0_data.a g0_data.n g0_data.c), (Value.int .i64 g1_a), (Value.int .i64 g2_b), (Value.int .i64 g3_c), (Value.pointer g4_swaps)] h Q
/-- slices.medianAdjacentOrdered[int] -/
def S_slices_medianAdjacentOrdered_int (g0_data : Sl) (g1_a : Int) (g2_swaps : Option Addr) (h : Hp) (Q : List Value → Hp → Prop) : Prop := Fn PP 45 #[(Value.slice g0_data.a g0_data.n g0_data.c), (Value.int .i64 g1_a), (Value.pointer g2_swaps)] h Q
/-- slices.choosePivotOrdered[int] -/
def S_slices_choosePivotOrdered_int (g0_data : Sl) (g1_a : Int) (g2_b : Int) (h : Hp) (Q : List Value → Hp → Prop) : Prop := Fn PP 34 #[(Value.slice g0_data.a g0_data.n g0_data.c), (Value.int .i64 g1_a), (Value.int .i64 g2_b)] h Q
/-- slices.reverseRangeOrdered[int] -/
def S_slices_reverseRangeOrdered_int (g0_data : Sl) (g1_a : Int) (g2_b : Int) (h : Hp) (Q : List Value → Hp → Prop) : Prop := Fn PP 35 #[(Value.slice g0_data.a g0_data.n g0_data.c), (Value.int .i64 g1_a), (Value.int .i64 g2_b)] h Q
/-- slices.partialInsertionSortOrdered[int] -/
def S_slices_partialInsertionSortOrdered_int (g0_data : Sl) (g1_a : Int) (g2_b : Int) (h : Hp) (Q : List Value → Hp → Prop) : Prop := Fn PP 36 #[(Value.slice g0_data.a g0_data.n g0_data.c), (Value.int .i64 g1_a), (Value.int .i64 g2_b)] h Q
/-- slices.partitionEqualOrdered[int] -/
def S_slices_partitionEqualOrdered_int (g0_data : Sl) (g1_a : Int) (g2_b : Int) (g3_pivot : Int) (h : Hp) (Q : List Value → Hp → Prop) : Prop := Fn PP 38 #[(Value.slice g0_data.a g0_data.n g0_data.c), (Value.int .i64 g1_a), (Value.int .i64 g2_b), (Value.int .i64 g3_pivot)] h Q
/-- slices.partitionOrdered[int] -/
def S_slices_partitionOrdered_int (g0_data : Sl) (g1_a : Int) (g2_b : Int) (g3_pivot : Int) (h : Hp) (Q : List Value → Hp → Prop) : Prop := Fn PP 39 #[(Value.slice g0_data.a g0_data.n g0_data.c), (Value.int .i64 g1_a), (Value.int .i64 g2_b), (Value.int .i64 g3_pivot)] h Q
/-- slices.pdqsortOrdered[int] -/
def S_slices_pdqsortOrdered_int (g0_data : Sl) (g1_a : Int) (g2_b : Int) (g3_limit : Int) (h : Hp) (Q : List Value → Hp → Prop) : Prop := Fn PP 29 #[(Value.slice g0_data.a g0_data.n g0_data.c), (Value.int .i64 g1_a), (Value.int .i64 g2_b), (Value.int .i64 g3_limit)] h Q
/-- slices.Sort[[]int,int] -/
def S_slices_Sort_sint_int (g0_x : Sl) (h : Hp) (Q : List Value → Hp → Prop) : Prop := Fn PP 25 #[(Value.slice g0_x.a g0_x.n g0_x.c)] h Q
/-- slices.Sorted[int] -/
def S_slices_Sorted_int (g0_seq_f : Nat) (g0_seq_c : Array Value) (h : Hp) (Q : List Value → Hp → Prop) : Prop := Fn PP 18 #[(Value.func (.func g0_seq_f) #[] g0_seq_c)] h Q
/-- maps.Keys[map[int][]int,int,[]int] -/
def S_maps_Keys_map_int_sint_int_sint (g0_m : Option Nat) (h : Hp) (Q : List Value → Hp → Prop) : Prop := Fn PP 19 #[(Value.map g0_m)] h Q
/-- maps.Keys[map[int]int,int,int] -/
def S_maps_Keys_map_int_int_int_int (g0_m : Option Nat) (h : Hp) (Q : List Value → Hp → Prop) : Prop := Fn PP 20 #[(Value.map g0_m)] h Q
/-- livery/wait.Circles -/
def S_wait_Circles (g0_l : Sl) (h : Hp) (Q : List Value → Hp → Prop) : Prop := Fn PP 8 #[(Value.slice g0_l.a g0_l.n g0_l.c)] h Q
/-- livery/liverykeep.Ints -/
def S_liverykeep_Ints (g0_a : Sl) (g1_b : Sl) (h : Hp) (Q : List Value → Hp → Prop) : Prop := Fn PP 10 #[(Value.slice g0_a.a g0_a.n g0_a.c), (Value.slice g1_b.a g1_b.n g1_b.c)] h Q
/-- livery/wait.Victim -/
def S_wait_Victim (g0_l : Sl) (h : Hp) (Q : List Value → Hp → Prop) : Prop := Fn PP 11 #[(Value.slice g0_l.a g0_l.n g0_l.c)] h Q
/-- livery/wait.Free -/
def S_wait_Free (g0_l : Sl) (h : Hp) (Q : List Value → Hp → Prop) : Prop := Fn PP 13 #[(Value.slice g0_l.a g0_l.n g0_l.c)] h Q
/-- livery/liverylaw07.wakes -/
def S_liverylaw07_wakes (h : Hp) (Q : List Value → Hp → Prop) : Prop := Fn PP 6 #[] h Q
/-- livery/liverylaw07.few -/
def S_liverylaw07_few (g0_l : Sl) (h : Hp) (Q : List Value → Hp → Prop) : Prop := Fn PP 7 #[(Value.slice g0_l.a g0_l.n g0_l.c)] h Q
/-- livery/liveryref07.nodes -/
def S_liveryref07_nodes (g0_l : Sl) (h : Hp) (Q : List Value → Hp → Prop) : Prop := Fn PP 21 #[(Value.slice g0_l.a g0_l.n g0_l.c)] h Q
/-- livery/liveryref07.has -/
def S_liveryref07_has (g0_l : Sl) (g1_n : Int) (h : Hp) (Q : List Value → Hp → Prop) : Prop := Fn PP 23 #[(Value.slice g0_l.a g0_l.n g0_l.c), (Value.int .i64 g1_n)] h Q
/-- livery/liveryref07.Reach -/
def S_liveryref07_Reach (g0_l : Sl) (g1_from : Int) (h : Hp) (Q : List Value → Hp → Prop) : Prop := Fn PP 22 #[(Value.slice g0_l.a g0_l.n g0_l.c), (Value.int .i64 g1_from)] h Q
/-- livery/liveryref07.Circles -/
def S_liveryref07_Circles (g0_l : Sl) (h : Hp) (Q : List Value → Hp → Prop) : Prop := Fn PP 9 #[(Value.slice g0_l.a g0_l.n g0_l.c)] h Q
/-- livery/liveryref07.Victim -/
def S_liveryref07_Victim (g0_l : Sl) (h : Hp) (Q : List Value → Hp → Prop) : Prop := Fn PP 12 #[(Value.slice g0_l.a g0_l.n g0_l.c)] h Q
/-- livery/liveryref07.Free -/
def S_liveryref07_Free (g0_l : Sl) (h : Hp) (Q : List Value → Hp → Prop) : Prop := Fn PP 14 #[(Value.slice g0_l.a g0_l.n g0_l.c)] h Q
/-- livery/liverylaw07.WaitTells -/
def S_liverylaw07_WaitTells (g0_l : Sl) (h : Hp) (Q : List Value → Hp → Prop) : Prop := Fn PP 3 #[(Value.slice g0_l.a g0_l.n g0_l.c)] h Q
/-- livery/liverylaw07.WaitEnds -/
def S_liverylaw07_WaitEnds (g0_l : Sl) (h : Hp) (Q : List Value → Hp → Prop) : Prop := Fn PP 4 #[(Value.slice g0_l.a g0_l.n g0_l.c)] h Q
/-- livery/liverykeep.Mod -/
def S_liverykeep_Mod (g0_k : Int) (g1_n : Int) (h : Hp) (Q : List Value → Hp → Prop) : Prop := Fn PP 15 #[(Value.int .i64 g0_k), (Value.int .i64 g1_n)] h Q
/-- livery/liverylaw07.WaitOrder -/
def S_liverylaw07_WaitOrder (g0_l : Sl) (g1_turn : Sl) (h : Hp) (Q : List Value → Hp → Prop) : Prop := Fn PP 5 #[(Value.slice g0_l.a g0_l.n g0_l.c), (Value.slice g1_turn.a g1_turn.n g1_turn.c)] h Q
/-- maps.Keys[map[int][]int,int,[]int]$1 -/
def S_maps_Keys_map_int_sint_int_sint_1 (g0_yield_f : Nat) (g0_yield_c : Array Value) (g1_x : Addr) (h : Hp) (Q : List Value → Hp → Prop) : Prop := Fn PP 26 #[(Value.func (.func g0_yield_f) #[] g0_yield_c), (Value.pointer (some g1_x))] h Q
/-- maps.Keys[map[int]int,int,int]$1 -/
def S_maps_Keys_map_int_int_int_int_1 (g0_yield_f : Nat) (g0_yield_c : Array Value) (g1_x : Addr) (h : Hp) (Q : List Value → Hp → Prop) : Prop := Fn PP 27 #[(Value.func (.func g0_yield_f) #[] g0_yield_c), (Value.pointer (some g1_x))] h Q
/-- math/bits.Len32 -/
def S_math_bits_Len32 (g0_x : Int) (h : Hp) (Q : List Value → Hp → Prop) : Prop := Fn PP 40 #[(Value.int .u32 g0_x)] h Q
/-- (runtime.boundsError).Error -/
def S_runtime_boundsError_Error (g0_x_0 : Int) (g0_x_1 : Int) (g0_x_2 : Bool) (g0_x_3 : Int) (h : Hp) (Q : List Value → Hp → Prop) : Prop := Fn PP 49 #[(Value.agg #[(Value.int .i64 g0_x_0), (Value.int .i64 g0_x_1), (Value.bool g0_x_2), (Value.int .u8 g0_x_3)])] h Q
/-- (runtime.boundsError).RuntimeError -/
def S_runtime_boundsError_RuntimeError (g0_x_0 : Int) (g0_x_1 : Int) (g0_x_2 : Bool) (g0_x_3 : Int) (h : Hp) (Q : List Value → Hp → Prop) : Prop := Fn PP 50 #[(Value.agg #[(Value.int .i64 g0_x_0), (Value.int .i64 g0_x_1), (Value.bool g0_x_2), (Value.int .u8 g0_x_3)])] h Q
/-- (runtime.errorString).Error -/
def S_runtime_errorString_Error (g0_x : ByteArray) (h : Hp) (Q : List Value → Hp → Prop) : Prop := Fn PP 51 #[(Value.string g0_x)] h Q
/-- (runtime.errorString).RuntimeError -/
def S_runtime_errorString_RuntimeError (g0_x : ByteArray) (h : Hp) (Q : List Value → Hp → Prop) : Prop := Fn PP 52 #[(Value.string g0_x)] h Q
/-- (runtime.plainError).Error -/
def S_runtime_plainError_Error (g0_x : ByteArray) (h : Hp) (Q : List Value → Hp → Prop) : Prop := Fn PP 53 #[(Value.string g0_x)] h Q
/-- (runtime.plainError).RuntimeError -/
def S_runtime_plainError_RuntimeError (g0_x : ByteArray) (h : Hp) (Q : List Value → Hp → Prop) : Prop := Fn PP 54 #[(Value.string g0_x)] h Q
/-- (runtime.errorAddressString).Error -/
def S_runtime_errorAddressString_Error (g0_x_0 : ByteArray) (g0_x_1 : Int) (h : Hp) (Q : List Value → Hp → Prop) : Prop := Fn PP 55 #[(Value.agg #[(Value.string g0_x_0), (Value.int .u64 g0_x_1)])] h Q
/-- (runtime.errorAddressString).RuntimeError -/
def S_runtime_errorAddressString_RuntimeError (g0_x_0 : ByteArray) (g0_x_1 : Int) (h : Hp) (Q : List Value → Hp → Prop) : Prop := Fn PP 56 #[(Value.agg #[(Value.string g0_x_0), (Value.int .u64 g0_x_1)])] h Q
/-- (*runtime.TypeAssertionError).Error -/
def S_runtime_TypeAssertionError_Error (g0_x : Option Addr) (h : Hp) (Q : List Value → Hp → Prop) : Prop := Fn PP 57 #[(Value.pointer g0_x)] h Q
/-- (*runtime.TypeAssertionError).RuntimeError -/
def S_runtime_TypeAssertionError_RuntimeError (g0_x : Option Addr) (h : Hp) (Q : List Value → Hp → Prop) : Prop := Fn PP 58 #[(Value.pointer g0_x)] h Q
/-- (*runtime.PanicNilError).Error -/
def S_runtime_PanicNilError_Error (g0_x : Option Addr) (h : Hp) (Q : List Value → Hp → Prop) : Prop := Fn PP 59 #[(Value.pointer g0_x)] h Q
/-- (*runtime.PanicNilError).RuntimeError -/
def S_runtime_PanicNilError_RuntimeError (g0_x : Option Addr) (h : Hp) (Q : List Value → Hp → Prop) : Prop := Fn PP 60 #[(Value.pointer g0_x)] h Q
/-- (*internal/abi.Type).Align -/
def S_internal_abi_Type_Align (g0_x : Option Addr) (h : Hp) (Q : List Value → Hp → Prop) : Prop := Fn PP 61 #[(Value.pointer g0_x)] h Q
/-- (internal/runtime/maps.unhashableTypeError).Error -/
def S_internal_runtime_maps_unhashableTypeError_Error (g0_x_0 : Option Addr) (h : Hp) (Q : List Value → Hp → Prop) : Prop := Fn PP 62 #[(Value.agg #[(Value.pointer g0_x_0)])] h Q
/-- (internal/runtime/maps.unhashableTypeError).RuntimeError -/
def S_internal_runtime_maps_unhashableTypeError_RuntimeError (g0_x_0 : Option Addr) (h : Hp) (Q : List Value → Hp → Prop) : Prop := Fn PP 63 #[(Value.agg #[(Value.pointer g0_x_0)])] h Q
/-- (internal/abi.Kind).String -/
def S_internal_abi_Kind_String (g0_x : Int) (h : Hp) (Q : List Value → Hp → Prop) : Prop := Fn PP 64 #[(Value.int .u8 g0_x)] h Q
def F_gosem_cut_init (h : Hp) (Q : List Value → Hp → Prop) : Prop :=
S_gosem_cut  h fun (vs1 : List Value) (h2 : Hp) =>
vs1 = [] ∧
Q [] h2
def A_gosem_cut_init : Ann := .nil
theorem E_gosem_cut_init (h : Hp) (Q : List Value → Hp → Prop) : cw PP 1 (fun _ => []) (bodyOf Try.f2) A_gosem_cut_init (finQ PP (Try.f2.results.toList) Q) (argFr []) h = F_gosem_cut_init h Q := by kernel_rfl
theorem O_gosem_cut_init {h : Hp} {Q : List Value → Hp → Prop} (H : F_gosem_cut_init h Q) : S_gosem_cut_init h Q :=
  fn_of_cw (hs := (fun _ => [])) (ann := A_gosem_cut_init) (args := []) mixedPP Try.func2 (c := bodyOf Try.f2) (by kernel_rfl) (by kernel_rfl) (by kernel_rfl) (Eq.mpr (E_gosem_cut_init h Q) H)
def F_wait_graph (g0_l : Sl) (h : Hp) (Q : List Value → Hp → Prop) : Prop :=
wth (Array.push h (Obj.map #[] 0)) fun h1 =>
∀ X2 : List Value → Hp → Prop, (∀ n3 : Int, ∀ h4 : Hp, ((if (decide (n3 < (g0_l.n : Int))) = true then
      (nilW g0_l.a fun a5 => ixOk n3 g0_l.n (∃ n6 : Int, rd h4 (Addr.add (Addr.add a5 (Int.toNat n3 * 2)) 0) = some (Value.int .i64 n6) ∧ ∃ n7 : Int, rd h4 (Addr.add (Addr.add a5 (Int.toNat n3 * 2)) 1) = some (Value.int .i64 n7) ∧ wth (Array.push h4 (Obj.cells #[(Value.int .i64 (0 : Int)), (Value.int .i64 (0 : Int))] T_2_int)) fun h8 =>
          stOk h8 (Addr.mk (Array.size h4) 0 none) 2 ∧ wth (wrs h8 (Addr.mk (Array.size h4) 0 none) 0 [(Value.int .i64 n6), (Value.int .i64 n7)]) fun h9 =>
          ixOk (0 : Int) 2 (∃ n10 : Int, rd h9 (Addr.add (Addr.mk (Array.size h4) 0 none) (Int.toNat (0 : Int) * 1)) = some (Value.int .i64 n10) ∧
            ixOk (0 : Int) 2 (∃ n11 : Int, rd h9 (Addr.add (Addr.mk (Array.size h4) 0 none) (Int.toNat (0 : Int) * 1)) = some (Value.int .i64 n11) ∧
              ∃ es12 : Array MapEntry, mapAt h9 (some (Array.size h)) es12 ∧ KeysLike (Value.int .i64 n11) es12 ∧ ∃ l13 : Sl, mgetD (Value.int .i64 n11) es12 (Value.slice none 0 0) = (Value.slice l13.a l13.n l13.c) ∧
              ixOk (1 : Int) 2 (∃ n14 : Int, rd h9 (Addr.add (Addr.mk (Array.size h4) 0 none) (Int.toNat (1 : Int) * 1)) = some (Value.int .i64 n14) ∧
                wth (Array.push h9 (Obj.cells #[(Value.int .i64 n14)] T_int)) fun h15 =>
                mapAt h15 (some (Array.size h)) es12 ∧ rd h15 (Addr.add (Addr.mk (Array.size h4) 0 none) (Int.toNat (0 : Int) * 1)) = some (Value.int .i64 n11) ∧ rd h15 (Addr.add (Addr.mk (Array.size h4) 0 none) (Int.toNat (0 : Int) * 1)) = some (Value.int .i64 n10) ∧ ∃ cs22 : List Value, cellsAt h15 (some (Addr.mk (Array.size h9) 0 none)) (1 * 1) cs22 ∧ appS PP T_int 8 1 h15 ⟨l13.a, l13.n, l13.c⟩ 1 cs22 fun (l16 : Sl) (h17 : Hp) =>
                rd h17 (Addr.add (Addr.mk (Array.size h4) 0 none) (Int.toNat (0 : Int) * 1)) = some (Value.int .i64 n10) ∧ ∃ (m18 : Nat) (es19 : Array MapEntry) (c20 : Nat), (some (Array.size h)) = some m18 ∧ h17[m18]? = some (.map es19 c20) ∧ KeysLike (Value.int .i64 n10) es19 ∧ wth (Array.setIfInBounds h17 m18 (mput (Value.int .i64 n10) (Value.slice l16.a l16.n l16.c) es19 c20)) fun h21 =>
                X2 [(Value.int .i64 (IntKind.wrap .i64 (n3 + (1 : Int))))] h21))))) else
      (Q [(Value.map (some (Array.size h)))] h4))) → X2 [(Value.int .i64 n3)] h4) →
X2 [(Value.int .i64 (0 : Int))] h1
def A_wait_graph : Ann := (.mk none ⟨[], []⟩ .nil (.mk none ⟨[], []⟩ .nil (.mk none ⟨[], []⟩ (.mk none ⟨[], []⟩ .nil (.mk none ⟨[], []⟩ (.mk none ⟨[3, 7, 8], [(9, (.c (.int .i64)))]⟩ .nil .nil) .nil)) .nil)))
theorem E_wait_graph (g0_l : Sl) (h : Hp) (Q : List Value → Hp → Prop) : cw PP 26 (fun _ => []) (bodyOf Try.f16) A_wait_graph (finQ PP (Try.f16.results.toList) Q) (argFr [(Value.slice g0_l.a g0_l.n g0_l.c)]) h = F_wait_graph g0_l h Q := by kernel_rfl
theorem O_wait_graph (g0_l : Sl) {h : Hp} {Q : List Value → Hp → Prop} (H : F_wait_graph g0_l h Q) : S_wait_graph g0_l h Q :=
  fn_of_cw (hs := (fun _ => [])) (ann := A_wait_graph) (args := [(Value.slice g0_l.a g0_l.n g0_l.c)]) mixedPP Try.func16 (c := bodyOf Try.f16) (by kernel_rfl) (by kernel_rfl) (by kernel_rfl) (Eq.mpr (E_wait_graph g0_l h Q) H)
def F_wait_reach (g0_g : Option Nat) (g1_from : Int) (h : Hp) (Q : List Value → Hp → Prop) : Prop :=
wth (Array.push h (Obj.map #[] 0)) fun h1 =>
wth (Array.push h1 (Obj.cells #[(Value.int .i64 g1_from)] T_int)) fun h2 =>
∀ X3 : List Value → Hp → Prop, (∀ l4 : Sl, ∀ h5 : Hp, ((if ((l4.n : Int) == (0 : Int)) = true then
      (Q [(Value.map (some (Array.size h)))] h5) else
      (nilW l4.a fun a6 => ixOk (0 : Int) l4.n (∃ n7 : Int, rd h5 (Addr.add a6 (Int.toNat (0 : Int) * 1)) = some (Value.int .i64 n7) ∧
          ∃ es8 : Array MapEntry, mapAt h5 g0_g es8 ∧ KeysLike (Value.int .i64 n7) es8 ∧ ∃ l9 : Sl, mgetD (Value.int .i64 n7) es8 (Value.slice none 0 0) = (Value.slice l9.a l9.n l9.c) ∧
          ∀ X10 : List Value → Hp → Prop, (∀ l11 : Sl, ∀ n12 : Int, ∀ h13 : Hp, ((if (decide (n12 < (l9.n : Int))) = true then
                (∀ J14 : List Value → Hp → Prop, (∀ l15 : Sl, ∀ h16 : Hp, (X10 [(Value.slice l15.a l15.n l15.c), (Value.int .i64 (IntKind.wrap .i64 (n12 + (1 : Int))))] h16) → J14 [(Value.slice l15.a l15.n l15.c)] h16) →
                  nilW l9.a fun a17 => ixOk n12 l9.n (∃ n18 : Int, rd h13 (Addr.add a17 (Int.toNat n12 * 1)) = some (Value.int .i64 n18) ∧
                    ∃ es19 : Array MapEntry, mapAt h13 (some (Array.size h)) es19 ∧ KeysLike (Value.int .i64 n18) es19 ∧ ∃ n20 : Int, mgetD (Value.int .i64 n18) es19 (Value.int .i64 (0 : Int)) = (Value.int .i64 n20) ∧
                    (if (decide (n20 > (0 : Int))) = true then
                      (J14 [(Value.slice l11.a l11.n l11.c)] h13) else
                      (∃ (m21 : Nat) (es22 : Array MapEntry) (c23 : Nat), (some (Array.size h)) = some m21 ∧ h13[m21]? = some (.map es22 c23) ∧ KeysLike (Value.int .i64 n18) es22 ∧ wth (Array.setIfInBounds h13 m21 (mput (Value.int .i64 n18) (Value.int .i64 (1 : Int)) es22 c23)) fun h24 =>
                        wth (Array.push h24 (Obj.cells #[(Value.int .i64 n18)] T_int)) fun h25 =>
                        ∃ cs28 : List Value, cellsAt h25 (some (Addr.mk (Array.size h24) 0 none)) (1 * 1) cs28 ∧ appS PP T_int 8 1 h25 ⟨l11.a, l11.n, l11.c⟩ 1 cs28 fun (l26 : Sl) (h27 : Hp) =>
                        J14 [(Value.slice l26.a l26.n l26.c)] h27)))) else
                ((0 ≤ (1 : Int) ∧ (1 : Int) ≤ (l11.n : Nat)) ∧ X3 [(Value.slice (slAd l11.a (Int.toNat (1 : Int)) l11.c 1) (l11.n - (Int.toNat (1 : Int))) (l11.c - (Int.toNat (1 : Int))))] h13))) → X10 [(Value.slice l11.a l11.n l11.c), (Value.int .i64 n12)] h13) →
          X10 [(Value.slice l4.a l4.n l4.c), (Value.int .i64 (0 : Int))] h5)))) → X3 [(Value.slice l4.a l4.n l4.c)] h5) →
X3 [(Value.slice (some (Addr.mk (Array.size h1) 0 none)) 1 1)] h2
def A_wait_reach : Ann := (.mk none ⟨[], []⟩ .nil (.mk none ⟨[], []⟩ (.mk none ⟨[], []⟩ .nil (.mk none ⟨[], []⟩ .nil (.mk none ⟨[], []⟩ (.mk none ⟨[], []⟩ .nil (.mk none ⟨[], []⟩ (.mk none ⟨[0, 5], [(6, (.c .sl))]⟩ (.mk none ⟨[], []⟩ (.mk none ⟨[], []⟩ (.mk none ⟨[], []⟩ (.mk none ⟨[], []⟩ .nil (.mk none ⟨[], []⟩ .nil (.mk none ⟨[], []⟩ .nil (.mk none ⟨[], []⟩ (.mk none ⟨[0, 5, 21, 22], [(6, (.c .sl)), (23, (.c (.int .i64)))]⟩ (.mk none ⟨[], []⟩ .nil (.mk none ⟨[], []⟩ .nil (.mk none ⟨[], []⟩ (.mk (some ⟨[0, 5, 21, 22, 23], [(6, (.c .sl))]⟩) ⟨[], []⟩ .nil .nil) .nil))) .nil) .nil)))) .nil) .nil) .nil) .nil) .nil)) .nil))) .nil))
theorem E_wait_reach (g0_g : Option Nat) (g1_from : Int) (h : Hp) (Q : List Value → Hp → Prop) : cw PP 39 (fun _ => []) (bodyOf Try.f17) A_wait_reach (finQ PP (Try.f17.results.toList) Q) (argFr [(Value.map g0_g), (Value.int .i64 g1_from)]) h = F_wait_reach g0_g g1_from h Q := by kernel_rfl
theorem O_wait_reach (g0_g : Option Nat) (g1_from : Int) {h : Hp} {Q : List Value → Hp → Prop} (H : F_wait_reach g0_g g1_from h Q) : S_wait_reach g0_g g1_from h Q :=
  fn_of_cw (hs := (fun _ => [])) (ann := A_wait_reach) (args := [(Value.map g0_g), (Value.int .i64 g1_from)]) mixedPP Try.func17 (c := bodyOf Try.f17) (by kernel_rfl) (by kernel_rfl) (by kernel_rfl) (Eq.mpr (E_wait_reach g0_g g1_from h Q) H)
def F_slices_Collect_int (g0_seq_f : Nat) (g0_seq_c : Array Value) (h : Hp) (Q : List Value → Hp → Prop) : Prop :=
S_slices_AppendSeq_sint_int ⟨none, 0, 0⟩ g0_seq_f g0_seq_c h fun (vs1 : List Value) (h2 : Hp) =>
∃ l3 : Sl, vs1 = [(Value.slice l3.a l3.n l3.c)] ∧
Q [(Value.slice l3.a l3.n l3.c)] h2
def A_slices_Collect_int : Ann := .nil
theorem E_slices_Collect_int (g0_seq_f : Nat) (g0_seq_c : Array Value) (h : Hp) (Q : List Value → Hp → Prop) : cw PP 5 (fun _ => []) (bodyOf Try.f24) A_slices_Collect_int (finQ PP (Try.f24.results.toList) Q) (argFr [(Value.func (.func g0_seq_f) #[] g0_seq_c)]) h = F_slices_Collect_int g0_seq_f g0_seq_c h Q := by kernel_rfl
theorem O_slices_Collect_int (g0_seq_f : Nat) (g0_seq_c : Array Value) {h : Hp} {Q : List Value → Hp → Prop} (H : F_slices_Collect_int g0_seq_f g0_seq_c h Q) : S_slices_Collect_int g0_seq_f g0_seq_c h Q :=
  fn_of_cw (hs := (fun _ => [])) (ann := A_slices_Collect_int) (args := [(Value.func (.func g0_seq_f) #[] g0_seq_c)]) mixedPP Try.func24 (c := bodyOf Try.f24) (by kernel_rfl) (by kernel_rfl) (by kernel_rfl) (Eq.mpr (E_slices_Collect_int g0_seq_f g0_seq_c h Q) H)
def F_cmp_isNaN_int (g0_x : Int) (h : Hp) (Q : List Value → Hp → Prop) : Prop :=
Q [(Value.bool (g0_x != g0_x))] h
def A_cmp_isNaN_int : Ann := .nil
theorem E_cmp_isNaN_int (g0_x : Int) (h : Hp) (Q : List Value → Hp → Prop) : cw PP 6 (fun _ => []) (bodyOf Try.f47) A_cmp_isNaN_int (finQ PP (Try.f47.results.toList) Q) (argFr [(Value.int .i64 g0_x)]) h = F_cmp_isNaN_int g0_x h Q := by kernel_rfl
theorem O_cmp_isNaN_int (g0_x : Int) {h : Hp} {Q : List Value → Hp → Prop} (H : F_cmp_isNaN_int g0_x h Q) : S_cmp_isNaN_int g0_x h Q :=
  fn_of_cw (hs := (fun _ => [])) (ann := A_cmp_isNaN_int) (args := [(Value.int .i64 g0_x)]) mixedPP Try.func47 (c := bodyOf Try.f47) (by kernel_rfl) (by kernel_rfl) (by kernel_rfl) (Eq.mpr (E_cmp_isNaN_int g0_x h Q) H)
def F_cmp_Less_int (g0_x : Int) (g1_y : Int) (h : Hp) (Q : List Value → Hp → Prop) : Prop :=
S_cmp_isNaN_int g0_x h fun (vs1 : List Value) (h2 : Hp) =>
∃ b3 : Bool, vs1 = [(Value.bool b3)] ∧
(if b3 = true then (S_cmp_isNaN_int g1_y h2 fun (vs4 : List Value) (h5 : Hp) =>
    ∃ b6 : Bool, vs4 = [(Value.bool b6)] ∧
    (if (!b6) = true then (Q [(Value.bool true)] h5) else
      (Q [(Value.bool (decide (g0_x < g1_y)))] h5))) else
  (Q [(Value.bool (decide (g0_x < g1_y)))] h2))
def A_cmp_Less_int : Ann := .nil
theorem E_cmp_Less_int (g0_x : Int) (g1_y : Int) (h : Hp) (Q : List Value → Hp → Prop) : cw PP 17 (fun _ => []) (bodyOf Try.f37) A_cmp_Less_int (finQ PP (Try.f37.results.toList) Q) (argFr [(Value.int .i64 g0_x), (Value.int .i64 g1_y)]) h = F_cmp_Less_int g0_x g1_y h Q := by kernel_rfl
theorem O_cmp_Less_int (g0_x : Int) (g1_y : Int) {h : Hp} {Q : List Value → Hp → Prop} (H : F_cmp_Less_int g0_x g1_y h Q) : S_cmp_Less_int g0_x g1_y h Q :=
  fn_of_cw (hs := (fun _ => [])) (ann := A_cmp_Less_int) (args := [(Value.int .i64 g0_x), (Value.int .i64 g1_y)]) mixedPP Try.func37 (c := bodyOf Try.f37) (by kernel_rfl) (by kernel_rfl) (by kernel_rfl) (Eq.mpr (E_cmp_Less_int g0_x g1_y h Q) H)
def F_slices_insertionSortOrdered_int (g0_data : Sl) (g1_a : Int) (g2_b : Int) (h : Hp) (Q : List Value → Hp → Prop) : Prop :=
∀ X1 : List Value → Hp → Prop, (∀ n2 : Int, ∀ h3 : Hp, ((if (decide (n2 < g2_b)) = true then
      (∀ X4 : List Value → Hp → Prop, (∀ n5 : Int, ∀ h6 : Hp, (∀ J7 : List Value → Hp → Prop, (∀ b8 : Bool, ∀ h9 : Hp, ((if b8 = true then
                  (nilW g0_data.a fun a10 => ixOk (IntKind.wrap .i64 (n5 - (1 : Int))) g0_data.n (∃ n11 : Int, rd h9 (Addr.add a10 (Int.toNat (IntKind.wrap .i64 (n5 - (1 : Int))) * 1)) = some (Value.int .i64 n11) ∧
                      nilW g0_data.a fun a12 => ixOk n5 g0_data.n (∃ n13 : Int, rd h9 (Addr.add a12 (Int.toNat n5 * 1)) = some (Value.int .i64 n13) ∧
                        nilW g0_data.a fun a14 => ixOk n5 g0_data.n (stOk h9 (Addr.add a14 (Int.toNat n5 * 1)) 1 ∧ wth (wrs h9 (Addr.add a14 (Int.toNat n5 * 1)) 0 [(Value.int .i64 n11)]) fun h15 =>
                          nilW g0_data.a fun a16 => ixOk (IntKind.wrap .i64 (n5 - (1 : Int))) g0_data.n (stOk h15 (Addr.add a16 (Int.toNat (IntKind.wrap .i64 (n5 - (1 : Int))) * 1)) 1 ∧ wth (wrs h15 (Addr.add a16 (Int.toNat (IntKind.wrap .i64 (n5 - (1 : Int))) * 1)) 0 [(Value.int .i64 n13)]) fun h17 =>
                            X4 [(Value.int .i64 (IntKind.wrap .i64 (n5 - (1 : Int))))] h17))))) else
                  (X1 [(Value.int .i64 (IntKind.wrap .i64 (n2 + (1 : Int))))] h9))) → J7 [(Value.bool b8)] h9) →
            (if (decide (n5 > g1_a)) = true then (nilW g0_data.a fun a18 => ixOk n5 g0_data.n (∃ n19 : Int, rd h6 (Addr.add a18 (Int.toNat n5 * 1)) = some (Value.int .i64 n19) ∧
                  nilW g0_data.a fun a20 => ixOk (IntKind.wrap .i64 (n5 - (1 : Int))) g0_data.n (∃ n21 : Int, rd h6 (Addr.add a20 (Int.toNat (IntKind.wrap .i64 (n5 - (1 : Int))) * 1)) = some (Value.int .i64 n21) ∧
                    S_cmp_Less_int n19 n21 h6 fun (vs22 : List Value) (h23 : Hp) =>
                    ∃ b24 : Bool, vs22 = [(Value.bool b24)] ∧
                    J7 [(Value.bool b24)] h23))) else
              (J7 [(Value.bool false)] h6))) → X4 [(Value.int .i64 n5)] h6) →
        X4 [(Value.int .i64 n2)] h3) else
      (Q [] h3))) → X1 [(Value.int .i64 n2)] h3) →
X1 [(Value.int .i64 (IntKind.wrap .i64 (g1_a + (1 : Int))))] h
def A_slices_insertionSortOrdered_int : Ann := (.mk none ⟨[], []⟩ .nil (.mk none ⟨[], []⟩ (.mk none ⟨[0, 1, 2], [(6, (.c (.int .i64)))]⟩ (.mk none ⟨[], []⟩ .nil (.mk none ⟨[], []⟩ (.mk none ⟨[], []⟩ (.mk none ⟨[], []⟩ .nil (.mk none ⟨[], []⟩ (.mk none ⟨[0, 1, 2, 6], [(7, (.c (.int .i64)))]⟩ (.mk none ⟨[], []⟩ (.mk none ⟨[], []⟩ (.mk (some ⟨[0, 1, 2, 6, 7], [(30, (.c .bool))]⟩) ⟨[], []⟩ .nil .nil) .nil) .nil) .nil) .nil)) .nil) .nil)) .nil) .nil))
theorem E_slices_insertionSortOrdered_int (g0_data : Sl) (g1_a : Int) (g2_b : Int) (h : Hp) (Q : List Value → Hp → Prop) : cw PP 49 (fun _ => []) (bodyOf Try.f31) A_slices_insertionSortOrdered_int (finQ PP (Try.f31.results.toList) Q) (argFr [(Value.slice g0_data.a g0_data.n g0_data.c), (Value.int .i64 g1_a), (Value.int .i64 g2_b)]) h = F_slices_insertionSortOrdered_int g0_data g1_a g2_b h Q := by kernel_rfl
theorem O_slices_insertionSortOrdered_int (g0_data : Sl) (g1_a : Int) (g2_b : Int) {h : Hp} {Q : List Value → Hp → Prop} (H : F_slices_insertionSortOrdered_int g0_data g1_a g2_b h Q) : S_slices_insertionSortOrdered_int g0_data g1_a g2_b h Q :=
  fn_of_cw (hs := (fun _ => [])) (ann := A_slices_insertionSortOrdered_int) (args := [(Value.slice g0_data.a g0_data.n g0_data.c), (Value.int .i64 g1_a), (Value.int .i64 g2_b)]) mixedPP Try.func31 (c := bodyOf Try.f31) (by kernel_rfl) (by kernel_rfl) (by kernel_rfl) (Eq.mpr (E_slices_insertionSortOrdered_int g0_data g1_a g2_b h Q) H)
def F_slices_siftDownOrdered_int (g0_data : Sl) (g1_lo : Int) (g2_hi : Int) (g3_first : Int) (h : Hp) (Q : List Value → Hp → Prop) : Prop :=
∀ X1 : List Value → Hp → Prop, (∀ n2 : Int, ∀ h3 : Hp, ((if (decide ((IntKind.wrap .i64 ((IntKind.wrap .i64 ((2 : Int) * n2)) + (1 : Int))) ≥ g2_hi)) = true then
      (Q [] h3) else
      (∀ J4 : List Value → Hp → Prop, (∀ b5 : Bool, ∀ h6 : Hp, (∀ J7 : List Value → Hp → Prop, (∀ n8 : Int, ∀ h9 : Hp, (nilW g0_data.a fun a10 => ixOk (IntKind.wrap .i64 (g3_first + n2)) g0_data.n (∃ n11 : Int, rd h9 (Addr.add a10 (Int.toNat (IntKind.wrap .i64 (g3_first + n2)) * 1)) = some (Value.int .i64 n11) ∧
                  nilW g0_data.a fun a12 => ixOk (IntKind.wrap .i64 (g3_first + n8)) g0_data.n (∃ n13 : Int, rd h9 (Addr.add a12 (Int.toNat (IntKind.wrap .i64 (g3_first + n8)) * 1)) = some (Value.int .i64 n13) ∧
                    S_cmp_Less_int n11 n13 h9 fun (vs14 : List Value) (h15 : Hp) =>
                    ∃ b16 : Bool, vs14 = [(Value.bool b16)] ∧
                    (if (!b16) = true then
                      (Q [] h15) else
                      (nilW g0_data.a fun a17 => ixOk (IntKind.wrap .i64 (g3_first + n8)) g0_data.n (∃ n18 : Int, rd h15 (Addr.add a17 (Int.toNat (IntKind.wrap .i64 (g3_first + n8)) * 1)) = some (Value.int .i64 n18) ∧
                          nilW g0_data.a fun a19 => ixOk (IntKind.wrap .i64 (g3_first + n2)) g0_data.n (∃ n20 : Int, rd h15 (Addr.add a19 (Int.toNat (IntKind.wrap .i64 (g3_first + n2)) * 1)) = some (Value.int .i64 n20) ∧
                            nilW g0_data.a fun a21 => ixOk (IntKind.wrap .i64 (g3_first + n2)) g0_data.n (stOk h15 (Addr.add a21 (Int.toNat (IntKind.wrap .i64 (g3_first + n2)) * 1)) 1 ∧ wth (wrs h15 (Addr.add a21 (Int.toNat (IntKind.wrap .i64 (g3_first + n2)) * 1)) 0 [(Value.int .i64 n18)]) fun h22 =>
                              nilW g0_data.a fun a23 => ixOk (IntKind.wrap .i64 (g3_first + n8)) g0_data.n (stOk h22 (Addr.add a23 (Int.toNat (IntKind.wrap .i64 (g3_first + n8)) * 1)) 1 ∧ wth (wrs h22 (Addr.add a23 (Int.toNat (IntKind.wrap .i64 (g3_first + n8)) * 1)) 0 [(Value.int .i64 n20)]) fun h24 =>
                                X1 [(Value.int .i64 n8)] h24))))))))) → J7 [(Value.int .i64 n8)] h9) →
            (if b5 = true then
              (J7 [(Value.int .i64 (IntKind.wrap .i64 ((IntKind.wrap .i64 ((IntKind.wrap .i64 ((2 : Int) * n2)) + (1 : Int))) + (1 : Int))))] h6) else
              (J7 [(Value.int .i64 (IntKind.wrap .i64 ((IntKind.wrap .i64 ((2 : Int) * n2)) + (1 : Int))))] h6))) → J4 [(Value.bool b5)] h6) →
        (if (decide ((IntKind.wrap .i64 ((IntKind.wrap .i64 ((IntKind.wrap .i64 ((2 : Int) * n2)) + (1 : Int))) + (1 : Int))) < g2_hi)) = true then (nilW g0_data.a fun a25 => ixOk (IntKind.wrap .i64 (g3_first + (IntKind.wrap .i64 ((IntKind.wrap .i64 ((2 : Int) * n2)) + (1 : Int))))) g0_data.n (∃ n26 : Int, rd h3 (Addr.add a25 (Int.toNat (IntKind.wrap .i64 (g3_first + (IntKind.wrap .i64 ((IntKind.wrap .i64 ((2 : Int) * n2)) + (1 : Int))))) * 1)) = some (Value.int .i64 n26) ∧
              nilW g0_data.a fun a27 => ixOk (IntKind.wrap .i64 ((IntKind.wrap .i64 (g3_first + (IntKind.wrap .i64 ((IntKind.wrap .i64 ((2 : Int) * n2)) + (1 : Int))))) + (1 : Int))) g0_data.n (∃ n28 : Int, rd h3 (Addr.add a27 (Int.toNat (IntKind.wrap .i64 ((IntKind.wrap .i64 (g3_first + (IntKind.wrap .i64 ((IntKind.wrap .i64 ((2 : Int) * n2)) + (1 : Int))))) + (1 : Int))) * 1)) = some (Value.int .i64 n28) ∧
                S_cmp_Less_int n26 n28 h3 fun (vs29 : List Value) (h30 : Hp) =>
                ∃ b31 : Bool, vs29 = [(Value.bool b31)] ∧
                J4 [(Value.bool b31)] h30))) else
          (J4 [(Value.bool false)] h3))))) → X1 [(Value.int .i64 n2)] h3) →
X1 [(Value.int .i64 g1_lo)] h
def A_slices_siftDownOrdered_int : Ann := (.mk none ⟨[], []⟩ .nil (.mk none ⟨[], []⟩ (.mk none ⟨[0, 2, 3], [(8, (.c (.int .i64)))]⟩ (.mk none ⟨[], []⟩ (.mk none ⟨[], []⟩ .nil (.mk none ⟨[], []⟩ .nil (.mk none ⟨[], []⟩ (.mk none ⟨[], []⟩ (.mk (some ⟨[0, 2, 3, 8, 9], [(36, (.c .bool))]⟩) ⟨[], []⟩ .nil .nil) (.mk (some ⟨[0, 2, 3, 8], [(9, (.c (.int .i64)))]⟩) ⟨[], []⟩ .nil .nil)) .nil))) .nil) .nil) .nil))
theorem E_slices_siftDownOrdered_int (g0_data : Sl) (g1_lo : Int) (g2_hi : Int) (g3_first : Int) (h : Hp) (Q : List Value → Hp → Prop) : cw PP 76 (fun _ => []) (bodyOf Try.f42) A_slices_siftDownOrdered_int (finQ PP (Try.f42.results.toList) Q) (argFr [(Value.slice g0_data.a g0_data.n g0_data.c), (Value.int .i64 g1_lo), (Value.int .i64 g2_hi), (Value.int .i64 g3_first)]) h = F_slices_siftDownOrdered_int g0_data g1_lo g2_hi g3_first h Q := by kernel_rfl
theorem O_slices_siftDownOrdered_int (g0_data : Sl) (g1_lo : Int) (g2_hi : Int) (g3_first : Int) {h : Hp} {Q : List Value → Hp → Prop} (H : F_slices_siftDownOrdered_int g0_data g1_lo g2_hi g3_first h Q) : S_slices_siftDownOrdered_int g0_data g1_lo g2_hi g3_first h Q :=
  fn_of_cw (hs := (fun _ => [])) (ann := A_slices_siftDownOrdered_int) (args := [(Value.slice g0_data.a g0_data.n g0_data.c), (Value.int .i64 g1_lo), (Value.int .i64 g2_hi), (Value.int .i64 g3_first)]) mixedPP Try.func42 (c := bodyOf Try.f42) (by kernel_rfl) (by kernel_rfl) (by kernel_rfl) (Eq.mpr (E_slices_siftDownOrdered_int g0_data g1_lo g2_hi g3_first h Q) H)
def F_slices_heapSortOrdered_int (g0_data : Sl) (g1_a : Int) (g2_b : Int) (h : Hp) (Q : List Value → Hp → Prop) : Prop :=
divOk (2 : Int) (∀ X1 : List Value → Hp → Prop, (∀ n2 : Int, ∀ h3 : Hp, ((if (decide (n2 ≥ (0 : Int))) = true then
        (S_slices_siftDownOrdered_int ⟨g0_data.a, g0_data.n, g0_data.c⟩ n2 (IntKind.wrap .i64 (g2_b - g1_a)) g1_a h3 fun (vs4 : List Value) (h5 : Hp) =>
          vs4 = [] ∧
          X1 [(Value.int .i64 (IntKind.wrap .i64 (n2 - (1 : Int))))] h5) else
        (∀ X6 : List Value → Hp → Prop, (∀ n7 : Int, ∀ h8 : Hp, ((if (decide (n7 ≥ (0 : Int))) = true then
                (nilW g0_data.a fun a9 => ixOk (IntKind.wrap .i64 (g1_a + n7)) g0_data.n (∃ n10 : Int, rd h8 (Addr.add a9 (Int.toNat (IntKind.wrap .i64 (g1_a + n7)) * 1)) = some (Value.int .i64 n10) ∧
                    nilW g0_data.a fun a11 => ixOk g1_a g0_data.n (∃ n12 : Int, rd h8 (Addr.add a11 (Int.toNat g1_a * 1)) = some (Value.int .i64 n12) ∧
                      nilW g0_data.a fun a13 => ixOk g1_a g0_data.n (stOk h8 (Addr.add a13 (Int.toNat g1_a * 1)) 1 ∧ wth (wrs h8 (Addr.add a13 (Int.toNat g1_a * 1)) 0 [(Value.int .i64 n10)]) fun h14 =>
                        nilW g0_data.a fun a15 => ixOk (IntKind.wrap .i64 (g1_a + n7)) g0_data.n (stOk h14 (Addr.add a15 (Int.toNat (IntKind.wrap .i64 (g1_a + n7)) * 1)) 1 ∧ wth (wrs h14 (Addr.add a15 (Int.toNat (IntKind.wrap .i64 (g1_a + n7)) * 1)) 0 [(Value.int .i64 n12)]) fun h16 =>
                          S_slices_siftDownOrdered_int ⟨g0_data.a, g0_data.n, g0_data.c⟩ (0 : Int) n7 g1_a h16 fun (vs17 : List Value) (h18 : Hp) =>
                          vs17 = [] ∧
                          X6 [(Value.int .i64 (IntKind.wrap .i64 (n7 - (1 : Int))))] h18))))) else
                (Q [] h8))) → X6 [(Value.int .i64 n7)] h8) →
          X6 [(Value.int .i64 (IntKind.wrap .i64 ((IntKind.wrap .i64 (g2_b - g1_a)) - (1 : Int))))] h3))) → X1 [(Value.int .i64 n2)] h3) →
  X1 [(Value.int .i64 (IntKind.wrap .i64 (Int.tdiv (IntKind.wrap .i64 ((IntKind.wrap .i64 (g2_b - g1_a)) - (1 : Int))) (2 : Int))))] h)
def A_slices_heapSortOrdered_int : Ann := (.mk none ⟨[], []⟩ .nil (.mk none ⟨[], []⟩ .nil (.mk none ⟨[], []⟩ .nil (.mk none ⟨[], []⟩ (.mk none ⟨[], []⟩ .nil (.mk none ⟨[], []⟩ (.mk none ⟨[0, 6, 7, 8], [(9, (.c (.int .i64)))]⟩ .nil .nil) .nil)) (.mk none ⟨[], []⟩ .nil (.mk none ⟨[], []⟩ (.mk none ⟨[0, 6, 7], [(10, (.c (.int .i64)))]⟩ .nil .nil) .nil))))))
theorem E_slices_heapSortOrdered_int (g0_data : Sl) (g1_a : Int) (g2_b : Int) (h : Hp) (Q : List Value → Hp → Prop) : cw PP 56 (fun _ => []) (bodyOf Try.f32) A_slices_heapSortOrdered_int (finQ PP (Try.f32.results.toList) Q) (argFr [(Value.slice g0_data.a g0_data.n g0_data.c), (Value.int .i64 g1_a), (Value.int .i64 g2_b)]) h = F_slices_heapSortOrdered_int g0_data g1_a g2_b h Q := by kernel_rfl
theorem O_slices_heapSortOrdered_int (g0_data : Sl) (g1_a : Int) (g2_b : Int) {h : Hp} {Q : List Value → Hp → Prop} (H : F_slices_heapSortOrdered_int g0_data g1_a g2_b h Q) : S_slices_heapSortOrdered_int g0_data g1_a g2_b h Q :=
  fn_of_cw (hs := (fun _ => [])) (ann := A_slices_heapSortOrdered_int) (args := [(Value.slice g0_data.a g0_data.n g0_data.c), (Value.int .i64 g1_a), (Value.int .i64 g2_b)]) mixedPP Try.func32 (c := bodyOf Try.f32) (by kernel_rfl) (by kernel_rfl) (by kernel_rfl) (Eq.mpr (E_slices_heapSortOrdered_int g0_data g1_a g2_b h Q) H)
def F_math_bits_Len64 (g0_x : Int) (h : Hp) (Q : List Value → Hp → Prop) : Prop :=
∀ J1 : List Value → Hp → Prop, (∀ n2 : Int, ∀ n3 : Int, ∀ h4 : Hp, (∀ J5 : List Value → Hp → Prop, (∀ n6 : Int, ∀ n7 : Int, ∀ h8 : Hp, (∀ J9 : List Value → Hp → Prop, (∀ n10 : Int, ∀ n11 : Int, ∀ h12 : Hp, (ixOk (IntKind.wrap .u8 n10) (ByteArray.size (ByteArray.mk #[0, 1, 2, 2, 3, 3, 3, 3, 4, 4, 4, 4, 4, 4, 4, 4, 5, 5, 5, 5, 5, 5, 5, 5, 5, 5, 5, 5, 5, 5, 5, 5, 6, 6, 6, 6, 6, 6, 6, 6, 6, 6, 6, 6, 6, 6, 6, 6, 6, 6, 6, 6, 6, 6, 6, 6, 6, 6, 6, 6, 6, 6, 6, 6, 7, 7, 7, 7, 7, 7, 7, 7, 7, 7, 7, 7, 7, 7, 7, 7, 7, 7, 7, 7, 7, 7, 7, 7, 7, 7, 7, 7, 7, 7, 7, 7, 7, 7, 7, 7, 7, 7, 7, 7, 7, 7, 7, 7, 7, 7, 7, 7, 7, 7, 7, 7, 7, 7, 7, 7, 7, 7, 7, 7, 7, 7, 7, 7, 8, 8, 8, 8, 8, 8, 8, 8, 8, 8, 8, 8, 8, 8, 8, 8, 8, 8, 8, 8, 8, 8, 8, 8, 8, 8, 8, 8, 8, 8, 8, 8, 8, 8, 8, 8, 8, 8, 8, 8, 8, 8, 8, 8, 8, 8, 8, 8, 8, 8, 8, 8, 8, 8, 8, 8, 8, 8, 8, 8, 8, 8, 8, 8, 8, 8, 8, 8, 8, 8, 8, 8, 8, 8, 8, 8, 8, 8, 8, 8, 8, 8, 8, 8, 8, 8, 8, 8, 8, 8, 8, 8, 8, 8, 8, 8, 8, 8, 8, 8, 8, 8, 8, 8, 8, 8, 8, 8, 8, 8, 8, 8, 8, 8, 8, 8, 8, 8, 8, 8, 8, 8, 8, 8, 8, 8, 8, 8])) (Q [(Value.int .i64 (IntKind.wrap .i64 (n11 + (IntKind.wrap .i64 (strIx (ByteArray.mk #[0, 1, 2, 2, 3, 3, 3, 3, 4, 4, 4, 4, 4, 4, 4, 4, 5, 5, 5, 5, 5, 5, 5, 5, 5, 5, 5, 5, 5, 5, 5, 5, 6, 6, 6, 6, 6, 6, 6, 6, 6, 6, 6, 6, 6, 6, 6, 6, 6, 6, 6, 6, 6, 6, 6, 6, 6, 6, 6, 6, 6, 6, 6, 6, 7, 7, 7, 7, 7, 7, 7, 7, 7, 7, 7, 7, 7, 7, 7, 7, 7, 7, 7, 7, 7, 7, 7, 7, 7, 7, 7, 7, 7, 7, 7, 7, 7, 7, 7, 7, 7, 7, 7, 7, 7, 7, 7, 7, 7, 7, 7, 7, 7, 7, 7, 7, 7, 7, 7, 7, 7, 7, 7, 7, 7, 7, 7, 7, 8, 8, 8, 8, 8, 8, 8, 8, 8, 8, 8, 8, 8, 8, 8, 8, 8, 8, 8, 8, 8, 8, 8, 8, 8, 8, 8, 8, 8, 8, 8, 8, 8, 8, 8, 8, 8, 8, 8, 8, 8, 8, 8, 8, 8, 8, 8, 8, 8, 8, 8, 8, 8, 8, 8, 8, 8, 8, 8, 8, 8, 8, 8, 8, 8, 8, 8, 8, 8, 8, 8, 8, 8, 8, 8, 8, 8, 8, 8, 8, 8, 8, 8, 8, 8, 8, 8, 8, 8, 8, 8, 8, 8, 8, 8, 8, 8, 8, 8, 8, 8, 8, 8, 8, 8, 8, 8, 8, 8, 8, 8, 8, 8, 8, 8, 8, 8, 8, 8, 8, 8, 8, 8, 8, 8, 8, 8, 8]) (IntKind.wrap .u8 n10))))))] h12)) → J9 [(Value.int .u64 n10), (Value.int .i64 n11)] h12) →
        (if (decide (n6 ≥ (256 : Int))) = true then
          (shOk (8 : Int) (J9 [(Value.int .u64 (iShr .u64 n6 (8 : Int))), (Value.int .i64 (IntKind.wrap .i64 (n7 + (8 : Int))))] h8)) else
          (J9 [(Value.int .u64 n6), (Value.int .i64 n7)] h8))) → J5 [(Value.int .u64 n6), (Value.int .i64 n7)] h8) →
    (if (decide (n2 ≥ (65536 : Int))) = true then
      (shOk (16 : Int) (J5 [(Value.int .u64 (iShr .u64 n2 (16 : Int))), (Value.int .i64 (IntKind.wrap .i64 (n3 + (16 : Int))))] h4)) else
      (J5 [(Value.int .u64 n2), (Value.int .i64 n3)] h4))) → J1 [(Value.int .u64 n2), (Value.int .i64 n3)] h4) →
(if (decide (g0_x ≥ (4294967296 : Int))) = true then
  (shOk (32 : Int) (J1 [(Value.int .u64 (iShr .u64 g0_x (32 : Int))), (Value.int .i64 (32 : Int))] h)) else
  (J1 [(Value.int .u64 g0_x), (Value.int .i64 (0 : Int))] h))
def A_math_bits_Len64 : Ann := (.mk none ⟨[], []⟩ .nil (.mk none ⟨[], []⟩ (.mk none ⟨[], []⟩ .nil (.mk (some ⟨[], [(0, (.c (.int .u64))), (2, (.c (.int .i64)))]⟩) ⟨[], []⟩ .nil .nil)) (.mk none ⟨[], []⟩ (.mk none ⟨[], []⟩ .nil (.mk (some ⟨[], [(0, (.c (.int .u64))), (2, (.c (.int .i64)))]⟩) ⟨[], []⟩ .nil .nil)) (.mk none ⟨[], []⟩ (.mk none ⟨[], []⟩ .nil (.mk (some ⟨[], [(0, (.c (.int .u64))), (2, (.c (.int .i64)))]⟩) ⟨[], []⟩ .nil .nil)) .nil))))
theorem E_math_bits_Len64 (g0_x : Int) (h : Hp) (Q : List Value → Hp → Prop) : cw PP 25 (fun _ => []) (bodyOf Try.f41) A_math_bits_Len64 (finQ PP (Try.f41.results.toList) Q) (argFr [(Value.int .u64 g0_x)]) h = F_math_bits_Len64 g0_x h Q := by kernel_rfl
theorem O_math_bits_Len64 (g0_x : Int) {h : Hp} {Q : List Value → Hp → Prop} (H : F_math_bits_Len64 g0_x h Q) : S_math_bits_Len64 g0_x h Q :=
  fn_of_cw (hs := (fun _ => [])) (ann := A_math_bits_Len64) (args := [(Value.int .u64 g0_x)]) mixedPP Try.func41 (c := bodyOf Try.f41) (by kernel_rfl) (by kernel_rfl) (by kernel_rfl) (Eq.mpr (E_math_bits_Len64 g0_x h Q) H)
def F_math_bits_Len (g0_x : Int) (h : Hp) (Q : List Value → Hp → Prop) : Prop :=
S_math_bits_Len64 g0_x h fun (vs1 : List Value) (h2 : Hp) =>
∃ n3 : Int, vs1 = [(Value.int .i64 n3)] ∧
Q [(Value.int .i64 n3)] h2
def A_math_bits_Len : Ann := .nil
theorem E_math_bits_Len (g0_x : Int) (h : Hp) (Q : List Value → Hp → Prop) : cw PP 8 (fun _ => []) (bodyOf Try.f30) A_math_bits_Len (finQ PP (Try.f30.results.toList) Q) (argFr [(Value.int .u64 g0_x)]) h = F_math_bits_Len g0_x h Q := by kernel_rfl
theorem O_math_bits_Len (g0_x : Int) {h : Hp} {Q : List Value → Hp → Prop} (H : F_math_bits_Len g0_x h Q) : S_math_bits_Len g0_x h Q :=
  fn_of_cw (hs := (fun _ => [])) (ann := A_math_bits_Len) (args := [(Value.int .u64 g0_x)]) mixedPP Try.func30 (c := bodyOf Try.f30) (by kernel_rfl) (by kernel_rfl) (by kernel_rfl) (Eq.mpr (E_math_bits_Len g0_x h Q) H)
def F_slices_nextPowerOfTwo (g0_length : Int) (h : Hp) (Q : List Value → Hp → Prop) : Prop :=
S_math_bits_Len (IntKind.wrap .u64 g0_length) h fun (vs1 : List Value) (h2 : Hp) =>
∃ n3 : Int, vs1 = [(Value.int .i64 n3)] ∧
shOk n3 (Q [(Value.int .u64 (iShl .u64 (1 : Int) n3))] h2)
def A_slices_nextPowerOfTwo : Ann := .nil
theorem E_slices_nextPowerOfTwo (g0_length : Int) (h : Hp) (Q : List Value → Hp → Prop) : cw PP 7 (fun _ => []) (bodyOf Try.f43) A_slices_nextPowerOfTwo (finQ PP (Try.f43.results.toList) Q) (argFr [(Value.int .i64 g0_length)]) h = F_slices_nextPowerOfTwo g0_length h Q := by kernel_rfl
theorem O_slices_nextPowerOfTwo (g0_length : Int) {h : Hp} {Q : List Value → Hp → Prop} (H : F_slices_nextPowerOfTwo g0_length h Q) : S_slices_nextPowerOfTwo g0_length h Q :=
  fn_of_cw (hs := (fun _ => [])) (ann := A_slices_nextPowerOfTwo) (args := [(Value.int .i64 g0_length)]) mixedPP Try.func43 (c := bodyOf Try.f43) (by kernel_rfl) (by kernel_rfl) (by kernel_rfl) (Eq.mpr (E_slices_nextPowerOfTwo g0_length h Q) H)
def F_slices_xorshift_Next (g0_r : Option Addr) (h : Hp) (Q : List Value → Hp → Prop) : Prop :=
nilW g0_r fun a1 => ∃ n2 : Int, rd h a1 = some (Value.int .u64 n2) ∧
nilW g0_r fun a3 => ∃ n4 : Int, rd h a3 = some (Value.int .u64 n4) ∧
shOk (13 : Int) (nilW g0_r fun a5 => stOk h a5 1 ∧ wth (wrs h a5 0 [(Value.int .u64 (iXor .u64 n2 (iShl .u64 n4 (13 : Int))))]) fun h6 =>
  nilW g0_r fun a7 => ∃ n8 : Int, rd h6 a7 = some (Value.int .u64 n8) ∧
  nilW g0_r fun a9 => ∃ n10 : Int, rd h6 a9 = some (Value.int .u64 n10) ∧
  shOk (7 : Int) (nilW g0_r fun a11 => stOk h6 a11 1 ∧ wth (wrs h6 a11 0 [(Value.int .u64 (iXor .u64 n8 (iShr .u64 n10 (7 : Int))))]) fun h12 =>
    nilW g0_r fun a13 => ∃ n14 : Int, rd h12 a13 = some (Value.int .u64 n14) ∧
    nilW g0_r fun a15 => ∃ n16 : Int, rd h12 a15 = some (Value.int .u64 n16) ∧
    shOk (17 : Int) (nilW g0_r fun a17 => stOk h12 a17 1 ∧ wth (wrs h12 a17 0 [(Value.int .u64 (iXor .u64 n14 (iShl .u64 n16 (17 : Int))))]) fun h18 =>
      nilW g0_r fun a19 => ∃ n20 : Int, rd h18 a19 = some (Value.int .u64 n20) ∧
      Q [(Value.int .u64 n20)] h18)))
def A_slices_xorshift_Next : Ann := .nil
theorem E_slices_xorshift_Next (g0_r : Option Addr) (h : Hp) (Q : List Value → Hp → Prop) : cw PP 33 (fun _ => []) (bodyOf Try.f44) A_slices_xorshift_Next (finQ PP (Try.f44.results.toList) Q) (argFr [(Value.pointer g0_r)]) h = F_slices_xorshift_Next g0_r h Q := by kernel_rfl
theorem O_slices_xorshift_Next (g0_r : Option Addr) {h : Hp} {Q : List Value → Hp → Prop} (H : F_slices_xorshift_Next g0_r h Q) : S_slices_xorshift_Next g0_r h Q :=
  fn_of_cw (hs := (fun _ => [])) (ann := A_slices_xorshift_Next) (args := [(Value.pointer g0_r)]) mixedPP Try.func44 (c := bodyOf Try.f44) (by kernel_rfl) (by kernel_rfl) (by kernel_rfl) (Eq.mpr (E_slices_xorshift_Next g0_r h Q) H)
def F_slices_breakPatternsOrdered_int (g0_data : Sl) (g1_a : Int) (g2_b : Int) (h : Hp) (Q : List Value → Hp → Prop) : Prop :=
(if (decide ((IntKind.wrap .i64 (g2_b - g1_a)) ≥ (8 : Int))) = true then
  (wth (Array.push h (Obj.cells #[(Value.int .u64 (0 : Int))] T_slices_xorshift)) fun h1 =>
    stOk h1 (Addr.mk (Array.size h) 0 none) 1 ∧ wth (wrs h1 (Addr.mk (Array.size h) 0 none) 0 [(Value.int .u64 (IntKind.wrap .u64 (IntKind.wrap .i64 (g2_b - g1_a))))]) fun h2 =>
    S_slices_nextPowerOfTwo (IntKind.wrap .i64 (g2_b - g1_a)) h2 fun (vs3 : List Value) (h4 : Hp) =>
    ∃ n5 : Int, vs3 = [(Value.int .u64 n5)] ∧
    divOk (4 : Int) (∀ X6 : List Value → Hp → Prop, (∀ n7 : Int, ∀ h8 : Hp, (divOk (4 : Int) ((if (decide (n7 ≤ (IntKind.wrap .i64 ((IntKind.wrap .i64 (g1_a + (IntKind.wrap .i64 ((IntKind.wrap .i64 (Int.tdiv (IntKind.wrap .i64 (g2_b - g1_a)) (4 : Int))) * (2 : Int))))) + (1 : Int))))) = true then
              (S_slices_xorshift_Next (some (Addr.mk (Array.size h) 0 none)) h8 fun (vs9 : List Value) (h10 : Hp) =>
                ∃ n11 : Int, vs9 = [(Value.int .u64 n11)] ∧
                ∀ J12 : List Value → Hp → Prop, (∀ n13 : Int, ∀ h14 : Hp, (nilW g0_data.a fun a15 => ixOk (IntKind.wrap .i64 (g1_a + n13)) g0_data.n (∃ n16 : Int, rd h14 (Addr.add a15 (Int.toNat (IntKind.wrap .i64 (g1_a + n13)) * 1)) = some (Value.int .i64 n16) ∧
                      nilW g0_data.a fun a17 => ixOk n7 g0_data.n (∃ n18 : Int, rd h14 (Addr.add a17 (Int.toNat n7 * 1)) = some (Value.int .i64 n18) ∧
                        nilW g0_data.a fun a19 => ixOk n7 g0_data.n (stOk h14 (Addr.add a19 (Int.toNat n7 * 1)) 1 ∧ wth (wrs h14 (Addr.add a19 (Int.toNat n7 * 1)) 0 [(Value.int .i64 n16)]) fun h20 =>
                          nilW g0_data.a fun a21 => ixOk (IntKind.wrap .i64 (g1_a + n13)) g0_data.n (stOk h20 (Addr.add a21 (Int.toNat (IntKind.wrap .i64 (g1_a + n13)) * 1)) 1 ∧ wth (wrs h20 (Addr.add a21 (Int.toNat (IntKind.wrap .i64 (g1_a + n13)) * 1)) 0 [(Value.int .i64 n18)]) fun h22 =>
                            X6 [(Value.int .i64 (IntKind.wrap .i64 (n7 + (1 : Int))))] h22))))) → J12 [(Value.int .i64 n13)] h14) →
                (if (decide ((IntKind.wrap .i64 (iAnd .u64 n11 (IntKind.wrap .u64 (n5 - (1 : Int))))) ≥ (IntKind.wrap .i64 (g2_b - g1_a)))) = true then
                  (J12 [(Value.int .i64 (IntKind.wrap .i64 ((IntKind.wrap .i64 (iAnd .u64 n11 (IntKind.wrap .u64 (n5 - (1 : Int))))) - (IntKind.wrap .i64 (g2_b - g1_a)))))] h10) else
                  (J12 [(Value.int .i64 (IntKind.wrap .i64 (iAnd .u64 n11 (IntKind.wrap .u64 (n5 - (1 : Int))))))] h10))) else
              (Q [] h8)))) → X6 [(Value.int .i64 n7)] h8) →
      X6 [(Value.int .i64 (IntKind.wrap .i64 ((IntKind.wrap .i64 (g1_a + (IntKind.wrap .i64 ((IntKind.wrap .i64 (Int.tdiv (IntKind.wrap .i64 (g2_b - g1_a)) (4 : Int))) * (2 : Int))))) - (1 : Int))))] h4)) else
  (Q [] h))
def A_slices_breakPatternsOrdered_int : Ann := (.mk none ⟨[], []⟩ .nil (.mk none ⟨[], []⟩ .nil (.mk none ⟨[], []⟩ (.mk none ⟨[], []⟩ .nil (.mk none ⟨[], []⟩ .nil (.mk none ⟨[], []⟩ .nil (.mk none ⟨[], []⟩ (.mk none ⟨[0, 1, 6, 7, 8], [(9, (.c (.int .i64)))]⟩ (.mk none ⟨[], []⟩ .nil (.mk none ⟨[], []⟩ (.mk none ⟨[], []⟩ (.mk none ⟨[], []⟩ .nil (.mk none ⟨[], []⟩ (.mk none ⟨[], []⟩ .nil (.mk (some ⟨[0, 1, 6, 7, 8, 9], [(10, (.c (.int .i64)))]⟩) ⟨[], []⟩ .nil .nil)) .nil)) .nil) .nil)) .nil) .nil)))) .nil)))
theorem E_slices_breakPatternsOrdered_int (g0_data : Sl) (g1_a : Int) (g2_b : Int) (h : Hp) (Q : List Value → Hp → Prop) : cw PP 65 (fun _ => []) (bodyOf Try.f33) A_slices_breakPatternsOrdered_int (finQ PP (Try.f33.results.toList) Q) (argFr [(Value.slice g0_data.a g0_data.n g0_data.c), (Value.int .i64 g1_a), (Value.int .i64 g2_b)]) h = F_slices_breakPatternsOrdered_int g0_data g1_a g2_b h Q := by kernel_rfl
theorem O_slices_breakPatternsOrdered_int (g0_data : Sl) (g1_a : Int) (g2_b : Int) {h : Hp} {Q : List Value → Hp → Prop} (H : F_slices_breakPatternsOrdered_int g0_data g1_a g2_b h Q) : S_slices_breakPatternsOrdered_int g0_data g1_a g2_b h Q :=
  fn_of_cw (hs := (fun _ => [])) (ann := A_slices_breakPatternsOrdered_int) (args := [(Value.slice g0_data.a g0_data.n g0_data.c), (Value.int .i64 g1_a), (Value.int .i64 g2_b)]) mixedPP Try.func33 (c := bodyOf Try.f33) (by kernel_rfl) (by kernel_rfl) (by kernel_rfl) (Eq.mpr (E_slices_breakPatternsOrdered_int g0_data g1_a g2_b h Q) H)
def F_slices_order2Ordered_int (g0_data : Sl) (g1_a : Int) (g2_b : Int) (g3_swaps : Option Addr) (h : Hp) (Q : List Value → Hp → Prop) : Prop :=
nilW g0_data.a fun a1 => ixOk g2_b g0_data.n (∃ n2 : Int, rd h (Addr.add a1 (Int.toNat g2_b * 1)) = some (Value.int .i64 n2) ∧
  nilW g0_data.a fun a3 => ixOk g1_a g0_data.n (∃ n4 : Int, rd h (Addr.add a3 (Int.toNat g1_a * 1)) = some (Value.int .i64 n4) ∧
    S_cmp_Less_int n2 n4 h fun (vs5 : List Value) (h6 : Hp) =>
    ∃ b7 : Bool, vs5 = [(Value.bool b7)] ∧
    (if b7 = true then
      (nilW g3_swaps fun a8 => ∃ n9 : Int, rd h6 a8 = some (Value.int .i64 n9) ∧
        nilW g3_swaps fun a10 => stOk h6 a10 1 ∧ wth (wrs h6 a10 0 [(Value.int .i64 (IntKind.wrap .i64 (n9 + (1 : Int))))]) fun h11 =>
        Q [(Value.int .i64 g2_b), (Value.int .i64 g1_a)] h11) else
      (Q [(Value.int .i64 g1_a), (Value.int .i64 g2_b)] h6))))
def A_slices_order2Ordered_int : Ann := .nil
theorem E_slices_order2Ordered_int (g0_data : Sl) (g1_a : Int) (g2_b : Int) (g3_swaps : Option Addr) (h : Hp) (Q : List Value → Hp → Prop) : cw PP 28 (fun _ => []) (bodyOf Try.f48) A_slices_order2Ordered_int (finQ PP (Try.f48.results.toList) Q) (argFr [(Value.slice g0_data.a g0_data.n g0_data.c), (Value.int .i64 g1_a), (Value.int .i64 g2_b), (Value.pointer g3_swaps)]) h = F_slices_order2Ordered_int g0_data g1_a g2_b g3_swaps h Q := by kernel_rfl
theorem O_slices_order2Ordered_int (g0_data : Sl) (g1_a : Int) (g2_b : Int) (g3_swaps : Option Addr) {h : Hp} {Q : List Value → Hp → Prop} (H : F_slices_order2Ordered_int g0_data g1_a g2_b g3_swaps h Q) : S_slices_order2Ordered_int g0_data g1_a g2_b g3_swaps h Q :=
  fn_of_cw (hs := (fun _ => [])) (ann := A_slices_order2Ordered_int) (args := [(Value.slice g0_data.a g0_data.n g0_data.c), (Value.int .i64 g1_a), (Value.int .i64 g2_b), (Value.pointer g3_swaps)]) mixedPP Try.func48 (c := bodyOf Try.f48) (by kernel_rfl) (by kernel_rfl) (by kernel_rfl) (Eq.mpr (E_slices_order2Ordered_int g0_data g1_a g2_b g3_swaps h Q) H)
def F_slices_medianOrdered_int (g0_data : Sl) (g1_a : Int) (g2_b : Int) (g3_c : Int) (g4_swaps : Option Addr) (h : Hp) (Q : List Value → Hp → Prop) : Prop :=
S_slices_order2Ordered_int ⟨g0_data.a, g0_data.n, g0_data.c⟩ g1_a g2_b g4_swaps h fun (vs1 : List Value) (h2 : Hp) =>
∃ n3 : Int, ∃ n4 : Int, vs1 = [(Value.int .i64 n3), (Value.int .i64 n4)] ∧
S_slices_order2Ordered_int ⟨g0_data.a, g0_data.n, g0_data.c⟩ n4 g3_c g4_swaps h2 fun (vs5 : List Value) (h6 : Hp) =>
∃ n7 : Int, ∃ n8 : Int, vs5 = [(Value.int .i64 n7), (Value.int .i64 n8)] ∧
S_slices_order2Ordered_int ⟨g0_data.a, g0_data.n, g0_data.c⟩ n3 n7 g4_swaps h6 fun (vs9 : List Value) (h10 : Hp) =>
∃ n11 : Int, ∃ n12 : Int, vs9 = [(Value.int .i64 n11), (Value.int .i64 n12)] ∧
Q [(Value.int .i64 n12)] h10
def A_slices_medianOrdered_int : Ann := .nil
theorem E_slices_medianOrdered_int (g0_data : Sl) (g1_a : Int) (g2_b : Int) (g3_c : Int) (g4_swaps : Option Addr) (h : Hp) (Q : List Value → Hp → Prop) : cw PP 36 (fun _ => []) (bodyOf Try.f46) A_slices_medianOrdered_int (finQ PP (Try.f46.results.toList) Q) (argFr [(Value.slice g0_data.a g0_data.n g0_data.c), (Value.int .i64 g1_a), (Value.int .i64 g2_b), (Value.int .i64 g3_c), (Value.pointer g4_swaps)]) h = F_slices_medianOrdered_int g0_data g1_a g2_b g3_c g4_swaps h Q := by kernel_rfl
theorem O_slices_medianOrdered_int (g0_data : Sl) (g1_a : Int) (g2_b : Int) (g3_c : Int) (g4_swaps : Option Addr) {h : Hp} {Q : List Value → Hp → Prop} (H : F_slices_medianOrdered_int g0_data g1_a g2_b g3_c g4_swaps h Q) : S_slices_medianOrdered_int g0_data g1_a g2_b g3_c g4_swaps h Q :=
  fn_of_cw (hs := (fun _ => [])) (ann := A_slices_medianOrdered_int) (args := [(Value.slice g0_data.a g0_data.n g0_data.c), (Value.int .i64 g1_a), (Value.int .i64 g2_b), (Value.int .i64 g3_c), (Value.pointer g4_swaps)]) mixedPP Try.func46 (c := bodyOf Try.f46) (by kernel_rfl) (by kernel_rfl) (by kernel_rfl) (Eq.mpr (E_slices_medianOrdered_int g0_data g1_a g2_b g3_c g4_swaps h Q) H)
def F_slices_medianAdjacentOrdered_int (g0_data : Sl) (g1_a : Int) (g2_swaps : Option Addr) (h : Hp) (Q : List Value → Hp → Prop) : Prop :=
S_slices_medianOrdered_int ⟨g0_data.a, g0_data.n, g0_data.c⟩ (IntKind.wrap .i64 (g1_a - (1 : Int))) g1_a (IntKind.wrap .i64 (g1_a + (1 : Int))) g2_swaps h fun (vs1 : List Value) (h2 : Hp) =>
∃ n3 : Int, vs1 = [(Value.int .i64 n3)] ∧
Q [(Value.int .i64 n3)] h2
def A_slices_medianAdjacentOrdered_int : Ann := .nil
theorem E_slices_medianAdjacentOrdered_int (g0_data : Sl) (g1_a : Int) (g2_swaps : Option Addr) (h : Hp) (Q : List Value → Hp → Prop) : cw PP 15 (fun _ => []) (bodyOf Try.f45) A_slices_medianAdjacentOrdered_int (finQ PP (Try.f45.results.toList) Q) (argFr [(Value.slice g0_data.a g0_data.n g0_data.c), (Value.int .i64 g1_a), (Value.pointer g2_swaps)]) h = F_slices_medianAdjacentOrdered_int g0_data g1_a g2_swaps h Q := by kernel_rfl
theorem O_slices_medianAdjacentOrdered_int (g0_data : Sl) (g1_a : Int) (g2_swaps : Option Addr) {h : Hp} {Q : List Value → Hp → Prop} (H : F_slices_medianAdjacentOrdered_int g0_data g1_a g2_swaps h Q) : S_slices_medianAdjacentOrdered_int g0_data g1_a g2_swaps h Q :=
  fn_of_cw (hs := (fun _ => [])) (ann := A_slices_medianAdjacentOrdered_int) (args := [(Value.slice g0_data.a g0_data.n g0_data.c), (Value.int .i64 g1_a), (Value.pointer g2_swaps)]) mixedPP Try.func45 (c := bodyOf Try.f45) (by kernel_rfl) (by kernel_rfl) (by kernel_rfl) (Eq.mpr (E_slices_medianAdjacentOrdered_int g0_data g1_a g2_swaps h Q) H)
def F_slices_choosePivotOrdered_int (g0_data : Sl) (g1_a : Int) (g2_b : Int) (h : Hp) (Q : List Value → Hp → Prop) : Prop :=
wth (Array.push h (Obj.cells #[(Value.int .i64 (0 : Int))] T_int)) fun h1 =>
divOk (4 : Int) (divOk (4 : Int) (divOk (4 : Int) (∀ J2 : List Value → Hp → Prop, (∀ n3 : Int, ∀ h4 : Hp, (∃ n5 : Int, rd h4 (Addr.mk (Array.size h) 0 none) = some (Value.int .i64 n5) ∧
          (if (n5 == (0 : Int)) = true then
            (Q [(Value.int .i64 n3), (Value.int .i64 (1 : Int))] h4) else
            ((if (n5 == (12 : Int)) = true then
                (Q [(Value.int .i64 n3), (Value.int .i64 (2 : Int))] h4) else
                (Q [(Value.int .i64 n3), (Value.int .i64 (0 : Int))] h4))))) → J2 [(Value.int .i64 n3)] h4) →
      (if (decide ((IntKind.wrap .i64 (g2_b - g1_a)) ≥ (8 : Int))) = true then
        (∀ J6 : List Value → Hp → Prop, (∀ n7 : Int, ∀ n8 : Int, ∀ n9 : Int, ∀ h10 : Hp, (S_slices_medianOrdered_int ⟨g0_data.a, g0_data.n, g0_data.c⟩ n7 n8 n9 (some (Addr.mk (Array.size h) 0 none)) h10 fun (vs11 : List Value) (h12 : Hp) =>
              ∃ n13 : Int, vs11 = [(Value.int .i64 n13)] ∧
              J2 [(Value.int .i64 n13)] h12) → J6 [(Value.int .i64 n7), (Value.int .i64 n8), (Value.int .i64 n9)] h10) →
          (if (decide ((IntKind.wrap .i64 (g2_b - g1_a)) ≥ (50 : Int))) = true then
            (S_slices_medianAdjacentOrdered_int ⟨g0_data.a, g0_data.n, g0_data.c⟩ (IntKind.wrap .i64 (g1_a + (IntKind.wrap .i64 ((IntKind.wrap .i64 (Int.tdiv (IntKind.wrap .i64 (g2_b - g1_a)) (4 : Int))) * (1 : Int))))) (some (Addr.mk (Array.size h) 0 none)) h1 fun (vs14 : List Value) (h15 : Hp) =>
              ∃ n16 : Int, vs14 = [(Value.int .i64 n16)] ∧
              S_slices_medianAdjacentOrdered_int ⟨g0_data.a, g0_data.n, g0_data.c⟩ (IntKind.wrap .i64 (g1_a + (IntKind.wrap .i64 ((IntKind.wrap .i64 (Int.tdiv (IntKind.wrap .i64 (g2_b - g1_a)) (4 : Int))) * (2 : Int))))) (some (Addr.mk (Array.size h) 0 none)) h15 fun (vs17 : List Value) (h18 : Hp) =>
              ∃ n19 : Int, vs17 = [(Value.int .i64 n19)] ∧
              S_slices_medianAdjacentOrdered_int ⟨g0_data.a, g0_data.n, g0_data.c⟩ (IntKind.wrap .i64 (g1_a + (IntKind.wrap .i64 ((IntKind.wrap .i64 (Int.tdiv (IntKind.wrap .i64 (g2_b - g1_a)) (4 : Int))) * (3 : Int))))) (some (Addr.mk (Array.size h) 0 none)) h18 fun (vs20 : List Value) (h21 : Hp) =>
              ∃ n22 : Int, vs20 = [(Value.int .i64 n22)] ∧
              J6 [(Value.int .i64 n16), (Value.int .i64 n19), (Value.int .i64 n22)] h21) else
            (J6 [(Value.int .i64 (IntKind.wrap .i64 (g1_a + (IntKind.wrap .i64 ((IntKind.wrap .i64 (Int.tdiv (IntKind.wrap .i64 (g2_b - g1_a)) (4 : Int))) * (1 : Int)))))), (Value.int .i64 (IntKind.wrap .i64 (g1_a + (IntKind.wrap .i64 ((IntKind.wrap .i64 (Int.tdiv (IntKind.wrap .i64 (g2_b - g1_a)) (4 : Int))) * (2 : Int)))))), (Value.int .i64 (IntKind.wrap .i64 (g1_a + (IntKind.wrap .i64 ((IntKind.wrap .i64 (Int.tdiv (IntKind.wrap .i64 (g2_b - g1_a)) (4 : Int))) * (3 : Int))))))] h1))) else
        (J2 [(Value.int .i64 (IntKind.wrap .i64 (g1_a + (IntKind.wrap .i64 ((IntKind.wrap .i64 (Int.tdiv (IntKind.wrap .i64 (g2_b - g1_a)) (4 : Int))) * (2 : Int))))))] h1)))))
def A_slices_choosePivotOrdered_int : Ann := (.mk none ⟨[], []⟩ .nil (.mk none ⟨[], []⟩ .nil (.mk none ⟨[], []⟩ .nil (.mk none ⟨[], []⟩ .nil (.mk none ⟨[], []⟩ .nil (.mk none ⟨[], []⟩ .nil (.mk none ⟨[], []⟩ (.mk none ⟨[], []⟩ .nil (.mk (some ⟨[9], [(11, (.c (.int .i64)))]⟩) ⟨[], []⟩ (.mk none ⟨[], []⟩ (.mk none ⟨[], []⟩ .nil (.mk (some ⟨[0, 9], [(10, (.c (.int .i64))), (11, (.c (.int .i64))), (12, (.c (.int .i64)))]⟩) ⟨[], []⟩ .nil .nil)) .nil) .nil)) .nil)))))))
theorem E_slices_choosePivotOrdered_int (g0_data : Sl) (g1_a : Int) (g2_b : Int) (h : Hp) (Q : List Value → Hp → Prop) : cw PP 57 (fun _ => []) (bodyOf Try.f34) A_slices_choosePivotOrdered_int (finQ PP (Try.f34.results.toList) Q) (argFr [(Value.slice g0_data.a g0_data.n g0_data.c), (Value.int .i64 g1_a), (Value.int .i64 g2_b)]) h = F_slices_choosePivotOrdered_int g0_data g1_a g2_b h Q := by kernel_rfl
theorem O_slices_choosePivotOrdered_int (g0_data : Sl) (g1_a : Int) (g2_b : Int) {h : Hp} {Q : List Value → Hp → Prop} (H : F_slices_choosePivotOrdered_int g0_data g1_a g2_b h Q) : S_slices_choosePivotOrdered_int g0_data g1_a g2_b h Q :=
  fn_of_cw (hs := (fun _ => [])) (ann := A_slices_choosePivotOrdered_int) (args := [(Value.slice g0_data.a g0_data.n g0_data.c), (Value.int .i64 g1_a), (Value.int .i64 g2_b)]) mixedPP Try.func34 (c := bodyOf Try.f34) (by kernel_rfl) (by kernel_rfl) (by kernel_rfl) (Eq.mpr (E_slices_choosePivotOrdered_int g0_data g1_a g2_b h Q) H)
def F_slices_reverseRangeOrdered_int (g0_data : Sl) (g1_a : Int) (g2_b : Int) (h : Hp) (Q : List Value → Hp → Prop) : Prop :=
∀ X1 : List Value → Hp → Prop, (∀ n2 : Int, ∀ n3 : Int, ∀ h4 : Hp, ((if (decide (n2 < n3)) = true then
      (nilW g0_data.a fun a5 => ixOk n3 g0_data.n (∃ n6 : Int, rd h4 (Addr.add a5 (Int.toNat n3 * 1)) = some (Value.int .i64 n6) ∧
          nilW g0_data.a fun a7 => ixOk n2 g0_data.n (∃ n8 : Int, rd h4 (Addr.add a7 (Int.toNat n2 * 1)) = some (Value.int .i64 n8) ∧
            nilW g0_data.a fun a9 => ixOk n2 g0_data.n (stOk h4 (Addr.add a9 (Int.toNat n2 * 1)) 1 ∧ wth (wrs h4 (Addr.add a9 (Int.toNat n2 * 1)) 0 [(Value.int .i64 n6)]) fun h10 =>
              nilW g0_data.a fun a11 => ixOk n3 g0_data.n (stOk h10 (Addr.add a11 (Int.toNat n3 * 1)) 1 ∧ wth (wrs h10 (Addr.add a11 (Int.toNat n3 * 1)) 0 [(Value.int .i64 n8)]) fun h12 =>
                X1 [(Value.int .i64 (IntKind.wrap .i64 (n2 + (1 : Int)))), (Value.int .i64 (IntKind.wrap .i64 (n3 - (1 : Int))))] h12))))) else
      (Q [] h4))) → X1 [(Value.int .i64 n2), (Value.int .i64 n3)] h4) →
X1 [(Value.int .i64 g1_a), (Value.int .i64 (IntKind.wrap .i64 (g2_b - (1 : Int))))] h
def A_slices_reverseRangeOrdered_int : Ann := (.mk none ⟨[], []⟩ .nil (.mk none ⟨[], []⟩ .nil (.mk none ⟨[], []⟩ (.mk none ⟨[0], [(6, (.c (.int .i64))), (7, (.c (.int .i64)))]⟩ .nil .nil) .nil)))
theorem E_slices_reverseRangeOrdered_int (g0_data : Sl) (g1_a : Int) (g2_b : Int) (h : Hp) (Q : List Value → Hp → Prop) : cw PP 32 (fun _ => []) (bodyOf Try.f35) A_slices_reverseRangeOrdered_int (finQ PP (Try.f35.results.toList) Q) (argFr [(Value.slice g0_data.a g0_data.n g0_data.c), (Value.int .i64 g1_a), (Value.int .i64 g2_b)]) h = F_slices_reverseRangeOrdered_int g0_data g1_a g2_b h Q := by kernel_rfl
theorem O_slices_reverseRangeOrdered_int (g0_data : Sl) (g1_a : Int) (g2_b : Int) {h : Hp} {Q : List Value → Hp → Prop} (H : F_slices_reverseRangeOrdered_int g0_data g1_a g2_b h Q) : S_slices_reverseRangeOrdered_int g0_data g1_a g2_b h Q :=
  fn_of_cw (hs := (fun _ => [])) (ann := A_slices_reverseRangeOrdered_int) (args := [(Value.slice g0_data.a g0_data.n g0_data.c), (Value.int .i64 g1_a), (Value.int .i64 g2_b)]) mixedPP Try.func35 (c := bodyOf Try.f35) (by kernel_rfl) (by kernel_rfl) (by kernel_rfl) (Eq.mpr (E_slices_reverseRangeOrdered_int g0_data g1_a g2_b h Q) H)
def F_slices_partialInsertionSortOrdered_int (g0_data : Sl) (g1_a : Int) (g2_b : Int) (h : Hp) (Q : List Value → Hp → Prop) : Prop :=
∀ X1 : List Value → Hp → Prop, (∀ n2 : Int, ∀ n3 : Int, ∀ h4 : Hp, ((if (decide (n3 < (5 : Int))) = true then
      (∀ J5 : List Value → Hp → Prop, (∀ n6 : Int, ∀ h7 : Hp, (X1 [(Value.int .i64 n6), (Value.int .i64 (IntKind.wrap .i64 (n3 + (1 : Int))))] h7) → J5 [(Value.int .i64 n6)] h7) →
        ∀ X8 : List Value → Hp → Prop, (∀ n9 : Int, ∀ h10 : Hp, (∀ J11 : List Value → Hp → Prop, (∀ b12 : Bool, ∀ h13 : Hp, ((if b12 = true then
                  (X8 [(Value.int .i64 (IntKind.wrap .i64 (n9 + (1 : Int))))] h13) else
                  ((if (n9 == g2_b) = true then
                      (Q [(Value.bool true)] h13) else
                      ((if (decide ((IntKind.wrap .i64 (g2_b - g1_a)) < (50 : Int))) = true then
                          (Q [(Value.bool false)] h13) else
                          (nilW g0_data.a fun a14 => ixOk (IntKind.wrap .i64 (n9 - (1 : Int))) g0_data.n (∃ n15 : Int, rd h13 (Addr.add a14 (Int.toNat (IntKind.wrap .i64 (n9 - (1 : Int))) * 1)) = some (Value.int .i64 n15) ∧
                              nilW g0_data.a fun a16 => ixOk n9 g0_data.n (∃ n17 : Int, rd h13 (Addr.add a16 (Int.toNat n9 * 1)) = some (Value.int .i64 n17) ∧
                                nilW g0_data.a fun a18 => ixOk n9 g0_data.n (stOk h13 (Addr.add a18 (Int.toNat n9 * 1)) 1 ∧ wth (wrs h13 (Addr.add a18 (Int.toNat n9 * 1)) 0 [(Value.int .i64 n15)]) fun h19 =>
                                  nilW g0_data.a fun a20 => ixOk (IntKind.wrap .i64 (n9 - (1 : Int))) g0_data.n (stOk h19 (Addr.add a20 (Int.toNat (IntKind.wrap .i64 (n9 - (1 : Int))) * 1)) 1 ∧ wth (wrs h19 (Addr.add a20 (Int.toNat (IntKind.wrap .i64 (n9 - (1 : Int))) * 1)) 0 [(Value.int .i64 n17)]) fun h21 =>
                                    ∀ J22 : List Value → Hp → Prop, (∀ h23 : Hp, ((if (decide ((IntKind.wrap .i64 (g2_b - n9)) ≥ (2 : Int))) = true then
                                          (∀ X24 : List Value → Hp → Prop, (∀ n25 : Int, ∀ h26 : Hp, ((if (decide (n25 < g2_b)) = true then
                                                  (nilW g0_data.a fun a27 => ixOk n25 g0_data.n (∃ n28 : Int, rd h26 (Addr.add a27 (Int.toNat n25 * 1)) = some (Value.int .i64 n28) ∧
                                                      nilW g0_data.a fun a29 => ixOk (IntKind.wrap .i64 (n25 - (1 : Int))) g0_data.n (∃ n30 : Int, rd h26 (Addr.add a29 (Int.toNat (IntKind.wrap .i64 (n25 - (1 : Int))) * 1)) = some (Value.int .i64 n30) ∧
                                                        S_cmp_Less_int n28 n30 h26 fun (vs31 : List Value) (h32 : Hp) =>
                                                        ∃ b33 : Bool, vs31 = [(Value.bool b33)] ∧
                                                        (if (!b33) = true then
                                                          (J5 [(Value.int .i64 n9)] h32) else
                                                          (nilW g0_data.a fun a34 => ixOk (IntKind.wrap .i64 (n25 - (1 : Int))) g0_data.n (∃ n35 : Int, rd h32 (Addr.add a34 (Int.toNat (IntKind.wrap .i64 (n25 - (1 : Int))) * 1)) = some (Value.int .i64 n35) ∧
                                                            nilW g0_data.a fun a36 => ixOk n25 g0_data.n (∃ n37 : Int, rd h32 (Addr.add a36 (Int.toNat n25 * 1)) = some (Value.int .i64 n37) ∧
                                                            nilW g0_data.a fun a38 => ixOk n25 g0_data.n (stOk h32 (Addr.add a38 (Int.toNat n25 * 1)) 1 ∧ wth (wrs h32 (Addr.add a38 (Int.toNat n25 * 1)) 0 [(Value.int .i64 n35)]) fun h39 =>
                                                            nilW g0_data.a fun a40 => ixOk (IntKind.wrap .i64 (n25 - (1 : Int))) g0_data.n (stOk h39 (Addr.add a40 (Int.toNat (IntKind.wrap .i64 (n25 - (1 : Int))) * 1)) 1 ∧ wth (wrs h39 (Addr.add a40 (Int.toNat (IntKind.wrap .i64 (n25 - (1 : Int))) * 1)) 0 [(Value.int .i64 n37)]) fun h41 =>
                                                            X24 [(Value.int .i64 (IntKind.wrap .i64 (n25 + (1 : Int))))] h41))))))))) else
                                                  (J5 [(Value.int .i64 n9)] h26))) → X24 [(Value.int .i64 n25)] h26) →
                                            X24 [(Value.int .i64 (IntKind.wrap .i64 (n9 + (1 : Int))))] h23) else
                                          (J5 [(Value.int .i64 n9)] h23))) → J22 [] h23) →
                                    (if (decide ((IntKind.wrap .i64 (n9 - g1_a)) ≥ (2 : Int))) = true then
                                      (∀ X42 : List Value → Hp → Prop, (∀ n43 : Int, ∀ h44 : Hp, ((if (decide (n43 ≥ (1 : Int))) = true then
                                              (nilW g0_data.a fun a45 => ixOk n43 g0_data.n (∃ n46 : Int, rd h44 (Addr.add a45 (Int.toNat n43 * 1)) = some (Value.int .i64 n46) ∧
                                                  nilW g0_data.a fun a47 => ixOk (IntKind.wrap .i64 (n43 - (1 : Int))) g0_data.n (∃ n48 : Int, rd h44 (Addr.add a47 (Int.toNat (IntKind.wrap .i64 (n43 - (1 : Int))) * 1)) = some (Value.int .i64 n48) ∧
                                                    S_cmp_Less_int n46 n48 h44 fun (vs49 : List Value) (h50 : Hp) =>
                                                    ∃ b51 : Bool, vs49 = [(Value.bool b51)] ∧
                                                    (if (!b51) = true then
                                                      (J22 [] h50) else
                                                      (nilW g0_data.a fun a52 => ixOk (IntKind.wrap .i64 (n43 - (1 : Int))) g0_data.n (∃ n53 : Int, rd h50 (Addr.add a52 (Int.toNat (IntKind.wrap .i64 (n43 - (1 : Int))) * 1)) = some (Value.int .i64 n53) ∧
                                                          nilW g0_data.a fun a54 => ixOk n43 g0_data.n (∃ n55 : Int, rd h50 (Addr.add a54 (Int.toNat n43 * 1)) = some (Value.int .i64 n55) ∧
                                                            nilW g0_data.a fun a56 => ixOk n43 g0_data.n (stOk h50 (Addr.add a56 (Int.toNat n43 * 1)) 1 ∧ wth (wrs h50 (Addr.add a56 (Int.toNat n43 * 1)) 0 [(Value.int .i64 n53)]) fun h57 =>
                                                            nilW g0_data.a fun a58 => ixOk (IntKind.wrap .i64 (n43 - (1 : Int))) g0_data.n (stOk h57 (Addr.add a58 (Int.toNat (IntKind.wrap .i64 (n43 - (1 : Int))) * 1)) 1 ∧ wth (wrs h57 (Addr.add a58 (Int.toNat (IntKind.wrap .i64 (n43 - (1 : Int))) * 1)) 0 [(Value.int .i64 n55)]) fun h59 =>
                                                            X42 [(Value.int .i64 (IntKind.wrap .i64 (n43 - (1 : Int))))] h59))))))))) else
                                              (J22 [] h44))) → X42 [(Value.int .i64 n43)] h44) →
                                        X42 [(Value.int .i64 (IntKind.wrap .i64 (n9 - (1 : Int))))] h21) else
                                      (J22 [] h21))))))))))))) → J11 [(Value.bool b12)] h13) →
            (if (decide (n9 < g2_b)) = true then (nilW g0_data.a fun a60 => ixOk n9 g0_data.n (∃ n61 : Int, rd h10 (Addr.add a60 (Int.toNat n9 * 1)) = some (Value.int .i64 n61) ∧
                  nilW g0_data.a fun a62 => ixOk (IntKind.wrap .i64 (n9 - (1 : Int))) g0_data.n (∃ n63 : Int, rd h10 (Addr.add a62 (Int.toNat (IntKind.wrap .i64 (n9 - (1 : Int))) * 1)) = some (Value.int .i64 n63) ∧
                    S_cmp_Less_int n61 n63 h10 fun (vs64 : List Value) (h65 : Hp) =>
                    ∃ b66 : Bool, vs64 = [(Value.bool b66)] ∧
                    J11 [(Value.bool (!b66))] h65))) else
              (J11 [(Value.bool false)] h10))) → X8 [(Value.int .i64 n9)] h10) →
        X8 [(Value.int .i64 n2)] h4) else
      (Q [(Value.bool false)] h4))) → X1 [(Value.int .i64 n2), (Value.int .i64 n3)] h4) →
X1 [(Value.int .i64 (IntKind.wrap .i64 (g1_a + (1 : Int)))), (Value.int .i64 (0 : Int))] h
def A_slices_partialInsertionSortOrdered_int : Ann := (.mk none ⟨[], []⟩ .nil (.mk none ⟨[], []⟩ .nil (.mk none ⟨[], []⟩ (.mk none ⟨[], []⟩ .nil (.mk none ⟨[], []⟩ (.mk none ⟨[0, 1, 2], [(7, (.c (.int .i64))), (8, (.c (.int .i64)))]⟩ (.mk none ⟨[], []⟩ .nil (.mk none ⟨[], []⟩ (.mk (some ⟨[0, 1, 2, 8], [(7, (.c (.int .i64)))]⟩) ⟨[], []⟩ (.mk none ⟨[], []⟩ (.mk none ⟨[], []⟩ (.mk none ⟨[0, 1, 2, 8], [(7, (.c (.int .i64)))]⟩ (.mk none ⟨[], []⟩ (.mk none ⟨[], []⟩ (.mk (some ⟨[0, 1, 2, 7, 8], [(32, (.c .bool))]⟩) ⟨[], []⟩ .nil .nil) .nil) .nil) .nil) .nil) (.mk none ⟨[], []⟩ .nil (.mk none ⟨[], []⟩ .nil (.mk none ⟨[], []⟩ .nil (.mk none ⟨[], []⟩ (.mk none ⟨[], []⟩ .nil (.mk (some ⟨[0, 1, 2, 7, 8], []⟩) ⟨[], []⟩ (.mk none ⟨[], []⟩ .nil (.mk none ⟨[], []⟩ (.mk none ⟨[0, 1, 2, 7, 8], [(9, (.c (.int .i64)))]⟩ .nil .nil) .nil)) .nil)) (.mk none ⟨[], []⟩ .nil (.mk none ⟨[], []⟩ (.mk none ⟨[], []⟩ .nil (.mk none ⟨[], []⟩ (.mk none ⟨[0, 1, 2, 7, 8], [(10, (.c (.int .i64)))]⟩ .nil .nil) .nil)) .nil))))))) .nil) .nil)) .nil) .nil)) .nil)))
theorem E_slices_partialInsertionSortOrdered_int (g0_data : Sl) (g1_a : Int) (g2_b : Int) (h : Hp) (Q : List Value → Hp → Prop) : cw PP 133 (fun _ => []) (bodyOf Try.f36) A_slices_partialInsertionSortOrdered_int (finQ PP (Try.f36.results.toList) Q) (argFr [(Value.slice g0_data.a g0_data.n g0_data.c), (Value.int .i64 g1_a), (Value.int .i64 g2_b)]) h = F_slices_partialInsertionSortOrdered_int g0_data g1_a g2_b h Q := by kernel_rfl
theorem O_slices_partialInsertionSortOrdered_int (g0_data : Sl) (g1_a : Int) (g2_b : Int) {h : Hp} {Q : List Value → Hp → Prop} (H : F_slices_partialInsertionSortOrdered_int g0_data g1_a g2_b h Q) : S_slices_partialInsertionSortOrdered_int g0_data g1_a g2_b h Q :=
  fn_of_cw (hs := (fun _ => [])) (ann := A_slices_partialInsertionSortOrdered_int) (args := [(Value.slice g0_data.a g0_data.n g0_data.c), (Value.int .i64 g1_a), (Value.int .i64 g2_b)]) mixedPP Try.func36 (c := bodyOf Try.f36) (by kernel_rfl) (by kernel_rfl) (by kernel_rfl) (Eq.mpr (E_slices_partialInsertionSortOrdered_int g0_data g1_a g2_b h Q) H)
def F_slices_partitionEqualOrdered_int (g0_data : Sl) (g1_a : Int) (g2_b : Int) (g3_pivot : Int) (h : Hp) (Q : List Value → Hp → Prop) : Prop :=
nilW g0_data.a fun a1 => ixOk g3_pivot g0_data.n (∃ n2 : Int, rd h (Addr.add a1 (Int.toNat g3_pivot * 1)) = some (Value.int .i64 n2) ∧
  nilW g0_data.a fun a3 => ixOk g1_a g0_data.n (∃ n4 : Int, rd h (Addr.add a3 (Int.toNat g1_a * 1)) = some (Value.int .i64 n4) ∧
    nilW g0_data.a fun a5 => ixOk g1_a g0_data.n (stOk h (Addr.add a5 (Int.toNat g1_a * 1)) 1 ∧ wth (wrs h (Addr.add a5 (Int.toNat g1_a * 1)) 0 [(Value.int .i64 n2)]) fun h6 =>
      nilW g0_data.a fun a7 => ixOk g3_pivot g0_data.n (stOk h6 (Addr.add a7 (Int.toNat g3_pivot * 1)) 1 ∧ wth (wrs h6 (Addr.add a7 (Int.toNat g3_pivot * 1)) 0 [(Value.int .i64 n4)]) fun h8 =>
        ∀ X9 : List Value → Hp → Prop, (∀ n10 : Int, ∀ n11 : Int, ∀ h12 : Hp, (∀ X13 : List Value → Hp → Prop, (∀ n14 : Int, ∀ h15 : Hp, (∀ J16 : List Value → Hp → Prop, (∀ b17 : Bool, ∀ h18 : Hp, ((if b17 = true then
                      (X13 [(Value.int .i64 (IntKind.wrap .i64 (n14 + (1 : Int))))] h18) else
                      (∀ X19 : List Value → Hp → Prop, (∀ n20 : Int, ∀ h21 : Hp, (∀ J22 : List Value → Hp → Prop, (∀ b23 : Bool, ∀ h24 : Hp, ((if b23 = true then
                                  (X19 [(Value.int .i64 (IntKind.wrap .i64 (n20 - (1 : Int))))] h24) else
                                  ((if (decide (n14 > n20)) = true then
                                      (Q [(Value.int .i64 n14)] h24) else
                                      (nilW g0_data.a fun a25 => ixOk n20 g0_data.n (∃ n26 : Int, rd h24 (Addr.add a25 (Int.toNat n20 * 1)) = some (Value.int .i64 n26) ∧
                                          nilW g0_data.a fun a27 => ixOk n14 g0_data.n (∃ n28 : Int, rd h24 (Addr.add a27 (Int.toNat n14 * 1)) = some (Value.int .i64 n28) ∧
                                            nilW g0_data.a fun a29 => ixOk n14 g0_data.n (stOk h24 (Addr.add a29 (Int.toNat n14 * 1)) 1 ∧ wth (wrs h24 (Addr.add a29 (Int.toNat n14 * 1)) 0 [(Value.int .i64 n26)]) fun h30 =>
                                              nilW g0_data.a fun a31 => ixOk n20 g0_data.n (stOk h30 (Addr.add a31 (Int.toNat n20 * 1)) 1 ∧ wth (wrs h30 (Addr.add a31 (Int.toNat n20 * 1)) 0 [(Value.int .i64 n28)]) fun h32 =>
                                                X9 [(Value.int .i64 (IntKind.wrap .i64 (n14 + (1 : Int)))), (Value.int .i64 (IntKind.wrap .i64 (n20 - (1 : Int))))] h32))))))))) → J22 [(Value.bool b23)] h24) →
                            (if (decide (n14 ≤ n20)) = true then (nilW g0_data.a fun a33 => ixOk g1_a g0_data.n (∃ n34 : Int, rd h21 (Addr.add a33 (Int.toNat g1_a * 1)) = some (Value.int .i64 n34) ∧
                                  nilW g0_data.a fun a35 => ixOk n20 g0_data.n (∃ n36 : Int, rd h21 (Addr.add a35 (Int.toNat n20 * 1)) = some (Value.int .i64 n36) ∧
                                    S_cmp_Less_int n34 n36 h21 fun (vs37 : List Value) (h38 : Hp) =>
                                    ∃ b39 : Bool, vs37 = [(Value.bool b39)] ∧
                                    J22 [(Value.bool b39)] h38))) else
                              (J22 [(Value.bool false)] h21))) → X19 [(Value.int .i64 n20)] h21) →
                        X19 [(Value.int .i64 n11)] h18))) → J16 [(Value.bool b17)] h18) →
                (if (decide (n14 ≤ n11)) = true then (nilW g0_data.a fun a40 => ixOk g1_a g0_data.n (∃ n41 : Int, rd h15 (Addr.add a40 (Int.toNat g1_a * 1)) = some (Value.int .i64 n41) ∧
                      nilW g0_data.a fun a42 => ixOk n14 g0_data.n (∃ n43 : Int, rd h15 (Addr.add a42 (Int.toNat n14 * 1)) = some (Value.int .i64 n43) ∧
                        S_cmp_Less_int n41 n43 h15 fun (vs44 : List Value) (h45 : Hp) =>
                        ∃ b46 : Bool, vs44 = [(Value.bool b46)] ∧
                        J16 [(Value.bool (!b46))] h45))) else
                  (J16 [(Value.bool false)] h15))) → X13 [(Value.int .i64 n14)] h15) →
            X13 [(Value.int .i64 n10)] h12) → X9 [(Value.int .i64 n10), (Value.int .i64 n11)] h12) →
        X9 [(Value.int .i64 (IntKind.wrap .i64 (g1_a + (1 : Int)))), (Value.int .i64 (IntKind.wrap .i64 (g2_b - (1 : Int))))] h8))))
def A_slices_partitionEqualOrdered_int : Ann := (.mk none ⟨[], []⟩ .nil (.mk none ⟨[], []⟩ .nil (.mk none ⟨[], []⟩ .nil (.mk none ⟨[], []⟩ (.mk none ⟨[], []⟩ (.mk none ⟨[0, 1], [(9, (.c (.int .i64))), (10, (.c (.int .i64)))]⟩ (.mk none ⟨[], []⟩ (.mk none ⟨[], []⟩ (.mk none ⟨[], []⟩ (.mk none ⟨[0, 1, 10], [(9, (.c (.int .i64)))]⟩ (.mk none ⟨[], []⟩ (.mk none ⟨[], []⟩ (.mk (some ⟨[0, 1, 9, 10], [(43, (.c .bool))]⟩) ⟨[], []⟩ .nil .nil) .nil) .nil) .nil) .nil) (.mk none ⟨[], []⟩ (.mk none ⟨[], []⟩ (.mk none ⟨[0, 1, 9], [(10, (.c (.int .i64)))]⟩ (.mk none ⟨[], []⟩ (.mk none ⟨[], []⟩ (.mk (some ⟨[0, 1, 9, 10], [(59, (.c .bool))]⟩) ⟨[], []⟩ .nil .nil) .nil) .nil) .nil) .nil) .nil)) .nil) .nil) .nil) .nil))))
theorem E_slices_partitionEqualOrdered_int (g0_data : Sl) (g1_a : Int) (g2_b : Int) (g3_pivot : Int) (h : Hp) (Q : List Value → Hp → Prop) : cw PP 84 (fun _ => []) (bodyOf Try.f38) A_slices_partitionEqualOrdered_int (finQ PP (Try.f38.results.toList) Q) (argFr [(Value.slice g0_data.a g0_data.n g0_data.c), (Value.int .i64 g1_a), (Value.int .i64 g2_b), (Value.int .i64 g3_pivot)]) h = F_slices_partitionEqualOrdered_int g0_data g1_a g2_b g3_pivot h Q := by kernel_rfl
theorem O_slices_partitionEqualOrdered_int (g0_data : Sl) (g1_a : Int) (g2_b : Int) (g3_pivot : Int) {h : Hp} {Q : List Value → Hp → Prop} (H : F_slices_partitionEqualOrdered_int g0_data g1_a g2_b g3_pivot h Q) : S_slices_partitionEqualOrdered_int g0_data g1_a g2_b g3_pivot h Q :=
  fn_of_cw (hs := (fun _ => [])) (ann := A_slices_partitionEqualOrdered_int) (args := [(Value.slice g0_data.a g0_data.n g0_data.c), (Value.int .i64 g1_a), (Value.int .i64 g2_b), (Value.int .i64 g3_pivot)]) mixedPP Try.func38 (c := bodyOf Try.f38) (by kernel_rfl) (by kernel_rfl) (by kernel_rfl) (Eq.mpr (E_slices_partitionEqualOrdered_int g0_data g1_a g2_b g3_pivot h Q) H)
def F_slices_partitionOrdered_int (g0_data : Sl) (g1_a : Int) (g2_b : Int) (g3_pivot : Int) (h : Hp) (Q : List Value → Hp → Prop) : Prop :=
nilW g0_data.a fun a1 => ixOk g3_pivot g0_data.n (∃ n2 : Int, rd h (Addr.add a1 (Int.toNat g3_pivot * 1)) = some (Value.int .i64 n2) ∧
  nilW g0_data.a fun a3 => ixOk g1_a g0_data.n (∃ n4 : Int, rd h (Addr.add a3 (Int.toNat g1_a * 1)) = some (Value.int .i64 n4) ∧
    nilW g0_data.a fun a5 => ixOk g1_a g0_data.n (stOk h (Addr.add a5 (Int.toNat g1_a * 1)) 1 ∧ wth (wrs h (Addr.add a5 (Int.toNat g1_a * 1)) 0 [(Value.int .i64 n2)]) fun h6 =>
      nilW g0_data.a fun a7 => ixOk g3_pivot g0_data.n (stOk h6 (Addr.add a7 (Int.toNat g3_pivot * 1)) 1 ∧ wth (wrs h6 (Addr.add a7 (Int.toNat g3_pivot * 1)) 0 [(Value.int .i64 n4)]) fun h8 =>
        ∀ X9 : List Value → Hp → Prop, (∀ n10 : Int, ∀ h11 : Hp, (∀ J12 : List Value → Hp → Prop, (∀ b13 : Bool, ∀ h14 : Hp, ((if b13 = true then
                  (X9 [(Value.int .i64 (IntKind.wrap .i64 (n10 + (1 : Int))))] h14) else
                  (∀ X15 : List Value → Hp → Prop, (∀ n16 : Int, ∀ h17 : Hp, (∀ J18 : List Value → Hp → Prop, (∀ b19 : Bool, ∀ h20 : Hp, ((if b19 = true then
                              (X15 [(Value.int .i64 (IntKind.wrap .i64 (n16 - (1 : Int))))] h20) else
                              ((if (decide (n10 > n16)) = true then
                                  (nilW g0_data.a fun a21 => ixOk g1_a g0_data.n (∃ n22 : Int, rd h20 (Addr.add a21 (Int.toNat g1_a * 1)) = some (Value.int .i64 n22) ∧
                                      nilW g0_data.a fun a23 => ixOk n16 g0_data.n (∃ n24 : Int, rd h20 (Addr.add a23 (Int.toNat n16 * 1)) = some (Value.int .i64 n24) ∧
                                        nilW g0_data.a fun a25 => ixOk n16 g0_data.n (stOk h20 (Addr.add a25 (Int.toNat n16 * 1)) 1 ∧ wth (wrs h20 (Addr.add a25 (Int.toNat n16 * 1)) 0 [(Value.int .i64 n22)]) fun h26 =>
                                          nilW g0_data.a fun a27 => ixOk g1_a g0_data.n (stOk h26 (Addr.add a27 (Int.toNat g1_a * 1)) 1 ∧ wth (wrs h26 (Addr.add a27 (Int.toNat g1_a * 1)) 0 [(Value.int .i64 n24)]) fun h28 =>
                                            Q [(Value.int .i64 n16), (Value.bool true)] h28))))) else
                                  (nilW g0_data.a fun a29 => ixOk n16 g0_data.n (∃ n30 : Int, rd h20 (Addr.add a29 (Int.toNat n16 * 1)) = some (Value.int .i64 n30) ∧
                                      nilW g0_data.a fun a31 => ixOk n10 g0_data.n (∃ n32 : Int, rd h20 (Addr.add a31 (Int.toNat n10 * 1)) = some (Value.int .i64 n32) ∧
                                        nilW g0_data.a fun a33 => ixOk n10 g0_data.n (stOk h20 (Addr.add a33 (Int.toNat n10 * 1)) 1 ∧ wth (wrs h20 (Addr.add a33 (Int.toNat n10 * 1)) 0 [(Value.int .i64 n30)]) fun h34 =>
                                          nilW g0_data.a fun a35 => ixOk n16 g0_data.n (stOk h34 (Addr.add a35 (Int.toNat n16 * 1)) 1 ∧ wth (wrs h34 (Addr.add a35 (Int.toNat n16 * 1)) 0 [(Value.int .i64 n32)]) fun h36 =>
                                            ∀ X37 : List Value → Hp → Prop, (∀ n38 : Int, ∀ n39 : Int, ∀ h40 : Hp, (∀ X41 : List Value → Hp → Prop, (∀ n42 : Int, ∀ h43 : Hp, (∀ J44 : List Value → Hp → Prop, (∀ b45 : Bool, ∀ h46 : Hp, ((if b45 = true then
                                                          (X41 [(Value.int .i64 (IntKind.wrap .i64 (n42 + (1 : Int))))] h46) else
                                                          (∀ X47 : List Value → Hp → Prop, (∀ n48 : Int, ∀ h49 : Hp, (∀ J50 : List Value → Hp → Prop, (∀ b51 : Bool, ∀ h52 : Hp, ((if b51 = true then
                                                            (X47 [(Value.int .i64 (IntKind.wrap .i64 (n48 - (1 : Int))))] h52) else
                                                            ((if (decide (n42 > n48)) = true then
                                                            (nilW g0_data.a fun a53 => ixOk g1_a g0_data.n (∃ n54 : Int, rd h52 (Addr.add a53 (Int.toNat g1_a * 1)) = some (Value.int .i64 n54) ∧
                                                            nilW g0_data.a fun a55 => ixOk n48 g0_data.n (∃ n56 : Int, rd h52 (Addr.add a55 (Int.toNat n48 * 1)) = some (Value.int .i64 n56) ∧
                                                            nilW g0_data.a fun a57 => ixOk n48 g0_data.n (stOk h52 (Addr.add a57 (Int.toNat n48 * 1)) 1 ∧ wth (wrs h52 (Addr.add a57 (Int.toNat n48 * 1)) 0 [(Value.int .i64 n54)]) fun h58 =>
                                                            nilW g0_data.a fun a59 => ixOk g1_a g0_data.n (stOk h58 (Addr.add a59 (Int.toNat g1_a * 1)) 1 ∧ wth (wrs h58 (Addr.add a59 (Int.toNat g1_a * 1)) 0 [(Value.int .i64 n56)]) fun h60 =>
                                                            Q [(Value.int .i64 n48), (Value.bool false)] h60))))) else
                                                            (nilW g0_data.a fun a61 => ixOk n48 g0_data.n (∃ n62 : Int, rd h52 (Addr.add a61 (Int.toNat n48 * 1)) = some (Value.int .i64 n62) ∧
                                                            nilW g0_data.a fun a63 => ixOk n42 g0_data.n (∃ n64 : Int, rd h52 (Addr.add a63 (Int.toNat n42 * 1)) = some (Value.int .i64 n64) ∧
                                                            nilW g0_data.a fun a65 => ixOk n42 g0_data.n (stOk h52 (Addr.add a65 (Int.toNat n42 * 1)) 1 ∧ wth (wrs h52 (Addr.add a65 (Int.toNat n42 * 1)) 0 [(Value.int .i64 n62)]) fun h66 =>
                                                            nilW g0_data.a fun a67 => ixOk n48 g0_data.n (stOk h66 (Addr.add a67 (Int.toNat n48 * 1)) 1 ∧ wth (wrs h66 (Addr.add a67 (Int.toNat n48 * 1)) 0 [(Value.int .i64 n64)]) fun h68 =>
                                                            X37 [(Value.int .i64 (IntKind.wrap .i64 (n42 + (1 : Int)))), (Value.int .i64 (IntKind.wrap .i64 (n48 - (1 : Int))))] h68))))))))) → J50 [(Value.bool b51)] h52) →
                                                            (if (decide (n42 ≤ n48)) = true then (nilW g0_data.a fun a69 => ixOk n48 g0_data.n (∃ n70 : Int, rd h49 (Addr.add a69 (Int.toNat n48 * 1)) = some (Value.int .i64 n70) ∧
                                                            nilW g0_data.a fun a71 => ixOk g1_a g0_data.n (∃ n72 : Int, rd h49 (Addr.add a71 (Int.toNat g1_a * 1)) = some (Value.int .i64 n72) ∧
                                                            S_cmp_Less_int n70 n72 h49 fun (vs73 : List Value) (h74 : Hp) =>
                                                            ∃ b75 : Bool, vs73 = [(Value.bool b75)] ∧
                                                            J50 [(Value.bool (!b75))] h74))) else
                                                            (J50 [(Value.bool false)] h49))) → X47 [(Value.int .i64 n48)] h49) →
                                                            X47 [(Value.int .i64 n39)] h46))) → J44 [(Value.bool b45)] h46) →
                                                    (if (decide (n42 ≤ n39)) = true then (nilW g0_data.a fun a76 => ixOk n42 g0_data.n (∃ n77 : Int, rd h43 (Addr.add a76 (Int.toNat n42 * 1)) = some (Value.int .i64 n77) ∧
                                                          nilW g0_data.a fun a78 => ixOk g1_a g0_data.n (∃ n79 : Int, rd h43 (Addr.add a78 (Int.toNat g1_a * 1)) = some (Value.int .i64 n79) ∧
                                                            S_cmp_Less_int n77 n79 h43 fun (vs80 : List Value) (h81 : Hp) =>
                                                            ∃ b82 : Bool, vs80 = [(Value.bool b82)] ∧
                                                            J44 [(Value.bool b82)] h81))) else
                                                      (J44 [(Value.bool false)] h43))) → X41 [(Value.int .i64 n42)] h43) →
                                                X41 [(Value.int .i64 n38)] h40) → X37 [(Value.int .i64 n38), (Value.int .i64 n39)] h40) →
                                            X37 [(Value.int .i64 (IntKind.wrap .i64 (n10 + (1 : Int)))), (Value.int .i64 (IntKind.wrap .i64 (n16 - (1 : Int))))] h36))))))))) → J18 [(Value.bool b19)] h20) →
                        (if (decide (n10 ≤ n16)) = true then (nilW g0_data.a fun a83 => ixOk n16 g0_data.n (∃ n84 : Int, rd h17 (Addr.add a83 (Int.toNat n16 * 1)) = some (Value.int .i64 n84) ∧
                              nilW g0_data.a fun a85 => ixOk g1_a g0_data.n (∃ n86 : Int, rd h17 (Addr.add a85 (Int.toNat g1_a * 1)) = some (Value.int .i64 n86) ∧
                                S_cmp_Less_int n84 n86 h17 fun (vs87 : List Value) (h88 : Hp) =>
                                ∃ b89 : Bool, vs87 = [(Value.bool b89)] ∧
                                J18 [(Value.bool (!b89))] h88))) else
                          (J18 [(Value.bool false)] h17))) → X15 [(Value.int .i64 n16)] h17) →
                    X15 [(Value.int .i64 (IntKind.wrap .i64 (g2_b - (1 : Int))))] h14))) → J12 [(Value.bool b13)] h14) →
            (if (decide (n10 ≤ (IntKind.wrap .i64 (g2_b - (1 : Int))))) = true then (nilW g0_data.a fun a90 => ixOk n10 g0_data.n (∃ n91 : Int, rd h11 (Addr.add a90 (Int.toNat n10 * 1)) = some (Value.int .i64 n91) ∧
                  nilW g0_data.a fun a92 => ixOk g1_a g0_data.n (∃ n93 : Int, rd h11 (Addr.add a92 (Int.toNat g1_a * 1)) = some (Value.int .i64 n93) ∧
                    S_cmp_Less_int n91 n93 h11 fun (vs94 : List Value) (h95 : Hp) =>
                    ∃ b96 : Bool, vs94 = [(Value.bool b96)] ∧
                    J12 [(Value.bool b96)] h95))) else
              (J12 [(Value.bool false)] h11))) → X9 [(Value.int .i64 n10)] h11) →
        X9 [(Value.int .i64 (IntKind.wrap .i64 (g1_a + (1 : Int))))] h8))))
def A_slices_partitionOrdered_int : Ann := (.mk none ⟨[], []⟩ .nil (.mk none ⟨[], []⟩ .nil (.mk none ⟨[], []⟩ .nil (.mk none ⟨[], []⟩ (.mk none ⟨[], []⟩ (.mk none ⟨[0, 1, 11], [(10, (.c (.int .i64)))]⟩ (.mk none ⟨[], []⟩ (.mk none ⟨[], []⟩ (.mk (some ⟨[0, 1, 10, 11], [(43, (.c .bool))]⟩) ⟨[], []⟩ .nil .nil) .nil) .nil) .nil) .nil) (.mk none ⟨[], []⟩ (.mk none ⟨[], []⟩ (.mk none ⟨[0, 1, 10], [(11, (.c (.int .i64)))]⟩ (.mk none ⟨[], []⟩ (.mk none ⟨[], []⟩ (.mk (some ⟨[0, 1, 10, 11], [(60, (.c .bool))]⟩) ⟨[], []⟩ .nil .nil) .nil) .nil) .nil) .nil) (.mk none ⟨[], []⟩ .nil (.mk none ⟨[], []⟩ .nil (.mk none ⟨[], []⟩ .nil (.mk none ⟨[], []⟩ .nil (.mk none ⟨[], []⟩ (.mk none ⟨[], []⟩ (.mk none ⟨[0, 1], [(10, (.c (.int .i64))), (11, (.c (.int .i64)))]⟩ (.mk none ⟨[], []⟩ (.mk none ⟨[], []⟩ (.mk none ⟨[], []⟩ (.mk none ⟨[0, 1, 11], [(10, (.c (.int .i64)))]⟩ (.mk none ⟨[], []⟩ (.mk none ⟨[], []⟩ (.mk (some ⟨[0, 1, 10, 11], [(112, (.c .bool))]⟩) ⟨[], []⟩ .nil .nil) .nil) .nil) .nil) .nil) (.mk none ⟨[], []⟩ (.mk none ⟨[], []⟩ (.mk none ⟨[0, 1, 10], [(11, (.c (.int .i64)))]⟩ (.mk none ⟨[], []⟩ (.mk none ⟨[], []⟩ (.mk (some ⟨[0, 1, 10, 11], [(129, (.c .bool))]⟩) ⟨[], []⟩ .nil .nil) .nil) .nil) .nil) .nil) .nil)) .nil) .nil) .nil) .nil))))))))))
theorem E_slices_partitionOrdered_int (g0_data : Sl) (g1_a : Int) (g2_b : Int) (g3_pivot : Int) (h : Hp) (Q : List Value → Hp → Prop) : cw PP 168 (fun _ => []) (bodyOf Try.f39) A_slices_partitionOrdered_int (finQ PP (Try.f39.results.toList) Q) (argFr [(Value.slice g0_data.a g0_data.n g0_data.c), (Value.int .i64 g1_a), (Value.int .i64 g2_b), (Value.int .i64 g3_pivot)]) h = F_slices_partitionOrdered_int g0_data g1_a g2_b g3_pivot h Q := by kernel_rfl
theorem O_slices_partitionOrdered_int (g0_data : Sl) (g1_a : Int) (g2_b : Int) (g3_pivot : Int) {h : Hp} {Q : List Value → Hp → Prop} (H : F_slices_partitionOrdered_int g0_data g1_a g2_b g3_pivot h Q) : S_slices_partitionOrdered_int g0_data g1_a g2_b g3_pivot h Q :=
  fn_of_cw (hs := (fun _ => [])) (ann := A_slices_partitionOrdered_int) (args := [(Value.slice g0_data.a g0_data.n g0_data.c), (Value.int .i64 g1_a), (Value.int .i64 g2_b), (Value.int .i64 g3_pivot)]) mixedPP Try.func39 (c := bodyOf Try.f39) (by kernel_rfl) (by kernel_rfl) (by kernel_rfl) (Eq.mpr (E_slices_partitionOrdered_int g0_data g1_a g2_b g3_pivot h Q) H)
def F_slices_pdqsortOrdered_int (g0_data : Sl) (g1_a : Int) (g2_b : Int) (g3_limit : Int) (h : Hp) (Q : List Value → Hp → Prop) : Prop :=
∀ X1 : List Value → Hp → Prop, (∀ n2 : Int, ∀ n3 : Int, ∀ n4 : Int, ∀ b5 : Bool, ∀ b6 : Bool, ∀ h7 : Hp, ((if (decide ((IntKind.wrap .i64 (n3 - n2)) ≤ (12 : Int))) = true then
      (S_slices_insertionSortOrdered_int ⟨g0_data.a, g0_data.n, g0_data.c⟩ n2 n3 h7 fun (vs8 : List Value) (h9 : Hp) =>
        vs8 = [] ∧
        Q [] h9) else
      ((if (n4 == (0 : Int)) = true then
          (S_slices_heapSortOrdered_int ⟨g0_data.a, g0_data.n, g0_data.c⟩ n2 n3 h7 fun (vs10 : List Value) (h11 : Hp) =>
            vs10 = [] ∧
            Q [] h11) else
          (∀ J12 : List Value → Hp → Prop, (∀ n13 : Int, ∀ h14 : Hp, (S_slices_choosePivotOrdered_int ⟨g0_data.a, g0_data.n, g0_data.c⟩ n2 n3 h14 fun (vs15 : List Value) (h16 : Hp) =>
                ∃ n17 : Int, ∃ n18 : Int, vs15 = [(Value.int .i64 n17), (Value.int .i64 n18)] ∧
                ∀ J19 : List Value → Hp → Prop, (∀ n20 : Int, ∀ n21 : Int, ∀ h22 : Hp, (∀ J23 : List Value → Hp → Prop, (∀ b24 : Bool, ∀ h25 : Hp, (∀ J26 : List Value → Hp → Prop, (∀ h27 : Hp, (∀ J28 : List Value → Hp → Prop, (∀ b29 : Bool, ∀ h30 : Hp, ((if b29 = true then
                                  (S_slices_partitionEqualOrdered_int ⟨g0_data.a, g0_data.n, g0_data.c⟩ n2 n3 n20 h30 fun (vs31 : List Value) (h32 : Hp) =>
                                    ∃ n33 : Int, vs31 = [(Value.int .i64 n33)] ∧
                                    X1 [(Value.int .i64 n33), (Value.int .i64 n3), (Value.int .i64 n13), (Value.bool b5), (Value.bool b6)] h32) else
                                  (S_slices_partitionOrdered_int ⟨g0_data.a, g0_data.n, g0_data.c⟩ n2 n3 n20 h30 fun (vs34 : List Value) (h35 : Hp) =>
                                    ∃ n36 : Int, ∃ b37 : Bool, vs34 = [(Value.int .i64 n36), (Value.bool b37)] ∧
                                    divOk (8 : Int) ((if (decide ((IntKind.wrap .i64 (n36 - n2)) < (IntKind.wrap .i64 (n3 - n36)))) = true then
                                        (S_slices_pdqsortOrdered_int ⟨g0_data.a, g0_data.n, g0_data.c⟩ n2 n36 n13 h35 fun (vs38 : List Value) (h39 : Hp) =>
                                          vs38 = [] ∧
                                          X1 [(Value.int .i64 (IntKind.wrap .i64 (n36 + (1 : Int)))), (Value.int .i64 n3), (Value.int .i64 n13), (Value.bool (decide ((IntKind.wrap .i64 (n36 - n2)) ≥ (IntKind.wrap .i64 (Int.tdiv (IntKind.wrap .i64 (n3 - n2)) (8 : Int)))))), (Value.bool b37)] h39) else
                                        (S_slices_pdqsortOrdered_int ⟨g0_data.a, g0_data.n, g0_data.c⟩ (IntKind.wrap .i64 (n36 + (1 : Int))) n3 n13 h35 fun (vs40 : List Value) (h41 : Hp) =>
                                          vs40 = [] ∧
                                          X1 [(Value.int .i64 n2), (Value.int .i64 n36), (Value.int .i64 n13), (Value.bool (decide ((IntKind.wrap .i64 (n3 - n36)) ≥ (IntKind.wrap .i64 (Int.tdiv (IntKind.wrap .i64 (n3 - n2)) (8 : Int)))))), (Value.bool b37)] h41)))))) → J28 [(Value.bool b29)] h30) →
                            (if (decide (n2 > (0 : Int))) = true then (nilW g0_data.a fun a42 => ixOk (IntKind.wrap .i64 (n2 - (1 : Int))) g0_data.n (∃ n43 : Int, rd h27 (Addr.add a42 (Int.toNat (IntKind.wrap .i64 (n2 - (1 : Int))) * 1)) = some (Value.int .i64 n43) ∧
                                  nilW g0_data.a fun a44 => ixOk n20 g0_data.n (∃ n45 : Int, rd h27 (Addr.add a44 (Int.toNat n20 * 1)) = some (Value.int .i64 n45) ∧
                                    S_cmp_Less_int n43 n45 h27 fun (vs46 : List Value) (h47 : Hp) =>
                                    ∃ b48 : Bool, vs46 = [(Value.bool b48)] ∧
                                    J28 [(Value.bool (!b48))] h47))) else
                              (J28 [(Value.bool false)] h27))) → J26 [] h27) →
                        (if b24 = true then
                          (S_slices_partialInsertionSortOrdered_int ⟨g0_data.a, g0_data.n, g0_data.c⟩ n2 n3 h25 fun (vs49 : List Value) (h50 : Hp) =>
                            ∃ b51 : Bool, vs49 = [(Value.bool b51)] ∧
                            (if b51 = true then
                              (Q [] h50) else
                              (J26 [] h50))) else
                          (J26 [] h25))) → J23 [(Value.bool b24)] h25) →
                    (if b5 = true then ((if b6 = true then (J23 [(Value.bool (n21 == (1 : Int)))] h22) else
                          (J23 [(Value.bool false)] h22))) else
                      (J23 [(Value.bool false)] h22))) → J19 [(Value.int .i64 n20), (Value.int .i64 n21)] h22) →
                (if (n18 == (2 : Int)) = true then
                  (S_slices_reverseRangeOrdered_int ⟨g0_data.a, g0_data.n, g0_data.c⟩ n2 n3 h16 fun (vs52 : List Value) (h53 : Hp) =>
                    vs52 = [] ∧
                    J19 [(Value.int .i64 (IntKind.wrap .i64 ((IntKind.wrap .i64 (n3 - (1 : Int))) - (IntKind.wrap .i64 (n17 - n2))))), (Value.int .i64 (1 : Int))] h53) else
                  (J19 [(Value.int .i64 n17), (Value.int .i64 n18)] h16))) → J12 [(Value.int .i64 n13)] h14) →
            (if (!b5) = true then
              (S_slices_breakPatternsOrdered_int ⟨g0_data.a, g0_data.n, g0_data.c⟩ n2 n3 h7 fun (vs54 : List Value) (h55 : Hp) =>
                vs54 = [] ∧
                J12 [(Value.int .i64 (IntKind.wrap .i64 (n4 - (1 : Int))))] h55) else
              (J12 [(Value.int .i64 n4)] h7))))))) → X1 [(Value.int .i64 n2), (Value.int .i64 n3), (Value.int .i64 n4), (Value.bool b5), (Value.bool b6)] h7) →
X1 [(Value.int .i64 g1_a), (Value.int .i64 g2_b), (Value.int .i64 g3_limit), (Value.bool true), (Value.bool true)] h
def A_slices_pdqsortOrdered_int : Ann := (.mk none ⟨[], []⟩ .nil (.mk none ⟨[], []⟩ .nil (.mk none ⟨[], []⟩ (.mk none ⟨[0], [(1, (.c (.int .i64))), (2, (.c (.int .i64))), (3, (.c (.int .i64))), (8, (.c .bool)), (9, (.c .bool))]⟩ (.mk none ⟨[], []⟩ (.mk none ⟨[], []⟩ .nil (.mk none ⟨[], []⟩ .nil (.mk none ⟨[], []⟩ .nil (.mk none ⟨[], []⟩ (.mk none ⟨[], []⟩ .nil (.mk (some ⟨[0, 1, 2, 8, 9, 10], [(3, (.c (.int .i64)))]⟩) ⟨[], []⟩ .nil .nil)) (.mk none ⟨[], []⟩ .nil (.mk none ⟨[], []⟩ (.mk none ⟨[], []⟩ .nil (.mk (some ⟨[0, 1, 2, 3, 8, 9, 10], [(11, (.c (.int .i64))), (12, (.c (.int .i64)))]⟩) ⟨[], []⟩ .nil .nil)) (.mk none ⟨[], []⟩ (.mk none ⟨[], []⟩ (.mk (some ⟨[0, 1, 2, 3, 8, 9, 10, 11], [(68, (.c .bool))]⟩) ⟨[], []⟩ .nil .nil) (.mk (some ⟨[0, 1, 2, 3, 8, 9, 10, 11], []⟩) ⟨[], []⟩ .nil .nil)) (.mk none ⟨[], []⟩ (.mk none ⟨[], []⟩ (.mk (some ⟨[0, 1, 2, 3, 8, 9, 10, 11], [(87, (.c .bool))]⟩) ⟨[], []⟩ .nil .nil) .nil) .nil)))))))) .nil) .nil) .nil)))
theorem E_slices_pdqsortOrdered_int (g0_data : Sl) (g1_a : Int) (g2_b : Int) (g3_limit : Int) (h : Hp) (Q : List Value → Hp → Prop) : cw PP 134 (fun _ => []) (bodyOf Try.f29) A_slices_pdqsortOrdered_int (finQ PP (Try.f29.results.toList) Q) (argFr [(Value.slice g0_data.a g0_data.n g0_data.c), (Value.int .i64 g1_a), (Value.int .i64 g2_b), (Value.int .i64 g3_limit)]) h = F_slices_pdqsortOrdered_int g0_data g1_a g2_b g3_limit h Q := by kernel_rfl
theorem O_slices_pdqsortOrdered_int (g0_data : Sl) (g1_a : Int) (g2_b : Int) (g3_limit : Int) {h : Hp} {Q : List Value → Hp → Prop} (H : F_slices_pdqsortOrdered_int g0_data g1_a g2_b g3_limit h Q) : S_slices_pdqsortOrdered_int g0_data g1_a g2_b g3_limit h Q :=
  fn_of_cw (hs := (fun _ => [])) (ann := A_slices_pdqsortOrdered_int) (args := [(Value.slice g0_data.a g0_data.n g0_data.c), (Value.int .i64 g1_a), (Value.int .i64 g2_b), (Value.int .i64 g3_limit)]) mixedPP Try.func29 (c := bodyOf Try.f29) (by kernel_rfl) (by kernel_rfl) (by kernel_rfl) (Eq.mpr (E_slices_pdqsortOrdered_int g0_data g1_a g2_b g3_limit h Q) H)
def F_slices_Sort_sint_int (g0_x : Sl) (h : Hp) (Q : List Value → Hp → Prop) : Prop :=
S_math_bits_Len (IntKind.wrap .u64 (g0_x.n : Int)) h fun (vs1 : List Value) (h2 : Hp) =>
∃ n3 : Int, vs1 = [(Value.int .i64 n3)] ∧
S_slices_pdqsortOrdered_int ⟨g0_x.a, g0_x.n, g0_x.c⟩ (0 : Int) (g0_x.n : Int) n3 h2 fun (vs4 : List Value) (h5 : Hp) =>
vs4 = [] ∧
Q [] h5
def A_slices_Sort_sint_int : Ann := .nil
theorem E_slices_Sort_sint_int (g0_x : Sl) (h : Hp) (Q : List Value → Hp → Prop) : cw PP 11 (fun _ => []) (bodyOf Try.f25) A_slices_Sort_sint_int (finQ PP (Try.f25.results.toList) Q) (argFr [(Value.slice g0_x.a g0_x.n g0_x.c)]) h = F_slices_Sort_sint_int g0_x h Q := by kernel_rfl
theorem O_slices_Sort_sint_int (g0_x : Sl) {h : Hp} {Q : List Value → Hp → Prop} (H : F_slices_Sort_sint_int g0_x h Q) : S_slices_Sort_sint_int g0_x h Q :=
  fn_of_cw (hs := (fun _ => [])) (ann := A_slices_Sort_sint_int) (args := [(Value.slice g0_x.a g0_x.n g0_x.c)]) mixedPP Try.func25 (c := bodyOf Try.f25) (by kernel_rfl) (by kernel_rfl) (by kernel_rfl) (Eq.mpr (E_slices_Sort_sint_int g0_x h Q) H)
def F_slices_Sorted_int (g0_seq_f : Nat) (g0_seq_c : Array Value) (h : Hp) (Q : List Value → Hp → Prop) : Prop :=
S_slices_Collect_int g0_seq_f g0_seq_c h fun (vs1 : List Value) (h2 : Hp) =>
∃ l3 : Sl, vs1 = [(Value.slice l3.a l3.n l3.c)] ∧
S_slices_Sort_sint_int ⟨l3.a, l3.n, l3.c⟩ h2 fun (vs4 : List Value) (h5 : Hp) =>
vs4 = [] ∧
Q [(Value.slice l3.a l3.n l3.c)] h5
def A_slices_Sorted_int : Ann := .nil
theorem E_slices_Sorted_int (g0_seq_f : Nat) (g0_seq_c : Array Value) (h : Hp) (Q : List Value → Hp → Prop) : cw PP 9 (fun _ => []) (bodyOf Try.f18) A_slices_Sorted_int (finQ PP (Try.f18.results.toList) Q) (argFr [(Value.func (.func g0_seq_f) #[] g0_seq_c)]) h = F_slices_Sorted_int g0_seq_f g0_seq_c h Q := by kernel_rfl
theorem O_slices_Sorted_int (g0_seq_f : Nat) (g0_seq_c : Array Value) {h : Hp} {Q : List Value → Hp → Prop} (H : F_slices_Sorted_int g0_seq_f g0_seq_c h Q) : S_slices_Sorted_int g0_seq_f g0_seq_c h Q :=
  fn_of_cw (hs := (fun _ => [])) (ann := A_slices_Sorted_int) (args := [(Value.func (.func g0_seq_f) #[] g0_seq_c)]) mixedPP Try.func18 (c := bodyOf Try.f18) (by kernel_rfl) (by kernel_rfl) (by kernel_rfl) (Eq.mpr (E_slices_Sorted_int g0_seq_f g0_seq_c h Q) H)
def F_maps_Keys_map_int_sint_int_sint (g0_m : Option Nat) (h : Hp) (Q : List Value → Hp → Prop) : Prop :=
wth (Array.push h (Obj.cells #[(Value.map g0_m)] T_map_int_sint)) fun h1 =>
Q [(Value.func (.func 26) #[] #[(Value.pointer (some (Addr.mk (Array.size h) 0 none)))])] h1
def A_maps_Keys_map_int_sint_int_sint : Ann := .nil
theorem E_maps_Keys_map_int_sint_int_sint (g0_m : Option Nat) (h : Hp) (Q : List Value → Hp → Prop) : cw PP 4 (fun _ => []) (bodyOf Try.f19) A_maps_Keys_map_int_sint_int_sint (finQ PP (Try.f19.results.toList) Q) (argFr [(Value.map g0_m)]) h = F_maps_Keys_map_int_sint_int_sint g0_m h Q := by kernel_rfl
theorem O_maps_Keys_map_int_sint_int_sint (g0_m : Option Nat) {h : Hp} {Q : List Value → Hp → Prop} (H : F_maps_Keys_map_int_sint_int_sint g0_m h Q) : S_maps_Keys_map_int_sint_int_sint g0_m h Q :=
  fn_of_cw (hs := (fun _ => [])) (ann := A_maps_Keys_map_int_sint_int_sint) (args := [(Value.map g0_m)]) mixedPP Try.func19 (c := bodyOf Try.f19) (by kernel_rfl) (by kernel_rfl) (by kernel_rfl) (Eq.mpr (E_maps_Keys_map_int_sint_int_sint g0_m h Q) H)
def F_maps_Keys_map_int_int_int_int (g0_m : Option Nat) (h : Hp) (Q : List Value → Hp → Prop) : Prop :=
wth (Array.push h (Obj.cells #[(Value.map g0_m)] T_map_int_int)) fun h1 =>
Q [(Value.func (.func 27) #[] #[(Value.pointer (some (Addr.mk (Array.size h) 0 none)))])] h1
def A_maps_Keys_map_int_int_int_int : Ann := .nil
theorem E_maps_Keys_map_int_int_int_int (g0_m : Option Nat) (h : Hp) (Q : List Value → Hp → Prop) : cw PP 4 (fun _ => []) (bodyOf Try.f20) A_maps_Keys_map_int_int_int_int (finQ PP (Try.f20.results.toList) Q) (argFr [(Value.map g0_m)]) h = F_maps_Keys_map_int_int_int_int g0_m h Q := by kernel_rfl
theorem O_maps_Keys_map_int_int_int_int (g0_m : Option Nat) {h : Hp} {Q : List Value → Hp → Prop} (H : F_maps_Keys_map_int_int_int_int g0_m h Q) : S_maps_Keys_map_int_int_int_int g0_m h Q :=
  fn_of_cw (hs := (fun _ => [])) (ann := A_maps_Keys_map_int_int_int_int) (args := [(Value.map g0_m)]) mixedPP Try.func20 (c := bodyOf Try.f20) (by kernel_rfl) (by kernel_rfl) (by kernel_rfl) (Eq.mpr (E_maps_Keys_map_int_int_int_int g0_m h Q) H)
def F_wait_Circles (g0_l : Sl) (h : Hp) (Q : List Value → Hp → Prop) : Prop :=
S_wait_graph ⟨g0_l.a, g0_l.n, g0_l.c⟩ h fun (vs1 : List Value) (h2 : Hp) =>
∃ r3 : Option Nat, vs1 = [(Value.map r3)] ∧
wth (Array.push h2 (Obj.map #[] 0)) fun h4 =>
∃ o5 : Obj, IterOf h4 r3 o5 ∧ wth (Array.push h4 o5) fun h6 =>
∀ X7 : List Value → Hp → Prop, (∀ h8 : Hp, ((Addr.off (Addr.mk (Array.size h4) 0 none) = 0 ∧ ∃ o9 : Obj, h8[Addr.block (Addr.mk (Array.size h4) 0 none)]? = some o9 ∧ IterGood h8 o9 ∧
      (IterEnd h8 o9 → wth (Array.push h8 (Obj.map #[] 0)) fun h13 =>
        S_maps_Keys_map_int_sint_int_sint r3 h13 fun (vs14 : List Value) (h15 : Hp) =>
        ∃ f16 : Nat, ∃ cs17 : Array Value, vs14 = [(Value.func (.func f16) #[] cs17)] ∧
        S_slices_Sorted_int f16 cs17 h15 fun (vs18 : List Value) (h19 : Hp) =>
        ∃ l20 : Sl, vs18 = [(Value.slice l20.a l20.n l20.c)] ∧
        ∀ X21 : List Value → Hp → Prop, (∀ l22 : Sl, ∀ n23 : Int, ∀ h24 : Hp, ((if (decide (n23 < (l20.n : Int))) = true then
              (∀ J25 : List Value → Hp → Prop, (∀ l26 : Sl, ∀ h27 : Hp, (X21 [(Value.slice l26.a l26.n l26.c), (Value.int .i64 (IntKind.wrap .i64 (n23 + (1 : Int))))] h27) → J25 [(Value.slice l26.a l26.n l26.c)] h27) →
                nilW l20.a fun a28 => ixOk n23 l20.n (∃ n29 : Int, rd h24 (Addr.add a28 (Int.toNat n23 * 1)) = some (Value.int .i64 n29) ∧
                  ∀ J30 : List Value → Hp → Prop, (∀ b31 : Bool, ∀ h32 : Hp, ((if b31 = true then
                        (J25 [(Value.slice l22.a l22.n l22.c)] h32) else
                        (∃ es33 : Array MapEntry, mapAt h32 (some (Array.size h2)) es33 ∧ KeysLike (Value.int .i64 n29) es33 ∧ ∃ r34 : Option Nat, mgetD (Value.int .i64 n29) es33 (Value.map none) = (Value.map r34) ∧
                          S_maps_Keys_map_int_int_int_int r34 h32 fun (vs35 : List Value) (h36 : Hp) =>
                          ∃ f37 : Nat, ∃ cs38 : Array Value, vs35 = [(Value.func (.func f37) #[] cs38)] ∧
                          S_slices_Sorted_int f37 cs38 h36 fun (vs39 : List Value) (h40 : Hp) =>
                          ∃ l41 : Sl, vs39 = [(Value.slice l41.a l41.n l41.c)] ∧
                          ∀ X42 : List Value → Hp → Prop, (∀ l43 : Sl, ∀ n44 : Int, ∀ h45 : Hp, ((if (decide (n44 < (l41.n : Int))) = true then
                                (∀ J46 : List Value → Hp → Prop, (∀ l47 : Sl, ∀ h48 : Hp, (X42 [(Value.slice l47.a l47.n l47.c), (Value.int .i64 (IntKind.wrap .i64 (n44 + (1 : Int))))] h48) → J46 [(Value.slice l47.a l47.n l47.c)] h48) →
                                  nilW l41.a fun a49 => ixOk n44 l41.n (∃ n50 : Int, rd h45 (Addr.add a49 (Int.toNat n44 * 1)) = some (Value.int .i64 n50) ∧
                                    ∃ es51 : Array MapEntry, mapAt h45 (some (Array.size h2)) es51 ∧ KeysLike (Value.int .i64 n50) es51 ∧ ∃ r52 : Option Nat, mgetD (Value.int .i64 n50) es51 (Value.map none) = (Value.map r52) ∧
                                    ∃ es53 : Array MapEntry, mapAt h45 r52 es53 ∧ KeysLike (Value.int .i64 n29) es53 ∧ ∃ n54 : Int, mgetD (Value.int .i64 n29) es53 (Value.int .i64 (0 : Int)) = (Value.int .i64 n54) ∧
                                    (if (decide (n54 > (0 : Int))) = true then
                                      (wth (Array.push h45 (Obj.cells #[(Value.int .i64 n50)] T_int)) fun h55 =>
                                        ∃ cs64 : List Value, cellsAt h55 (some (Addr.mk (Array.size h45) 0 none)) (1 * 1) cs64 ∧ appS PP T_int 8 1 h55 ⟨l43.a, l43.n, l43.c⟩ 1 cs64 fun (l56 : Sl) (h57 : Hp) =>
                                        ∃ es58 : Array MapEntry, mapAt h57 (some (Array.size h8)) es58 ∧ KeysLike (Value.int .i64 n50) es58 ∧ ∃ n59 : Int, mgetD (Value.int .i64 n50) es58 (Value.int .i64 (0 : Int)) = (Value.int .i64 n59) ∧
                                        ∃ (m60 : Nat) (es61 : Array MapEntry) (c62 : Nat), (some (Array.size h8)) = some m60 ∧ h57[m60]? = some (.map es61 c62) ∧ KeysLike (Value.int .i64 n50) es61 ∧ wth (Array.setIfInBounds h57 m60 (mput (Value.int .i64 n50) (Value.int .i64 (IntKind.wrap .i64 (n59 + (1 : Int)))) es61 c62)) fun h63 =>
                                        J46 [(Value.slice l56.a l56.n l56.c)] h63) else
                                      (J46 [(Value.slice l43.a l43.n l43.c)] h45)))) else
                                (wth (Array.push h45 (Obj.cells #[(Value.slice l43.a l43.n l43.c)] T_sint)) fun h65 =>
                                  ∃ cs68 : List Value, cellsAt h65 (some (Addr.mk (Array.size h45) 0 none)) (1 * 1) cs68 ∧ appS PP T_sint 24 1 h65 ⟨l22.a, l22.n, l22.c⟩ 1 cs68 fun (l66 : Sl) (h67 : Hp) =>
                                  J25 [(Value.slice l66.a l66.n l66.c)] h67))) → X42 [(Value.slice l43.a l43.n l43.c), (Value.int .i64 n44)] h45) →
                          X42 [(Value.slice none 0 0), (Value.int .i64 (0 : Int))] h40))) → J30 [(Value.bool b31)] h32) →
                  ∃ es69 : Array MapEntry, mapAt h24 (some (Array.size h2)) es69 ∧ KeysLike (Value.int .i64 n29) es69 ∧ ∃ r70 : Option Nat, mgetD (Value.int .i64 n29) es69 (Value.map none) = (Value.map r70) ∧
                  ∃ es71 : Array MapEntry, mapAt h24 r70 es71 ∧ KeysLike (Value.int .i64 n29) es71 ∧ ∃ n72 : Int, mgetD (Value.int .i64 n29) es71 (Value.int .i64 (0 : Int)) = (Value.int .i64 n72) ∧
                  (if (n72 == (0 : Int)) = true then (J30 [(Value.bool true)] h24) else
                    (∃ es73 : Array MapEntry, mapAt h24 (some (Array.size h8)) es73 ∧ KeysLike (Value.int .i64 n29) es73 ∧ ∃ n74 : Int, mgetD (Value.int .i64 n29) es73 (Value.int .i64 (0 : Int)) = (Value.int .i64 n74) ∧
                      J30 [(Value.bool (decide (n74 > (0 : Int))))] h24)))) else
              (Q [(Value.slice l22.a l22.n l22.c)] h24))) → X21 [(Value.slice l22.a l22.n l22.c), (Value.int .i64 n23)] h24) →
        X21 [(Value.slice none 0 0), (Value.int .i64 (0 : Int))] h19) ∧
      ∀ (k10 v11 : Value) (o12 : Obj), IterStep h8 o9 k10 v11 o12 → wth (Array.setIfInBounds h8 (Addr.block (Addr.mk (Array.size h4) 0 none)) o12) fun h75 =>
      (Addr.off (Addr.mk (Array.size h4) 0 none) = 0 ∧ ∃ (m76 n77 : Nat) (q78 : Array Nat) (n79 : Nat) (es80 : Array MapEntry) (c81 : Nat) (e82 : MapEntry), h75[Addr.block (Addr.mk (Array.size h4) 0 none)]? = some (.mapIter (some m76) n77 q78 c81) ∧ Array.back? q78 = some n79 ∧ h75[m76]? = some (.map es80 c81) ∧ Array.find? (fun x => x.born == n79) es80 = some e82 ∧ ∃ n83 : Int, e82.key = (Value.int .i64 n83) ∧ ∃ v84 : Value, e82.val = v84 ∧ S_wait_reach r3 n83 h75 fun (vs85 : List Value) (h86 : Hp) =>
        ∃ r87 : Option Nat, vs85 = [(Value.map r87)] ∧
        ∃ (m88 : Nat) (es89 : Array MapEntry) (c90 : Nat), (some (Array.size h2)) = some m88 ∧ h86[m88]? = some (.map es89 c90) ∧ KeysLike (Value.int .i64 n83) es89 ∧ wth (Array.setIfInBounds h86 m88 (mput (Value.int .i64 n83) (Value.map r87) es89 c90)) fun h91 =>
        X7 [] h91))) → X7 [] h8) →
X7 [] h6
def A_wait_Circles : Ann := (.mk none ⟨[], []⟩ .nil (.mk none ⟨[], []⟩ (.mk none ⟨[], []⟩ .nil (.mk none ⟨[], []⟩ .nil (.mk none ⟨[], []⟩ (.mk none ⟨[], []⟩ .nil (.mk none ⟨[], []⟩ (.mk none ⟨[3, 4, 17], []⟩ .nil .nil) .nil)) (.mk none ⟨[], []⟩ .nil (.mk none ⟨[], []⟩ .nil (.mk none ⟨[], []⟩ .nil (.mk none ⟨[], []⟩ (.mk none ⟨[], []⟩ .nil (.mk none ⟨[], []⟩ (.mk none ⟨[4, 7, 30, 31], [(6, (.c .sl)), (32, (.c (.int .i64)))]⟩ (.mk none ⟨[], []⟩ .nil (.mk none ⟨[], []⟩ .nil (.mk none ⟨[], []⟩ (.mk (some ⟨[4, 7, 30, 31, 32], [(6, (.c .sl))]⟩) ⟨[], []⟩ (.mk none ⟨[], []⟩ .nil (.mk none ⟨[], []⟩ (.mk none ⟨[], []⟩ (.mk (some ⟨[4, 6, 7, 9, 30, 31, 32], [(47, (.c .bool))]⟩) ⟨[], []⟩ .nil .nil) .nil) (.mk none ⟨[], []⟩ .nil (.mk none ⟨[], []⟩ (.mk none ⟨[], []⟩ .nil (.mk none ⟨[], []⟩ (.mk none ⟨[4, 6, 7, 9, 30, 31, 32, 52, 53], [(10, (.c .sl)), (54, (.c (.int .i64)))]⟩ (.mk none ⟨[], []⟩ .nil (.mk none ⟨[], []⟩ .nil (.mk none ⟨[], []⟩ (.mk (some ⟨[4, 6, 7, 9, 30, 31, 32, 52, 53, 54], [(10, (.c .sl))]⟩) ⟨[], []⟩ .nil .nil) .nil))) .nil) .nil)) .nil)))) .nil) .nil))) .nil) .nil)) .nil))))))) .nil))
theorem E_wait_Circles (g0_l : Sl) (h : Hp) (Q : List Value → Hp → Prop) : cw PP 79 (fun d => if d = 20 then [(.c (.int .i64)), (.c .any)] else []) (bodyOf Try.f8) A_wait_Circles (finQ PP (Try.f8.results.toList) Q) (argFr [(Value.slice g0_l.a g0_l.n g0_l.c)]) h = F_wait_Circles g0_l h Q := by kernel_rfl
theorem O_wait_Circles (g0_l : Sl) {h : Hp} {Q : List Value → Hp → Prop} (H : F_wait_Circles g0_l h Q) : S_wait_Circles g0_l h Q :=
  fn_of_cw (hs := (fun d => if d = 20 then [(.c (.int .i64)), (.c .any)] else [])) (ann := A_wait_Circles) (args := [(Value.slice g0_l.a g0_l.n g0_l.c)]) mixedPP Try.func8 (c := bodyOf Try.f8) (by kernel_rfl) (by kernel_rfl) (by kernel_rfl) (Eq.mpr (E_wait_Circles g0_l h Q) H)
def F_liverykeep_Ints (g0_a : Sl) (g1_b : Sl) (h : Hp) (Q : List Value → Hp → Prop) : Prop :=
(if ((g0_a.n : Int) != (g1_b.n : Int)) = true then
  (Q [(Value.bool false)] h) else
  (∀ X1 : List Value → Hp → Prop, (∀ n2 : Int, ∀ h3 : Hp, ((if (decide (n2 < (g0_a.n : Int))) = true then
          (nilW g0_a.a fun a4 => ixOk n2 g0_a.n (∃ n5 : Int, rd h3 (Addr.add a4 (Int.toNat n2 * 1)) = some (Value.int .i64 n5) ∧
              nilW g1_b.a fun a6 => ixOk n2 g1_b.n (∃ n7 : Int, rd h3 (Addr.add a6 (Int.toNat n2 * 1)) = some (Value.int .i64 n7) ∧
                (if (n5 != n7) = true then
                  (Q [(Value.bool false)] h3) else
                  (X1 [(Value.int .i64 (IntKind.wrap .i64 (n2 + (1 : Int))))] h3))))) else
          (Q [(Value.bool true)] h3))) → X1 [(Value.int .i64 n2)] h3) →
    X1 [(Value.int .i64 (0 : Int))] h))
def A_liverykeep_Ints : Ann := (.mk none ⟨[], []⟩ .nil (.mk none ⟨[], []⟩ .nil (.mk none ⟨[], []⟩ (.mk none ⟨[], []⟩ .nil (.mk none ⟨[], []⟩ (.mk none ⟨[0, 1], [(5, (.c (.int .i64)))]⟩ .nil .nil) .nil)) .nil)))
theorem E_liverykeep_Ints (g0_a : Sl) (g1_b : Sl) (h : Hp) (Q : List Value → Hp → Prop) : cw PP 26 (fun _ => []) (bodyOf Try.f10) A_liverykeep_Ints (finQ PP (Try.f10.results.toList) Q) (argFr [(Value.slice g0_a.a g0_a.n g0_a.c), (Value.slice g1_b.a g1_b.n g1_b.c)]) h = F_liverykeep_Ints g0_a g1_b h Q := by kernel_rfl
theorem O_liverykeep_Ints (g0_a : Sl) (g1_b : Sl) {h : Hp} {Q : List Value → Hp → Prop} (H : F_liverykeep_Ints g0_a g1_b h Q) : S_liverykeep_Ints g0_a g1_b h Q :=
  fn_of_cw (hs := (fun _ => [])) (ann := A_liverykeep_Ints) (args := [(Value.slice g0_a.a g0_a.n g0_a.c), (Value.slice g1_b.a g1_b.n g1_b.c)]) mixedPP Try.func10 (c := bodyOf Try.f10) (by kernel_rfl) (by kernel_rfl) (by kernel_rfl) (Eq.mpr (E_liverykeep_Ints g0_a g1_b h Q) H)
def F_wait_Victim (g0_l : Sl) (h : Hp) (Q : List Value → Hp → Prop) : Prop :=
S_wait_Circles ⟨g0_l.a, g0_l.n, g0_l.c⟩ h fun (vs1 : List Value) (h2 : Hp) =>
∃ l3 : Sl, vs1 = [(Value.slice l3.a l3.n l3.c)] ∧
∀ X4 : List Value → Hp → Prop, (∀ n5 : Int, ∀ b6 : Bool, ∀ n7 : Int, ∀ h8 : Hp, ((if (decide (n7 < (l3.n : Int))) = true then
      (∀ J9 : List Value → Hp → Prop, (∀ n10 : Int, ∀ b11 : Bool, ∀ h12 : Hp, (X4 [(Value.int .i64 n10), (Value.bool b11), (Value.int .i64 (IntKind.wrap .i64 (n7 + (1 : Int))))] h12) → J9 [(Value.int .i64 n10), (Value.bool b11)] h12) →
        nilW l3.a fun a13 => ixOk n7 l3.n (∃ l14 : Sl, rd h8 (Addr.add a13 (Int.toNat n7 * 1)) = some (Value.slice l14.a l14.n l14.c) ∧
          nilW l14.a fun a15 => ixOk (IntKind.wrap .i64 ((l14.n : Int) - (1 : Int))) l14.n (∃ n16 : Int, rd h8 (Addr.add a15 (Int.toNat (IntKind.wrap .i64 ((l14.n : Int) - (1 : Int))) * 1)) = some (Value.int .i64 n16) ∧
            ∀ J17 : List Value → Hp → Prop, (∀ b18 : Bool, ∀ h19 : Hp, ((if b18 = true then
                  (J9 [(Value.int .i64 n16), (Value.bool true)] h19) else
                  (J9 [(Value.int .i64 n5), (Value.bool b6)] h19))) → J17 [(Value.bool b18)] h19) →
            (if (!b6) = true then (J17 [(Value.bool true)] h8) else
              (J17 [(Value.bool (decide (n16 > n5)))] h8))))) else
      (Q [(Value.int .i64 n5), (Value.bool b6)] h8))) → X4 [(Value.int .i64 n5), (Value.bool b6), (Value.int .i64 n7)] h8) →
X4 [(Value.int .i64 (0 : Int)), (Value.bool false), (Value.int .i64 (0 : Int))] h2
def A_wait_Victim : Ann := (.mk none ⟨[], []⟩ .nil (.mk none ⟨[], []⟩ .nil (.mk none ⟨[], []⟩ (.mk none ⟨[], []⟩ .nil (.mk none ⟨[], []⟩ (.mk none ⟨[10, 11], [(4, (.c (.int .i64))), (5, (.c .bool)), (12, (.c (.int .i64)))]⟩ (.mk none ⟨[], []⟩ .nil (.mk none ⟨[], []⟩ .nil (.mk none ⟨[], []⟩ (.mk (some ⟨[10, 11, 12], [(4, (.c (.int .i64))), (5, (.c .bool))]⟩) ⟨[], []⟩ (.mk none ⟨[], []⟩ .nil (.mk none ⟨[], []⟩ .nil (.mk none ⟨[], []⟩ (.mk (some ⟨[4, 5, 8, 10, 11, 12], [(28, (.c .bool))]⟩) ⟨[], []⟩ .nil .nil) .nil))) .nil) .nil))) .nil) .nil)) .nil)))
theorem E_wait_Victim (g0_l : Sl) (h : Hp) (Q : List Value → Hp → Prop) : cw PP 33 (fun _ => []) (bodyOf Try.f11) A_wait_Victim (finQ PP (Try.f11.results.toList) Q) (argFr [(Value.slice g0_l.a g0_l.n g0_l.c)]) h = F_wait_Victim g0_l h Q := by kernel_rfl
theorem O_wait_Victim (g0_l : Sl) {h : Hp} {Q : List Value → Hp → Prop} (H : F_wait_Victim g0_l h Q) : S_wait_Victim g0_l h Q :=
  fn_of_cw (hs := (fun _ => [])) (ann := A_wait_Victim) (args := [(Value.slice g0_l.a g0_l.n g0_l.c)]) mixedPP Try.func11 (c := bodyOf Try.f11) (by kernel_rfl) (by kernel_rfl) (by kernel_rfl) (Eq.mpr (E_wait_Victim g0_l h Q) H)
def F_wait_Free (g0_l : Sl) (h : Hp) (Q : List Value → Hp → Prop) : Prop :=
S_wait_graph ⟨g0_l.a, g0_l.n, g0_l.c⟩ h fun (vs1 : List Value) (h2 : Hp) =>
∃ r3 : Option Nat, vs1 = [(Value.map r3)] ∧
wth (Array.push h2 (Obj.map #[] 0)) fun h4 =>
∀ X5 : List Value → Hp → Prop, (∀ n6 : Int, ∀ h7 : Hp, ((if (decide (n6 < (g0_l.n : Int))) = true then
      (∀ J8 : List Value → Hp → Prop, (∀ h9 : Hp, (X5 [(Value.int .i64 (IntKind.wrap .i64 (n6 + (1 : Int))))] h9) → J8 [] h9) →
        nilW g0_l.a fun a10 => ixOk n6 g0_l.n (∃ n11 : Int, rd h7 (Addr.add (Addr.add a10 (Int.toNat n6 * 2)) 0) = some (Value.int .i64 n11) ∧ ∃ n12 : Int, rd h7 (Addr.add (Addr.add a10 (Int.toNat n6 * 2)) 1) = some (Value.int .i64 n12) ∧ wth (Array.push h7 (Obj.cells #[(Value.int .i64 (0 : Int)), (Value.int .i64 (0 : Int))] T_2_int)) fun h13 =>
          stOk h13 (Addr.mk (Array.size h7) 0 none) 2 ∧ wth (wrs h13 (Addr.mk (Array.size h7) 0 none) 0 [(Value.int .i64 n11), (Value.int .i64 n12)]) fun h14 =>
          ixOk (1 : Int) 2 (∃ n15 : Int, rd h14 (Addr.add (Addr.mk (Array.size h7) 0 none) (Int.toNat (1 : Int) * 1)) = some (Value.int .i64 n15) ∧
            ∃ es16 : Array MapEntry, mapAt h14 r3 es16 ∧ KeysLike (Value.int .i64 n15) es16 ∧ ∃ l17 : Sl, mgetD (Value.int .i64 n15) es16 (Value.slice none 0 0) = (Value.slice l17.a l17.n l17.c) ∧
            (if ((l17.n : Int) == (0 : Int)) = true then
              (ixOk (1 : Int) 2 (∃ n18 : Int, rd h14 (Addr.add (Addr.mk (Array.size h7) 0 none) (Int.toNat (1 : Int) * 1)) = some (Value.int .i64 n18) ∧
                  ∃ es19 : Array MapEntry, mapAt h14 (some (Array.size h2)) es19 ∧ KeysLike (Value.int .i64 n18) es19 ∧ ∃ n20 : Int, mgetD (Value.int .i64 n18) es19 (Value.int .i64 (0 : Int)) = (Value.int .i64 n20) ∧
                  ∃ (m21 : Nat) (es22 : Array MapEntry) (c23 : Nat), (some (Array.size h2)) = some m21 ∧ h14[m21]? = some (.map es22 c23) ∧ KeysLike (Value.int .i64 n18) es22 ∧ wth (Array.setIfInBounds h14 m21 (mput (Value.int .i64 n18) (Value.int .i64 (IntKind.wrap .i64 (n20 + (1 : Int)))) es22 c23)) fun h24 =>
                  J8 [] h24)) else
              (J8 [] h14))))) else
      (S_maps_Keys_map_int_int_int_int (some (Array.size h2)) h7 fun (vs25 : List Value) (h26 : Hp) =>
        ∃ f27 : Nat, ∃ cs28 : Array Value, vs25 = [(Value.func (.func f27) #[] cs28)] ∧
        S_slices_Sorted_int f27 cs28 h26 fun (vs29 : List Value) (h30 : Hp) =>
        ∃ l31 : Sl, vs29 = [(Value.slice l31.a l31.n l31.c)] ∧
        Q [(Value.slice l31.a l31.n l31.c)] h30))) → X5 [(Value.int .i64 n6)] h7) →
X5 [(Value.int .i64 (0 : Int))] h4
def A_wait_Free : Ann := (.mk none ⟨[], []⟩ .nil (.mk none ⟨[], []⟩ .nil (.mk none ⟨[], []⟩ .nil (.mk none ⟨[], []⟩ (.mk none ⟨[], []⟩ .nil (.mk none ⟨[], []⟩ (.mk none ⟨[3, 4, 10, 11], [(12, (.c (.int .i64)))]⟩ (.mk none ⟨[], []⟩ .nil (.mk none ⟨[], []⟩ .nil (.mk none ⟨[], []⟩ (.mk (some ⟨[3, 4, 10, 11, 12], []⟩) ⟨[], []⟩ .nil .nil) .nil))) .nil) .nil)) .nil))))
theorem E_wait_Free (g0_l : Sl) (h : Hp) (Q : List Value → Hp → Prop) : cw PP 31 (fun _ => []) (bodyOf Try.f13) A_wait_Free (finQ PP (Try.f13.results.toList) Q) (argFr [(Value.slice g0_l.a g0_l.n g0_l.c)]) h = F_wait_Free g0_l h Q := by kernel_rfl
theorem O_wait_Free (g0_l : Sl) {h : Hp} {Q : List Value → Hp → Prop} (H : F_wait_Free g0_l h Q) : S_wait_Free g0_l h Q :=
  fn_of_cw (hs := (fun _ => [])) (ann := A_wait_Free) (args := [(Value.slice g0_l.a g0_l.n g0_l.c)]) mixedPP Try.func13 (c := bodyOf Try.f13) (by kernel_rfl) (by kernel_rfl) (by kernel_rfl) (Eq.mpr (E_wait_Free g0_l h Q) H)
def F_liverylaw07_wakes (h : Hp) (Q : List Value → Hp → Prop) : Prop :=
wth (Array.push h (Obj.cells #[(Value.int .i64 (1 : Int)), (Value.int .i64 (2 : Int)), (Value.int .i64 (2 : Int)), (Value.int .i64 (1 : Int)), (Value.int .i64 (3 : Int)), (Value.int .i64 (2 : Int))] T_2_int)) fun h1 =>
S_wait_Circles ⟨(some (Addr.mk (Array.size h) 0 none)), 3, 3⟩ h1 fun (vs2 : List Value) (h3 : Hp) =>
∃ l4 : Sl, vs2 = [(Value.slice l4.a l4.n l4.c)] ∧
S_wait_Victim ⟨(some (Addr.mk (Array.size h) 0 none)), 3, 3⟩ h3 fun (vs5 : List Value) (h6 : Hp) =>
∃ n7 : Int, ∃ b8 : Bool, vs5 = [(Value.int .i64 n7), (Value.bool b8)] ∧
(if ((l4.n : Int) == (1 : Int)) = true then (nilW l4.a fun a9 => ixOk (0 : Int) l4.n (∃ l10 : Sl, rd h6 (Addr.add a9 (Int.toNat (0 : Int) * 1)) = some (Value.slice l10.a l10.n l10.c) ∧
      wth (Array.push h6 (Obj.cells #[(Value.int .i64 (1 : Int)), (Value.int .i64 (2 : Int))] T_int)) fun h11 =>
      S_liverykeep_Ints ⟨l10.a, l10.n, l10.c⟩ ⟨(some (Addr.mk (Array.size h6) 0 none)), 2, 2⟩ h11 fun (vs12 : List Value) (h13 : Hp) =>
      ∃ b14 : Bool, vs12 = [(Value.bool b14)] ∧
      (if b14 = true then ((if b8 = true then ((if (n7 == (2 : Int)) = true then (S_wait_Free ⟨(some (Addr.mk (Array.size h) 0 none)), 3, 3⟩ h13 fun (vs15 : List Value) (h16 : Hp) =>
                  ∃ l17 : Sl, vs15 = [(Value.slice l17.a l17.n l17.c)] ∧
                  (if ((l17.n : Int) == (0 : Int)) = true then (wth (Array.push h16 (Obj.cells #[(Value.int .i64 (1 : Int)), (Value.int .i64 (2 : Int))] T_2_int)) fun h18 =>
                      S_wait_Free ⟨(some (Addr.mk (Array.size h16) 0 none)), 1, 1⟩ h18 fun (vs19 : List Value) (h20 : Hp) =>
                      ∃ l21 : Sl, vs19 = [(Value.slice l21.a l21.n l21.c)] ∧
                      wth (Array.push h20 (Obj.cells #[(Value.int .i64 (2 : Int))] T_int)) fun h22 =>
                      S_liverykeep_Ints ⟨l21.a, l21.n, l21.c⟩ ⟨(some (Addr.mk (Array.size h20) 0 none)), 1, 1⟩ h22 fun (vs23 : List Value) (h24 : Hp) =>
                      ∃ b25 : Bool, vs23 = [(Value.bool b25)] ∧
                      Q [(Value.bool b25)] h24) else
                    (Q [(Value.bool false)] h16))) else
                (Q [(Value.bool false)] h13))) else
            (Q [(Value.bool false)] h13))) else
        (Q [(Value.bool false)] h13)))) else
  (Q [(Value.bool false)] h6))
def A_liverylaw07_wakes : Ann := .nil
theorem E_liverylaw07_wakes (h : Hp) (Q : List Value → Hp → Prop) : cw PP 46 (fun _ => []) (bodyOf Try.f6) A_liverylaw07_wakes (finQ PP (Try.f6.results.toList) Q) (argFr []) h = F_liverylaw07_wakes h Q := by kernel_rfl
theorem O_liverylaw07_wakes {h : Hp} {Q : List Value → Hp → Prop} (H : F_liverylaw07_wakes h Q) : S_liverylaw07_wakes h Q :=
  fn_of_cw (hs := (fun _ => [])) (ann := A_liverylaw07_wakes) (args := []) mixedPP Try.func6 (c := bodyOf Try.f6) (by kernel_rfl) (by kernel_rfl) (by kernel_rfl) (Eq.mpr (E_liverylaw07_wakes h Q) H)
def F_liverylaw07_few (g0_l : Sl) (h : Hp) (Q : List Value → Hp → Prop) : Prop :=
wth (Array.push h (Obj.cells #[] T_2_int)) fun h1 =>
∃ cs4 : List Value, cellsAt h1 g0_l.a (g0_l.n * 2) cs4 ∧ appS PP T_2_int 16 2 h1 ⟨(some (Addr.mk (Array.size h) 0 none)), 0, 0⟩ g0_l.n cs4 fun (l2 : Sl) (h3 : Hp) =>
Q [(Value.slice l2.a l2.n l2.c)] h3
def A_liverylaw07_few : Ann := .nil
theorem E_liverylaw07_few (g0_l : Sl) (h : Hp) (Q : List Value → Hp → Prop) : cw PP 6 (fun _ => []) (bodyOf Try.f7) A_liverylaw07_few (finQ PP (Try.f7.results.toList) Q) (argFr [(Value.slice g0_l.a g0_l.n g0_l.c)]) h = F_liverylaw07_few g0_l h Q := by kernel_rfl
theorem O_liverylaw07_few (g0_l : Sl) {h : Hp} {Q : List Value → Hp → Prop} (H : F_liverylaw07_few g0_l h Q) : S_liverylaw07_few g0_l h Q :=
  fn_of_cw (hs := (fun _ => [])) (ann := A_liverylaw07_few) (args := [(Value.slice g0_l.a g0_l.n g0_l.c)]) mixedPP Try.func7 (c := bodyOf Try.f7) (by kernel_rfl) (by kernel_rfl) (by kernel_rfl) (Eq.mpr (E_liverylaw07_few g0_l h Q) H)
def F_liveryref07_nodes (g0_l : Sl) (h : Hp) (Q : List Value → Hp → Prop) : Prop :=
∀ X1 : List Value → Hp → Prop, (∀ l2 : Sl, ∀ n3 : Int, ∀ h4 : Hp, ((if (decide (n3 < (g0_l.n : Int))) = true then
      (∀ X5 : List Value → Hp → Prop, (∀ l6 : Sl, ∀ n7 : Int, ∀ h8 : Hp, ((if (decide (n7 < (2 : Int))) = true then
              (∀ J9 : List Value → Hp → Prop, (∀ l10 : Sl, ∀ h11 : Hp, (X5 [(Value.slice l10.a l10.n l10.c), (Value.int .i64 (IntKind.wrap .i64 (n7 + (1 : Int))))] h11) → J9 [(Value.slice l10.a l10.n l10.c)] h11) →
                nilW g0_l.a fun a12 => ixOk n3 g0_l.n (ixOk n7 2 (∃ n13 : Int, rd h8 (Addr.add (Addr.add a12 (Int.toNat n3 * 2)) (Int.toNat n7 * 1)) = some (Value.int .i64 n13) ∧
                    ∀ X14 : List Value → Hp → Prop, (∀ n15 : Int, ∀ h16 : Hp, (∀ J17 : List Value → Hp → Prop, (∀ b18 : Bool, ∀ h19 : Hp, ((if b18 = true then
                              (X14 [(Value.int .i64 (IntKind.wrap .i64 (n15 + (1 : Int))))] h19) else
                              (∀ J20 : List Value → Hp → Prop, (∀ b21 : Bool, ∀ h22 : Hp, ((if b21 = true then
                                      ((0 ≤ n15 ∧ n15 ≤ (l6.c : Nat)) ∧ (0 ≤ n15 ∧ n15 ≤ (l6.n : Nat)) ∧ (wth (Array.push h22 (Obj.cells #[] T_int)) fun h23 =>
                                          (∃ cs33 : List Value, cellsAt h23 (slAd l6.a 0 l6.c 1) (((Int.toNat n15) - 0) * 1) cs33 ∧ appS PP T_int 8 1 h23 ⟨(some (Addr.mk (Array.size h22) 0 none)), 0, 0⟩ ((Int.toNat n15) - 0) cs33 fun (l24 : Sl) (h25 : Hp) =>
                                            wth (Array.push h25 (Obj.cells #[(Value.int .i64 n13)] T_int)) fun h26 =>
                                            ∃ cs32 : List Value, cellsAt h26 (some (Addr.mk (Array.size h25) 0 none)) (1 * 1) cs32 ∧ appS PP T_int 8 1 h26 ⟨l24.a, l24.n, l24.c⟩ 1 cs32 fun (l27 : Sl) (h28 : Hp) =>
                                            ∃ cs31 : List Value, cellsAt h28 (slAd l6.a (Int.toNat n15) l6.c 1) ((l6.n - (Int.toNat n15)) * 1) cs31 ∧ appS PP T_int 8 1 h28 ⟨l27.a, l27.n, l27.c⟩ (l6.n - (Int.toNat n15)) cs31 fun (l29 : Sl) (h30 : Hp) =>
                                            J9 [(Value.slice l29.a l29.n l29.c)] h30) ∧
                                          (wth (Array.push h23 (Obj.cells #[(Value.int .i64 n13)] T_int)) fun h34 =>
                                            ∃ cs43 : List Value, cellsAt h34 (slAd l6.a 0 l6.c 1) (((Int.toNat n15) - 0) * 1) cs43 ∧ appS PP T_int 8 1 h34 ⟨(some (Addr.mk (Array.size h22) 0 none)), 0, 0⟩ ((Int.toNat n15) - 0) cs43 fun (l35 : Sl) (h36 : Hp) =>
                                            ∃ cs42 : List Value, cellsAt h36 (some (Addr.mk (Array.size h23) 0 none)) (1 * 1) cs42 ∧ appS PP T_int 8 1 h36 ⟨l35.a, l35.n, l35.c⟩ 1 cs42 fun (l37 : Sl) (h38 : Hp) =>
                                            ∃ cs41 : List Value, cellsAt h38 (slAd l6.a (Int.toNat n15) l6.c 1) ((l6.n - (Int.toNat n15)) * 1) cs41 ∧ appS PP T_int 8 1 h38 ⟨l37.a, l37.n, l37.c⟩ (l6.n - (Int.toNat n15)) cs41 fun (l39 : Sl) (h40 : Hp) =>
                                            J9 [(Value.slice l39.a l39.n l39.c)] h40)) ∧
                                        (wth (Array.push h22 (Obj.cells #[(Value.int .i64 n13)] T_int)) fun h44 =>
                                          wth (Array.push h44 (Obj.cells #[] T_int)) fun h45 =>
                                          ∃ cs54 : List Value, cellsAt h45 (slAd l6.a 0 l6.c 1) (((Int.toNat n15) - 0) * 1) cs54 ∧ appS PP T_int 8 1 h45 ⟨(some (Addr.mk (Array.size h44) 0 none)), 0, 0⟩ ((Int.toNat n15) - 0) cs54 fun (l46 : Sl) (h47 : Hp) =>
                                          ∃ cs53 : List Value, cellsAt h47 (some (Addr.mk (Array.size h22) 0 none)) (1 * 1) cs53 ∧ appS PP T_int 8 1 h47 ⟨l46.a, l46.n, l46.c⟩ 1 cs53 fun (l48 : Sl) (h49 : Hp) =>
                                          ∃ cs52 : List Value, cellsAt h49 (slAd l6.a (Int.toNat n15) l6.c 1) ((l6.n - (Int.toNat n15)) * 1) cs52 ∧ appS PP T_int 8 1 h49 ⟨l48.a, l48.n, l48.c⟩ (l6.n - (Int.toNat n15)) cs52 fun (l50 : Sl) (h51 : Hp) =>
                                          J9 [(Value.slice l50.a l50.n l50.c)] h51)) else
                                      (J9 [(Value.slice l6.a l6.n l6.c)] h22))) → J20 [(Value.bool b21)] h22) →
                                (if (n15 == (l6.n : Int)) = true then (J20 [(Value.bool true)] h19) else
                                  (nilW l6.a fun a55 => ixOk n15 l6.n (∃ n56 : Int, rd h19 (Addr.add a55 (Int.toNat n15 * 1)) = some (Value.int .i64 n56) ∧
                                      J20 [(Value.bool (n56 != n13))] h19)))))) → J17 [(Value.bool b18)] h19) →
                        (if (decide (n15 < (l6.n : Int))) = true then (nilW l6.a fun a57 => ixOk n15 l6.n (∃ n58 : Int, rd h16 (Addr.add a57 (Int.toNat n15 * 1)) = some (Value.int .i64 n58) ∧
                              J17 [(Value.bool (decide (n58 < n13)))] h16)) else
                          (J17 [(Value.bool false)] h16))) → X14 [(Value.int .i64 n15)] h16) →
                    X14 [(Value.int .i64 (0 : Int))] h8))) else
              (X1 [(Value.slice l6.a l6.n l6.c), (Value.int .i64 (IntKind.wrap .i64 (n3 + (1 : Int))))] h8))) → X5 [(Value.slice l6.a l6.n l6.c), (Value.int .i64 n7)] h8) →
        X5 [(Value.slice l2.a l2.n l2.c), (Value.int .i64 (0 : Int))] h4) else
      (Q [(Value.slice l2.a l2.n l2.c)] h4))) → X1 [(Value.slice l2.a l2.n l2.c), (Value.int .i64 n3)] h4) →
X1 [(Value.slice none 0 0), (Value.int .i64 (0 : Int))] h
def A_liveryref07_nodes : Ann := (.mk none ⟨[], []⟩ .nil (.mk none ⟨[], []⟩ .nil (.mk none ⟨[], []⟩ (.mk none ⟨[], []⟩ .nil (.mk none ⟨[], []⟩ (.mk none ⟨[0], [(3, (.c .sl)), (4, (.c (.int .i64)))]⟩ (.mk none ⟨[], []⟩ .nil (.mk none ⟨[], []⟩ (.mk none ⟨[], []⟩ (.mk none ⟨[], []⟩ .nil (.mk none ⟨[], []⟩ (.mk none ⟨[0, 4], [(3, (.c .sl)), (5, (.c (.int .i64)))]⟩ (.mk none ⟨[], []⟩ .nil (.mk none ⟨[], []⟩ (.mk (some ⟨[0, 4, 5], [(3, (.c .sl))]⟩) ⟨[], []⟩ (.mk none ⟨[], []⟩ .nil (.mk none ⟨[], []⟩ (.mk none ⟨[], []⟩ (.mk none ⟨[0, 3, 4, 5, 6], [(7, (.c (.int .i64)))]⟩ (.mk none ⟨[], []⟩ (.mk none ⟨[], []⟩ (.mk (some ⟨[0, 3, 4, 5, 6, 7], [(35, (.c .bool))]⟩) ⟨[], []⟩ .nil .nil) .nil) .nil) .nil) .nil) (.mk none ⟨[], []⟩ (.mk (some ⟨[0, 3, 4, 5, 6, 7], [(49, (.c .bool))]⟩) ⟨[], []⟩ .nil .nil) .nil))) .nil) .nil)) .nil) .nil)) .nil) .nil)) .nil) .nil)) .nil)))
theorem E_liveryref07_nodes (g0_l : Sl) (h : Hp) (Q : List Value → Hp → Prop) : cw PP 63 (fun _ => []) (bodyOf Try.f21) A_liveryref07_nodes (finQ PP (Try.f21.results.toList) Q) (argFr [(Value.slice g0_l.a g0_l.n g0_l.c)]) h = F_liveryref07_nodes g0_l h Q := by kernel_rfl
theorem O_liveryref07_nodes (g0_l : Sl) {h : Hp} {Q : List Value → Hp → Prop} (H : F_liveryref07_nodes g0_l h Q) : S_liveryref07_nodes g0_l h Q :=
  fn_of_cw (hs := (fun _ => [])) (ann := A_liveryref07_nodes) (args := [(Value.slice g0_l.a g0_l.n g0_l.c)]) mixedPP Try.func21 (c := bodyOf Try.f21) (by kernel_rfl) (by kernel_rfl) (by kernel_rfl) (Eq.mpr (E_liveryref07_nodes g0_l h Q) H)
def F_liveryref07_has (g0_l : Sl) (g1_n : Int) (h : Hp) (Q : List Value → Hp → Prop) : Prop :=
∀ X1 : List Value → Hp → Prop, (∀ n2 : Int, ∀ h3 : Hp, ((if (decide (n2 < (g0_l.n : Int))) = true then
      (nilW g0_l.a fun a4 => ixOk n2 g0_l.n (∃ n5 : Int, rd h3 (Addr.add a4 (Int.toNat n2 * 1)) = some (Value.int .i64 n5) ∧
          (if (n5 == g1_n) = true then
            (Q [(Value.bool true)] h3) else
            (X1 [(Value.int .i64 (IntKind.wrap .i64 (n2 + (1 : Int))))] h3)))) else
      (Q [(Value.bool false)] h3))) → X1 [(Value.int .i64 n2)] h3) →
X1 [(Value.int .i64 (0 : Int))] h
def A_liveryref07_has : Ann := (.mk none ⟨[], []⟩ .nil (.mk none ⟨[], []⟩ (.mk none ⟨[], []⟩ .nil (.mk none ⟨[], []⟩ (.mk none ⟨[0, 1], [(5, (.c (.int .i64)))]⟩ .nil .nil) .nil)) .nil))
theorem E_liveryref07_has (g0_l : Sl) (g1_n : Int) (h : Hp) (Q : List Value → Hp → Prop) : cw PP 18 (fun _ => []) (bodyOf Try.f23) A_liveryref07_has (finQ PP (Try.f23.results.toList) Q) (argFr [(Value.slice g0_l.a g0_l.n g0_l.c), (Value.int .i64 g1_n)]) h = F_liveryref07_has g0_l g1_n h Q := by kernel_rfl
theorem O_liveryref07_has (g0_l : Sl) (g1_n : Int) {h : Hp} {Q : List Value → Hp → Prop} (H : F_liveryref07_has g0_l g1_n h Q) : S_liveryref07_has g0_l g1_n h Q :=
  fn_of_cw (hs := (fun _ => [])) (ann := A_liveryref07_has) (args := [(Value.slice g0_l.a g0_l.n g0_l.c), (Value.int .i64 g1_n)]) mixedPP Try.func23 (c := bodyOf Try.f23) (by kernel_rfl) (by kernel_rfl) (by kernel_rfl) (Eq.mpr (E_liveryref07_has g0_l g1_n h Q) H)
def F_liveryref07_Reach (g0_l : Sl) (g1_from : Int) (h : Hp) (Q : List Value → Hp → Prop) : Prop :=
wth (Array.push h (Obj.cells #[(Value.int .i64 g1_from)] T_int)) fun h1 =>
∀ X2 : List Value → Hp → Prop, (∀ l3 : Sl, ∀ l4 : Sl, ∀ n5 : Int, ∀ h6 : Hp, ((if (decide (n5 < (l4.n : Int))) = true then
      (∀ X7 : List Value → Hp → Prop, (∀ l8 : Sl, ∀ l9 : Sl, ∀ n10 : Int, ∀ h11 : Hp, ((if (decide (n10 < (g0_l.n : Int))) = true then
              (∀ J12 : List Value → Hp → Prop, (∀ l13 : Sl, ∀ l14 : Sl, ∀ h15 : Hp, (X7 [(Value.slice l13.a l13.n l13.c), (Value.slice l14.a l14.n l14.c), (Value.int .i64 (IntKind.wrap .i64 (n10 + (1 : Int))))] h15) → J12 [(Value.slice l13.a l13.n l13.c), (Value.slice l14.a l14.n l14.c)] h15) →
                ∀ J16 : List Value → Hp → Prop, (∀ b17 : Bool, ∀ h18 : Hp, ((if b17 = true then
                      (nilW g0_l.a fun a19 => ixOk n10 g0_l.n (ixOk (1 : Int) 2 (∃ n20 : Int, rd h18 (Addr.add (Addr.add a19 (Int.toNat n10 * 2)) (Int.toNat (1 : Int) * 1)) = some (Value.int .i64 n20) ∧
                            wth (Array.push h18 (Obj.cells #[(Value.int .i64 n20)] T_int)) fun h21 =>
                            ∃ cs30 : List Value, cellsAt h21 (some (Addr.mk (Array.size h18) 0 none)) (1 * 1) cs30 ∧ appS PP T_int 8 1 h21 ⟨l8.a, l8.n, l8.c⟩ 1 cs30 fun (l22 : Sl) (h23 : Hp) =>
                            nilW g0_l.a fun a24 => ixOk n10 g0_l.n (ixOk (1 : Int) 2 (∃ n25 : Int, rd h23 (Addr.add (Addr.add a24 (Int.toNat n10 * 2)) (Int.toNat (1 : Int) * 1)) = some (Value.int .i64 n25) ∧
                                wth (Array.push h23 (Obj.cells #[(Value.int .i64 n25)] T_int)) fun h26 =>
                                ∃ cs29 : List Value, cellsAt h26 (some (Addr.mk (Array.size h23) 0 none)) (1 * 1) cs29 ∧ appS PP T_int 8 1 h26 ⟨l9.a, l9.n, l9.c⟩ 1 cs29 fun (l27 : Sl) (h28 : Hp) =>
                                J12 [(Value.slice l22.a l22.n l22.c), (Value.slice l27.a l27.n l27.c)] h28))))) else
                      (J12 [(Value.slice l8.a l8.n l8.c), (Value.slice l9.a l9.n l9.c)] h18))) → J16 [(Value.bool b17)] h18) →
                nilW g0_l.a fun a31 => ixOk n10 g0_l.n (ixOk (0 : Int) 2 (∃ n32 : Int, rd h11 (Addr.add (Addr.add a31 (Int.toNat n10 * 2)) (Int.toNat (0 : Int) * 1)) = some (Value.int .i64 n32) ∧
                    nilW l9.a fun a33 => ixOk n5 l9.n (∃ n34 : Int, rd h11 (Addr.add a33 (Int.toNat n5 * 1)) = some (Value.int .i64 n34) ∧
                      (if (n32 == n34) = true then (nilW g0_l.a fun a35 => ixOk n10 g0_l.n (ixOk (1 : Int) 2 (∃ n36 : Int, rd h11 (Addr.add (Addr.add a35 (Int.toNat n10 * 2)) (Int.toNat (1 : Int) * 1)) = some (Value.int .i64 n36) ∧
                              S_liveryref07_has ⟨l8.a, l8.n, l8.c⟩ n36 h11 fun (vs37 : List Value) (h38 : Hp) =>
                              ∃ b39 : Bool, vs37 = [(Value.bool b39)] ∧
                              J16 [(Value.bool (!b39))] h38))) else
                        (J16 [(Value.bool false)] h11)))))) else
              (X2 [(Value.slice l8.a l8.n l8.c), (Value.slice l9.a l9.n l9.c), (Value.int .i64 (IntKind.wrap .i64 (n5 + (1 : Int))))] h11))) → X7 [(Value.slice l8.a l8.n l8.c), (Value.slice l9.a l9.n l9.c), (Value.int .i64 n10)] h11) →
        X7 [(Value.slice l3.a l3.n l3.c), (Value.slice l4.a l4.n l4.c), (Value.int .i64 (0 : Int))] h6) else
      (Q [(Value.slice l3.a l3.n l3.c)] h6))) → X2 [(Value.slice l3.a l3.n l3.c), (Value.slice l4.a l4.n l4.c), (Value.int .i64 n5)] h6) →
X2 [(Value.slice none 0 0), (Value.slice (some (Addr.mk (Array.size h) 0 none)) 1 1), (Value.int .i64 (0 : Int))] h1
def A_liveryref07_Reach : Ann := (.mk none ⟨[], []⟩ .nil (.mk none ⟨[], []⟩ .nil (.mk none ⟨[], []⟩ .nil (.mk none ⟨[], []⟩ (.mk none ⟨[], []⟩ .nil (.mk none ⟨[], []⟩ (.mk none ⟨[0], [(5, (.c .sl)), (6, (.c .sl)), (7, (.c (.int .i64)))]⟩ (.mk none ⟨[], []⟩ .nil (.mk none ⟨[], []⟩ (.mk none ⟨[], []⟩ (.mk none ⟨[], []⟩ .nil (.mk none ⟨[], []⟩ (.mk none ⟨[0, 7], [(5, (.c .sl)), (6, (.c .sl)), (8, (.c (.int .i64)))]⟩ (.mk none ⟨[], []⟩ .nil (.mk none ⟨[], []⟩ (.mk (some ⟨[0, 7, 8], [(5, (.c .sl)), (6, (.c .sl))]⟩) ⟨[], []⟩ (.mk none ⟨[], []⟩ (.mk (some ⟨[0, 5, 6, 7, 8], [(42, (.c .bool))]⟩) ⟨[], []⟩ .nil .nil) .nil) .nil) .nil)) .nil) .nil)) .nil) .nil)) .nil) .nil)) .nil))))
theorem E_liveryref07_Reach (g0_l : Sl) (g1_from : Int) (h : Hp) (Q : List Value → Hp → Prop) : cw PP 60 (fun _ => []) (bodyOf Try.f22) A_liveryref07_Reach (finQ PP (Try.f22.results.toList) Q) (argFr [(Value.slice g0_l.a g0_l.n g0_l.c), (Value.int .i64 g1_from)]) h = F_liveryref07_Reach g0_l g1_from h Q := by kernel_rfl
theorem O_liveryref07_Reach (g0_l : Sl) (g1_from : Int) {h : Hp} {Q : List Value → Hp → Prop} (H : F_liveryref07_Reach g0_l g1_from h Q) : S_liveryref07_Reach g0_l g1_from h Q :=
  fn_of_cw (hs := (fun _ => [])) (ann := A_liveryref07_Reach) (args := [(Value.slice g0_l.a g0_l.n g0_l.c), (Value.int .i64 g1_from)]) mixedPP Try.func22 (c := bodyOf Try.f22) (by kernel_rfl) (by kernel_rfl) (by kernel_rfl) (Eq.mpr (E_liveryref07_Reach g0_l g1_from h Q) H)
def F_liveryref07_Circles (g0_l : Sl) (h : Hp) (Q : List Value → Hp → Prop) : Prop :=
S_liveryref07_nodes ⟨g0_l.a, g0_l.n, g0_l.c⟩ h fun (vs1 : List Value) (h2 : Hp) =>
∃ l3 : Sl, vs1 = [(Value.slice l3.a l3.n l3.c)] ∧
∀ X4 : List Value → Hp → Prop, (∀ l5 : Sl, ∀ l6 : Sl, ∀ n7 : Int, ∀ h8 : Hp, ((if (decide (n7 < (l3.n : Int))) = true then
      (∀ J9 : List Value → Hp → Prop, (∀ l10 : Sl, ∀ l11 : Sl, ∀ h12 : Hp, (X4 [(Value.slice l10.a l10.n l10.c), (Value.slice l11.a l11.n l11.c), (Value.int .i64 (IntKind.wrap .i64 (n7 + (1 : Int))))] h12) → J9 [(Value.slice l10.a l10.n l10.c), (Value.slice l11.a l11.n l11.c)] h12) →
        nilW l3.a fun a13 => ixOk n7 l3.n (∃ n14 : Int, rd h8 (Addr.add a13 (Int.toNat n7 * 1)) = some (Value.int .i64 n14) ∧
          S_liveryref07_Reach ⟨g0_l.a, g0_l.n, g0_l.c⟩ n14 h8 fun (vs15 : List Value) (h16 : Hp) =>
          ∃ l17 : Sl, vs15 = [(Value.slice l17.a l17.n l17.c)] ∧
          ∀ J18 : List Value → Hp → Prop, (∀ b19 : Bool, ∀ h20 : Hp, ((if b19 = true then
                (J9 [(Value.slice l5.a l5.n l5.c), (Value.slice l6.a l6.n l6.c)] h20) else
                (∀ X21 : List Value → Hp → Prop, (∀ l22 : Sl, ∀ l23 : Sl, ∀ n24 : Int, ∀ h25 : Hp, ((if (decide (n24 < (l3.n : Int))) = true then
                        (∀ J26 : List Value → Hp → Prop, (∀ l27 : Sl, ∀ l28 : Sl, ∀ h29 : Hp, (X21 [(Value.slice l27.a l27.n l27.c), (Value.slice l28.a l28.n l28.c), (Value.int .i64 (IntKind.wrap .i64 (n24 + (1 : Int))))] h29) → J26 [(Value.slice l27.a l27.n l27.c), (Value.slice l28.a l28.n l28.c)] h29) →
                          ∀ J30 : List Value → Hp → Prop, (∀ b31 : Bool, ∀ h32 : Hp, ((if b31 = true then
                                (nilW l3.a fun a33 => ixOk n24 l3.n (∃ n34 : Int, rd h32 (Addr.add a33 (Int.toNat n24 * 1)) = some (Value.int .i64 n34) ∧
                                    wth (Array.push h32 (Obj.cells #[(Value.int .i64 n34)] T_int)) fun h35 =>
                                    ∃ cs44 : List Value, cellsAt h35 (some (Addr.mk (Array.size h32) 0 none)) (1 * 1) cs44 ∧ appS PP T_int 8 1 h35 ⟨l23.a, l23.n, l23.c⟩ 1 cs44 fun (l36 : Sl) (h37 : Hp) =>
                                    nilW l3.a fun a38 => ixOk n24 l3.n (∃ n39 : Int, rd h37 (Addr.add a38 (Int.toNat n24 * 1)) = some (Value.int .i64 n39) ∧
                                      wth (Array.push h37 (Obj.cells #[(Value.int .i64 n39)] T_int)) fun h40 =>
                                      ∃ cs43 : List Value, cellsAt h40 (some (Addr.mk (Array.size h37) 0 none)) (1 * 1) cs43 ∧ appS PP T_int 8 1 h40 ⟨l22.a, l22.n, l22.c⟩ 1 cs43 fun (l41 : Sl) (h42 : Hp) =>
                                      J26 [(Value.slice l41.a l41.n l41.c), (Value.slice l36.a l36.n l36.c)] h42))) else
                                (J26 [(Value.slice l22.a l22.n l22.c), (Value.slice l23.a l23.n l23.c)] h32))) → J30 [(Value.bool b31)] h32) →
                          nilW l3.a fun a45 => ixOk n24 l3.n (∃ n46 : Int, rd h25 (Addr.add a45 (Int.toNat n24 * 1)) = some (Value.int .i64 n46) ∧
                            S_liveryref07_has ⟨l17.a, l17.n, l17.c⟩ n46 h25 fun (vs47 : List Value) (h48 : Hp) =>
                            ∃ b49 : Bool, vs47 = [(Value.bool b49)] ∧
                            (if b49 = true then (nilW l3.a fun a50 => ixOk n24 l3.n (∃ n51 : Int, rd h48 (Addr.add a50 (Int.toNat n24 * 1)) = some (Value.int .i64 n51) ∧
                                  S_liveryref07_Reach ⟨g0_l.a, g0_l.n, g0_l.c⟩ n51 h48 fun (vs52 : List Value) (h53 : Hp) =>
                                  ∃ l54 : Sl, vs52 = [(Value.slice l54.a l54.n l54.c)] ∧
                                  S_liveryref07_has ⟨l54.a, l54.n, l54.c⟩ n14 h53 fun (vs55 : List Value) (h56 : Hp) =>
                                  ∃ b57 : Bool, vs55 = [(Value.bool b57)] ∧
                                  J30 [(Value.bool b57)] h56)) else
                              (J30 [(Value.bool false)] h48)))) else
                        (wth (Array.push h25 (Obj.cells #[(Value.slice l23.a l23.n l23.c)] T_sint)) fun h58 =>
                          ∃ cs61 : List Value, cellsAt h58 (some (Addr.mk (Array.size h25) 0 none)) (1 * 1) cs61 ∧ appS PP T_sint 24 1 h58 ⟨l5.a, l5.n, l5.c⟩ 1 cs61 fun (l59 : Sl) (h60 : Hp) =>
                          J9 [(Value.slice l59.a l59.n l59.c), (Value.slice l22.a l22.n l22.c)] h60))) → X21 [(Value.slice l22.a l22.n l22.c), (Value.slice l23.a l23.n l23.c), (Value.int .i64 n24)] h25) →
                  X21 [(Value.slice l6.a l6.n l6.c), (Value.slice none 0 0), (Value.int .i64 (0 : Int))] h20))) → J18 [(Value.bool b19)] h20) →
          S_liveryref07_has ⟨l6.a, l6.n, l6.c⟩ n14 h16 fun (vs62 : List Value) (h63 : Hp) =>
          ∃ b64 : Bool, vs62 = [(Value.bool b64)] ∧
          (if b64 = true then (J18 [(Value.bool true)] h63) else
            (S_liveryref07_has ⟨l17.a, l17.n, l17.c⟩ n14 h63 fun (vs65 : List Value) (h66 : Hp) =>
              ∃ b67 : Bool, vs65 = [(Value.bool b67)] ∧
              J18 [(Value.bool (!b67))] h66)))) else
      (Q [(Value.slice l5.a l5.n l5.c)] h8))) → X4 [(Value.slice l5.a l5.n l5.c), (Value.slice l6.a l6.n l6.c), (Value.int .i64 n7)] h8) →
X4 [(Value.slice none 0 0), (Value.slice none 0 0), (Value.int .i64 (0 : Int))] h2
def A_liveryref07_Circles : Ann := (.mk none ⟨[], []⟩ .nil (.mk none ⟨[], []⟩ .nil (.mk none ⟨[], []⟩ .nil (.mk none ⟨[], []⟩ .nil (.mk none ⟨[], []⟩ (.mk none ⟨[], []⟩ .nil (.mk none ⟨[], []⟩ (.mk none ⟨[0, 4], [(3, (.c .sl)), (5, (.c .sl)), (6, (.c (.int .i64)))]⟩ (.mk none ⟨[], []⟩ .nil (.mk none ⟨[], []⟩ (.mk (some ⟨[0, 4, 6], [(3, (.c .sl)), (5, (.c .sl))]⟩) ⟨[], []⟩ (.mk none ⟨[], []⟩ .nil (.mk none ⟨[], []⟩ .nil (.mk none ⟨[], []⟩ (.mk none ⟨[], []⟩ (.mk (some ⟨[0, 3, 4, 5, 6, 7, 8], [(34, (.c .bool))]⟩) ⟨[], []⟩ .nil .nil) .nil) (.mk none ⟨[], []⟩ .nil (.mk none ⟨[], []⟩ (.mk none ⟨[], []⟩ .nil (.mk none ⟨[], []⟩ (.mk none ⟨[0, 3, 4, 6, 7, 8], [(5, (.c .sl)), (9, (.c .sl)), (10, (.c (.int .i64)))]⟩ (.mk none ⟨[], []⟩ .nil (.mk none ⟨[], []⟩ (.mk (some ⟨[0, 3, 4, 6, 7, 8, 10], [(5, (.c .sl)), (9, (.c .sl))]⟩) ⟨[], []⟩ (.mk none ⟨[], []⟩ (.mk (some ⟨[0, 3, 4, 5, 6, 7, 8, 9, 10], [(56, (.c .bool))]⟩) ⟨[], []⟩ .nil .nil) .nil) .nil) .nil)) .nil) .nil)) .nil))))) .nil) .nil)) .nil) .nil)) .nil)))))
theorem E_liveryref07_Circles (g0_l : Sl) (h : Hp) (Q : List Value → Hp → Prop) : cw PP 76 (fun _ => []) (bodyOf Try.f9) A_liveryref07_Circles (finQ PP (Try.f9.results.toList) Q) (argFr [(Value.slice g0_l.a g0_l.n g0_l.c)]) h = F_liveryref07_Circles g0_l h Q := by kernel_rfl
theorem O_liveryref07_Circles (g0_l : Sl) {h : Hp} {Q : List Value → Hp → Prop} (H : F_liveryref07_Circles g0_l h Q) : S_liveryref07_Circles g0_l h Q :=
  fn_of_cw (hs := (fun _ => [])) (ann := A_liveryref07_Circles) (args := [(Value.slice g0_l.a g0_l.n g0_l.c)]) mixedPP Try.func9 (c := bodyOf Try.f9) (by kernel_rfl) (by kernel_rfl) (by kernel_rfl) (Eq.mpr (E_liveryref07_Circles g0_l h Q) H)
def F_liveryref07_Victim (g0_l : Sl) (h : Hp) (Q : List Value → Hp → Prop) : Prop :=
S_liveryref07_Circles ⟨g0_l.a, g0_l.n, g0_l.c⟩ h fun (vs1 : List Value) (h2 : Hp) =>
∃ l3 : Sl, vs1 = [(Value.slice l3.a l3.n l3.c)] ∧
∀ X4 : List Value → Hp → Prop, (∀ n5 : Int, ∀ b6 : Bool, ∀ n7 : Int, ∀ h8 : Hp, ((if (decide (n7 < (l3.n : Int))) = true then
      (∀ J9 : List Value → Hp → Prop, (∀ n10 : Int, ∀ b11 : Bool, ∀ h12 : Hp, (X4 [(Value.int .i64 n10), (Value.bool b11), (Value.int .i64 (IntKind.wrap .i64 (n7 + (1 : Int))))] h12) → J9 [(Value.int .i64 n10), (Value.bool b11)] h12) →
        nilW l3.a fun a13 => ixOk n7 l3.n (∃ l14 : Sl, rd h8 (Addr.add a13 (Int.toNat n7 * 1)) = some (Value.slice l14.a l14.n l14.c) ∧
          nilW l3.a fun a15 => ixOk n7 l3.n (∃ l16 : Sl, rd h8 (Addr.add a15 (Int.toNat n7 * 1)) = some (Value.slice l16.a l16.n l16.c) ∧
            nilW l14.a fun a17 => ixOk (IntKind.wrap .i64 ((l16.n : Int) - (1 : Int))) l14.n (∃ n18 : Int, rd h8 (Addr.add a17 (Int.toNat (IntKind.wrap .i64 ((l16.n : Int) - (1 : Int))) * 1)) = some (Value.int .i64 n18) ∧
              ∀ J19 : List Value → Hp → Prop, (∀ b20 : Bool, ∀ h21 : Hp, ((if b20 = true then
                    (J9 [(Value.int .i64 n18), (Value.bool true)] h21) else
                    (J9 [(Value.int .i64 n5), (Value.bool b6)] h21))) → J19 [(Value.bool b20)] h21) →
              (if (!b6) = true then (J19 [(Value.bool true)] h8) else
                (J19 [(Value.bool (decide (n18 > n5)))] h8)))))) else
      (Q [(Value.int .i64 n5), (Value.bool b6)] h8))) → X4 [(Value.int .i64 n5), (Value.bool b6), (Value.int .i64 n7)] h8) →
X4 [(Value.int .i64 (0 : Int)), (Value.bool false), (Value.int .i64 (0 : Int))] h2
def A_liveryref07_Victim : Ann := (.mk none ⟨[], []⟩ .nil (.mk none ⟨[], []⟩ .nil (.mk none ⟨[], []⟩ .nil (.mk none ⟨[], []⟩ (.mk none ⟨[], []⟩ .nil (.mk none ⟨[], []⟩ (.mk none ⟨[4], [(5, (.c (.int .i64))), (6, (.c .bool)), (7, (.c (.int .i64)))]⟩ (.mk none ⟨[], []⟩ .nil (.mk none ⟨[], []⟩ (.mk (some ⟨[4, 7], [(5, (.c (.int .i64))), (6, (.c .bool))]⟩) ⟨[], []⟩ (.mk none ⟨[], []⟩ .nil (.mk none ⟨[], []⟩ (.mk (some ⟨[4, 5, 6, 7, 8], [(35, (.c .bool))]⟩) ⟨[], []⟩ .nil .nil) .nil)) .nil) .nil)) .nil) .nil)) .nil))))
theorem E_liveryref07_Victim (g0_l : Sl) (h : Hp) (Q : List Value → Hp → Prop) : cw PP 39 (fun _ => []) (bodyOf Try.f12) A_liveryref07_Victim (finQ PP (Try.f12.results.toList) Q) (argFr [(Value.slice g0_l.a g0_l.n g0_l.c)]) h = F_liveryref07_Victim g0_l h Q := by kernel_rfl
theorem O_liveryref07_Victim (g0_l : Sl) {h : Hp} {Q : List Value → Hp → Prop} (H : F_liveryref07_Victim g0_l h Q) : S_liveryref07_Victim g0_l h Q :=
  fn_of_cw (hs := (fun _ => [])) (ann := A_liveryref07_Victim) (args := [(Value.slice g0_l.a g0_l.n g0_l.c)]) mixedPP Try.func12 (c := bodyOf Try.f12) (by kernel_rfl) (by kernel_rfl) (by kernel_rfl) (Eq.mpr (E_liveryref07_Victim g0_l h Q) H)
def F_liveryref07_Free (g0_l : Sl) (h : Hp) (Q : List Value → Hp → Prop) : Prop :=
S_liveryref07_nodes ⟨g0_l.a, g0_l.n, g0_l.c⟩ h fun (vs1 : List Value) (h2 : Hp) =>
∃ l3 : Sl, vs1 = [(Value.slice l3.a l3.n l3.c)] ∧
∀ X4 : List Value → Hp → Prop, (∀ l5 : Sl, ∀ n6 : Int, ∀ h7 : Hp, ((if (decide (n6 < (l3.n : Int))) = true then
      (∀ J8 : List Value → Hp → Prop, (∀ l9 : Sl, ∀ h10 : Hp, (X4 [(Value.slice l9.a l9.n l9.c), (Value.int .i64 (IntKind.wrap .i64 (n6 + (1 : Int))))] h10) → J8 [(Value.slice l9.a l9.n l9.c)] h10) →
        ∀ X11 : List Value → Hp → Prop, (∀ b12 : Bool, ∀ n13 : Int, ∀ h14 : Hp, ((if (decide (n13 < (g0_l.n : Int))) = true then
              (∀ J15 : List Value → Hp → Prop, (∀ b16 : Bool, ∀ h17 : Hp, (X11 [(Value.bool b16), (Value.int .i64 (IntKind.wrap .i64 (n13 + (1 : Int))))] h17) → J15 [(Value.bool b16)] h17) →
                (if b12 = true then (J15 [(Value.bool true)] h14) else
                  (nilW g0_l.a fun a18 => ixOk n13 g0_l.n (ixOk (0 : Int) 2 (∃ n19 : Int, rd h14 (Addr.add (Addr.add a18 (Int.toNat n13 * 2)) (Int.toNat (0 : Int) * 1)) = some (Value.int .i64 n19) ∧
                        nilW l3.a fun a20 => ixOk n6 l3.n (∃ n21 : Int, rd h14 (Addr.add a20 (Int.toNat n6 * 1)) = some (Value.int .i64 n21) ∧
                          J15 [(Value.bool (n19 == n21))] h14)))))) else
              ((if (!b12) = true then
                  (nilW l3.a fun a22 => ixOk n6 l3.n (∃ n23 : Int, rd h14 (Addr.add a22 (Int.toNat n6 * 1)) = some (Value.int .i64 n23) ∧
                      wth (Array.push h14 (Obj.cells #[(Value.int .i64 n23)] T_int)) fun h24 =>
                      ∃ cs27 : List Value, cellsAt h24 (some (Addr.mk (Array.size h14) 0 none)) (1 * 1) cs27 ∧ appS PP T_int 8 1 h24 ⟨l5.a, l5.n, l5.c⟩ 1 cs27 fun (l25 : Sl) (h26 : Hp) =>
                      J8 [(Value.slice l25.a l25.n l25.c)] h26)) else
                  (J8 [(Value.slice l5.a l5.n l5.c)] h14))))) → X11 [(Value.bool b12), (Value.int .i64 n13)] h14) →
        X11 [(Value.bool false), (Value.int .i64 (0 : Int))] h7) else
      (Q [(Value.slice l5.a l5.n l5.c)] h7))) → X4 [(Value.slice l5.a l5.n l5.c), (Value.int .i64 n6)] h7) →
X4 [(Value.slice none 0 0), (Value.int .i64 (0 : Int))] h2
def A_liveryref07_Free : Ann := (.mk none ⟨[], []⟩ .nil (.mk none ⟨[], []⟩ .nil (.mk none ⟨[], []⟩ .nil (.mk none ⟨[], []⟩ (.mk none ⟨[], []⟩ .nil (.mk none ⟨[], []⟩ (.mk none ⟨[0, 4], [(3, (.c .sl)), (5, (.c (.int .i64)))]⟩ (.mk none ⟨[], []⟩ .nil (.mk none ⟨[], []⟩ (.mk (some ⟨[0, 4, 5], [(3, (.c .sl))]⟩) ⟨[], []⟩ (.mk none ⟨[], []⟩ .nil (.mk none ⟨[], []⟩ (.mk none ⟨[], []⟩ .nil (.mk none ⟨[], []⟩ (.mk none ⟨[0, 3, 4, 5], [(6, (.c .bool)), (7, (.c (.int .i64)))]⟩ (.mk none ⟨[], []⟩ .nil (.mk none ⟨[], []⟩ (.mk (some ⟨[0, 3, 4, 5, 7], [(6, (.c .bool))]⟩) ⟨[], []⟩ .nil .nil) .nil)) .nil) .nil)) .nil)) .nil) .nil)) .nil) .nil)) .nil))))
theorem E_liveryref07_Free (g0_l : Sl) (h : Hp) (Q : List Value → Hp → Prop) : cw PP 45 (fun _ => []) (bodyOf Try.f14) A_liveryref07_Free (finQ PP (Try.f14.results.toList) Q) (argFr [(Value.slice g0_l.a g0_l.n g0_l.c)]) h = F_liveryref07_Free g0_l h Q := by kernel_rfl
theorem O_liveryref07_Free (g0_l : Sl) {h : Hp} {Q : List Value → Hp → Prop} (H : F_liveryref07_Free g0_l h Q) : S_liveryref07_Free g0_l h Q :=
  fn_of_cw (hs := (fun _ => [])) (ann := A_liveryref07_Free) (args := [(Value.slice g0_l.a g0_l.n g0_l.c)]) mixedPP Try.func14 (c := bodyOf Try.f14) (by kernel_rfl) (by kernel_rfl) (by kernel_rfl) (Eq.mpr (E_liveryref07_Free g0_l h Q) H)
def F_liverylaw07_WaitTells (g0_l : Sl) (h : Hp) (Q : List Value → Hp → Prop) : Prop :=
(if (decide ((g0_l.n : Int) > (40 : Int))) = true then
  (S_liverylaw07_wakes  h fun (vs1 : List Value) (h2 : Hp) =>
    ∃ b3 : Bool, vs1 = [(Value.bool b3)] ∧
    Q [(Value.bool b3)] h2) else
  (S_liverylaw07_few ⟨g0_l.a, g0_l.n, g0_l.c⟩ h fun (vs4 : List Value) (h5 : Hp) =>
    ∃ l6 : Sl, vs4 = [(Value.slice l6.a l6.n l6.c)] ∧
    S_wait_Circles ⟨l6.a, l6.n, l6.c⟩ h5 fun (vs7 : List Value) (h8 : Hp) =>
    ∃ l9 : Sl, vs7 = [(Value.slice l9.a l9.n l9.c)] ∧
    S_liveryref07_Circles ⟨g0_l.a, g0_l.n, g0_l.c⟩ h8 fun (vs10 : List Value) (h11 : Hp) =>
    ∃ l12 : Sl, vs10 = [(Value.slice l12.a l12.n l12.c)] ∧
    (if ((l9.n : Int) != (l12.n : Int)) = true then
      (Q [(Value.bool false)] h11) else
      (∀ X13 : List Value → Hp → Prop, (∀ n14 : Int, ∀ h15 : Hp, ((if (decide (n14 < (l9.n : Int))) = true then
              (nilW l9.a fun a16 => ixOk n14 l9.n (∃ l17 : Sl, rd h15 (Addr.add a16 (Int.toNat n14 * 1)) = some (Value.slice l17.a l17.n l17.c) ∧
                  nilW l12.a fun a18 => ixOk n14 l12.n (∃ l19 : Sl, rd h15 (Addr.add a18 (Int.toNat n14 * 1)) = some (Value.slice l19.a l19.n l19.c) ∧
                    S_liverykeep_Ints ⟨l17.a, l17.n, l17.c⟩ ⟨l19.a, l19.n, l19.c⟩ h15 fun (vs20 : List Value) (h21 : Hp) =>
                    ∃ b22 : Bool, vs20 = [(Value.bool b22)] ∧
                    (if (!b22) = true then
                      (Q [(Value.bool false)] h21) else
                      (X13 [(Value.int .i64 (IntKind.wrap .i64 (n14 + (1 : Int))))] h21))))) else
              (S_wait_Victim ⟨l6.a, l6.n, l6.c⟩ h15 fun (vs23 : List Value) (h24 : Hp) =>
                ∃ n25 : Int, ∃ b26 : Bool, vs23 = [(Value.int .i64 n25), (Value.bool b26)] ∧
                S_liveryref07_Victim ⟨g0_l.a, g0_l.n, g0_l.c⟩ h24 fun (vs27 : List Value) (h28 : Hp) =>
                ∃ n29 : Int, ∃ b30 : Bool, vs27 = [(Value.int .i64 n29), (Value.bool b30)] ∧
                ∀ X31 : List Value → Hp → Prop, (∀ n32 : Int, ∀ h33 : Hp, ((if (decide (n32 < (g0_l.n : Int))) = true then
                      (nilW l6.a fun a34 => ixOk n32 l6.n (∃ n35 : Int, rd h33 (Addr.add (Addr.add a34 (Int.toNat n32 * 2)) 0) = some (Value.int .i64 n35) ∧ ∃ n36 : Int, rd h33 (Addr.add (Addr.add a34 (Int.toNat n32 * 2)) 1) = some (Value.int .i64 n36) ∧ nilW g0_l.a fun a37 => ixOk n32 g0_l.n (∃ n38 : Int, rd h33 (Addr.add (Addr.add a37 (Int.toNat n32 * 2)) 0) = some (Value.int .i64 n38) ∧ ∃ n39 : Int, rd h33 (Addr.add (Addr.add a37 (Int.toNat n32 * 2)) 1) = some (Value.int .i64 n39) ∧ (if (!(n35 == n38 && (n36 == n39 && true))) = true then
                              (Q [(Value.bool false)] h33) else
                              (X31 [(Value.int .i64 (IntKind.wrap .i64 (n32 + (1 : Int))))] h33))))) else
                      ((if (n25 == n29) = true then ((if (b26 == b30) = true then (S_wait_Free ⟨l6.a, l6.n, l6.c⟩ h33 fun (vs40 : List Value) (h41 : Hp) =>
                                ∃ l42 : Sl, vs40 = [(Value.slice l42.a l42.n l42.c)] ∧
                                S_liveryref07_Free ⟨g0_l.a, g0_l.n, g0_l.c⟩ h41 fun (vs43 : List Value) (h44 : Hp) =>
                                ∃ l45 : Sl, vs43 = [(Value.slice l45.a l45.n l45.c)] ∧
                                S_liverykeep_Ints ⟨l42.a, l42.n, l42.c⟩ ⟨l45.a, l45.n, l45.c⟩ h44 fun (vs46 : List Value) (h47 : Hp) =>
                                ∃ b48 : Bool, vs46 = [(Value.bool b48)] ∧
                                (if b48 = true then (S_liverylaw07_wakes  h47 fun (vs49 : List Value) (h50 : Hp) =>
                                    ∃ b51 : Bool, vs49 = [(Value.bool b51)] ∧
                                    Q [(Value.bool b51)] h50) else
                                  (Q [(Value.bool false)] h47))) else
                              (Q [(Value.bool false)] h33))) else
                          (Q [(Value.bool false)] h33))))) → X31 [(Value.int .i64 n32)] h33) →
                X31 [(Value.int .i64 (0 : Int))] h28))) → X13 [(Value.int .i64 n14)] h15) →
        X13 [(Value.int .i64 (0 : Int))] h11))))
def A_liverylaw07_WaitTells : Ann := (.mk none ⟨[], []⟩ .nil (.mk none ⟨[], []⟩ .nil (.mk none ⟨[], []⟩ .nil (.mk none ⟨[], []⟩ .nil (.mk none ⟨[], []⟩ .nil (.mk none ⟨[], []⟩ (.mk none ⟨[], []⟩ .nil (.mk none ⟨[], []⟩ (.mk none ⟨[0, 3, 4, 5], [(6, (.c (.int .i64)))]⟩ .nil .nil) .nil)) (.mk none ⟨[], []⟩ .nil (.mk none ⟨[], []⟩ .nil (.mk none ⟨[], []⟩ (.mk none ⟨[], []⟩ .nil (.mk none ⟨[], []⟩ (.mk none ⟨[0, 3, 7, 8, 9, 10], [(11, (.c (.int .i64)))]⟩ .nil .nil) .nil)) .nil)))))))))
theorem E_liverylaw07_WaitTells (g0_l : Sl) (h : Hp) (Q : List Value → Hp → Prop) : cw PP 86 (fun _ => []) (bodyOf Try.f3) A_liverylaw07_WaitTells (finQ PP (Try.f3.results.toList) Q) (argFr [(Value.slice g0_l.a g0_l.n g0_l.c)]) h = F_liverylaw07_WaitTells g0_l h Q := by kernel_rfl
theorem O_liverylaw07_WaitTells (g0_l : Sl) {h : Hp} {Q : List Value → Hp → Prop} (H : F_liverylaw07_WaitTells g0_l h Q) : S_liverylaw07_WaitTells g0_l h Q :=
  fn_of_cw (hs := (fun _ => [])) (ann := A_liverylaw07_WaitTells) (args := [(Value.slice g0_l.a g0_l.n g0_l.c)]) mixedPP Try.func3 (c := bodyOf Try.f3) (by kernel_rfl) (by kernel_rfl) (by kernel_rfl) (Eq.mpr (E_liverylaw07_WaitTells g0_l h Q) H)
def F_liverylaw07_WaitEnds (g0_l : Sl) (h : Hp) (Q : List Value → Hp → Prop) : Prop :=
(if (decide ((g0_l.n : Int) > (30 : Int))) = true then
  (S_liverylaw07_wakes  h fun (vs1 : List Value) (h2 : Hp) =>
    ∃ b3 : Bool, vs1 = [(Value.bool b3)] ∧
    Q [(Value.bool b3)] h2) else
  (S_liverylaw07_few ⟨g0_l.a, g0_l.n, g0_l.c⟩ h fun (vs4 : List Value) (h5 : Hp) =>
    ∃ l6 : Sl, vs4 = [(Value.slice l6.a l6.n l6.c)] ∧
    ∀ X7 : List Value → Hp → Prop, (∀ l8 : Sl, ∀ n9 : Int, ∀ h10 : Hp, ((if (decide (n9 ≤ (IntKind.wrap .i64 ((2 : Int) * (g0_l.n : Int))))) = true then
          (S_liverylaw07_few ⟨l8.a, l8.n, l8.c⟩ h10 fun (vs11 : List Value) (h12 : Hp) =>
            ∃ l13 : Sl, vs11 = [(Value.slice l13.a l13.n l13.c)] ∧
            S_wait_Victim ⟨l13.a, l13.n, l13.c⟩ h12 fun (vs14 : List Value) (h15 : Hp) =>
            ∃ n16 : Int, ∃ b17 : Bool, vs14 = [(Value.int .i64 n16), (Value.bool b17)] ∧
            (if (!b17) = true then
              (∀ J18 : List Value → Hp → Prop, (∀ b19 : Bool, ∀ h20 : Hp, (Q [(Value.bool b19)] h20) → J18 [(Value.bool b19)] h20) →
                S_liverylaw07_few ⟨l8.a, l8.n, l8.c⟩ h15 fun (vs21 : List Value) (h22 : Hp) =>
                ∃ l23 : Sl, vs21 = [(Value.slice l23.a l23.n l23.c)] ∧
                S_wait_Free ⟨l23.a, l23.n, l23.c⟩ h22 fun (vs24 : List Value) (h25 : Hp) =>
                ∃ l26 : Sl, vs24 = [(Value.slice l26.a l26.n l26.c)] ∧
                (if (((l8.n : Int) == (0 : Int)) == ((l26.n : Int) == (0 : Int))) = true then (S_liverylaw07_few ⟨l8.a, l8.n, l8.c⟩ h25 fun (vs27 : List Value) (h28 : Hp) =>
                    ∃ l29 : Sl, vs27 = [(Value.slice l29.a l29.n l29.c)] ∧
                    S_wait_Circles ⟨l29.a, l29.n, l29.c⟩ h28 fun (vs30 : List Value) (h31 : Hp) =>
                    ∃ l32 : Sl, vs30 = [(Value.slice l32.a l32.n l32.c)] ∧
                    (if ((l32.n : Int) == (0 : Int)) = true then (S_liverylaw07_wakes  h31 fun (vs33 : List Value) (h34 : Hp) =>
                        ∃ b35 : Bool, vs33 = [(Value.bool b35)] ∧
                        J18 [(Value.bool b35)] h34) else
                      (J18 [(Value.bool false)] h31))) else
                  (J18 [(Value.bool false)] h25))) else
              (∀ X36 : List Value → Hp → Prop, (∀ l37 : Sl, ∀ n38 : Int, ∀ h39 : Hp, ((if (decide (n38 < (l8.n : Int))) = true then
                      (∀ J40 : List Value → Hp → Prop, (∀ l41 : Sl, ∀ h42 : Hp, (X36 [(Value.slice l41.a l41.n l41.c), (Value.int .i64 (IntKind.wrap .i64 (n38 + (1 : Int))))] h42) → J40 [(Value.slice l41.a l41.n l41.c)] h42) →
                        nilW l8.a fun a43 => ixOk n38 l8.n (ixOk (0 : Int) 2 (∃ n44 : Int, rd h39 (Addr.add (Addr.add a43 (Int.toNat n38 * 2)) (Int.toNat (0 : Int) * 1)) = some (Value.int .i64 n44) ∧
                            (if (n44 != n16) = true then
                              (nilW l8.a fun a45 => ixOk n38 l8.n (∃ n46 : Int, rd h39 (Addr.add (Addr.add a45 (Int.toNat n38 * 2)) 0) = some (Value.int .i64 n46) ∧ ∃ n47 : Int, rd h39 (Addr.add (Addr.add a45 (Int.toNat n38 * 2)) 1) = some (Value.int .i64 n47) ∧ wth (Array.push h39 (Obj.cells #[(Value.int .i64 n46), (Value.int .i64 n47)] T_2_int)) fun h48 =>
                                  ∃ cs51 : List Value, cellsAt h48 (some (Addr.mk (Array.size h39) 0 none)) (1 * 2) cs51 ∧ appS PP T_2_int 16 2 h48 ⟨l37.a, l37.n, l37.c⟩ 1 cs51 fun (l49 : Sl) (h50 : Hp) =>
                                  J40 [(Value.slice l49.a l49.n l49.c)] h50)) else
                              (J40 [(Value.slice l37.a l37.n l37.c)] h39))))) else
                      ((if ((l37.n : Int) == (l8.n : Int)) = true then
                          (Q [(Value.bool false)] h39) else
                          (X7 [(Value.slice l37.a l37.n l37.c), (Value.int .i64 (IntKind.wrap .i64 (n9 + (1 : Int))))] h39))))) → X36 [(Value.slice l37.a l37.n l37.c), (Value.int .i64 n38)] h39) →
                X36 [(Value.slice none 0 0), (Value.int .i64 (0 : Int))] h15))) else
          (Q [(Value.bool false)] h10))) → X7 [(Value.slice l8.a l8.n l8.c), (Value.int .i64 n9)] h10) →
    X7 [(Value.slice l6.a l6.n l6.c), (Value.int .i64 (0 : Int))] h5))
def A_liverylaw07_WaitEnds : Ann := (.mk none ⟨[], []⟩ .nil (.mk none ⟨[], []⟩ .nil (.mk none ⟨[], []⟩ .nil (.mk none ⟨[], []⟩ (.mk none ⟨[], []⟩ .nil (.mk none ⟨[], []⟩ (.mk none ⟨[0], [(3, (.c .sl)), (4, (.c (.int .i64)))]⟩ (.mk none ⟨[], []⟩ .nil (.mk none ⟨[], []⟩ (.mk none ⟨[], []⟩ (.mk none ⟨[], []⟩ .nil (.mk none ⟨[], []⟩ (.mk none ⟨[], []⟩ .nil (.mk none ⟨[], []⟩ (.mk none ⟨[], []⟩ (.mk (some ⟨[], [(2, (.c .bool))]⟩) ⟨[], []⟩ .nil .nil) .nil) .nil)) (.mk none ⟨[], []⟩ .nil (.mk none ⟨[], []⟩ (.mk none ⟨[], []⟩ .nil (.mk none ⟨[], []⟩ (.mk none ⟨[0, 3, 4, 5], [(7, (.c .sl)), (8, (.c (.int .i64)))]⟩ (.mk none ⟨[], []⟩ .nil (.mk none ⟨[], []⟩ (.mk (some ⟨[0, 3, 4, 5, 8], [(7, (.c .sl))]⟩) ⟨[], []⟩ .nil .nil) .nil)) .nil) .nil)) .nil)))) .nil) .nil)) .nil) .nil)) .nil))))
theorem E_liverylaw07_WaitEnds (g0_l : Sl) (h : Hp) (Q : List Value → Hp → Prop) : cw PP 75 (fun _ => []) (bodyOf Try.f4) A_liverylaw07_WaitEnds (finQ PP (Try.f4.results.toList) Q) (argFr [(Value.slice g0_l.a g0_l.n g0_l.c)]) h = F_liverylaw07_WaitEnds g0_l h Q := by kernel_rfl
theorem O_liverylaw07_WaitEnds (g0_l : Sl) {h : Hp} {Q : List Value → Hp → Prop} (H : F_liverylaw07_WaitEnds g0_l h Q) : S_liverylaw07_WaitEnds g0_l h Q :=
  fn_of_cw (hs := (fun _ => [])) (ann := A_liverylaw07_WaitEnds) (args := [(Value.slice g0_l.a g0_l.n g0_l.c)]) mixedPP Try.func4 (c := bodyOf Try.f4) (by kernel_rfl) (by kernel_rfl) (by kernel_rfl) (Eq.mpr (E_liverylaw07_WaitEnds g0_l h Q) H)
def F_liverykeep_Mod (g0_k : Int) (g1_n : Int) (h : Hp) (Q : List Value → Hp → Prop) : Prop :=
(if (decide (g1_n < (1 : Int))) = true then
  (Q [(Value.int .i64 (0 : Int))] h) else
  (divOk g1_n (divOk g1_n (Q [(Value.int .i64 (Int.tmod (IntKind.wrap .i64 ((Int.tmod g0_k g1_n) + g1_n)) g1_n))] h))))
def A_liverykeep_Mod : Ann := .nil
theorem E_liverykeep_Mod (g0_k : Int) (g1_n : Int) (h : Hp) (Q : List Value → Hp → Prop) : cw PP 14 (fun _ => []) (bodyOf Try.f15) A_liverykeep_Mod (finQ PP (Try.f15.results.toList) Q) (argFr [(Value.int .i64 g0_k), (Value.int .i64 g1_n)]) h = F_liverykeep_Mod g0_k g1_n h Q := by kernel_rfl
theorem O_liverykeep_Mod (g0_k : Int) (g1_n : Int) {h : Hp} {Q : List Value → Hp → Prop} (H : F_liverykeep_Mod g0_k g1_n h Q) : S_liverykeep_Mod g0_k g1_n h Q :=
  fn_of_cw (hs := (fun _ => [])) (ann := A_liverykeep_Mod) (args := [(Value.int .i64 g0_k), (Value.int .i64 g1_n)]) mixedPP Try.func15 (c := bodyOf Try.f15) (by kernel_rfl) (by kernel_rfl) (by kernel_rfl) (Eq.mpr (E_liverykeep_Mod g0_k g1_n h Q) H)
def F_liverylaw07_WaitOrder (g0_l : Sl) (g1_turn : Sl) (h : Hp) (Q : List Value → Hp → Prop) : Prop :=
∀ J1 : List Value → Hp → Prop, (∀ b2 : Bool, ∀ h3 : Hp, ((if b2 = true then
      (S_liverylaw07_wakes  h3 fun (vs4 : List Value) (h5 : Hp) =>
        ∃ b6 : Bool, vs4 = [(Value.bool b6)] ∧
        Q [(Value.bool b6)] h5) else
      (S_liverylaw07_few ⟨g0_l.a, g0_l.n, g0_l.c⟩ h3 fun (vs7 : List Value) (h8 : Hp) =>
        ∃ l9 : Sl, vs7 = [(Value.slice l9.a l9.n l9.c)] ∧
        ∀ X10 : List Value → Hp → Prop, (∀ l11 : Sl, ∀ n12 : Int, ∀ h13 : Hp, (∀ J14 : List Value → Hp → Prop, (∀ b15 : Bool, ∀ h16 : Hp, ((if b15 = true then
                  (∀ J17 : List Value → Hp → Prop, (∀ l18 : Sl, ∀ h19 : Hp, (X10 [(Value.slice l18.a l18.n l18.c), (Value.int .i64 (IntKind.wrap .i64 (n12 + (1 : Int))))] h19) → J17 [(Value.slice l18.a l18.n l18.c)] h19) →
                    divOk (l11.n : Int) (nilW g1_turn.a fun a20 => ixOk n12 g1_turn.n (∃ n21 : Int, rd h16 (Addr.add a20 (Int.toNat n12 * 1)) = some (Value.int .i64 n21) ∧
                        S_liverykeep_Mod n21 (l11.n : Int) h16 fun (vs22 : List Value) (h23 : Hp) =>
                        ∃ n24 : Int, vs22 = [(Value.int .i64 n24)] ∧
                        nilW l11.a fun a25 => ixOk n24 l11.n (∃ n26 : Int, rd h23 (Addr.add (Addr.add a25 (Int.toNat n24 * 2)) 0) = some (Value.int .i64 n26) ∧ ∃ n27 : Int, rd h23 (Addr.add (Addr.add a25 (Int.toNat n24 * 2)) 1) = some (Value.int .i64 n27) ∧ nilW l11.a fun a28 => ixOk (Int.tmod n12 (l11.n : Int)) l11.n (∃ n29 : Int, rd h23 (Addr.add (Addr.add a28 (Int.toNat (Int.tmod n12 (l11.n : Int)) * 2)) 0) = some (Value.int .i64 n29) ∧ ∃ n30 : Int, rd h23 (Addr.add (Addr.add a28 (Int.toNat (Int.tmod n12 (l11.n : Int)) * 2)) 1) = some (Value.int .i64 n30) ∧ nilW l11.a fun a31 => ixOk (Int.tmod n12 (l11.n : Int)) l11.n (stOk h23 (Addr.add a31 (Int.toNat (Int.tmod n12 (l11.n : Int)) * 2)) 2 ∧ wth (wrs h23 (Addr.add a31 (Int.toNat (Int.tmod n12 (l11.n : Int)) * 2)) 0 [(Value.int .i64 n26), (Value.int .i64 n27)]) fun h32 =>
                              nilW l11.a fun a33 => ixOk n24 l11.n (stOk h32 (Addr.add a33 (Int.toNat n24 * 2)) 2 ∧ wth (wrs h32 (Addr.add a33 (Int.toNat n24 * 2)) 0 [(Value.int .i64 n29), (Value.int .i64 n30)]) fun h34 =>
                                divOk (3 : Int) ((if ((Int.tmod n12 (3 : Int)) == (0 : Int)) = true then
                                    (nilW l11.a fun a35 => ixOk (Int.tmod n12 (l11.n : Int)) l11.n (∃ n36 : Int, rd h34 (Addr.add (Addr.add a35 (Int.toNat (Int.tmod n12 (l11.n : Int)) * 2)) 0) = some (Value.int .i64 n36) ∧ ∃ n37 : Int, rd h34 (Addr.add (Addr.add a35 (Int.toNat (Int.tmod n12 (l11.n : Int)) * 2)) 1) = some (Value.int .i64 n37) ∧ wth (Array.push h34 (Obj.cells #[(Value.int .i64 n36), (Value.int .i64 n37)] T_2_int)) fun h38 =>
                                        ∃ cs41 : List Value, cellsAt h38 (some (Addr.mk (Array.size h34) 0 none)) (1 * 2) cs41 ∧ appS PP T_2_int 16 2 h38 ⟨l11.a, l11.n, l11.c⟩ 1 cs41 fun (l39 : Sl) (h40 : Hp) =>
                                        J17 [(Value.slice l39.a l39.n l39.c)] h40)) else
                                    (J17 [(Value.slice l11.a l11.n l11.c)] h34)))))))))) else
                  (S_liverylaw07_few ⟨g0_l.a, g0_l.n, g0_l.c⟩ h16 fun (vs42 : List Value) (h43 : Hp) =>
                    ∃ l44 : Sl, vs42 = [(Value.slice l44.a l44.n l44.c)] ∧
                    S_wait_Circles ⟨l44.a, l44.n, l44.c⟩ h43 fun (vs45 : List Value) (h46 : Hp) =>
                    ∃ l47 : Sl, vs45 = [(Value.slice l47.a l47.n l47.c)] ∧
                    S_wait_Circles ⟨l11.a, l11.n, l11.c⟩ h46 fun (vs48 : List Value) (h49 : Hp) =>
                    ∃ l50 : Sl, vs48 = [(Value.slice l50.a l50.n l50.c)] ∧
                    (if ((l47.n : Int) != (l50.n : Int)) = true then
                      (Q [(Value.bool false)] h49) else
                      (∀ X51 : List Value → Hp → Prop, (∀ n52 : Int, ∀ h53 : Hp, ((if (decide (n52 < (l47.n : Int))) = true then
                              (∀ J54 : List Value → Hp → Prop, (∀ b55 : Bool, ∀ h56 : Hp, ((if b55 = true then
                                      (Q [(Value.bool false)] h56) else
                                      (X51 [(Value.int .i64 (IntKind.wrap .i64 (n52 + (1 : Int))))] h56))) → J54 [(Value.bool b55)] h56) →
                                nilW l47.a fun a57 => ixOk n52 l47.n (∃ l58 : Sl, rd h53 (Addr.add a57 (Int.toNat n52 * 1)) = some (Value.slice l58.a l58.n l58.c) ∧
                                  nilW l50.a fun a59 => ixOk n52 l50.n (∃ l60 : Sl, rd h53 (Addr.add a59 (Int.toNat n52 * 1)) = some (Value.slice l60.a l60.n l60.c) ∧
                                    S_liverykeep_Ints ⟨l58.a, l58.n, l58.c⟩ ⟨l60.a, l60.n, l60.c⟩ h53 fun (vs61 : List Value) (h62 : Hp) =>
                                    ∃ b63 : Bool, vs61 = [(Value.bool b63)] ∧
                                    (if (!b63) = true then (J54 [(Value.bool true)] h62) else
                                      (nilW l47.a fun a64 => ixOk n52 l47.n (∃ l65 : Sl, rd h62 (Addr.add a64 (Int.toNat n52 * 1)) = some (Value.slice l65.a l65.n l65.c) ∧
                                          J54 [(Value.bool ((l65.n : Int) == (0 : Int)))] h62)))))) else
                              (S_liverylaw07_wakes  h53 fun (vs66 : List Value) (h67 : Hp) =>
                                ∃ b68 : Bool, vs66 = [(Value.bool b68)] ∧
                                Q [(Value.bool b68)] h67))) → X51 [(Value.int .i64 n52)] h53) →
                        X51 [(Value.int .i64 (0 : Int))] h49))))) → J14 [(Value.bool b15)] h16) →
            (if (decide (n12 < (g1_turn.n : Int))) = true then (J14 [(Value.bool (decide ((l11.n : Int) > (0 : Int))))] h13) else
              (J14 [(Value.bool false)] h13))) → X10 [(Value.slice l11.a l11.n l11.c), (Value.int .i64 n12)] h13) →
        X10 [(Value.slice l9.a l9.n l9.c), (Value.int .i64 (0 : Int))] h8))) → J1 [(Value.bool b2)] h3) →
(if (decide ((g0_l.n : Int) > (30 : Int))) = true then (J1 [(Value.bool true)] h) else
  (J1 [(Value.bool (decide ((g1_turn.n : Int) > (100 : Int))))] h))
def A_liverylaw07_WaitOrder : Ann := (.mk none ⟨[], []⟩ .nil (.mk none ⟨[], []⟩ (.mk none ⟨[], []⟩ (.mk (some ⟨[0, 1], [(19, (.c .bool))]⟩) ⟨[], []⟩ .nil .nil) .nil) (.mk none ⟨[], []⟩ .nil (.mk none ⟨[], []⟩ (.mk none ⟨[], []⟩ .nil (.mk none ⟨[], []⟩ (.mk none ⟨[0, 1], [(5, (.c .sl)), (6, (.c (.int .i64)))]⟩ (.mk none ⟨[], []⟩ (.mk none ⟨[], []⟩ (.mk (some ⟨[0, 1, 5, 6], [(31, (.c .bool))]⟩) ⟨[], []⟩ .nil .nil) .nil) (.mk none ⟨[], []⟩ (.mk (some ⟨[0, 1, 6], [(5, (.c .sl))]⟩) ⟨[], []⟩ .nil .nil) .nil)) .nil) .nil)) (.mk none ⟨[], []⟩ .nil (.mk none ⟨[], []⟩ .nil (.mk none ⟨[], []⟩ (.mk none ⟨[], []⟩ .nil (.mk none ⟨[], []⟩ (.mk none ⟨[9, 10], [(11, (.c (.int .i64)))]⟩ (.mk none ⟨[], []⟩ .nil (.mk none ⟨[], []⟩ (.mk none ⟨[], []⟩ (.mk none ⟨[], []⟩ (.mk (some ⟨[9, 10, 11], [(102, (.c .bool))]⟩) ⟨[], []⟩ .nil .nil) .nil) .nil) .nil)) .nil) .nil)) .nil)))))))
theorem E_liverylaw07_WaitOrder (g0_l : Sl) (g1_turn : Sl) (h : Hp) (Q : List Value → Hp → Prop) : cw PP 104 (fun _ => []) (bodyOf Try.f5) A_liverylaw07_WaitOrder (finQ PP (Try.f5.results.toList) Q) (argFr [(Value.slice g0_l.a g0_l.n g0_l.c), (Value.slice g1_turn.a g1_turn.n g1_turn.c)]) h = F_liverylaw07_WaitOrder g0_l g1_turn h Q := by kernel_rfl
theorem O_liverylaw07_WaitOrder (g0_l : Sl) (g1_turn : Sl) {h : Hp} {Q : List Value → Hp → Prop} (H : F_liverylaw07_WaitOrder g0_l g1_turn h Q) : S_liverylaw07_WaitOrder g0_l g1_turn h Q :=
  fn_of_cw (hs := (fun _ => [])) (ann := A_liverylaw07_WaitOrder) (args := [(Value.slice g0_l.a g0_l.n g0_l.c), (Value.slice g1_turn.a g1_turn.n g1_turn.c)]) mixedPP Try.func5 (c := bodyOf Try.f5) (by kernel_rfl) (by kernel_rfl) (by kernel_rfl) (Eq.mpr (E_liverylaw07_WaitOrder g0_l g1_turn h Q) H)
def F_maps_Keys_map_int_sint_int_sint_1 (g0_yield_f : Nat) (g0_yield_c : Array Value) (g1_x : Addr) (h : Hp) (Q : List Value → Hp → Prop) : Prop :=
∃ r1 : Option Nat, rd h g1_x = some (Value.map r1) ∧
∃ o2 : Obj, IterOf h r1 o2 ∧ wth (Array.push h o2) fun h3 =>
∀ X4 : List Value → Hp → Prop, (∀ h5 : Hp, ((Addr.off (Addr.mk (Array.size h) 0 none) = 0 ∧ ∃ o6 : Obj, h5[Addr.block (Addr.mk (Array.size h) 0 none)]? = some o6 ∧ IterGood h5 o6 ∧
      (IterEnd h5 o6 → Q [] h5) ∧
      ∀ (k7 v8 : Value) (o9 : Obj), IterStep h5 o6 k7 v8 o9 → wth (Array.setIfInBounds h5 (Addr.block (Addr.mk (Array.size h) 0 none)) o9) fun h10 =>
      (Addr.off (Addr.mk (Array.size h) 0 none) = 0 ∧ ∃ (m11 n12 : Nat) (q13 : Array Nat) (n14 : Nat) (es15 : Array MapEntry) (c16 : Nat) (e17 : MapEntry), h10[Addr.block (Addr.mk (Array.size h) 0 none)]? = some (.mapIter (some m11) n12 q13 c16) ∧ Array.back? q13 = some n14 ∧ h10[m11]? = some (.map es15 c16) ∧ Array.find? (fun x => x.born == n14) es15 = some e17 ∧ ∃ n18 : Int, e17.key = (Value.int .i64 n18) ∧ ∃ v19 : Value, e17.val = v19 ∧ Fn PP g0_yield_f ((#[] ++ #[(Value.int .i64 n18)]) ++ g0_yield_c) h10 fun (vs20 : List Value) (h21 : Hp) =>
        ∃ b22 : Bool, vs20 = [(Value.bool b22)] ∧
        (if (!b22) = true then
          (Q [] h21) else
          (X4 [] h21))))) → X4 [] h5) →
X4 [] h3
def A_maps_Keys_map_int_sint_int_sint_1 : Ann := (.mk none ⟨[], []⟩ .nil (.mk none ⟨[], []⟩ (.mk none ⟨[0, 5], []⟩ .nil .nil) .nil))
theorem E_maps_Keys_map_int_sint_int_sint_1 (g0_yield_f : Nat) (g0_yield_c : Array Value) (g1_x : Addr) (h : Hp) (Q : List Value → Hp → Prop) : cw PP 14 (fun d => if d = 8 then [(.c (.int .i64)), (.c .any)] else []) (bodyOf Try.f26) A_maps_Keys_map_int_sint_int_sint_1 (finQ PP (Try.f26.results.toList) Q) (argFr [(Value.func (.func g0_yield_f) #[] g0_yield_c), (Value.pointer (some g1_x))]) h = F_maps_Keys_map_int_sint_int_sint_1 g0_yield_f g0_yield_c g1_x h Q := by kernel_rfl
theorem O_maps_Keys_map_int_sint_int_sint_1 (g0_yield_f : Nat) (g0_yield_c : Array Value) (g1_x : Addr) {h : Hp} {Q : List Value → Hp → Prop} (H : F_maps_Keys_map_int_sint_int_sint_1 g0_yield_f g0_yield_c g1_x h Q) : S_maps_Keys_map_int_sint_int_sint_1 g0_yield_f g0_yield_c g1_x h Q :=
  fn_of_cw (hs := (fun d => if d = 8 then [(.c (.int .i64)), (.c .any)] else [])) (ann := A_maps_Keys_map_int_sint_int_sint_1) (args := [(Value.func (.func g0_yield_f) #[] g0_yield_c), (Value.pointer (some g1_x))]) mixedPP Try.func26 (c := bodyOf Try.f26) (by kernel_rfl) (by kernel_rfl) (by kernel_rfl) (Eq.mpr (E_maps_Keys_map_int_sint_int_sint_1 g0_yield_f g0_yield_c g1_x h Q) H)
def F_maps_Keys_map_int_int_int_int_1 (g0_yield_f : Nat) (g0_yield_c : Array Value) (g1_x : Addr) (h : Hp) (Q : List Value → Hp → Prop) : Prop :=
∃ r1 : Option Nat, rd h g1_x = some (Value.map r1) ∧
∃ o2 : Obj, IterOf h r1 o2 ∧ wth (Array.push h o2) fun h3 =>
∀ X4 : List Value → Hp → Prop, (∀ h5 : Hp, ((Addr.off (Addr.mk (Array.size h) 0 none) = 0 ∧ ∃ o6 : Obj, h5[Addr.block (Addr.mk (Array.size h) 0 none)]? = some o6 ∧ IterGood h5 o6 ∧
      (IterEnd h5 o6 → Q [] h5) ∧
      ∀ (k7 v8 : Value) (o9 : Obj), IterStep h5 o6 k7 v8 o9 → wth (Array.setIfInBounds h5 (Addr.block (Addr.mk (Array.size h) 0 none)) o9) fun h10 =>
      (Addr.off (Addr.mk (Array.size h) 0 none) = 0 ∧ ∃ (m11 n12 : Nat) (q13 : Array Nat) (n14 : Nat) (es15 : Array MapEntry) (c16 : Nat) (e17 : MapEntry), h10[Addr.block (Addr.mk (Array.size h) 0 none)]? = some (.mapIter (some m11) n12 q13 c16) ∧ Array.back? q13 = some n14 ∧ h10[m11]? = some (.map es15 c16) ∧ Array.find? (fun x => x.born == n14) es15 = some e17 ∧ ∃ n18 : Int, e17.key = (Value.int .i64 n18) ∧ ∃ v19 : Value, e17.val = v19 ∧ Fn PP g0_yield_f ((#[] ++ #[(Value.int .i64 n18)]) ++ g0_yield_c) h10 fun (vs20 : List Value) (h21 : Hp) =>
        ∃ b22 : Bool, vs20 = [(Value.bool b22)] ∧
        (if (!b22) = true then
          (Q [] h21) else
          (X4 [] h21))))) → X4 [] h5) →
X4 [] h3
def A_maps_Keys_map_int_int_int_int_1 : Ann := (.mk none ⟨[], []⟩ .nil (.mk none ⟨[], []⟩ (.mk none ⟨[0, 5], []⟩ .nil .nil) .nil))
theorem E_maps_Keys_map_int_int_int_int_1 (g0_yield_f : Nat) (g0_yield_c : Array Value) (g1_x : Addr) (h : Hp) (Q : List Value → Hp → Prop) : cw PP 14 (fun d => if d = 8 then [(.c (.int .i64)), (.c .any)] else []) (bodyOf Try.f27) A_maps_Keys_map_int_int_int_int_1 (finQ PP (Try.f27.results.toList) Q) (argFr [(Value.func (.func g0_yield_f) #[] g0_yield_c), (Value.pointer (some g1_x))]) h = F_maps_Keys_map_int_int_int_int_1 g0_yield_f g0_yield_c g1_x h Q := by kernel_rfl
theorem O_maps_Keys_map_int_int_int_int_1 (g0_yield_f : Nat) (g0_yield_c : Array Value) (g1_x : Addr) {h : Hp} {Q : List Value → Hp → Prop} (H : F_maps_Keys_map_int_int_int_int_1 g0_yield_f g0_yield_c g1_x h Q) : S_maps_Keys_map_int_int_int_int_1 g0_yield_f g0_yield_c g1_x h Q :=
  fn_of_cw (hs := (fun d => if d = 8 then [(.c (.int .i64)), (.c .any)] else [])) (ann := A_maps_Keys_map_int_int_int_int_1) (args := [(Value.func (.func g0_yield_f) #[] g0_yield_c), (Value.pointer (some g1_x))]) mixedPP Try.func27 (c := bodyOf Try.f27) (by kernel_rfl) (by kernel_rfl) (by kernel_rfl) (Eq.mpr (E_maps_Keys_map_int_int_int_int_1 g0_yield_f g0_yield_c g1_x h Q) H)
def F_math_bits_Len32 (g0_x : Int) (h : Hp) (Q : List Value → Hp → Prop) : Prop :=
∀ J1 : List Value → Hp → Prop, (∀ n2 : Int, ∀ n3 : Int, ∀ h4 : Hp, (∀ J5 : List Value → Hp → Prop, (∀ n6 : Int, ∀ n7 : Int, ∀ h8 : Hp, (ixOk (IntKind.wrap .u8 n6) (ByteArray.size (ByteArray.mk #[0, 1, 2, 2, 3, 3, 3, 3, 4, 4, 4, 4, 4, 4, 4, 4, 5, 5, 5, 5, 5, 5, 5, 5, 5, 5, 5, 5, 5, 5, 5, 5, 6, 6, 6, 6, 6, 6, 6, 6, 6, 6, 6, 6, 6, 6, 6, 6, 6, 6, 6, 6, 6, 6, 6, 6, 6, 6, 6, 6, 6, 6, 6, 6, 7, 7, 7, 7, 7, 7, 7, 7, 7, 7, 7, 7, 7, 7, 7, 7, 7, 7, 7, 7, 7, 7, 7, 7, 7, 7, 7, 7, 7, 7, 7, 7, 7, 7, 7, 7, 7, 7, 7, 7, 7, 7, 7, 7, 7, 7, 7, 7, 7, 7, 7, 7, 7, 7, 7, 7, 7, 7, 7, 7, 7, 7, 7, 7, 8, 8, 8, 8, 8, 8, 8, 8, 8, 8, 8, 8, 8, 8, 8, 8, 8, 8, 8, 8, 8, 8, 8, 8, 8, 8, 8, 8, 8, 8, 8, 8, 8, 8, 8, 8, 8, 8, 8, 8, 8, 8, 8, 8, 8, 8, 8, 8, 8, 8, 8, 8, 8, 8, 8, 8, 8, 8, 8, 8, 8, 8, 8, 8, 8, 8, 8, 8, 8, 8, 8, 8, 8, 8, 8, 8, 8, 8, 8, 8, 8, 8, 8, 8, 8, 8, 8, 8, 8, 8, 8, 8, 8, 8, 8, 8, 8, 8, 8, 8, 8, 8, 8, 8, 8, 8, 8, 8, 8, 8, 8, 8, 8, 8, 8, 8, 8, 8, 8, 8, 8, 8, 8, 8, 8, 8, 8, 8])) (Q [(Value.int .i64 (IntKind.wrap .i64 (n7 + (IntKind.wrap .i64 (strIx (ByteArray.mk #[0, 1, 2, 2, 3, 3, 3, 3, 4, 4, 4, 4, 4, 4, 4, 4, 5, 5, 5, 5, 5, 5, 5, 5, 5, 5, 5, 5, 5, 5, 5, 5, 6, 6, 6, 6, 6, 6, 6, 6, 6, 6, 6, 6, 6, 6, 6, 6, 6, 6, 6, 6, 6, 6, 6, 6, 6, 6, 6, 6, 6, 6, 6, 6, 7, 7, 7, 7, 7, 7, 7, 7, 7, 7, 7, 7, 7, 7, 7, 7, 7, 7, 7, 7, 7, 7, 7, 7, 7, 7, 7, 7, 7, 7, 7, 7, 7, 7, 7, 7, 7, 7, 7, 7, 7, 7, 7, 7, 7, 7, 7, 7, 7, 7, 7, 7, 7, 7, 7, 7, 7, 7, 7, 7, 7, 7, 7, 7, 8, 8, 8, 8, 8, 8, 8, 8, 8, 8, 8, 8, 8, 8, 8, 8, 8, 8, 8, 8, 8, 8, 8, 8, 8, 8, 8, 8, 8, 8, 8, 8, 8, 8, 8, 8, 8, 8, 8, 8, 8, 8, 8, 8, 8, 8, 8, 8, 8, 8, 8, 8, 8, 8, 8, 8, 8, 8, 8, 8, 8, 8, 8, 8, 8, 8, 8, 8, 8, 8, 8, 8, 8, 8, 8, 8, 8, 8, 8, 8, 8, 8, 8, 8, 8, 8, 8, 8, 8, 8, 8, 8, 8, 8, 8, 8, 8, 8, 8, 8, 8, 8, 8, 8, 8, 8, 8, 8, 8, 8, 8, 8, 8, 8, 8, 8, 8, 8, 8, 8, 8, 8, 8, 8, 8, 8, 8, 8]) (IntKind.wrap .u8 n6))))))] h8)) → J5 [(Value.int .u32 n6), (Value.int .i64 n7)] h8) →
    (if (decide (n2 ≥ (256 : Int))) = true then
      (shOk (8 : Int) (J5 [(Value.int .u32 (iShr .u32 n2 (8 : Int))), (Value.int .i64 (IntKind.wrap .i64 (n3 + (8 : Int))))] h4)) else
      (J5 [(Value.int .u32 n2), (Value.int .i64 n3)] h4))) → J1 [(Value.int .u32 n2), (Value.int .i64 n3)] h4) →
(if (decide (g0_x ≥ (65536 : Int))) = true then
  (shOk (16 : Int) (J1 [(Value.int .u32 (iShr .u32 g0_x (16 : Int))), (Value.int .i64 (16 : Int))] h)) else
  (J1 [(Value.int .u32 g0_x), (Value.int .i64 (0 : Int))] h))
def A_math_bits_Len32 : Ann := (.mk none ⟨[], []⟩ .nil (.mk none ⟨[], []⟩ (.mk none ⟨[], []⟩ .nil (.mk (some ⟨[], [(0, (.c (.int .u32))), (2, (.c (.int .i64)))]⟩) ⟨[], []⟩ .nil .nil)) (.mk none ⟨[], []⟩ (.mk none ⟨[], []⟩ .nil (.mk (some ⟨[], [(0, (.c (.int .u32))), (2, (.c (.int .i64)))]⟩) ⟨[], []⟩ .nil .nil)) .nil)))
theorem E_math_bits_Len32 (g0_x : Int) (h : Hp) (Q : List Value → Hp → Prop) : cw PP 19 (fun _ => []) (bodyOf Try.f40) A_math_bits_Len32 (finQ PP (Try.f40.results.toList) Q) (argFr [(Value.int .u32 g0_x)]) h = F_math_bits_Len32 g0_x h Q := by kernel_rfl
theorem O_math_bits_Len32 (g0_x : Int) {h : Hp} {Q : List Value → Hp → Prop} (H : F_math_bits_Len32 g0_x h Q) : S_math_bits_Len32 g0_x h Q :=
  fn_of_cw (hs := (fun _ => [])) (ann := A_math_bits_Len32) (args := [(Value.int .u32 g0_x)]) mixedPP Try.func40 (c := bodyOf Try.f40) (by kernel_rfl) (by kernel_rfl) (by kernel_rfl) (Eq.mpr (E_math_bits_Len32 g0_x h Q) H)
end Go.Lift

/- Printed by lift.py: each Go function of this seat as a Prop over the heap, and that the Go code comes to it. -/
import Derived.Test.YtifmibpjpnpcpaaLvL
import Derived.Test.YtifmibpjpnpcpaaProg
set_option linter.unusedSimpArgs false
set_option linter.unusedVariables false
namespace Go.Lift
open Go Go.Proofs
set_option maxRecDepth 100000
noncomputable abbrev PP : Program := Try.prog
theorem mixedPP : PP.follows .mixedOrders = true := by kernel_rfl
def bodyOf (f : Func) : Code := f.body.getD .skip
abbrev T_int : TypeId := 3
abbrev T_string : TypeId := 9
abbrev T_siread_Thing : TypeId := 28
abbrev T_liverylaw13_Step : TypeId := 42
abbrev T_siread_Table : TypeId := 50
abbrev T_map_siread_Thing_int : TypeId := 53
abbrev T_slices_xorshift : TypeId := 95
/-- main.main -/
def S_main_main (h : Hp) (Q : List Value → Hp → Prop) : Prop := Fn PP 0 #[] h Q
/-- gosem.cut -/
def S_gosem_cut (h : Hp) (Q : List Value → Hp → Prop) : Prop := Fn PP 1 #[] h Q
/-- gosem.cut.init -/
def S_gosem_cut_init (h : Hp) (Q : List Value → Hp → Prop) : Prop := Fn PP 2 #[] h Q
/-- livery/siread.New -/
def S_siread_New (g0_each : Int) (g1_all : Int) (h : Hp) (Q : List Value → Hp → Prop) : Prop := Fn PP 6 #[(Value.int .i64 g0_each), (Value.int .i64 g1_all)] h Q
/-- livery/siread.one -/
def S_siread_one (g0_xid : Int) (h : Hp) (Q : List Value → Hp → Prop) : Prop := Fn PP 20 #[(Value.int .i64 g0_xid)] h Q
/-- (livery/siread.Thing).fine -/
def S_siread_Thing_fine (g0_x_0 : Int) (g0_x_1 : ByteArray) (g0_x_2 : Int) (g0_x_3 : ByteArray) (g0_x_4 : Int) (h : Hp) (Q : List Value → Hp → Prop) : Prop := Fn PP 24 #[(Value.agg #[(Value.int .i64 g0_x_0), (Value.string g0_x_1), (Value.int .i64 g0_x_2), (Value.string g0_x_3), (Value.int .i64 g0_x_4)])] h Q
/-- (livery/siread.Thing).rel -/
def S_siread_Thing_rel (g0_x_0 : Int) (g0_x_1 : ByteArray) (g0_x_2 : Int) (g0_x_3 : ByteArray) (g0_x_4 : Int) (h : Hp) (Q : List Value → Hp → Prop) : Prop := Fn PP 25 #[(Value.agg #[(Value.int .i64 g0_x_0), (Value.string g0_x_1), (Value.int .i64 g0_x_2), (Value.string g0_x_3), (Value.int .i64 g0_x_4)])] h Q
/-- (*livery/siread.Table).count -/
def S_siread_Table_count (g0_t : Option Addr) (g1_owner : Int) (g2_rel : Int) (h : Hp) (Q : List Value → Hp → Prop) : Prop := Fn PP 34 #[(Value.pointer g0_t), (Value.int .i64 g1_owner), (Value.int .i64 g2_rel)] h Q
/-- slices.AppendSeq[[]livery/siread.Thing,livery/siread.Thing] -/
def S_slices_AppendSeq_ssiread_Thing_siread_Thing (g0_s : Sl) (g1_seq_f : Nat) (g1_seq_c : Array Value) (h : Hp) (Q : List Value → Hp → Prop) : Prop := Fn PP 49 #[(Value.slice g0_s.a g0_s.n g0_s.c), (Value.func (.func g1_seq_f) #[] g1_seq_c)] h Q
/-- slices.Collect[livery/siread.Thing] -/
def S_slices_Collect_siread_Thing (g0_seq_f : Nat) (g0_seq_c : Array Value) (h : Hp) (Q : List Value → Hp → Prop) : Prop := Fn PP 41 #[(Value.func (.func g0_seq_f) #[] g0_seq_c)] h Q
/-- math/bits.Len64 -/
def S_math_bits_Len64 (g0_x : Int) (h : Hp) (Q : List Value → Hp → Prop) : Prop := Fn PP 63 #[(Value.int .u64 g0_x)] h Q
/-- math/bits.Len -/
def S_math_bits_Len (g0_x : Int) (h : Hp) (Q : List Value → Hp → Prop) : Prop := Fn PP 48 #[(Value.int .u64 g0_x)] h Q
/-- slices.insertionSortCmpFunc[livery/siread.Thing] -/
def S_slices_insertionSortCmpFunc_siread_Thing (g0_data : Sl) (g1_a : Int) (g2_b : Int) (g3_cmp_f : Nat) (g3_cmp_c : Array Value) (h : Hp) (Q : List Value → Hp → Prop) : Prop := Fn PP 64 #[(Value.slice g0_data.a g0_data.n g0_data.c), (Value.int .i64 g1_a), (Value.int .i64 g2_b), (Value.func (.func g3_cmp_f) #[] g3_cmp_c)] h Q
/-- slices.siftDownCmpFunc[livery/siread.Thing] -/
def S_slices_siftDownCmpFunc_siread_Thing (g0_data : Sl) (g1_lo : Int) (g2_hi : Int) (g3_first : Int) (g4_cmp_f : Nat) (g4_cmp_c : Array Value) (h : Hp) (Q : List Value → Hp → Prop) : Prop := Fn PP 77 #[(Value.slice g0_data.a g0_data.n g0_data.c), (Value.int .i64 g1_lo), (Value.int .i64 g2_hi), (Value.int .i64 g3_first), (Value.func (.func g4_cmp_f) #[] g4_cmp_c)] h Q
/-- slices.heapSortCmpFunc[livery/siread.Thing] -/
def S_slices_heapSortCmpFunc_siread_Thing (g0_data : Sl) (g1_a : Int) (g2_b : Int) (g3_cmp_f : Nat) (g3_cmp_c : Array Value) (h : Hp) (Q : List Value → Hp → Prop) : Prop := Fn PP 65 #[(Value.slice g0_data.a g0_data.n g0_data.c), (Value.int .i64 g1_a), (Value.int .i64 g2_b), (Value.func (.func g3_cmp_f) #[] g3_cmp_c)] h Q
/-- slices.nextPowerOfTwo -/
def S_slices_nextPowerOfTwo (g0_length : Int) (h : Hp) (Q : List Value → Hp → Prop) : Prop := Fn PP 73 #[(Value.int .i64 g0_length)] h Q
/-- (*slices.xorshift).Next -/
def S_slices_xorshift_Next (g0_r : Option Addr) (h : Hp) (Q : List Value → Hp → Prop) : Prop := Fn PP 74 #[(Value.pointer g0_r)] h Q
/-- slices.breakPatternsCmpFunc[livery/siread.Thing] -/
def S_slices_breakPatternsCmpFunc_siread_Thing (g0_data : Sl) (g1_a : Int) (g2_b : Int) (g3_cmp_f : Nat) (g3_cmp_c : Array Value) (h : Hp) (Q : List Value → Hp → Prop) : Prop := Fn PP 66 #[(Value.slice g0_data.a g0_data.n g0_data.c), (Value.int .i64 g1_a), (Value.int .i64 g2_b), (Value.func (.func g3_cmp_f) #[] g3_cmp_c)] h Q
/-- slices.order2CmpFunc[livery/siread.Thing] -/
def S_slices_order2CmpFunc_siread_Thing (g0_data : Sl) (g1_a : Int) (g2_b : Int) (g3_swaps : Option Addr) (g4_cmp_f : Nat) (g4_cmp_c : Array Value) (h : Hp) (Q : List Value → Hp → Prop) : Prop := Fn PP 81 #[(Value.slice g0_data.a g0_data.n g0_data.c), (Value.int .i64 g1_a), (Value.int .i64 g2_b), (Value.pointer g3_swaps), (Value.func (.func g4_cmp_f) #[] g4_cmp_c)] h Q
/-- slices.medianCmpFunc[livery/siread.Thing] -/
def S_slices_medianCmpFunc_siread_Thing (g0_data : Sl) (g1_a : Int) (g2_b : Int) (g3_c : Int) (g4_swaps : Option Addr) (g5_cmp_f : Nat) (g5_cmp_c : Array Value) (h : Hp) (Q : List Value → Hp → Prop) : Prop := Fn PP 79 #[(Value.slice g0_data.a g0_data.n g0_data.c), (Value.int .i64 g1_a), (Value.int .i64 g2_b), (Value.int .i64 g3_c), (Value.pointer g4_swaps), (Value.func (.func g5_cmp_f) #[] g5_cmp_c)] h Q
/-- slices.medianAdjacentCmpFunc[livery/siread.Thing] -/
def S_slices_medianAdjacentCmpFunc_siread_Thing (g0_data : Sl) (g1_a : Int) (g2_swaps : Option Addr) (g3_cmp_f : Nat) (g3_cmp_c : Array Value) (h : Hp) (Q : List Value → Hp → Prop) : Prop := Fn PP 78 #[(Value.slice g0_data.a g0_data.n g0_data.c), (Value.int .i64 g1_a), (Value.pointer g2_swaps), (Value.func (.func g3_cmp_f) #[] g3_cmp_c)] h Q
/-- slices.choosePivotCmpFunc[livery/siread.Thing] -/
def S_slices_choosePivotCmpFunc_siread_Thing (g0_data : Sl) (g1_a : Int) (g2_b : Int) (g3_cmp_f : Nat) (g3_cmp_c : Array Value) (h : Hp) (Q : List Value → Hp → Prop) : Prop := Fn PP 67 #[(Value.slice g0_data.a g0_data.n g0_data.c), (Value.int .i64 g1_a), (Value.int .i64 g2_b), (Value.func (.func g3_cmp_f) #[] g3_cmp_c)] h Q
/-- slices.reverseRangeCmpFunc[livery/siread.Thing] -/
def S_slices_reverseRangeCmpFunc_siread_Thing (g0_data : Sl) (g1_a : Int) (g2_b : Int) (g3_cmp_f : Nat) (g3_cmp_c : Array Value) (h : Hp) (Q : List Value → Hp → Prop) : Prop := Fn PP 68 #[(Value.slice g0_data.a g0_data.n g0_data.c), (Value.int .i64 g1_a), (Value.int .i64 g2_b), (Value.func (.func g3_cmp_f) #[] g3_cmp_c)] h Q
/-- slices.partialInsertionSortCmpFunc[livery/siread.Thing] -/
def S_slices_partialInsertionSortCmpFunc_siread_Thing (g0_data : Sl) (g1_a : Int) (g2_b : Int) (g3_cmp_f : Nat) (g3_cmp_c : Array Value) (h : Hp) (Q : List Value → Hp → Prop) : Prop := Fn PP 69 #[(Value.slice g0_data.a g0_data.n g0_data.c), (Value.int .i64 g1_a), (Value.int .i64 g2_b), (Value.func (.func g3_cmp_f) #[] g3_cmp_c)] h Q
/-- slices.partitionEqualCmpFunc[livery/siread.Thing] -/
def S_slices_partitionEqualCmpFunc_siread_Thing (g0_data : Sl) (g1_a : Int) (g2_b : Int) (g3_pivot : Int) (g4_cmp_f : Nat) (g4_cmp_c : Array Value) (h : Hp) (Q : List Value → Hp → Prop) : Prop := Fn PP 70 #[(Value.slice g0_data.a g0_data.n g0_data.c), (Value.int .i64 g1_a), (Value.int .i64 g2_b), (Value.int .i64 g3_pivot), (Value.func (.func g4_cmp_f) #[] g4_cmp_c)] h Q
/-- slices.partitionCmpFunc[livery/siread.Thing] -/
def S_slices_partitionCmpFunc_siread_Thing (g0_data : Sl) (g1_a : Int) (g2_b : Int) (g3_pivot : Int) (g4_cmp_f : Nat) (g4_cmp_c : Array Value) (h : Hp) (Q : List Value → Hp → Prop) : Prop := Fn PP 71 #[(Value.slice g0_data.a g0_data.n g0_data.c), (Value.int .i64 g1_a), (Value.int .i64 g2_b), (Value.int .i64 g3_pivot), (Value.func (.func g4_cmp_f) #[] g4_cmp_c)] h Q
/-- slices.pdqsortCmpFunc[livery/siread.Thing] -/
def S_slices_pdqsortCmpFunc_siread_Thing (g0_data : Sl) (g1_a : Int) (g2_b : Int) (g3_limit : Int) (g4_cmp_f : Nat) (g4_cmp_c : Array Value) (h : Hp) (Q : List Value → Hp → Prop) : Prop := Fn PP 50 #[(Value.slice g0_data.a g0_data.n g0_data.c), (Value.int .i64 g1_a), (Value.int .i64 g2_b), (Value.int .i64 g3_limit), (Value.func (.func g4_cmp_f) #[] g4_cmp_c)] h Q
/-- slices.SortFunc[[]livery/siread.Thing,livery/siread.Thing] -/
def S_slices_SortFunc_ssiread_Thing_siread_Thing (g0_x : Sl) (g1_cmp_f : Nat) (g1_cmp_c : Array Value) (h : Hp) (Q : List Value → Hp → Prop) : Prop := Fn PP 42 #[(Value.slice g0_x.a g0_x.n g0_x.c), (Value.func (.func g1_cmp_f) #[] g1_cmp_c)] h Q
/-- slices.SortedFunc[livery/siread.Thing] -/
def S_slices_SortedFunc_siread_Thing (g0_seq_f : Nat) (g0_seq_c : Array Value) (g1_cmp_f : Nat) (g1_cmp_c : Array Value) (h : Hp) (Q : List Value → Hp → Prop) : Prop := Fn PP 31 #[(Value.func (.func g0_seq_f) #[] g0_seq_c), (Value.func (.func g1_cmp_f) #[] g1_cmp_c)] h Q
/-- maps.Keys[map[livery/siread.Thing]int,livery/siread.Thing,int] -/
def S_maps_Keys_map_siread_Thing_int_siread_Thing_int (g0_m : Option Nat) (h : Hp) (Q : List Value → Hp → Prop) : Prop := Fn PP 32 #[(Value.map g0_m)] h Q
/-- (*livery/siread.Table).Of -/
def S_siread_Table_Of (g0_t : Option Addr) (g1_xid : Int) (h : Hp) (Q : List Value → Hp → Prop) : Prop := Fn PP 17 #[(Value.pointer g0_t), (Value.int .i64 g1_xid)] h Q
/-- (*livery/siread.Table).lose -/
def S_siread_Table_lose (g0_t : Option Addr) (g1_owner : Int) (g2_such_f : Nat) (g2_such_c : Array Value) (h : Hp) (Q : List Value → Hp → Prop) : Prop := Fn PP 35 #[(Value.pointer g0_t), (Value.int .i64 g1_owner), (Value.func (.func g2_such_f) #[] g2_such_c)] h Q
/-- (*livery/siread.Table).take -/
def S_siread_Table_take (g0_t : Option Addr) (g1_owner : Int) (g2_x_0 : Int) (g2_x_1 : ByteArray) (g2_x_2 : Int) (g2_x_3 : ByteArray) (g2_x_4 : Int) (h : Hp) (Q : List Value → Hp → Prop) : Prop := Fn PP 21 #[(Value.pointer g0_t), (Value.int .i64 g1_owner), (Value.agg #[(Value.int .i64 g2_x_0), (Value.string g2_x_1), (Value.int .i64 g2_x_2), (Value.string g2_x_3), (Value.int .i64 g2_x_4)])] h Q
/-- (*livery/siread.Table).Take -/
def S_siread_Table_Take (g0_t : Option Addr) (g1_xid : Int) (g2_x_0 : Int) (g2_x_1 : ByteArray) (g2_x_2 : Int) (g2_x_3 : ByteArray) (g2_x_4 : Int) (h : Hp) (Q : List Value → Hp → Prop) : Prop := Fn PP 7 #[(Value.pointer g0_t), (Value.int .i64 g1_xid), (Value.agg #[(Value.int .i64 g2_x_0), (Value.string g2_x_1), (Value.int .i64 g2_x_2), (Value.string g2_x_3), (Value.int .i64 g2_x_4)])] h Q
/-- livery/liverylaw13.version -/
def S_liverylaw13_version (g0_rel : Int) (g1_n : Int) (h : Hp) (Q : List Value → Hp → Prop) : Prop := Fn PP 8 #[(Value.int .i64 g0_rel), (Value.int .i64 g1_n)] h Q
/-- (*livery/siread.Table).Has -/
def S_siread_Table_Has (g0_t : Option Addr) (g1_xid : Int) (g2_x_0 : Int) (g2_x_1 : ByteArray) (g2_x_2 : Int) (g2_x_3 : ByteArray) (g2_x_4 : Int) (h : Hp) (Q : List Value → Hp → Prop) : Prop := Fn PP 9 #[(Value.pointer g0_t), (Value.int .i64 g1_xid), (Value.agg #[(Value.int .i64 g2_x_0), (Value.string g2_x_1), (Value.int .i64 g2_x_2), (Value.string g2_x_3), (Value.int .i64 g2_x_4)])] h Q
/-- (*livery/siread.Table).Fine -/
def S_siread_Table_Fine (g0_t : Option Addr) (h : Hp) (Q : List Value → Hp → Prop) : Prop := Fn PP 10 #[(Value.pointer g0_t)] h Q
/-- cmp.isNaN[int] -/
def S_cmp_isNaN_int (g0_x : Int) (h : Hp) (Q : List Value → Hp → Prop) : Prop := Fn PP 51 #[(Value.int .i64 g0_x)] h Q
/-- cmp.Less[int] -/
def S_cmp_Less_int (g0_x : Int) (g1_y : Int) (h : Hp) (Q : List Value → Hp → Prop) : Prop := Fn PP 59 #[(Value.int .i64 g0_x), (Value.int .i64 g1_y)] h Q
/-- slices.insertionSortOrdered[int] -/
def S_slices_insertionSortOrdered_int (g0_data : Sl) (g1_a : Int) (g2_b : Int) (h : Hp) (Q : List Value → Hp → Prop) : Prop := Fn PP 53 #[(Value.slice g0_data.a g0_data.n g0_data.c), (Value.int .i64 g1_a), (Value.int .i64 g2_b)] h Q
/-- slices.siftDownOrdered[int] -/
def S_slices_siftDownOrdered_int (g0_data : Sl) (g1_lo : Int) (g2_hi : Int) (g3_first : Int) (h : Hp) (Q : List Value → Hp → Prop) : Prop := Fn PP 72 #[(Value.slice g0_data.a g0_data.n g0_data.c), (Value.int .i64 g1_lo), (Value.int .i64 g2_hi), (Value.int .i64 g3_first)] h Q
/-- slices.heapSortOrdered[int] -/
def S_slices_heapSortOrdered_int (g0_data : Sl) (g1_a : Int) (g2_b : Int) (h : Hp) (Q : List Value → Hp → Prop) : Prop := Fn PP 54 #[(Value.slice g0_data.a g0_data.n g0_data.c), (Value.int .i64 g1_a), (Value.int .i64 g2_b)] h Q
/-- slices.breakPatternsOrdered[int] -/
def S_slices_breakPatternsOrdered_int (g0_data : Sl) (g1_a : Int) (g2_b : Int) (h : Hp) (Q : List Value → Hp → Prop) : Prop := Fn PP 55 #[(Value.slice g0_data.a g0_data.n g0_data.c), (Value.int .i64 g1_a), (Value.int .i64 g2_b)] h Q
/-- slices.order2Ordered[int] -/
def S_slices_order2Ordered_int (g0_data : Sl) (g1_a : Int) (g2_b : Int) (g3_swaps : Option Addr) (h : Hp) (Q : List Value → Hp → Prop) : Prop := Fn PP 80 #[(Value.slice g0_data.a g0_data.n g0_data.c), (Value.int .i64 g1_a), (Value.int .i64 g2_b), (Value.pointer g3_swaps)] h Q
/-- slices.medianOrdered[int] -/
def S_slices_medianOrdered_int (g0_data : Sl) (g1_a : Int) (g2_b : Int) (g3_c : Int) (g4_swaps : Option Addr) (h : Hp) (Q : List Value → Hp → Prop) : Prop := Fn PP 76 #[(Value.slice g0_data.a g0_data.n g0_data.c), (Value.int .i64 g1_a), (Value.int .i64 g2_b), (Value.int .i64 g3_c), (Value.pointer g4_swaps)] h Q
/-- slices.medianAdjacentOrdered[int] -/
def S_slices_medianAdjacentOrdered_int (g0_data : Sl) (g1_a : Int) (g2_swaps : Option Addr) (h : Hp) (Q : List Value → Hp → Prop) : Prop := Fn PP 75 #[(Value.slice g0_data.a g0_data.n g0_data.c), (Value.int .i64 g1_a), (Value.pointer g2_swaps)] h Q
/-- slices.choosePivotOrdered[int] -/
def S_slices_choosePivotOrdered_int (g0_data : Sl) (g1_a : Int) (g2_b : Int) (h : Hp) (Q : List Value → Hp → Prop) : Prop := Fn PP 56 #[(Value.slice g0_data.a g0_data.n g0_data.c), (Value.int .i64 g1_a), (Value.int .i64 g2_b)] h Q
/-- slices.reverseRangeOrdered[int] -/
def S_slices_reverseRangeOrdered_int (g0_data : Sl) (g1_a : Int) (g2_b : Int) (h : Hp) (Q : List Value → Hp → Prop) : Prop := Fn PP 57 #[(Value.slice g0_data.a g0_data.n g0_data.c), (Value.int .i64 g1_a), (Value.int .i64 g2_b)] h Q
/-- slices.partialInsertionSortOrdered[int] -/
def S_slices_partialInsertionSortOrdered_int (g0_data : Sl) (g1_a : Int) (g2_b : Int) (h : Hp) (Q : List Value → Hp → Prop) : Prop := Fn PP 58 #[(Value.slice g0_data.a g0_data.n g0_data.c), (Value.int .i64 g1_a), (Value.int .i64 g2_b)] h Q
/-- slices.partitionEqualOrdered[int] -/
def S_slices_partitionEqualOrdered_int (g0_data : Sl) (g1_a : Int) (g2_b : Int) (g3_pivot : Int) (h : Hp) (Q : List Value → Hp → Prop) : Prop := Fn PP 60 #[(Value.slice g0_data.a g0_data.n g0_data.c), (Value.int .i64 g1_a), (Value.int .i64 g2_b), (Value.int .i64 g3_pivot)] h Q
/-- slices.partitionOrdered[int] -/
def S_slices_partitionOrdered_int (g0_data : Sl) (g1_a : Int) (g2_b : Int) (g3_pivot : Int) (h : Hp) (Q : List Value → Hp → Prop) : Prop := Fn PP 61 #[(Value.slice g0_data.a g0_data.n g0_data.c), (Value.int .i64 g1_a), (Value.int .i64 g2_b), (Value.int .i64 g3_pivot)] h Q
/-- slices.pdqsortOrdered[int] -/
def S_slices_pdqsortOrdered_int (g0_data : Sl) (g1_a : Int) (g2_b : Int) (g3_limit : Int) (h : Hp) (Q : List Value → Hp → Prop) : Prop := Fn PP 47 #[(Value.slice g0_data.a g0_data.n g0_data.c), (Value.int .i64 g1_a), (Value.int .i64 g2_b), (Value.int .i64 g3_limit)] h Q
/-- slices.Sort[[]int,int] -/
def S_slices_Sort_sint_int (g0_x : Sl) (h : Hp) (Q : List Value → Hp → Prop) : Prop := Fn PP 37 #[(Value.slice g0_x.a g0_x.n g0_x.c)] h Q
/-- (*livery/siread.Table).owners -/
def S_siread_Table_owners (g0_t : Option Addr) (g1_such_f : Nat) (g1_such_c : Array Value) (h : Hp) (Q : List Value → Hp → Prop) : Prop := Fn PP 22 #[(Value.pointer g0_t), (Value.func (.func g1_such_f) #[] g1_such_c)] h Q
/-- (*livery/siread.Table).Owners -/
def S_siread_Table_Owners (g0_t : Option Addr) (g1_x_0 : Int) (g1_x_1 : ByteArray) (g1_x_2 : Int) (g1_x_3 : ByteArray) (g1_x_4 : Int) (h : Hp) (Q : List Value → Hp → Prop) : Prop := Fn PP 11 #[(Value.pointer g0_t), (Value.agg #[(Value.int .i64 g1_x_0), (Value.string g1_x_1), (Value.int .i64 g1_x_2), (Value.string g1_x_3), (Value.int .i64 g1_x_4)])] h Q
/-- livery/liverykeep.Ints -/
def S_liverykeep_Ints (g0_a : Sl) (g1_b : Sl) (h : Hp) (Q : List Value → Hp → Prop) : Prop := Fn PP 12 #[(Value.slice g0_a.a g0_a.n g0_a.c), (Value.slice g1_b.a g1_b.n g1_b.c)] h Q
/-- (*livery/siread.Table).Rough -/
def S_siread_Table_Rough (g0_t : Option Addr) (g1_rel : Int) (g2_to : Int) (h : Hp) (Q : List Value → Hp → Prop) : Prop := Fn PP 13 #[(Value.pointer g0_t), (Value.int .i64 g1_rel), (Value.int .i64 g2_to)] h Q
/-- (*livery/siread.Table).Old -/
def S_siread_Table_Old (g0_t : Option Addr) (h : Hp) (Q : List Value → Hp → Prop) : Prop := Fn PP 19 #[(Value.pointer g0_t)] h Q
/-- (*livery/siread.Table).Drop -/
def S_siread_Table_Drop (g0_t : Option Addr) (g1_xid : Int) (h : Hp) (Q : List Value → Hp → Prop) : Prop := Fn PP 30 #[(Value.pointer g0_t), (Value.int .i64 g1_xid)] h Q
/-- (*livery/siread.Table).Fold -/
def S_siread_Table_Fold (g0_t : Option Addr) (g1_xid : Int) (g2_csn : Int) (h : Hp) (Q : List Value → Hp → Prop) : Prop := Fn PP 27 #[(Value.pointer g0_t), (Value.int .i64 g1_xid), (Value.int .i64 g2_csn)] h Q
/-- livery/liverylaw13.wakes -/
def S_liverylaw13_wakes (h : Hp) (Q : List Value → Hp → Prop) : Prop := Fn PP 14 #[] h Q
/-- livery/liverylaw13.SireadRough -/
def S_liverylaw13_SireadRough (g0_each : Int) (g1_n : Int) (g2_other : Int) (h : Hp) (Q : List Value → Hp → Prop) : Prop := Fn PP 3 #[(Value.int .u8 g0_each), (Value.int .u8 g1_n), (Value.int .u8 g2_other)] h Q
/-- livery/liverylaw13.Fair -/
def S_liverylaw13_Fair (g0_l : Sl) (h : Hp) (Q : List Value → Hp → Prop) : Prop := Fn PP 15 #[(Value.slice g0_l.a g0_l.n g0_l.c)] h Q
/-- (*livery/siread.Table).Copy -/
def S_siread_Table_Copy (g0_t : Option Addr) (g1_from_0 : Int) (g1_from_1 : ByteArray) (g1_from_2 : Int) (g1_from_3 : ByteArray) (g1_from_4 : Int) (g2_to_0 : Int) (g2_to_1 : ByteArray) (g2_to_2 : Int) (g2_to_3 : ByteArray) (g2_to_4 : Int) (h : Hp) (Q : List Value → Hp → Prop) : Prop := Fn PP 28 #[(Value.pointer g0_t), (Value.agg #[(Value.int .i64 g1_from_0), (Value.string g1_from_1), (Value.int .i64 g1_from_2), (Value.string g1_from_3), (Value.int .i64 g1_from_4)]), (Value.agg #[(Value.int .i64 g2_to_0), (Value.string g2_to_1), (Value.int .i64 g2_to_2), (Value.string g2_to_3), (Value.int .i64 g2_to_4)])] h Q
/-- (*livery/siread.Table).Index -/
def S_siread_Table_Index (g0_t : Option Addr) (g1_rel : Int) (g2_index : ByteArray) (h : Hp) (Q : List Value → Hp → Prop) : Prop := Fn PP 29 #[(Value.pointer g0_t), (Value.int .i64 g1_rel), (Value.string g2_index)] h Q
/-- livery/liverylaw13.do -/
def S_liverylaw13_do (g0_t : Option Addr) (g1_x_0 : Int) (g1_x_1 : Int) (g1_x_2 : Int) (g1_x_3 : Int) (g1_x_4 : ByteArray) (g1_x_5 : Int) (g1_x_6 : ByteArray) (g1_x_7 : Int) (g1_x_8 : Int) (g1_x_9 : ByteArray) (g1_x_10 : Int) (g1_x_11 : ByteArray) (g1_x_12 : Int) (h : Hp) (Q : List Value → Hp → Prop) : Prop := Fn PP 16 #[(Value.pointer g0_t), (Value.agg #[(Value.int .i64 g1_x_0), (Value.int .i64 g1_x_1), (Value.int .i64 g1_x_2), (Value.int .i64 g1_x_3), (Value.string g1_x_4), (Value.int .i64 g1_x_5), (Value.string g1_x_6), (Value.int .i64 g1_x_7), (Value.int .i64 g1_x_8), (Value.string g1_x_9), (Value.int .i64 g1_x_10), (Value.string g1_x_11), (Value.int .i64 g1_x_12)])] h Q
/-- livery/liverylaw13.SireadFew -/
def S_liverylaw13_SireadFew (g0_each : Int) (g1_all : Int) (g2_l : Sl) (h : Hp) (Q : List Value → Hp → Prop) : Prop := Fn PP 4 #[(Value.int .u8 g0_each), (Value.int .u8 g1_all), (Value.slice g2_l.a g2_l.n g2_l.c)] h Q
/-- livery/liverykeep.Mod -/
def S_liverykeep_Mod (g0_k : Int) (g1_n : Int) (h : Hp) (Q : List Value → Hp → Prop) : Prop := Fn PP 18 #[(Value.int .i64 g0_k), (Value.int .i64 g1_n)] h Q
/-- livery/liverylaw13.SireadNone -/
def S_liverylaw13_SireadNone (g0_x_0 : Int) (g0_x_1 : Int) (g0_x_2 : Int) (g0_x_3 : Int) (g0_x_4 : ByteArray) (g0_x_5 : Int) (g0_x_6 : ByteArray) (g0_x_7 : Int) (g0_x_8 : Int) (g0_x_9 : ByteArray) (g0_x_10 : Int) (g0_x_11 : ByteArray) (g0_x_12 : Int) (h : Hp) (Q : List Value → Hp → Prop) : Prop := Fn PP 5 #[(Value.agg #[(Value.int .i64 g0_x_0), (Value.int .i64 g0_x_1), (Value.int .i64 g0_x_2), (Value.int .i64 g0_x_3), (Value.string g0_x_4), (Value.int .i64 g0_x_5), (Value.string g0_x_6), (Value.int .i64 g0_x_7), (Value.int .i64 g0_x_8), (Value.string g0_x_9), (Value.int .i64 g0_x_10), (Value.string g0_x_11), (Value.int .i64 g0_x_12)])] h Q
/-- (*livery/siread.Table).Owners$1 -/
def S_siread_Table_Owners_1 (g0_y_0 : Int) (g0_y_1 : ByteArray) (g0_y_2 : Int) (g0_y_3 : ByteArray) (g0_y_4 : Int) (g1_x : Addr) (h : Hp) (Q : List Value → Hp → Prop) : Prop := Fn PP 23 #[(Value.agg #[(Value.int .i64 g0_y_0), (Value.string g0_y_1), (Value.int .i64 g0_y_2), (Value.string g0_y_3), (Value.int .i64 g0_y_4)]), (Value.pointer (some g1_x))] h Q
/-- (*livery/siread.Table).Rough$1 -/
def S_siread_Table_Rough_1 (g0_y_0 : Int) (g0_y_1 : ByteArray) (g0_y_2 : Int) (g0_y_3 : ByteArray) (g0_y_4 : Int) (g1_x : Addr) (h : Hp) (Q : List Value → Hp → Prop) : Prop := Fn PP 26 #[(Value.agg #[(Value.int .i64 g0_y_0), (Value.string g0_y_1), (Value.int .i64 g0_y_2), (Value.string g0_y_3), (Value.int .i64 g0_y_4)]), (Value.pointer (some g1_x))] h Q
/-- cmp.Or[int] -/
def S_cmp_Or_int (g0_vals : Sl) (h : Hp) (Q : List Value → Hp → Prop) : Prop := Fn PP 44 #[(Value.slice g0_vals.a g0_vals.n g0_vals.c)] h Q
/-- cmp.Compare[int] -/
def S_cmp_Compare_int (g0_x : Int) (g1_y : Int) (h : Hp) (Q : List Value → Hp → Prop) : Prop := Fn PP 45 #[(Value.int .i64 g0_x), (Value.int .i64 g1_y)] h Q
/-- cmp.isNaN[string] -/
def S_cmp_isNaN_string (g0_x : ByteArray) (h : Hp) (Q : List Value → Hp → Prop) : Prop := Fn PP 52 #[(Value.string g0_x)] h Q
/-- cmp.Compare[string] -/
def S_cmp_Compare_string (g0_x : ByteArray) (g1_y : ByteArray) (h : Hp) (Q : List Value → Hp → Prop) : Prop := Fn PP 46 #[(Value.string g0_x), (Value.string g1_y)] h Q
/-- livery/siread.compare -/
def S_siread_compare (g0_a_0 : Int) (g0_a_1 : ByteArray) (g0_a_2 : Int) (g0_a_3 : ByteArray) (g0_a_4 : Int) (g1_b_0 : Int) (g1_b_1 : ByteArray) (g1_b_2 : Int) (g1_b_3 : ByteArray) (g1_b_4 : Int) (h : Hp) (Q : List Value → Hp → Prop) : Prop := Fn PP 33 #[(Value.agg #[(Value.int .i64 g0_a_0), (Value.string g0_a_1), (Value.int .i64 g0_a_2), (Value.string g0_a_3), (Value.int .i64 g0_a_4)]), (Value.agg #[(Value.int .i64 g1_b_0), (Value.string g1_b_1), (Value.int .i64 g1_b_2), (Value.string g1_b_3), (Value.int .i64 g1_b_4)])] h Q
/-- (*livery/siread.Table).take$1 -/
def S_siread_Table_take_1 (g0_y_0 : Int) (g0_y_1 : ByteArray) (g0_y_2 : Int) (g0_y_3 : ByteArray) (g0_y_4 : Int) (g1_x : Addr) (h : Hp) (Q : List Value → Hp → Prop) : Prop := Fn PP 36 #[(Value.agg #[(Value.int .i64 g0_y_0), (Value.string g0_y_1), (Value.int .i64 g0_y_2), (Value.string g0_y_3), (Value.int .i64 g0_y_4)]), (Value.pointer (some g1_x))] h Q
/-- (*livery/siread.Table).Copy$1 -/
def S_siread_Table_Copy_1 (g0_y_0 : Int) (g0_y_1 : ByteArray) (g0_y_2 : Int) (g0_y_3 : ByteArray) (g0_y_4 : Int) (g1_x : Addr) (h : Hp) (Q : List Value → Hp → Prop) : Prop := Fn PP 38 #[(Value.agg #[(Value.int .i64 g0_y_0), (Value.string g0_y_1), (Value.int .i64 g0_y_2), (Value.string g0_y_3), (Value.int .i64 g0_y_4)]), (Value.pointer (some g1_x))] h Q
/-- (*livery/siread.Table).Index$1 -/
def S_siread_Table_Index_1 (g0_y_0 : Int) (g0_y_1 : ByteArray) (g0_y_2 : Int) (g0_y_3 : ByteArray) (g0_y_4 : Int) (g1_x : Addr) (g2_x : Addr) (h : Hp) (Q : List Value → Hp → Prop) : Prop := Fn PP 39 #[(Value.agg #[(Value.int .i64 g0_y_0), (Value.string g0_y_1), (Value.int .i64 g0_y_2), (Value.string g0_y_3), (Value.int .i64 g0_y_4)]), (Value.pointer (some g1_x)), (Value.pointer (some g2_x))] h Q
/-- (*livery/siread.Table).Drop$1 -/
def S_siread_Table_Drop_1 (g0_x_0 : Int) (g0_x_1 : ByteArray) (g0_x_2 : Int) (g0_x_3 : ByteArray) (g0_x_4 : Int) (h : Hp) (Q : List Value → Hp → Prop) : Prop := Fn PP 40 #[(Value.agg #[(Value.int .i64 g0_x_0), (Value.string g0_x_1), (Value.int .i64 g0_x_2), (Value.string g0_x_3), (Value.int .i64 g0_x_4)])] h Q
/-- maps.Keys[map[livery/siread.Thing]int,livery/siread.Thing,int]$1 -/
def S_maps_Keys_map_siread_Thing_int_siread_Thing_int_1 (g0_yield_f : Nat) (g0_yield_c : Array Value) (g1_x : Addr) (h : Hp) (Q : List Value → Hp → Prop) : Prop := Fn PP 43 #[(Value.func (.func g0_yield_f) #[] g0_yield_c), (Value.pointer (some g1_x))] h Q
/-- math/bits.Len32 -/
def S_math_bits_Len32 (g0_x : Int) (h : Hp) (Q : List Value → Hp → Prop) : Prop := Fn PP 62 #[(Value.int .u32 g0_x)] h Q
/-- (runtime.boundsError).Error -/
def S_runtime_boundsError_Error (g0_x_0 : Int) (g0_x_1 : Int) (g0_x_2 : Bool) (g0_x_3 : Int) (h : Hp) (Q : List Value → Hp → Prop) : Prop := Fn PP 82 #[(Value.agg #[(Value.int .i64 g0_x_0), (Value.int .i64 g0_x_1), (Value.bool g0_x_2), (Value.int .u8 g0_x_3)])] h Q
/-- (runtime.boundsError).RuntimeError -/
def S_runtime_boundsError_RuntimeError (g0_x_0 : Int) (g0_x_1 : Int) (g0_x_2 : Bool) (g0_x_3 : Int) (h : Hp) (Q : List Value → Hp → Prop) : Prop := Fn PP 83 #[(Value.agg #[(Value.int .i64 g0_x_0), (Value.int .i64 g0_x_1), (Value.bool g0_x_2), (Value.int .u8 g0_x_3)])] h Q
/-- (runtime.errorString).Error -/
def S_runtime_errorString_Error (g0_x : ByteArray) (h : Hp) (Q : List Value → Hp → Prop) : Prop := Fn PP 84 #[(Value.string g0_x)] h Q
/-- (runtime.errorString).RuntimeError -/
def S_runtime_errorString_RuntimeError (g0_x : ByteArray) (h : Hp) (Q : List Value → Hp → Prop) : Prop := Fn PP 85 #[(Value.string g0_x)] h Q
/-- (runtime.plainError).Error -/
def S_runtime_plainError_Error (g0_x : ByteArray) (h : Hp) (Q : List Value → Hp → Prop) : Prop := Fn PP 86 #[(Value.string g0_x)] h Q
/-- (runtime.plainError).RuntimeError -/
def S_runtime_plainError_RuntimeError (g0_x : ByteArray) (h : Hp) (Q : List Value → Hp → Prop) : Prop := Fn PP 87 #[(Value.string g0_x)] h Q
/-- (runtime.errorAddressString).Error -/
def S_runtime_errorAddressString_Error (g0_x_0 : ByteArray) (g0_x_1 : Int) (h : Hp) (Q : List Value → Hp → Prop) : Prop := Fn PP 88 #[(Value.agg #[(Value.string g0_x_0), (Value.int .u64 g0_x_1)])] h Q
/-- (runtime.errorAddressString).RuntimeError -/
def S_runtime_errorAddressString_RuntimeError (g0_x_0 : ByteArray) (g0_x_1 : Int) (h : Hp) (Q : List Value → Hp → Prop) : Prop := Fn PP 89 #[(Value.agg #[(Value.string g0_x_0), (Value.int .u64 g0_x_1)])] h Q
/-- (*runtime.TypeAssertionError).Error -/
def S_runtime_TypeAssertionError_Error (g0_x : Option Addr) (h : Hp) (Q : List Value → Hp → Prop) : Prop := Fn PP 90 #[(Value.pointer g0_x)] h Q
/-- (*runtime.TypeAssertionError).RuntimeError -/
def S_runtime_TypeAssertionError_RuntimeError (g0_x : Option Addr) (h : Hp) (Q : List Value → Hp → Prop) : Prop := Fn PP 91 #[(Value.pointer g0_x)] h Q
/-- (*runtime.PanicNilError).Error -/
def S_runtime_PanicNilError_Error (g0_x : Option Addr) (h : Hp) (Q : List Value → Hp → Prop) : Prop := Fn PP 92 #[(Value.pointer g0_x)] h Q
/-- (*runtime.PanicNilError).RuntimeError -/
def S_runtime_PanicNilError_RuntimeError (g0_x : Option Addr) (h : Hp) (Q : List Value → Hp → Prop) : Prop := Fn PP 93 #[(Value.pointer g0_x)] h Q
/-- (*internal/abi.Type).Align -/
def S_internal_abi_Type_Align (g0_x : Option Addr) (h : Hp) (Q : List Value → Hp → Prop) : Prop := Fn PP 94 #[(Value.pointer g0_x)] h Q
/-- (internal/runtime/maps.unhashableTypeError).Error -/
def S_internal_runtime_maps_unhashableTypeError_Error (g0_x_0 : Option Addr) (h : Hp) (Q : List Value → Hp → Prop) : Prop := Fn PP 95 #[(Value.agg #[(Value.pointer g0_x_0)])] h Q
/-- (internal/runtime/maps.unhashableTypeError).RuntimeError -/
def S_internal_runtime_maps_unhashableTypeError_RuntimeError (g0_x_0 : Option Addr) (h : Hp) (Q : List Value → Hp → Prop) : Prop := Fn PP 96 #[(Value.agg #[(Value.pointer g0_x_0)])] h Q
/-- (livery/api.Errno).Error -/
def S_api_Errno_Error (g0_x : Int) (h : Hp) (Q : List Value → Hp → Prop) : Prop := Fn PP 97 #[(Value.int .i64 g0_x)] h Q
/-- (internal/abi.Kind).String -/
def S_internal_abi_Kind_String (g0_x : Int) (h : Hp) (Q : List Value → Hp → Prop) : Prop := Fn PP 98 #[(Value.int .u8 g0_x)] h Q
def F_siread_New (g0_each : Int) (g1_all : Int) (h : Hp) (Q : List Value → Hp → Prop) : Prop :=
∀ J1 : List Value → Hp → Prop, (∀ b2 : Bool, ∀ h3 : Hp, ((if b2 = true then
      (Q [(Value.pointer none), (Value.int .i64 (1 : Int))] h3) else
      (wth (Array.push h3 (Obj.map #[] 0)) fun h4 =>
        wth (Array.push h4 (Obj.cells #[(Value.int .i64 g0_each), (Value.int .i64 g1_all), (Value.map (some (Array.size h3))), (Value.int .i64 (0 : Int)), (Value.int .i64 (0 : Int))] T_siread_Table)) fun h5 =>
        Q [(Value.pointer (some (Addr.mk (Array.size h4) 0 none))), (Value.int .i64 (0 : Int))] h5))) → J1 [(Value.bool b2)] h3) →
(if (decide (g0_each < (1 : Int))) = true then (J1 [(Value.bool true)] h) else
  ((if (decide (g0_each > (10000 : Int))) = true then (J1 [(Value.bool true)] h) else
      ((if (decide (g1_all < (1 : Int))) = true then (J1 [(Value.bool true)] h) else
          (J1 [(Value.bool (decide (g1_all > (10000 : Int))))] h))))))
def A_siread_New : Ann := (.mk none ⟨[], []⟩ .nil (.mk none ⟨[], []⟩ (.mk none ⟨[], []⟩ (.mk (some ⟨[0, 1], [(19, (.c .bool))]⟩) ⟨[], []⟩ .nil .nil) .nil) .nil))
theorem E_siread_New (g0_each : Int) (g1_all : Int) (h : Hp) (Q : List Value → Hp → Prop) : cw PP 25 (fun _ => []) (bodyOf Try.f6) A_siread_New (finQ PP (Try.f6.results.toList) Q) (argFr [(Value.int .i64 g0_each), (Value.int .i64 g1_all)]) h = F_siread_New g0_each g1_all h Q := by kernel_rfl
theorem O_siread_New (g0_each : Int) (g1_all : Int) {h : Hp} {Q : List Value → Hp → Prop} (H : F_siread_New g0_each g1_all h Q) : S_siread_New g0_each g1_all h Q :=
  fn_of_cw (hs := (fun _ => [])) (ann := A_siread_New) (args := [(Value.int .i64 g0_each), (Value.int .i64 g1_all)]) mixedPP Try.func6 (c := bodyOf Try.f6) (by kernel_rfl) (by kernel_rfl) (by kernel_rfl) (Eq.mpr (E_siread_New g0_each g1_all h Q) H)
def F_siread_one (g0_xid : Int) (h : Hp) (Q : List Value → Hp → Prop) : Prop :=
(if (decide (g0_xid ≥ (1 : Int))) = true then (Q [(Value.bool (decide (g0_xid ≤ (200 : Int))))] h) else
  (Q [(Value.bool false)] h))
def A_siread_one : Ann := .nil
theorem E_siread_one (g0_xid : Int) (h : Hp) (Q : List Value → Hp → Prop) : cw PP 9 (fun _ => []) (bodyOf Try.f20) A_siread_one (finQ PP (Try.f20.results.toList) Q) (argFr [(Value.int .i64 g0_xid)]) h = F_siread_one g0_xid h Q := by kernel_rfl
theorem O_siread_one (g0_xid : Int) {h : Hp} {Q : List Value → Hp → Prop} (H : F_siread_one g0_xid h Q) : S_siread_one g0_xid h Q :=
  fn_of_cw (hs := (fun _ => [])) (ann := A_siread_one) (args := [(Value.int .i64 g0_xid)]) mixedPP Try.func20 (c := bodyOf Try.f20) (by kernel_rfl) (by kernel_rfl) (by kernel_rfl) (Eq.mpr (E_siread_one g0_xid h Q) H)
def F_siread_Thing_fine (g0_x_0 : Int) (g0_x_1 : ByteArray) (g0_x_2 : Int) (g0_x_3 : ByteArray) (g0_x_4 : Int) (h : Hp) (Q : List Value → Hp → Prop) : Prop :=
wth (Array.push h (Obj.cells #[(Value.int .i64 g0_x_0), (Value.string g0_x_1), (Value.int .i64 g0_x_2), (Value.string g0_x_3), (Value.int .i64 g0_x_4)] T_siread_Thing)) fun h1 =>
∃ n2 : Int, rd h1 (Addr.add (Addr.mk (Array.size h) 0 none) 0) = some (Value.int .i64 n2) ∧
(if (n2 == (3 : Int)) = true then (Q [(Value.bool true)] h1) else
  (∃ n3 : Int, rd h1 (Addr.add (Addr.mk (Array.size h) 0 none) 0) = some (Value.int .i64 n3) ∧
    Q [(Value.bool (n3 == (4 : Int)))] h1))
def A_siread_Thing_fine : Ann := .nil
theorem E_siread_Thing_fine (g0_x_0 : Int) (g0_x_1 : ByteArray) (g0_x_2 : Int) (g0_x_3 : ByteArray) (g0_x_4 : Int) (h : Hp) (Q : List Value → Hp → Prop) : cw PP 11 (fun _ => []) (bodyOf Try.f24) A_siread_Thing_fine (finQ PP (Try.f24.results.toList) Q) (argFr [(Value.agg #[(Value.int .i64 g0_x_0), (Value.string g0_x_1), (Value.int .i64 g0_x_2), (Value.string g0_x_3), (Value.int .i64 g0_x_4)])]) h = F_siread_Thing_fine g0_x_0 g0_x_1 g0_x_2 g0_x_3 g0_x_4 h Q := by kernel_rfl
theorem O_siread_Thing_fine (g0_x_0 : Int) (g0_x_1 : ByteArray) (g0_x_2 : Int) (g0_x_3 : ByteArray) (g0_x_4 : Int) {h : Hp} {Q : List Value → Hp → Prop} (H : F_siread_Thing_fine g0_x_0 g0_x_1 g0_x_2 g0_x_3 g0_x_4 h Q) : S_siread_Thing_fine g0_x_0 g0_x_1 g0_x_2 g0_x_3 g0_x_4 h Q :=
  fn_of_cw (hs := (fun _ => [])) (ann := A_siread_Thing_fine) (args := [(Value.agg #[(Value.int .i64 g0_x_0), (Value.string g0_x_1), (Value.int .i64 g0_x_2), (Value.string g0_x_3), (Value.int .i64 g0_x_4)])]) mixedPP Try.func24 (c := bodyOf Try.f24) (by kernel_rfl) (by kernel_rfl) (by kernel_rfl) (Eq.mpr (E_siread_Thing_fine g0_x_0 g0_x_1 g0_x_2 g0_x_3 g0_x_4 h Q) H)
def F_siread_Thing_rel (g0_x_0 : Int) (g0_x_1 : ByteArray) (g0_x_2 : Int) (g0_x_3 : ByteArray) (g0_x_4 : Int) (h : Hp) (Q : List Value → Hp → Prop) : Prop :=
wth (Array.push h (Obj.cells #[(Value.int .i64 g0_x_0), (Value.string g0_x_1), (Value.int .i64 g0_x_2), (Value.string g0_x_3), (Value.int .i64 g0_x_4)] T_siread_Thing)) fun h1 =>
wth (Array.push h1 (Obj.cells #[(Value.int .i64 (0 : Int)), (Value.string (ByteArray.mk #[])), (Value.int .i64 (0 : Int)), (Value.string (ByteArray.mk #[])), (Value.int .i64 (0 : Int))] T_siread_Thing)) fun h2 =>
∃ n3 : Int, rd h2 (Addr.add (Addr.mk (Array.size h) 0 none) 2) = some (Value.int .i64 n3) ∧
stOk h2 (Addr.mk (Array.size h1) 0 none) 5 ∧ wth (wrs h2 (Addr.mk (Array.size h1) 0 none) 0 [(Value.int .i64 (2 : Int)), (Value.string (ByteArray.mk #[])), (Value.int .i64 n3), (Value.string (ByteArray.mk #[])), (Value.int .i64 (0 : Int))]) fun h4 =>
∃ n5 : Int, rd h4 (Addr.add (Addr.mk (Array.size h1) 0 none) 0) = some (Value.int .i64 n5) ∧ ∃ s6 : ByteArray, rd h4 (Addr.add (Addr.mk (Array.size h1) 0 none) 1) = some (Value.string s6) ∧ ∃ n7 : Int, rd h4 (Addr.add (Addr.mk (Array.size h1) 0 none) 2) = some (Value.int .i64 n7) ∧ ∃ s8 : ByteArray, rd h4 (Addr.add (Addr.mk (Array.size h1) 0 none) 3) = some (Value.string s8) ∧ ∃ n9 : Int, rd h4 (Addr.add (Addr.mk (Array.size h1) 0 none) 4) = some (Value.int .i64 n9) ∧ Q [(Value.agg #[(Value.int .i64 n5), (Value.string s6), (Value.int .i64 n7), (Value.string s8), (Value.int .i64 n9)])] h4
def A_siread_Thing_rel : Ann := .nil
theorem E_siread_Thing_rel (g0_x_0 : Int) (g0_x_1 : ByteArray) (g0_x_2 : Int) (g0_x_3 : ByteArray) (g0_x_4 : Int) (h : Hp) (Q : List Value → Hp → Prop) : cw PP 6 (fun _ => []) (bodyOf Try.f25) A_siread_Thing_rel (finQ PP (Try.f25.results.toList) Q) (argFr [(Value.agg #[(Value.int .i64 g0_x_0), (Value.string g0_x_1), (Value.int .i64 g0_x_2), (Value.string g0_x_3), (Value.int .i64 g0_x_4)])]) h = F_siread_Thing_rel g0_x_0 g0_x_1 g0_x_2 g0_x_3 g0_x_4 h Q := by kernel_rfl
theorem O_siread_Thing_rel (g0_x_0 : Int) (g0_x_1 : ByteArray) (g0_x_2 : Int) (g0_x_3 : ByteArray) (g0_x_4 : Int) {h : Hp} {Q : List Value → Hp → Prop} (H : F_siread_Thing_rel g0_x_0 g0_x_1 g0_x_2 g0_x_3 g0_x_4 h Q) : S_siread_Thing_rel g0_x_0 g0_x_1 g0_x_2 g0_x_3 g0_x_4 h Q :=
  fn_of_cw (hs := (fun _ => [])) (ann := A_siread_Thing_rel) (args := [(Value.agg #[(Value.int .i64 g0_x_0), (Value.string g0_x_1), (Value.int .i64 g0_x_2), (Value.string g0_x_3), (Value.int .i64 g0_x_4)])]) mixedPP Try.func25 (c := bodyOf Try.f25) (by kernel_rfl) (by kernel_rfl) (by kernel_rfl) (Eq.mpr (E_siread_Thing_rel g0_x_0 g0_x_1 g0_x_2 g0_x_3 g0_x_4 h Q) H)
def F_siread_Table_count (g0_t : Option Addr) (g1_owner : Int) (g2_rel : Int) (h : Hp) (Q : List Value → Hp → Prop) : Prop :=
nilW g0_t fun a1 => ∃ r2 : Option Nat, rd h (Addr.add a1 2) = some (Value.map r2) ∧
∃ es3 : Array MapEntry, mapAt h r2 es3 ∧ KeysLike (Value.int .i64 g1_owner) es3 ∧ ∃ r4 : Option Nat, mgetD (Value.int .i64 g1_owner) es3 (Value.map none) = (Value.map r4) ∧
∃ o5 : Obj, IterOf h r4 o5 ∧ wth (Array.push h o5) fun h6 =>
∀ X7 : List Value → Hp → Prop, (∀ n8 : Int, ∀ h9 : Hp, ((Addr.off (Addr.mk (Array.size h) 0 none) = 0 ∧ ∃ o10 : Obj, h9[Addr.block (Addr.mk (Array.size h) 0 none)]? = some o10 ∧ IterGood h9 o10 ∧
      (IterEnd h9 o10 → Q [(Value.int .i64 n8)] h9) ∧
      ∀ (k11 v12 : Value) (o13 : Obj), IterStep h9 o10 k11 v12 o13 → wth (Array.setIfInBounds h9 (Addr.block (Addr.mk (Array.size h) 0 none)) o13) fun h14 =>
      (Addr.off (Addr.mk (Array.size h) 0 none) = 0 ∧ ∃ (m15 n16 : Nat) (q17 : Array Nat) (n18 : Nat) (es19 : Array MapEntry) (c20 : Nat) (e21 : MapEntry), h14[Addr.block (Addr.mk (Array.size h) 0 none)]? = some (.mapIter (some m15) n16 q17 c20) ∧ Array.back? q17 = some n18 ∧ h14[m15]? = some (.map es19 c20) ∧ Array.find? (fun x => x.born == n18) es19 = some e21 ∧ ∃ n22 : Int, ∃ s23 : ByteArray, ∃ n24 : Int, ∃ s25 : ByteArray, ∃ n26 : Int, e21.key = (Value.agg #[(Value.int .i64 n22), (Value.string s23), (Value.int .i64 n24), (Value.string s25), (Value.int .i64 n26)]) ∧ ∃ v27 : Value, e21.val = v27 ∧ wth (Array.push h14 (Obj.cells #[(Value.int .i64 (0 : Int)), (Value.string (ByteArray.mk #[])), (Value.int .i64 (0 : Int)), (Value.string (ByteArray.mk #[])), (Value.int .i64 (0 : Int))] T_siread_Thing)) fun h28 =>
        stOk h28 (Addr.mk (Array.size h14) 0 none) 5 ∧ wth (wrs h28 (Addr.mk (Array.size h14) 0 none) 0 [(Value.int .i64 n22), (Value.string s23), (Value.int .i64 n24), (Value.string s25), (Value.int .i64 n26)]) fun h29 =>
        ∀ J30 : List Value → Hp → Prop, (∀ b31 : Bool, ∀ h32 : Hp, ((if b31 = true then
              (X7 [(Value.int .i64 (IntKind.wrap .i64 (n8 + (1 : Int))))] h32) else
              (X7 [(Value.int .i64 n8)] h32))) → J30 [(Value.bool b31)] h32) →
        ∃ n33 : Int, rd h29 (Addr.add (Addr.mk (Array.size h14) 0 none) 0) = some (Value.int .i64 n33) ∧ ∃ s34 : ByteArray, rd h29 (Addr.add (Addr.mk (Array.size h14) 0 none) 1) = some (Value.string s34) ∧ ∃ n35 : Int, rd h29 (Addr.add (Addr.mk (Array.size h14) 0 none) 2) = some (Value.int .i64 n35) ∧ ∃ s36 : ByteArray, rd h29 (Addr.add (Addr.mk (Array.size h14) 0 none) 3) = some (Value.string s36) ∧ ∃ n37 : Int, rd h29 (Addr.add (Addr.mk (Array.size h14) 0 none) 4) = some (Value.int .i64 n37) ∧ S_siread_Thing_fine n33 s34 n35 s36 n37 h29 fun (vs38 : List Value) (h39 : Hp) =>
        ∃ b40 : Bool, vs38 = [(Value.bool b40)] ∧
        (if b40 = true then (∃ n41 : Int, rd h39 (Addr.add (Addr.mk (Array.size h14) 0 none) 2) = some (Value.int .i64 n41) ∧
            J30 [(Value.bool (n41 == g2_rel))] h39) else
          (J30 [(Value.bool false)] h39))))) → X7 [(Value.int .i64 n8)] h9) →
X7 [(Value.int .i64 (0 : Int))] h6
def A_siread_Table_count : Ann := (.mk none ⟨[], []⟩ .nil (.mk none ⟨[], []⟩ .nil (.mk none ⟨[], []⟩ (.mk none ⟨[], []⟩ .nil (.mk none ⟨[], []⟩ (.mk none ⟨[2, 15], [(7, (.c (.int .i64)))]⟩ (.mk none ⟨[], []⟩ .nil (.mk none ⟨[], []⟩ .nil (.mk none ⟨[], []⟩ (.mk none ⟨[], []⟩ .nil (.mk none ⟨[], []⟩ (.mk (some ⟨[2, 7, 15], [(27, (.c .bool))]⟩) ⟨[], []⟩ .nil .nil) .nil)) .nil))) .nil) .nil)) .nil)))
theorem E_siread_Table_count (g0_t : Option Addr) (g1_owner : Int) (g2_rel : Int) (h : Hp) (Q : List Value → Hp → Prop) : cw PP 31 (fun d => if d = 18 then [(.agg [(.int .i64), .str, (.int .i64), .str, (.int .i64)]), (.c .any)] else []) (bodyOf Try.f34) A_siread_Table_count (finQ PP (Try.f34.results.toList) Q) (argFr [(Value.pointer g0_t), (Value.int .i64 g1_owner), (Value.int .i64 g2_rel)]) h = F_siread_Table_count g0_t g1_owner g2_rel h Q := by kernel_rfl
theorem O_siread_Table_count (g0_t : Option Addr) (g1_owner : Int) (g2_rel : Int) {h : Hp} {Q : List Value → Hp → Prop} (H : F_siread_Table_count g0_t g1_owner g2_rel h Q) : S_siread_Table_count g0_t g1_owner g2_rel h Q :=
  fn_of_cw (hs := (fun d => if d = 18 then [(.agg [(.int .i64), .str, (.int .i64), .str, (.int .i64)]), (.c .any)] else [])) (ann := A_siread_Table_count) (args := [(Value.pointer g0_t), (Value.int .i64 g1_owner), (Value.int .i64 g2_rel)]) mixedPP Try.func34 (c := bodyOf Try.f34) (by kernel_rfl) (by kernel_rfl) (by kernel_rfl) (Eq.mpr (E_siread_Table_count g0_t g1_owner g2_rel h Q) H)
def F_slices_Collect_siread_Thing (g0_seq_f : Nat) (g0_seq_c : Array Value) (h : Hp) (Q : List Value → Hp → Prop) : Prop :=
S_slices_AppendSeq_ssiread_Thing_siread_Thing ⟨none, 0, 0⟩ g0_seq_f g0_seq_c h fun (vs1 : List Value) (h2 : Hp) =>
∃ l3 : Sl, vs1 = [(Value.slice l3.a l3.n l3.c)] ∧
Q [(Value.slice l3.a l3.n l3.c)] h2
def A_slices_Collect_siread_Thing : Ann := .nil
theorem E_slices_Collect_siread_Thing (g0_seq_f : Nat) (g0_seq_c : Array Value) (h : Hp) (Q : List Value → Hp → Prop) : cw PP 5 (fun _ => []) (bodyOf Try.f41) A_slices_Collect_siread_Thing (finQ PP (Try.f41.results.toList) Q) (argFr [(Value.func (.func g0_seq_f) #[] g0_seq_c)]) h = F_slices_Collect_siread_Thing g0_seq_f g0_seq_c h Q := by kernel_rfl
theorem O_slices_Collect_siread_Thing (g0_seq_f : Nat) (g0_seq_c : Array Value) {h : Hp} {Q : List Value → Hp → Prop} (H : F_slices_Collect_siread_Thing g0_seq_f g0_seq_c h Q) : S_slices_Collect_siread_Thing g0_seq_f g0_seq_c h Q :=
  fn_of_cw (hs := (fun _ => [])) (ann := A_slices_Collect_siread_Thing) (args := [(Value.func (.func g0_seq_f) #[] g0_seq_c)]) mixedPP Try.func41 (c := bodyOf Try.f41) (by kernel_rfl) (by kernel_rfl) (by kernel_rfl) (Eq.mpr (E_slices_Collect_siread_Thing g0_seq_f g0_seq_c h Q) H)
def F_slices_SortedFunc_siread_Thing (g0_seq_f : Nat) (g0_seq_c : Array Value) (g1_cmp_f : Nat) (g1_cmp_c : Array Value) (h : Hp) (Q : List Value → Hp → Prop) : Prop :=
S_slices_Collect_siread_Thing g0_seq_f g0_seq_c h fun (vs1 : List Value) (h2 : Hp) =>
∃ l3 : Sl, vs1 = [(Value.slice l3.a l3.n l3.c)] ∧
S_slices_SortFunc_ssiread_Thing_siread_Thing ⟨l3.a, l3.n, l3.c⟩ g1_cmp_f g1_cmp_c h2 fun (vs4 : List Value) (h5 : Hp) =>
vs4 = [] ∧
Q [(Value.slice l3.a l3.n l3.c)] h5
def A_slices_SortedFunc_siread_Thing : Ann := .nil
theorem E_slices_SortedFunc_siread_Thing (g0_seq_f : Nat) (g0_seq_c : Array Value) (g1_cmp_f : Nat) (g1_cmp_c : Array Value) (h : Hp) (Q : List Value → Hp → Prop) : cw PP 12 (fun _ => []) (bodyOf Try.f31) A_slices_SortedFunc_siread_Thing (finQ PP (Try.f31.results.toList) Q) (argFr [(Value.func (.func g0_seq_f) #[] g0_seq_c), (Value.func (.func g1_cmp_f) #[] g1_cmp_c)]) h = F_slices_SortedFunc_siread_Thing g0_seq_f g0_seq_c g1_cmp_f g1_cmp_c h Q := by kernel_rfl
theorem O_slices_SortedFunc_siread_Thing (g0_seq_f : Nat) (g0_seq_c : Array Value) (g1_cmp_f : Nat) (g1_cmp_c : Array Value) {h : Hp} {Q : List Value → Hp → Prop} (H : F_slices_SortedFunc_siread_Thing g0_seq_f g0_seq_c g1_cmp_f g1_cmp_c h Q) : S_slices_SortedFunc_siread_Thing g0_seq_f g0_seq_c g1_cmp_f g1_cmp_c h Q :=
  fn_of_cw (hs := (fun _ => [])) (ann := A_slices_SortedFunc_siread_Thing) (args := [(Value.func (.func g0_seq_f) #[] g0_seq_c), (Value.func (.func g1_cmp_f) #[] g1_cmp_c)]) mixedPP Try.func31 (c := bodyOf Try.f31) (by kernel_rfl) (by kernel_rfl) (by kernel_rfl) (Eq.mpr (E_slices_SortedFunc_siread_Thing g0_seq_f g0_seq_c g1_cmp_f g1_cmp_c h Q) H)
def F_maps_Keys_map_siread_Thing_int_siread_Thing_int (g0_m : Option Nat) (h : Hp) (Q : List Value → Hp → Prop) : Prop :=
wth (Array.push h (Obj.cells #[(Value.map g0_m)] T_map_siread_Thing_int)) fun h1 =>
Q [(Value.func (.func 43) #[] #[(Value.pointer (some (Addr.mk (Array.size h) 0 none)))])] h1
def A_maps_Keys_map_siread_Thing_int_siread_Thing_int : Ann := .nil
theorem E_maps_Keys_map_siread_Thing_int_siread_Thing_int (g0_m : Option Nat) (h : Hp) (Q : List Value → Hp → Prop) : cw PP 4 (fun _ => []) (bodyOf Try.f32) A_maps_Keys_map_siread_Thing_int_siread_Thing_int (finQ PP (Try.f32.results.toList) Q) (argFr [(Value.map g0_m)]) h = F_maps_Keys_map_siread_Thing_int_siread_Thing_int g0_m h Q := by kernel_rfl
theorem O_maps_Keys_map_siread_Thing_int_siread_Thing_int (g0_m : Option Nat) {h : Hp} {Q : List Value → Hp → Prop} (H : F_maps_Keys_map_siread_Thing_int_siread_Thing_int g0_m h Q) : S_maps_Keys_map_siread_Thing_int_siread_Thing_int g0_m h Q :=
  fn_of_cw (hs := (fun _ => [])) (ann := A_maps_Keys_map_siread_Thing_int_siread_Thing_int) (args := [(Value.map g0_m)]) mixedPP Try.func32 (c := bodyOf Try.f32) (by kernel_rfl) (by kernel_rfl) (by kernel_rfl) (Eq.mpr (E_maps_Keys_map_siread_Thing_int_siread_Thing_int g0_m h Q) H)
def F_siread_Table_Of (g0_t : Option Addr) (g1_xid : Int) (h : Hp) (Q : List Value → Hp → Prop) : Prop :=
(if (Option.isNone g0_t) = true then
  (Q [(Value.slice none 0 0)] h) else
  (nilW g0_t fun a1 => ∃ r2 : Option Nat, rd h (Addr.add a1 2) = some (Value.map r2) ∧
    ∃ es3 : Array MapEntry, mapAt h r2 es3 ∧ KeysLike (Value.int .i64 g1_xid) es3 ∧ ∃ r4 : Option Nat, mgetD (Value.int .i64 g1_xid) es3 (Value.map none) = (Value.map r4) ∧
    S_maps_Keys_map_siread_Thing_int_siread_Thing_int r4 h fun (vs5 : List Value) (h6 : Hp) =>
    ∃ f7 : Nat, ∃ cs8 : Array Value, vs5 = [(Value.func (.func f7) #[] cs8)] ∧
    S_slices_SortedFunc_siread_Thing f7 cs8 33 #[] h6 fun (vs9 : List Value) (h10 : Hp) =>
    ∃ l11 : Sl, vs9 = [(Value.slice l11.a l11.n l11.c)] ∧
    Q [(Value.slice l11.a l11.n l11.c)] h10))
def A_siread_Table_Of : Ann := .nil
theorem E_siread_Table_Of (g0_t : Option Addr) (g1_xid : Int) (h : Hp) (Q : List Value → Hp → Prop) : cw PP 15 (fun _ => []) (bodyOf Try.f17) A_siread_Table_Of (finQ PP (Try.f17.results.toList) Q) (argFr [(Value.pointer g0_t), (Value.int .i64 g1_xid)]) h = F_siread_Table_Of g0_t g1_xid h Q := by kernel_rfl
theorem O_siread_Table_Of (g0_t : Option Addr) (g1_xid : Int) {h : Hp} {Q : List Value → Hp → Prop} (H : F_siread_Table_Of g0_t g1_xid h Q) : S_siread_Table_Of g0_t g1_xid h Q :=
  fn_of_cw (hs := (fun _ => [])) (ann := A_siread_Table_Of) (args := [(Value.pointer g0_t), (Value.int .i64 g1_xid)]) mixedPP Try.func17 (c := bodyOf Try.f17) (by kernel_rfl) (by kernel_rfl) (by kernel_rfl) (Eq.mpr (E_siread_Table_Of g0_t g1_xid h Q) H)
def F_siread_Table_lose (g0_t : Option Addr) (g1_owner : Int) (g2_such_f : Nat) (g2_such_c : Array Value) (h : Hp) (Q : List Value → Hp → Prop) : Prop :=
S_siread_Table_Of g0_t g1_owner h fun (vs1 : List Value) (h2 : Hp) =>
∃ l3 : Sl, vs1 = [(Value.slice l3.a l3.n l3.c)] ∧
∀ X4 : List Value → Hp → Prop, (∀ n5 : Int, ∀ h6 : Hp, ((if (decide (n5 < (l3.n : Int))) = true then
      (∀ J7 : List Value → Hp → Prop, (∀ h8 : Hp, (X4 [(Value.int .i64 (IntKind.wrap .i64 (n5 + (1 : Int))))] h8) → J7 [] h8) →
        nilW l3.a fun a9 => ixOk n5 l3.n (∃ n10 : Int, rd h6 (Addr.add (Addr.add a9 (Int.toNat n5 * 5)) 0) = some (Value.int .i64 n10) ∧ ∃ s11 : ByteArray, rd h6 (Addr.add (Addr.add a9 (Int.toNat n5 * 5)) 1) = some (Value.string s11) ∧ ∃ n12 : Int, rd h6 (Addr.add (Addr.add a9 (Int.toNat n5 * 5)) 2) = some (Value.int .i64 n12) ∧ ∃ s13 : ByteArray, rd h6 (Addr.add (Addr.add a9 (Int.toNat n5 * 5)) 3) = some (Value.string s13) ∧ ∃ n14 : Int, rd h6 (Addr.add (Addr.add a9 (Int.toNat n5 * 5)) 4) = some (Value.int .i64 n14) ∧ wth (Array.push h6 (Obj.cells #[(Value.int .i64 (0 : Int)), (Value.string (ByteArray.mk #[])), (Value.int .i64 (0 : Int)), (Value.string (ByteArray.mk #[])), (Value.int .i64 (0 : Int))] T_siread_Thing)) fun h15 =>
          stOk h15 (Addr.mk (Array.size h6) 0 none) 5 ∧ wth (wrs h15 (Addr.mk (Array.size h6) 0 none) 0 [(Value.int .i64 n10), (Value.string s11), (Value.int .i64 n12), (Value.string s13), (Value.int .i64 n14)]) fun h16 =>
          ∃ n17 : Int, rd h16 (Addr.add (Addr.mk (Array.size h6) 0 none) 0) = some (Value.int .i64 n17) ∧ ∃ s18 : ByteArray, rd h16 (Addr.add (Addr.mk (Array.size h6) 0 none) 1) = some (Value.string s18) ∧ ∃ n19 : Int, rd h16 (Addr.add (Addr.mk (Array.size h6) 0 none) 2) = some (Value.int .i64 n19) ∧ ∃ s20 : ByteArray, rd h16 (Addr.add (Addr.mk (Array.size h6) 0 none) 3) = some (Value.string s20) ∧ ∃ n21 : Int, rd h16 (Addr.add (Addr.mk (Array.size h6) 0 none) 4) = some (Value.int .i64 n21) ∧ Fn PP g2_such_f ((#[] ++ #[(Value.agg #[(Value.int .i64 n17), (Value.string s18), (Value.int .i64 n19), (Value.string s20), (Value.int .i64 n21)])]) ++ g2_such_c) h16 fun (vs22 : List Value) (h23 : Hp) =>
          ∃ b24 : Bool, vs22 = [(Value.bool b24)] ∧
          (if b24 = true then
            (nilW g0_t fun a25 => ∃ r26 : Option Nat, rd h23 (Addr.add a25 2) = some (Value.map r26) ∧
              ∃ es27 : Array MapEntry, mapAt h23 r26 es27 ∧ KeysLike (Value.int .i64 g1_owner) es27 ∧ ∃ r28 : Option Nat, mgetD (Value.int .i64 g1_owner) es27 (Value.map none) = (Value.map r28) ∧
              ∃ n29 : Int, rd h23 (Addr.add (Addr.mk (Array.size h6) 0 none) 0) = some (Value.int .i64 n29) ∧ ∃ s30 : ByteArray, rd h23 (Addr.add (Addr.mk (Array.size h6) 0 none) 1) = some (Value.string s30) ∧ ∃ n31 : Int, rd h23 (Addr.add (Addr.mk (Array.size h6) 0 none) 2) = some (Value.int .i64 n31) ∧ ∃ s32 : ByteArray, rd h23 (Addr.add (Addr.mk (Array.size h6) 0 none) 3) = some (Value.string s32) ∧ ∃ n33 : Int, rd h23 (Addr.add (Addr.mk (Array.size h6) 0 none) 4) = some (Value.int .i64 n33) ∧ ∃ (m34 : Nat) (es35 : Array MapEntry) (c36 : Nat), r28 = some m34 ∧ h23[m34]? = some (.map es35 c36) ∧ KeysLike (Value.agg #[(Value.int .i64 n29), (Value.string s30), (Value.int .i64 n31), (Value.string s32), (Value.int .i64 n33)]) es35 ∧ wth (Array.setIfInBounds h23 m34 (mdel (Value.agg #[(Value.int .i64 n29), (Value.string s30), (Value.int .i64 n31), (Value.string s32), (Value.int .i64 n33)]) es35 c36)) fun h37 =>
              ∃ n38 : Int, rd h37 (Addr.add (Addr.mk (Array.size h6) 0 none) 0) = some (Value.int .i64 n38) ∧ ∃ s39 : ByteArray, rd h37 (Addr.add (Addr.mk (Array.size h6) 0 none) 1) = some (Value.string s39) ∧ ∃ n40 : Int, rd h37 (Addr.add (Addr.mk (Array.size h6) 0 none) 2) = some (Value.int .i64 n40) ∧ ∃ s41 : ByteArray, rd h37 (Addr.add (Addr.mk (Array.size h6) 0 none) 3) = some (Value.string s41) ∧ ∃ n42 : Int, rd h37 (Addr.add (Addr.mk (Array.size h6) 0 none) 4) = some (Value.int .i64 n42) ∧ S_siread_Thing_fine n38 s39 n40 s41 n42 h37 fun (vs43 : List Value) (h44 : Hp) =>
              ∃ b45 : Bool, vs43 = [(Value.bool b45)] ∧
              (if b45 = true then
                (nilW g0_t fun a46 => ∃ n47 : Int, rd h44 (Addr.add a46 3) = some (Value.int .i64 n47) ∧
                  nilW g0_t fun a48 => stOk h44 (Addr.add a48 3) 1 ∧ wth (wrs h44 (Addr.add a48 3) 0 [(Value.int .i64 (IntKind.wrap .i64 (n47 - (1 : Int))))]) fun h49 =>
                  J7 [] h49) else
                (J7 [] h44))) else
            (J7 [] h23)))) else
      (Q [] h6))) → X4 [(Value.int .i64 n5)] h6) →
X4 [(Value.int .i64 (0 : Int))] h2
def A_siread_Table_lose : Ann := (.mk none ⟨[], []⟩ .nil (.mk none ⟨[], []⟩ (.mk none ⟨[0, 1, 2, 10, 11], [(12, (.c (.int .i64)))]⟩ (.mk none ⟨[], []⟩ .nil (.mk none ⟨[], []⟩ .nil (.mk none ⟨[], []⟩ (.mk (some ⟨[0, 1, 2, 10, 11, 12], []⟩) ⟨[], []⟩ .nil .nil) .nil))) .nil) .nil))
theorem E_siread_Table_lose (g0_t : Option Addr) (g1_owner : Int) (g2_such_f : Nat) (g2_such_c : Array Value) (h : Hp) (Q : List Value → Hp → Prop) : cw PP 36 (fun _ => []) (bodyOf Try.f35) A_siread_Table_lose (finQ PP (Try.f35.results.toList) Q) (argFr [(Value.pointer g0_t), (Value.int .i64 g1_owner), (Value.func (.func g2_such_f) #[] g2_such_c)]) h = F_siread_Table_lose g0_t g1_owner g2_such_f g2_such_c h Q := by kernel_rfl
theorem O_siread_Table_lose (g0_t : Option Addr) (g1_owner : Int) (g2_such_f : Nat) (g2_such_c : Array Value) {h : Hp} {Q : List Value → Hp → Prop} (H : F_siread_Table_lose g0_t g1_owner g2_such_f g2_such_c h Q) : S_siread_Table_lose g0_t g1_owner g2_such_f g2_such_c h Q :=
  fn_of_cw (hs := (fun _ => [])) (ann := A_siread_Table_lose) (args := [(Value.pointer g0_t), (Value.int .i64 g1_owner), (Value.func (.func g2_such_f) #[] g2_such_c)]) mixedPP Try.func35 (c := bodyOf Try.f35) (by kernel_rfl) (by kernel_rfl) (by kernel_rfl) (Eq.mpr (E_siread_Table_lose g0_t g1_owner g2_such_f g2_such_c h Q) H)
def F_siread_Table_take (g0_t : Option Addr) (g1_owner : Int) (g2_x_0 : Int) (g2_x_1 : ByteArray) (g2_x_2 : Int) (g2_x_3 : ByteArray) (g2_x_4 : Int) (h : Hp) (Q : List Value → Hp → Prop) : Prop :=
wth (Array.push h (Obj.cells #[(Value.int .i64 g2_x_0), (Value.string g2_x_1), (Value.int .i64 g2_x_2), (Value.string g2_x_3), (Value.int .i64 g2_x_4)] T_siread_Thing)) fun h1 =>
∀ J2 : List Value → Hp → Prop, (∀ b3 : Bool, ∀ h4 : Hp, ((if b3 = true then
      (Q [] h4) else
      (nilW g0_t fun a5 => ∃ r6 : Option Nat, rd h4 (Addr.add a5 2) = some (Value.map r6) ∧
        ∃ es7 : Array MapEntry, mapAt h4 r6 es7 ∧ KeysLike (Value.int .i64 g1_owner) es7 ∧ ∃ r8 : Option Nat, mgetD (Value.int .i64 g1_owner) es7 (Value.map none) = (Value.map r8) ∧
        ∀ J9 : List Value → Hp → Prop, (∀ r10 : Option Nat, ∀ h11 : Hp, (∀ J12 : List Value → Hp → Prop, (∀ b13 : Bool, ∀ h14 : Hp, ((if b13 = true then
                  (Q [] h14) else
                  (∃ n15 : Int, rd h14 (Addr.add (Addr.mk (Array.size h) 0 none) 0) = some (Value.int .i64 n15) ∧ ∃ s16 : ByteArray, rd h14 (Addr.add (Addr.mk (Array.size h) 0 none) 1) = some (Value.string s16) ∧ ∃ n17 : Int, rd h14 (Addr.add (Addr.mk (Array.size h) 0 none) 2) = some (Value.int .i64 n17) ∧ ∃ s18 : ByteArray, rd h14 (Addr.add (Addr.mk (Array.size h) 0 none) 3) = some (Value.string s18) ∧ ∃ n19 : Int, rd h14 (Addr.add (Addr.mk (Array.size h) 0 none) 4) = some (Value.int .i64 n19) ∧ S_siread_Thing_fine n15 s16 n17 s18 n19 h14 fun (vs20 : List Value) (h21 : Hp) =>
                    ∃ b22 : Bool, vs20 = [(Value.bool b22)] ∧
                    ∀ J23 : List Value → Hp → Prop, (∀ h24 : Hp, (∃ n25 : Int, rd h24 (Addr.add (Addr.mk (Array.size h) 0 none) 0) = some (Value.int .i64 n25) ∧
                        ∀ J26 : List Value → Hp → Prop, (∀ h27 : Hp, (nilW g0_t fun a28 => ∃ r29 : Option Nat, rd h27 (Addr.add a28 2) = some (Value.map r29) ∧
                            ∃ es30 : Array MapEntry, mapAt h27 r29 es30 ∧ KeysLike (Value.int .i64 g1_owner) es30 ∧ ∃ r31 : Option Nat, mgetD (Value.int .i64 g1_owner) es30 (Value.map none) = (Value.map r31) ∧
                            ∃ n32 : Int, rd h27 (Addr.add (Addr.mk (Array.size h) 0 none) 0) = some (Value.int .i64 n32) ∧ ∃ s33 : ByteArray, rd h27 (Addr.add (Addr.mk (Array.size h) 0 none) 1) = some (Value.string s33) ∧ ∃ n34 : Int, rd h27 (Addr.add (Addr.mk (Array.size h) 0 none) 2) = some (Value.int .i64 n34) ∧ ∃ s35 : ByteArray, rd h27 (Addr.add (Addr.mk (Array.size h) 0 none) 3) = some (Value.string s35) ∧ ∃ n36 : Int, rd h27 (Addr.add (Addr.mk (Array.size h) 0 none) 4) = some (Value.int .i64 n36) ∧ ∃ (m37 : Nat) (es38 : Array MapEntry) (c39 : Nat), r31 = some m37 ∧ h27[m37]? = some (.map es38 c39) ∧ KeysLike (Value.agg #[(Value.int .i64 n32), (Value.string s33), (Value.int .i64 n34), (Value.string s35), (Value.int .i64 n36)]) es38 ∧ wth (Array.setIfInBounds h27 m37 (mput (Value.agg #[(Value.int .i64 n32), (Value.string s33), (Value.int .i64 n34), (Value.string s35), (Value.int .i64 n36)]) (Value.int .i64 (1 : Int)) es38 c39)) fun h40 =>
                            Q [] h40) → J26 [] h27) →
                        (if (n25 == (2 : Int)) = true then
                          (S_siread_Table_lose g0_t g1_owner 36 #[(Value.pointer (some (Addr.mk (Array.size h) 0 none)))] h24 fun (vs41 : List Value) (h42 : Hp) =>
                            vs41 = [] ∧
                            J26 [] h42) else
                          (J26 [] h24))) → J23 [] h24) →
                    (if b22 = true then
                      (∀ J43 : List Value → Hp → Prop, (∀ b44 : Bool, ∀ h45 : Hp, ((if b44 = true then
                              (∃ n46 : Int, rd h45 (Addr.add (Addr.mk (Array.size h) 0 none) 0) = some (Value.int .i64 n46) ∧ ∃ s47 : ByteArray, rd h45 (Addr.add (Addr.mk (Array.size h) 0 none) 1) = some (Value.string s47) ∧ ∃ n48 : Int, rd h45 (Addr.add (Addr.mk (Array.size h) 0 none) 2) = some (Value.int .i64 n48) ∧ ∃ s49 : ByteArray, rd h45 (Addr.add (Addr.mk (Array.size h) 0 none) 3) = some (Value.string s49) ∧ ∃ n50 : Int, rd h45 (Addr.add (Addr.mk (Array.size h) 0 none) 4) = some (Value.int .i64 n50) ∧ ∃ (m51 : Nat) (es52 : Array MapEntry) (c53 : Nat), r10 = some m51 ∧ h45[m51]? = some (.map es52 c53) ∧ KeysLike (Value.agg #[(Value.int .i64 n46), (Value.string s47), (Value.int .i64 n48), (Value.string s49), (Value.int .i64 n50)]) es52 ∧ wth (Array.setIfInBounds h45 m51 (mput (Value.agg #[(Value.int .i64 n46), (Value.string s47), (Value.int .i64 n48), (Value.string s49), (Value.int .i64 n50)]) (Value.int .i64 (1 : Int)) es52 c53)) fun h54 =>
                                nilW g0_t fun a55 => ∃ n56 : Int, rd h54 (Addr.add a55 3) = some (Value.int .i64 n56) ∧
                                nilW g0_t fun a57 => stOk h54 (Addr.add a57 3) 1 ∧ wth (wrs h54 (Addr.add a57 3) 0 [(Value.int .i64 (IntKind.wrap .i64 (n56 + (1 : Int))))]) fun h58 =>
                                Q [] h58) else
                              (∃ n59 : Int, rd h45 (Addr.add (Addr.mk (Array.size h) 0 none) 0) = some (Value.int .i64 n59) ∧ ∃ s60 : ByteArray, rd h45 (Addr.add (Addr.mk (Array.size h) 0 none) 1) = some (Value.string s60) ∧ ∃ n61 : Int, rd h45 (Addr.add (Addr.mk (Array.size h) 0 none) 2) = some (Value.int .i64 n61) ∧ ∃ s62 : ByteArray, rd h45 (Addr.add (Addr.mk (Array.size h) 0 none) 3) = some (Value.string s62) ∧ ∃ n63 : Int, rd h45 (Addr.add (Addr.mk (Array.size h) 0 none) 4) = some (Value.int .i64 n63) ∧ S_siread_Thing_rel n59 s60 n61 s62 n63 h45 fun (vs64 : List Value) (h65 : Hp) =>
                                ∃ n66 : Int, ∃ s67 : ByteArray, ∃ n68 : Int, ∃ s69 : ByteArray, ∃ n70 : Int, vs64 = [(Value.agg #[(Value.int .i64 n66), (Value.string s67), (Value.int .i64 n68), (Value.string s69), (Value.int .i64 n70)])] ∧
                                stOk h65 (Addr.mk (Array.size h) 0 none) 5 ∧ wth (wrs h65 (Addr.mk (Array.size h) 0 none) 0 [(Value.int .i64 n66), (Value.string s67), (Value.int .i64 n68), (Value.string s69), (Value.int .i64 n70)]) fun h71 =>
                                J23 [] h71))) → J43 [(Value.bool b44)] h45) →
                        ∃ n72 : Int, rd h21 (Addr.add (Addr.mk (Array.size h) 0 none) 2) = some (Value.int .i64 n72) ∧
                        nilW g0_t fun a73 => ∃ n74 : Int, rd h21 (Addr.add a73 0) = some (Value.int .i64 n74) ∧
                        S_siread_Table_count g0_t g1_owner n72 h21 fun (vs75 : List Value) (h76 : Hp) =>
                        ∃ n77 : Int, vs75 = [(Value.int .i64 n77)] ∧
                        rd h76 (Addr.add a73 0) = some (Value.int .i64 n74) ∧ (if (decide (n77 < n74)) = true then (nilW g0_t fun a78 => ∃ n79 : Int, rd h76 (Addr.add a78 3) = some (Value.int .i64 n79) ∧
                            nilW g0_t fun a80 => ∃ n81 : Int, rd h76 (Addr.add a80 1) = some (Value.int .i64 n81) ∧
                            J43 [(Value.bool (decide (n79 < n81)))] h76) else
                          (J43 [(Value.bool false)] h76))) else
                      (J23 [] h21))))) → J12 [(Value.bool b13)] h14) →
            ∃ n82 : Int, rd h11 (Addr.add (Addr.mk (Array.size h) 0 none) 0) = some (Value.int .i64 n82) ∧ ∃ s83 : ByteArray, rd h11 (Addr.add (Addr.mk (Array.size h) 0 none) 1) = some (Value.string s83) ∧ ∃ n84 : Int, rd h11 (Addr.add (Addr.mk (Array.size h) 0 none) 2) = some (Value.int .i64 n84) ∧ ∃ s85 : ByteArray, rd h11 (Addr.add (Addr.mk (Array.size h) 0 none) 3) = some (Value.string s85) ∧ ∃ n86 : Int, rd h11 (Addr.add (Addr.mk (Array.size h) 0 none) 4) = some (Value.int .i64 n86) ∧ ∃ es87 : Array MapEntry, mapAt h11 r10 es87 ∧ KeysLike (Value.agg #[(Value.int .i64 n82), (Value.string s83), (Value.int .i64 n84), (Value.string s85), (Value.int .i64 n86)]) es87 ∧ ∃ n88 : Int, mgetD (Value.agg #[(Value.int .i64 n82), (Value.string s83), (Value.int .i64 n84), (Value.string s85), (Value.int .i64 n86)]) es87 (Value.int .i64 (0 : Int)) = (Value.int .i64 n88) ∧
            (if (decide (n88 > (0 : Int))) = true then (J12 [(Value.bool true)] h11) else
              (∃ n89 : Int, rd h11 (Addr.add (Addr.mk (Array.size h) 0 none) 0) = some (Value.int .i64 n89) ∧ ∃ s90 : ByteArray, rd h11 (Addr.add (Addr.mk (Array.size h) 0 none) 1) = some (Value.string s90) ∧ ∃ n91 : Int, rd h11 (Addr.add (Addr.mk (Array.size h) 0 none) 2) = some (Value.int .i64 n91) ∧ ∃ s92 : ByteArray, rd h11 (Addr.add (Addr.mk (Array.size h) 0 none) 3) = some (Value.string s92) ∧ ∃ n93 : Int, rd h11 (Addr.add (Addr.mk (Array.size h) 0 none) 4) = some (Value.int .i64 n93) ∧ S_siread_Thing_fine n89 s90 n91 s92 n93 h11 fun (vs94 : List Value) (h95 : Hp) =>
                ∃ b96 : Bool, vs94 = [(Value.bool b96)] ∧
                (if b96 = true then (∃ n97 : Int, rd h95 (Addr.add (Addr.mk (Array.size h) 0 none) 0) = some (Value.int .i64 n97) ∧ ∃ s98 : ByteArray, rd h95 (Addr.add (Addr.mk (Array.size h) 0 none) 1) = some (Value.string s98) ∧ ∃ n99 : Int, rd h95 (Addr.add (Addr.mk (Array.size h) 0 none) 2) = some (Value.int .i64 n99) ∧ ∃ s100 : ByteArray, rd h95 (Addr.add (Addr.mk (Array.size h) 0 none) 3) = some (Value.string s100) ∧ ∃ n101 : Int, rd h95 (Addr.add (Addr.mk (Array.size h) 0 none) 4) = some (Value.int .i64 n101) ∧ S_siread_Thing_rel n97 s98 n99 s100 n101 h95 fun (vs102 : List Value) (h103 : Hp) =>
                    ∃ n104 : Int, ∃ s105 : ByteArray, ∃ n106 : Int, ∃ s107 : ByteArray, ∃ n108 : Int, vs102 = [(Value.agg #[(Value.int .i64 n104), (Value.string s105), (Value.int .i64 n106), (Value.string s107), (Value.int .i64 n108)])] ∧
                    ∃ es109 : Array MapEntry, mapAt h103 r10 es109 ∧ KeysLike (Value.agg #[(Value.int .i64 n104), (Value.string s105), (Value.int .i64 n106), (Value.string s107), (Value.int .i64 n108)]) es109 ∧ ∃ n110 : Int, mgetD (Value.agg #[(Value.int .i64 n104), (Value.string s105), (Value.int .i64 n106), (Value.string s107), (Value.int .i64 n108)]) es109 (Value.int .i64 (0 : Int)) = (Value.int .i64 n110) ∧
                    J12 [(Value.bool (decide (n110 > (0 : Int))))] h103) else
                  (J12 [(Value.bool false)] h95))))) → J9 [(Value.map r10)] h11) →
        (if (Option.isNone r8) = true then
          (wth (Array.push h4 (Obj.map #[] 0)) fun h111 =>
            nilW g0_t fun a112 => ∃ r113 : Option Nat, rd h111 (Addr.add a112 2) = some (Value.map r113) ∧
            ∃ (m114 : Nat) (es115 : Array MapEntry) (c116 : Nat), r113 = some m114 ∧ h111[m114]? = some (.map es115 c116) ∧ KeysLike (Value.int .i64 g1_owner) es115 ∧ wth (Array.setIfInBounds h111 m114 (mput (Value.int .i64 g1_owner) (Value.map (some (Array.size h4))) es115 c116)) fun h117 =>
            J9 [(Value.map (some (Array.size h4)))] h117) else
          (J9 [(Value.map r8)] h4))))) → J2 [(Value.bool b3)] h4) →
∃ n118 : Int, rd h1 (Addr.add (Addr.mk (Array.size h) 0 none) 0) = some (Value.int .i64 n118) ∧
(if (decide (n118 < (1 : Int))) = true then (J2 [(Value.bool true)] h1) else
  (∃ n119 : Int, rd h1 (Addr.add (Addr.mk (Array.size h) 0 none) 0) = some (Value.int .i64 n119) ∧
    J2 [(Value.bool (decide (n119 > (4 : Int))))] h1))
def A_siread_Table_take : Ann := (.mk none ⟨[], []⟩ .nil (.mk none ⟨[], []⟩ (.mk none ⟨[], []⟩ (.mk (some ⟨[0, 1, 5], [(14, (.c .bool))]⟩) ⟨[], []⟩ .nil .nil) .nil) (.mk none ⟨[], []⟩ .nil (.mk none ⟨[], []⟩ (.mk none ⟨[], []⟩ .nil (.mk (some ⟨[0, 1, 5], [(6, (.c .map))]⟩) ⟨[], []⟩ .nil .nil)) (.mk none ⟨[], []⟩ (.mk none ⟨[], []⟩ (.mk (some ⟨[0, 1, 5, 6], [(44, (.c .bool))]⟩) ⟨[], []⟩ .nil .nil) .nil) (.mk none ⟨[], []⟩ (.mk none ⟨[], []⟩ .nil (.mk (some ⟨[0, 1, 5], []⟩) ⟨[], []⟩ (.mk none ⟨[], []⟩ (.mk none ⟨[], []⟩ (.mk (some ⟨[0, 1, 5, 6], [(67, (.c .bool))]⟩) ⟨[], []⟩ .nil .nil) .nil) .nil) .nil)) (.mk none ⟨[], []⟩ (.mk none ⟨[], []⟩ .nil (.mk (some ⟨[0, 1, 5], []⟩) ⟨[], []⟩ .nil .nil)) .nil)))))))
theorem E_siread_Table_take (g0_t : Option Addr) (g1_owner : Int) (g2_x_0 : Int) (g2_x_1 : ByteArray) (g2_x_2 : Int) (g2_x_3 : ByteArray) (g2_x_4 : Int) (h : Hp) (Q : List Value → Hp → Prop) : cw PP 93 (fun _ => []) (bodyOf Try.f21) A_siread_Table_take (finQ PP (Try.f21.results.toList) Q) (argFr [(Value.pointer g0_t), (Value.int .i64 g1_owner), (Value.agg #[(Value.int .i64 g2_x_0), (Value.string g2_x_1), (Value.int .i64 g2_x_2), (Value.string g2_x_3), (Value.int .i64 g2_x_4)])]) h = F_siread_Table_take g0_t g1_owner g2_x_0 g2_x_1 g2_x_2 g2_x_3 g2_x_4 h Q := by kernel_rfl
theorem O_siread_Table_take (g0_t : Option Addr) (g1_owner : Int) (g2_x_0 : Int) (g2_x_1 : ByteArray) (g2_x_2 : Int) (g2_x_3 : ByteArray) (g2_x_4 : Int) {h : Hp} {Q : List Value → Hp → Prop} (H : F_siread_Table_take g0_t g1_owner g2_x_0 g2_x_1 g2_x_2 g2_x_3 g2_x_4 h Q) : S_siread_Table_take g0_t g1_owner g2_x_0 g2_x_1 g2_x_2 g2_x_3 g2_x_4 h Q :=
  fn_of_cw (hs := (fun _ => [])) (ann := A_siread_Table_take) (args := [(Value.pointer g0_t), (Value.int .i64 g1_owner), (Value.agg #[(Value.int .i64 g2_x_0), (Value.string g2_x_1), (Value.int .i64 g2_x_2), (Value.string g2_x_3), (Value.int .i64 g2_x_4)])]) mixedPP Try.func21 (c := bodyOf Try.f21) (by kernel_rfl) (by kernel_rfl) (by kernel_rfl) (Eq.mpr (E_siread_Table_take g0_t g1_owner g2_x_0 g2_x_1 g2_x_2 g2_x_3 g2_x_4 h Q) H)
def F_siread_Table_Take (g0_t : Option Addr) (g1_xid : Int) (g2_x_0 : Int) (g2_x_1 : ByteArray) (g2_x_2 : Int) (g2_x_3 : ByteArray) (g2_x_4 : Int) (h : Hp) (Q : List Value → Hp → Prop) : Prop :=
wth (Array.push h (Obj.cells #[(Value.int .i64 g2_x_0), (Value.string g2_x_1), (Value.int .i64 g2_x_2), (Value.string g2_x_3), (Value.int .i64 g2_x_4)] T_siread_Thing)) fun h1 =>
∀ J2 : List Value → Hp → Prop, (∀ b3 : Bool, ∀ h4 : Hp, ((if b3 = true then
      (Q [(Value.int .i64 (1 : Int))] h4) else
      (∃ n5 : Int, rd h4 (Addr.add (Addr.mk (Array.size h) 0 none) 0) = some (Value.int .i64 n5) ∧ ∃ s6 : ByteArray, rd h4 (Addr.add (Addr.mk (Array.size h) 0 none) 1) = some (Value.string s6) ∧ ∃ n7 : Int, rd h4 (Addr.add (Addr.mk (Array.size h) 0 none) 2) = some (Value.int .i64 n7) ∧ ∃ s8 : ByteArray, rd h4 (Addr.add (Addr.mk (Array.size h) 0 none) 3) = some (Value.string s8) ∧ ∃ n9 : Int, rd h4 (Addr.add (Addr.mk (Array.size h) 0 none) 4) = some (Value.int .i64 n9) ∧ S_siread_Table_take g0_t g1_xid n5 s6 n7 s8 n9 h4 fun (vs10 : List Value) (h11 : Hp) =>
        vs10 = [] ∧
        Q [(Value.int .i64 (0 : Int))] h11))) → J2 [(Value.bool b3)] h4) →
(if (Option.isNone g0_t) = true then (J2 [(Value.bool true)] h1) else
  (S_siread_one g1_xid h1 fun (vs12 : List Value) (h13 : Hp) =>
    ∃ b14 : Bool, vs12 = [(Value.bool b14)] ∧
    (if (!b14) = true then (J2 [(Value.bool true)] h13) else
      (∃ n15 : Int, rd h13 (Addr.add (Addr.mk (Array.size h) 0 none) 0) = some (Value.int .i64 n15) ∧
        (if (decide (n15 < (1 : Int))) = true then (J2 [(Value.bool true)] h13) else
          (∃ n16 : Int, rd h13 (Addr.add (Addr.mk (Array.size h) 0 none) 0) = some (Value.int .i64 n16) ∧
            J2 [(Value.bool (decide (n16 > (4 : Int))))] h13))))))
def A_siread_Table_Take : Ann := (.mk none ⟨[], []⟩ .nil (.mk none ⟨[], []⟩ (.mk none ⟨[], []⟩ (.mk (some ⟨[0, 1, 5], [(23, (.c .bool))]⟩) ⟨[], []⟩ .nil .nil) .nil) .nil))
theorem E_siread_Table_Take (g0_t : Option Addr) (g1_xid : Int) (g2_x_0 : Int) (g2_x_1 : ByteArray) (g2_x_2 : Int) (g2_x_3 : ByteArray) (g2_x_4 : Int) (h : Hp) (Q : List Value → Hp → Prop) : cw PP 28 (fun _ => []) (bodyOf Try.f7) A_siread_Table_Take (finQ PP (Try.f7.results.toList) Q) (argFr [(Value.pointer g0_t), (Value.int .i64 g1_xid), (Value.agg #[(Value.int .i64 g2_x_0), (Value.string g2_x_1), (Value.int .i64 g2_x_2), (Value.string g2_x_3), (Value.int .i64 g2_x_4)])]) h = F_siread_Table_Take g0_t g1_xid g2_x_0 g2_x_1 g2_x_2 g2_x_3 g2_x_4 h Q := by kernel_rfl
theorem O_siread_Table_Take (g0_t : Option Addr) (g1_xid : Int) (g2_x_0 : Int) (g2_x_1 : ByteArray) (g2_x_2 : Int) (g2_x_3 : ByteArray) (g2_x_4 : Int) {h : Hp} {Q : List Value → Hp → Prop} (H : F_siread_Table_Take g0_t g1_xid g2_x_0 g2_x_1 g2_x_2 g2_x_3 g2_x_4 h Q) : S_siread_Table_Take g0_t g1_xid g2_x_0 g2_x_1 g2_x_2 g2_x_3 g2_x_4 h Q :=
  fn_of_cw (hs := (fun _ => [])) (ann := A_siread_Table_Take) (args := [(Value.pointer g0_t), (Value.int .i64 g1_xid), (Value.agg #[(Value.int .i64 g2_x_0), (Value.string g2_x_1), (Value.int .i64 g2_x_2), (Value.string g2_x_3), (Value.int .i64 g2_x_4)])]) mixedPP Try.func7 (c := bodyOf Try.f7) (by kernel_rfl) (by kernel_rfl) (by kernel_rfl) (Eq.mpr (E_siread_Table_Take g0_t g1_xid g2_x_0 g2_x_1 g2_x_2 g2_x_3 g2_x_4 h Q) H)
def F_liverylaw13_version (g0_rel : Int) (g1_n : Int) (h : Hp) (Q : List Value → Hp → Prop) : Prop :=
wth (Array.push h (Obj.cells #[(Value.int .i64 (0 : Int)), (Value.string (ByteArray.mk #[])), (Value.int .i64 (0 : Int)), (Value.string (ByteArray.mk #[])), (Value.int .i64 (0 : Int))] T_siread_Thing)) fun h1 =>
stOk h1 (Addr.mk (Array.size h) 0 none) 5 ∧ wth (wrs h1 (Addr.mk (Array.size h) 0 none) 0 [(Value.int .i64 (4 : Int)), (Value.string (ByteArray.mk #[])), (Value.int .i64 g0_rel), (Value.string (ByteArray.mk #[])), (Value.int .i64 g1_n)]) fun h2 =>
∃ n3 : Int, rd h2 (Addr.add (Addr.mk (Array.size h) 0 none) 0) = some (Value.int .i64 n3) ∧ ∃ s4 : ByteArray, rd h2 (Addr.add (Addr.mk (Array.size h) 0 none) 1) = some (Value.string s4) ∧ ∃ n5 : Int, rd h2 (Addr.add (Addr.mk (Array.size h) 0 none) 2) = some (Value.int .i64 n5) ∧ ∃ s6 : ByteArray, rd h2 (Addr.add (Addr.mk (Array.size h) 0 none) 3) = some (Value.string s6) ∧ ∃ n7 : Int, rd h2 (Addr.add (Addr.mk (Array.size h) 0 none) 4) = some (Value.int .i64 n7) ∧ Q [(Value.agg #[(Value.int .i64 n3), (Value.string s4), (Value.int .i64 n5), (Value.string s6), (Value.int .i64 n7)])] h2
def A_liverylaw13_version : Ann := .nil
theorem E_liverylaw13_version (g0_rel : Int) (g1_n : Int) (h : Hp) (Q : List Value → Hp → Prop) : cw PP 8 (fun _ => []) (bodyOf Try.f8) A_liverylaw13_version (finQ PP (Try.f8.results.toList) Q) (argFr [(Value.int .i64 g0_rel), (Value.int .i64 g1_n)]) h = F_liverylaw13_version g0_rel g1_n h Q := by kernel_rfl
theorem O_liverylaw13_version (g0_rel : Int) (g1_n : Int) {h : Hp} {Q : List Value → Hp → Prop} (H : F_liverylaw13_version g0_rel g1_n h Q) : S_liverylaw13_version g0_rel g1_n h Q :=
  fn_of_cw (hs := (fun _ => [])) (ann := A_liverylaw13_version) (args := [(Value.int .i64 g0_rel), (Value.int .i64 g1_n)]) mixedPP Try.func8 (c := bodyOf Try.f8) (by kernel_rfl) (by kernel_rfl) (by kernel_rfl) (Eq.mpr (E_liverylaw13_version g0_rel g1_n h Q) H)
def F_siread_Table_Has (g0_t : Option Addr) (g1_xid : Int) (g2_x_0 : Int) (g2_x_1 : ByteArray) (g2_x_2 : Int) (g2_x_3 : ByteArray) (g2_x_4 : Int) (h : Hp) (Q : List Value → Hp → Prop) : Prop :=
wth (Array.push h (Obj.cells #[(Value.int .i64 g2_x_0), (Value.string g2_x_1), (Value.int .i64 g2_x_2), (Value.string g2_x_3), (Value.int .i64 g2_x_4)] T_siread_Thing)) fun h1 =>
(if (!(Option.isNone g0_t)) = true then (nilW g0_t fun a2 => ∃ r3 : Option Nat, rd h1 (Addr.add a2 2) = some (Value.map r3) ∧
    ∃ es4 : Array MapEntry, mapAt h1 r3 es4 ∧ KeysLike (Value.int .i64 g1_xid) es4 ∧ ∃ r5 : Option Nat, mgetD (Value.int .i64 g1_xid) es4 (Value.map none) = (Value.map r5) ∧
    ∃ n6 : Int, rd h1 (Addr.add (Addr.mk (Array.size h) 0 none) 0) = some (Value.int .i64 n6) ∧ ∃ s7 : ByteArray, rd h1 (Addr.add (Addr.mk (Array.size h) 0 none) 1) = some (Value.string s7) ∧ ∃ n8 : Int, rd h1 (Addr.add (Addr.mk (Array.size h) 0 none) 2) = some (Value.int .i64 n8) ∧ ∃ s9 : ByteArray, rd h1 (Addr.add (Addr.mk (Array.size h) 0 none) 3) = some (Value.string s9) ∧ ∃ n10 : Int, rd h1 (Addr.add (Addr.mk (Array.size h) 0 none) 4) = some (Value.int .i64 n10) ∧ ∃ es11 : Array MapEntry, mapAt h1 r5 es11 ∧ KeysLike (Value.agg #[(Value.int .i64 n6), (Value.string s7), (Value.int .i64 n8), (Value.string s9), (Value.int .i64 n10)]) es11 ∧ ∃ n12 : Int, mgetD (Value.agg #[(Value.int .i64 n6), (Value.string s7), (Value.int .i64 n8), (Value.string s9), (Value.int .i64 n10)]) es11 (Value.int .i64 (0 : Int)) = (Value.int .i64 n12) ∧
    Q [(Value.bool (decide (n12 > (0 : Int))))] h1) else
  (Q [(Value.bool false)] h1))
def A_siread_Table_Has : Ann := .nil
theorem E_siread_Table_Has (g0_t : Option Addr) (g1_xid : Int) (g2_x_0 : Int) (g2_x_1 : ByteArray) (g2_x_2 : Int) (g2_x_3 : ByteArray) (g2_x_4 : Int) (h : Hp) (Q : List Value → Hp → Prop) : cw PP 20 (fun _ => []) (bodyOf Try.f9) A_siread_Table_Has (finQ PP (Try.f9.results.toList) Q) (argFr [(Value.pointer g0_t), (Value.int .i64 g1_xid), (Value.agg #[(Value.int .i64 g2_x_0), (Value.string g2_x_1), (Value.int .i64 g2_x_2), (Value.string g2_x_3), (Value.int .i64 g2_x_4)])]) h = F_siread_Table_Has g0_t g1_xid g2_x_0 g2_x_1 g2_x_2 g2_x_3 g2_x_4 h Q := by kernel_rfl
theorem O_siread_Table_Has (g0_t : Option Addr) (g1_xid : Int) (g2_x_0 : Int) (g2_x_1 : ByteArray) (g2_x_2 : Int) (g2_x_3 : ByteArray) (g2_x_4 : Int) {h : Hp} {Q : List Value → Hp → Prop} (H : F_siread_Table_Has g0_t g1_xid g2_x_0 g2_x_1 g2_x_2 g2_x_3 g2_x_4 h Q) : S_siread_Table_Has g0_t g1_xid g2_x_0 g2_x_1 g2_x_2 g2_x_3 g2_x_4 h Q :=
  fn_of_cw (hs := (fun _ => [])) (ann := A_siread_Table_Has) (args := [(Value.pointer g0_t), (Value.int .i64 g1_xid), (Value.agg #[(Value.int .i64 g2_x_0), (Value.string g2_x_1), (Value.int .i64 g2_x_2), (Value.string g2_x_3), (Value.int .i64 g2_x_4)])]) mixedPP Try.func9 (c := bodyOf Try.f9) (by kernel_rfl) (by kernel_rfl) (by kernel_rfl) (Eq.mpr (E_siread_Table_Has g0_t g1_xid g2_x_0 g2_x_1 g2_x_2 g2_x_3 g2_x_4 h Q) H)
def F_siread_Table_Fine (g0_t : Option Addr) (h : Hp) (Q : List Value → Hp → Prop) : Prop :=
(if (Option.isNone g0_t) = true then
  (Q [(Value.int .i64 (0 : Int))] h) else
  (nilW g0_t fun a1 => ∃ n2 : Int, rd h (Addr.add a1 3) = some (Value.int .i64 n2) ∧
    Q [(Value.int .i64 n2)] h))
def A_siread_Table_Fine : Ann := .nil
theorem E_siread_Table_Fine (g0_t : Option Addr) (h : Hp) (Q : List Value → Hp → Prop) : cw PP 9 (fun _ => []) (bodyOf Try.f10) A_siread_Table_Fine (finQ PP (Try.f10.results.toList) Q) (argFr [(Value.pointer g0_t)]) h = F_siread_Table_Fine g0_t h Q := by kernel_rfl
theorem O_siread_Table_Fine (g0_t : Option Addr) {h : Hp} {Q : List Value → Hp → Prop} (H : F_siread_Table_Fine g0_t h Q) : S_siread_Table_Fine g0_t h Q :=
  fn_of_cw (hs := (fun _ => [])) (ann := A_siread_Table_Fine) (args := [(Value.pointer g0_t)]) mixedPP Try.func10 (c := bodyOf Try.f10) (by kernel_rfl) (by kernel_rfl) (by kernel_rfl) (Eq.mpr (E_siread_Table_Fine g0_t h Q) H)
def F_cmp_isNaN_int (g0_x : Int) (h : Hp) (Q : List Value → Hp → Prop) : Prop :=
Q [(Value.bool (g0_x != g0_x))] h
def A_cmp_isNaN_int : Ann := .nil
theorem E_cmp_isNaN_int (g0_x : Int) (h : Hp) (Q : List Value → Hp → Prop) : cw PP 6 (fun _ => []) (bodyOf Try.f51) A_cmp_isNaN_int (finQ PP (Try.f51.results.toList) Q) (argFr [(Value.int .i64 g0_x)]) h = F_cmp_isNaN_int g0_x h Q := by kernel_rfl
theorem O_cmp_isNaN_int (g0_x : Int) {h : Hp} {Q : List Value → Hp → Prop} (H : F_cmp_isNaN_int g0_x h Q) : S_cmp_isNaN_int g0_x h Q :=
  fn_of_cw (hs := (fun _ => [])) (ann := A_cmp_isNaN_int) (args := [(Value.int .i64 g0_x)]) mixedPP Try.func51 (c := bodyOf Try.f51) (by kernel_rfl) (by kernel_rfl) (by kernel_rfl) (Eq.mpr (E_cmp_isNaN_int g0_x h Q) H)
def F_siread_Table_owners (g0_t : Option Addr) (g1_such_f : Nat) (g1_such_c : Array Value) (h : Hp) (Q : List Value → Hp → Prop) : Prop :=
nilW g0_t fun a1 => ∃ r2 : Option Nat, rd h (Addr.add a1 2) = some (Value.map r2) ∧
∃ o3 : Obj, IterOf h r2 o3 ∧ wth (Array.push h o3) fun h4 =>
∀ X5 : List Value → Hp → Prop, (∀ l6 : Sl, ∀ h7 : Hp, ((Addr.off (Addr.mk (Array.size h) 0 none) = 0 ∧ ∃ o8 : Obj, h7[Addr.block (Addr.mk (Array.size h) 0 none)]? = some o8 ∧ IterGood h7 o8 ∧
      (IterEnd h7 o8 → S_slices_Sort_sint_int ⟨l6.a, l6.n, l6.c⟩ h7 fun (vs12 : List Value) (h13 : Hp) =>
        vs12 = [] ∧
        Q [(Value.slice l6.a l6.n l6.c)] h13) ∧
      ∀ (k9 v10 : Value) (o11 : Obj), IterStep h7 o8 k9 v10 o11 → wth (Array.setIfInBounds h7 (Addr.block (Addr.mk (Array.size h) 0 none)) o11) fun h14 =>
      (Addr.off (Addr.mk (Array.size h) 0 none) = 0 ∧ ∃ (m15 n16 : Nat) (q17 : Array Nat) (n18 : Nat) (es19 : Array MapEntry) (c20 : Nat) (e21 : MapEntry), h14[Addr.block (Addr.mk (Array.size h) 0 none)]? = some (.mapIter (some m15) n16 q17 c20) ∧ Array.back? q17 = some n18 ∧ h14[m15]? = some (.map es19 c20) ∧ Array.find? (fun x => x.born == n18) es19 = some e21 ∧ ∃ n22 : Int, e21.key = (Value.int .i64 n22) ∧ ∃ r23 : Option Nat, e21.val = (Value.map r23) ∧ ∃ o24 : Obj, IterOf h14 r23 o24 ∧ wth (Array.push h14 o24) fun h25 =>
        ∀ X26 : List Value → Hp → Prop, (∀ l27 : Sl, ∀ h28 : Hp, ((Addr.off (Addr.mk (Array.size h14) 0 none) = 0 ∧ ∃ o29 : Obj, h28[Addr.block (Addr.mk (Array.size h14) 0 none)]? = some o29 ∧ IterGood h28 o29 ∧
              (IterEnd h28 o29 → X5 [(Value.slice l27.a l27.n l27.c)] h28) ∧
              ∀ (k30 v31 : Value) (o32 : Obj), IterStep h28 o29 k30 v31 o32 → wth (Array.setIfInBounds h28 (Addr.block (Addr.mk (Array.size h14) 0 none)) o32) fun h33 =>
              (Addr.off (Addr.mk (Array.size h14) 0 none) = 0 ∧ ∃ (m34 n35 : Nat) (q36 : Array Nat) (n37 : Nat) (es38 : Array MapEntry) (c39 : Nat) (e40 : MapEntry), h33[Addr.block (Addr.mk (Array.size h14) 0 none)]? = some (.mapIter (some m34) n35 q36 c39) ∧ Array.back? q36 = some n37 ∧ h33[m34]? = some (.map es38 c39) ∧ Array.find? (fun x => x.born == n37) es38 = some e40 ∧ ∃ n41 : Int, ∃ s42 : ByteArray, ∃ n43 : Int, ∃ s44 : ByteArray, ∃ n45 : Int, e40.key = (Value.agg #[(Value.int .i64 n41), (Value.string s42), (Value.int .i64 n43), (Value.string s44), (Value.int .i64 n45)]) ∧ ∃ v46 : Value, e40.val = v46 ∧ wth (Array.push h33 (Obj.cells #[(Value.int .i64 (0 : Int)), (Value.string (ByteArray.mk #[])), (Value.int .i64 (0 : Int)), (Value.string (ByteArray.mk #[])), (Value.int .i64 (0 : Int))] T_siread_Thing)) fun h47 =>
                stOk h47 (Addr.mk (Array.size h33) 0 none) 5 ∧ wth (wrs h47 (Addr.mk (Array.size h33) 0 none) 0 [(Value.int .i64 n41), (Value.string s42), (Value.int .i64 n43), (Value.string s44), (Value.int .i64 n45)]) fun h48 =>
                ∃ n49 : Int, rd h48 (Addr.add (Addr.mk (Array.size h33) 0 none) 0) = some (Value.int .i64 n49) ∧ ∃ s50 : ByteArray, rd h48 (Addr.add (Addr.mk (Array.size h33) 0 none) 1) = some (Value.string s50) ∧ ∃ n51 : Int, rd h48 (Addr.add (Addr.mk (Array.size h33) 0 none) 2) = some (Value.int .i64 n51) ∧ ∃ s52 : ByteArray, rd h48 (Addr.add (Addr.mk (Array.size h33) 0 none) 3) = some (Value.string s52) ∧ ∃ n53 : Int, rd h48 (Addr.add (Addr.mk (Array.size h33) 0 none) 4) = some (Value.int .i64 n53) ∧ Fn PP g1_such_f ((#[] ++ #[(Value.agg #[(Value.int .i64 n49), (Value.string s50), (Value.int .i64 n51), (Value.string s52), (Value.int .i64 n53)])]) ++ g1_such_c) h48 fun (vs54 : List Value) (h55 : Hp) =>
                ∃ b56 : Bool, vs54 = [(Value.bool b56)] ∧
                (if b56 = true then
                  (wth (Array.push h55 (Obj.cells #[(Value.int .i64 n22)] T_int)) fun h57 =>
                    ∃ cs60 : List Value, cellsAt h57 (some (Addr.mk (Array.size h55) 0 none)) (1 * 1) cs60 ∧ appS PP T_int 8 1 h57 ⟨l27.a, l27.n, l27.c⟩ 1 cs60 fun (l58 : Sl) (h59 : Hp) =>
                    X5 [(Value.slice l58.a l58.n l58.c)] h59) else
                  (X26 [(Value.slice l27.a l27.n l27.c)] h55))))) → X26 [(Value.slice l27.a l27.n l27.c)] h28) →
        X26 [(Value.slice l6.a l6.n l6.c)] h25))) → X5 [(Value.slice l6.a l6.n l6.c)] h7) →
X5 [(Value.slice none 0 0)] h4
def A_siread_Table_owners : Ann := (.mk none ⟨[], []⟩ .nil (.mk none ⟨[], []⟩ .nil (.mk none ⟨[], []⟩ (.mk none ⟨[], []⟩ .nil (.mk none ⟨[], []⟩ (.mk none ⟨[1, 13], [(5, (.c .sl))]⟩ (.mk none ⟨[], []⟩ .nil (.mk none ⟨[], []⟩ .nil (.mk none ⟨[], []⟩ (.mk none ⟨[], []⟩ .nil (.mk none ⟨[], []⟩ .nil (.mk none ⟨[], []⟩ (.mk none ⟨[1, 6, 13, 20], [(5, (.c .sl))]⟩ .nil .nil) .nil))) .nil))) .nil) .nil)) .nil)))
theorem E_siread_Table_owners (g0_t : Option Addr) (g1_such_f : Nat) (g1_such_c : Array Value) (h : Hp) (Q : List Value → Hp → Prop) : cw PP 35 (fun d => if d = 16 then [(.c (.int .i64)), (.c .map)] else if d = 23 then [(.agg [(.int .i64), .str, (.int .i64), .str, (.int .i64)]), (.c .any)] else []) (bodyOf Try.f22) A_siread_Table_owners (finQ PP (Try.f22.results.toList) Q) (argFr [(Value.pointer g0_t), (Value.func (.func g1_such_f) #[] g1_such_c)]) h = F_siread_Table_owners g0_t g1_such_f g1_such_c h Q := by kernel_rfl
theorem O_siread_Table_owners (g0_t : Option Addr) (g1_such_f : Nat) (g1_such_c : Array Value) {h : Hp} {Q : List Value → Hp → Prop} (H : F_siread_Table_owners g0_t g1_such_f g1_such_c h Q) : S_siread_Table_owners g0_t g1_such_f g1_such_c h Q :=
  fn_of_cw (hs := (fun d => if d = 16 then [(.c (.int .i64)), (.c .map)] else if d = 23 then [(.agg [(.int .i64), .str, (.int .i64), .str, (.int .i64)]), (.c .any)] else [])) (ann := A_siread_Table_owners) (args := [(Value.pointer g0_t), (Value.func (.func g1_such_f) #[] g1_such_c)]) mixedPP Try.func22 (c := bodyOf Try.f22) (by kernel_rfl) (by kernel_rfl) (by kernel_rfl) (Eq.mpr (E_siread_Table_owners g0_t g1_such_f g1_such_c h Q) H)
def F_siread_Table_Owners (g0_t : Option Addr) (g1_x_0 : Int) (g1_x_1 : ByteArray) (g1_x_2 : Int) (g1_x_3 : ByteArray) (g1_x_4 : Int) (h : Hp) (Q : List Value → Hp → Prop) : Prop :=
wth (Array.push h (Obj.cells #[(Value.int .i64 g1_x_0), (Value.string g1_x_1), (Value.int .i64 g1_x_2), (Value.string g1_x_3), (Value.int .i64 g1_x_4)] T_siread_Thing)) fun h1 =>
(if (Option.isNone g0_t) = true then
  (Q [(Value.slice none 0 0)] h1) else
  (S_siread_Table_owners g0_t 23 #[(Value.pointer (some (Addr.mk (Array.size h) 0 none)))] h1 fun (vs2 : List Value) (h3 : Hp) =>
    ∃ l4 : Sl, vs2 = [(Value.slice l4.a l4.n l4.c)] ∧
    Q [(Value.slice l4.a l4.n l4.c)] h3))
def A_siread_Table_Owners : Ann := .nil
theorem E_siread_Table_Owners (g0_t : Option Addr) (g1_x_0 : Int) (g1_x_1 : ByteArray) (g1_x_2 : Int) (g1_x_3 : ByteArray) (g1_x_4 : Int) (h : Hp) (Q : List Value → Hp → Prop) : cw PP 10 (fun _ => []) (bodyOf Try.f11) A_siread_Table_Owners (finQ PP (Try.f11.results.toList) Q) (argFr [(Value.pointer g0_t), (Value.agg #[(Value.int .i64 g1_x_0), (Value.string g1_x_1), (Value.int .i64 g1_x_2), (Value.string g1_x_3), (Value.int .i64 g1_x_4)])]) h = F_siread_Table_Owners g0_t g1_x_0 g1_x_1 g1_x_2 g1_x_3 g1_x_4 h Q := by kernel_rfl
theorem O_siread_Table_Owners (g0_t : Option Addr) (g1_x_0 : Int) (g1_x_1 : ByteArray) (g1_x_2 : Int) (g1_x_3 : ByteArray) (g1_x_4 : Int) {h : Hp} {Q : List Value → Hp → Prop} (H : F_siread_Table_Owners g0_t g1_x_0 g1_x_1 g1_x_2 g1_x_3 g1_x_4 h Q) : S_siread_Table_Owners g0_t g1_x_0 g1_x_1 g1_x_2 g1_x_3 g1_x_4 h Q :=
  fn_of_cw (hs := (fun _ => [])) (ann := A_siread_Table_Owners) (args := [(Value.pointer g0_t), (Value.agg #[(Value.int .i64 g1_x_0), (Value.string g1_x_1), (Value.int .i64 g1_x_2), (Value.string g1_x_3), (Value.int .i64 g1_x_4)])]) mixedPP Try.func11 (c := bodyOf Try.f11) (by kernel_rfl) (by kernel_rfl) (by kernel_rfl) (Eq.mpr (E_siread_Table_Owners g0_t g1_x_0 g1_x_1 g1_x_2 g1_x_3 g1_x_4 h Q) H)
def F_liverykeep_Ints (g0_a : Sl) (g1_b : Sl) (h : Hp) (Q : List Value → Hp → Prop) : Prop :=
(if ((g0_a.n : Int) != (g1_b.n : Int)) = true then
  (Q [(Value.bool false)] h) else
  (∀ X1 : List Value → Hp → Prop, (∀ n2 : Int, ∀ h3 : Hp, ((if (decide (n2 < (g0_a.n : Int))) = true then
          (nilW g0_a.a fun a4 => ixOk n2 g0_a.n (∃ n5 : Int, rd h3 (Addr.add a4 (Int.toNat n2 * 1)) = some (Value.int .i64 n5) ∧
              nilW g1_b.a fun a6 => ixOk n2 g1_b.n (∃ n7 : Int, rd h3 (Addr.add a6 (Int.toNat n2 * 1)) = some (Value.int .i64 n7) ∧
                (if (n5 != n7) = true then
                  (Q [(Value.bool false)] h3) else
                  (X1 [(Value.int .i64 (IntKind.wrap .i64 (n2 + (1 : Int))))] h3))))) else
          (Q [(Value.bool true)] h3))) → X1 [(Value.int .i64 n2)] h3) →
    X1 [(Value.int .i64 (0 : Int))] h))
def A_liverykeep_Ints : Ann := (.mk none ⟨[], []⟩ .nil (.mk none ⟨[], []⟩ .nil (.mk none ⟨[], []⟩ (.mk none ⟨[], []⟩ .nil (.mk none ⟨[], []⟩ (.mk none ⟨[0, 1], [(5, (.c (.int .i64)))]⟩ .nil .nil) .nil)) .nil)))
theorem E_liverykeep_Ints (g0_a : Sl) (g1_b : Sl) (h : Hp) (Q : List Value → Hp → Prop) : cw PP 26 (fun _ => []) (bodyOf Try.f12) A_liverykeep_Ints (finQ PP (Try.f12.results.toList) Q) (argFr [(Value.slice g0_a.a g0_a.n g0_a.c), (Value.slice g1_b.a g1_b.n g1_b.c)]) h = F_liverykeep_Ints g0_a g1_b h Q := by kernel_rfl
theorem O_liverykeep_Ints (g0_a : Sl) (g1_b : Sl) {h : Hp} {Q : List Value → Hp → Prop} (H : F_liverykeep_Ints g0_a g1_b h Q) : S_liverykeep_Ints g0_a g1_b h Q :=
  fn_of_cw (hs := (fun _ => [])) (ann := A_liverykeep_Ints) (args := [(Value.slice g0_a.a g0_a.n g0_a.c), (Value.slice g1_b.a g1_b.n g1_b.c)]) mixedPP Try.func12 (c := bodyOf Try.f12) (by kernel_rfl) (by kernel_rfl) (by kernel_rfl) (Eq.mpr (E_liverykeep_Ints g0_a g1_b h Q) H)
def F_siread_Table_Rough (g0_t : Option Addr) (g1_rel : Int) (g2_to : Int) (h : Hp) (Q : List Value → Hp → Prop) : Prop :=
wth (Array.push h (Obj.cells #[(Value.int .i64 g1_rel)] T_int)) fun h1 =>
(if (Option.isNone g0_t) = true then
  (Q [] h1) else
  (S_siread_Table_owners g0_t 26 #[(Value.pointer (some (Addr.mk (Array.size h) 0 none)))] h1 fun (vs2 : List Value) (h3 : Hp) =>
    ∃ l4 : Sl, vs2 = [(Value.slice l4.a l4.n l4.c)] ∧
    ∀ X5 : List Value → Hp → Prop, (∀ n6 : Int, ∀ h7 : Hp, ((if (decide (n6 < (l4.n : Int))) = true then
          (nilW l4.a fun a8 => ixOk n6 l4.n (∃ n9 : Int, rd h7 (Addr.add a8 (Int.toNat n6 * 1)) = some (Value.int .i64 n9) ∧
              S_siread_Table_take g0_t n9 (2 : Int) (ByteArray.mk #[]) g2_to (ByteArray.mk #[]) (0 : Int) h7 fun (vs10 : List Value) (h11 : Hp) =>
              vs10 = [] ∧
              X5 [(Value.int .i64 (IntKind.wrap .i64 (n6 + (1 : Int))))] h11)) else
          (Q [] h7))) → X5 [(Value.int .i64 n6)] h7) →
    X5 [(Value.int .i64 (0 : Int))] h3))
def A_siread_Table_Rough : Ann := (.mk none ⟨[], []⟩ .nil (.mk none ⟨[], []⟩ .nil (.mk none ⟨[], []⟩ .nil (.mk none ⟨[], []⟩ (.mk none ⟨[0, 2, 12, 13], [(14, (.c (.int .i64)))]⟩ .nil .nil) .nil))))
theorem E_siread_Table_Rough (g0_t : Option Addr) (g1_rel : Int) (g2_to : Int) (h : Hp) (Q : List Value → Hp → Prop) : cw PP 24 (fun _ => []) (bodyOf Try.f13) A_siread_Table_Rough (finQ PP (Try.f13.results.toList) Q) (argFr [(Value.pointer g0_t), (Value.int .i64 g1_rel), (Value.int .i64 g2_to)]) h = F_siread_Table_Rough g0_t g1_rel g2_to h Q := by kernel_rfl
theorem O_siread_Table_Rough (g0_t : Option Addr) (g1_rel : Int) (g2_to : Int) {h : Hp} {Q : List Value → Hp → Prop} (H : F_siread_Table_Rough g0_t g1_rel g2_to h Q) : S_siread_Table_Rough g0_t g1_rel g2_to h Q :=
  fn_of_cw (hs := (fun _ => [])) (ann := A_siread_Table_Rough) (args := [(Value.pointer g0_t), (Value.int .i64 g1_rel), (Value.int .i64 g2_to)]) mixedPP Try.func13 (c := bodyOf Try.f13) (by kernel_rfl) (by kernel_rfl) (by kernel_rfl) (Eq.mpr (E_siread_Table_Rough g0_t g1_rel g2_to h Q) H)
def F_siread_Table_Old (g0_t : Option Addr) (h : Hp) (Q : List Value → Hp → Prop) : Prop :=
(if (Option.isNone g0_t) = true then
  (Q [(Value.int .i64 (0 : Int))] h) else
  (nilW g0_t fun a1 => ∃ n2 : Int, rd h (Addr.add a1 4) = some (Value.int .i64 n2) ∧
    Q [(Value.int .i64 n2)] h))
def A_siread_Table_Old : Ann := .nil
theorem E_siread_Table_Old (g0_t : Option Addr) (h : Hp) (Q : List Value → Hp → Prop) : cw PP 9 (fun _ => []) (bodyOf Try.f19) A_siread_Table_Old (finQ PP (Try.f19.results.toList) Q) (argFr [(Value.pointer g0_t)]) h = F_siread_Table_Old g0_t h Q := by kernel_rfl
theorem O_siread_Table_Old (g0_t : Option Addr) {h : Hp} {Q : List Value → Hp → Prop} (H : F_siread_Table_Old g0_t h Q) : S_siread_Table_Old g0_t h Q :=
  fn_of_cw (hs := (fun _ => [])) (ann := A_siread_Table_Old) (args := [(Value.pointer g0_t)]) mixedPP Try.func19 (c := bodyOf Try.f19) (by kernel_rfl) (by kernel_rfl) (by kernel_rfl) (Eq.mpr (E_siread_Table_Old g0_t h Q) H)
def F_siread_Table_Drop (g0_t : Option Addr) (g1_xid : Int) (h : Hp) (Q : List Value → Hp → Prop) : Prop :=
(if (Option.isNone g0_t) = true then
  (Q [] h) else
  (S_siread_Table_lose g0_t g1_xid 40 #[] h fun (vs1 : List Value) (h2 : Hp) =>
    vs1 = [] ∧
    nilW g0_t fun a3 => ∃ r4 : Option Nat, rd h2 (Addr.add a3 2) = some (Value.map r4) ∧
    ∃ (m5 : Nat) (es6 : Array MapEntry) (c7 : Nat), r4 = some m5 ∧ h2[m5]? = some (.map es6 c7) ∧ KeysLike (Value.int .i64 g1_xid) es6 ∧ wth (Array.setIfInBounds h2 m5 (mdel (Value.int .i64 g1_xid) es6 c7)) fun h8 =>
    (if (g1_xid == (0 : Int)) = true then
      (nilW g0_t fun a9 => stOk h8 (Addr.add a9 4) 1 ∧ wth (wrs h8 (Addr.add a9 4) 0 [(Value.int .i64 (0 : Int))]) fun h10 =>
        Q [] h10) else
      (Q [] h8))))
def A_siread_Table_Drop : Ann := .nil
theorem E_siread_Table_Drop (g0_t : Option Addr) (g1_xid : Int) (h : Hp) (Q : List Value → Hp → Prop) : cw PP 19 (fun _ => []) (bodyOf Try.f30) A_siread_Table_Drop (finQ PP (Try.f30.results.toList) Q) (argFr [(Value.pointer g0_t), (Value.int .i64 g1_xid)]) h = F_siread_Table_Drop g0_t g1_xid h Q := by kernel_rfl
theorem O_siread_Table_Drop (g0_t : Option Addr) (g1_xid : Int) {h : Hp} {Q : List Value → Hp → Prop} (H : F_siread_Table_Drop g0_t g1_xid h Q) : S_siread_Table_Drop g0_t g1_xid h Q :=
  fn_of_cw (hs := (fun _ => [])) (ann := A_siread_Table_Drop) (args := [(Value.pointer g0_t), (Value.int .i64 g1_xid)]) mixedPP Try.func30 (c := bodyOf Try.f30) (by kernel_rfl) (by kernel_rfl) (by kernel_rfl) (Eq.mpr (E_siread_Table_Drop g0_t g1_xid h Q) H)
def F_siread_Table_Fold (g0_t : Option Addr) (g1_xid : Int) (g2_csn : Int) (h : Hp) (Q : List Value → Hp → Prop) : Prop :=
∀ J1 : List Value → Hp → Prop, (∀ b2 : Bool, ∀ h3 : Hp, ((if b2 = true then
      (Q [] h3) else
      (S_siread_Table_Of g0_t g1_xid h3 fun (vs4 : List Value) (h5 : Hp) =>
        ∃ l6 : Sl, vs4 = [(Value.slice l6.a l6.n l6.c)] ∧
        S_siread_Table_Drop g0_t g1_xid h5 fun (vs7 : List Value) (h8 : Hp) =>
        vs7 = [] ∧
        ∀ X9 : List Value → Hp → Prop, (∀ n10 : Int, ∀ h11 : Hp, ((if (decide (n10 < (l6.n : Int))) = true then
              (nilW l6.a fun a12 => ixOk n10 l6.n (∃ n13 : Int, rd h11 (Addr.add (Addr.add a12 (Int.toNat n10 * 5)) 0) = some (Value.int .i64 n13) ∧ ∃ s14 : ByteArray, rd h11 (Addr.add (Addr.add a12 (Int.toNat n10 * 5)) 1) = some (Value.string s14) ∧ ∃ n15 : Int, rd h11 (Addr.add (Addr.add a12 (Int.toNat n10 * 5)) 2) = some (Value.int .i64 n15) ∧ ∃ s16 : ByteArray, rd h11 (Addr.add (Addr.add a12 (Int.toNat n10 * 5)) 3) = some (Value.string s16) ∧ ∃ n17 : Int, rd h11 (Addr.add (Addr.add a12 (Int.toNat n10 * 5)) 4) = some (Value.int .i64 n17) ∧ wth (Array.push h11 (Obj.cells #[(Value.int .i64 (0 : Int)), (Value.string (ByteArray.mk #[])), (Value.int .i64 (0 : Int)), (Value.string (ByteArray.mk #[])), (Value.int .i64 (0 : Int))] T_siread_Thing)) fun h18 =>
                  stOk h18 (Addr.mk (Array.size h11) 0 none) 5 ∧ wth (wrs h18 (Addr.mk (Array.size h11) 0 none) 0 [(Value.int .i64 n13), (Value.string s14), (Value.int .i64 n15), (Value.string s16), (Value.int .i64 n17)]) fun h19 =>
                  ∃ n20 : Int, rd h19 (Addr.add (Addr.mk (Array.size h11) 0 none) 0) = some (Value.int .i64 n20) ∧ ∃ s21 : ByteArray, rd h19 (Addr.add (Addr.mk (Array.size h11) 0 none) 1) = some (Value.string s21) ∧ ∃ n22 : Int, rd h19 (Addr.add (Addr.mk (Array.size h11) 0 none) 2) = some (Value.int .i64 n22) ∧ ∃ s23 : ByteArray, rd h19 (Addr.add (Addr.mk (Array.size h11) 0 none) 3) = some (Value.string s23) ∧ ∃ n24 : Int, rd h19 (Addr.add (Addr.mk (Array.size h11) 0 none) 4) = some (Value.int .i64 n24) ∧ S_siread_Table_take g0_t (0 : Int) n20 s21 n22 s23 n24 h19 fun (vs25 : List Value) (h26 : Hp) =>
                  vs25 = [] ∧
                  X9 [(Value.int .i64 (IntKind.wrap .i64 (n10 + (1 : Int))))] h26)) else
              (nilW g0_t fun a27 => ∃ n28 : Int, rd h11 (Addr.add a27 4) = some (Value.int .i64 n28) ∧
                nilW g0_t fun a29 => stOk h11 (Addr.add a29 4) 1 ∧ wth (wrs h11 (Addr.add a29 4) 0 [(Value.int .i64 (mxI n28 g2_csn))]) fun h30 =>
                Q [] h30))) → X9 [(Value.int .i64 n10)] h11) →
        X9 [(Value.int .i64 (0 : Int))] h8))) → J1 [(Value.bool b2)] h3) →
(if (Option.isNone g0_t) = true then (J1 [(Value.bool true)] h) else
  (S_siread_one g1_xid h fun (vs31 : List Value) (h32 : Hp) =>
    ∃ b33 : Bool, vs31 = [(Value.bool b33)] ∧
    J1 [(Value.bool (!b33))] h32))
def A_siread_Table_Fold : Ann := (.mk none ⟨[], []⟩ (.mk none ⟨[], []⟩ (.mk (some ⟨[0, 1, 2], [(15, (.c .bool))]⟩) ⟨[], []⟩ .nil .nil) .nil) (.mk none ⟨[], []⟩ .nil (.mk none ⟨[], []⟩ .nil (.mk none ⟨[], []⟩ (.mk none ⟨[], []⟩ .nil (.mk none ⟨[], []⟩ (.mk none ⟨[0, 2, 22, 23], [(24, (.c (.int .i64)))]⟩ .nil .nil) .nil)) .nil))))
theorem E_siread_Table_Fold (g0_t : Option Addr) (g1_xid : Int) (g2_csn : Int) (h : Hp) (Q : List Value → Hp → Prop) : cw PP 41 (fun _ => []) (bodyOf Try.f27) A_siread_Table_Fold (finQ PP (Try.f27.results.toList) Q) (argFr [(Value.pointer g0_t), (Value.int .i64 g1_xid), (Value.int .i64 g2_csn)]) h = F_siread_Table_Fold g0_t g1_xid g2_csn h Q := by kernel_rfl
theorem O_siread_Table_Fold (g0_t : Option Addr) (g1_xid : Int) (g2_csn : Int) {h : Hp} {Q : List Value → Hp → Prop} (H : F_siread_Table_Fold g0_t g1_xid g2_csn h Q) : S_siread_Table_Fold g0_t g1_xid g2_csn h Q :=
  fn_of_cw (hs := (fun _ => [])) (ann := A_siread_Table_Fold) (args := [(Value.pointer g0_t), (Value.int .i64 g1_xid), (Value.int .i64 g2_csn)]) mixedPP Try.func27 (c := bodyOf Try.f27) (by kernel_rfl) (by kernel_rfl) (by kernel_rfl) (Eq.mpr (E_siread_Table_Fold g0_t g1_xid g2_csn h Q) H)
def F_liverylaw13_wakes (h : Hp) (Q : List Value → Hp → Prop) : Prop :=
S_siread_New (2 : Int) (9 : Int) h fun (vs1 : List Value) (h2 : Hp) =>
∃ p3 : Option Addr, ∃ n4 : Int, vs1 = [(Value.pointer p3), (Value.int .i64 n4)] ∧
∀ J5 : List Value → Hp → Prop, (∀ b6 : Bool, ∀ h7 : Hp, ((if b6 = true then
      (Q [(Value.bool false)] h7) else
      (S_liverylaw13_version (3 : Int) (1 : Int) h7 fun (vs8 : List Value) (h9 : Hp) =>
        ∃ n10 : Int, ∃ s11 : ByteArray, ∃ n12 : Int, ∃ s13 : ByteArray, ∃ n14 : Int, vs8 = [(Value.agg #[(Value.int .i64 n10), (Value.string s11), (Value.int .i64 n12), (Value.string s13), (Value.int .i64 n14)])] ∧
        S_siread_Table_Take p3 (1 : Int) n10 s11 n12 s13 n14 h9 fun (vs15 : List Value) (h16 : Hp) =>
        ∃ n17 : Int, vs15 = [(Value.int .i64 n17)] ∧
        S_liverylaw13_version (3 : Int) (2 : Int) h16 fun (vs18 : List Value) (h19 : Hp) =>
        ∃ n20 : Int, ∃ s21 : ByteArray, ∃ n22 : Int, ∃ s23 : ByteArray, ∃ n24 : Int, vs18 = [(Value.agg #[(Value.int .i64 n20), (Value.string s21), (Value.int .i64 n22), (Value.string s23), (Value.int .i64 n24)])] ∧
        S_siread_Table_Take p3 (1 : Int) n20 s21 n22 s23 n24 h19 fun (vs25 : List Value) (h26 : Hp) =>
        ∃ n27 : Int, vs25 = [(Value.int .i64 n27)] ∧
        S_siread_Table_Fine p3 h26 fun (vs28 : List Value) (h29 : Hp) =>
        ∃ n30 : Int, vs28 = [(Value.int .i64 n30)] ∧
        S_liverylaw13_version (3 : Int) (5 : Int) h29 fun (vs31 : List Value) (h32 : Hp) =>
        ∃ n33 : Int, ∃ s34 : ByteArray, ∃ n35 : Int, ∃ s36 : ByteArray, ∃ n37 : Int, vs31 = [(Value.agg #[(Value.int .i64 n33), (Value.string s34), (Value.int .i64 n35), (Value.string s36), (Value.int .i64 n37)])] ∧
        S_siread_Table_Take p3 (1 : Int) n33 s34 n35 s36 n37 h32 fun (vs38 : List Value) (h39 : Hp) =>
        ∃ n40 : Int, vs38 = [(Value.int .i64 n40)] ∧
        S_siread_Table_Fold p3 (1 : Int) (7 : Int) h39 fun (vs41 : List Value) (h42 : Hp) =>
        vs41 = [] ∧
        (if (n30 == (2 : Int)) = true then (S_siread_Table_Fine p3 h42 fun (vs43 : List Value) (h44 : Hp) =>
            ∃ n45 : Int, vs43 = [(Value.int .i64 n45)] ∧
            (if (n45 == (0 : Int)) = true then (S_siread_Table_Has p3 (0 : Int) (2 : Int) (ByteArray.mk #[]) (3 : Int) (ByteArray.mk #[]) (0 : Int) h44 fun (vs46 : List Value) (h47 : Hp) =>
                ∃ b48 : Bool, vs46 = [(Value.bool b48)] ∧
                (if b48 = true then (S_liverylaw13_version (3 : Int) (9 : Int) h47 fun (vs49 : List Value) (h50 : Hp) =>
                    ∃ n51 : Int, ∃ s52 : ByteArray, ∃ n53 : Int, ∃ s54 : ByteArray, ∃ n55 : Int, vs49 = [(Value.agg #[(Value.int .i64 n51), (Value.string s52), (Value.int .i64 n53), (Value.string s54), (Value.int .i64 n55)])] ∧
                    S_siread_Table_Owners p3 n51 s52 n53 s54 n55 h50 fun (vs56 : List Value) (h57 : Hp) =>
                    ∃ l58 : Sl, vs56 = [(Value.slice l58.a l58.n l58.c)] ∧
                    wth (Array.push h57 (Obj.cells #[(Value.int .i64 (0 : Int))] T_int)) fun h59 =>
                    S_liverykeep_Ints ⟨l58.a, l58.n, l58.c⟩ ⟨(some (Addr.mk (Array.size h57) 0 none)), 1, 1⟩ h59 fun (vs60 : List Value) (h61 : Hp) =>
                    ∃ b62 : Bool, vs60 = [(Value.bool b62)] ∧
                    (if b62 = true then (S_siread_Table_Old p3 h61 fun (vs63 : List Value) (h64 : Hp) =>
                        ∃ n65 : Int, vs63 = [(Value.int .i64 n65)] ∧
                        Q [(Value.bool (n65 == (7 : Int)))] h64) else
                      (Q [(Value.bool false)] h61))) else
                  (Q [(Value.bool false)] h47))) else
              (Q [(Value.bool false)] h44))) else
          (Q [(Value.bool false)] h42))))) → J5 [(Value.bool b6)] h7) →
(if (n4 != (0 : Int)) = true then (J5 [(Value.bool true)] h2) else
  (J5 [(Value.bool (Option.isNone p3))] h2))
def A_liverylaw13_wakes : Ann := (.mk none ⟨[], []⟩ .nil (.mk none ⟨[], []⟩ .nil (.mk none ⟨[], []⟩ (.mk none ⟨[], []⟩ (.mk (some ⟨[1], [(13, (.c .bool))]⟩) ⟨[], []⟩ .nil .nil) .nil) .nil)))
theorem E_liverylaw13_wakes (h : Hp) (Q : List Value → Hp → Prop) : cw PP 51 (fun _ => []) (bodyOf Try.f14) A_liverylaw13_wakes (finQ PP (Try.f14.results.toList) Q) (argFr []) h = F_liverylaw13_wakes h Q := by kernel_rfl
theorem O_liverylaw13_wakes {h : Hp} {Q : List Value → Hp → Prop} (H : F_liverylaw13_wakes h Q) : S_liverylaw13_wakes h Q :=
  fn_of_cw (hs := (fun _ => [])) (ann := A_liverylaw13_wakes) (args := []) mixedPP Try.func14 (c := bodyOf Try.f14) (by kernel_rfl) (by kernel_rfl) (by kernel_rfl) (Eq.mpr (E_liverylaw13_wakes h Q) H)
def F_liverylaw13_SireadRough (g0_each : Int) (g1_n : Int) (g2_other : Int) (h : Hp) (Q : List Value → Hp → Prop) : Prop :=
divOk (8 : Int) (divOk (12 : Int) (S_siread_New (IntKind.wrap .i64 ((1 : Int) + (Int.tmod (IntKind.wrap .i64 g0_each) (8 : Int)))) (100 : Int) h fun (vs1 : List Value) (h2 : Hp) =>
    ∃ p3 : Option Addr, ∃ n4 : Int, vs1 = [(Value.pointer p3), (Value.int .i64 n4)] ∧
    (if (n4 != (0 : Int)) = true then
      (Q [(Value.bool false)] h2) else
      (∀ X5 : List Value → Hp → Prop, (∀ n6 : Int, ∀ h7 : Hp, ((if (decide (n6 < (Int.tmod (IntKind.wrap .i64 g1_n) (12 : Int)))) = true then
              (S_liverylaw13_version (5 : Int) n6 h7 fun (vs8 : List Value) (h9 : Hp) =>
                ∃ n10 : Int, ∃ s11 : ByteArray, ∃ n12 : Int, ∃ s13 : ByteArray, ∃ n14 : Int, vs8 = [(Value.agg #[(Value.int .i64 n10), (Value.string s11), (Value.int .i64 n12), (Value.string s13), (Value.int .i64 n14)])] ∧
                S_siread_Table_Take p3 (3 : Int) n10 s11 n12 s13 n14 h9 fun (vs15 : List Value) (h16 : Hp) =>
                ∃ n17 : Int, vs15 = [(Value.int .i64 n17)] ∧
                (if (n17 != (0 : Int)) = true then
                  (Q [(Value.bool false)] h16) else
                  (X5 [(Value.int .i64 (IntKind.wrap .i64 (n6 + (1 : Int))))] h16))) else
              (wth (Array.push h7 (Obj.cells #[(Value.int .i64 (0 : Int)), (Value.string (ByteArray.mk #[])), (Value.int .i64 (0 : Int)), (Value.string (ByteArray.mk #[])), (Value.int .i64 (0 : Int))] T_siread_Thing)) fun h18 =>
                stOk h18 (Addr.mk (Array.size h7) 0 none) 5 ∧ wth (wrs h18 (Addr.mk (Array.size h7) 0 none) 0 [(Value.int .i64 (2 : Int)), (Value.string (ByteArray.mk #[])), (Value.int .i64 (5 : Int)), (Value.string (ByteArray.mk #[])), (Value.int .i64 (0 : Int))]) fun h19 =>
                ∀ J20 : List Value → Hp → Prop, (∀ b21 : Bool, ∀ h22 : Hp, ((if b21 = true then
                      (Q [(Value.bool false)] h22) else
                      (∀ X23 : List Value → Hp → Prop, (∀ n24 : Int, ∀ h25 : Hp, ((if (decide (n24 < (Int.tmod (IntKind.wrap .i64 g1_n) (12 : Int)))) = true then
                              (S_liverylaw13_version (5 : Int) n24 h25 fun (vs26 : List Value) (h27 : Hp) =>
                                ∃ n28 : Int, ∃ s29 : ByteArray, ∃ n30 : Int, ∃ s31 : ByteArray, ∃ n32 : Int, vs26 = [(Value.agg #[(Value.int .i64 n28), (Value.string s29), (Value.int .i64 n30), (Value.string s31), (Value.int .i64 n32)])] ∧
                                S_siread_Table_Owners p3 n28 s29 n30 s31 n32 h27 fun (vs33 : List Value) (h34 : Hp) =>
                                ∃ l35 : Sl, vs33 = [(Value.slice l35.a l35.n l35.c)] ∧
                                wth (Array.push h34 (Obj.cells #[(Value.int .i64 (3 : Int))] T_int)) fun h36 =>
                                S_liverykeep_Ints ⟨l35.a, l35.n, l35.c⟩ ⟨(some (Addr.mk (Array.size h34) 0 none)), 1, 1⟩ h36 fun (vs37 : List Value) (h38 : Hp) =>
                                ∃ b39 : Bool, vs37 = [(Value.bool b39)] ∧
                                (if (!b39) = true then
                                  (Q [(Value.bool false)] h38) else
                                  (X23 [(Value.int .i64 (IntKind.wrap .i64 (n24 + (1 : Int))))] h38))) else
                              (S_siread_Table_Rough p3 (5 : Int) (IntKind.wrap .i64 ((6 : Int) + (IntKind.wrap .i64 g2_other))) h25 fun (vs40 : List Value) (h41 : Hp) =>
                                vs40 = [] ∧
                                S_siread_Table_Has p3 (3 : Int) (2 : Int) (ByteArray.mk #[]) (IntKind.wrap .i64 ((6 : Int) + (IntKind.wrap .i64 g2_other))) (ByteArray.mk #[]) (0 : Int) h41 fun (vs42 : List Value) (h43 : Hp) =>
                                ∃ b44 : Bool, vs42 = [(Value.bool b44)] ∧
                                (if (b44 == (decide ((Int.tmod (IntKind.wrap .i64 g1_n) (12 : Int)) > (0 : Int)))) = true then (∃ n45 : Int, rd h43 (Addr.add (Addr.mk (Array.size h7) 0 none) 0) = some (Value.int .i64 n45) ∧ ∃ s46 : ByteArray, rd h43 (Addr.add (Addr.mk (Array.size h7) 0 none) 1) = some (Value.string s46) ∧ ∃ n47 : Int, rd h43 (Addr.add (Addr.mk (Array.size h7) 0 none) 2) = some (Value.int .i64 n47) ∧ ∃ s48 : ByteArray, rd h43 (Addr.add (Addr.mk (Array.size h7) 0 none) 3) = some (Value.string s48) ∧ ∃ n49 : Int, rd h43 (Addr.add (Addr.mk (Array.size h7) 0 none) 4) = some (Value.int .i64 n49) ∧ S_siread_Table_Has p3 (3 : Int) n45 s46 n47 s48 n49 h43 fun (vs50 : List Value) (h51 : Hp) =>
                                    ∃ b52 : Bool, vs50 = [(Value.bool b52)] ∧
                                    (if (b52 == (decide ((Int.tmod (IntKind.wrap .i64 g1_n) (12 : Int)) > (IntKind.wrap .i64 ((1 : Int) + (Int.tmod (IntKind.wrap .i64 g0_each) (8 : Int))))))) = true then (S_liverylaw13_wakes  h51 fun (vs53 : List Value) (h54 : Hp) =>
                                        ∃ b55 : Bool, vs53 = [(Value.bool b55)] ∧
                                        Q [(Value.bool b55)] h54) else
                                      (Q [(Value.bool false)] h51))) else
                                  (Q [(Value.bool false)] h43))))) → X23 [(Value.int .i64 n24)] h25) →
                        X23 [(Value.int .i64 (0 : Int))] h22))) → J20 [(Value.bool b21)] h22) →
                ∃ n56 : Int, rd h19 (Addr.add (Addr.mk (Array.size h7) 0 none) 0) = some (Value.int .i64 n56) ∧ ∃ s57 : ByteArray, rd h19 (Addr.add (Addr.mk (Array.size h7) 0 none) 1) = some (Value.string s57) ∧ ∃ n58 : Int, rd h19 (Addr.add (Addr.mk (Array.size h7) 0 none) 2) = some (Value.int .i64 n58) ∧ ∃ s59 : ByteArray, rd h19 (Addr.add (Addr.mk (Array.size h7) 0 none) 3) = some (Value.string s59) ∧ ∃ n60 : Int, rd h19 (Addr.add (Addr.mk (Array.size h7) 0 none) 4) = some (Value.int .i64 n60) ∧ S_siread_Table_Has p3 (3 : Int) n56 s57 n58 s59 n60 h19 fun (vs61 : List Value) (h62 : Hp) =>
                ∃ b63 : Bool, vs61 = [(Value.bool b63)] ∧
                (if (!(b63 == (decide ((Int.tmod (IntKind.wrap .i64 g1_n) (12 : Int)) > (IntKind.wrap .i64 ((1 : Int) + (Int.tmod (IntKind.wrap .i64 g0_each) (8 : Int)))))))) = true then (J20 [(Value.bool true)] h62) else
                  (S_siread_Table_Fine p3 h62 fun (vs64 : List Value) (h65 : Hp) =>
                    ∃ n66 : Int, vs64 = [(Value.int .i64 n66)] ∧
                    (if (decide ((Int.tmod (IntKind.wrap .i64 g1_n) (12 : Int)) > (IntKind.wrap .i64 ((1 : Int) + (Int.tmod (IntKind.wrap .i64 g0_each) (8 : Int)))))) = true then ((if (!((n66 == (0 : Int)) == true)) = true then (J20 [(Value.bool true)] h65) else
                          (S_liverylaw13_version (5 : Int) (77 : Int) h65 fun (vs67 : List Value) (h68 : Hp) =>
                            ∃ n69 : Int, ∃ s70 : ByteArray, ∃ n71 : Int, ∃ s72 : ByteArray, ∃ n73 : Int, vs67 = [(Value.agg #[(Value.int .i64 n69), (Value.string s70), (Value.int .i64 n71), (Value.string s72), (Value.int .i64 n73)])] ∧
                            S_siread_Table_Owners p3 n69 s70 n71 s72 n73 h68 fun (vs74 : List Value) (h75 : Hp) =>
                            ∃ l76 : Sl, vs74 = [(Value.slice l76.a l76.n l76.c)] ∧
                            J20 [(Value.bool (!((decide ((l76.n : Int) > (0 : Int))) == (decide ((Int.tmod (IntKind.wrap .i64 g1_n) (12 : Int)) > (IntKind.wrap .i64 ((1 : Int) + (Int.tmod (IntKind.wrap .i64 g0_each) (8 : Int)))))))))] h75))) else
                      ((if (!((n66 == (0 : Int)) == ((Int.tmod (IntKind.wrap .i64 g1_n) (12 : Int)) == (0 : Int)))) = true then (J20 [(Value.bool true)] h65) else
                          (S_liverylaw13_version (5 : Int) (77 : Int) h65 fun (vs77 : List Value) (h78 : Hp) =>
                            ∃ n79 : Int, ∃ s80 : ByteArray, ∃ n81 : Int, ∃ s82 : ByteArray, ∃ n83 : Int, vs77 = [(Value.agg #[(Value.int .i64 n79), (Value.string s80), (Value.int .i64 n81), (Value.string s82), (Value.int .i64 n83)])] ∧
                            S_siread_Table_Owners p3 n79 s80 n81 s82 n83 h78 fun (vs84 : List Value) (h85 : Hp) =>
                            ∃ l86 : Sl, vs84 = [(Value.slice l86.a l86.n l86.c)] ∧
                            J20 [(Value.bool (!((decide ((l86.n : Int) > (0 : Int))) == (decide ((Int.tmod (IntKind.wrap .i64 g1_n) (12 : Int)) > (IntKind.wrap .i64 ((1 : Int) + (Int.tmod (IntKind.wrap .i64 g0_each) (8 : Int)))))))))] h85))))))))) → X5 [(Value.int .i64 n6)] h7) →
        X5 [(Value.int .i64 (0 : Int))] h2))))
def A_liverylaw13_SireadRough : Ann := (.mk none ⟨[], []⟩ .nil (.mk none ⟨[], []⟩ .nil (.mk none ⟨[], []⟩ .nil (.mk none ⟨[], []⟩ .nil (.mk none ⟨[], []⟩ (.mk none ⟨[], []⟩ .nil (.mk none ⟨[], []⟩ (.mk none ⟨[2, 7, 8, 9], [(11, (.c (.int .i64)))]⟩ .nil .nil) .nil)) (.mk none ⟨[], []⟩ .nil (.mk none ⟨[], []⟩ (.mk none ⟨[], []⟩ (.mk (some ⟨[2, 7, 8, 9, 12], [(70, (.c .bool))]⟩) ⟨[], []⟩ .nil .nil) .nil) (.mk none ⟨[], []⟩ (.mk none ⟨[], []⟩ .nil (.mk none ⟨[], []⟩ (.mk none ⟨[2, 7, 8, 9, 12], [(13, (.c (.int .i64)))]⟩ .nil .nil) .nil)) .nil))))))))
theorem E_liverylaw13_SireadRough (g0_each : Int) (g1_n : Int) (g2_other : Int) (h : Hp) (Q : List Value → Hp → Prop) : cw PP 108 (fun _ => []) (bodyOf Try.f3) A_liverylaw13_SireadRough (finQ PP (Try.f3.results.toList) Q) (argFr [(Value.int .u8 g0_each), (Value.int .u8 g1_n), (Value.int .u8 g2_other)]) h = F_liverylaw13_SireadRough g0_each g1_n g2_other h Q := by kernel_rfl
theorem O_liverylaw13_SireadRough (g0_each : Int) (g1_n : Int) (g2_other : Int) {h : Hp} {Q : List Value → Hp → Prop} (H : F_liverylaw13_SireadRough g0_each g1_n g2_other h Q) : S_liverylaw13_SireadRough g0_each g1_n g2_other h Q :=
  fn_of_cw (hs := (fun _ => [])) (ann := A_liverylaw13_SireadRough) (args := [(Value.int .u8 g0_each), (Value.int .u8 g1_n), (Value.int .u8 g2_other)]) mixedPP Try.func3 (c := bodyOf Try.f3) (by kernel_rfl) (by kernel_rfl) (by kernel_rfl) (Eq.mpr (E_liverylaw13_SireadRough g0_each g1_n g2_other h Q) H)
def F_liverylaw13_Fair (g0_l : Sl) (h : Hp) (Q : List Value → Hp → Prop) : Prop :=
∀ X1 : List Value → Hp → Prop, (∀ n2 : Int, ∀ h3 : Hp, ((if (decide (n2 < (g0_l.n : Int))) = true then
      (∀ J4 : List Value → Hp → Prop, (∀ b5 : Bool, ∀ h6 : Hp, ((if b5 = true then
              (Q [(Value.bool false)] h6) else
              (X1 [(Value.int .i64 (IntKind.wrap .i64 (n2 + (1 : Int))))] h6))) → J4 [(Value.bool b5)] h6) →
        nilW g0_l.a fun a7 => ixOk n2 g0_l.n (∃ s8 : ByteArray, rd h3 (Addr.add (Addr.add (Addr.add a7 (Int.toNat n2 * 13)) 3) 1) = some (Value.string s8) ∧
          (if (decide ((ByteArray.size s8 : Int) > (100 : Int))) = true then (J4 [(Value.bool true)] h3) else
            (nilW g0_l.a fun a9 => ixOk n2 g0_l.n (∃ s10 : ByteArray, rd h3 (Addr.add (Addr.add (Addr.add a9 (Int.toNat n2 * 13)) 3) 3) = some (Value.string s10) ∧
                (if (decide ((ByteArray.size s10 : Int) > (100 : Int))) = true then (J4 [(Value.bool true)] h3) else
                  (nilW g0_l.a fun a11 => ixOk n2 g0_l.n (∃ s12 : ByteArray, rd h3 (Addr.add (Addr.add (Addr.add a11 (Int.toNat n2 * 13)) 8) 1) = some (Value.string s12) ∧
                      (if (decide ((ByteArray.size s12 : Int) > (100 : Int))) = true then (J4 [(Value.bool true)] h3) else
                        (nilW g0_l.a fun a13 => ixOk n2 g0_l.n (∃ s14 : ByteArray, rd h3 (Addr.add (Addr.add (Addr.add a13 (Int.toNat n2 * 13)) 8) 3) = some (Value.string s14) ∧
                            J4 [(Value.bool (decide ((ByteArray.size s14 : Int) > (100 : Int))))] h3))))))))))) else
      (Q [(Value.bool (decide ((g0_l.n : Int) ≤ (150 : Int))))] h3))) → X1 [(Value.int .i64 n2)] h3) →
X1 [(Value.int .i64 (0 : Int))] h
def A_liverylaw13_Fair : Ann := (.mk none ⟨[], []⟩ .nil (.mk none ⟨[], []⟩ (.mk none ⟨[], []⟩ .nil (.mk none ⟨[], []⟩ (.mk none ⟨[0], [(3, (.c (.int .i64)))]⟩ (.mk none ⟨[], []⟩ .nil (.mk none ⟨[], []⟩ (.mk none ⟨[], []⟩ (.mk none ⟨[], []⟩ (.mk (some ⟨[0, 3], [(47, (.c .bool))]⟩) ⟨[], []⟩ .nil .nil) .nil) .nil) .nil)) .nil) .nil)) .nil))
theorem E_liverylaw13_Fair (g0_l : Sl) (h : Hp) (Q : List Value → Hp → Prop) : cw PP 51 (fun _ => []) (bodyOf Try.f15) A_liverylaw13_Fair (finQ PP (Try.f15.results.toList) Q) (argFr [(Value.slice g0_l.a g0_l.n g0_l.c)]) h = F_liverylaw13_Fair g0_l h Q := by kernel_rfl
theorem O_liverylaw13_Fair (g0_l : Sl) {h : Hp} {Q : List Value → Hp → Prop} (H : F_liverylaw13_Fair g0_l h Q) : S_liverylaw13_Fair g0_l h Q :=
  fn_of_cw (hs := (fun _ => [])) (ann := A_liverylaw13_Fair) (args := [(Value.slice g0_l.a g0_l.n g0_l.c)]) mixedPP Try.func15 (c := bodyOf Try.f15) (by kernel_rfl) (by kernel_rfl) (by kernel_rfl) (Eq.mpr (E_liverylaw13_Fair g0_l h Q) H)
def F_siread_Table_Copy (g0_t : Option Addr) (g1_from_0 : Int) (g1_from_1 : ByteArray) (g1_from_2 : Int) (g1_from_3 : ByteArray) (g1_from_4 : Int) (g2_to_0 : Int) (g2_to_1 : ByteArray) (g2_to_2 : Int) (g2_to_3 : ByteArray) (g2_to_4 : Int) (h : Hp) (Q : List Value → Hp → Prop) : Prop :=
wth (Array.push h (Obj.cells #[(Value.int .i64 g1_from_0), (Value.string g1_from_1), (Value.int .i64 g1_from_2), (Value.string g1_from_3), (Value.int .i64 g1_from_4)] T_siread_Thing)) fun h1 =>
wth (Array.push h1 (Obj.cells #[(Value.int .i64 g2_to_0), (Value.string g2_to_1), (Value.int .i64 g2_to_2), (Value.string g2_to_3), (Value.int .i64 g2_to_4)] T_siread_Thing)) fun h2 =>
(if (Option.isNone g0_t) = true then
  (Q [] h2) else
  (S_siread_Table_owners g0_t 38 #[(Value.pointer (some (Addr.mk (Array.size h) 0 none)))] h2 fun (vs3 : List Value) (h4 : Hp) =>
    ∃ l5 : Sl, vs3 = [(Value.slice l5.a l5.n l5.c)] ∧
    ∀ X6 : List Value → Hp → Prop, (∀ n7 : Int, ∀ h8 : Hp, ((if (decide (n7 < (l5.n : Int))) = true then
          (nilW l5.a fun a9 => ixOk n7 l5.n (∃ n10 : Int, rd h8 (Addr.add a9 (Int.toNat n7 * 1)) = some (Value.int .i64 n10) ∧
              ∃ n11 : Int, rd h8 (Addr.add (Addr.mk (Array.size h1) 0 none) 0) = some (Value.int .i64 n11) ∧ ∃ s12 : ByteArray, rd h8 (Addr.add (Addr.mk (Array.size h1) 0 none) 1) = some (Value.string s12) ∧ ∃ n13 : Int, rd h8 (Addr.add (Addr.mk (Array.size h1) 0 none) 2) = some (Value.int .i64 n13) ∧ ∃ s14 : ByteArray, rd h8 (Addr.add (Addr.mk (Array.size h1) 0 none) 3) = some (Value.string s14) ∧ ∃ n15 : Int, rd h8 (Addr.add (Addr.mk (Array.size h1) 0 none) 4) = some (Value.int .i64 n15) ∧ S_siread_Table_take g0_t n10 n11 s12 n13 s14 n15 h8 fun (vs16 : List Value) (h17 : Hp) =>
              vs16 = [] ∧
              X6 [(Value.int .i64 (IntKind.wrap .i64 (n7 + (1 : Int))))] h17)) else
          (Q [] h8))) → X6 [(Value.int .i64 n7)] h8) →
    X6 [(Value.int .i64 (0 : Int))] h4))
def A_siread_Table_Copy : Ann := (.mk none ⟨[], []⟩ .nil (.mk none ⟨[], []⟩ .nil (.mk none ⟨[], []⟩ .nil (.mk none ⟨[], []⟩ (.mk none ⟨[0, 5, 12, 13], [(14, (.c (.int .i64)))]⟩ .nil .nil) .nil))))
theorem E_siread_Table_Copy (g0_t : Option Addr) (g1_from_0 : Int) (g1_from_1 : ByteArray) (g1_from_2 : Int) (g1_from_3 : ByteArray) (g1_from_4 : Int) (g2_to_0 : Int) (g2_to_1 : ByteArray) (g2_to_2 : Int) (g2_to_3 : ByteArray) (g2_to_4 : Int) (h : Hp) (Q : List Value → Hp → Prop) : cw PP 23 (fun _ => []) (bodyOf Try.f28) A_siread_Table_Copy (finQ PP (Try.f28.results.toList) Q) (argFr [(Value.pointer g0_t), (Value.agg #[(Value.int .i64 g1_from_0), (Value.string g1_from_1), (Value.int .i64 g1_from_2), (Value.string g1_from_3), (Value.int .i64 g1_from_4)]), (Value.agg #[(Value.int .i64 g2_to_0), (Value.string g2_to_1), (Value.int .i64 g2_to_2), (Value.string g2_to_3), (Value.int .i64 g2_to_4)])]) h = F_siread_Table_Copy g0_t g1_from_0 g1_from_1 g1_from_2 g1_from_3 g1_from_4 g2_to_0 g2_to_1 g2_to_2 g2_to_3 g2_to_4 h Q := by kernel_rfl
theorem O_siread_Table_Copy (g0_t : Option Addr) (g1_from_0 : Int) (g1_from_1 : ByteArray) (g1_from_2 : Int) (g1_from_3 : ByteArray) (g1_from_4 : Int) (g2_to_0 : Int) (g2_to_1 : ByteArray) (g2_to_2 : Int) (g2_to_3 : ByteArray) (g2_to_4 : Int) {h : Hp} {Q : List Value → Hp → Prop} (H : F_siread_Table_Copy g0_t g1_from_0 g1_from_1 g1_from_2 g1_from_3 g1_from_4 g2_to_0 g2_to_1 g2_to_2 g2_to_3 g2_to_4 h Q) : S_siread_Table_Copy g0_t g1_from_0 g1_from_1 g1_from_2 g1_from_3 g1_from_4 g2_to_0 g2_to_1 g2_to_2 g2_to_3 g2_to_4 h Q :=
  fn_of_cw (hs := (fun _ => [])) (ann := A_siread_Table_Copy) (args := [(Value.pointer g0_t), (Value.agg #[(Value.int .i64 g1_from_0), (Value.string g1_from_1), (Value.int .i64 g1_from_2), (Value.string g1_from_3), (Value.int .i64 g1_from_4)]), (Value.agg #[(Value.int .i64 g2_to_0), (Value.string g2_to_1), (Value.int .i64 g2_to_2), (Value.string g2_to_3), (Value.int .i64 g2_to_4)])]) mixedPP Try.func28 (c := bodyOf Try.f28) (by kernel_rfl) (by kernel_rfl) (by kernel_rfl) (Eq.mpr (E_siread_Table_Copy g0_t g1_from_0 g1_from_1 g1_from_2 g1_from_3 g1_from_4 g2_to_0 g2_to_1 g2_to_2 g2_to_3 g2_to_4 h Q) H)
def F_siread_Table_Index (g0_t : Option Addr) (g1_rel : Int) (g2_index : ByteArray) (h : Hp) (Q : List Value → Hp → Prop) : Prop :=
wth (Array.push h (Obj.cells #[(Value.int .i64 g1_rel)] T_int)) fun h1 =>
wth (Array.push h1 (Obj.cells #[(Value.string g2_index)] T_string)) fun h2 =>
(if (Option.isNone g0_t) = true then
  (Q [] h2) else
  (S_siread_Table_owners g0_t 39 #[(Value.pointer (some (Addr.mk (Array.size h) 0 none))), (Value.pointer (some (Addr.mk (Array.size h1) 0 none)))] h2 fun (vs3 : List Value) (h4 : Hp) =>
    ∃ l5 : Sl, vs3 = [(Value.slice l5.a l5.n l5.c)] ∧
    ∀ X6 : List Value → Hp → Prop, (∀ n7 : Int, ∀ h8 : Hp, ((if (decide (n7 < (l5.n : Int))) = true then
          (nilW l5.a fun a9 => ixOk n7 l5.n (∃ n10 : Int, rd h8 (Addr.add a9 (Int.toNat n7 * 1)) = some (Value.int .i64 n10) ∧
              ∃ n11 : Int, rd h8 (Addr.mk (Array.size h) 0 none) = some (Value.int .i64 n11) ∧
              S_siread_Table_take g0_t n10 (2 : Int) (ByteArray.mk #[]) n11 (ByteArray.mk #[]) (0 : Int) h8 fun (vs12 : List Value) (h13 : Hp) =>
              vs12 = [] ∧
              X6 [(Value.int .i64 (IntKind.wrap .i64 (n7 + (1 : Int))))] h13)) else
          (Q [] h8))) → X6 [(Value.int .i64 n7)] h8) →
    X6 [(Value.int .i64 (0 : Int))] h4))
def A_siread_Table_Index : Ann := (.mk none ⟨[], []⟩ .nil (.mk none ⟨[], []⟩ .nil (.mk none ⟨[], []⟩ .nil (.mk none ⟨[], []⟩ (.mk none ⟨[0, 4, 12, 13], [(14, (.c (.int .i64)))]⟩ .nil .nil) .nil))))
theorem E_siread_Table_Index (g0_t : Option Addr) (g1_rel : Int) (g2_index : ByteArray) (h : Hp) (Q : List Value → Hp → Prop) : cw PP 24 (fun _ => []) (bodyOf Try.f29) A_siread_Table_Index (finQ PP (Try.f29.results.toList) Q) (argFr [(Value.pointer g0_t), (Value.int .i64 g1_rel), (Value.string g2_index)]) h = F_siread_Table_Index g0_t g1_rel g2_index h Q := by kernel_rfl
theorem O_siread_Table_Index (g0_t : Option Addr) (g1_rel : Int) (g2_index : ByteArray) {h : Hp} {Q : List Value → Hp → Prop} (H : F_siread_Table_Index g0_t g1_rel g2_index h Q) : S_siread_Table_Index g0_t g1_rel g2_index h Q :=
  fn_of_cw (hs := (fun _ => [])) (ann := A_siread_Table_Index) (args := [(Value.pointer g0_t), (Value.int .i64 g1_rel), (Value.string g2_index)]) mixedPP Try.func29 (c := bodyOf Try.f29) (by kernel_rfl) (by kernel_rfl) (by kernel_rfl) (Eq.mpr (E_siread_Table_Index g0_t g1_rel g2_index h Q) H)
def F_liverylaw13_do (g0_t : Option Addr) (g1_x_0 : Int) (g1_x_1 : Int) (g1_x_2 : Int) (g1_x_3 : Int) (g1_x_4 : ByteArray) (g1_x_5 : Int) (g1_x_6 : ByteArray) (g1_x_7 : Int) (g1_x_8 : Int) (g1_x_9 : ByteArray) (g1_x_10 : Int) (g1_x_11 : ByteArray) (g1_x_12 : Int) (h : Hp) (Q : List Value → Hp → Prop) : Prop :=
wth (Array.push h (Obj.cells #[(Value.int .i64 g1_x_0), (Value.int .i64 g1_x_1), (Value.int .i64 g1_x_2), (Value.int .i64 g1_x_3), (Value.string g1_x_4), (Value.int .i64 g1_x_5), (Value.string g1_x_6), (Value.int .i64 g1_x_7), (Value.int .i64 g1_x_8), (Value.string g1_x_9), (Value.int .i64 g1_x_10), (Value.string g1_x_11), (Value.int .i64 g1_x_12)] T_liverylaw13_Step)) fun h1 =>
∃ n2 : Int, rd h1 (Addr.add (Addr.mk (Array.size h) 0 none) 0) = some (Value.int .i64 n2) ∧
(if (n2 == (0 : Int)) = true then
  (∃ n3 : Int, rd h1 (Addr.add (Addr.mk (Array.size h) 0 none) 1) = some (Value.int .i64 n3) ∧
    ∃ n4 : Int, rd h1 (Addr.add (Addr.add (Addr.mk (Array.size h) 0 none) 3) 0) = some (Value.int .i64 n4) ∧ ∃ s5 : ByteArray, rd h1 (Addr.add (Addr.add (Addr.mk (Array.size h) 0 none) 3) 1) = some (Value.string s5) ∧ ∃ n6 : Int, rd h1 (Addr.add (Addr.add (Addr.mk (Array.size h) 0 none) 3) 2) = some (Value.int .i64 n6) ∧ ∃ s7 : ByteArray, rd h1 (Addr.add (Addr.add (Addr.mk (Array.size h) 0 none) 3) 3) = some (Value.string s7) ∧ ∃ n8 : Int, rd h1 (Addr.add (Addr.add (Addr.mk (Array.size h) 0 none) 3) 4) = some (Value.int .i64 n8) ∧ S_siread_Table_Take g0_t n3 n4 s5 n6 s7 n8 h1 fun (vs9 : List Value) (h10 : Hp) =>
    ∃ n11 : Int, vs9 = [(Value.int .i64 n11)] ∧
    Q [] h10) else
  ((if (n2 == (1 : Int)) = true then
      (∃ n12 : Int, rd h1 (Addr.add (Addr.add (Addr.mk (Array.size h) 0 none) 3) 0) = some (Value.int .i64 n12) ∧ ∃ s13 : ByteArray, rd h1 (Addr.add (Addr.add (Addr.mk (Array.size h) 0 none) 3) 1) = some (Value.string s13) ∧ ∃ n14 : Int, rd h1 (Addr.add (Addr.add (Addr.mk (Array.size h) 0 none) 3) 2) = some (Value.int .i64 n14) ∧ ∃ s15 : ByteArray, rd h1 (Addr.add (Addr.add (Addr.mk (Array.size h) 0 none) 3) 3) = some (Value.string s15) ∧ ∃ n16 : Int, rd h1 (Addr.add (Addr.add (Addr.mk (Array.size h) 0 none) 3) 4) = some (Value.int .i64 n16) ∧ ∃ n17 : Int, rd h1 (Addr.add (Addr.add (Addr.mk (Array.size h) 0 none) 8) 0) = some (Value.int .i64 n17) ∧ ∃ s18 : ByteArray, rd h1 (Addr.add (Addr.add (Addr.mk (Array.size h) 0 none) 8) 1) = some (Value.string s18) ∧ ∃ n19 : Int, rd h1 (Addr.add (Addr.add (Addr.mk (Array.size h) 0 none) 8) 2) = some (Value.int .i64 n19) ∧ ∃ s20 : ByteArray, rd h1 (Addr.add (Addr.add (Addr.mk (Array.size h) 0 none) 8) 3) = some (Value.string s20) ∧ ∃ n21 : Int, rd h1 (Addr.add (Addr.add (Addr.mk (Array.size h) 0 none) 8) 4) = some (Value.int .i64 n21) ∧ S_siread_Table_Copy g0_t n12 s13 n14 s15 n16 n17 s18 n19 s20 n21 h1 fun (vs22 : List Value) (h23 : Hp) =>
        vs22 = [] ∧
        Q [] h23) else
      ((if (n2 == (2 : Int)) = true then
          (∃ n24 : Int, rd h1 (Addr.add (Addr.add (Addr.mk (Array.size h) 0 none) 3) 2) = some (Value.int .i64 n24) ∧
            ∃ n25 : Int, rd h1 (Addr.add (Addr.add (Addr.mk (Array.size h) 0 none) 8) 2) = some (Value.int .i64 n25) ∧
            S_siread_Table_Rough g0_t n24 n25 h1 fun (vs26 : List Value) (h27 : Hp) =>
            vs26 = [] ∧
            Q [] h27) else
          ((if (n2 == (3 : Int)) = true then
              (∃ n28 : Int, rd h1 (Addr.add (Addr.add (Addr.mk (Array.size h) 0 none) 3) 2) = some (Value.int .i64 n28) ∧
                ∃ s29 : ByteArray, rd h1 (Addr.add (Addr.add (Addr.mk (Array.size h) 0 none) 3) 3) = some (Value.string s29) ∧
                S_siread_Table_Index g0_t n28 s29 h1 fun (vs30 : List Value) (h31 : Hp) =>
                vs30 = [] ∧
                Q [] h31) else
              ((if (n2 == (4 : Int)) = true then
                  (∃ n32 : Int, rd h1 (Addr.add (Addr.mk (Array.size h) 0 none) 1) = some (Value.int .i64 n32) ∧
                    S_siread_Table_Drop g0_t n32 h1 fun (vs33 : List Value) (h34 : Hp) =>
                    vs33 = [] ∧
                    Q [] h34) else
                  ((if (n2 == (5 : Int)) = true then
                      (∃ n35 : Int, rd h1 (Addr.add (Addr.mk (Array.size h) 0 none) 1) = some (Value.int .i64 n35) ∧
                        ∃ n36 : Int, rd h1 (Addr.add (Addr.mk (Array.size h) 0 none) 2) = some (Value.int .i64 n36) ∧
                        S_siread_Table_Fold g0_t n35 n36 h1 fun (vs37 : List Value) (h38 : Hp) =>
                        vs37 = [] ∧
                        Q [] h38) else
                      (Q [] h1))))))))))))
def A_liverylaw13_do : Ann := .nil
theorem E_liverylaw13_do (g0_t : Option Addr) (g1_x_0 : Int) (g1_x_1 : Int) (g1_x_2 : Int) (g1_x_3 : Int) (g1_x_4 : ByteArray) (g1_x_5 : Int) (g1_x_6 : ByteArray) (g1_x_7 : Int) (g1_x_8 : Int) (g1_x_9 : ByteArray) (g1_x_10 : Int) (g1_x_11 : ByteArray) (g1_x_12 : Int) (h : Hp) (Q : List Value → Hp → Prop) : cw PP 56 (fun _ => []) (bodyOf Try.f16) A_liverylaw13_do (finQ PP (Try.f16.results.toList) Q) (argFr [(Value.pointer g0_t), (Value.agg #[(Value.int .i64 g1_x_0), (Value.int .i64 g1_x_1), (Value.int .i64 g1_x_2), (Value.int .i64 g1_x_3), (Value.string g1_x_4), (Value.int .i64 g1_x_5), (Value.string g1_x_6), (Value.int .i64 g1_x_7), (Value.int .i64 g1_x_8), (Value.string g1_x_9), (Value.int .i64 g1_x_10), (Value.string g1_x_11), (Value.int .i64 g1_x_12)])]) h = F_liverylaw13_do g0_t g1_x_0 g1_x_1 g1_x_2 g1_x_3 g1_x_4 g1_x_5 g1_x_6 g1_x_7 g1_x_8 g1_x_9 g1_x_10 g1_x_11 g1_x_12 h Q := by kernel_rfl
theorem O_liverylaw13_do (g0_t : Option Addr) (g1_x_0 : Int) (g1_x_1 : Int) (g1_x_2 : Int) (g1_x_3 : Int) (g1_x_4 : ByteArray) (g1_x_5 : Int) (g1_x_6 : ByteArray) (g1_x_7 : Int) (g1_x_8 : Int) (g1_x_9 : ByteArray) (g1_x_10 : Int) (g1_x_11 : ByteArray) (g1_x_12 : Int) {h : Hp} {Q : List Value → Hp → Prop} (H : F_liverylaw13_do g0_t g1_x_0 g1_x_1 g1_x_2 g1_x_3 g1_x_4 g1_x_5 g1_x_6 g1_x_7 g1_x_8 g1_x_9 g1_x_10 g1_x_11 g1_x_12 h Q) : S_liverylaw13_do g0_t g1_x_0 g1_x_1 g1_x_2 g1_x_3 g1_x_4 g1_x_5 g1_x_6 g1_x_7 g1_x_8 g1_x_9 g1_x_10 g1_x_11 g1_x_12 h Q :=
  fn_of_cw (hs := (fun _ => [])) (ann := A_liverylaw13_do) (args := [(Value.pointer g0_t), (Value.agg #[(Value.int .i64 g1_x_0), (Value.int .i64 g1_x_1), (Value.int .i64 g1_x_2), (Value.int .i64 g1_x_3), (Value.string g1_x_4), (Value.int .i64 g1_x_5), (Value.string g1_x_6), (Value.int .i64 g1_x_7), (Value.int .i64 g1_x_8), (Value.string g1_x_9), (Value.int .i64 g1_x_10), (Value.string g1_x_11), (Value.int .i64 g1_x_12)])]) mixedPP Try.func16 (c := bodyOf Try.f16) (by kernel_rfl) (by kernel_rfl) (by kernel_rfl) (Eq.mpr (E_liverylaw13_do g0_t g1_x_0 g1_x_1 g1_x_2 g1_x_3 g1_x_4 g1_x_5 g1_x_6 g1_x_7 g1_x_8 g1_x_9 g1_x_10 g1_x_11 g1_x_12 h Q) H)
def F_liverylaw13_SireadFew (g0_each : Int) (g1_all : Int) (g2_l : Sl) (h : Hp) (Q : List Value → Hp → Prop) : Prop :=
divOk (6 : Int) (divOk (12 : Int) (S_siread_New (IntKind.wrap .i64 ((1 : Int) + (Int.tmod (IntKind.wrap .i64 g0_each) (6 : Int)))) (IntKind.wrap .i64 ((1 : Int) + (Int.tmod (IntKind.wrap .i64 g1_all) (12 : Int)))) h fun (vs1 : List Value) (h2 : Hp) =>
    ∃ p3 : Option Addr, ∃ n4 : Int, vs1 = [(Value.pointer p3), (Value.int .i64 n4)] ∧
    ∀ J5 : List Value → Hp → Prop, (∀ b6 : Bool, ∀ h7 : Hp, ((if b6 = true then
          (∀ J8 : List Value → Hp → Prop, (∀ b9 : Bool, ∀ h10 : Hp, (Q [(Value.bool b9)] h10) → J8 [(Value.bool b9)] h10) →
            (if (n4 == (0 : Int)) = true then (S_liverylaw13_wakes  h7 fun (vs11 : List Value) (h12 : Hp) =>
                ∃ b13 : Bool, vs11 = [(Value.bool b13)] ∧
                J8 [(Value.bool b13)] h12) else
              (J8 [(Value.bool false)] h7))) else
          (∀ X14 : List Value → Hp → Prop, (∀ n15 : Int, ∀ h16 : Hp, ((if (decide (n15 < (g2_l.n : Int))) = true then
                  (nilW g2_l.a fun a17 => ixOk n15 g2_l.n (∃ n18 : Int, rd h16 (Addr.add (Addr.add a17 (Int.toNat n15 * 13)) 0) = some (Value.int .i64 n18) ∧ ∃ n19 : Int, rd h16 (Addr.add (Addr.add a17 (Int.toNat n15 * 13)) 1) = some (Value.int .i64 n19) ∧ ∃ n20 : Int, rd h16 (Addr.add (Addr.add a17 (Int.toNat n15 * 13)) 2) = some (Value.int .i64 n20) ∧ ∃ n21 : Int, rd h16 (Addr.add (Addr.add a17 (Int.toNat n15 * 13)) 3) = some (Value.int .i64 n21) ∧ ∃ s22 : ByteArray, rd h16 (Addr.add (Addr.add a17 (Int.toNat n15 * 13)) 4) = some (Value.string s22) ∧ ∃ n23 : Int, rd h16 (Addr.add (Addr.add a17 (Int.toNat n15 * 13)) 5) = some (Value.int .i64 n23) ∧ ∃ s24 : ByteArray, rd h16 (Addr.add (Addr.add a17 (Int.toNat n15 * 13)) 6) = some (Value.string s24) ∧ ∃ n25 : Int, rd h16 (Addr.add (Addr.add a17 (Int.toNat n15 * 13)) 7) = some (Value.int .i64 n25) ∧ ∃ n26 : Int, rd h16 (Addr.add (Addr.add a17 (Int.toNat n15 * 13)) 8) = some (Value.int .i64 n26) ∧ ∃ s27 : ByteArray, rd h16 (Addr.add (Addr.add a17 (Int.toNat n15 * 13)) 9) = some (Value.string s27) ∧ ∃ n28 : Int, rd h16 (Addr.add (Addr.add a17 (Int.toNat n15 * 13)) 10) = some (Value.int .i64 n28) ∧ ∃ s29 : ByteArray, rd h16 (Addr.add (Addr.add a17 (Int.toNat n15 * 13)) 11) = some (Value.string s29) ∧ ∃ n30 : Int, rd h16 (Addr.add (Addr.add a17 (Int.toNat n15 * 13)) 12) = some (Value.int .i64 n30) ∧ S_liverylaw13_do p3 n18 n19 n20 n21 s22 n23 s24 n25 n26 s27 n28 s29 n30 h16 fun (vs31 : List Value) (h32 : Hp) =>
                      vs31 = [] ∧
                      ∀ J33 : List Value → Hp → Prop, (∀ b34 : Bool, ∀ h35 : Hp, ((if b34 = true then
                            (Q [(Value.bool false)] h35) else
                            (∀ X36 : List Value → Hp → Prop, (∀ n37 : Int, ∀ h38 : Hp, ((if (decide (n37 < (9 : Int))) = true then
                                    (S_siread_Table_Of p3 n37 h38 fun (vs39 : List Value) (h40 : Hp) =>
                                      ∃ l41 : Sl, vs39 = [(Value.slice l41.a l41.n l41.c)] ∧
                                      ∀ X42 : List Value → Hp → Prop, (∀ n43 : Int, ∀ h44 : Hp, ((if (decide (n43 < (l41.n : Int))) = true then
                                            (∀ X45 : List Value → Hp → Prop, (∀ n46 : Int, ∀ n47 : Int, ∀ h48 : Hp, ((if (decide (n47 < (l41.n : Int))) = true then
                                                    (∀ J49 : List Value → Hp → Prop, (∀ n50 : Int, ∀ h51 : Hp, (X45 [(Value.int .i64 n50), (Value.int .i64 (IntKind.wrap .i64 (n47 + (1 : Int))))] h51) → J49 [(Value.int .i64 n50)] h51) →
                                                      ∀ J52 : List Value → Hp → Prop, (∀ b53 : Bool, ∀ h54 : Hp, ((if b53 = true then
                                                            (J49 [(Value.int .i64 (IntKind.wrap .i64 (n46 + (1 : Int))))] h54) else
                                                            (J49 [(Value.int .i64 n46)] h54))) → J52 [(Value.bool b53)] h54) →
                                                      nilW l41.a fun a55 => ixOk n47 l41.n (∃ n56 : Int, rd h48 (Addr.add (Addr.add a55 (Int.toNat n47 * 5)) 0) = some (Value.int .i64 n56) ∧
                                                        (if (decide (n56 ≥ (3 : Int))) = true then (nilW l41.a fun a57 => ixOk n47 l41.n (∃ n58 : Int, rd h48 (Addr.add (Addr.add a57 (Int.toNat n47 * 5)) 2) = some (Value.int .i64 n58) ∧
                                                            nilW l41.a fun a59 => ixOk n43 l41.n (∃ n60 : Int, rd h48 (Addr.add (Addr.add a59 (Int.toNat n43 * 5)) 2) = some (Value.int .i64 n60) ∧
                                                            J52 [(Value.bool (n58 == n60))] h48))) else
                                                          (J52 [(Value.bool false)] h48)))) else
                                                    (∀ J61 : List Value → Hp → Prop, (∀ b62 : Bool, ∀ h63 : Hp, ((if b62 = true then
                                                            (Q [(Value.bool false)] h63) else
                                                            (X42 [(Value.int .i64 (IntKind.wrap .i64 (n43 + (1 : Int))))] h63))) → J61 [(Value.bool b62)] h63) →
                                                      (if (decide (n46 > (IntKind.wrap .i64 ((1 : Int) + (Int.tmod (IntKind.wrap .i64 g0_each) (6 : Int)))))) = true then (J61 [(Value.bool true)] h48) else
                                                        (nilW l41.a fun a64 => ixOk n43 l41.n (∃ n65 : Int, rd h48 (Addr.add (Addr.add a64 (Int.toNat n43 * 5)) 0) = some (Value.int .i64 n65) ∧
                                                            (if (decide (n65 ≥ (3 : Int))) = true then (nilW l41.a fun a66 => ixOk n43 l41.n (∃ n67 : Int, rd h48 (Addr.add (Addr.add a66 (Int.toNat n43 * 5)) 2) = some (Value.int .i64 n67) ∧
                                                            S_siread_Table_Has p3 n37 (2 : Int) (ByteArray.mk #[]) n67 (ByteArray.mk #[]) (0 : Int) h48 fun (vs68 : List Value) (h69 : Hp) =>
                                                            ∃ b70 : Bool, vs68 = [(Value.bool b70)] ∧
                                                            J61 [(Value.bool b70)] h69)) else
                                                            (J61 [(Value.bool false)] h48)))))))) → X45 [(Value.int .i64 n46), (Value.int .i64 n47)] h48) →
                                              X45 [(Value.int .i64 (0 : Int)), (Value.int .i64 (0 : Int))] h44) else
                                            (X36 [(Value.int .i64 (IntKind.wrap .i64 (n37 + (1 : Int))))] h44))) → X42 [(Value.int .i64 n43)] h44) →
                                      X42 [(Value.int .i64 (0 : Int))] h40) else
                                    (X14 [(Value.int .i64 (IntKind.wrap .i64 (n15 + (1 : Int))))] h38))) → X36 [(Value.int .i64 n37)] h38) →
                              X36 [(Value.int .i64 (0 : Int))] h35))) → J33 [(Value.bool b34)] h35) →
                      S_siread_Table_Fine p3 h32 fun (vs71 : List Value) (h72 : Hp) =>
                      ∃ n73 : Int, vs71 = [(Value.int .i64 n73)] ∧
                      (if (decide (n73 > (IntKind.wrap .i64 ((1 : Int) + (Int.tmod (IntKind.wrap .i64 g1_all) (12 : Int)))))) = true then (J33 [(Value.bool true)] h72) else
                        (S_siread_Table_Fine p3 h72 fun (vs74 : List Value) (h75 : Hp) =>
                          ∃ n76 : Int, vs74 = [(Value.int .i64 n76)] ∧
                          J33 [(Value.bool (decide (n76 < (0 : Int))))] h75)))) else
                  (S_liverylaw13_wakes  h16 fun (vs77 : List Value) (h78 : Hp) =>
                    ∃ b79 : Bool, vs77 = [(Value.bool b79)] ∧
                    Q [(Value.bool b79)] h78))) → X14 [(Value.int .i64 n15)] h16) →
            X14 [(Value.int .i64 (0 : Int))] h7))) → J5 [(Value.bool b6)] h7) →
    (if (n4 != (0 : Int)) = true then (J5 [(Value.bool true)] h2) else
      (S_liverylaw13_Fair ⟨g2_l.a, g2_l.n, g2_l.c⟩ h2 fun (vs80 : List Value) (h81 : Hp) =>
        ∃ b82 : Bool, vs80 = [(Value.bool b82)] ∧
        J5 [(Value.bool (!b82))] h81))))
def A_liverylaw13_SireadFew : Ann := (.mk none ⟨[], []⟩ .nil (.mk none ⟨[], []⟩ .nil (.mk none ⟨[], []⟩ .nil (.mk none ⟨[], []⟩ (.mk none ⟨[], []⟩ (.mk (some ⟨[2, 7, 8, 9, 10], [(37, (.c .bool))]⟩) ⟨[], []⟩ .nil .nil) (.mk none ⟨[], []⟩ (.mk none ⟨[], []⟩ (.mk (some ⟨[], [(6, (.c .bool))]⟩) ⟨[], []⟩ .nil .nil) .nil) .nil)) (.mk none ⟨[], []⟩ (.mk none ⟨[], []⟩ .nil (.mk none ⟨[], []⟩ (.mk none ⟨[2, 7, 8, 9], [(11, (.c (.int .i64)))]⟩ (.mk none ⟨[], []⟩ .nil (.mk none ⟨[], []⟩ (.mk none ⟨[], []⟩ (.mk none ⟨[], []⟩ .nil (.mk none ⟨[], []⟩ (.mk none ⟨[], []⟩ (.mk (some ⟨[2, 7, 8, 9, 11], [(63, (.c .bool))]⟩) ⟨[], []⟩ .nil .nil) .nil) (.mk none ⟨[], []⟩ .nil (.mk none ⟨[], []⟩ (.mk none ⟨[2, 7, 8, 9, 11], [(12, (.c (.int .i64)))]⟩ (.mk none ⟨[], []⟩ .nil (.mk none ⟨[], []⟩ (.mk none ⟨[], []⟩ (.mk none ⟨[], []⟩ .nil (.mk none ⟨[], []⟩ .nil (.mk none ⟨[], []⟩ (.mk none ⟨[2, 7, 8, 9, 11, 12, 13], [(14, (.c (.int .i64)))]⟩ (.mk none ⟨[], []⟩ .nil (.mk none ⟨[], []⟩ (.mk none ⟨[], []⟩ (.mk none ⟨[], []⟩ .nil (.mk none ⟨[], []⟩ (.mk none ⟨[], []⟩ .nil (.mk none ⟨[], []⟩ (.mk none ⟨[2, 7, 8, 9, 11, 12, 13, 14], [(15, (.c (.int .i64))), (16, (.c (.int .i64)))]⟩ (.mk none ⟨[], []⟩ .nil (.mk none ⟨[], []⟩ (.mk (some ⟨[2, 7, 8, 9, 11, 12, 13, 14, 16], [(15, (.c (.int .i64)))]⟩) ⟨[], []⟩ (.mk none ⟨[], []⟩ (.mk (some ⟨[2, 7, 8, 9, 11, 12, 13, 14, 15, 16], [(101, (.c .bool))]⟩) ⟨[], []⟩ .nil .nil) .nil) .nil) .nil)) .nil) .nil)) (.mk none ⟨[], []⟩ (.mk (some ⟨[2, 7, 8, 9, 11, 12, 13, 14], [(125, (.c .bool))]⟩) ⟨[], []⟩ .nil .nil) .nil))) .nil) .nil)) .nil) .nil))) .nil) .nil)) .nil) .nil)))) .nil) .nil)) .nil) .nil)) .nil)))))
theorem E_liverylaw13_SireadFew (g0_each : Int) (g1_all : Int) (g2_l : Sl) (h : Hp) (Q : List Value → Hp → Prop) : cw PP 127 (fun _ => []) (bodyOf Try.f4) A_liverylaw13_SireadFew (finQ PP (Try.f4.results.toList) Q) (argFr [(Value.int .u8 g0_each), (Value.int .u8 g1_all), (Value.slice g2_l.a g2_l.n g2_l.c)]) h = F_liverylaw13_SireadFew g0_each g1_all g2_l h Q := by kernel_rfl
theorem O_liverylaw13_SireadFew (g0_each : Int) (g1_all : Int) (g2_l : Sl) {h : Hp} {Q : List Value → Hp → Prop} (H : F_liverylaw13_SireadFew g0_each g1_all g2_l h Q) : S_liverylaw13_SireadFew g0_each g1_all g2_l h Q :=
  fn_of_cw (hs := (fun _ => [])) (ann := A_liverylaw13_SireadFew) (args := [(Value.int .u8 g0_each), (Value.int .u8 g1_all), (Value.slice g2_l.a g2_l.n g2_l.c)]) mixedPP Try.func4 (c := bodyOf Try.f4) (by kernel_rfl) (by kernel_rfl) (by kernel_rfl) (Eq.mpr (E_liverylaw13_SireadFew g0_each g1_all g2_l h Q) H)
def F_liverykeep_Mod (g0_k : Int) (g1_n : Int) (h : Hp) (Q : List Value → Hp → Prop) : Prop :=
(if (decide (g1_n < (1 : Int))) = true then
  (Q [(Value.int .i64 (0 : Int))] h) else
  (divOk g1_n (divOk g1_n (Q [(Value.int .i64 (Int.tmod (IntKind.wrap .i64 ((Int.tmod g0_k g1_n) + g1_n)) g1_n))] h))))
def A_liverykeep_Mod : Ann := .nil
theorem E_liverykeep_Mod (g0_k : Int) (g1_n : Int) (h : Hp) (Q : List Value → Hp → Prop) : cw PP 14 (fun _ => []) (bodyOf Try.f18) A_liverykeep_Mod (finQ PP (Try.f18.results.toList) Q) (argFr [(Value.int .i64 g0_k), (Value.int .i64 g1_n)]) h = F_liverykeep_Mod g0_k g1_n h Q := by kernel_rfl
theorem O_liverykeep_Mod (g0_k : Int) (g1_n : Int) {h : Hp} {Q : List Value → Hp → Prop} (H : F_liverykeep_Mod g0_k g1_n h Q) : S_liverykeep_Mod g0_k g1_n h Q :=
  fn_of_cw (hs := (fun _ => [])) (ann := A_liverykeep_Mod) (args := [(Value.int .i64 g0_k), (Value.int .i64 g1_n)]) mixedPP Try.func18 (c := bodyOf Try.f18) (by kernel_rfl) (by kernel_rfl) (by kernel_rfl) (Eq.mpr (E_liverykeep_Mod g0_k g1_n h Q) H)
def F_liverylaw13_SireadNone (g0_x_0 : Int) (g0_x_1 : Int) (g0_x_2 : Int) (g0_x_3 : Int) (g0_x_4 : ByteArray) (g0_x_5 : Int) (g0_x_6 : ByteArray) (g0_x_7 : Int) (g0_x_8 : Int) (g0_x_9 : ByteArray) (g0_x_10 : Int) (g0_x_11 : ByteArray) (g0_x_12 : Int) (h : Hp) (Q : List Value → Hp → Prop) : Prop :=
wth (Array.push h (Obj.cells #[(Value.int .i64 g0_x_0), (Value.int .i64 g0_x_1), (Value.int .i64 g0_x_2), (Value.int .i64 g0_x_3), (Value.string g0_x_4), (Value.int .i64 g0_x_5), (Value.string g0_x_6), (Value.int .i64 g0_x_7), (Value.int .i64 g0_x_8), (Value.string g0_x_9), (Value.int .i64 g0_x_10), (Value.string g0_x_11), (Value.int .i64 g0_x_12)] T_liverylaw13_Step)) fun h1 =>
∃ n2 : Int, rd h1 (Addr.add (Addr.mk (Array.size h) 0 none) 0) = some (Value.int .i64 n2) ∧ ∃ n3 : Int, rd h1 (Addr.add (Addr.mk (Array.size h) 0 none) 1) = some (Value.int .i64 n3) ∧ ∃ n4 : Int, rd h1 (Addr.add (Addr.mk (Array.size h) 0 none) 2) = some (Value.int .i64 n4) ∧ ∃ n5 : Int, rd h1 (Addr.add (Addr.mk (Array.size h) 0 none) 3) = some (Value.int .i64 n5) ∧ ∃ s6 : ByteArray, rd h1 (Addr.add (Addr.mk (Array.size h) 0 none) 4) = some (Value.string s6) ∧ ∃ n7 : Int, rd h1 (Addr.add (Addr.mk (Array.size h) 0 none) 5) = some (Value.int .i64 n7) ∧ ∃ s8 : ByteArray, rd h1 (Addr.add (Addr.mk (Array.size h) 0 none) 6) = some (Value.string s8) ∧ ∃ n9 : Int, rd h1 (Addr.add (Addr.mk (Array.size h) 0 none) 7) = some (Value.int .i64 n9) ∧ ∃ n10 : Int, rd h1 (Addr.add (Addr.mk (Array.size h) 0 none) 8) = some (Value.int .i64 n10) ∧ ∃ s11 : ByteArray, rd h1 (Addr.add (Addr.mk (Array.size h) 0 none) 9) = some (Value.string s11) ∧ ∃ n12 : Int, rd h1 (Addr.add (Addr.mk (Array.size h) 0 none) 10) = some (Value.int .i64 n12) ∧ ∃ s13 : ByteArray, rd h1 (Addr.add (Addr.mk (Array.size h) 0 none) 11) = some (Value.string s13) ∧ ∃ n14 : Int, rd h1 (Addr.add (Addr.mk (Array.size h) 0 none) 12) = some (Value.int .i64 n14) ∧ wth (Array.push h1 (Obj.cells #[(Value.int .i64 n2), (Value.int .i64 n3), (Value.int .i64 n4), (Value.int .i64 n5), (Value.string s6), (Value.int .i64 n7), (Value.string s8), (Value.int .i64 n9), (Value.int .i64 n10), (Value.string s11), (Value.int .i64 n12), (Value.string s13), (Value.int .i64 n14)] T_liverylaw13_Step)) fun h15 =>
S_liverylaw13_Fair ⟨(some (Addr.mk (Array.size h1) 0 none)), 1, 1⟩ h15 fun (vs16 : List Value) (h17 : Hp) =>
∃ b18 : Bool, vs16 = [(Value.bool b18)] ∧
(if (!b18) = true then
  (S_liverylaw13_wakes  h17 fun (vs19 : List Value) (h20 : Hp) =>
    ∃ b21 : Bool, vs19 = [(Value.bool b21)] ∧
    Q [(Value.bool b21)] h20) else
  (∃ n22 : Int, rd h17 (Addr.add (Addr.mk (Array.size h) 0 none) 0) = some (Value.int .i64 n22) ∧
    S_liverykeep_Mod n22 (5 : Int) h17 fun (vs23 : List Value) (h24 : Hp) =>
    ∃ n25 : Int, vs23 = [(Value.int .i64 n25)] ∧
    stOk h24 (Addr.add (Addr.mk (Array.size h) 0 none) 0) 1 ∧ wth (wrs h24 (Addr.add (Addr.mk (Array.size h) 0 none) 0) 0 [(Value.int .i64 (IntKind.wrap .i64 ((1 : Int) + n25)))]) fun h26 =>
    ∃ n27 : Int, rd h26 (Addr.add (Addr.mk (Array.size h) 0 none) 0) = some (Value.int .i64 n27) ∧ ∃ n28 : Int, rd h26 (Addr.add (Addr.mk (Array.size h) 0 none) 1) = some (Value.int .i64 n28) ∧ ∃ n29 : Int, rd h26 (Addr.add (Addr.mk (Array.size h) 0 none) 2) = some (Value.int .i64 n29) ∧ ∃ n30 : Int, rd h26 (Addr.add (Addr.mk (Array.size h) 0 none) 3) = some (Value.int .i64 n30) ∧ ∃ s31 : ByteArray, rd h26 (Addr.add (Addr.mk (Array.size h) 0 none) 4) = some (Value.string s31) ∧ ∃ n32 : Int, rd h26 (Addr.add (Addr.mk (Array.size h) 0 none) 5) = some (Value.int .i64 n32) ∧ ∃ s33 : ByteArray, rd h26 (Addr.add (Addr.mk (Array.size h) 0 none) 6) = some (Value.string s33) ∧ ∃ n34 : Int, rd h26 (Addr.add (Addr.mk (Array.size h) 0 none) 7) = some (Value.int .i64 n34) ∧ ∃ n35 : Int, rd h26 (Addr.add (Addr.mk (Array.size h) 0 none) 8) = some (Value.int .i64 n35) ∧ ∃ s36 : ByteArray, rd h26 (Addr.add (Addr.mk (Array.size h) 0 none) 9) = some (Value.string s36) ∧ ∃ n37 : Int, rd h26 (Addr.add (Addr.mk (Array.size h) 0 none) 10) = some (Value.int .i64 n37) ∧ ∃ s38 : ByteArray, rd h26 (Addr.add (Addr.mk (Array.size h) 0 none) 11) = some (Value.string s38) ∧ ∃ n39 : Int, rd h26 (Addr.add (Addr.mk (Array.size h) 0 none) 12) = some (Value.int .i64 n39) ∧ S_liverylaw13_do none n27 n28 n29 n30 s31 n32 s33 n34 n35 s36 n37 s38 n39 h26 fun (vs40 : List Value) (h41 : Hp) =>
    vs40 = [] ∧
    ∃ n42 : Int, rd h41 (Addr.add (Addr.mk (Array.size h) 0 none) 1) = some (Value.int .i64 n42) ∧
    ∃ n43 : Int, rd h41 (Addr.add (Addr.add (Addr.mk (Array.size h) 0 none) 3) 0) = some (Value.int .i64 n43) ∧ ∃ s44 : ByteArray, rd h41 (Addr.add (Addr.add (Addr.mk (Array.size h) 0 none) 3) 1) = some (Value.string s44) ∧ ∃ n45 : Int, rd h41 (Addr.add (Addr.add (Addr.mk (Array.size h) 0 none) 3) 2) = some (Value.int .i64 n45) ∧ ∃ s46 : ByteArray, rd h41 (Addr.add (Addr.add (Addr.mk (Array.size h) 0 none) 3) 3) = some (Value.string s46) ∧ ∃ n47 : Int, rd h41 (Addr.add (Addr.add (Addr.mk (Array.size h) 0 none) 3) 4) = some (Value.int .i64 n47) ∧ S_siread_Table_Take none n42 n43 s44 n45 s46 n47 h41 fun (vs48 : List Value) (h49 : Hp) =>
    ∃ n50 : Int, vs48 = [(Value.int .i64 n50)] ∧
    (if (n50 == (1 : Int)) = true then (∃ n51 : Int, rd h49 (Addr.add (Addr.mk (Array.size h) 0 none) 1) = some (Value.int .i64 n51) ∧
        ∃ n52 : Int, rd h49 (Addr.add (Addr.add (Addr.mk (Array.size h) 0 none) 3) 0) = some (Value.int .i64 n52) ∧ ∃ s53 : ByteArray, rd h49 (Addr.add (Addr.add (Addr.mk (Array.size h) 0 none) 3) 1) = some (Value.string s53) ∧ ∃ n54 : Int, rd h49 (Addr.add (Addr.add (Addr.mk (Array.size h) 0 none) 3) 2) = some (Value.int .i64 n54) ∧ ∃ s55 : ByteArray, rd h49 (Addr.add (Addr.add (Addr.mk (Array.size h) 0 none) 3) 3) = some (Value.string s55) ∧ ∃ n56 : Int, rd h49 (Addr.add (Addr.add (Addr.mk (Array.size h) 0 none) 3) 4) = some (Value.int .i64 n56) ∧ S_siread_Table_Has none n51 n52 s53 n54 s55 n56 h49 fun (vs57 : List Value) (h58 : Hp) =>
        ∃ b59 : Bool, vs57 = [(Value.bool b59)] ∧
        (if (!b59) = true then (∃ n60 : Int, rd h58 (Addr.add (Addr.add (Addr.mk (Array.size h) 0 none) 3) 0) = some (Value.int .i64 n60) ∧ ∃ s61 : ByteArray, rd h58 (Addr.add (Addr.add (Addr.mk (Array.size h) 0 none) 3) 1) = some (Value.string s61) ∧ ∃ n62 : Int, rd h58 (Addr.add (Addr.add (Addr.mk (Array.size h) 0 none) 3) 2) = some (Value.int .i64 n62) ∧ ∃ s63 : ByteArray, rd h58 (Addr.add (Addr.add (Addr.mk (Array.size h) 0 none) 3) 3) = some (Value.string s63) ∧ ∃ n64 : Int, rd h58 (Addr.add (Addr.add (Addr.mk (Array.size h) 0 none) 3) 4) = some (Value.int .i64 n64) ∧ S_siread_Table_Owners none n60 s61 n62 s63 n64 h58 fun (vs65 : List Value) (h66 : Hp) =>
            ∃ l67 : Sl, vs65 = [(Value.slice l67.a l67.n l67.c)] ∧
            (if ((l67.n : Int) == (0 : Int)) = true then (S_siread_Table_Old none h66 fun (vs68 : List Value) (h69 : Hp) =>
                ∃ n70 : Int, vs68 = [(Value.int .i64 n70)] ∧
                (if (n70 == (0 : Int)) = true then (∃ n71 : Int, rd h69 (Addr.add (Addr.mk (Array.size h) 0 none) 1) = some (Value.int .i64 n71) ∧
                    S_siread_Table_Of none n71 h69 fun (vs72 : List Value) (h73 : Hp) =>
                    ∃ l74 : Sl, vs72 = [(Value.slice l74.a l74.n l74.c)] ∧
                    (if ((l74.n : Int) == (0 : Int)) = true then (S_siread_Table_Fine none h73 fun (vs75 : List Value) (h76 : Hp) =>
                        ∃ n77 : Int, vs75 = [(Value.int .i64 n77)] ∧
                        (if (n77 == (0 : Int)) = true then (S_liverylaw13_wakes  h76 fun (vs78 : List Value) (h79 : Hp) =>
                            ∃ b80 : Bool, vs78 = [(Value.bool b80)] ∧
                            Q [(Value.bool b80)] h79) else
                          (Q [(Value.bool false)] h76))) else
                      (Q [(Value.bool false)] h73))) else
                  (Q [(Value.bool false)] h69))) else
              (Q [(Value.bool false)] h66))) else
          (Q [(Value.bool false)] h58))) else
      (Q [(Value.bool false)] h49))))
def A_liverylaw13_SireadNone : Ann := .nil
theorem E_liverylaw13_SireadNone (g0_x_0 : Int) (g0_x_1 : Int) (g0_x_2 : Int) (g0_x_3 : Int) (g0_x_4 : ByteArray) (g0_x_5 : Int) (g0_x_6 : ByteArray) (g0_x_7 : Int) (g0_x_8 : Int) (g0_x_9 : ByteArray) (g0_x_10 : Int) (g0_x_11 : ByteArray) (g0_x_12 : Int) (h : Hp) (Q : List Value → Hp → Prop) : cw PP 62 (fun _ => []) (bodyOf Try.f5) A_liverylaw13_SireadNone (finQ PP (Try.f5.results.toList) Q) (argFr [(Value.agg #[(Value.int .i64 g0_x_0), (Value.int .i64 g0_x_1), (Value.int .i64 g0_x_2), (Value.int .i64 g0_x_3), (Value.string g0_x_4), (Value.int .i64 g0_x_5), (Value.string g0_x_6), (Value.int .i64 g0_x_7), (Value.int .i64 g0_x_8), (Value.string g0_x_9), (Value.int .i64 g0_x_10), (Value.string g0_x_11), (Value.int .i64 g0_x_12)])]) h = F_liverylaw13_SireadNone g0_x_0 g0_x_1 g0_x_2 g0_x_3 g0_x_4 g0_x_5 g0_x_6 g0_x_7 g0_x_8 g0_x_9 g0_x_10 g0_x_11 g0_x_12 h Q := by kernel_rfl
theorem O_liverylaw13_SireadNone (g0_x_0 : Int) (g0_x_1 : Int) (g0_x_2 : Int) (g0_x_3 : Int) (g0_x_4 : ByteArray) (g0_x_5 : Int) (g0_x_6 : ByteArray) (g0_x_7 : Int) (g0_x_8 : Int) (g0_x_9 : ByteArray) (g0_x_10 : Int) (g0_x_11 : ByteArray) (g0_x_12 : Int) {h : Hp} {Q : List Value → Hp → Prop} (H : F_liverylaw13_SireadNone g0_x_0 g0_x_1 g0_x_2 g0_x_3 g0_x_4 g0_x_5 g0_x_6 g0_x_7 g0_x_8 g0_x_9 g0_x_10 g0_x_11 g0_x_12 h Q) : S_liverylaw13_SireadNone g0_x_0 g0_x_1 g0_x_2 g0_x_3 g0_x_4 g0_x_5 g0_x_6 g0_x_7 g0_x_8 g0_x_9 g0_x_10 g0_x_11 g0_x_12 h Q :=
  fn_of_cw (hs := (fun _ => [])) (ann := A_liverylaw13_SireadNone) (args := [(Value.agg #[(Value.int .i64 g0_x_0), (Value.int .i64 g0_x_1), (Value.int .i64 g0_x_2), (Value.int .i64 g0_x_3), (Value.string g0_x_4), (Value.int .i64 g0_x_5), (Value.string g0_x_6), (Value.int .i64 g0_x_7), (Value.int .i64 g0_x_8), (Value.string g0_x_9), (Value.int .i64 g0_x_10), (Value.string g0_x_11), (Value.int .i64 g0_x_12)])]) mixedPP Try.func5 (c := bodyOf Try.f5) (by kernel_rfl) (by kernel_rfl) (by kernel_rfl) (Eq.mpr (E_liverylaw13_SireadNone g0_x_0 g0_x_1 g0_x_2 g0_x_3 g0_x_4 g0_x_5 g0_x_6 g0_x_7 g0_x_8 g0_x_9 g0_x_10 g0_x_11 g0_x_12 h Q) H)
def F_siread_Table_Owners_1 (g0_y_0 : Int) (g0_y_1 : ByteArray) (g0_y_2 : Int) (g0_y_3 : ByteArray) (g0_y_4 : Int) (g1_x : Addr) (h : Hp) (Q : List Value → Hp → Prop) : Prop :=
wth (Array.push h (Obj.cells #[(Value.int .i64 g0_y_0), (Value.string g0_y_1), (Value.int .i64 g0_y_2), (Value.string g0_y_3), (Value.int .i64 g0_y_4)] T_siread_Thing)) fun h1 =>
∃ n2 : Int, rd h1 (Addr.add (Addr.mk (Array.size h) 0 none) 0) = some (Value.int .i64 n2) ∧ ∃ s3 : ByteArray, rd h1 (Addr.add (Addr.mk (Array.size h) 0 none) 1) = some (Value.string s3) ∧ ∃ n4 : Int, rd h1 (Addr.add (Addr.mk (Array.size h) 0 none) 2) = some (Value.int .i64 n4) ∧ ∃ s5 : ByteArray, rd h1 (Addr.add (Addr.mk (Array.size h) 0 none) 3) = some (Value.string s5) ∧ ∃ n6 : Int, rd h1 (Addr.add (Addr.mk (Array.size h) 0 none) 4) = some (Value.int .i64 n6) ∧ ∃ n7 : Int, rd h1 (Addr.add g1_x 0) = some (Value.int .i64 n7) ∧ ∃ s8 : ByteArray, rd h1 (Addr.add g1_x 1) = some (Value.string s8) ∧ ∃ n9 : Int, rd h1 (Addr.add g1_x 2) = some (Value.int .i64 n9) ∧ ∃ s10 : ByteArray, rd h1 (Addr.add g1_x 3) = some (Value.string s10) ∧ ∃ n11 : Int, rd h1 (Addr.add g1_x 4) = some (Value.int .i64 n11) ∧ (if (n2 == n7 && (s3 == s8 && (n4 == n9 && (s5 == s10 && (n6 == n11 && true))))) = true then (Q [(Value.bool true)] h1) else
  (∃ n12 : Int, rd h1 (Addr.add g1_x 0) = some (Value.int .i64 n12) ∧ ∃ s13 : ByteArray, rd h1 (Addr.add g1_x 1) = some (Value.string s13) ∧ ∃ n14 : Int, rd h1 (Addr.add g1_x 2) = some (Value.int .i64 n14) ∧ ∃ s15 : ByteArray, rd h1 (Addr.add g1_x 3) = some (Value.string s15) ∧ ∃ n16 : Int, rd h1 (Addr.add g1_x 4) = some (Value.int .i64 n16) ∧ S_siread_Thing_fine n12 s13 n14 s15 n16 h1 fun (vs17 : List Value) (h18 : Hp) =>
    ∃ b19 : Bool, vs17 = [(Value.bool b19)] ∧
    (if b19 = true then (∃ n20 : Int, rd h18 (Addr.add (Addr.mk (Array.size h) 0 none) 0) = some (Value.int .i64 n20) ∧ ∃ s21 : ByteArray, rd h18 (Addr.add (Addr.mk (Array.size h) 0 none) 1) = some (Value.string s21) ∧ ∃ n22 : Int, rd h18 (Addr.add (Addr.mk (Array.size h) 0 none) 2) = some (Value.int .i64 n22) ∧ ∃ s23 : ByteArray, rd h18 (Addr.add (Addr.mk (Array.size h) 0 none) 3) = some (Value.string s23) ∧ ∃ n24 : Int, rd h18 (Addr.add (Addr.mk (Array.size h) 0 none) 4) = some (Value.int .i64 n24) ∧ ∃ n25 : Int, rd h18 (Addr.add g1_x 0) = some (Value.int .i64 n25) ∧ ∃ s26 : ByteArray, rd h18 (Addr.add g1_x 1) = some (Value.string s26) ∧ ∃ n27 : Int, rd h18 (Addr.add g1_x 2) = some (Value.int .i64 n27) ∧ ∃ s28 : ByteArray, rd h18 (Addr.add g1_x 3) = some (Value.string s28) ∧ ∃ n29 : Int, rd h18 (Addr.add g1_x 4) = some (Value.int .i64 n29) ∧ S_siread_Thing_rel n25 s26 n27 s28 n29 h18 fun (vs30 : List Value) (h31 : Hp) =>
        ∃ n32 : Int, ∃ s33 : ByteArray, ∃ n34 : Int, ∃ s35 : ByteArray, ∃ n36 : Int, vs30 = [(Value.agg #[(Value.int .i64 n32), (Value.string s33), (Value.int .i64 n34), (Value.string s35), (Value.int .i64 n36)])] ∧
        rd h31 (Addr.add (Addr.mk (Array.size h) 0 none) 0) = some (Value.int .i64 n20) ∧ rd h31 (Addr.add (Addr.mk (Array.size h) 0 none) 1) = some (Value.string s21) ∧ rd h31 (Addr.add (Addr.mk (Array.size h) 0 none) 2) = some (Value.int .i64 n22) ∧ rd h31 (Addr.add (Addr.mk (Array.size h) 0 none) 3) = some (Value.string s23) ∧ rd h31 (Addr.add (Addr.mk (Array.size h) 0 none) 4) = some (Value.int .i64 n24) ∧ Q [(Value.bool (n20 == n32 && (s21 == s33 && (n22 == n34 && (s23 == s35 && (n24 == n36 && true))))))] h31) else
      (Q [(Value.bool false)] h18))))
def A_siread_Table_Owners_1 : Ann := .nil
theorem E_siread_Table_Owners_1 (g0_y_0 : Int) (g0_y_1 : ByteArray) (g0_y_2 : Int) (g0_y_3 : ByteArray) (g0_y_4 : Int) (g1_x : Addr) (h : Hp) (Q : List Value → Hp → Prop) : cw PP 17 (fun _ => []) (bodyOf Try.f23) A_siread_Table_Owners_1 (finQ PP (Try.f23.results.toList) Q) (argFr [(Value.agg #[(Value.int .i64 g0_y_0), (Value.string g0_y_1), (Value.int .i64 g0_y_2), (Value.string g0_y_3), (Value.int .i64 g0_y_4)]), (Value.pointer (some g1_x))]) h = F_siread_Table_Owners_1 g0_y_0 g0_y_1 g0_y_2 g0_y_3 g0_y_4 g1_x h Q := by kernel_rfl
theorem O_siread_Table_Owners_1 (g0_y_0 : Int) (g0_y_1 : ByteArray) (g0_y_2 : Int) (g0_y_3 : ByteArray) (g0_y_4 : Int) (g1_x : Addr) {h : Hp} {Q : List Value → Hp → Prop} (H : F_siread_Table_Owners_1 g0_y_0 g0_y_1 g0_y_2 g0_y_3 g0_y_4 g1_x h Q) : S_siread_Table_Owners_1 g0_y_0 g0_y_1 g0_y_2 g0_y_3 g0_y_4 g1_x h Q :=
  fn_of_cw (hs := (fun _ => [])) (ann := A_siread_Table_Owners_1) (args := [(Value.agg #[(Value.int .i64 g0_y_0), (Value.string g0_y_1), (Value.int .i64 g0_y_2), (Value.string g0_y_3), (Value.int .i64 g0_y_4)]), (Value.pointer (some g1_x))]) mixedPP Try.func23 (c := bodyOf Try.f23) (by kernel_rfl) (by kernel_rfl) (by kernel_rfl) (Eq.mpr (E_siread_Table_Owners_1 g0_y_0 g0_y_1 g0_y_2 g0_y_3 g0_y_4 g1_x h Q) H)
def F_siread_Table_Rough_1 (g0_y_0 : Int) (g0_y_1 : ByteArray) (g0_y_2 : Int) (g0_y_3 : ByteArray) (g0_y_4 : Int) (g1_x : Addr) (h : Hp) (Q : List Value → Hp → Prop) : Prop :=
wth (Array.push h (Obj.cells #[(Value.int .i64 g0_y_0), (Value.string g0_y_1), (Value.int .i64 g0_y_2), (Value.string g0_y_3), (Value.int .i64 g0_y_4)] T_siread_Thing)) fun h1 =>
∃ n2 : Int, rd h1 (Addr.add (Addr.mk (Array.size h) 0 none) 0) = some (Value.int .i64 n2) ∧
(if (decide (n2 ≥ (2 : Int))) = true then (∃ n3 : Int, rd h1 (Addr.add (Addr.mk (Array.size h) 0 none) 2) = some (Value.int .i64 n3) ∧
    ∃ n4 : Int, rd h1 g1_x = some (Value.int .i64 n4) ∧
    Q [(Value.bool (n3 == n4))] h1) else
  (Q [(Value.bool false)] h1))
def A_siread_Table_Rough_1 : Ann := .nil
theorem E_siread_Table_Rough_1 (g0_y_0 : Int) (g0_y_1 : ByteArray) (g0_y_2 : Int) (g0_y_3 : ByteArray) (g0_y_4 : Int) (g1_x : Addr) (h : Hp) (Q : List Value → Hp → Prop) : cw PP 13 (fun _ => []) (bodyOf Try.f26) A_siread_Table_Rough_1 (finQ PP (Try.f26.results.toList) Q) (argFr [(Value.agg #[(Value.int .i64 g0_y_0), (Value.string g0_y_1), (Value.int .i64 g0_y_2), (Value.string g0_y_3), (Value.int .i64 g0_y_4)]), (Value.pointer (some g1_x))]) h = F_siread_Table_Rough_1 g0_y_0 g0_y_1 g0_y_2 g0_y_3 g0_y_4 g1_x h Q := by kernel_rfl
theorem O_siread_Table_Rough_1 (g0_y_0 : Int) (g0_y_1 : ByteArray) (g0_y_2 : Int) (g0_y_3 : ByteArray) (g0_y_4 : Int) (g1_x : Addr) {h : Hp} {Q : List Value → Hp → Prop} (H : F_siread_Table_Rough_1 g0_y_0 g0_y_1 g0_y_2 g0_y_3 g0_y_4 g1_x h Q) : S_siread_Table_Rough_1 g0_y_0 g0_y_1 g0_y_2 g0_y_3 g0_y_4 g1_x h Q :=
  fn_of_cw (hs := (fun _ => [])) (ann := A_siread_Table_Rough_1) (args := [(Value.agg #[(Value.int .i64 g0_y_0), (Value.string g0_y_1), (Value.int .i64 g0_y_2), (Value.string g0_y_3), (Value.int .i64 g0_y_4)]), (Value.pointer (some g1_x))]) mixedPP Try.func26 (c := bodyOf Try.f26) (by kernel_rfl) (by kernel_rfl) (by kernel_rfl) (Eq.mpr (E_siread_Table_Rough_1 g0_y_0 g0_y_1 g0_y_2 g0_y_3 g0_y_4 g1_x h Q) H)
def F_cmp_Or_int (g0_vals : Sl) (h : Hp) (Q : List Value → Hp → Prop) : Prop :=
∀ X1 : List Value → Hp → Prop, (∀ n2 : Int, ∀ h3 : Hp, ((if (decide (n2 < (g0_vals.n : Int))) = true then
      (nilW g0_vals.a fun a4 => ixOk n2 g0_vals.n (∃ n5 : Int, rd h3 (Addr.add a4 (Int.toNat n2 * 1)) = some (Value.int .i64 n5) ∧
          (if (n5 != (0 : Int)) = true then
            (Q [(Value.int .i64 n5)] h3) else
            (X1 [(Value.int .i64 (IntKind.wrap .i64 (n2 + (1 : Int))))] h3)))) else
      (Q [(Value.int .i64 (0 : Int))] h3))) → X1 [(Value.int .i64 n2)] h3) →
X1 [(Value.int .i64 (0 : Int))] h
def A_cmp_Or_int : Ann := (.mk none ⟨[], []⟩ .nil (.mk none ⟨[], []⟩ .nil (.mk none ⟨[], []⟩ (.mk none ⟨[], []⟩ .nil (.mk none ⟨[], []⟩ (.mk none ⟨[3, 6, 7], [(8, (.c (.int .i64)))]⟩ .nil .nil) .nil)) .nil)))
theorem E_cmp_Or_int (g0_vals : Sl) (h : Hp) (Q : List Value → Hp → Prop) : cw PP 18 (fun _ => []) (bodyOf Try.f44) A_cmp_Or_int (finQ PP (Try.f44.results.toList) Q) (argFr [(Value.slice g0_vals.a g0_vals.n g0_vals.c)]) h = F_cmp_Or_int g0_vals h Q := by kernel_rfl
theorem O_cmp_Or_int (g0_vals : Sl) {h : Hp} {Q : List Value → Hp → Prop} (H : F_cmp_Or_int g0_vals h Q) : S_cmp_Or_int g0_vals h Q :=
  fn_of_cw (hs := (fun _ => [])) (ann := A_cmp_Or_int) (args := [(Value.slice g0_vals.a g0_vals.n g0_vals.c)]) mixedPP Try.func44 (c := bodyOf Try.f44) (by kernel_rfl) (by kernel_rfl) (by kernel_rfl) (Eq.mpr (E_cmp_Or_int g0_vals h Q) H)
def F_cmp_Compare_int (g0_x : Int) (g1_y : Int) (h : Hp) (Q : List Value → Hp → Prop) : Prop :=
S_cmp_isNaN_int g0_x h fun (vs1 : List Value) (h2 : Hp) =>
∃ b3 : Bool, vs1 = [(Value.bool b3)] ∧
S_cmp_isNaN_int g1_y h2 fun (vs4 : List Value) (h5 : Hp) =>
∃ b6 : Bool, vs4 = [(Value.bool b6)] ∧
(if b3 = true then
  ((if b6 = true then
      (Q [(Value.int .i64 (0 : Int))] h5) else
      (Q [(Value.int .i64 (-1 : Int))] h5))) else
  ((if b6 = true then
      (Q [(Value.int .i64 (1 : Int))] h5) else
      ((if (decide (g0_x < g1_y)) = true then
          (Q [(Value.int .i64 (-1 : Int))] h5) else
          ((if (decide (g0_x > g1_y)) = true then
              (Q [(Value.int .i64 (1 : Int))] h5) else
              (Q [(Value.int .i64 (0 : Int))] h5))))))))
def A_cmp_Compare_int : Ann := .nil
theorem E_cmp_Compare_int (g0_x : Int) (g1_y : Int) (h : Hp) (Q : List Value → Hp → Prop) : cw PP 20 (fun _ => []) (bodyOf Try.f45) A_cmp_Compare_int (finQ PP (Try.f45.results.toList) Q) (argFr [(Value.int .i64 g0_x), (Value.int .i64 g1_y)]) h = F_cmp_Compare_int g0_x g1_y h Q := by kernel_rfl
theorem O_cmp_Compare_int (g0_x : Int) (g1_y : Int) {h : Hp} {Q : List Value → Hp → Prop} (H : F_cmp_Compare_int g0_x g1_y h Q) : S_cmp_Compare_int g0_x g1_y h Q :=
  fn_of_cw (hs := (fun _ => [])) (ann := A_cmp_Compare_int) (args := [(Value.int .i64 g0_x), (Value.int .i64 g1_y)]) mixedPP Try.func45 (c := bodyOf Try.f45) (by kernel_rfl) (by kernel_rfl) (by kernel_rfl) (Eq.mpr (E_cmp_Compare_int g0_x g1_y h Q) H)
def F_cmp_isNaN_string (g0_x : ByteArray) (h : Hp) (Q : List Value → Hp → Prop) : Prop :=
Q [(Value.bool (!((ByteArray.toList g0_x) == (ByteArray.toList g0_x))))] h
def A_cmp_isNaN_string : Ann := .nil
theorem E_cmp_isNaN_string (g0_x : ByteArray) (h : Hp) (Q : List Value → Hp → Prop) : cw PP 6 (fun _ => []) (bodyOf Try.f52) A_cmp_isNaN_string (finQ PP (Try.f52.results.toList) Q) (argFr [(Value.string g0_x)]) h = F_cmp_isNaN_string g0_x h Q := by kernel_rfl
theorem O_cmp_isNaN_string (g0_x : ByteArray) {h : Hp} {Q : List Value → Hp → Prop} (H : F_cmp_isNaN_string g0_x h Q) : S_cmp_isNaN_string g0_x h Q :=
  fn_of_cw (hs := (fun _ => [])) (ann := A_cmp_isNaN_string) (args := [(Value.string g0_x)]) mixedPP Try.func52 (c := bodyOf Try.f52) (by kernel_rfl) (by kernel_rfl) (by kernel_rfl) (Eq.mpr (E_cmp_isNaN_string g0_x h Q) H)
def F_cmp_Compare_string (g0_x : ByteArray) (g1_y : ByteArray) (h : Hp) (Q : List Value → Hp → Prop) : Prop :=
S_cmp_isNaN_string g0_x h fun (vs1 : List Value) (h2 : Hp) =>
∃ b3 : Bool, vs1 = [(Value.bool b3)] ∧
S_cmp_isNaN_string g1_y h2 fun (vs4 : List Value) (h5 : Hp) =>
∃ b6 : Bool, vs4 = [(Value.bool b6)] ∧
(if b3 = true then
  ((if b6 = true then
      (Q [(Value.int .i64 (0 : Int))] h5) else
      (Q [(Value.int .i64 (-1 : Int))] h5))) else
  ((if b6 = true then
      (Q [(Value.int .i64 (1 : Int))] h5) else
      ((if (Op.bytesLess (ByteArray.toList g0_x) (ByteArray.toList g1_y)) = true then
          (Q [(Value.int .i64 (-1 : Int))] h5) else
          ((if (!(Op.bytesLess (ByteArray.toList g0_x) (ByteArray.toList g1_y) || (ByteArray.toList g0_x) == (ByteArray.toList g1_y))) = true then
              (Q [(Value.int .i64 (1 : Int))] h5) else
              (Q [(Value.int .i64 (0 : Int))] h5))))))))
def A_cmp_Compare_string : Ann := .nil
theorem E_cmp_Compare_string (g0_x : ByteArray) (g1_y : ByteArray) (h : Hp) (Q : List Value → Hp → Prop) : cw PP 20 (fun _ => []) (bodyOf Try.f46) A_cmp_Compare_string (finQ PP (Try.f46.results.toList) Q) (argFr [(Value.string g0_x), (Value.string g1_y)]) h = F_cmp_Compare_string g0_x g1_y h Q := by kernel_rfl
theorem O_cmp_Compare_string (g0_x : ByteArray) (g1_y : ByteArray) {h : Hp} {Q : List Value → Hp → Prop} (H : F_cmp_Compare_string g0_x g1_y h Q) : S_cmp_Compare_string g0_x g1_y h Q :=
  fn_of_cw (hs := (fun _ => [])) (ann := A_cmp_Compare_string) (args := [(Value.string g0_x), (Value.string g1_y)]) mixedPP Try.func46 (c := bodyOf Try.f46) (by kernel_rfl) (by kernel_rfl) (by kernel_rfl) (Eq.mpr (E_cmp_Compare_string g0_x g1_y h Q) H)
def F_siread_compare (g0_a_0 : Int) (g0_a_1 : ByteArray) (g0_a_2 : Int) (g0_a_3 : ByteArray) (g0_a_4 : Int) (g1_b_0 : Int) (g1_b_1 : ByteArray) (g1_b_2 : Int) (g1_b_3 : ByteArray) (g1_b_4 : Int) (h : Hp) (Q : List Value → Hp → Prop) : Prop :=
wth (Array.push h (Obj.cells #[(Value.int .i64 g0_a_0), (Value.string g0_a_1), (Value.int .i64 g0_a_2), (Value.string g0_a_3), (Value.int .i64 g0_a_4)] T_siread_Thing)) fun h1 =>
wth (Array.push h1 (Obj.cells #[(Value.int .i64 g1_b_0), (Value.string g1_b_1), (Value.int .i64 g1_b_2), (Value.string g1_b_3), (Value.int .i64 g1_b_4)] T_siread_Thing)) fun h2 =>
∃ n3 : Int, rd h2 (Addr.add (Addr.mk (Array.size h) 0 none) 0) = some (Value.int .i64 n3) ∧
∃ n4 : Int, rd h2 (Addr.add (Addr.mk (Array.size h1) 0 none) 0) = some (Value.int .i64 n4) ∧
∃ s5 : ByteArray, rd h2 (Addr.add (Addr.mk (Array.size h) 0 none) 1) = some (Value.string s5) ∧
∃ s6 : ByteArray, rd h2 (Addr.add (Addr.mk (Array.size h1) 0 none) 1) = some (Value.string s6) ∧
∃ n7 : Int, rd h2 (Addr.add (Addr.mk (Array.size h) 0 none) 2) = some (Value.int .i64 n7) ∧
∃ n8 : Int, rd h2 (Addr.add (Addr.mk (Array.size h1) 0 none) 2) = some (Value.int .i64 n8) ∧
∃ s9 : ByteArray, rd h2 (Addr.add (Addr.mk (Array.size h) 0 none) 3) = some (Value.string s9) ∧
∃ s10 : ByteArray, rd h2 (Addr.add (Addr.mk (Array.size h1) 0 none) 3) = some (Value.string s10) ∧
∃ n11 : Int, rd h2 (Addr.add (Addr.mk (Array.size h) 0 none) 4) = some (Value.int .i64 n11) ∧
∃ n12 : Int, rd h2 (Addr.add (Addr.mk (Array.size h1) 0 none) 4) = some (Value.int .i64 n12) ∧
S_cmp_Compare_int n3 n4 h2 fun (vs13 : List Value) (h14 : Hp) =>
∃ n15 : Int, vs13 = [(Value.int .i64 n15)] ∧
rd h14 (Addr.add (Addr.mk (Array.size h1) 0 none) 4) = some (Value.int .i64 n12) ∧ rd h14 (Addr.add (Addr.mk (Array.size h) 0 none) 4) = some (Value.int .i64 n11) ∧ rd h14 (Addr.add (Addr.mk (Array.size h1) 0 none) 3) = some (Value.string s10) ∧ rd h14 (Addr.add (Addr.mk (Array.size h) 0 none) 3) = some (Value.string s9) ∧ rd h14 (Addr.add (Addr.mk (Array.size h1) 0 none) 2) = some (Value.int .i64 n8) ∧ rd h14 (Addr.add (Addr.mk (Array.size h) 0 none) 2) = some (Value.int .i64 n7) ∧ rd h14 (Addr.add (Addr.mk (Array.size h1) 0 none) 1) = some (Value.string s6) ∧ rd h14 (Addr.add (Addr.mk (Array.size h) 0 none) 1) = some (Value.string s5) ∧ S_cmp_Compare_string s5 s6 h14 fun (vs16 : List Value) (h17 : Hp) =>
∃ n18 : Int, vs16 = [(Value.int .i64 n18)] ∧
rd h17 (Addr.add (Addr.mk (Array.size h1) 0 none) 4) = some (Value.int .i64 n12) ∧ rd h17 (Addr.add (Addr.mk (Array.size h) 0 none) 4) = some (Value.int .i64 n11) ∧ rd h17 (Addr.add (Addr.mk (Array.size h1) 0 none) 3) = some (Value.string s10) ∧ rd h17 (Addr.add (Addr.mk (Array.size h) 0 none) 3) = some (Value.string s9) ∧ rd h17 (Addr.add (Addr.mk (Array.size h1) 0 none) 2) = some (Value.int .i64 n8) ∧ rd h17 (Addr.add (Addr.mk (Array.size h) 0 none) 2) = some (Value.int .i64 n7) ∧ S_cmp_Compare_int n7 n8 h17 fun (vs19 : List Value) (h20 : Hp) =>
∃ n21 : Int, vs19 = [(Value.int .i64 n21)] ∧
rd h20 (Addr.add (Addr.mk (Array.size h1) 0 none) 4) = some (Value.int .i64 n12) ∧ rd h20 (Addr.add (Addr.mk (Array.size h) 0 none) 4) = some (Value.int .i64 n11) ∧ rd h20 (Addr.add (Addr.mk (Array.size h1) 0 none) 3) = some (Value.string s10) ∧ rd h20 (Addr.add (Addr.mk (Array.size h) 0 none) 3) = some (Value.string s9) ∧ S_cmp_Compare_string s9 s10 h20 fun (vs22 : List Value) (h23 : Hp) =>
∃ n24 : Int, vs22 = [(Value.int .i64 n24)] ∧
rd h23 (Addr.add (Addr.mk (Array.size h1) 0 none) 4) = some (Value.int .i64 n12) ∧ rd h23 (Addr.add (Addr.mk (Array.size h) 0 none) 4) = some (Value.int .i64 n11) ∧ S_cmp_Compare_int n11 n12 h23 fun (vs25 : List Value) (h26 : Hp) =>
∃ n27 : Int, vs25 = [(Value.int .i64 n27)] ∧
wth (Array.push h26 (Obj.cells #[(Value.int .i64 n15), (Value.int .i64 n18), (Value.int .i64 n21), (Value.int .i64 n24), (Value.int .i64 n27)] T_int)) fun h28 =>
S_cmp_Or_int ⟨(some (Addr.mk (Array.size h26) 0 none)), 5, 5⟩ h28 fun (vs29 : List Value) (h30 : Hp) =>
∃ n31 : Int, vs29 = [(Value.int .i64 n31)] ∧
Q [(Value.int .i64 n31)] h30
def A_siread_compare : Ann := .nil
theorem E_siread_compare (g0_a_0 : Int) (g0_a_1 : ByteArray) (g0_a_2 : Int) (g0_a_3 : ByteArray) (g0_a_4 : Int) (g1_b_0 : Int) (g1_b_1 : ByteArray) (g1_b_2 : Int) (g1_b_3 : ByteArray) (g1_b_4 : Int) (h : Hp) (Q : List Value → Hp → Prop) : cw PP 32 (fun _ => []) (bodyOf Try.f33) A_siread_compare (finQ PP (Try.f33.results.toList) Q) (argFr [(Value.agg #[(Value.int .i64 g0_a_0), (Value.string g0_a_1), (Value.int .i64 g0_a_2), (Value.string g0_a_3), (Value.int .i64 g0_a_4)]), (Value.agg #[(Value.int .i64 g1_b_0), (Value.string g1_b_1), (Value.int .i64 g1_b_2), (Value.string g1_b_3), (Value.int .i64 g1_b_4)])]) h = F_siread_compare g0_a_0 g0_a_1 g0_a_2 g0_a_3 g0_a_4 g1_b_0 g1_b_1 g1_b_2 g1_b_3 g1_b_4 h Q := by kernel_rfl
theorem O_siread_compare (g0_a_0 : Int) (g0_a_1 : ByteArray) (g0_a_2 : Int) (g0_a_3 : ByteArray) (g0_a_4 : Int) (g1_b_0 : Int) (g1_b_1 : ByteArray) (g1_b_2 : Int) (g1_b_3 : ByteArray) (g1_b_4 : Int) {h : Hp} {Q : List Value → Hp → Prop} (H : F_siread_compare g0_a_0 g0_a_1 g0_a_2 g0_a_3 g0_a_4 g1_b_0 g1_b_1 g1_b_2 g1_b_3 g1_b_4 h Q) : S_siread_compare g0_a_0 g0_a_1 g0_a_2 g0_a_3 g0_a_4 g1_b_0 g1_b_1 g1_b_2 g1_b_3 g1_b_4 h Q :=
  fn_of_cw (hs := (fun _ => [])) (ann := A_siread_compare) (args := [(Value.agg #[(Value.int .i64 g0_a_0), (Value.string g0_a_1), (Value.int .i64 g0_a_2), (Value.string g0_a_3), (Value.int .i64 g0_a_4)]), (Value.agg #[(Value.int .i64 g1_b_0), (Value.string g1_b_1), (Value.int .i64 g1_b_2), (Value.string g1_b_3), (Value.int .i64 g1_b_4)])]) mixedPP Try.func33 (c := bodyOf Try.f33) (by kernel_rfl) (by kernel_rfl) (by kernel_rfl) (Eq.mpr (E_siread_compare g0_a_0 g0_a_1 g0_a_2 g0_a_3 g0_a_4 g1_b_0 g1_b_1 g1_b_2 g1_b_3 g1_b_4 h Q) H)
def F_siread_Table_take_1 (g0_y_0 : Int) (g0_y_1 : ByteArray) (g0_y_2 : Int) (g0_y_3 : ByteArray) (g0_y_4 : Int) (g1_x : Addr) (h : Hp) (Q : List Value → Hp → Prop) : Prop :=
wth (Array.push h (Obj.cells #[(Value.int .i64 g0_y_0), (Value.string g0_y_1), (Value.int .i64 g0_y_2), (Value.string g0_y_3), (Value.int .i64 g0_y_4)] T_siread_Thing)) fun h1 =>
∃ n2 : Int, rd h1 (Addr.add (Addr.mk (Array.size h) 0 none) 0) = some (Value.int .i64 n2) ∧ ∃ s3 : ByteArray, rd h1 (Addr.add (Addr.mk (Array.size h) 0 none) 1) = some (Value.string s3) ∧ ∃ n4 : Int, rd h1 (Addr.add (Addr.mk (Array.size h) 0 none) 2) = some (Value.int .i64 n4) ∧ ∃ s5 : ByteArray, rd h1 (Addr.add (Addr.mk (Array.size h) 0 none) 3) = some (Value.string s5) ∧ ∃ n6 : Int, rd h1 (Addr.add (Addr.mk (Array.size h) 0 none) 4) = some (Value.int .i64 n6) ∧ S_siread_Thing_fine n2 s3 n4 s5 n6 h1 fun (vs7 : List Value) (h8 : Hp) =>
∃ b9 : Bool, vs7 = [(Value.bool b9)] ∧
(if b9 = true then (∃ n10 : Int, rd h8 (Addr.add (Addr.mk (Array.size h) 0 none) 2) = some (Value.int .i64 n10) ∧
    ∃ n11 : Int, rd h8 (Addr.add g1_x 2) = some (Value.int .i64 n11) ∧
    Q [(Value.bool (n10 == n11))] h8) else
  (Q [(Value.bool false)] h8))
def A_siread_Table_take_1 : Ann := .nil
theorem E_siread_Table_take_1 (g0_y_0 : Int) (g0_y_1 : ByteArray) (g0_y_2 : Int) (g0_y_3 : ByteArray) (g0_y_4 : Int) (g1_x : Addr) (h : Hp) (Q : List Value → Hp → Prop) : cw PP 13 (fun _ => []) (bodyOf Try.f36) A_siread_Table_take_1 (finQ PP (Try.f36.results.toList) Q) (argFr [(Value.agg #[(Value.int .i64 g0_y_0), (Value.string g0_y_1), (Value.int .i64 g0_y_2), (Value.string g0_y_3), (Value.int .i64 g0_y_4)]), (Value.pointer (some g1_x))]) h = F_siread_Table_take_1 g0_y_0 g0_y_1 g0_y_2 g0_y_3 g0_y_4 g1_x h Q := by kernel_rfl
theorem O_siread_Table_take_1 (g0_y_0 : Int) (g0_y_1 : ByteArray) (g0_y_2 : Int) (g0_y_3 : ByteArray) (g0_y_4 : Int) (g1_x : Addr) {h : Hp} {Q : List Value → Hp → Prop} (H : F_siread_Table_take_1 g0_y_0 g0_y_1 g0_y_2 g0_y_3 g0_y_4 g1_x h Q) : S_siread_Table_take_1 g0_y_0 g0_y_1 g0_y_2 g0_y_3 g0_y_4 g1_x h Q :=
  fn_of_cw (hs := (fun _ => [])) (ann := A_siread_Table_take_1) (args := [(Value.agg #[(Value.int .i64 g0_y_0), (Value.string g0_y_1), (Value.int .i64 g0_y_2), (Value.string g0_y_3), (Value.int .i64 g0_y_4)]), (Value.pointer (some g1_x))]) mixedPP Try.func36 (c := bodyOf Try.f36) (by kernel_rfl) (by kernel_rfl) (by kernel_rfl) (Eq.mpr (E_siread_Table_take_1 g0_y_0 g0_y_1 g0_y_2 g0_y_3 g0_y_4 g1_x h Q) H)
def F_siread_Table_Copy_1 (g0_y_0 : Int) (g0_y_1 : ByteArray) (g0_y_2 : Int) (g0_y_3 : ByteArray) (g0_y_4 : Int) (g1_x : Addr) (h : Hp) (Q : List Value → Hp → Prop) : Prop :=
wth (Array.push h (Obj.cells #[(Value.int .i64 g0_y_0), (Value.string g0_y_1), (Value.int .i64 g0_y_2), (Value.string g0_y_3), (Value.int .i64 g0_y_4)] T_siread_Thing)) fun h1 =>
∃ n2 : Int, rd h1 (Addr.add (Addr.mk (Array.size h) 0 none) 0) = some (Value.int .i64 n2) ∧ ∃ s3 : ByteArray, rd h1 (Addr.add (Addr.mk (Array.size h) 0 none) 1) = some (Value.string s3) ∧ ∃ n4 : Int, rd h1 (Addr.add (Addr.mk (Array.size h) 0 none) 2) = some (Value.int .i64 n4) ∧ ∃ s5 : ByteArray, rd h1 (Addr.add (Addr.mk (Array.size h) 0 none) 3) = some (Value.string s5) ∧ ∃ n6 : Int, rd h1 (Addr.add (Addr.mk (Array.size h) 0 none) 4) = some (Value.int .i64 n6) ∧ ∃ n7 : Int, rd h1 (Addr.add g1_x 0) = some (Value.int .i64 n7) ∧ ∃ s8 : ByteArray, rd h1 (Addr.add g1_x 1) = some (Value.string s8) ∧ ∃ n9 : Int, rd h1 (Addr.add g1_x 2) = some (Value.int .i64 n9) ∧ ∃ s10 : ByteArray, rd h1 (Addr.add g1_x 3) = some (Value.string s10) ∧ ∃ n11 : Int, rd h1 (Addr.add g1_x 4) = some (Value.int .i64 n11) ∧ Q [(Value.bool (n2 == n7 && (s3 == s8 && (n4 == n9 && (s5 == s10 && (n6 == n11 && true))))))] h1
def A_siread_Table_Copy_1 : Ann := .nil
theorem E_siread_Table_Copy_1 (g0_y_0 : Int) (g0_y_1 : ByteArray) (g0_y_2 : Int) (g0_y_3 : ByteArray) (g0_y_4 : Int) (g1_x : Addr) (h : Hp) (Q : List Value → Hp → Prop) : cw PP 7 (fun _ => []) (bodyOf Try.f38) A_siread_Table_Copy_1 (finQ PP (Try.f38.results.toList) Q) (argFr [(Value.agg #[(Value.int .i64 g0_y_0), (Value.string g0_y_1), (Value.int .i64 g0_y_2), (Value.string g0_y_3), (Value.int .i64 g0_y_4)]), (Value.pointer (some g1_x))]) h = F_siread_Table_Copy_1 g0_y_0 g0_y_1 g0_y_2 g0_y_3 g0_y_4 g1_x h Q := by kernel_rfl
theorem O_siread_Table_Copy_1 (g0_y_0 : Int) (g0_y_1 : ByteArray) (g0_y_2 : Int) (g0_y_3 : ByteArray) (g0_y_4 : Int) (g1_x : Addr) {h : Hp} {Q : List Value → Hp → Prop} (H : F_siread_Table_Copy_1 g0_y_0 g0_y_1 g0_y_2 g0_y_3 g0_y_4 g1_x h Q) : S_siread_Table_Copy_1 g0_y_0 g0_y_1 g0_y_2 g0_y_3 g0_y_4 g1_x h Q :=
  fn_of_cw (hs := (fun _ => [])) (ann := A_siread_Table_Copy_1) (args := [(Value.agg #[(Value.int .i64 g0_y_0), (Value.string g0_y_1), (Value.int .i64 g0_y_2), (Value.string g0_y_3), (Value.int .i64 g0_y_4)]), (Value.pointer (some g1_x))]) mixedPP Try.func38 (c := bodyOf Try.f38) (by kernel_rfl) (by kernel_rfl) (by kernel_rfl) (Eq.mpr (E_siread_Table_Copy_1 g0_y_0 g0_y_1 g0_y_2 g0_y_3 g0_y_4 g1_x h Q) H)
def F_siread_Table_Index_1 (g0_y_0 : Int) (g0_y_1 : ByteArray) (g0_y_2 : Int) (g0_y_3 : ByteArray) (g0_y_4 : Int) (g1_x : Addr) (g2_x : Addr) (h : Hp) (Q : List Value → Hp → Prop) : Prop :=
wth (Array.push h (Obj.cells #[(Value.int .i64 g0_y_0), (Value.string g0_y_1), (Value.int .i64 g0_y_2), (Value.string g0_y_3), (Value.int .i64 g0_y_4)] T_siread_Thing)) fun h1 =>
∃ n2 : Int, rd h1 (Addr.add (Addr.mk (Array.size h) 0 none) 0) = some (Value.int .i64 n2) ∧
(if (n2 == (3 : Int)) = true then (∃ n3 : Int, rd h1 (Addr.add (Addr.mk (Array.size h) 0 none) 2) = some (Value.int .i64 n3) ∧
    ∃ n4 : Int, rd h1 g1_x = some (Value.int .i64 n4) ∧
    (if (n3 == n4) = true then (∃ s5 : ByteArray, rd h1 (Addr.add (Addr.mk (Array.size h) 0 none) 3) = some (Value.string s5) ∧
        ∃ s6 : ByteArray, rd h1 g2_x = some (Value.string s6) ∧
        Q [(Value.bool ((ByteArray.toList s5) == (ByteArray.toList s6)))] h1) else
      (Q [(Value.bool false)] h1))) else
  (Q [(Value.bool false)] h1))
def A_siread_Table_Index_1 : Ann := .nil
theorem E_siread_Table_Index_1 (g0_y_0 : Int) (g0_y_1 : ByteArray) (g0_y_2 : Int) (g0_y_3 : ByteArray) (g0_y_4 : Int) (g1_x : Addr) (g2_x : Addr) (h : Hp) (Q : List Value → Hp → Prop) : cw PP 20 (fun _ => []) (bodyOf Try.f39) A_siread_Table_Index_1 (finQ PP (Try.f39.results.toList) Q) (argFr [(Value.agg #[(Value.int .i64 g0_y_0), (Value.string g0_y_1), (Value.int .i64 g0_y_2), (Value.string g0_y_3), (Value.int .i64 g0_y_4)]), (Value.pointer (some g1_x)), (Value.pointer (some g2_x))]) h = F_siread_Table_Index_1 g0_y_0 g0_y_1 g0_y_2 g0_y_3 g0_y_4 g1_x g2_x h Q := by kernel_rfl
theorem O_siread_Table_Index_1 (g0_y_0 : Int) (g0_y_1 : ByteArray) (g0_y_2 : Int) (g0_y_3 : ByteArray) (g0_y_4 : Int) (g1_x : Addr) (g2_x : Addr) {h : Hp} {Q : List Value → Hp → Prop} (H : F_siread_Table_Index_1 g0_y_0 g0_y_1 g0_y_2 g0_y_3 g0_y_4 g1_x g2_x h Q) : S_siread_Table_Index_1 g0_y_0 g0_y_1 g0_y_2 g0_y_3 g0_y_4 g1_x g2_x h Q :=
  fn_of_cw (hs := (fun _ => [])) (ann := A_siread_Table_Index_1) (args := [(Value.agg #[(Value.int .i64 g0_y_0), (Value.string g0_y_1), (Value.int .i64 g0_y_2), (Value.string g0_y_3), (Value.int .i64 g0_y_4)]), (Value.pointer (some g1_x)), (Value.pointer (some g2_x))]) mixedPP Try.func39 (c := bodyOf Try.f39) (by kernel_rfl) (by kernel_rfl) (by kernel_rfl) (Eq.mpr (E_siread_Table_Index_1 g0_y_0 g0_y_1 g0_y_2 g0_y_3 g0_y_4 g1_x g2_x h Q) H)
def F_siread_Table_Drop_1 (g0_x_0 : Int) (g0_x_1 : ByteArray) (g0_x_2 : Int) (g0_x_3 : ByteArray) (g0_x_4 : Int) (h : Hp) (Q : List Value → Hp → Prop) : Prop :=
wth (Array.push h (Obj.cells #[(Value.int .i64 g0_x_0), (Value.string g0_x_1), (Value.int .i64 g0_x_2), (Value.string g0_x_3), (Value.int .i64 g0_x_4)] T_siread_Thing)) fun h1 =>
Q [(Value.bool true)] h1
def A_siread_Table_Drop_1 : Ann := .nil
theorem E_siread_Table_Drop_1 (g0_x_0 : Int) (g0_x_1 : ByteArray) (g0_x_2 : Int) (g0_x_3 : ByteArray) (g0_x_4 : Int) (h : Hp) (Q : List Value → Hp → Prop) : cw PP 3 (fun _ => []) (bodyOf Try.f40) A_siread_Table_Drop_1 (finQ PP (Try.f40.results.toList) Q) (argFr [(Value.agg #[(Value.int .i64 g0_x_0), (Value.string g0_x_1), (Value.int .i64 g0_x_2), (Value.string g0_x_3), (Value.int .i64 g0_x_4)])]) h = F_siread_Table_Drop_1 g0_x_0 g0_x_1 g0_x_2 g0_x_3 g0_x_4 h Q := by kernel_rfl
theorem O_siread_Table_Drop_1 (g0_x_0 : Int) (g0_x_1 : ByteArray) (g0_x_2 : Int) (g0_x_3 : ByteArray) (g0_x_4 : Int) {h : Hp} {Q : List Value → Hp → Prop} (H : F_siread_Table_Drop_1 g0_x_0 g0_x_1 g0_x_2 g0_x_3 g0_x_4 h Q) : S_siread_Table_Drop_1 g0_x_0 g0_x_1 g0_x_2 g0_x_3 g0_x_4 h Q :=
  fn_of_cw (hs := (fun _ => [])) (ann := A_siread_Table_Drop_1) (args := [(Value.agg #[(Value.int .i64 g0_x_0), (Value.string g0_x_1), (Value.int .i64 g0_x_2), (Value.string g0_x_3), (Value.int .i64 g0_x_4)])]) mixedPP Try.func40 (c := bodyOf Try.f40) (by kernel_rfl) (by kernel_rfl) (by kernel_rfl) (Eq.mpr (E_siread_Table_Drop_1 g0_x_0 g0_x_1 g0_x_2 g0_x_3 g0_x_4 h Q) H)
def F_maps_Keys_map_siread_Thing_int_siread_Thing_int_1 (g0_yield_f : Nat) (g0_yield_c : Array Value) (g1_x : Addr) (h : Hp) (Q : List Value → Hp → Prop) : Prop :=
∃ r1 : Option Nat, rd h g1_x = some (Value.map r1) ∧
∃ o2 : Obj, IterOf h r1 o2 ∧ wth (Array.push h o2) fun h3 =>
∀ X4 : List Value → Hp → Prop, (∀ h5 : Hp, ((Addr.off (Addr.mk (Array.size h) 0 none) = 0 ∧ ∃ o6 : Obj, h5[Addr.block (Addr.mk (Array.size h) 0 none)]? = some o6 ∧ IterGood h5 o6 ∧
      (IterEnd h5 o6 → Q [] h5) ∧
      ∀ (k7 v8 : Value) (o9 : Obj), IterStep h5 o6 k7 v8 o9 → wth (Array.setIfInBounds h5 (Addr.block (Addr.mk (Array.size h) 0 none)) o9) fun h10 =>
      (Addr.off (Addr.mk (Array.size h) 0 none) = 0 ∧ ∃ (m11 n12 : Nat) (q13 : Array Nat) (n14 : Nat) (es15 : Array MapEntry) (c16 : Nat) (e17 : MapEntry), h10[Addr.block (Addr.mk (Array.size h) 0 none)]? = some (.mapIter (some m11) n12 q13 c16) ∧ Array.back? q13 = some n14 ∧ h10[m11]? = some (.map es15 c16) ∧ Array.find? (fun x => x.born == n14) es15 = some e17 ∧ ∃ n18 : Int, ∃ s19 : ByteArray, ∃ n20 : Int, ∃ s21 : ByteArray, ∃ n22 : Int, e17.key = (Value.agg #[(Value.int .i64 n18), (Value.string s19), (Value.int .i64 n20), (Value.string s21), (Value.int .i64 n22)]) ∧ ∃ v23 : Value, e17.val = v23 ∧ wth (Array.push h10 (Obj.cells #[(Value.int .i64 (0 : Int)), (Value.string (ByteArray.mk #[])), (Value.int .i64 (0 : Int)), (Value.string (ByteArray.mk #[])), (Value.int .i64 (0 : Int))] T_siread_Thing)) fun h24 =>
        stOk h24 (Addr.mk (Array.size h10) 0 none) 5 ∧ wth (wrs h24 (Addr.mk (Array.size h10) 0 none) 0 [(Value.int .i64 n18), (Value.string s19), (Value.int .i64 n20), (Value.string s21), (Value.int .i64 n22)]) fun h25 =>
        ∃ n26 : Int, rd h25 (Addr.add (Addr.mk (Array.size h10) 0 none) 0) = some (Value.int .i64 n26) ∧ ∃ s27 : ByteArray, rd h25 (Addr.add (Addr.mk (Array.size h10) 0 none) 1) = some (Value.string s27) ∧ ∃ n28 : Int, rd h25 (Addr.add (Addr.mk (Array.size h10) 0 none) 2) = some (Value.int .i64 n28) ∧ ∃ s29 : ByteArray, rd h25 (Addr.add (Addr.mk (Array.size h10) 0 none) 3) = some (Value.string s29) ∧ ∃ n30 : Int, rd h25 (Addr.add (Addr.mk (Array.size h10) 0 none) 4) = some (Value.int .i64 n30) ∧ Fn PP g0_yield_f ((#[] ++ #[(Value.agg #[(Value.int .i64 n26), (Value.string s27), (Value.int .i64 n28), (Value.string s29), (Value.int .i64 n30)])]) ++ g0_yield_c) h25 fun (vs31 : List Value) (h32 : Hp) =>
        ∃ b33 : Bool, vs31 = [(Value.bool b33)] ∧
        (if (!b33) = true then
          (Q [] h32) else
          (X4 [] h32))))) → X4 [] h5) →
X4 [] h3
def A_maps_Keys_map_siread_Thing_int_siread_Thing_int_1 : Ann := (.mk none ⟨[], []⟩ .nil (.mk none ⟨[], []⟩ (.mk none ⟨[0, 5], []⟩ .nil .nil) .nil))
theorem E_maps_Keys_map_siread_Thing_int_siread_Thing_int_1 (g0_yield_f : Nat) (g0_yield_c : Array Value) (g1_x : Addr) (h : Hp) (Q : List Value → Hp → Prop) : cw PP 14 (fun d => if d = 8 then [(.agg [(.int .i64), .str, (.int .i64), .str, (.int .i64)]), (.c .any)] else []) (bodyOf Try.f43) A_maps_Keys_map_siread_Thing_int_siread_Thing_int_1 (finQ PP (Try.f43.results.toList) Q) (argFr [(Value.func (.func g0_yield_f) #[] g0_yield_c), (Value.pointer (some g1_x))]) h = F_maps_Keys_map_siread_Thing_int_siread_Thing_int_1 g0_yield_f g0_yield_c g1_x h Q := by kernel_rfl
theorem O_maps_Keys_map_siread_Thing_int_siread_Thing_int_1 (g0_yield_f : Nat) (g0_yield_c : Array Value) (g1_x : Addr) {h : Hp} {Q : List Value → Hp → Prop} (H : F_maps_Keys_map_siread_Thing_int_siread_Thing_int_1 g0_yield_f g0_yield_c g1_x h Q) : S_maps_Keys_map_siread_Thing_int_siread_Thing_int_1 g0_yield_f g0_yield_c g1_x h Q :=
  fn_of_cw (hs := (fun d => if d = 8 then [(.agg [(.int .i64), .str, (.int .i64), .str, (.int .i64)]), (.c .any)] else [])) (ann := A_maps_Keys_map_siread_Thing_int_siread_Thing_int_1) (args := [(Value.func (.func g0_yield_f) #[] g0_yield_c), (Value.pointer (some g1_x))]) mixedPP Try.func43 (c := bodyOf Try.f43) (by kernel_rfl) (by kernel_rfl) (by kernel_rfl) (Eq.mpr (E_maps_Keys_map_siread_Thing_int_siread_Thing_int_1 g0_yield_f g0_yield_c g1_x h Q) H)
end Go.Lift

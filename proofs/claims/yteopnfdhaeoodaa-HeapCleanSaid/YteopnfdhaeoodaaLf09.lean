/- Printed by lift.py: each Go function of this seat as a Prop over the heap, and that the Go code comes to it. -/
import Derived.Test.YteopnfdhaeoodaaLvL
import Derived.Test.YteopnfdhaeoodaaProg
set_option linter.unusedSimpArgs false
set_option linter.unusedVariables false
namespace Go.Lift
open Go Go.Proofs
set_option maxRecDepth 100000
noncomputable abbrev PP : Program := Try.prog
theorem mixedPP : PP.follows .mixedOrders = true := by kernel_rfl
def bodyOf (f : Func) : Code := f.body.getD .skip
abbrev T_int : TypeId := 3
abbrev T_pclog_Log : TypeId := 22
abbrev T_pheap_Rel : TypeId := 24
abbrev T_sapi_Value : TypeId := 30
abbrev T_api_Tuple : TypeId := 48
abbrev T_liverylaw09_Step : TypeId := 58
abbrev T_ssapi_Value : TypeId := 61
abbrev T_clog_tx : TypeId := 67
abbrev T_clog_Log : TypeId := 70
abbrev T_map_int_api_Tuple : TypeId := 71
abbrev T_heap_Rel : TypeId := 73
abbrev T_api_Value : TypeId := 77
abbrev T_slices_xorshift : TypeId := 114
/-- main.main -/
def S_main_main (h : Hp) (Q : List Value → Hp → Prop) : Prop := Fn PP 0 #[] h Q
/-- gosem.cut -/
def S_gosem_cut (h : Hp) (Q : List Value → Hp → Prop) : Prop := Fn PP 1 #[] h Q
/-- gosem.cut.init -/
def S_gosem_cut_init (h : Hp) (Q : List Value → Hp → Prop) : Prop := Fn PP 2 #[] h Q
/-- livery/clog.New -/
def S_clog_New (h : Hp) (Q : List Value → Hp → Prop) : Prop := Fn PP 8 #[] h Q
/-- livery/heap.New -/
def S_heap_New (h : Hp) (Q : List Value → Hp → Prop) : Prop := Fn PP 9 #[] h Q
/-- (*livery/clog.Log).Begin -/
def S_clog_Log_Begin (g0_l : Option Addr) (g1_reads : Bool) (h : Hp) (Q : List Value → Hp → Prop) : Prop := Fn PP 10 #[(Value.pointer g0_l), (Value.bool g1_reads)] h Q
/-- slices.Clone[[]livery/api.Value,livery/api.Value] -/
def S_slices_Clone_sapi_Value_api_Value (g0_s : Sl) (h : Hp) (Q : List Value → Hp → Prop) : Prop := Fn PP 32 #[(Value.slice g0_s.a g0_s.n g0_s.c)] h Q
/-- (*livery/heap.Rel).Insert -/
def S_heap_Rel_Insert (g0_r : Option Addr) (g1_xid : Int) (g2_row : Sl) (h : Hp) (Q : List Value → Hp → Prop) : Prop := Fn PP 11 #[(Value.pointer g0_r), (Value.int .i64 g1_xid), (Value.slice g2_row.a g2_row.n g2_row.c)] h Q
/-- livery/liverylaw09.one -/
def S_liverylaw09_one (g0_n : Int) (h : Hp) (Q : List Value → Hp → Prop) : Prop := Fn PP 12 #[(Value.int .i64 g0_n)] h Q
/-- (*livery/clog.Log).get -/
def S_clog_Log_get (g0_l : Option Addr) (g1_xid : Int) (h : Hp) (Q : List Value → Hp → Prop) : Prop := Fn PP 45 #[(Value.pointer g0_l), (Value.int .i64 g1_xid)] h Q
/-- (*livery/clog.Log).ends -/
def S_clog_Log_ends (g0_l : Option Addr) (g1_xid : Int) (h : Hp) (Q : List Value → Hp → Prop) : Prop := Fn PP 33 #[(Value.pointer g0_l), (Value.int .i64 g1_xid)] h Q
/-- (*livery/clog.Log).Commit -/
def S_clog_Log_Commit (g0_l : Option Addr) (g1_xid : Int) (h : Hp) (Q : List Value → Hp → Prop) : Prop := Fn PP 13 #[(Value.pointer g0_l), (Value.int .i64 g1_xid)] h Q
/-- (*livery/clog.Log).one -/
def S_clog_Log_one (g0_l : Option Addr) (g1_xid : Int) (h : Hp) (Q : List Value → Hp → Prop) : Prop := Fn PP 43 #[(Value.pointer g0_l), (Value.int .i64 g1_xid)] h Q
/-- (*livery/clog.Log).State -/
def S_clog_Log_State (g0_l : Option Addr) (g1_xid : Int) (h : Hp) (Q : List Value → Hp → Prop) : Prop := Fn PP 27 #[(Value.pointer g0_l), (Value.int .i64 g1_xid)] h Q
/-- (*livery/heap.Rel).get -/
def S_heap_Rel_get (g0_r : Option Addr) (g1_tid : Int) (h : Hp) (Q : List Value → Hp → Prop) : Prop := Fn PP 34 #[(Value.pointer g0_r), (Value.int .i64 g1_tid)] h Q
/-- (*livery/clog.Log).Sees -/
def S_clog_Log_Sees (g0_l : Option Addr) (g1_xid : Int) (g2_other : Int) (h : Hp) (Q : List Value → Hp → Prop) : Prop := Fn PP 35 #[(Value.pointer g0_l), (Value.int .i64 g1_xid), (Value.int .i64 g2_other)] h Q
/-- livery/heap.ended -/
def S_heap_ended (g0_l : Option Addr) (g1_x_0 : Int) (g1_x_1 : Int) (g1_x_2 : Sl) (h : Hp) (Q : List Value → Hp → Prop) : Prop := Fn PP 36 #[(Value.pointer g0_l), (Value.agg #[(Value.int .i64 g1_x_0), (Value.int .i64 g1_x_1), (Value.slice g1_x_2.a g1_x_2.n g1_x_2.c)])] h Q
/-- (*livery/heap.Rel).May -/
def S_heap_Rel_May (g0_r : Option Addr) (g1_l : Option Addr) (g2_xid : Int) (g3_tid : Int) (h : Hp) (Q : List Value → Hp → Prop) : Prop := Fn PP 14 #[(Value.pointer g0_r), (Value.pointer g1_l), (Value.int .i64 g2_xid), (Value.int .i64 g3_tid)] h Q
/-- (*livery/heap.Rel).Delete -/
def S_heap_Rel_Delete (g0_r : Option Addr) (g1_xid : Int) (g2_tid : Int) (h : Hp) (Q : List Value → Hp → Prop) : Prop := Fn PP 15 #[(Value.pointer g0_r), (Value.int .i64 g1_xid), (Value.int .i64 g2_tid)] h Q
/-- (*livery/heap.Rel).Sees -/
def S_heap_Rel_Sees (g0_r : Option Addr) (g1_l : Option Addr) (g2_xid : Int) (g3_tid : Int) (h : Hp) (Q : List Value → Hp → Prop) : Prop := Fn PP 16 #[(Value.pointer g0_r), (Value.pointer g1_l), (Value.int .i64 g2_xid), (Value.int .i64 g3_tid)] h Q
/-- livery/liverykeep.Ints -/
def S_liverykeep_Ints (g0_a : Sl) (g1_b : Sl) (h : Hp) (Q : List Value → Hp → Prop) : Prop := Fn PP 17 #[(Value.slice g0_a.a g0_a.n g0_a.c), (Value.slice g1_b.a g1_b.n g1_b.c)] h Q
/-- (*livery/heap.Rel).Unseen -/
def S_heap_Rel_Unseen (g0_r : Option Addr) (g1_l : Option Addr) (g2_xid : Int) (g3_tid : Int) (h : Hp) (Q : List Value → Hp → Prop) : Prop := Fn PP 18 #[(Value.pointer g0_r), (Value.pointer g1_l), (Value.int .i64 g2_xid), (Value.int .i64 g3_tid)] h Q
/-- (*livery/clog.Log).Abort -/
def S_clog_Log_Abort (g0_l : Option Addr) (g1_xid : Int) (h : Hp) (Q : List Value → Hp → Prop) : Prop := Fn PP 19 #[(Value.pointer g0_l), (Value.int .i64 g1_xid)] h Q
/-- (*livery/heap.Rel).Get -/
def S_heap_Rel_Get (g0_r : Option Addr) (g1_tid : Int) (h : Hp) (Q : List Value → Hp → Prop) : Prop := Fn PP 23 #[(Value.pointer g0_r), (Value.int .i64 g1_tid)] h Q
/-- livery/liverylaw09.wakes -/
def S_liverylaw09_wakes (h : Hp) (Q : List Value → Hp → Prop) : Prop := Fn PP 20 #[] h Q
/-- livery/liverylaw09.HeapFirst -/
def S_liverylaw09_HeapFirst (g0_commit : Bool) (g1_more : Int) (h : Hp) (Q : List Value → Hp → Prop) : Prop := Fn PP 3 #[(Value.bool g0_commit), (Value.int .u8 g1_more)] h Q
/-- slices.AppendSeq[[]int,int] -/
def S_slices_AppendSeq_sint_int (g0_s : Sl) (g1_seq_f : Nat) (g1_seq_c : Array Value) (h : Hp) (Q : List Value → Hp → Prop) : Prop := Fn PP 55 #[(Value.slice g0_s.a g0_s.n g0_s.c), (Value.func (.func g1_seq_f) #[] g1_seq_c)] h Q
/-- slices.Collect[int] -/
def S_slices_Collect_int (g0_seq_f : Nat) (g0_seq_c : Array Value) (h : Hp) (Q : List Value → Hp → Prop) : Prop := Fn PP 49 #[(Value.func (.func g0_seq_f) #[] g0_seq_c)] h Q
/-- cmp.isNaN[int] -/
def S_cmp_isNaN_int (g0_x : Int) (h : Hp) (Q : List Value → Hp → Prop) : Prop := Fn PP 75 #[(Value.int .i64 g0_x)] h Q
/-- cmp.Less[int] -/
def S_cmp_Less_int (g0_x : Int) (g1_y : Int) (h : Hp) (Q : List Value → Hp → Prop) : Prop := Fn PP 65 #[(Value.int .i64 g0_x), (Value.int .i64 g1_y)] h Q
/-- slices.insertionSortOrdered[int] -/
def S_slices_insertionSortOrdered_int (g0_data : Sl) (g1_a : Int) (g2_b : Int) (h : Hp) (Q : List Value → Hp → Prop) : Prop := Fn PP 59 #[(Value.slice g0_data.a g0_data.n g0_data.c), (Value.int .i64 g1_a), (Value.int .i64 g2_b)] h Q
/-- slices.siftDownOrdered[int] -/
def S_slices_siftDownOrdered_int (g0_data : Sl) (g1_lo : Int) (g2_hi : Int) (g3_first : Int) (h : Hp) (Q : List Value → Hp → Prop) : Prop := Fn PP 70 #[(Value.slice g0_data.a g0_data.n g0_data.c), (Value.int .i64 g1_lo), (Value.int .i64 g2_hi), (Value.int .i64 g3_first)] h Q
/-- slices.heapSortOrdered[int] -/
def S_slices_heapSortOrdered_int (g0_data : Sl) (g1_a : Int) (g2_b : Int) (h : Hp) (Q : List Value → Hp → Prop) : Prop := Fn PP 60 #[(Value.slice g0_data.a g0_data.n g0_data.c), (Value.int .i64 g1_a), (Value.int .i64 g2_b)] h Q
/-- math/bits.Len64 -/
def S_math_bits_Len64 (g0_x : Int) (h : Hp) (Q : List Value → Hp → Prop) : Prop := Fn PP 69 #[(Value.int .u64 g0_x)] h Q
/-- math/bits.Len -/
def S_math_bits_Len (g0_x : Int) (h : Hp) (Q : List Value → Hp → Prop) : Prop := Fn PP 57 #[(Value.int .u64 g0_x)] h Q
/-- slices.nextPowerOfTwo -/
def S_slices_nextPowerOfTwo (g0_length : Int) (h : Hp) (Q : List Value → Hp → Prop) : Prop := Fn PP 71 #[(Value.int .i64 g0_length)] h Q
/-- (*slices.xorshift).Next -/
def S_slices_xorshift_Next (g0_r : Option Addr) (h : Hp) (Q : List Value → Hp → Prop) : Prop := Fn PP 72 #[(Value.pointer g0_r)] h Q
/-- slices.breakPatternsOrdered[int] -/
def S_slices_breakPatternsOrdered_int (g0_data : Sl) (g1_a : Int) (g2_b : Int) (h : Hp) (Q : List Value → Hp → Prop) : Prop := Fn PP 61 #[(Value.slice g0_data.a g0_data.n g0_data.c), (Value.int .i64 g1_a), (Value.int .i64 g2_b)] h Q
/-- slices.order2Ordered[int] -/
def S_slices_order2Ordered_int (g0_data : Sl) (g1_a : Int) (g2_b : Int) (g3_swaps : Option Addr) (h : Hp) (Q : List Value → Hp → Prop) : Prop := Fn PP 76 #[(Value.slice g0_data.a g0_data.n g0_data.c), (Value.int .i64 g1_a), (Value.int .i64 g2_b), (Value.pointer g3_swaps)] h Q
/-- slices.medianOrdered[int] -/
def S_slices_medianOrdered_int (g0_data : Sl) (g1_a : Int) (g2_b : Int) (g3_c : Int) (g4_swaps : Option Addr) (h : Hp) (Q : List Value → Hp → Prop) : Prop := Fn PP 74 #[(Value.slice g0_data.a g0_data.n g0_data.c), (Value.int .i64 g1_a), (Value.int .i64 g2_b), (Value.int .i64 g3_c), (Value.pointer g4_swaps)] h Q
/-- slices.medianAdjacentOrdered[int] -/
def S_slices_medianAdjacentOrdered_int (g0_data : Sl) (g1_a : Int) (g2_swaps : Option Addr) (h : Hp) (Q : List Value → Hp → Prop) : Prop := Fn PP 73 #[(Value.slice g0_data.a g0_data.n g0_data.c), (Value.int .i64 g1_a), (Value.pointer g2_swaps)] h Q
/-- slices.choosePivotOrdered[int] -/
def S_slices_choosePivotOrdered_int (g0_data : Sl) (g1_a : Int) (g2_b : Int) (h : Hp) (Q : List Value → Hp → Prop) : Prop := Fn PP 62 #[(Value.slice g0_data.a g0_data.n g0_data.c), (Value.int .i64 g1_a), (Value.int .i64 g2_b)] h Q
/-- slices.reverseRangeOrdered[int] -/
def S_slices_reverseRangeOrdered_int (g0_data : Sl) (g1_a : Int) (g2_b : Int) (h : Hp) (Q : List Value → Hp → Prop) : Prop := Fn PP 63 #[(Value.slice g0_data.a g0_data.n g0_data.c), (Value.int .i64 g1_a), (Value.int .i64 g2_b)] h Q
/-- slices.partialInsertionSortOrdered[int] -/
def S_slices_partialInsertionSortOrdered_int (g0_data : Sl) (g1_a : Int) (g2_b : Int) (h : Hp) (Q : List Value → Hp → Prop) : Prop := Fn PP 64 #[(Value.slice g0_data.a g0_data.n g0_data.c), (Value.int .i64 g1_a), (Value.int .i64 g2_b)] h Q
/-- slices.partitionEqualOrdered[int] -/
def S_slices_partitionEqualOrdered_int (g0_data : Sl) (g1_a : Int) (g2_b : Int) (g3_pivot : Int) (h : Hp) (Q : List Value → Hp → Prop) : Prop := Fn PP 66 #[(Value.slice g0_data.a g0_data.n g0_data.c), (Value.int .i64 g1_a), (Value.int .i64 g2_b), (Value.int .i64 g3_pivot)] h Q
/-- slices.partitionOrdered[int] -/
def S_slices_partitionOrdered_int (g0_data : Sl) (g1_a : Int) (g2_b : Int) (g3_pivot : Int) (h : Hp) (Q : List Value → Hp → Prop) : Prop := Fn PP 67 #[(Value.slice g0_data.a g0_data.n g0_data.c), (Value.int .i64 g1_a), (Value.int .i64 g2_b), (Value.int .i64 g3_pivot)] h Q
/-- slices.pdqsortOrdered[int] -/
def S_slices_pdqsortOrdered_int (g0_data : Sl) (g1_a : Int) (g2_b : Int) (g3_limit : Int) (h : Hp) (Q : List Value → Hp → Prop) : Prop := Fn PP 56 #[(Value.slice g0_data.a g0_data.n g0_data.c), (Value.int .i64 g1_a), (Value.int .i64 g2_b), (Value.int .i64 g3_limit)] h Q
/-- slices.Sort[[]int,int] -/
def S_slices_Sort_sint_int (g0_x : Sl) (h : Hp) (Q : List Value → Hp → Prop) : Prop := Fn PP 50 #[(Value.slice g0_x.a g0_x.n g0_x.c)] h Q
/-- slices.Sorted[int] -/
def S_slices_Sorted_int (g0_seq_f : Nat) (g0_seq_c : Array Value) (h : Hp) (Q : List Value → Hp → Prop) : Prop := Fn PP 40 #[(Value.func (.func g0_seq_f) #[] g0_seq_c)] h Q
/-- maps.Keys[map[int]livery/api.Tuple,int,livery/api.Tuple] -/
def S_maps_Keys_map_int_api_Tuple_int_api_Tuple (g0_m : Option Nat) (h : Hp) (Q : List Value → Hp → Prop) : Prop := Fn PP 41 #[(Value.map g0_m)] h Q
/-- (*livery/heap.Rel).All -/
def S_heap_Rel_All (g0_r : Option Addr) (h : Hp) (Q : List Value → Hp → Prop) : Prop := Fn PP 24 #[(Value.pointer g0_r)] h Q
/-- slices.IndexFunc[[]int,int] -/
def S_slices_IndexFunc_sint_int (g0_s : Sl) (g1_f_f : Nat) (g1_f_c : Array Value) (h : Hp) (Q : List Value → Hp → Prop) : Prop := Fn PP 46 #[(Value.slice g0_s.a g0_s.n g0_s.c), (Value.func (.func g1_f_f) #[] g1_f_c)] h Q
/-- slices.DeleteFunc[[]int,int] -/
def S_slices_DeleteFunc_sint_int (g0_s : Sl) (g1_del_f : Nat) (g1_del_c : Array Value) (h : Hp) (Q : List Value → Hp → Prop) : Prop := Fn PP 37 #[(Value.slice g0_s.a g0_s.n g0_s.c), (Value.func (.func g1_del_f) #[] g1_del_c)] h Q
/-- (*livery/heap.Rel).Visible -/
def S_heap_Rel_Visible (g0_r : Option Addr) (g1_l : Option Addr) (g2_xid : Int) (h : Hp) (Q : List Value → Hp → Prop) : Prop := Fn PP 21 #[(Value.pointer g0_r), (Value.pointer g1_l), (Value.int .i64 g2_xid)] h Q
/-- livery/liverylaw09.HeapAborts -/
def S_liverylaw09_HeapAborts (g0_n : Int) (g1_ends : Sl) (h : Hp) (Q : List Value → Hp → Prop) : Prop := Fn PP 4 #[(Value.int .u8 g0_n), (Value.slice g1_ends.a g1_ends.n g1_ends.c)] h Q
/-- (*livery/clog.Log).Csn -/
def S_clog_Log_Csn (g0_l : Option Addr) (g1_xid : Int) (h : Hp) (Q : List Value → Hp → Prop) : Prop := Fn PP 47 #[(Value.pointer g0_l), (Value.int .i64 g1_xid)] h Q
/-- (*livery/clog.Log).Running -/
def S_clog_Log_Running (g0_l : Option Addr) (h : Hp) (Q : List Value → Hp → Prop) : Prop := Fn PP 28 #[(Value.pointer g0_l)] h Q
/-- (*livery/clog.Log).Clock -/
def S_clog_Log_Clock (g0_l : Option Addr) (h : Hp) (Q : List Value → Hp → Prop) : Prop := Fn PP 54 #[(Value.pointer g0_l)] h Q
/-- (*livery/clog.Log).Horizon -/
def S_clog_Log_Horizon (g0_l : Option Addr) (h : Hp) (Q : List Value → Hp → Prop) : Prop := Fn PP 48 #[(Value.pointer g0_l)] h Q
/-- livery/heap.over -/
def S_heap_over (g0_l : Option Addr) (g1_x_0 : Int) (g1_x_1 : Int) (g1_x_2 : Sl) (h : Hp) (Q : List Value → Hp → Prop) : Prop := Fn PP 39 #[(Value.pointer g0_l), (Value.agg #[(Value.int .i64 g1_x_0), (Value.int .i64 g1_x_1), (Value.slice g1_x_2.a g1_x_2.n g1_x_2.c)])] h Q
/-- (*livery/heap.Rel).Vacuum -/
def S_heap_Rel_Vacuum (g0_r : Option Addr) (g1_l : Option Addr) (h : Hp) (Q : List Value → Hp → Prop) : Prop := Fn PP 22 #[(Value.pointer g0_r), (Value.pointer g1_l)] h Q
/-- livery/liverylaw09.HeapMost -/
def S_liverylaw09_HeapMost (g0_n : Int) (h : Hp) (Q : List Value → Hp → Prop) : Prop := Fn PP 5 #[(Value.int .u8 g0_n)] h Q
/-- (*livery/heap.Rel).Copy -/
def S_heap_Rel_Copy (g0_r : Option Addr) (g1_l : Option Addr) (h : Hp) (Q : List Value → Hp → Prop) : Prop := Fn PP 25 #[(Value.pointer g0_r), (Value.pointer g1_l)] h Q
/-- livery/liverylaw09.HeapNone -/
def S_liverylaw09_HeapNone (g0_xid : Int) (g1_tid : Int) (h : Hp) (Q : List Value → Hp → Prop) : Prop := Fn PP 6 #[(Value.int .i64 g0_xid), (Value.int .i64 g1_tid)] h Q
/-- livery/liverykeep.LargeValue -/
def S_liverykeep_LargeValue (g0_v_0 : Int) (g0_v_1 : Int) (g0_v_2 : Nat) (g0_v_3 : ByteArray) (h : Hp) (Q : List Value → Hp → Prop) : Prop := Fn PP 52 #[(Value.agg #[(Value.int .i64 g0_v_0), (Value.int .i64 g0_v_1), (Value.float .f64 g0_v_2), (Value.string g0_v_3)])] h Q
/-- livery/liverykeep.LargeRow -/
def S_liverykeep_LargeRow (g0_l : Sl) (h : Hp) (Q : List Value → Hp → Prop) : Prop := Fn PP 42 #[(Value.slice g0_l.a g0_l.n g0_l.c)] h Q
/-- livery/liverylaw09.Fair -/
def S_liverylaw09_Fair (g0_l : Sl) (h : Hp) (Q : List Value → Hp → Prop) : Prop := Fn PP 26 #[(Value.slice g0_l.a g0_l.n g0_l.c)] h Q
/-- livery/liverylaw09.rows -/
def S_liverylaw09_rows (g0_l : Option Addr) (g1_r : Option Addr) (g2_xid : Int) (h : Hp) (Q : List Value → Hp → Prop) : Prop := Fn PP 29 #[(Value.pointer g0_l), (Value.pointer g1_r), (Value.int .i64 g2_xid)] h Q
/-- math.Float64bits -/
def S_math_Float64bits (g0_x : Nat) (h : Hp) (Q : List Value → Hp → Prop) : Prop := Fn PP 58 #[(Value.float .f64 g0_x)] h Q
/-- livery/liverykeep.Value -/
def S_liverykeep_Value (g0_a_0 : Int) (g0_a_1 : Int) (g0_a_2 : Nat) (g0_a_3 : ByteArray) (g1_b_0 : Int) (g1_b_1 : Int) (g1_b_2 : Nat) (g1_b_3 : ByteArray) (h : Hp) (Q : List Value → Hp → Prop) : Prop := Fn PP 53 #[(Value.agg #[(Value.int .i64 g0_a_0), (Value.int .i64 g0_a_1), (Value.float .f64 g0_a_2), (Value.string g0_a_3)]), (Value.agg #[(Value.int .i64 g1_b_0), (Value.int .i64 g1_b_1), (Value.float .f64 g1_b_2), (Value.string g1_b_3)])] h Q
/-- livery/liverykeep.Values -/
def S_liverykeep_Values (g0_a : Sl) (g1_b : Sl) (h : Hp) (Q : List Value → Hp → Prop) : Prop := Fn PP 44 #[(Value.slice g0_a.a g0_a.n g0_a.c), (Value.slice g1_b.a g1_b.n g1_b.c)] h Q
/-- livery/liverykeep.Rows -/
def S_liverykeep_Rows (g0_a : Sl) (g1_b : Sl) (h : Hp) (Q : List Value → Hp → Prop) : Prop := Fn PP 30 #[(Value.slice g0_a.a g0_a.n g0_a.c), (Value.slice g1_b.a g1_b.n g1_b.c)] h Q
/-- livery/liverykeep.Has -/
def S_liverykeep_Has (g0_l : Sl) (g1_n : Int) (h : Hp) (Q : List Value → Hp → Prop) : Prop := Fn PP 31 #[(Value.slice g0_l.a g0_l.n g0_l.c), (Value.int .i64 g1_n)] h Q
/-- livery/liverylaw09.HeapClean -/
def S_liverylaw09_HeapClean (g0_steps : Sl) (g1_copies : Bool) (h : Hp) (Q : List Value → Hp → Prop) : Prop := Fn PP 7 #[(Value.slice g0_steps.a g0_steps.n g0_steps.c), (Value.bool g1_copies)] h Q
/-- (*livery/heap.Rel).Visible$1 -/
def S_heap_Rel_Visible_1 (g0_tid : Int) (g1_x : Addr) (g2_x : Addr) (g3_x : Addr) (h : Hp) (Q : List Value → Hp → Prop) : Prop := Fn PP 38 #[(Value.int .i64 g0_tid), (Value.pointer (some g1_x)), (Value.pointer (some g2_x)), (Value.pointer (some g3_x))] h Q
/-- maps.Keys[map[int]livery/api.Tuple,int,livery/api.Tuple]$1 -/
def S_maps_Keys_map_int_api_Tuple_int_api_Tuple_1 (g0_yield_f : Nat) (g0_yield_c : Array Value) (g1_x : Addr) (h : Hp) (Q : List Value → Hp → Prop) : Prop := Fn PP 51 #[(Value.func (.func g0_yield_f) #[] g0_yield_c), (Value.pointer (some g1_x))] h Q
/-- math/bits.Len32 -/
def S_math_bits_Len32 (g0_x : Int) (h : Hp) (Q : List Value → Hp → Prop) : Prop := Fn PP 68 #[(Value.int .u32 g0_x)] h Q
/-- (runtime.boundsError).Error -/
def S_runtime_boundsError_Error (g0_x_0 : Int) (g0_x_1 : Int) (g0_x_2 : Bool) (g0_x_3 : Int) (h : Hp) (Q : List Value → Hp → Prop) : Prop := Fn PP 77 #[(Value.agg #[(Value.int .i64 g0_x_0), (Value.int .i64 g0_x_1), (Value.bool g0_x_2), (Value.int .u8 g0_x_3)])] h Q
/-- (runtime.boundsError).RuntimeError -/
def S_runtime_boundsError_RuntimeError (g0_x_0 : Int) (g0_x_1 : Int) (g0_x_2 : Bool) (g0_x_3 : Int) (h : Hp) (Q : List Value → Hp → Prop) : Prop := Fn PP 78 #[(Value.agg #[(Value.int .i64 g0_x_0), (Value.int .i64 g0_x_1), (Value.bool g0_x_2), (Value.int .u8 g0_x_3)])] h Q
/-- (runtime.errorString).Error -/
def S_runtime_errorString_Error (g0_x : ByteArray) (h : Hp) (Q : List Value → Hp → Prop) : Prop := Fn PP 79 #[(Value.string g0_x)] h Q
/-- (runtime.errorString).RuntimeError -/
def S_runtime_errorString_RuntimeError (g0_x : ByteArray) (h : Hp) (Q : List Value → Hp → Prop) : Prop := Fn PP 80 #[(Value.string g0_x)] h Q
/-- (runtime.plainError).Error -/
def S_runtime_plainError_Error (g0_x : ByteArray) (h : Hp) (Q : List Value → Hp → Prop) : Prop := Fn PP 81 #[(Value.string g0_x)] h Q
/-- (runtime.plainError).RuntimeError -/
def S_runtime_plainError_RuntimeError (g0_x : ByteArray) (h : Hp) (Q : List Value → Hp → Prop) : Prop := Fn PP 82 #[(Value.string g0_x)] h Q
/-- (runtime.errorAddressString).Error -/
def S_runtime_errorAddressString_Error (g0_x_0 : ByteArray) (g0_x_1 : Int) (h : Hp) (Q : List Value → Hp → Prop) : Prop := Fn PP 83 #[(Value.agg #[(Value.string g0_x_0), (Value.int .u64 g0_x_1)])] h Q
/-- (runtime.errorAddressString).RuntimeError -/
def S_runtime_errorAddressString_RuntimeError (g0_x_0 : ByteArray) (g0_x_1 : Int) (h : Hp) (Q : List Value → Hp → Prop) : Prop := Fn PP 84 #[(Value.agg #[(Value.string g0_x_0), (Value.int .u64 g0_x_1)])] h Q
/-- (*runtime.TypeAssertionError).Error -/
def S_runtime_TypeAssertionError_Error (g0_x : Option Addr) (h : Hp) (Q : List Value → Hp → Prop) : Prop := Fn PP 85 #[(Value.pointer g0_x)] h Q
/-- (*runtime.TypeAssertionError).RuntimeError -/
def S_runtime_TypeAssertionError_RuntimeError (g0_x : Option Addr) (h : Hp) (Q : List Value → Hp → Prop) : Prop := Fn PP 86 #[(Value.pointer g0_x)] h Q
/-- (*runtime.PanicNilError).Error -/
def S_runtime_PanicNilError_Error (g0_x : Option Addr) (h : Hp) (Q : List Value → Hp → Prop) : Prop := Fn PP 87 #[(Value.pointer g0_x)] h Q
/-- (*runtime.PanicNilError).RuntimeError -/
def S_runtime_PanicNilError_RuntimeError (g0_x : Option Addr) (h : Hp) (Q : List Value → Hp → Prop) : Prop := Fn PP 88 #[(Value.pointer g0_x)] h Q
/-- (*internal/abi.Type).Align -/
def S_internal_abi_Type_Align (g0_x : Option Addr) (h : Hp) (Q : List Value → Hp → Prop) : Prop := Fn PP 89 #[(Value.pointer g0_x)] h Q
/-- (internal/runtime/maps.unhashableTypeError).Error -/
def S_internal_runtime_maps_unhashableTypeError_Error (g0_x_0 : Option Addr) (h : Hp) (Q : List Value → Hp → Prop) : Prop := Fn PP 90 #[(Value.agg #[(Value.pointer g0_x_0)])] h Q
/-- (internal/runtime/maps.unhashableTypeError).RuntimeError -/
def S_internal_runtime_maps_unhashableTypeError_RuntimeError (g0_x_0 : Option Addr) (h : Hp) (Q : List Value → Hp → Prop) : Prop := Fn PP 91 #[(Value.agg #[(Value.pointer g0_x_0)])] h Q
/-- (livery/api.Errno).Error -/
def S_api_Errno_Error (g0_x : Int) (h : Hp) (Q : List Value → Hp → Prop) : Prop := Fn PP 92 #[(Value.int .i64 g0_x)] h Q
/-- (internal/abi.Kind).String -/
def S_internal_abi_Kind_String (g0_x : Int) (h : Hp) (Q : List Value → Hp → Prop) : Prop := Fn PP 93 #[(Value.int .u8 g0_x)] h Q
def F_gosem_cut_init (h : Hp) (Q : List Value → Hp → Prop) : Prop :=
S_gosem_cut  h fun (vs1 : List Value) (h2 : Hp) =>
vs1 = [] ∧
Q [] h2
def A_gosem_cut_init : Ann := .nil
theorem E_gosem_cut_init (h : Hp) (Q : List Value → Hp → Prop) : cw PP 1 (fun _ => []) (bodyOf Try.f2) A_gosem_cut_init (finQ PP (Try.f2.results.toList) Q) (argFr []) h = F_gosem_cut_init h Q := by kernel_rfl
theorem O_gosem_cut_init {h : Hp} {Q : List Value → Hp → Prop} (H : F_gosem_cut_init h Q) : S_gosem_cut_init h Q :=
  fn_of_cw (hs := (fun _ => [])) (ann := A_gosem_cut_init) (args := []) mixedPP Try.func2 (c := bodyOf Try.f2) (by kernel_rfl) (by kernel_rfl) (by kernel_rfl) (Eq.mpr (E_gosem_cut_init h Q) H)
def F_clog_New (h : Hp) (Q : List Value → Hp → Prop) : Prop :=
wth (Array.push h (Obj.cells (zc PP T_clog_Log) T_clog_Log)) fun h1 =>
Q [(Value.pointer (some (Addr.mk (Array.size h) 0 none)))] h1
def A_clog_New : Ann := .nil
theorem E_clog_New (h : Hp) (Q : List Value → Hp → Prop) : cw PP 3 (fun _ => []) (bodyOf Try.f8) A_clog_New (finQ PP (Try.f8.results.toList) Q) (argFr []) h = F_clog_New h Q := by kernel_rfl
theorem O_clog_New {h : Hp} {Q : List Value → Hp → Prop} (H : F_clog_New h Q) : S_clog_New h Q :=
  fn_of_cw (hs := (fun _ => [])) (ann := A_clog_New) (args := []) mixedPP Try.func8 (c := bodyOf Try.f8) (by kernel_rfl) (by kernel_rfl) (by kernel_rfl) (Eq.mpr (E_clog_New h Q) H)
def F_heap_New (h : Hp) (Q : List Value → Hp → Prop) : Prop :=
wth (Array.push h (Obj.map #[] 0)) fun h1 =>
wth (Array.push h1 (Obj.cells #[(Value.map (some (Array.size h))), (Value.int .i64 (0 : Int))] T_heap_Rel)) fun h2 =>
Q [(Value.pointer (some (Addr.mk (Array.size h1) 0 none)))] h2
def A_heap_New : Ann := .nil
theorem E_heap_New (h : Hp) (Q : List Value → Hp → Prop) : cw PP 4 (fun _ => []) (bodyOf Try.f9) A_heap_New (finQ PP (Try.f9.results.toList) Q) (argFr []) h = F_heap_New h Q := by kernel_rfl
theorem O_heap_New {h : Hp} {Q : List Value → Hp → Prop} (H : F_heap_New h Q) : S_heap_New h Q :=
  fn_of_cw (hs := (fun _ => [])) (ann := A_heap_New) (args := []) mixedPP Try.func9 (c := bodyOf Try.f9) (by kernel_rfl) (by kernel_rfl) (by kernel_rfl) (Eq.mpr (E_heap_New h Q) H)
def F_clog_Log_Begin (g0_l : Option Addr) (g1_reads : Bool) (h : Hp) (Q : List Value → Hp → Prop) : Prop :=
(if (Option.isNone g0_l) = true then
  (Q [(Value.int .i64 (0 : Int)), (Value.int .i64 (1 : Int))] h) else
  (nilW g0_l fun a1 => ∃ n2 : Int, rd h (Addr.add a1 804) = some (Value.int .i64 n2) ∧
    (if (n2 == (200 : Int)) = true then
      (Q [(Value.int .i64 (0 : Int)), (Value.int .i64 (74 : Int))] h) else
      (nilW g0_l fun a3 => ∃ n4 : Int, rd h (Addr.add a3 804) = some (Value.int .i64 n4) ∧
        nilW g0_l fun a5 => stOk h (Addr.add a5 804) 1 ∧ wth (wrs h (Addr.add a5 804) 0 [(Value.int .i64 (IntKind.wrap .i64 (n4 + (1 : Int))))]) fun h6 =>
        nilW g0_l fun a7 => ∃ n8 : Int, rd h6 (Addr.add a7 804) = some (Value.int .i64 n8) ∧
        nilW g0_l fun a9 => ∃ n10 : Int, rd h6 (Addr.add a9 805) = some (Value.int .i64 n10) ∧
        nilW g0_l fun a11 => ixOk n8 201 (stOk h6 (Addr.add (Addr.add a11 0) (Int.toNat n8 * 4)) 4 ∧ wth (wrs h6 (Addr.add (Addr.add a11 0) (Int.toNat n8 * 4)) 0 [(Value.int .i64 (1 : Int)), (Value.int .i64 (0 : Int)), (Value.int .i64 n10), (Value.bool g1_reads)]) fun h12 =>
          nilW g0_l fun a13 => ∃ n14 : Int, rd h12 (Addr.add a13 804) = some (Value.int .i64 n14) ∧
          Q [(Value.int .i64 n14), (Value.int .i64 (0 : Int))] h12)))))
def A_clog_Log_Begin : Ann := .nil
theorem E_clog_Log_Begin (g0_l : Option Addr) (g1_reads : Bool) (h : Hp) (Q : List Value → Hp → Prop) : cw PP 40 (fun _ => []) (bodyOf Try.f10) A_clog_Log_Begin (finQ PP (Try.f10.results.toList) Q) (argFr [(Value.pointer g0_l), (Value.bool g1_reads)]) h = F_clog_Log_Begin g0_l g1_reads h Q := by kernel_rfl
theorem O_clog_Log_Begin (g0_l : Option Addr) (g1_reads : Bool) {h : Hp} {Q : List Value → Hp → Prop} (H : F_clog_Log_Begin g0_l g1_reads h Q) : S_clog_Log_Begin g0_l g1_reads h Q :=
  fn_of_cw (hs := (fun _ => [])) (ann := A_clog_Log_Begin) (args := [(Value.pointer g0_l), (Value.bool g1_reads)]) mixedPP Try.func10 (c := bodyOf Try.f10) (by kernel_rfl) (by kernel_rfl) (by kernel_rfl) (Eq.mpr (E_clog_Log_Begin g0_l g1_reads h Q) H)
def F_slices_Clone_sapi_Value_api_Value (g0_s : Sl) (h : Hp) (Q : List Value → Hp → Prop) : Prop :=
(if (Option.isNone g0_s.a) = true then
  (Q [(Value.slice none 0 0)] h) else
  (wth (Array.push h (Obj.cells #[] T_api_Value)) fun h1 =>
    ∃ cs4 : List Value, cellsAt h1 g0_s.a (g0_s.n * 4) cs4 ∧ appS PP T_api_Value 40 4 h1 ⟨(some (Addr.mk (Array.size h) 0 none)), 0, 0⟩ g0_s.n cs4 fun (l2 : Sl) (h3 : Hp) =>
    Q [(Value.slice l2.a l2.n l2.c)] h3))
def A_slices_Clone_sapi_Value_api_Value : Ann := .nil
theorem E_slices_Clone_sapi_Value_api_Value (g0_s : Sl) (h : Hp) (Q : List Value → Hp → Prop) : cw PP 8 (fun _ => []) (bodyOf Try.f32) A_slices_Clone_sapi_Value_api_Value (finQ PP (Try.f32.results.toList) Q) (argFr [(Value.slice g0_s.a g0_s.n g0_s.c)]) h = F_slices_Clone_sapi_Value_api_Value g0_s h Q := by kernel_rfl
theorem O_slices_Clone_sapi_Value_api_Value (g0_s : Sl) {h : Hp} {Q : List Value → Hp → Prop} (H : F_slices_Clone_sapi_Value_api_Value g0_s h Q) : S_slices_Clone_sapi_Value_api_Value g0_s h Q :=
  fn_of_cw (hs := (fun _ => [])) (ann := A_slices_Clone_sapi_Value_api_Value) (args := [(Value.slice g0_s.a g0_s.n g0_s.c)]) mixedPP Try.func32 (c := bodyOf Try.f32) (by kernel_rfl) (by kernel_rfl) (by kernel_rfl) (Eq.mpr (E_slices_Clone_sapi_Value_api_Value g0_s h Q) H)
def F_heap_Rel_Insert (g0_r : Option Addr) (g1_xid : Int) (g2_row : Sl) (h : Hp) (Q : List Value → Hp → Prop) : Prop :=
∀ J1 : List Value → Hp → Prop, (∀ b2 : Bool, ∀ h3 : Hp, ((if b2 = true then
      (Q [(Value.int .i64 (0 : Int)), (Value.int .i64 (1 : Int))] h3) else
      (∀ J4 : List Value → Hp → Prop, (∀ b5 : Bool, ∀ h6 : Hp, ((if b5 = true then
              (Q [(Value.int .i64 (0 : Int)), (Value.int .i64 (74 : Int))] h6) else
              (nilW g0_r fun a7 => ∃ r8 : Option Nat, rd h6 (Addr.add a7 0) = some (Value.map r8) ∧
                nilW g0_r fun a9 => ∃ n10 : Int, rd h6 (Addr.add a9 1) = some (Value.int .i64 n10) ∧
                S_slices_Clone_sapi_Value_api_Value ⟨g2_row.a, g2_row.n, g2_row.c⟩ h6 fun (vs11 : List Value) (h12 : Hp) =>
                ∃ l13 : Sl, vs11 = [(Value.slice l13.a l13.n l13.c)] ∧
                rd h12 (Addr.add a9 1) = some (Value.int .i64 n10) ∧ rd h12 (Addr.add a7 0) = some (Value.map r8) ∧ ∃ (m14 : Nat) (es15 : Array MapEntry) (c16 : Nat), r8 = some m14 ∧ h12[m14]? = some (.map es15 c16) ∧ KeysLike (Value.int .i64 n10) es15 ∧ wth (Array.setIfInBounds h12 m14 (mput (Value.int .i64 n10) (Value.agg #[(Value.int .i64 g1_xid), (Value.int .i64 (0 : Int)), (Value.slice l13.a l13.n l13.c)]) es15 c16)) fun h17 =>
                nilW g0_r fun a18 => ∃ n19 : Int, rd h17 (Addr.add a18 1) = some (Value.int .i64 n19) ∧
                nilW g0_r fun a20 => stOk h17 (Addr.add a20 1) 1 ∧ wth (wrs h17 (Addr.add a20 1) 0 [(Value.int .i64 (IntKind.wrap .i64 (n19 + (1 : Int))))]) fun h21 =>
                nilW g0_r fun a22 => ∃ n23 : Int, rd h21 (Addr.add a22 1) = some (Value.int .i64 n23) ∧
                Q [(Value.int .i64 (IntKind.wrap .i64 (n23 - (1 : Int)))), (Value.int .i64 (0 : Int))] h21))) → J4 [(Value.bool b5)] h6) →
        nilW g0_r fun a24 => ∃ r25 : Option Nat, rd h3 (Addr.add a24 0) = some (Value.map r25) ∧
        ∃ es26 : Array MapEntry, mapAt h3 r25 es26 ∧
        (if (decide ((Array.size es26 : Int) ≥ (512 : Int))) = true then (J4 [(Value.bool true)] h3) else
          (nilW g0_r fun a27 => ∃ n28 : Int, rd h3 (Addr.add a27 1) = some (Value.int .i64 n28) ∧
            J4 [(Value.bool (n28 == (65536 : Int)))] h3))))) → J1 [(Value.bool b2)] h3) →
(if (Option.isNone g0_r) = true then (J1 [(Value.bool true)] h) else
  (J1 [(Value.bool (decide (g1_xid < (1 : Int))))] h))
def A_heap_Rel_Insert : Ann := (.mk none ⟨[], []⟩ .nil (.mk none ⟨[], []⟩ (.mk none ⟨[], []⟩ (.mk none ⟨[], []⟩ (.mk (some ⟨[0, 1, 2], [(8, (.c .bool))]⟩) ⟨[], []⟩ .nil .nil) (.mk none ⟨[], []⟩ .nil (.mk none ⟨[], []⟩ (.mk (some ⟨[0, 1, 2], [(15, (.c .bool))]⟩) ⟨[], []⟩ .nil .nil) .nil))) .nil) .nil))
theorem E_heap_Rel_Insert (g0_r : Option Addr) (g1_xid : Int) (g2_row : Sl) (h : Hp) (Q : List Value → Hp → Prop) : cw PP 53 (fun _ => []) (bodyOf Try.f11) A_heap_Rel_Insert (finQ PP (Try.f11.results.toList) Q) (argFr [(Value.pointer g0_r), (Value.int .i64 g1_xid), (Value.slice g2_row.a g2_row.n g2_row.c)]) h = F_heap_Rel_Insert g0_r g1_xid g2_row h Q := by kernel_rfl
theorem O_heap_Rel_Insert (g0_r : Option Addr) (g1_xid : Int) (g2_row : Sl) {h : Hp} {Q : List Value → Hp → Prop} (H : F_heap_Rel_Insert g0_r g1_xid g2_row h Q) : S_heap_Rel_Insert g0_r g1_xid g2_row h Q :=
  fn_of_cw (hs := (fun _ => [])) (ann := A_heap_Rel_Insert) (args := [(Value.pointer g0_r), (Value.int .i64 g1_xid), (Value.slice g2_row.a g2_row.n g2_row.c)]) mixedPP Try.func11 (c := bodyOf Try.f11) (by kernel_rfl) (by kernel_rfl) (by kernel_rfl) (Eq.mpr (E_heap_Rel_Insert g0_r g1_xid g2_row h Q) H)
def F_liverylaw09_one (g0_n : Int) (h : Hp) (Q : List Value → Hp → Prop) : Prop :=
wth (Array.push h (Obj.cells #[(Value.int .i64 (2 : Int)), (Value.int .i64 g0_n), (Value.float .f64 0), (Value.string (ByteArray.mk #[]))] T_api_Value)) fun h1 =>
Q [(Value.slice (some (Addr.mk (Array.size h) 0 none)) 1 1)] h1
def A_liverylaw09_one : Ann := .nil
theorem E_liverylaw09_one (g0_n : Int) (h : Hp) (Q : List Value → Hp → Prop) : cw PP 6 (fun _ => []) (bodyOf Try.f12) A_liverylaw09_one (finQ PP (Try.f12.results.toList) Q) (argFr [(Value.int .i64 g0_n)]) h = F_liverylaw09_one g0_n h Q := by kernel_rfl
theorem O_liverylaw09_one (g0_n : Int) {h : Hp} {Q : List Value → Hp → Prop} (H : F_liverylaw09_one g0_n h Q) : S_liverylaw09_one g0_n h Q :=
  fn_of_cw (hs := (fun _ => [])) (ann := A_liverylaw09_one) (args := [(Value.int .i64 g0_n)]) mixedPP Try.func12 (c := bodyOf Try.f12) (by kernel_rfl) (by kernel_rfl) (by kernel_rfl) (Eq.mpr (E_liverylaw09_one g0_n h Q) H)
def F_clog_Log_get (g0_l : Option Addr) (g1_xid : Int) (h : Hp) (Q : List Value → Hp → Prop) : Prop :=
∀ J1 : List Value → Hp → Prop, (∀ b2 : Bool, ∀ h3 : Hp, ((if b2 = true then
      (Q [(Value.pointer none)] h3) else
      (nilW g0_l fun a4 => ixOk g1_xid 201 (Q [(Value.pointer (some (Addr.add (Addr.add a4 0) (Int.toNat g1_xid * 4))))] h3)))) → J1 [(Value.bool b2)] h3) →
(if (Option.isNone g0_l) = true then (J1 [(Value.bool true)] h) else
  ((if (decide (g1_xid < (1 : Int))) = true then (J1 [(Value.bool true)] h) else
      (nilW g0_l fun a5 => ∃ n6 : Int, rd h (Addr.add a5 804) = some (Value.int .i64 n6) ∧
        J1 [(Value.bool (decide (g1_xid > n6)))] h))))
def A_clog_Log_get : Ann := (.mk none ⟨[], []⟩ .nil (.mk none ⟨[], []⟩ (.mk none ⟨[], []⟩ (.mk (some ⟨[0, 1], [(18, (.c .bool))]⟩) ⟨[], []⟩ .nil .nil) .nil) .nil))
theorem E_clog_Log_get (g0_l : Option Addr) (g1_xid : Int) (h : Hp) (Q : List Value → Hp → Prop) : cw PP 24 (fun _ => []) (bodyOf Try.f45) A_clog_Log_get (finQ PP (Try.f45.results.toList) Q) (argFr [(Value.pointer g0_l), (Value.int .i64 g1_xid)]) h = F_clog_Log_get g0_l g1_xid h Q := by kernel_rfl
theorem O_clog_Log_get (g0_l : Option Addr) (g1_xid : Int) {h : Hp} {Q : List Value → Hp → Prop} (H : F_clog_Log_get g0_l g1_xid h Q) : S_clog_Log_get g0_l g1_xid h Q :=
  fn_of_cw (hs := (fun _ => [])) (ann := A_clog_Log_get) (args := [(Value.pointer g0_l), (Value.int .i64 g1_xid)]) mixedPP Try.func45 (c := bodyOf Try.f45) (by kernel_rfl) (by kernel_rfl) (by kernel_rfl) (Eq.mpr (E_clog_Log_get g0_l g1_xid h Q) H)
def F_clog_Log_ends (g0_l : Option Addr) (g1_xid : Int) (h : Hp) (Q : List Value → Hp → Prop) : Prop :=
(if (Option.isNone g0_l) = true then
  (Q [(Value.pointer none), (Value.int .i64 (1 : Int))] h) else
  (S_clog_Log_get g0_l g1_xid h fun (vs1 : List Value) (h2 : Hp) =>
    ∃ p3 : Option Addr, vs1 = [(Value.pointer p3)] ∧
    ∀ J4 : List Value → Hp → Prop, (∀ b5 : Bool, ∀ h6 : Hp, ((if b5 = true then
          (Q [(Value.pointer none), (Value.int .i64 (76 : Int))] h6) else
          (Q [(Value.pointer p3), (Value.int .i64 (0 : Int))] h6))) → J4 [(Value.bool b5)] h6) →
    (if (Option.isNone p3) = true then (J4 [(Value.bool true)] h2) else
      (nilW p3 fun a7 => ∃ n8 : Int, rd h2 (Addr.add a7 0) = some (Value.int .i64 n8) ∧
        J4 [(Value.bool (n8 != (1 : Int)))] h2))))
def A_clog_Log_ends : Ann := (.mk none ⟨[], []⟩ .nil (.mk none ⟨[], []⟩ .nil (.mk none ⟨[], []⟩ .nil (.mk none ⟨[], []⟩ (.mk none ⟨[], []⟩ (.mk (some ⟨[6], [(20, (.c .bool))]⟩) ⟨[], []⟩ .nil .nil) .nil) .nil))))
theorem E_clog_Log_ends (g0_l : Option Addr) (g1_xid : Int) (h : Hp) (Q : List Value → Hp → Prop) : cw PP 22 (fun _ => []) (bodyOf Try.f33) A_clog_Log_ends (finQ PP (Try.f33.results.toList) Q) (argFr [(Value.pointer g0_l), (Value.int .i64 g1_xid)]) h = F_clog_Log_ends g0_l g1_xid h Q := by kernel_rfl
theorem O_clog_Log_ends (g0_l : Option Addr) (g1_xid : Int) {h : Hp} {Q : List Value → Hp → Prop} (H : F_clog_Log_ends g0_l g1_xid h Q) : S_clog_Log_ends g0_l g1_xid h Q :=
  fn_of_cw (hs := (fun _ => [])) (ann := A_clog_Log_ends) (args := [(Value.pointer g0_l), (Value.int .i64 g1_xid)]) mixedPP Try.func33 (c := bodyOf Try.f33) (by kernel_rfl) (by kernel_rfl) (by kernel_rfl) (Eq.mpr (E_clog_Log_ends g0_l g1_xid h Q) H)
def F_clog_Log_Commit (g0_l : Option Addr) (g1_xid : Int) (h : Hp) (Q : List Value → Hp → Prop) : Prop :=
S_clog_Log_ends g0_l g1_xid h fun (vs1 : List Value) (h2 : Hp) =>
∃ p3 : Option Addr, ∃ n4 : Int, vs1 = [(Value.pointer p3), (Value.int .i64 n4)] ∧
(if (n4 != (0 : Int)) = true then
  (Q [(Value.int .i64 (0 : Int)), (Value.int .i64 n4)] h2) else
  (nilW g0_l fun a5 => ∃ n6 : Int, rd h2 (Addr.add a5 805) = some (Value.int .i64 n6) ∧
    nilW g0_l fun a7 => stOk h2 (Addr.add a7 805) 1 ∧ wth (wrs h2 (Addr.add a7 805) 0 [(Value.int .i64 (IntKind.wrap .i64 (n6 + (1 : Int))))]) fun h8 =>
    nilW g0_l fun a9 => ∃ n10 : Int, rd h8 (Addr.add a9 805) = some (Value.int .i64 n10) ∧
    nilW p3 fun a11 => stOk h8 (Addr.add a11 0) 1 ∧ wth (wrs h8 (Addr.add a11 0) 0 [(Value.int .i64 (2 : Int))]) fun h12 =>
    nilW p3 fun a13 => stOk h12 (Addr.add a13 1) 1 ∧ wth (wrs h12 (Addr.add a13 1) 0 [(Value.int .i64 n10)]) fun h14 =>
    nilW g0_l fun a15 => ∃ n16 : Int, rd h14 (Addr.add a15 805) = some (Value.int .i64 n16) ∧
    Q [(Value.int .i64 n16), (Value.int .i64 (0 : Int))] h14))
def A_clog_Log_Commit : Ann := .nil
theorem E_clog_Log_Commit (g0_l : Option Addr) (g1_xid : Int) (h : Hp) (Q : List Value → Hp → Prop) : cw PP 38 (fun _ => []) (bodyOf Try.f13) A_clog_Log_Commit (finQ PP (Try.f13.results.toList) Q) (argFr [(Value.pointer g0_l), (Value.int .i64 g1_xid)]) h = F_clog_Log_Commit g0_l g1_xid h Q := by kernel_rfl
theorem O_clog_Log_Commit (g0_l : Option Addr) (g1_xid : Int) {h : Hp} {Q : List Value → Hp → Prop} (H : F_clog_Log_Commit g0_l g1_xid h Q) : S_clog_Log_Commit g0_l g1_xid h Q :=
  fn_of_cw (hs := (fun _ => [])) (ann := A_clog_Log_Commit) (args := [(Value.pointer g0_l), (Value.int .i64 g1_xid)]) mixedPP Try.func13 (c := bodyOf Try.f13) (by kernel_rfl) (by kernel_rfl) (by kernel_rfl) (Eq.mpr (E_clog_Log_Commit g0_l g1_xid h Q) H)
def F_clog_Log_one (g0_l : Option Addr) (g1_xid : Int) (h : Hp) (Q : List Value → Hp → Prop) : Prop :=
wth (Array.push h (Obj.cells #[(Value.int .i64 (0 : Int)), (Value.int .i64 (0 : Int)), (Value.int .i64 (0 : Int)), (Value.bool false)] T_clog_tx)) fun h1 =>
S_clog_Log_get g0_l g1_xid h1 fun (vs2 : List Value) (h3 : Hp) =>
∃ p4 : Option Addr, vs2 = [(Value.pointer p4)] ∧
(if (!(Option.isNone p4)) = true then
  (nilW p4 fun a5 => ∃ n6 : Int, rd h3 (Addr.add a5 0) = some (Value.int .i64 n6) ∧ ∃ n7 : Int, rd h3 (Addr.add a5 1) = some (Value.int .i64 n7) ∧ ∃ n8 : Int, rd h3 (Addr.add a5 2) = some (Value.int .i64 n8) ∧ ∃ b9 : Bool, rd h3 (Addr.add a5 3) = some (Value.bool b9) ∧ stOk h3 (Addr.mk (Array.size h) 0 none) 4 ∧ wth (wrs h3 (Addr.mk (Array.size h) 0 none) 0 [(Value.int .i64 n6), (Value.int .i64 n7), (Value.int .i64 n8), (Value.bool b9)]) fun h10 =>
    ∃ n11 : Int, rd h10 (Addr.add (Addr.mk (Array.size h) 0 none) 0) = some (Value.int .i64 n11) ∧ ∃ n12 : Int, rd h10 (Addr.add (Addr.mk (Array.size h) 0 none) 1) = some (Value.int .i64 n12) ∧ ∃ n13 : Int, rd h10 (Addr.add (Addr.mk (Array.size h) 0 none) 2) = some (Value.int .i64 n13) ∧ ∃ b14 : Bool, rd h10 (Addr.add (Addr.mk (Array.size h) 0 none) 3) = some (Value.bool b14) ∧ Q [(Value.agg #[(Value.int .i64 n11), (Value.int .i64 n12), (Value.int .i64 n13), (Value.bool b14)])] h10) else
  (stOk h3 (Addr.mk (Array.size h) 0 none) 4 ∧ wth (wrs h3 (Addr.mk (Array.size h) 0 none) 0 [(Value.int .i64 (0 : Int)), (Value.int .i64 (0 : Int)), (Value.int .i64 (0 : Int)), (Value.bool false)]) fun h15 =>
    ∃ n16 : Int, rd h15 (Addr.add (Addr.mk (Array.size h) 0 none) 0) = some (Value.int .i64 n16) ∧ ∃ n17 : Int, rd h15 (Addr.add (Addr.mk (Array.size h) 0 none) 1) = some (Value.int .i64 n17) ∧ ∃ n18 : Int, rd h15 (Addr.add (Addr.mk (Array.size h) 0 none) 2) = some (Value.int .i64 n18) ∧ ∃ b19 : Bool, rd h15 (Addr.add (Addr.mk (Array.size h) 0 none) 3) = some (Value.bool b19) ∧ Q [(Value.agg #[(Value.int .i64 n16), (Value.int .i64 n17), (Value.int .i64 n18), (Value.bool b19)])] h15))
def A_clog_Log_one : Ann := .nil
theorem E_clog_Log_one (g0_l : Option Addr) (g1_xid : Int) (h : Hp) (Q : List Value → Hp → Prop) : cw PP 15 (fun _ => []) (bodyOf Try.f43) A_clog_Log_one (finQ PP (Try.f43.results.toList) Q) (argFr [(Value.pointer g0_l), (Value.int .i64 g1_xid)]) h = F_clog_Log_one g0_l g1_xid h Q := by kernel_rfl
theorem O_clog_Log_one (g0_l : Option Addr) (g1_xid : Int) {h : Hp} {Q : List Value → Hp → Prop} (H : F_clog_Log_one g0_l g1_xid h Q) : S_clog_Log_one g0_l g1_xid h Q :=
  fn_of_cw (hs := (fun _ => [])) (ann := A_clog_Log_one) (args := [(Value.pointer g0_l), (Value.int .i64 g1_xid)]) mixedPP Try.func43 (c := bodyOf Try.f43) (by kernel_rfl) (by kernel_rfl) (by kernel_rfl) (Eq.mpr (E_clog_Log_one g0_l g1_xid h Q) H)
def F_clog_Log_State (g0_l : Option Addr) (g1_xid : Int) (h : Hp) (Q : List Value → Hp → Prop) : Prop :=
S_clog_Log_one g0_l g1_xid h fun (vs1 : List Value) (h2 : Hp) =>
∃ n3 : Int, ∃ n4 : Int, ∃ n5 : Int, ∃ b6 : Bool, vs1 = [(Value.agg #[(Value.int .i64 n3), (Value.int .i64 n4), (Value.int .i64 n5), (Value.bool b6)])] ∧
Q [(Value.int .i64 n3)] h2
def A_clog_Log_State : Ann := .nil
theorem E_clog_Log_State (g0_l : Option Addr) (g1_xid : Int) (h : Hp) (Q : List Value → Hp → Prop) : cw PP 9 (fun _ => []) (bodyOf Try.f27) A_clog_Log_State (finQ PP (Try.f27.results.toList) Q) (argFr [(Value.pointer g0_l), (Value.int .i64 g1_xid)]) h = F_clog_Log_State g0_l g1_xid h Q := by kernel_rfl
theorem O_clog_Log_State (g0_l : Option Addr) (g1_xid : Int) {h : Hp} {Q : List Value → Hp → Prop} (H : F_clog_Log_State g0_l g1_xid h Q) : S_clog_Log_State g0_l g1_xid h Q :=
  fn_of_cw (hs := (fun _ => [])) (ann := A_clog_Log_State) (args := [(Value.pointer g0_l), (Value.int .i64 g1_xid)]) mixedPP Try.func27 (c := bodyOf Try.f27) (by kernel_rfl) (by kernel_rfl) (by kernel_rfl) (Eq.mpr (E_clog_Log_State g0_l g1_xid h Q) H)
def F_heap_Rel_get (g0_r : Option Addr) (g1_tid : Int) (h : Hp) (Q : List Value → Hp → Prop) : Prop :=
wth (Array.push h (Obj.cells #[(Value.int .i64 (0 : Int)), (Value.int .i64 (0 : Int)), (Value.slice none 0 0)] T_api_Tuple)) fun h1 =>
(if (Option.isNone g0_r) = true then
  (stOk h1 (Addr.mk (Array.size h) 0 none) 3 ∧ wth (wrs h1 (Addr.mk (Array.size h) 0 none) 0 [(Value.int .i64 (0 : Int)), (Value.int .i64 (0 : Int)), (Value.slice none 0 0)]) fun h2 =>
    ∃ n3 : Int, rd h2 (Addr.add (Addr.mk (Array.size h) 0 none) 0) = some (Value.int .i64 n3) ∧ ∃ n4 : Int, rd h2 (Addr.add (Addr.mk (Array.size h) 0 none) 1) = some (Value.int .i64 n4) ∧ ∃ l5 : Sl, rd h2 (Addr.add (Addr.mk (Array.size h) 0 none) 2) = some (Value.slice l5.a l5.n l5.c) ∧ Q [(Value.agg #[(Value.int .i64 n3), (Value.int .i64 n4), (Value.slice l5.a l5.n l5.c)]), (Value.bool false)] h2) else
  (nilW g0_r fun a6 => ∃ r7 : Option Nat, rd h1 (Addr.add a6 0) = some (Value.map r7) ∧
    ∃ es8 : Array MapEntry, mapAt h1 r7 es8 ∧ KeysLike (Value.int .i64 g1_tid) es8 ∧ ∃ n9 : Int, ∃ n10 : Int, ∃ l11 : Sl, mgetD (Value.int .i64 g1_tid) es8 (Value.agg #[(Value.int .i64 (0 : Int)), (Value.int .i64 (0 : Int)), (Value.slice none 0 0)]) = (Value.agg #[(Value.int .i64 n9), (Value.int .i64 n10), (Value.slice l11.a l11.n l11.c)]) ∧
    wth (Array.push h1 (Obj.cells #[(Value.int .i64 (0 : Int)), (Value.int .i64 (0 : Int)), (Value.slice none 0 0)] T_api_Tuple)) fun h12 =>
    stOk h12 (Addr.mk (Array.size h1) 0 none) 3 ∧ wth (wrs h12 (Addr.mk (Array.size h1) 0 none) 0 [(Value.int .i64 n9), (Value.int .i64 n10), (Value.slice l11.a l11.n l11.c)]) fun h13 =>
    ∃ n14 : Int, rd h13 (Addr.add (Addr.mk (Array.size h1) 0 none) 0) = some (Value.int .i64 n14) ∧ ∃ n15 : Int, rd h13 (Addr.add (Addr.mk (Array.size h1) 0 none) 1) = some (Value.int .i64 n15) ∧ ∃ l16 : Sl, rd h13 (Addr.add (Addr.mk (Array.size h1) 0 none) 2) = some (Value.slice l16.a l16.n l16.c) ∧ stOk h13 (Addr.mk (Array.size h) 0 none) 3 ∧ wth (wrs h13 (Addr.mk (Array.size h) 0 none) 0 [(Value.int .i64 n14), (Value.int .i64 n15), (Value.slice l16.a l16.n l16.c)]) fun h17 =>
    ∃ n18 : Int, rd h17 (Addr.add (Addr.mk (Array.size h) 0 none) 0) = some (Value.int .i64 n18) ∧ ∃ n19 : Int, rd h17 (Addr.add (Addr.mk (Array.size h) 0 none) 1) = some (Value.int .i64 n19) ∧ ∃ l20 : Sl, rd h17 (Addr.add (Addr.mk (Array.size h) 0 none) 2) = some (Value.slice l20.a l20.n l20.c) ∧ Q [(Value.agg #[(Value.int .i64 n18), (Value.int .i64 n19), (Value.slice l20.a l20.n l20.c)]), (Value.bool (mhas (Value.int .i64 g1_tid) es8))] h17))
def A_heap_Rel_get : Ann := .nil
theorem E_heap_Rel_get (g0_r : Option Addr) (g1_tid : Int) (h : Hp) (Q : List Value → Hp → Prop) : cw PP 22 (fun _ => []) (bodyOf Try.f34) A_heap_Rel_get (finQ PP (Try.f34.results.toList) Q) (argFr [(Value.pointer g0_r), (Value.int .i64 g1_tid)]) h = F_heap_Rel_get g0_r g1_tid h Q := by kernel_rfl
theorem O_heap_Rel_get (g0_r : Option Addr) (g1_tid : Int) {h : Hp} {Q : List Value → Hp → Prop} (H : F_heap_Rel_get g0_r g1_tid h Q) : S_heap_Rel_get g0_r g1_tid h Q :=
  fn_of_cw (hs := (fun _ => [])) (ann := A_heap_Rel_get) (args := [(Value.pointer g0_r), (Value.int .i64 g1_tid)]) mixedPP Try.func34 (c := bodyOf Try.f34) (by kernel_rfl) (by kernel_rfl) (by kernel_rfl) (Eq.mpr (E_heap_Rel_get g0_r g1_tid h Q) H)
def F_clog_Log_Sees (g0_l : Option Addr) (g1_xid : Int) (g2_other : Int) (h : Hp) (Q : List Value → Hp → Prop) : Prop :=
S_clog_Log_get g0_l g1_xid h fun (vs1 : List Value) (h2 : Hp) =>
∃ p3 : Option Addr, vs1 = [(Value.pointer p3)] ∧
S_clog_Log_get g0_l g2_other h2 fun (vs4 : List Value) (h5 : Hp) =>
∃ p6 : Option Addr, vs4 = [(Value.pointer p6)] ∧
∀ J7 : List Value → Hp → Prop, (∀ b8 : Bool, ∀ h9 : Hp, ((if b8 = true then
      (Q [(Value.bool false)] h9) else
      ((if (g1_xid == g2_other) = true then (Q [(Value.bool true)] h9) else
          (nilW p6 fun a10 => ∃ n11 : Int, rd h9 (Addr.add a10 0) = some (Value.int .i64 n11) ∧
            (if (n11 == (2 : Int)) = true then (nilW p6 fun a12 => ∃ n13 : Int, rd h9 (Addr.add a12 1) = some (Value.int .i64 n13) ∧
                nilW p3 fun a14 => ∃ n15 : Int, rd h9 (Addr.add a14 2) = some (Value.int .i64 n15) ∧
                Q [(Value.bool (decide (n13 ≤ n15)))] h9) else
              (Q [(Value.bool false)] h9))))))) → J7 [(Value.bool b8)] h9) →
(if (Option.isNone p3) = true then (J7 [(Value.bool true)] h5) else
  (J7 [(Value.bool (Option.isNone p6))] h5))
def A_clog_Log_Sees : Ann := (.mk none ⟨[], []⟩ .nil (.mk none ⟨[], []⟩ .nil (.mk none ⟨[], []⟩ (.mk none ⟨[], []⟩ (.mk (some ⟨[1, 2, 7, 8], [(20, (.c .bool))]⟩) ⟨[], []⟩ .nil .nil) .nil) .nil)))
theorem E_clog_Log_Sees (g0_l : Option Addr) (g1_xid : Int) (g2_other : Int) (h : Hp) (Q : List Value → Hp → Prop) : cw PP 42 (fun _ => []) (bodyOf Try.f35) A_clog_Log_Sees (finQ PP (Try.f35.results.toList) Q) (argFr [(Value.pointer g0_l), (Value.int .i64 g1_xid), (Value.int .i64 g2_other)]) h = F_clog_Log_Sees g0_l g1_xid g2_other h Q := by kernel_rfl
theorem O_clog_Log_Sees (g0_l : Option Addr) (g1_xid : Int) (g2_other : Int) {h : Hp} {Q : List Value → Hp → Prop} (H : F_clog_Log_Sees g0_l g1_xid g2_other h Q) : S_clog_Log_Sees g0_l g1_xid g2_other h Q :=
  fn_of_cw (hs := (fun _ => [])) (ann := A_clog_Log_Sees) (args := [(Value.pointer g0_l), (Value.int .i64 g1_xid), (Value.int .i64 g2_other)]) mixedPP Try.func35 (c := bodyOf Try.f35) (by kernel_rfl) (by kernel_rfl) (by kernel_rfl) (Eq.mpr (E_clog_Log_Sees g0_l g1_xid g2_other h Q) H)
def F_heap_ended (g0_l : Option Addr) (g1_x_0 : Int) (g1_x_1 : Int) (g1_x_2 : Sl) (h : Hp) (Q : List Value → Hp → Prop) : Prop :=
wth (Array.push h (Obj.cells #[(Value.int .i64 g1_x_0), (Value.int .i64 g1_x_1), (Value.slice g1_x_2.a g1_x_2.n g1_x_2.c)] T_api_Tuple)) fun h1 =>
∃ n2 : Int, rd h1 (Addr.add (Addr.mk (Array.size h) 0 none) 1) = some (Value.int .i64 n2) ∧
(if (n2 != (0 : Int)) = true then (∃ n3 : Int, rd h1 (Addr.add (Addr.mk (Array.size h) 0 none) 1) = some (Value.int .i64 n3) ∧
    S_clog_Log_State g0_l n3 h1 fun (vs4 : List Value) (h5 : Hp) =>
    ∃ n6 : Int, vs4 = [(Value.int .i64 n6)] ∧
    Q [(Value.bool (n6 != (3 : Int)))] h5) else
  (Q [(Value.bool false)] h1))
def A_heap_ended : Ann := .nil
theorem E_heap_ended (g0_l : Option Addr) (g1_x_0 : Int) (g1_x_1 : Int) (g1_x_2 : Sl) (h : Hp) (Q : List Value → Hp → Prop) : cw PP 15 (fun _ => []) (bodyOf Try.f36) A_heap_ended (finQ PP (Try.f36.results.toList) Q) (argFr [(Value.pointer g0_l), (Value.agg #[(Value.int .i64 g1_x_0), (Value.int .i64 g1_x_1), (Value.slice g1_x_2.a g1_x_2.n g1_x_2.c)])]) h = F_heap_ended g0_l g1_x_0 g1_x_1 g1_x_2 h Q := by kernel_rfl
theorem O_heap_ended (g0_l : Option Addr) (g1_x_0 : Int) (g1_x_1 : Int) (g1_x_2 : Sl) {h : Hp} {Q : List Value → Hp → Prop} (H : F_heap_ended g0_l g1_x_0 g1_x_1 g1_x_2 h Q) : S_heap_ended g0_l g1_x_0 g1_x_1 g1_x_2 h Q :=
  fn_of_cw (hs := (fun _ => [])) (ann := A_heap_ended) (args := [(Value.pointer g0_l), (Value.agg #[(Value.int .i64 g1_x_0), (Value.int .i64 g1_x_1), (Value.slice g1_x_2.a g1_x_2.n g1_x_2.c)])]) mixedPP Try.func36 (c := bodyOf Try.f36) (by kernel_rfl) (by kernel_rfl) (by kernel_rfl) (Eq.mpr (E_heap_ended g0_l g1_x_0 g1_x_1 g1_x_2 h Q) H)
def F_heap_Rel_May (g0_r : Option Addr) (g1_l : Option Addr) (g2_xid : Int) (g3_tid : Int) (h : Hp) (Q : List Value → Hp → Prop) : Prop :=
(if (Option.isNone g0_r) = true then
  (Q [(Value.int .i64 (1 : Int)), (Value.int .i64 (0 : Int))] h) else
  (S_heap_Rel_get g0_r g3_tid h fun (vs1 : List Value) (h2 : Hp) =>
    ∃ n3 : Int, ∃ n4 : Int, ∃ l5 : Sl, ∃ b6 : Bool, vs1 = [(Value.agg #[(Value.int .i64 n3), (Value.int .i64 n4), (Value.slice l5.a l5.n l5.c)]), (Value.bool b6)] ∧
    wth (Array.push h2 (Obj.cells #[(Value.int .i64 (0 : Int)), (Value.int .i64 (0 : Int)), (Value.slice none 0 0)] T_api_Tuple)) fun h7 =>
    stOk h7 (Addr.mk (Array.size h2) 0 none) 3 ∧ wth (wrs h7 (Addr.mk (Array.size h2) 0 none) 0 [(Value.int .i64 n3), (Value.int .i64 n4), (Value.slice l5.a l5.n l5.c)]) fun h8 =>
    ∀ J9 : List Value → Hp → Prop, (∀ b10 : Bool, ∀ h11 : Hp, ((if b10 = true then
          (Q [(Value.int .i64 (60 : Int)), (Value.int .i64 (0 : Int))] h11) else
          (∃ n12 : Int, rd h11 (Addr.add (Addr.mk (Array.size h2) 0 none) 0) = some (Value.int .i64 n12) ∧ ∃ n13 : Int, rd h11 (Addr.add (Addr.mk (Array.size h2) 0 none) 1) = some (Value.int .i64 n13) ∧ ∃ l14 : Sl, rd h11 (Addr.add (Addr.mk (Array.size h2) 0 none) 2) = some (Value.slice l14.a l14.n l14.c) ∧ S_heap_ended g1_l n12 n13 ⟨l14.a, l14.n, l14.c⟩ h11 fun (vs15 : List Value) (h16 : Hp) =>
            ∃ b17 : Bool, vs15 = [(Value.bool b17)] ∧
            (if (!b17) = true then
              (Q [(Value.int .i64 (0 : Int)), (Value.int .i64 (0 : Int))] h16) else
              (∃ n18 : Int, rd h16 (Addr.add (Addr.mk (Array.size h2) 0 none) 1) = some (Value.int .i64 n18) ∧
                S_clog_Log_Sees g1_l g2_xid n18 h16 fun (vs19 : List Value) (h20 : Hp) =>
                ∃ b21 : Bool, vs19 = [(Value.bool b21)] ∧
                (if b21 = true then
                  (Q [(Value.int .i64 (60 : Int)), (Value.int .i64 (0 : Int))] h20) else
                  (∃ n22 : Int, rd h20 (Addr.add (Addr.mk (Array.size h2) 0 none) 1) = some (Value.int .i64 n22) ∧
                    S_clog_Log_State g1_l n22 h20 fun (vs23 : List Value) (h24 : Hp) =>
                    ∃ n25 : Int, vs23 = [(Value.int .i64 n25)] ∧
                    (if (n25 == (1 : Int)) = true then
                      (∃ n26 : Int, rd h24 (Addr.add (Addr.mk (Array.size h2) 0 none) 1) = some (Value.int .i64 n26) ∧
                        Q [(Value.int .i64 (75 : Int)), (Value.int .i64 n26)] h24) else
                      (∃ n27 : Int, rd h24 (Addr.add (Addr.mk (Array.size h2) 0 none) 1) = some (Value.int .i64 n27) ∧
                        Q [(Value.int .i64 (71 : Int)), (Value.int .i64 n27)] h24))))))))) → J9 [(Value.bool b10)] h11) →
    (if (!b6) = true then (J9 [(Value.bool true)] h8) else
      (∃ n28 : Int, rd h8 (Addr.add (Addr.mk (Array.size h2) 0 none) 0) = some (Value.int .i64 n28) ∧
        S_clog_Log_Sees g1_l g2_xid n28 h8 fun (vs29 : List Value) (h30 : Hp) =>
        ∃ b31 : Bool, vs29 = [(Value.bool b31)] ∧
        J9 [(Value.bool (!b31))] h30))))
def A_heap_Rel_May : Ann := (.mk none ⟨[], []⟩ .nil (.mk none ⟨[], []⟩ .nil (.mk none ⟨[], []⟩ .nil (.mk none ⟨[], []⟩ (.mk none ⟨[], []⟩ (.mk none ⟨[], []⟩ (.mk (some ⟨[1, 2, 10], [(20, (.c .bool))]⟩) ⟨[], []⟩ .nil .nil) .nil) .nil) .nil))))
theorem E_heap_Rel_May (g0_r : Option Addr) (g1_l : Option Addr) (g2_xid : Int) (g3_tid : Int) (h : Hp) (Q : List Value → Hp → Prop) : cw PP 52 (fun _ => []) (bodyOf Try.f14) A_heap_Rel_May (finQ PP (Try.f14.results.toList) Q) (argFr [(Value.pointer g0_r), (Value.pointer g1_l), (Value.int .i64 g2_xid), (Value.int .i64 g3_tid)]) h = F_heap_Rel_May g0_r g1_l g2_xid g3_tid h Q := by kernel_rfl
theorem O_heap_Rel_May (g0_r : Option Addr) (g1_l : Option Addr) (g2_xid : Int) (g3_tid : Int) {h : Hp} {Q : List Value → Hp → Prop} (H : F_heap_Rel_May g0_r g1_l g2_xid g3_tid h Q) : S_heap_Rel_May g0_r g1_l g2_xid g3_tid h Q :=
  fn_of_cw (hs := (fun _ => [])) (ann := A_heap_Rel_May) (args := [(Value.pointer g0_r), (Value.pointer g1_l), (Value.int .i64 g2_xid), (Value.int .i64 g3_tid)]) mixedPP Try.func14 (c := bodyOf Try.f14) (by kernel_rfl) (by kernel_rfl) (by kernel_rfl) (Eq.mpr (E_heap_Rel_May g0_r g1_l g2_xid g3_tid h Q) H)
def F_heap_Rel_Delete (g0_r : Option Addr) (g1_xid : Int) (g2_tid : Int) (h : Hp) (Q : List Value → Hp → Prop) : Prop :=
∀ J1 : List Value → Hp → Prop, (∀ b2 : Bool, ∀ h3 : Hp, ((if b2 = true then
      (Q [(Value.int .i64 (1 : Int))] h3) else
      (nilW g0_r fun a4 => ∃ r5 : Option Nat, rd h3 (Addr.add a4 0) = some (Value.map r5) ∧
        ∃ es6 : Array MapEntry, mapAt h3 r5 es6 ∧ KeysLike (Value.int .i64 g2_tid) es6 ∧ ∃ n7 : Int, ∃ n8 : Int, ∃ l9 : Sl, mgetD (Value.int .i64 g2_tid) es6 (Value.agg #[(Value.int .i64 (0 : Int)), (Value.int .i64 (0 : Int)), (Value.slice none 0 0)]) = (Value.agg #[(Value.int .i64 n7), (Value.int .i64 n8), (Value.slice l9.a l9.n l9.c)]) ∧
        wth (Array.push h3 (Obj.cells #[(Value.int .i64 (0 : Int)), (Value.int .i64 (0 : Int)), (Value.slice none 0 0)] T_api_Tuple)) fun h10 =>
        stOk h10 (Addr.mk (Array.size h3) 0 none) 3 ∧ wth (wrs h10 (Addr.mk (Array.size h3) 0 none) 0 [(Value.int .i64 n7), (Value.int .i64 n8), (Value.slice l9.a l9.n l9.c)]) fun h11 =>
        (if (!(mhas (Value.int .i64 g2_tid) es6)) = true then
          (Q [(Value.int .i64 (60 : Int))] h11) else
          (stOk h11 (Addr.add (Addr.mk (Array.size h3) 0 none) 1) 1 ∧ wth (wrs h11 (Addr.add (Addr.mk (Array.size h3) 0 none) 1) 0 [(Value.int .i64 g1_xid)]) fun h12 =>
            nilW g0_r fun a13 => ∃ r14 : Option Nat, rd h12 (Addr.add a13 0) = some (Value.map r14) ∧
            ∃ n15 : Int, rd h12 (Addr.add (Addr.mk (Array.size h3) 0 none) 0) = some (Value.int .i64 n15) ∧ ∃ n16 : Int, rd h12 (Addr.add (Addr.mk (Array.size h3) 0 none) 1) = some (Value.int .i64 n16) ∧ ∃ l17 : Sl, rd h12 (Addr.add (Addr.mk (Array.size h3) 0 none) 2) = some (Value.slice l17.a l17.n l17.c) ∧ ∃ (m18 : Nat) (es19 : Array MapEntry) (c20 : Nat), r14 = some m18 ∧ h12[m18]? = some (.map es19 c20) ∧ KeysLike (Value.int .i64 g2_tid) es19 ∧ wth (Array.setIfInBounds h12 m18 (mput (Value.int .i64 g2_tid) (Value.agg #[(Value.int .i64 n15), (Value.int .i64 n16), (Value.slice l17.a l17.n l17.c)]) es19 c20)) fun h21 =>
            Q [(Value.int .i64 (0 : Int))] h21))))) → J1 [(Value.bool b2)] h3) →
(if (Option.isNone g0_r) = true then (J1 [(Value.bool true)] h) else
  (J1 [(Value.bool (decide (g1_xid < (1 : Int))))] h))
def A_heap_Rel_Delete : Ann := (.mk none ⟨[], []⟩ .nil (.mk none ⟨[], []⟩ (.mk none ⟨[], []⟩ (.mk (some ⟨[0, 1, 2], [(14, (.c .bool))]⟩) ⟨[], []⟩ .nil .nil) .nil) .nil))
theorem E_heap_Rel_Delete (g0_r : Option Addr) (g1_xid : Int) (g2_tid : Int) (h : Hp) (Q : List Value → Hp → Prop) : cw PP 34 (fun _ => []) (bodyOf Try.f15) A_heap_Rel_Delete (finQ PP (Try.f15.results.toList) Q) (argFr [(Value.pointer g0_r), (Value.int .i64 g1_xid), (Value.int .i64 g2_tid)]) h = F_heap_Rel_Delete g0_r g1_xid g2_tid h Q := by kernel_rfl
theorem O_heap_Rel_Delete (g0_r : Option Addr) (g1_xid : Int) (g2_tid : Int) {h : Hp} {Q : List Value → Hp → Prop} (H : F_heap_Rel_Delete g0_r g1_xid g2_tid h Q) : S_heap_Rel_Delete g0_r g1_xid g2_tid h Q :=
  fn_of_cw (hs := (fun _ => [])) (ann := A_heap_Rel_Delete) (args := [(Value.pointer g0_r), (Value.int .i64 g1_xid), (Value.int .i64 g2_tid)]) mixedPP Try.func15 (c := bodyOf Try.f15) (by kernel_rfl) (by kernel_rfl) (by kernel_rfl) (Eq.mpr (E_heap_Rel_Delete g0_r g1_xid g2_tid h Q) H)
def F_heap_Rel_Sees (g0_r : Option Addr) (g1_l : Option Addr) (g2_xid : Int) (g3_tid : Int) (h : Hp) (Q : List Value → Hp → Prop) : Prop :=
S_heap_Rel_get g0_r g3_tid h fun (vs1 : List Value) (h2 : Hp) =>
∃ n3 : Int, ∃ n4 : Int, ∃ l5 : Sl, ∃ b6 : Bool, vs1 = [(Value.agg #[(Value.int .i64 n3), (Value.int .i64 n4), (Value.slice l5.a l5.n l5.c)]), (Value.bool b6)] ∧
wth (Array.push h2 (Obj.cells #[(Value.int .i64 (0 : Int)), (Value.int .i64 (0 : Int)), (Value.slice none 0 0)] T_api_Tuple)) fun h7 =>
stOk h7 (Addr.mk (Array.size h2) 0 none) 3 ∧ wth (wrs h7 (Addr.mk (Array.size h2) 0 none) 0 [(Value.int .i64 n3), (Value.int .i64 n4), (Value.slice l5.a l5.n l5.c)]) fun h8 =>
(if b6 = true then (∃ n9 : Int, rd h8 (Addr.add (Addr.mk (Array.size h2) 0 none) 0) = some (Value.int .i64 n9) ∧
    S_clog_Log_Sees g1_l g2_xid n9 h8 fun (vs10 : List Value) (h11 : Hp) =>
    ∃ b12 : Bool, vs10 = [(Value.bool b12)] ∧
    (if b12 = true then (∃ n13 : Int, rd h11 (Addr.add (Addr.mk (Array.size h2) 0 none) 0) = some (Value.int .i64 n13) ∧ ∃ n14 : Int, rd h11 (Addr.add (Addr.mk (Array.size h2) 0 none) 1) = some (Value.int .i64 n14) ∧ ∃ l15 : Sl, rd h11 (Addr.add (Addr.mk (Array.size h2) 0 none) 2) = some (Value.slice l15.a l15.n l15.c) ∧ S_heap_ended g1_l n13 n14 ⟨l15.a, l15.n, l15.c⟩ h11 fun (vs16 : List Value) (h17 : Hp) =>
        ∃ b18 : Bool, vs16 = [(Value.bool b18)] ∧
        (if b18 = true then (∃ n19 : Int, rd h17 (Addr.add (Addr.mk (Array.size h2) 0 none) 1) = some (Value.int .i64 n19) ∧
            S_clog_Log_Sees g1_l g2_xid n19 h17 fun (vs20 : List Value) (h21 : Hp) =>
            ∃ b22 : Bool, vs20 = [(Value.bool b22)] ∧
            Q [(Value.bool (!b22))] h21) else
          (Q [(Value.bool true)] h17))) else
      (Q [(Value.bool false)] h11))) else
  (Q [(Value.bool false)] h8))
def A_heap_Rel_Sees : Ann := .nil
theorem E_heap_Rel_Sees (g0_r : Option Addr) (g1_l : Option Addr) (g2_xid : Int) (g3_tid : Int) (h : Hp) (Q : List Value → Hp → Prop) : cw PP 38 (fun _ => []) (bodyOf Try.f16) A_heap_Rel_Sees (finQ PP (Try.f16.results.toList) Q) (argFr [(Value.pointer g0_r), (Value.pointer g1_l), (Value.int .i64 g2_xid), (Value.int .i64 g3_tid)]) h = F_heap_Rel_Sees g0_r g1_l g2_xid g3_tid h Q := by kernel_rfl
theorem O_heap_Rel_Sees (g0_r : Option Addr) (g1_l : Option Addr) (g2_xid : Int) (g3_tid : Int) {h : Hp} {Q : List Value → Hp → Prop} (H : F_heap_Rel_Sees g0_r g1_l g2_xid g3_tid h Q) : S_heap_Rel_Sees g0_r g1_l g2_xid g3_tid h Q :=
  fn_of_cw (hs := (fun _ => [])) (ann := A_heap_Rel_Sees) (args := [(Value.pointer g0_r), (Value.pointer g1_l), (Value.int .i64 g2_xid), (Value.int .i64 g3_tid)]) mixedPP Try.func16 (c := bodyOf Try.f16) (by kernel_rfl) (by kernel_rfl) (by kernel_rfl) (Eq.mpr (E_heap_Rel_Sees g0_r g1_l g2_xid g3_tid h Q) H)
def F_liverykeep_Ints (g0_a : Sl) (g1_b : Sl) (h : Hp) (Q : List Value → Hp → Prop) : Prop :=
(if ((g0_a.n : Int) != (g1_b.n : Int)) = true then
  (Q [(Value.bool false)] h) else
  (∀ X1 : List Value → Hp → Prop, (∀ n2 : Int, ∀ h3 : Hp, ((if (decide (n2 < (g0_a.n : Int))) = true then
          (nilW g0_a.a fun a4 => ixOk n2 g0_a.n (∃ n5 : Int, rd h3 (Addr.add a4 (Int.toNat n2 * 1)) = some (Value.int .i64 n5) ∧
              nilW g1_b.a fun a6 => ixOk n2 g1_b.n (∃ n7 : Int, rd h3 (Addr.add a6 (Int.toNat n2 * 1)) = some (Value.int .i64 n7) ∧
                (if (n5 != n7) = true then
                  (Q [(Value.bool false)] h3) else
                  (X1 [(Value.int .i64 (IntKind.wrap .i64 (n2 + (1 : Int))))] h3))))) else
          (Q [(Value.bool true)] h3))) → X1 [(Value.int .i64 n2)] h3) →
    X1 [(Value.int .i64 (0 : Int))] h))
def A_liverykeep_Ints : Ann := (.mk none ⟨[], []⟩ .nil (.mk none ⟨[], []⟩ .nil (.mk none ⟨[], []⟩ (.mk none ⟨[], []⟩ .nil (.mk none ⟨[], []⟩ (.mk none ⟨[0, 1], [(5, (.c (.int .i64)))]⟩ .nil .nil) .nil)) .nil)))
theorem E_liverykeep_Ints (g0_a : Sl) (g1_b : Sl) (h : Hp) (Q : List Value → Hp → Prop) : cw PP 26 (fun _ => []) (bodyOf Try.f17) A_liverykeep_Ints (finQ PP (Try.f17.results.toList) Q) (argFr [(Value.slice g0_a.a g0_a.n g0_a.c), (Value.slice g1_b.a g1_b.n g1_b.c)]) h = F_liverykeep_Ints g0_a g1_b h Q := by kernel_rfl
theorem O_liverykeep_Ints (g0_a : Sl) (g1_b : Sl) {h : Hp} {Q : List Value → Hp → Prop} (H : F_liverykeep_Ints g0_a g1_b h Q) : S_liverykeep_Ints g0_a g1_b h Q :=
  fn_of_cw (hs := (fun _ => [])) (ann := A_liverykeep_Ints) (args := [(Value.slice g0_a.a g0_a.n g0_a.c), (Value.slice g1_b.a g1_b.n g1_b.c)]) mixedPP Try.func17 (c := bodyOf Try.f17) (by kernel_rfl) (by kernel_rfl) (by kernel_rfl) (Eq.mpr (E_liverykeep_Ints g0_a g1_b h Q) H)
def F_heap_Rel_Unseen (g0_r : Option Addr) (g1_l : Option Addr) (g2_xid : Int) (g3_tid : Int) (h : Hp) (Q : List Value → Hp → Prop) : Prop :=
S_heap_Rel_get g0_r g3_tid h fun (vs1 : List Value) (h2 : Hp) =>
∃ n3 : Int, ∃ n4 : Int, ∃ l5 : Sl, ∃ b6 : Bool, vs1 = [(Value.agg #[(Value.int .i64 n3), (Value.int .i64 n4), (Value.slice l5.a l5.n l5.c)]), (Value.bool b6)] ∧
wth (Array.push h2 (Obj.cells #[(Value.int .i64 (0 : Int)), (Value.int .i64 (0 : Int)), (Value.slice none 0 0)] T_api_Tuple)) fun h7 =>
stOk h7 (Addr.mk (Array.size h2) 0 none) 3 ∧ wth (wrs h7 (Addr.mk (Array.size h2) 0 none) 0 [(Value.int .i64 n3), (Value.int .i64 n4), (Value.slice l5.a l5.n l5.c)]) fun h8 =>
∀ J9 : List Value → Hp → Prop, (∀ h10 : Hp, (Q [(Value.slice none 0 0)] h10) → J9 [] h10) →
(if (!b6) = true then
  (Q [(Value.slice none 0 0)] h8) else
  (∃ n11 : Int, rd h8 (Addr.add (Addr.mk (Array.size h2) 0 none) 0) = some (Value.int .i64 n11) ∧
    S_clog_Log_Sees g1_l g2_xid n11 h8 fun (vs12 : List Value) (h13 : Hp) =>
    ∃ b14 : Bool, vs12 = [(Value.bool b14)] ∧
    (if (!b14) = true then
      (∃ n15 : Int, rd h13 (Addr.add (Addr.mk (Array.size h2) 0 none) 0) = some (Value.int .i64 n15) ∧
        S_clog_Log_State g1_l n15 h13 fun (vs16 : List Value) (h17 : Hp) =>
        ∃ n18 : Int, vs16 = [(Value.int .i64 n18)] ∧
        (if (n18 != (3 : Int)) = true then
          (∃ n19 : Int, rd h17 (Addr.add (Addr.mk (Array.size h2) 0 none) 0) = some (Value.int .i64 n19) ∧
            wth (Array.push h17 (Obj.cells #[(Value.int .i64 n19)] T_int)) fun h20 =>
            Q [(Value.slice (some (Addr.mk (Array.size h17) 0 none)) 1 1)] h20) else
          (J9 [] h17))) else
      (∀ J21 : List Value → Hp → Prop, (∀ b22 : Bool, ∀ h23 : Hp, ((if b22 = true then
              (∃ n24 : Int, rd h23 (Addr.add (Addr.mk (Array.size h2) 0 none) 1) = some (Value.int .i64 n24) ∧
                wth (Array.push h23 (Obj.cells #[(Value.int .i64 n24)] T_int)) fun h25 =>
                Q [(Value.slice (some (Addr.mk (Array.size h23) 0 none)) 1 1)] h25) else
              (J9 [] h23))) → J21 [(Value.bool b22)] h23) →
        ∃ n26 : Int, rd h13 (Addr.add (Addr.mk (Array.size h2) 0 none) 0) = some (Value.int .i64 n26) ∧ ∃ n27 : Int, rd h13 (Addr.add (Addr.mk (Array.size h2) 0 none) 1) = some (Value.int .i64 n27) ∧ ∃ l28 : Sl, rd h13 (Addr.add (Addr.mk (Array.size h2) 0 none) 2) = some (Value.slice l28.a l28.n l28.c) ∧ S_heap_ended g1_l n26 n27 ⟨l28.a, l28.n, l28.c⟩ h13 fun (vs29 : List Value) (h30 : Hp) =>
        ∃ b31 : Bool, vs29 = [(Value.bool b31)] ∧
        (if b31 = true then (∃ n32 : Int, rd h30 (Addr.add (Addr.mk (Array.size h2) 0 none) 1) = some (Value.int .i64 n32) ∧
            S_clog_Log_Sees g1_l g2_xid n32 h30 fun (vs33 : List Value) (h34 : Hp) =>
            ∃ b35 : Bool, vs33 = [(Value.bool b35)] ∧
            J21 [(Value.bool (!b35))] h34) else
          (J21 [(Value.bool false)] h30))))))
def A_heap_Rel_Unseen : Ann := (.mk none ⟨[], []⟩ .nil (.mk none ⟨[], []⟩ .nil (.mk none ⟨[], []⟩ (.mk (some ⟨[], []⟩) ⟨[], []⟩ (.mk none ⟨[], []⟩ .nil (.mk none ⟨[], []⟩ .nil (.mk none ⟨[], []⟩ .nil (.mk none ⟨[], []⟩ .nil (.mk none ⟨[], []⟩ (.mk (some ⟨[9], [(35, (.c .bool))]⟩) ⟨[], []⟩ .nil .nil) .nil))))) .nil) .nil)))
theorem E_heap_Rel_Unseen (g0_r : Option Addr) (g1_l : Option Addr) (g2_xid : Int) (g3_tid : Int) (h : Hp) (Q : List Value → Hp → Prop) : cw PP 50 (fun _ => []) (bodyOf Try.f18) A_heap_Rel_Unseen (finQ PP (Try.f18.results.toList) Q) (argFr [(Value.pointer g0_r), (Value.pointer g1_l), (Value.int .i64 g2_xid), (Value.int .i64 g3_tid)]) h = F_heap_Rel_Unseen g0_r g1_l g2_xid g3_tid h Q := by kernel_rfl
theorem O_heap_Rel_Unseen (g0_r : Option Addr) (g1_l : Option Addr) (g2_xid : Int) (g3_tid : Int) {h : Hp} {Q : List Value → Hp → Prop} (H : F_heap_Rel_Unseen g0_r g1_l g2_xid g3_tid h Q) : S_heap_Rel_Unseen g0_r g1_l g2_xid g3_tid h Q :=
  fn_of_cw (hs := (fun _ => [])) (ann := A_heap_Rel_Unseen) (args := [(Value.pointer g0_r), (Value.pointer g1_l), (Value.int .i64 g2_xid), (Value.int .i64 g3_tid)]) mixedPP Try.func18 (c := bodyOf Try.f18) (by kernel_rfl) (by kernel_rfl) (by kernel_rfl) (Eq.mpr (E_heap_Rel_Unseen g0_r g1_l g2_xid g3_tid h Q) H)
def F_clog_Log_Abort (g0_l : Option Addr) (g1_xid : Int) (h : Hp) (Q : List Value → Hp → Prop) : Prop :=
S_clog_Log_ends g0_l g1_xid h fun (vs1 : List Value) (h2 : Hp) =>
∃ p3 : Option Addr, ∃ n4 : Int, vs1 = [(Value.pointer p3), (Value.int .i64 n4)] ∧
∀ J5 : List Value → Hp → Prop, (∀ h6 : Hp, (Q [(Value.int .i64 n4)] h6) → J5 [] h6) →
(if (n4 == (0 : Int)) = true then
  (nilW p3 fun a7 => stOk h2 (Addr.add a7 0) 1 ∧ wth (wrs h2 (Addr.add a7 0) 0 [(Value.int .i64 (3 : Int))]) fun h8 =>
    J5 [] h8) else
  (J5 [] h2))
def A_clog_Log_Abort : Ann := (.mk none ⟨[], []⟩ .nil (.mk none ⟨[], []⟩ .nil (.mk none ⟨[], []⟩ (.mk none ⟨[], []⟩ .nil (.mk (some ⟨[6], []⟩) ⟨[], []⟩ .nil .nil)) .nil)))
theorem E_clog_Log_Abort (g0_l : Option Addr) (g1_xid : Int) (h : Hp) (Q : List Value → Hp → Prop) : cw PP 19 (fun _ => []) (bodyOf Try.f19) A_clog_Log_Abort (finQ PP (Try.f19.results.toList) Q) (argFr [(Value.pointer g0_l), (Value.int .i64 g1_xid)]) h = F_clog_Log_Abort g0_l g1_xid h Q := by kernel_rfl
theorem O_clog_Log_Abort (g0_l : Option Addr) (g1_xid : Int) {h : Hp} {Q : List Value → Hp → Prop} (H : F_clog_Log_Abort g0_l g1_xid h Q) : S_clog_Log_Abort g0_l g1_xid h Q :=
  fn_of_cw (hs := (fun _ => [])) (ann := A_clog_Log_Abort) (args := [(Value.pointer g0_l), (Value.int .i64 g1_xid)]) mixedPP Try.func19 (c := bodyOf Try.f19) (by kernel_rfl) (by kernel_rfl) (by kernel_rfl) (Eq.mpr (E_clog_Log_Abort g0_l g1_xid h Q) H)
def F_heap_Rel_Get (g0_r : Option Addr) (g1_tid : Int) (h : Hp) (Q : List Value → Hp → Prop) : Prop :=
wth (Array.push h (Obj.cells #[(Value.int .i64 (0 : Int)), (Value.int .i64 (0 : Int)), (Value.slice none 0 0)] T_api_Tuple)) fun h1 =>
S_heap_Rel_get g0_r g1_tid h1 fun (vs2 : List Value) (h3 : Hp) =>
∃ n4 : Int, ∃ n5 : Int, ∃ l6 : Sl, ∃ b7 : Bool, vs2 = [(Value.agg #[(Value.int .i64 n4), (Value.int .i64 n5), (Value.slice l6.a l6.n l6.c)]), (Value.bool b7)] ∧
wth (Array.push h3 (Obj.cells #[(Value.int .i64 (0 : Int)), (Value.int .i64 (0 : Int)), (Value.slice none 0 0)] T_api_Tuple)) fun h8 =>
stOk h8 (Addr.mk (Array.size h3) 0 none) 3 ∧ wth (wrs h8 (Addr.mk (Array.size h3) 0 none) 0 [(Value.int .i64 n4), (Value.int .i64 n5), (Value.slice l6.a l6.n l6.c)]) fun h9 =>
∃ l10 : Sl, rd h9 (Addr.add (Addr.mk (Array.size h3) 0 none) 2) = some (Value.slice l10.a l10.n l10.c) ∧
S_slices_Clone_sapi_Value_api_Value ⟨l10.a, l10.n, l10.c⟩ h9 fun (vs11 : List Value) (h12 : Hp) =>
∃ l13 : Sl, vs11 = [(Value.slice l13.a l13.n l13.c)] ∧
stOk h12 (Addr.add (Addr.mk (Array.size h3) 0 none) 2) 1 ∧ wth (wrs h12 (Addr.add (Addr.mk (Array.size h3) 0 none) 2) 0 [(Value.slice l13.a l13.n l13.c)]) fun h14 =>
∃ n15 : Int, rd h14 (Addr.add (Addr.mk (Array.size h3) 0 none) 0) = some (Value.int .i64 n15) ∧ ∃ n16 : Int, rd h14 (Addr.add (Addr.mk (Array.size h3) 0 none) 1) = some (Value.int .i64 n16) ∧ ∃ l17 : Sl, rd h14 (Addr.add (Addr.mk (Array.size h3) 0 none) 2) = some (Value.slice l17.a l17.n l17.c) ∧ stOk h14 (Addr.mk (Array.size h) 0 none) 3 ∧ wth (wrs h14 (Addr.mk (Array.size h) 0 none) 0 [(Value.int .i64 n15), (Value.int .i64 n16), (Value.slice l17.a l17.n l17.c)]) fun h18 =>
∃ n19 : Int, rd h18 (Addr.add (Addr.mk (Array.size h) 0 none) 0) = some (Value.int .i64 n19) ∧ ∃ n20 : Int, rd h18 (Addr.add (Addr.mk (Array.size h) 0 none) 1) = some (Value.int .i64 n20) ∧ ∃ l21 : Sl, rd h18 (Addr.add (Addr.mk (Array.size h) 0 none) 2) = some (Value.slice l21.a l21.n l21.c) ∧ Q [(Value.agg #[(Value.int .i64 n19), (Value.int .i64 n20), (Value.slice l21.a l21.n l21.c)]), (Value.bool b7)] h18
def A_heap_Rel_Get : Ann := .nil
theorem E_heap_Rel_Get (g0_r : Option Addr) (g1_tid : Int) (h : Hp) (Q : List Value → Hp → Prop) : cw PP 20 (fun _ => []) (bodyOf Try.f23) A_heap_Rel_Get (finQ PP (Try.f23.results.toList) Q) (argFr [(Value.pointer g0_r), (Value.int .i64 g1_tid)]) h = F_heap_Rel_Get g0_r g1_tid h Q := by kernel_rfl
theorem O_heap_Rel_Get (g0_r : Option Addr) (g1_tid : Int) {h : Hp} {Q : List Value → Hp → Prop} (H : F_heap_Rel_Get g0_r g1_tid h Q) : S_heap_Rel_Get g0_r g1_tid h Q :=
  fn_of_cw (hs := (fun _ => [])) (ann := A_heap_Rel_Get) (args := [(Value.pointer g0_r), (Value.int .i64 g1_tid)]) mixedPP Try.func23 (c := bodyOf Try.f23) (by kernel_rfl) (by kernel_rfl) (by kernel_rfl) (Eq.mpr (E_heap_Rel_Get g0_r g1_tid h Q) H)
def F_liverylaw09_wakes (h : Hp) (Q : List Value → Hp → Prop) : Prop :=
S_clog_New  h fun (vs1 : List Value) (h2 : Hp) =>
∃ p3 : Option Addr, vs1 = [(Value.pointer p3)] ∧
S_heap_New  h2 fun (vs4 : List Value) (h5 : Hp) =>
∃ p6 : Option Addr, vs4 = [(Value.pointer p6)] ∧
∀ J7 : List Value → Hp → Prop, (∀ b8 : Bool, ∀ h9 : Hp, ((if b8 = true then
      (Q [(Value.bool false)] h9) else
      (S_clog_Log_Begin p3 false h9 fun (vs10 : List Value) (h11 : Hp) =>
        ∃ n12 : Int, ∃ n13 : Int, vs10 = [(Value.int .i64 n12), (Value.int .i64 n13)] ∧
        S_clog_Log_Begin p3 false h11 fun (vs14 : List Value) (h15 : Hp) =>
        ∃ n16 : Int, ∃ n17 : Int, vs14 = [(Value.int .i64 n16), (Value.int .i64 n17)] ∧
        S_liverylaw09_one (5 : Int) h15 fun (vs18 : List Value) (h19 : Hp) =>
        ∃ l20 : Sl, vs18 = [(Value.slice l20.a l20.n l20.c)] ∧
        S_heap_Rel_Insert p6 (1 : Int) ⟨l20.a, l20.n, l20.c⟩ h19 fun (vs21 : List Value) (h22 : Hp) =>
        ∃ n23 : Int, ∃ n24 : Int, vs21 = [(Value.int .i64 n23), (Value.int .i64 n24)] ∧
        S_heap_Rel_Unseen p6 p3 (2 : Int) (0 : Int) h22 fun (vs25 : List Value) (h26 : Hp) =>
        ∃ l27 : Sl, vs25 = [(Value.slice l27.a l27.n l27.c)] ∧
        S_heap_Rel_May p6 p3 (2 : Int) (0 : Int) h26 fun (vs28 : List Value) (h29 : Hp) =>
        ∃ n30 : Int, ∃ n31 : Int, vs28 = [(Value.int .i64 n30), (Value.int .i64 n31)] ∧
        S_heap_Rel_Get p6 (0 : Int) h29 fun (vs32 : List Value) (h33 : Hp) =>
        ∃ n34 : Int, ∃ n35 : Int, ∃ l36 : Sl, ∃ b37 : Bool, vs32 = [(Value.agg #[(Value.int .i64 n34), (Value.int .i64 n35), (Value.slice l36.a l36.n l36.c)]), (Value.bool b37)] ∧
        wth (Array.push h33 (Obj.cells #[(Value.int .i64 (0 : Int)), (Value.int .i64 (0 : Int)), (Value.slice none 0 0)] T_api_Tuple)) fun h38 =>
        stOk h38 (Addr.mk (Array.size h33) 0 none) 3 ∧ wth (wrs h38 (Addr.mk (Array.size h33) 0 none) 0 [(Value.int .i64 n34), (Value.int .i64 n35), (Value.slice l36.a l36.n l36.c)]) fun h39 =>
        (if (n24 == (0 : Int)) = true then ((if (n23 == (0 : Int)) = true then (S_heap_Rel_Sees p6 p3 (1 : Int) (0 : Int) h39 fun (vs40 : List Value) (h41 : Hp) =>
                ∃ b42 : Bool, vs40 = [(Value.bool b42)] ∧
                (if b42 = true then (S_heap_Rel_Sees p6 p3 (2 : Int) (0 : Int) h41 fun (vs43 : List Value) (h44 : Hp) =>
                    ∃ b45 : Bool, vs43 = [(Value.bool b45)] ∧
                    (if (!b45) = true then (wth (Array.push h44 (Obj.cells #[(Value.int .i64 (1 : Int))] T_int)) fun h46 =>
                        S_liverykeep_Ints ⟨l27.a, l27.n, l27.c⟩ ⟨(some (Addr.mk (Array.size h44) 0 none)), 1, 1⟩ h46 fun (vs47 : List Value) (h48 : Hp) =>
                        ∃ b49 : Bool, vs47 = [(Value.bool b49)] ∧
                        (if b49 = true then ((if (n30 == (60 : Int)) = true then ((if (n31 == (0 : Int)) = true then ((if b37 = true then (∃ n50 : Int, rd h48 (Addr.add (Addr.mk (Array.size h33) 0 none) 0) = some (Value.int .i64 n50) ∧
                                        (if (n50 == (1 : Int)) = true then (∃ l51 : Sl, rd h48 (Addr.add (Addr.mk (Array.size h33) 0 none) 2) = some (Value.slice l51.a l51.n l51.c) ∧
                                            Q [(Value.bool ((l51.n : Int) == (1 : Int)))] h48) else
                                          (Q [(Value.bool false)] h48))) else
                                      (Q [(Value.bool false)] h48))) else
                                  (Q [(Value.bool false)] h48))) else
                              (Q [(Value.bool false)] h48))) else
                          (Q [(Value.bool false)] h48))) else
                      (Q [(Value.bool false)] h44))) else
                  (Q [(Value.bool false)] h41))) else
              (Q [(Value.bool false)] h39))) else
          (Q [(Value.bool false)] h39))))) → J7 [(Value.bool b8)] h9) →
(if (Option.isNone p3) = true then (J7 [(Value.bool true)] h5) else
  (J7 [(Value.bool (Option.isNone p6))] h5))
def A_liverylaw09_wakes : Ann := (.mk none ⟨[], []⟩ .nil (.mk none ⟨[], []⟩ .nil (.mk none ⟨[], []⟩ (.mk none ⟨[], []⟩ (.mk (some ⟨[1, 2], [(17, (.c .bool))]⟩) ⟨[], []⟩ .nil .nil) .nil) .nil)))
theorem E_liverylaw09_wakes (h : Hp) (Q : List Value → Hp → Prop) : cw PP 86 (fun _ => []) (bodyOf Try.f20) A_liverylaw09_wakes (finQ PP (Try.f20.results.toList) Q) (argFr []) h = F_liverylaw09_wakes h Q := by kernel_rfl
theorem O_liverylaw09_wakes {h : Hp} {Q : List Value → Hp → Prop} (H : F_liverylaw09_wakes h Q) : S_liverylaw09_wakes h Q :=
  fn_of_cw (hs := (fun _ => [])) (ann := A_liverylaw09_wakes) (args := []) mixedPP Try.func20 (c := bodyOf Try.f20) (by kernel_rfl) (by kernel_rfl) (by kernel_rfl) (Eq.mpr (E_liverylaw09_wakes h Q) H)
def F_liverylaw09_HeapFirst (g0_commit : Bool) (g1_more : Int) (h : Hp) (Q : List Value → Hp → Prop) : Prop :=
S_clog_New  h fun (vs1 : List Value) (h2 : Hp) =>
∃ p3 : Option Addr, vs1 = [(Value.pointer p3)] ∧
S_heap_New  h2 fun (vs4 : List Value) (h5 : Hp) =>
∃ p6 : Option Addr, vs4 = [(Value.pointer p6)] ∧
∀ J7 : List Value → Hp → Prop, (∀ b8 : Bool, ∀ h9 : Hp, ((if b8 = true then
      (Q [(Value.bool false)] h9) else
      (S_clog_Log_Begin p3 false h9 fun (vs10 : List Value) (h11 : Hp) =>
        ∃ n12 : Int, ∃ n13 : Int, vs10 = [(Value.int .i64 n12), (Value.int .i64 n13)] ∧
        S_liverylaw09_one (5 : Int) h11 fun (vs14 : List Value) (h15 : Hp) =>
        ∃ l16 : Sl, vs14 = [(Value.slice l16.a l16.n l16.c)] ∧
        S_heap_Rel_Insert p6 (1 : Int) ⟨l16.a, l16.n, l16.c⟩ h15 fun (vs17 : List Value) (h18 : Hp) =>
        ∃ n19 : Int, ∃ n20 : Int, vs17 = [(Value.int .i64 n19), (Value.int .i64 n20)] ∧
        (if (n20 != (0 : Int)) = true then
          (Q [(Value.bool false)] h18) else
          (S_clog_Log_Commit p3 (1 : Int) h18 fun (vs21 : List Value) (h22 : Hp) =>
            ∃ n23 : Int, ∃ n24 : Int, vs21 = [(Value.int .i64 n23), (Value.int .i64 n24)] ∧
            ∀ X25 : List Value → Hp → Prop, (∀ n26 : Int, ∀ h27 : Hp, (divOk (5 : Int) ((if (decide (n26 < (IntKind.wrap .i64 ((2 : Int) + (Int.tmod (IntKind.wrap .i64 g1_more) (5 : Int)))))) = true then
                    (S_clog_Log_Begin p3 false h27 fun (vs28 : List Value) (h29 : Hp) =>
                      ∃ n30 : Int, ∃ n31 : Int, vs28 = [(Value.int .i64 n30), (Value.int .i64 n31)] ∧
                      X25 [(Value.int .i64 (IntKind.wrap .i64 (n26 + (1 : Int))))] h29) else
                    (S_heap_Rel_May p6 p3 (2 : Int) (0 : Int) h27 fun (vs32 : List Value) (h33 : Hp) =>
                      ∃ n34 : Int, ∃ n35 : Int, vs32 = [(Value.int .i64 n34), (Value.int .i64 n35)] ∧
                      ∀ J36 : List Value → Hp → Prop, (∀ b37 : Bool, ∀ h38 : Hp, ((if b37 = true then
                            (Q [(Value.bool false)] h38) else
                            (S_heap_Rel_May p6 p3 (3 : Int) (0 : Int) h38 fun (vs39 : List Value) (h40 : Hp) =>
                              ∃ n41 : Int, ∃ n42 : Int, vs39 = [(Value.int .i64 n41), (Value.int .i64 n42)] ∧
                              ∀ J43 : List Value → Hp → Prop, (∀ b44 : Bool, ∀ h45 : Hp, ((if b44 = true then
                                    (Q [(Value.bool false)] h45) else
                                    (∀ J46 : List Value → Hp → Prop, (∀ h47 : Hp, (S_heap_Rel_May p6 p3 (3 : Int) (0 : Int) h47 fun (vs48 : List Value) (h49 : Hp) =>
                                          ∃ n50 : Int, ∃ n51 : Int, vs48 = [(Value.int .i64 n50), (Value.int .i64 n51)] ∧
                                          S_clog_Log_Begin p3 false h49 fun (vs52 : List Value) (h53 : Hp) =>
                                          ∃ n54 : Int, ∃ n55 : Int, vs52 = [(Value.int .i64 n54), (Value.int .i64 n55)] ∧
                                          ∀ J56 : List Value → Hp → Prop, (∀ b57 : Bool, ∀ h58 : Hp, ((if b57 = true then
                                                (Q [(Value.bool false)] h58) else
                                                ((if g0_commit = true then
                                                    (∀ J59 : List Value → Hp → Prop, (∀ b60 : Bool, ∀ h61 : Hp, (Q [(Value.bool b60)] h61) → J59 [(Value.bool b60)] h61) →
                                                      (if (n50 == (71 : Int)) = true then ((if (n51 == (2 : Int)) = true then (S_liverylaw09_wakes  h58 fun (vs62 : List Value) (h63 : Hp) =>
                                                            ∃ b64 : Bool, vs62 = [(Value.bool b64)] ∧
                                                            J59 [(Value.bool b64)] h63) else
                                                            (J59 [(Value.bool false)] h58))) else
                                                        (J59 [(Value.bool false)] h58))) else
                                                    ((if (n50 == (0 : Int)) = true then ((if (n51 == (0 : Int)) = true then (S_heap_Rel_Unseen p6 p3 (3 : Int) (0 : Int) h58 fun (vs65 : List Value) (h66 : Hp) =>
                                                            ∃ l67 : Sl, vs65 = [(Value.slice l67.a l67.n l67.c)] ∧
                                                            (if ((l67.n : Int) == (0 : Int)) = true then (S_liverylaw09_wakes  h66 fun (vs68 : List Value) (h69 : Hp) =>
                                                            ∃ b70 : Bool, vs68 = [(Value.bool b70)] ∧
                                                            Q [(Value.bool b70)] h69) else
                                                            (Q [(Value.bool false)] h66))) else
                                                            (Q [(Value.bool false)] h58))) else
                                                        (Q [(Value.bool false)] h58))))))) → J56 [(Value.bool b57)] h58) →
                                          S_heap_Rel_Sees p6 p3 (3 : Int) (0 : Int) h53 fun (vs71 : List Value) (h72 : Hp) =>
                                          ∃ b73 : Bool, vs71 = [(Value.bool b73)] ∧
                                          (if (!b73) = true then (J56 [(Value.bool true)] h72) else
                                            (S_heap_Rel_Sees p6 p3 n54 (0 : Int) h72 fun (vs74 : List Value) (h75 : Hp) =>
                                              ∃ b76 : Bool, vs74 = [(Value.bool b76)] ∧
                                              J56 [(Value.bool (b76 == g0_commit))] h75))) → J46 [] h47) →
                                      (if g0_commit = true then
                                        (S_clog_Log_Commit p3 (2 : Int) h45 fun (vs77 : List Value) (h78 : Hp) =>
                                          ∃ n79 : Int, ∃ n80 : Int, vs77 = [(Value.int .i64 n79), (Value.int .i64 n80)] ∧
                                          J46 [] h78) else
                                        (S_clog_Log_Abort p3 (2 : Int) h45 fun (vs81 : List Value) (h82 : Hp) =>
                                          ∃ n83 : Int, vs81 = [(Value.int .i64 n83)] ∧
                                          J46 [] h82))))) → J43 [(Value.bool b44)] h45) →
                              (if (n41 != (75 : Int)) = true then (J43 [(Value.bool true)] h40) else
                                ((if (n42 != (2 : Int)) = true then (J43 [(Value.bool true)] h40) else
                                    (S_heap_Rel_Sees p6 p3 (2 : Int) (0 : Int) h40 fun (vs84 : List Value) (h85 : Hp) =>
                                      ∃ b86 : Bool, vs84 = [(Value.bool b86)] ∧
                                      (if b86 = true then (J43 [(Value.bool true)] h85) else
                                        (S_heap_Rel_Sees p6 p3 (3 : Int) (0 : Int) h85 fun (vs87 : List Value) (h88 : Hp) =>
                                          ∃ b89 : Bool, vs87 = [(Value.bool b89)] ∧
                                          (if (!b89) = true then (J43 [(Value.bool true)] h88) else
                                            (S_heap_Rel_Unseen p6 p3 (3 : Int) (0 : Int) h88 fun (vs90 : List Value) (h91 : Hp) =>
                                              ∃ l92 : Sl, vs90 = [(Value.slice l92.a l92.n l92.c)] ∧
                                              wth (Array.push h91 (Obj.cells #[(Value.int .i64 (2 : Int))] T_int)) fun h93 =>
                                              S_liverykeep_Ints ⟨l92.a, l92.n, l92.c⟩ ⟨(some (Addr.mk (Array.size h91) 0 none)), 1, 1⟩ h93 fun (vs94 : List Value) (h95 : Hp) =>
                                              ∃ b96 : Bool, vs94 = [(Value.bool b96)] ∧
                                              J43 [(Value.bool (!b96))] h95))))))))))) → J36 [(Value.bool b37)] h38) →
                      (if (n34 != (0 : Int)) = true then (J36 [(Value.bool true)] h33) else
                        (S_heap_Rel_Delete p6 (2 : Int) (0 : Int) h33 fun (vs97 : List Value) (h98 : Hp) =>
                          ∃ n99 : Int, vs97 = [(Value.int .i64 n99)] ∧
                          J36 [(Value.bool (n99 != (0 : Int)))] h98)))))) → X25 [(Value.int .i64 n26)] h27) →
            X25 [(Value.int .i64 (0 : Int))] h22))))) → J7 [(Value.bool b8)] h9) →
(if (Option.isNone p3) = true then (J7 [(Value.bool true)] h5) else
  (J7 [(Value.bool (Option.isNone p6))] h5))
def A_liverylaw09_HeapFirst : Ann := (.mk none ⟨[], []⟩ .nil (.mk none ⟨[], []⟩ .nil (.mk none ⟨[], []⟩ (.mk none ⟨[], []⟩ (.mk (some ⟨[0, 1, 5, 6], [(25, (.c .bool))]⟩) ⟨[], []⟩ .nil .nil) .nil) (.mk none ⟨[], []⟩ .nil (.mk none ⟨[], []⟩ .nil (.mk none ⟨[], []⟩ .nil (.mk none ⟨[], []⟩ (.mk none ⟨[], []⟩ .nil (.mk none ⟨[], []⟩ (.mk none ⟨[0, 1, 5, 6], [(9, (.c (.int .i64)))]⟩ .nil .nil) .nil)) (.mk none ⟨[], []⟩ .nil (.mk none ⟨[], []⟩ (.mk none ⟨[], []⟩ (.mk (some ⟨[0, 5, 6], [(60, (.c .bool))]⟩) ⟨[], []⟩ .nil .nil) .nil) (.mk none ⟨[], []⟩ .nil (.mk none ⟨[], []⟩ (.mk none ⟨[], []⟩ (.mk (some ⟨[0, 5, 6], [(91, (.c .bool))]⟩) ⟨[], []⟩ .nil .nil) .nil) (.mk none ⟨[], []⟩ (.mk none ⟨[], []⟩ .nil (.mk (some ⟨[0, 5, 6], []⟩) ⟨[], []⟩ .nil .nil)) (.mk none ⟨[], []⟩ .nil (.mk none ⟨[], []⟩ .nil (.mk none ⟨[], []⟩ (.mk none ⟨[], []⟩ (.mk (some ⟨[0, 5, 6, 14, 15], [(119, (.c .bool))]⟩) ⟨[], []⟩ .nil .nil) .nil) (.mk none ⟨[], []⟩ (.mk none ⟨[], []⟩ .nil (.mk none ⟨[], []⟩ (.mk none ⟨[], []⟩ (.mk (some ⟨[], [(4, (.c .bool))]⟩) ⟨[], []⟩ .nil .nil) .nil) .nil)) .nil))))))))))))))))
theorem E_liverylaw09_HeapFirst (g0_commit : Bool) (g1_more : Int) (h : Hp) (Q : List Value → Hp → Prop) : cw PP 146 (fun _ => []) (bodyOf Try.f3) A_liverylaw09_HeapFirst (finQ PP (Try.f3.results.toList) Q) (argFr [(Value.bool g0_commit), (Value.int .u8 g1_more)]) h = F_liverylaw09_HeapFirst g0_commit g1_more h Q := by kernel_rfl
theorem O_liverylaw09_HeapFirst (g0_commit : Bool) (g1_more : Int) {h : Hp} {Q : List Value → Hp → Prop} (H : F_liverylaw09_HeapFirst g0_commit g1_more h Q) : S_liverylaw09_HeapFirst g0_commit g1_more h Q :=
  fn_of_cw (hs := (fun _ => [])) (ann := A_liverylaw09_HeapFirst) (args := [(Value.bool g0_commit), (Value.int .u8 g1_more)]) mixedPP Try.func3 (c := bodyOf Try.f3) (by kernel_rfl) (by kernel_rfl) (by kernel_rfl) (Eq.mpr (E_liverylaw09_HeapFirst g0_commit g1_more h Q) H)
def F_slices_Collect_int (g0_seq_f : Nat) (g0_seq_c : Array Value) (h : Hp) (Q : List Value → Hp → Prop) : Prop :=
S_slices_AppendSeq_sint_int ⟨none, 0, 0⟩ g0_seq_f g0_seq_c h fun (vs1 : List Value) (h2 : Hp) =>
∃ l3 : Sl, vs1 = [(Value.slice l3.a l3.n l3.c)] ∧
Q [(Value.slice l3.a l3.n l3.c)] h2
def A_slices_Collect_int : Ann := .nil
theorem E_slices_Collect_int (g0_seq_f : Nat) (g0_seq_c : Array Value) (h : Hp) (Q : List Value → Hp → Prop) : cw PP 5 (fun _ => []) (bodyOf Try.f49) A_slices_Collect_int (finQ PP (Try.f49.results.toList) Q) (argFr [(Value.func (.func g0_seq_f) #[] g0_seq_c)]) h = F_slices_Collect_int g0_seq_f g0_seq_c h Q := by kernel_rfl
theorem O_slices_Collect_int (g0_seq_f : Nat) (g0_seq_c : Array Value) {h : Hp} {Q : List Value → Hp → Prop} (H : F_slices_Collect_int g0_seq_f g0_seq_c h Q) : S_slices_Collect_int g0_seq_f g0_seq_c h Q :=
  fn_of_cw (hs := (fun _ => [])) (ann := A_slices_Collect_int) (args := [(Value.func (.func g0_seq_f) #[] g0_seq_c)]) mixedPP Try.func49 (c := bodyOf Try.f49) (by kernel_rfl) (by kernel_rfl) (by kernel_rfl) (Eq.mpr (E_slices_Collect_int g0_seq_f g0_seq_c h Q) H)
def F_cmp_isNaN_int (g0_x : Int) (h : Hp) (Q : List Value → Hp → Prop) : Prop :=
Q [(Value.bool (g0_x != g0_x))] h
def A_cmp_isNaN_int : Ann := .nil
theorem E_cmp_isNaN_int (g0_x : Int) (h : Hp) (Q : List Value → Hp → Prop) : cw PP 6 (fun _ => []) (bodyOf Try.f75) A_cmp_isNaN_int (finQ PP (Try.f75.results.toList) Q) (argFr [(Value.int .i64 g0_x)]) h = F_cmp_isNaN_int g0_x h Q := by kernel_rfl
theorem O_cmp_isNaN_int (g0_x : Int) {h : Hp} {Q : List Value → Hp → Prop} (H : F_cmp_isNaN_int g0_x h Q) : S_cmp_isNaN_int g0_x h Q :=
  fn_of_cw (hs := (fun _ => [])) (ann := A_cmp_isNaN_int) (args := [(Value.int .i64 g0_x)]) mixedPP Try.func75 (c := bodyOf Try.f75) (by kernel_rfl) (by kernel_rfl) (by kernel_rfl) (Eq.mpr (E_cmp_isNaN_int g0_x h Q) H)
def F_cmp_Less_int (g0_x : Int) (g1_y : Int) (h : Hp) (Q : List Value → Hp → Prop) : Prop :=
S_cmp_isNaN_int g0_x h fun (vs1 : List Value) (h2 : Hp) =>
∃ b3 : Bool, vs1 = [(Value.bool b3)] ∧
(if b3 = true then (S_cmp_isNaN_int g1_y h2 fun (vs4 : List Value) (h5 : Hp) =>
    ∃ b6 : Bool, vs4 = [(Value.bool b6)] ∧
    (if (!b6) = true then (Q [(Value.bool true)] h5) else
      (Q [(Value.bool (decide (g0_x < g1_y)))] h5))) else
  (Q [(Value.bool (decide (g0_x < g1_y)))] h2))
def A_cmp_Less_int : Ann := .nil
theorem E_cmp_Less_int (g0_x : Int) (g1_y : Int) (h : Hp) (Q : List Value → Hp → Prop) : cw PP 17 (fun _ => []) (bodyOf Try.f65) A_cmp_Less_int (finQ PP (Try.f65.results.toList) Q) (argFr [(Value.int .i64 g0_x), (Value.int .i64 g1_y)]) h = F_cmp_Less_int g0_x g1_y h Q := by kernel_rfl
theorem O_cmp_Less_int (g0_x : Int) (g1_y : Int) {h : Hp} {Q : List Value → Hp → Prop} (H : F_cmp_Less_int g0_x g1_y h Q) : S_cmp_Less_int g0_x g1_y h Q :=
  fn_of_cw (hs := (fun _ => [])) (ann := A_cmp_Less_int) (args := [(Value.int .i64 g0_x), (Value.int .i64 g1_y)]) mixedPP Try.func65 (c := bodyOf Try.f65) (by kernel_rfl) (by kernel_rfl) (by kernel_rfl) (Eq.mpr (E_cmp_Less_int g0_x g1_y h Q) H)
def F_slices_insertionSortOrdered_int (g0_data : Sl) (g1_a : Int) (g2_b : Int) (h : Hp) (Q : List Value → Hp → Prop) : Prop :=
∀ X1 : List Value → Hp → Prop, (∀ n2 : Int, ∀ h3 : Hp, ((if (decide (n2 < g2_b)) = true then
      (∀ X4 : List Value → Hp → Prop, (∀ n5 : Int, ∀ h6 : Hp, (∀ J7 : List Value → Hp → Prop, (∀ b8 : Bool, ∀ h9 : Hp, ((if b8 = true then
                  (nilW g0_data.a fun a10 => ixOk (IntKind.wrap .i64 (n5 - (1 : Int))) g0_data.n (∃ n11 : Int, rd h9 (Addr.add a10 (Int.toNat (IntKind.wrap .i64 (n5 - (1 : Int))) * 1)) = some (Value.int .i64 n11) ∧
                      nilW g0_data.a fun a12 => ixOk n5 g0_data.n (∃ n13 : Int, rd h9 (Addr.add a12 (Int.toNat n5 * 1)) = some (Value.int .i64 n13) ∧
                        nilW g0_data.a fun a14 => ixOk n5 g0_data.n (stOk h9 (Addr.add a14 (Int.toNat n5 * 1)) 1 ∧ wth (wrs h9 (Addr.add a14 (Int.toNat n5 * 1)) 0 [(Value.int .i64 n11)]) fun h15 =>
                          nilW g0_data.a fun a16 => ixOk (IntKind.wrap .i64 (n5 - (1 : Int))) g0_data.n (stOk h15 (Addr.add a16 (Int.toNat (IntKind.wrap .i64 (n5 - (1 : Int))) * 1)) 1 ∧ wth (wrs h15 (Addr.add a16 (Int.toNat (IntKind.wrap .i64 (n5 - (1 : Int))) * 1)) 0 [(Value.int .i64 n13)]) fun h17 =>
                            X4 [(Value.int .i64 (IntKind.wrap .i64 (n5 - (1 : Int))))] h17))))) else
                  (X1 [(Value.int .i64 (IntKind.wrap .i64 (n2 + (1 : Int))))] h9))) → J7 [(Value.bool b8)] h9) →
            (if (decide (n5 > g1_a)) = true then (nilW g0_data.a fun a18 => ixOk n5 g0_data.n (∃ n19 : Int, rd h6 (Addr.add a18 (Int.toNat n5 * 1)) = some (Value.int .i64 n19) ∧
                  nilW g0_data.a fun a20 => ixOk (IntKind.wrap .i64 (n5 - (1 : Int))) g0_data.n (∃ n21 : Int, rd h6 (Addr.add a20 (Int.toNat (IntKind.wrap .i64 (n5 - (1 : Int))) * 1)) = some (Value.int .i64 n21) ∧
                    S_cmp_Less_int n19 n21 h6 fun (vs22 : List Value) (h23 : Hp) =>
                    ∃ b24 : Bool, vs22 = [(Value.bool b24)] ∧
                    J7 [(Value.bool b24)] h23))) else
              (J7 [(Value.bool false)] h6))) → X4 [(Value.int .i64 n5)] h6) →
        X4 [(Value.int .i64 n2)] h3) else
      (Q [] h3))) → X1 [(Value.int .i64 n2)] h3) →
X1 [(Value.int .i64 (IntKind.wrap .i64 (g1_a + (1 : Int))))] h
def A_slices_insertionSortOrdered_int : Ann := (.mk none ⟨[], []⟩ .nil (.mk none ⟨[], []⟩ (.mk none ⟨[0, 1, 2], [(6, (.c (.int .i64)))]⟩ (.mk none ⟨[], []⟩ .nil (.mk none ⟨[], []⟩ (.mk none ⟨[], []⟩ (.mk none ⟨[], []⟩ .nil (.mk none ⟨[], []⟩ (.mk none ⟨[0, 1, 2, 6], [(7, (.c (.int .i64)))]⟩ (.mk none ⟨[], []⟩ (.mk none ⟨[], []⟩ (.mk (some ⟨[0, 1, 2, 6, 7], [(30, (.c .bool))]⟩) ⟨[], []⟩ .nil .nil) .nil) .nil) .nil) .nil)) .nil) .nil)) .nil) .nil))
theorem E_slices_insertionSortOrdered_int (g0_data : Sl) (g1_a : Int) (g2_b : Int) (h : Hp) (Q : List Value → Hp → Prop) : cw PP 49 (fun _ => []) (bodyOf Try.f59) A_slices_insertionSortOrdered_int (finQ PP (Try.f59.results.toList) Q) (argFr [(Value.slice g0_data.a g0_data.n g0_data.c), (Value.int .i64 g1_a), (Value.int .i64 g2_b)]) h = F_slices_insertionSortOrdered_int g0_data g1_a g2_b h Q := by kernel_rfl
theorem O_slices_insertionSortOrdered_int (g0_data : Sl) (g1_a : Int) (g2_b : Int) {h : Hp} {Q : List Value → Hp → Prop} (H : F_slices_insertionSortOrdered_int g0_data g1_a g2_b h Q) : S_slices_insertionSortOrdered_int g0_data g1_a g2_b h Q :=
  fn_of_cw (hs := (fun _ => [])) (ann := A_slices_insertionSortOrdered_int) (args := [(Value.slice g0_data.a g0_data.n g0_data.c), (Value.int .i64 g1_a), (Value.int .i64 g2_b)]) mixedPP Try.func59 (c := bodyOf Try.f59) (by kernel_rfl) (by kernel_rfl) (by kernel_rfl) (Eq.mpr (E_slices_insertionSortOrdered_int g0_data g1_a g2_b h Q) H)
def F_slices_siftDownOrdered_int (g0_data : Sl) (g1_lo : Int) (g2_hi : Int) (g3_first : Int) (h : Hp) (Q : List Value → Hp → Prop) : Prop :=
∀ X1 : List Value → Hp → Prop, (∀ n2 : Int, ∀ h3 : Hp, ((if (decide ((IntKind.wrap .i64 ((IntKind.wrap .i64 ((2 : Int) * n2)) + (1 : Int))) ≥ g2_hi)) = true then
      (Q [] h3) else
      (∀ J4 : List Value → Hp → Prop, (∀ b5 : Bool, ∀ h6 : Hp, (∀ J7 : List Value → Hp → Prop, (∀ n8 : Int, ∀ h9 : Hp, (nilW g0_data.a fun a10 => ixOk (IntKind.wrap .i64 (g3_first + n2)) g0_data.n (∃ n11 : Int, rd h9 (Addr.add a10 (Int.toNat (IntKind.wrap .i64 (g3_first + n2)) * 1)) = some (Value.int .i64 n11) ∧
                  nilW g0_data.a fun a12 => ixOk (IntKind.wrap .i64 (g3_first + n8)) g0_data.n (∃ n13 : Int, rd h9 (Addr.add a12 (Int.toNat (IntKind.wrap .i64 (g3_first + n8)) * 1)) = some (Value.int .i64 n13) ∧
                    S_cmp_Less_int n11 n13 h9 fun (vs14 : List Value) (h15 : Hp) =>
                    ∃ b16 : Bool, vs14 = [(Value.bool b16)] ∧
                    (if (!b16) = true then
                      (Q [] h15) else
                      (nilW g0_data.a fun a17 => ixOk (IntKind.wrap .i64 (g3_first + n8)) g0_data.n (∃ n18 : Int, rd h15 (Addr.add a17 (Int.toNat (IntKind.wrap .i64 (g3_first + n8)) * 1)) = some (Value.int .i64 n18) ∧
                          nilW g0_data.a fun a19 => ixOk (IntKind.wrap .i64 (g3_first + n2)) g0_data.n (∃ n20 : Int, rd h15 (Addr.add a19 (Int.toNat (IntKind.wrap .i64 (g3_first + n2)) * 1)) = some (Value.int .i64 n20) ∧
                            nilW g0_data.a fun a21 => ixOk (IntKind.wrap .i64 (g3_first + n2)) g0_data.n (stOk h15 (Addr.add a21 (Int.toNat (IntKind.wrap .i64 (g3_first + n2)) * 1)) 1 ∧ wth (wrs h15 (Addr.add a21 (Int.toNat (IntKind.wrap .i64 (g3_first + n2)) * 1)) 0 [(Value.int .i64 n18)]) fun h22 =>
                              nilW g0_data.a fun a23 => ixOk (IntKind.wrap .i64 (g3_first + n8)) g0_data.n (stOk h22 (Addr.add a23 (Int.toNat (IntKind.wrap .i64 (g3_first + n8)) * 1)) 1 ∧ wth (wrs h22 (Addr.add a23 (Int.toNat (IntKind.wrap .i64 (g3_first + n8)) * 1)) 0 [(Value.int .i64 n20)]) fun h24 =>
                                X1 [(Value.int .i64 n8)] h24))))))))) → J7 [(Value.int .i64 n8)] h9) →
            (if b5 = true then
              (J7 [(Value.int .i64 (IntKind.wrap .i64 ((IntKind.wrap .i64 ((IntKind.wrap .i64 ((2 : Int) * n2)) + (1 : Int))) + (1 : Int))))] h6) else
              (J7 [(Value.int .i64 (IntKind.wrap .i64 ((IntKind.wrap .i64 ((2 : Int) * n2)) + (1 : Int))))] h6))) → J4 [(Value.bool b5)] h6) →
        (if (decide ((IntKind.wrap .i64 ((IntKind.wrap .i64 ((IntKind.wrap .i64 ((2 : Int) * n2)) + (1 : Int))) + (1 : Int))) < g2_hi)) = true then (nilW g0_data.a fun a25 => ixOk (IntKind.wrap .i64 (g3_first + (IntKind.wrap .i64 ((IntKind.wrap .i64 ((2 : Int) * n2)) + (1 : Int))))) g0_data.n (∃ n26 : Int, rd h3 (Addr.add a25 (Int.toNat (IntKind.wrap .i64 (g3_first + (IntKind.wrap .i64 ((IntKind.wrap .i64 ((2 : Int) * n2)) + (1 : Int))))) * 1)) = some (Value.int .i64 n26) ∧
              nilW g0_data.a fun a27 => ixOk (IntKind.wrap .i64 ((IntKind.wrap .i64 (g3_first + (IntKind.wrap .i64 ((IntKind.wrap .i64 ((2 : Int) * n2)) + (1 : Int))))) + (1 : Int))) g0_data.n (∃ n28 : Int, rd h3 (Addr.add a27 (Int.toNat (IntKind.wrap .i64 ((IntKind.wrap .i64 (g3_first + (IntKind.wrap .i64 ((IntKind.wrap .i64 ((2 : Int) * n2)) + (1 : Int))))) + (1 : Int))) * 1)) = some (Value.int .i64 n28) ∧
                S_cmp_Less_int n26 n28 h3 fun (vs29 : List Value) (h30 : Hp) =>
                ∃ b31 : Bool, vs29 = [(Value.bool b31)] ∧
                J4 [(Value.bool b31)] h30))) else
          (J4 [(Value.bool false)] h3))))) → X1 [(Value.int .i64 n2)] h3) →
X1 [(Value.int .i64 g1_lo)] h
def A_slices_siftDownOrdered_int : Ann := (.mk none ⟨[], []⟩ .nil (.mk none ⟨[], []⟩ (.mk none ⟨[0, 2, 3], [(8, (.c (.int .i64)))]⟩ (.mk none ⟨[], []⟩ (.mk none ⟨[], []⟩ .nil (.mk none ⟨[], []⟩ .nil (.mk none ⟨[], []⟩ (.mk none ⟨[], []⟩ (.mk (some ⟨[0, 2, 3, 8, 9], [(36, (.c .bool))]⟩) ⟨[], []⟩ .nil .nil) (.mk (some ⟨[0, 2, 3, 8], [(9, (.c (.int .i64)))]⟩) ⟨[], []⟩ .nil .nil)) .nil))) .nil) .nil) .nil))
theorem E_slices_siftDownOrdered_int (g0_data : Sl) (g1_lo : Int) (g2_hi : Int) (g3_first : Int) (h : Hp) (Q : List Value → Hp → Prop) : cw PP 76 (fun _ => []) (bodyOf Try.f70) A_slices_siftDownOrdered_int (finQ PP (Try.f70.results.toList) Q) (argFr [(Value.slice g0_data.a g0_data.n g0_data.c), (Value.int .i64 g1_lo), (Value.int .i64 g2_hi), (Value.int .i64 g3_first)]) h = F_slices_siftDownOrdered_int g0_data g1_lo g2_hi g3_first h Q := by kernel_rfl
theorem O_slices_siftDownOrdered_int (g0_data : Sl) (g1_lo : Int) (g2_hi : Int) (g3_first : Int) {h : Hp} {Q : List Value → Hp → Prop} (H : F_slices_siftDownOrdered_int g0_data g1_lo g2_hi g3_first h Q) : S_slices_siftDownOrdered_int g0_data g1_lo g2_hi g3_first h Q :=
  fn_of_cw (hs := (fun _ => [])) (ann := A_slices_siftDownOrdered_int) (args := [(Value.slice g0_data.a g0_data.n g0_data.c), (Value.int .i64 g1_lo), (Value.int .i64 g2_hi), (Value.int .i64 g3_first)]) mixedPP Try.func70 (c := bodyOf Try.f70) (by kernel_rfl) (by kernel_rfl) (by kernel_rfl) (Eq.mpr (E_slices_siftDownOrdered_int g0_data g1_lo g2_hi g3_first h Q) H)
def F_slices_heapSortOrdered_int (g0_data : Sl) (g1_a : Int) (g2_b : Int) (h : Hp) (Q : List Value → Hp → Prop) : Prop :=
divOk (2 : Int) (∀ X1 : List Value → Hp → Prop, (∀ n2 : Int, ∀ h3 : Hp, ((if (decide (n2 ≥ (0 : Int))) = true then
        (S_slices_siftDownOrdered_int ⟨g0_data.a, g0_data.n, g0_data.c⟩ n2 (IntKind.wrap .i64 (g2_b - g1_a)) g1_a h3 fun (vs4 : List Value) (h5 : Hp) =>
          vs4 = [] ∧
          X1 [(Value.int .i64 (IntKind.wrap .i64 (n2 - (1 : Int))))] h5) else
        (∀ X6 : List Value → Hp → Prop, (∀ n7 : Int, ∀ h8 : Hp, ((if (decide (n7 ≥ (0 : Int))) = true then
                (nilW g0_data.a fun a9 => ixOk (IntKind.wrap .i64 (g1_a + n7)) g0_data.n (∃ n10 : Int, rd h8 (Addr.add a9 (Int.toNat (IntKind.wrap .i64 (g1_a + n7)) * 1)) = some (Value.int .i64 n10) ∧
                    nilW g0_data.a fun a11 => ixOk g1_a g0_data.n (∃ n12 : Int, rd h8 (Addr.add a11 (Int.toNat g1_a * 1)) = some (Value.int .i64 n12) ∧
                      nilW g0_data.a fun a13 => ixOk g1_a g0_data.n (stOk h8 (Addr.add a13 (Int.toNat g1_a * 1)) 1 ∧ wth (wrs h8 (Addr.add a13 (Int.toNat g1_a * 1)) 0 [(Value.int .i64 n10)]) fun h14 =>
                        nilW g0_data.a fun a15 => ixOk (IntKind.wrap .i64 (g1_a + n7)) g0_data.n (stOk h14 (Addr.add a15 (Int.toNat (IntKind.wrap .i64 (g1_a + n7)) * 1)) 1 ∧ wth (wrs h14 (Addr.add a15 (Int.toNat (IntKind.wrap .i64 (g1_a + n7)) * 1)) 0 [(Value.int .i64 n12)]) fun h16 =>
                          S_slices_siftDownOrdered_int ⟨g0_data.a, g0_data.n, g0_data.c⟩ (0 : Int) n7 g1_a h16 fun (vs17 : List Value) (h18 : Hp) =>
                          vs17 = [] ∧
                          X6 [(Value.int .i64 (IntKind.wrap .i64 (n7 - (1 : Int))))] h18))))) else
                (Q [] h8))) → X6 [(Value.int .i64 n7)] h8) →
          X6 [(Value.int .i64 (IntKind.wrap .i64 ((IntKind.wrap .i64 (g2_b - g1_a)) - (1 : Int))))] h3))) → X1 [(Value.int .i64 n2)] h3) →
  X1 [(Value.int .i64 (IntKind.wrap .i64 (Int.tdiv (IntKind.wrap .i64 ((IntKind.wrap .i64 (g2_b - g1_a)) - (1 : Int))) (2 : Int))))] h)
def A_slices_heapSortOrdered_int : Ann := (.mk none ⟨[], []⟩ .nil (.mk none ⟨[], []⟩ .nil (.mk none ⟨[], []⟩ .nil (.mk none ⟨[], []⟩ (.mk none ⟨[], []⟩ .nil (.mk none ⟨[], []⟩ (.mk none ⟨[0, 6, 7, 8], [(9, (.c (.int .i64)))]⟩ .nil .nil) .nil)) (.mk none ⟨[], []⟩ .nil (.mk none ⟨[], []⟩ (.mk none ⟨[0, 6, 7], [(10, (.c (.int .i64)))]⟩ .nil .nil) .nil))))))
theorem E_slices_heapSortOrdered_int (g0_data : Sl) (g1_a : Int) (g2_b : Int) (h : Hp) (Q : List Value → Hp → Prop) : cw PP 56 (fun _ => []) (bodyOf Try.f60) A_slices_heapSortOrdered_int (finQ PP (Try.f60.results.toList) Q) (argFr [(Value.slice g0_data.a g0_data.n g0_data.c), (Value.int .i64 g1_a), (Value.int .i64 g2_b)]) h = F_slices_heapSortOrdered_int g0_data g1_a g2_b h Q := by kernel_rfl
theorem O_slices_heapSortOrdered_int (g0_data : Sl) (g1_a : Int) (g2_b : Int) {h : Hp} {Q : List Value → Hp → Prop} (H : F_slices_heapSortOrdered_int g0_data g1_a g2_b h Q) : S_slices_heapSortOrdered_int g0_data g1_a g2_b h Q :=
  fn_of_cw (hs := (fun _ => [])) (ann := A_slices_heapSortOrdered_int) (args := [(Value.slice g0_data.a g0_data.n g0_data.c), (Value.int .i64 g1_a), (Value.int .i64 g2_b)]) mixedPP Try.func60 (c := bodyOf Try.f60) (by kernel_rfl) (by kernel_rfl) (by kernel_rfl) (Eq.mpr (E_slices_heapSortOrdered_int g0_data g1_a g2_b h Q) H)
def F_math_bits_Len64 (g0_x : Int) (h : Hp) (Q : List Value → Hp → Prop) : Prop :=
∀ J1 : List Value → Hp → Prop, (∀ n2 : Int, ∀ n3 : Int, ∀ h4 : Hp, (∀ J5 : List Value → Hp → Prop, (∀ n6 : Int, ∀ n7 : Int, ∀ h8 : Hp, (∀ J9 : List Value → Hp → Prop, (∀ n10 : Int, ∀ n11 : Int, ∀ h12 : Hp, (ixOk (IntKind.wrap .u8 n10) (ByteArray.size (ByteArray.mk #[0, 1, 2, 2, 3, 3, 3, 3, 4, 4, 4, 4, 4, 4, 4, 4, 5, 5, 5, 5, 5, 5, 5, 5, 5, 5, 5, 5, 5, 5, 5, 5, 6, 6, 6, 6, 6, 6, 6, 6, 6, 6, 6, 6, 6, 6, 6, 6, 6, 6, 6, 6, 6, 6, 6, 6, 6, 6, 6, 6, 6, 6, 6, 6, 7, 7, 7, 7, 7, 7, 7, 7, 7, 7, 7, 7, 7, 7, 7, 7, 7, 7, 7, 7, 7, 7, 7, 7, 7, 7, 7, 7, 7, 7, 7, 7, 7, 7, 7, 7, 7, 7, 7, 7, 7, 7, 7, 7, 7, 7, 7, 7, 7, 7, 7, 7, 7, 7, 7, 7, 7, 7, 7, 7, 7, 7, 7, 7, 8, 8, 8, 8, 8, 8, 8, 8, 8, 8, 8, 8, 8, 8, 8, 8, 8, 8, 8, 8, 8, 8, 8, 8, 8, 8, 8, 8, 8, 8, 8, 8, 8, 8, 8, 8, 8, 8, 8, 8, 8, 8, 8, 8, 8, 8, 8, 8, 8, 8, 8, 8, 8, 8, 8, 8, 8, 8, 8, 8, 8, 8, 8, 8, 8, 8, 8, 8, 8, 8, 8, 8, 8, 8, 8, 8, 8, 8, 8, 8, 8, 8, 8, 8, 8, 8, 8, 8, 8, 8, 8, 8, 8, 8, 8, 8, 8, 8, 8, 8, 8, 8, 8, 8, 8, 8, 8, 8, 8, 8, 8, 8, 8, 8, 8, 8, 8, 8, 8, 8, 8, 8, 8, 8, 8, 8, 8, 8])) (Q [(Value.int .i64 (IntKind.wrap .i64 (n11 + (IntKind.wrap .i64 (strIx (ByteArray.mk #[0, 1, 2, 2, 3, 3, 3, 3, 4, 4, 4, 4, 4, 4, 4, 4, 5, 5, 5, 5, 5, 5, 5, 5, 5, 5, 5, 5, 5, 5, 5, 5, 6, 6, 6, 6, 6, 6, 6, 6, 6, 6, 6, 6, 6, 6, 6, 6, 6, 6, 6, 6, 6, 6, 6, 6, 6, 6, 6, 6, 6, 6, 6, 6, 7, 7, 7, 7, 7, 7, 7, 7, 7, 7, 7, 7, 7, 7, 7, 7, 7, 7, 7, 7, 7, 7, 7, 7, 7, 7, 7, 7, 7, 7, 7, 7, 7, 7, 7, 7, 7, 7, 7, 7, 7, 7, 7, 7, 7, 7, 7, 7, 7, 7, 7, 7, 7, 7, 7, 7, 7, 7, 7, 7, 7, 7, 7, 7, 8, 8, 8, 8, 8, 8, 8, 8, 8, 8, 8, 8, 8, 8, 8, 8, 8, 8, 8, 8, 8, 8, 8, 8, 8, 8, 8, 8, 8, 8, 8, 8, 8, 8, 8, 8, 8, 8, 8, 8, 8, 8, 8, 8, 8, 8, 8, 8, 8, 8, 8, 8, 8, 8, 8, 8, 8, 8, 8, 8, 8, 8, 8, 8, 8, 8, 8, 8, 8, 8, 8, 8, 8, 8, 8, 8, 8, 8, 8, 8, 8, 8, 8, 8, 8, 8, 8, 8, 8, 8, 8, 8, 8, 8, 8, 8, 8, 8, 8, 8, 8, 8, 8, 8, 8, 8, 8, 8, 8, 8, 8, 8, 8, 8, 8, 8, 8, 8, 8, 8, 8, 8, 8, 8, 8, 8, 8, 8]) (IntKind.wrap .u8 n10))))))] h12)) → J9 [(Value.int .u64 n10), (Value.int .i64 n11)] h12) →
        (if (decide (n6 ≥ (256 : Int))) = true then
          (shOk (8 : Int) (J9 [(Value.int .u64 (iShr .u64 n6 (8 : Int))), (Value.int .i64 (IntKind.wrap .i64 (n7 + (8 : Int))))] h8)) else
          (J9 [(Value.int .u64 n6), (Value.int .i64 n7)] h8))) → J5 [(Value.int .u64 n6), (Value.int .i64 n7)] h8) →
    (if (decide (n2 ≥ (65536 : Int))) = true then
      (shOk (16 : Int) (J5 [(Value.int .u64 (iShr .u64 n2 (16 : Int))), (Value.int .i64 (IntKind.wrap .i64 (n3 + (16 : Int))))] h4)) else
      (J5 [(Value.int .u64 n2), (Value.int .i64 n3)] h4))) → J1 [(Value.int .u64 n2), (Value.int .i64 n3)] h4) →
(if (decide (g0_x ≥ (4294967296 : Int))) = true then
  (shOk (32 : Int) (J1 [(Value.int .u64 (iShr .u64 g0_x (32 : Int))), (Value.int .i64 (32 : Int))] h)) else
  (J1 [(Value.int .u64 g0_x), (Value.int .i64 (0 : Int))] h))
def A_math_bits_Len64 : Ann := (.mk none ⟨[], []⟩ .nil (.mk none ⟨[], []⟩ (.mk none ⟨[], []⟩ .nil (.mk (some ⟨[], [(0, (.c (.int .u64))), (2, (.c (.int .i64)))]⟩) ⟨[], []⟩ .nil .nil)) (.mk none ⟨[], []⟩ (.mk none ⟨[], []⟩ .nil (.mk (some ⟨[], [(0, (.c (.int .u64))), (2, (.c (.int .i64)))]⟩) ⟨[], []⟩ .nil .nil)) (.mk none ⟨[], []⟩ (.mk none ⟨[], []⟩ .nil (.mk (some ⟨[], [(0, (.c (.int .u64))), (2, (.c (.int .i64)))]⟩) ⟨[], []⟩ .nil .nil)) .nil))))
theorem E_math_bits_Len64 (g0_x : Int) (h : Hp) (Q : List Value → Hp → Prop) : cw PP 25 (fun _ => []) (bodyOf Try.f69) A_math_bits_Len64 (finQ PP (Try.f69.results.toList) Q) (argFr [(Value.int .u64 g0_x)]) h = F_math_bits_Len64 g0_x h Q := by kernel_rfl
theorem O_math_bits_Len64 (g0_x : Int) {h : Hp} {Q : List Value → Hp → Prop} (H : F_math_bits_Len64 g0_x h Q) : S_math_bits_Len64 g0_x h Q :=
  fn_of_cw (hs := (fun _ => [])) (ann := A_math_bits_Len64) (args := [(Value.int .u64 g0_x)]) mixedPP Try.func69 (c := bodyOf Try.f69) (by kernel_rfl) (by kernel_rfl) (by kernel_rfl) (Eq.mpr (E_math_bits_Len64 g0_x h Q) H)
def F_math_bits_Len (g0_x : Int) (h : Hp) (Q : List Value → Hp → Prop) : Prop :=
S_math_bits_Len64 g0_x h fun (vs1 : List Value) (h2 : Hp) =>
∃ n3 : Int, vs1 = [(Value.int .i64 n3)] ∧
Q [(Value.int .i64 n3)] h2
def A_math_bits_Len : Ann := .nil
theorem E_math_bits_Len (g0_x : Int) (h : Hp) (Q : List Value → Hp → Prop) : cw PP 8 (fun _ => []) (bodyOf Try.f57) A_math_bits_Len (finQ PP (Try.f57.results.toList) Q) (argFr [(Value.int .u64 g0_x)]) h = F_math_bits_Len g0_x h Q := by kernel_rfl
theorem O_math_bits_Len (g0_x : Int) {h : Hp} {Q : List Value → Hp → Prop} (H : F_math_bits_Len g0_x h Q) : S_math_bits_Len g0_x h Q :=
  fn_of_cw (hs := (fun _ => [])) (ann := A_math_bits_Len) (args := [(Value.int .u64 g0_x)]) mixedPP Try.func57 (c := bodyOf Try.f57) (by kernel_rfl) (by kernel_rfl) (by kernel_rfl) (Eq.mpr (E_math_bits_Len g0_x h Q) H)
def F_slices_nextPowerOfTwo (g0_length : Int) (h : Hp) (Q : List Value → Hp → Prop) : Prop :=
S_math_bits_Len (IntKind.wrap .u64 g0_length) h fun (vs1 : List Value) (h2 : Hp) =>
∃ n3 : Int, vs1 = [(Value.int .i64 n3)] ∧
shOk n3 (Q [(Value.int .u64 (iShl .u64 (1 : Int) n3))] h2)
def A_slices_nextPowerOfTwo : Ann := .nil
theorem E_slices_nextPowerOfTwo (g0_length : Int) (h : Hp) (Q : List Value → Hp → Prop) : cw PP 7 (fun _ => []) (bodyOf Try.f71) A_slices_nextPowerOfTwo (finQ PP (Try.f71.results.toList) Q) (argFr [(Value.int .i64 g0_length)]) h = F_slices_nextPowerOfTwo g0_length h Q := by kernel_rfl
theorem O_slices_nextPowerOfTwo (g0_length : Int) {h : Hp} {Q : List Value → Hp → Prop} (H : F_slices_nextPowerOfTwo g0_length h Q) : S_slices_nextPowerOfTwo g0_length h Q :=
  fn_of_cw (hs := (fun _ => [])) (ann := A_slices_nextPowerOfTwo) (args := [(Value.int .i64 g0_length)]) mixedPP Try.func71 (c := bodyOf Try.f71) (by kernel_rfl) (by kernel_rfl) (by kernel_rfl) (Eq.mpr (E_slices_nextPowerOfTwo g0_length h Q) H)
def F_slices_xorshift_Next (g0_r : Option Addr) (h : Hp) (Q : List Value → Hp → Prop) : Prop :=
nilW g0_r fun a1 => ∃ n2 : Int, rd h a1 = some (Value.int .u64 n2) ∧
nilW g0_r fun a3 => ∃ n4 : Int, rd h a3 = some (Value.int .u64 n4) ∧
shOk (13 : Int) (nilW g0_r fun a5 => stOk h a5 1 ∧ wth (wrs h a5 0 [(Value.int .u64 (iXor .u64 n2 (iShl .u64 n4 (13 : Int))))]) fun h6 =>
  nilW g0_r fun a7 => ∃ n8 : Int, rd h6 a7 = some (Value.int .u64 n8) ∧
  nilW g0_r fun a9 => ∃ n10 : Int, rd h6 a9 = some (Value.int .u64 n10) ∧
  shOk (7 : Int) (nilW g0_r fun a11 => stOk h6 a11 1 ∧ wth (wrs h6 a11 0 [(Value.int .u64 (iXor .u64 n8 (iShr .u64 n10 (7 : Int))))]) fun h12 =>
    nilW g0_r fun a13 => ∃ n14 : Int, rd h12 a13 = some (Value.int .u64 n14) ∧
    nilW g0_r fun a15 => ∃ n16 : Int, rd h12 a15 = some (Value.int .u64 n16) ∧
    shOk (17 : Int) (nilW g0_r fun a17 => stOk h12 a17 1 ∧ wth (wrs h12 a17 0 [(Value.int .u64 (iXor .u64 n14 (iShl .u64 n16 (17 : Int))))]) fun h18 =>
      nilW g0_r fun a19 => ∃ n20 : Int, rd h18 a19 = some (Value.int .u64 n20) ∧
      Q [(Value.int .u64 n20)] h18)))
def A_slices_xorshift_Next : Ann := .nil
theorem E_slices_xorshift_Next (g0_r : Option Addr) (h : Hp) (Q : List Value → Hp → Prop) : cw PP 33 (fun _ => []) (bodyOf Try.f72) A_slices_xorshift_Next (finQ PP (Try.f72.results.toList) Q) (argFr [(Value.pointer g0_r)]) h = F_slices_xorshift_Next g0_r h Q := by kernel_rfl
theorem O_slices_xorshift_Next (g0_r : Option Addr) {h : Hp} {Q : List Value → Hp → Prop} (H : F_slices_xorshift_Next g0_r h Q) : S_slices_xorshift_Next g0_r h Q :=
  fn_of_cw (hs := (fun _ => [])) (ann := A_slices_xorshift_Next) (args := [(Value.pointer g0_r)]) mixedPP Try.func72 (c := bodyOf Try.f72) (by kernel_rfl) (by kernel_rfl) (by kernel_rfl) (Eq.mpr (E_slices_xorshift_Next g0_r h Q) H)
def F_slices_breakPatternsOrdered_int (g0_data : Sl) (g1_a : Int) (g2_b : Int) (h : Hp) (Q : List Value → Hp → Prop) : Prop :=
(if (decide ((IntKind.wrap .i64 (g2_b - g1_a)) ≥ (8 : Int))) = true then
  (wth (Array.push h (Obj.cells #[(Value.int .u64 (0 : Int))] T_slices_xorshift)) fun h1 =>
    stOk h1 (Addr.mk (Array.size h) 0 none) 1 ∧ wth (wrs h1 (Addr.mk (Array.size h) 0 none) 0 [(Value.int .u64 (IntKind.wrap .u64 (IntKind.wrap .i64 (g2_b - g1_a))))]) fun h2 =>
    S_slices_nextPowerOfTwo (IntKind.wrap .i64 (g2_b - g1_a)) h2 fun (vs3 : List Value) (h4 : Hp) =>
    ∃ n5 : Int, vs3 = [(Value.int .u64 n5)] ∧
    divOk (4 : Int) (∀ X6 : List Value → Hp → Prop, (∀ n7 : Int, ∀ h8 : Hp, (divOk (4 : Int) ((if (decide (n7 ≤ (IntKind.wrap .i64 ((IntKind.wrap .i64 (g1_a + (IntKind.wrap .i64 ((IntKind.wrap .i64 (Int.tdiv (IntKind.wrap .i64 (g2_b - g1_a)) (4 : Int))) * (2 : Int))))) + (1 : Int))))) = true then
              (S_slices_xorshift_Next (some (Addr.mk (Array.size h) 0 none)) h8 fun (vs9 : List Value) (h10 : Hp) =>
                ∃ n11 : Int, vs9 = [(Value.int .u64 n11)] ∧
                ∀ J12 : List Value → Hp → Prop, (∀ n13 : Int, ∀ h14 : Hp, (nilW g0_data.a fun a15 => ixOk (IntKind.wrap .i64 (g1_a + n13)) g0_data.n (∃ n16 : Int, rd h14 (Addr.add a15 (Int.toNat (IntKind.wrap .i64 (g1_a + n13)) * 1)) = some (Value.int .i64 n16) ∧
                      nilW g0_data.a fun a17 => ixOk n7 g0_data.n (∃ n18 : Int, rd h14 (Addr.add a17 (Int.toNat n7 * 1)) = some (Value.int .i64 n18) ∧
                        nilW g0_data.a fun a19 => ixOk n7 g0_data.n (stOk h14 (Addr.add a19 (Int.toNat n7 * 1)) 1 ∧ wth (wrs h14 (Addr.add a19 (Int.toNat n7 * 1)) 0 [(Value.int .i64 n16)]) fun h20 =>
                          nilW g0_data.a fun a21 => ixOk (IntKind.wrap .i64 (g1_a + n13)) g0_data.n (stOk h20 (Addr.add a21 (Int.toNat (IntKind.wrap .i64 (g1_a + n13)) * 1)) 1 ∧ wth (wrs h20 (Addr.add a21 (Int.toNat (IntKind.wrap .i64 (g1_a + n13)) * 1)) 0 [(Value.int .i64 n18)]) fun h22 =>
                            X6 [(Value.int .i64 (IntKind.wrap .i64 (n7 + (1 : Int))))] h22))))) → J12 [(Value.int .i64 n13)] h14) →
                (if (decide ((IntKind.wrap .i64 (iAnd .u64 n11 (IntKind.wrap .u64 (n5 - (1 : Int))))) ≥ (IntKind.wrap .i64 (g2_b - g1_a)))) = true then
                  (J12 [(Value.int .i64 (IntKind.wrap .i64 ((IntKind.wrap .i64 (iAnd .u64 n11 (IntKind.wrap .u64 (n5 - (1 : Int))))) - (IntKind.wrap .i64 (g2_b - g1_a)))))] h10) else
                  (J12 [(Value.int .i64 (IntKind.wrap .i64 (iAnd .u64 n11 (IntKind.wrap .u64 (n5 - (1 : Int))))))] h10))) else
              (Q [] h8)))) → X6 [(Value.int .i64 n7)] h8) →
      X6 [(Value.int .i64 (IntKind.wrap .i64 ((IntKind.wrap .i64 (g1_a + (IntKind.wrap .i64 ((IntKind.wrap .i64 (Int.tdiv (IntKind.wrap .i64 (g2_b - g1_a)) (4 : Int))) * (2 : Int))))) - (1 : Int))))] h4)) else
  (Q [] h))
def A_slices_breakPatternsOrdered_int : Ann := (.mk none ⟨[], []⟩ .nil (.mk none ⟨[], []⟩ .nil (.mk none ⟨[], []⟩ (.mk none ⟨[], []⟩ .nil (.mk none ⟨[], []⟩ .nil (.mk none ⟨[], []⟩ .nil (.mk none ⟨[], []⟩ (.mk none ⟨[0, 1, 6, 7, 8], [(9, (.c (.int .i64)))]⟩ (.mk none ⟨[], []⟩ .nil (.mk none ⟨[], []⟩ (.mk none ⟨[], []⟩ (.mk none ⟨[], []⟩ .nil (.mk none ⟨[], []⟩ (.mk none ⟨[], []⟩ .nil (.mk (some ⟨[0, 1, 6, 7, 8, 9], [(10, (.c (.int .i64)))]⟩) ⟨[], []⟩ .nil .nil)) .nil)) .nil) .nil)) .nil) .nil)))) .nil)))
theorem E_slices_breakPatternsOrdered_int (g0_data : Sl) (g1_a : Int) (g2_b : Int) (h : Hp) (Q : List Value → Hp → Prop) : cw PP 65 (fun _ => []) (bodyOf Try.f61) A_slices_breakPatternsOrdered_int (finQ PP (Try.f61.results.toList) Q) (argFr [(Value.slice g0_data.a g0_data.n g0_data.c), (Value.int .i64 g1_a), (Value.int .i64 g2_b)]) h = F_slices_breakPatternsOrdered_int g0_data g1_a g2_b h Q := by kernel_rfl
theorem O_slices_breakPatternsOrdered_int (g0_data : Sl) (g1_a : Int) (g2_b : Int) {h : Hp} {Q : List Value → Hp → Prop} (H : F_slices_breakPatternsOrdered_int g0_data g1_a g2_b h Q) : S_slices_breakPatternsOrdered_int g0_data g1_a g2_b h Q :=
  fn_of_cw (hs := (fun _ => [])) (ann := A_slices_breakPatternsOrdered_int) (args := [(Value.slice g0_data.a g0_data.n g0_data.c), (Value.int .i64 g1_a), (Value.int .i64 g2_b)]) mixedPP Try.func61 (c := bodyOf Try.f61) (by kernel_rfl) (by kernel_rfl) (by kernel_rfl) (Eq.mpr (E_slices_breakPatternsOrdered_int g0_data g1_a g2_b h Q) H)
def F_slices_order2Ordered_int (g0_data : Sl) (g1_a : Int) (g2_b : Int) (g3_swaps : Option Addr) (h : Hp) (Q : List Value → Hp → Prop) : Prop :=
nilW g0_data.a fun a1 => ixOk g2_b g0_data.n (∃ n2 : Int, rd h (Addr.add a1 (Int.toNat g2_b * 1)) = some (Value.int .i64 n2) ∧
  nilW g0_data.a fun a3 => ixOk g1_a g0_data.n (∃ n4 : Int, rd h (Addr.add a3 (Int.toNat g1_a * 1)) = some (Value.int .i64 n4) ∧
    S_cmp_Less_int n2 n4 h fun (vs5 : List Value) (h6 : Hp) =>
    ∃ b7 : Bool, vs5 = [(Value.bool b7)] ∧
    (if b7 = true then
      (nilW g3_swaps fun a8 => ∃ n9 : Int, rd h6 a8 = some (Value.int .i64 n9) ∧
        nilW g3_swaps fun a10 => stOk h6 a10 1 ∧ wth (wrs h6 a10 0 [(Value.int .i64 (IntKind.wrap .i64 (n9 + (1 : Int))))]) fun h11 =>
        Q [(Value.int .i64 g2_b), (Value.int .i64 g1_a)] h11) else
      (Q [(Value.int .i64 g1_a), (Value.int .i64 g2_b)] h6))))
def A_slices_order2Ordered_int : Ann := .nil
theorem E_slices_order2Ordered_int (g0_data : Sl) (g1_a : Int) (g2_b : Int) (g3_swaps : Option Addr) (h : Hp) (Q : List Value → Hp → Prop) : cw PP 28 (fun _ => []) (bodyOf Try.f76) A_slices_order2Ordered_int (finQ PP (Try.f76.results.toList) Q) (argFr [(Value.slice g0_data.a g0_data.n g0_data.c), (Value.int .i64 g1_a), (Value.int .i64 g2_b), (Value.pointer g3_swaps)]) h = F_slices_order2Ordered_int g0_data g1_a g2_b g3_swaps h Q := by kernel_rfl
theorem O_slices_order2Ordered_int (g0_data : Sl) (g1_a : Int) (g2_b : Int) (g3_swaps : Option Addr) {h : Hp} {Q : List Value → Hp → Prop} (H : F_slices_order2Ordered_int g0_data g1_a g2_b g3_swaps h Q) : S_slices_order2Ordered_int g0_data g1_a g2_b g3_swaps h Q :=
  fn_of_cw (hs := (fun _ => [])) (ann := A_slices_order2Ordered_int) (args := [(Value.slice g0_data.a g0_data.n g0_data.c), (Value.int .i64 g1_a), (Value.int .i64 g2_b), (Value.pointer g3_swaps)]) mixedPP Try.func76 (c := bodyOf Try.f76) (by kernel_rfl) (by kernel_rfl) (by kernel_rfl) (Eq.mpr (E_slices_order2Ordered_int g0_data g1_a g2_b g3_swaps h Q) H)
def F_slices_medianOrdered_int (g0_data : Sl) (g1_a : Int) (g2_b : Int) (g3_c : Int) (g4_swaps : Option Addr) (h : Hp) (Q : List Value → Hp → Prop) : Prop :=
S_slices_order2Ordered_int ⟨g0_data.a, g0_data.n, g0_data.c⟩ g1_a g2_b g4_swaps h fun (vs1 : List Value) (h2 : Hp) =>
∃ n3 : Int, ∃ n4 : Int, vs1 = [(Value.int .i64 n3), (Value.int .i64 n4)] ∧
S_slices_order2Ordered_int ⟨g0_data.a, g0_data.n, g0_data.c⟩ n4 g3_c g4_swaps h2 fun (vs5 : List Value) (h6 : Hp) =>
∃ n7 : Int, ∃ n8 : Int, vs5 = [(Value.int .i64 n7), (Value.int .i64 n8)] ∧
S_slices_order2Ordered_int ⟨g0_data.a, g0_data.n, g0_data.c⟩ n3 n7 g4_swaps h6 fun (vs9 : List Value) (h10 : Hp) =>
∃ n11 : Int, ∃ n12 : Int, vs9 = [(Value.int .i64 n11), (Value.int .i64 n12)] ∧
Q [(Value.int .i64 n12)] h10
def A_slices_medianOrdered_int : Ann := .nil
theorem E_slices_medianOrdered_int (g0_data : Sl) (g1_a : Int) (g2_b : Int) (g3_c : Int) (g4_swaps : Option Addr) (h : Hp) (Q : List Value → Hp → Prop) : cw PP 36 (fun _ => []) (bodyOf Try.f74) A_slices_medianOrdered_int (finQ PP (Try.f74.results.toList) Q) (argFr [(Value.slice g0_data.a g0_data.n g0_data.c), (Value.int .i64 g1_a), (Value.int .i64 g2_b), (Value.int .i64 g3_c), (Value.pointer g4_swaps)]) h = F_slices_medianOrdered_int g0_data g1_a g2_b g3_c g4_swaps h Q := by kernel_rfl
theorem O_slices_medianOrdered_int (g0_data : Sl) (g1_a : Int) (g2_b : Int) (g3_c : Int) (g4_swaps : Option Addr) {h : Hp} {Q : List Value → Hp → Prop} (H : F_slices_medianOrdered_int g0_data g1_a g2_b g3_c g4_swaps h Q) : S_slices_medianOrdered_int g0_data g1_a g2_b g3_c g4_swaps h Q :=
  fn_of_cw (hs := (fun _ => [])) (ann := A_slices_medianOrdered_int) (args := [(Value.slice g0_data.a g0_data.n g0_data.c), (Value.int .i64 g1_a), (Value.int .i64 g2_b), (Value.int .i64 g3_c), (Value.pointer g4_swaps)]) mixedPP Try.func74 (c := bodyOf Try.f74) (by kernel_rfl) (by kernel_rfl) (by kernel_rfl) (Eq.mpr (E_slices_medianOrdered_int g0_data g1_a g2_b g3_c g4_swaps h Q) H)
def F_slices_medianAdjacentOrdered_int (g0_data : Sl) (g1_a : Int) (g2_swaps : Option Addr) (h : Hp) (Q : List Value → Hp → Prop) : Prop :=
S_slices_medianOrdered_int ⟨g0_data.a, g0_data.n, g0_data.c⟩ (IntKind.wrap .i64 (g1_a - (1 : Int))) g1_a (IntKind.wrap .i64 (g1_a + (1 : Int))) g2_swaps h fun (vs1 : List Value) (h2 : Hp) =>
∃ n3 : Int, vs1 = [(Value.int .i64 n3)] ∧
Q [(Value.int .i64 n3)] h2
def A_slices_medianAdjacentOrdered_int : Ann := .nil
theorem E_slices_medianAdjacentOrdered_int (g0_data : Sl) (g1_a : Int) (g2_swaps : Option Addr) (h : Hp) (Q : List Value → Hp → Prop) : cw PP 15 (fun _ => []) (bodyOf Try.f73) A_slices_medianAdjacentOrdered_int (finQ PP (Try.f73.results.toList) Q) (argFr [(Value.slice g0_data.a g0_data.n g0_data.c), (Value.int .i64 g1_a), (Value.pointer g2_swaps)]) h = F_slices_medianAdjacentOrdered_int g0_data g1_a g2_swaps h Q := by kernel_rfl
theorem O_slices_medianAdjacentOrdered_int (g0_data : Sl) (g1_a : Int) (g2_swaps : Option Addr) {h : Hp} {Q : List Value → Hp → Prop} (H : F_slices_medianAdjacentOrdered_int g0_data g1_a g2_swaps h Q) : S_slices_medianAdjacentOrdered_int g0_data g1_a g2_swaps h Q :=
  fn_of_cw (hs := (fun _ => [])) (ann := A_slices_medianAdjacentOrdered_int) (args := [(Value.slice g0_data.a g0_data.n g0_data.c), (Value.int .i64 g1_a), (Value.pointer g2_swaps)]) mixedPP Try.func73 (c := bodyOf Try.f73) (by kernel_rfl) (by kernel_rfl) (by kernel_rfl) (Eq.mpr (E_slices_medianAdjacentOrdered_int g0_data g1_a g2_swaps h Q) H)
def F_slices_choosePivotOrdered_int (g0_data : Sl) (g1_a : Int) (g2_b : Int) (h : Hp) (Q : List Value → Hp → Prop) : Prop :=
wth (Array.push h (Obj.cells #[(Value.int .i64 (0 : Int))] T_int)) fun h1 =>
divOk (4 : Int) (divOk (4 : Int) (divOk (4 : Int) (∀ J2 : List Value → Hp → Prop, (∀ n3 : Int, ∀ h4 : Hp, (∃ n5 : Int, rd h4 (Addr.mk (Array.size h) 0 none) = some (Value.int .i64 n5) ∧
          (if (n5 == (0 : Int)) = true then
            (Q [(Value.int .i64 n3), (Value.int .i64 (1 : Int))] h4) else
            ((if (n5 == (12 : Int)) = true then
                (Q [(Value.int .i64 n3), (Value.int .i64 (2 : Int))] h4) else
                (Q [(Value.int .i64 n3), (Value.int .i64 (0 : Int))] h4))))) → J2 [(Value.int .i64 n3)] h4) →
      (if (decide ((IntKind.wrap .i64 (g2_b - g1_a)) ≥ (8 : Int))) = true then
        (∀ J6 : List Value → Hp → Prop, (∀ n7 : Int, ∀ n8 : Int, ∀ n9 : Int, ∀ h10 : Hp, (S_slices_medianOrdered_int ⟨g0_data.a, g0_data.n, g0_data.c⟩ n7 n8 n9 (some (Addr.mk (Array.size h) 0 none)) h10 fun (vs11 : List Value) (h12 : Hp) =>
              ∃ n13 : Int, vs11 = [(Value.int .i64 n13)] ∧
              J2 [(Value.int .i64 n13)] h12) → J6 [(Value.int .i64 n7), (Value.int .i64 n8), (Value.int .i64 n9)] h10) →
          (if (decide ((IntKind.wrap .i64 (g2_b - g1_a)) ≥ (50 : Int))) = true then
            (S_slices_medianAdjacentOrdered_int ⟨g0_data.a, g0_data.n, g0_data.c⟩ (IntKind.wrap .i64 (g1_a + (IntKind.wrap .i64 ((IntKind.wrap .i64 (Int.tdiv (IntKind.wrap .i64 (g2_b - g1_a)) (4 : Int))) * (1 : Int))))) (some (Addr.mk (Array.size h) 0 none)) h1 fun (vs14 : List Value) (h15 : Hp) =>
              ∃ n16 : Int, vs14 = [(Value.int .i64 n16)] ∧
              S_slices_medianAdjacentOrdered_int ⟨g0_data.a, g0_data.n, g0_data.c⟩ (IntKind.wrap .i64 (g1_a + (IntKind.wrap .i64 ((IntKind.wrap .i64 (Int.tdiv (IntKind.wrap .i64 (g2_b - g1_a)) (4 : Int))) * (2 : Int))))) (some (Addr.mk (Array.size h) 0 none)) h15 fun (vs17 : List Value) (h18 : Hp) =>
              ∃ n19 : Int, vs17 = [(Value.int .i64 n19)] ∧
              S_slices_medianAdjacentOrdered_int ⟨g0_data.a, g0_data.n, g0_data.c⟩ (IntKind.wrap .i64 (g1_a + (IntKind.wrap .i64 ((IntKind.wrap .i64 (Int.tdiv (IntKind.wrap .i64 (g2_b - g1_a)) (4 : Int))) * (3 : Int))))) (some (Addr.mk (Array.size h) 0 none)) h18 fun (vs20 : List Value) (h21 : Hp) =>
              ∃ n22 : Int, vs20 = [(Value.int .i64 n22)] ∧
              J6 [(Value.int .i64 n16), (Value.int .i64 n19), (Value.int .i64 n22)] h21) else
            (J6 [(Value.int .i64 (IntKind.wrap .i64 (g1_a + (IntKind.wrap .i64 ((IntKind.wrap .i64 (Int.tdiv (IntKind.wrap .i64 (g2_b - g1_a)) (4 : Int))) * (1 : Int)))))), (Value.int .i64 (IntKind.wrap .i64 (g1_a + (IntKind.wrap .i64 ((IntKind.wrap .i64 (Int.tdiv (IntKind.wrap .i64 (g2_b - g1_a)) (4 : Int))) * (2 : Int)))))), (Value.int .i64 (IntKind.wrap .i64 (g1_a + (IntKind.wrap .i64 ((IntKind.wrap .i64 (Int.tdiv (IntKind.wrap .i64 (g2_b - g1_a)) (4 : Int))) * (3 : Int))))))] h1))) else
        (J2 [(Value.int .i64 (IntKind.wrap .i64 (g1_a + (IntKind.wrap .i64 ((IntKind.wrap .i64 (Int.tdiv (IntKind.wrap .i64 (g2_b - g1_a)) (4 : Int))) * (2 : Int))))))] h1)))))
def A_slices_choosePivotOrdered_int : Ann := (.mk none ⟨[], []⟩ .nil (.mk none ⟨[], []⟩ .nil (.mk none ⟨[], []⟩ .nil (.mk none ⟨[], []⟩ .nil (.mk none ⟨[], []⟩ .nil (.mk none ⟨[], []⟩ .nil (.mk none ⟨[], []⟩ (.mk none ⟨[], []⟩ .nil (.mk (some ⟨[9], [(11, (.c (.int .i64)))]⟩) ⟨[], []⟩ (.mk none ⟨[], []⟩ (.mk none ⟨[], []⟩ .nil (.mk (some ⟨[0, 9], [(10, (.c (.int .i64))), (11, (.c (.int .i64))), (12, (.c (.int .i64)))]⟩) ⟨[], []⟩ .nil .nil)) .nil) .nil)) .nil)))))))
theorem E_slices_choosePivotOrdered_int (g0_data : Sl) (g1_a : Int) (g2_b : Int) (h : Hp) (Q : List Value → Hp → Prop) : cw PP 57 (fun _ => []) (bodyOf Try.f62) A_slices_choosePivotOrdered_int (finQ PP (Try.f62.results.toList) Q) (argFr [(Value.slice g0_data.a g0_data.n g0_data.c), (Value.int .i64 g1_a), (Value.int .i64 g2_b)]) h = F_slices_choosePivotOrdered_int g0_data g1_a g2_b h Q := by kernel_rfl
theorem O_slices_choosePivotOrdered_int (g0_data : Sl) (g1_a : Int) (g2_b : Int) {h : Hp} {Q : List Value → Hp → Prop} (H : F_slices_choosePivotOrdered_int g0_data g1_a g2_b h Q) : S_slices_choosePivotOrdered_int g0_data g1_a g2_b h Q :=
  fn_of_cw (hs := (fun _ => [])) (ann := A_slices_choosePivotOrdered_int) (args := [(Value.slice g0_data.a g0_data.n g0_data.c), (Value.int .i64 g1_a), (Value.int .i64 g2_b)]) mixedPP Try.func62 (c := bodyOf Try.f62) (by kernel_rfl) (by kernel_rfl) (by kernel_rfl) (Eq.mpr (E_slices_choosePivotOrdered_int g0_data g1_a g2_b h Q) H)
def F_slices_reverseRangeOrdered_int (g0_data : Sl) (g1_a : Int) (g2_b : Int) (h : Hp) (Q : List Value → Hp → Prop) : Prop :=
∀ X1 : List Value → Hp → Prop, (∀ n2 : Int, ∀ n3 : Int, ∀ h4 : Hp, ((if (decide (n2 < n3)) = true then
      (nilW g0_data.a fun a5 => ixOk n3 g0_data.n (∃ n6 : Int, rd h4 (Addr.add a5 (Int.toNat n3 * 1)) = some (Value.int .i64 n6) ∧
          nilW g0_data.a fun a7 => ixOk n2 g0_data.n (∃ n8 : Int, rd h4 (Addr.add a7 (Int.toNat n2 * 1)) = some (Value.int .i64 n8) ∧
            nilW g0_data.a fun a9 => ixOk n2 g0_data.n (stOk h4 (Addr.add a9 (Int.toNat n2 * 1)) 1 ∧ wth (wrs h4 (Addr.add a9 (Int.toNat n2 * 1)) 0 [(Value.int .i64 n6)]) fun h10 =>
              nilW g0_data.a fun a11 => ixOk n3 g0_data.n (stOk h10 (Addr.add a11 (Int.toNat n3 * 1)) 1 ∧ wth (wrs h10 (Addr.add a11 (Int.toNat n3 * 1)) 0 [(Value.int .i64 n8)]) fun h12 =>
                X1 [(Value.int .i64 (IntKind.wrap .i64 (n2 + (1 : Int)))), (Value.int .i64 (IntKind.wrap .i64 (n3 - (1 : Int))))] h12))))) else
      (Q [] h4))) → X1 [(Value.int .i64 n2), (Value.int .i64 n3)] h4) →
X1 [(Value.int .i64 g1_a), (Value.int .i64 (IntKind.wrap .i64 (g2_b - (1 : Int))))] h
def A_slices_reverseRangeOrdered_int : Ann := (.mk none ⟨[], []⟩ .nil (.mk none ⟨[], []⟩ .nil (.mk none ⟨[], []⟩ (.mk none ⟨[0], [(6, (.c (.int .i64))), (7, (.c (.int .i64)))]⟩ .nil .nil) .nil)))
theorem E_slices_reverseRangeOrdered_int (g0_data : Sl) (g1_a : Int) (g2_b : Int) (h : Hp) (Q : List Value → Hp → Prop) : cw PP 32 (fun _ => []) (bodyOf Try.f63) A_slices_reverseRangeOrdered_int (finQ PP (Try.f63.results.toList) Q) (argFr [(Value.slice g0_data.a g0_data.n g0_data.c), (Value.int .i64 g1_a), (Value.int .i64 g2_b)]) h = F_slices_reverseRangeOrdered_int g0_data g1_a g2_b h Q := by kernel_rfl
theorem O_slices_reverseRangeOrdered_int (g0_data : Sl) (g1_a : Int) (g2_b : Int) {h : Hp} {Q : List Value → Hp → Prop} (H : F_slices_reverseRangeOrdered_int g0_data g1_a g2_b h Q) : S_slices_reverseRangeOrdered_int g0_data g1_a g2_b h Q :=
  fn_of_cw (hs := (fun _ => [])) (ann := A_slices_reverseRangeOrdered_int) (args := [(Value.slice g0_data.a g0_data.n g0_data.c), (Value.int .i64 g1_a), (Value.int .i64 g2_b)]) mixedPP Try.func63 (c := bodyOf Try.f63) (by kernel_rfl) (by kernel_rfl) (by kernel_rfl) (Eq.mpr (E_slices_reverseRangeOrdered_int g0_data g1_a g2_b h Q) H)
def F_slices_partialInsertionSortOrdered_int (g0_data : Sl) (g1_a : Int) (g2_b : Int) (h : Hp) (Q : List Value → Hp → Prop) : Prop :=
∀ X1 : List Value → Hp → Prop, (∀ n2 : Int, ∀ n3 : Int, ∀ h4 : Hp, ((if (decide (n3 < (5 : Int))) = true then
      (∀ J5 : List Value → Hp → Prop, (∀ n6 : Int, ∀ h7 : Hp, (X1 [(Value.int .i64 n6), (Value.int .i64 (IntKind.wrap .i64 (n3 + (1 : Int))))] h7) → J5 [(Value.int .i64 n6)] h7) →
        ∀ X8 : List Value → Hp → Prop, (∀ n9 : Int, ∀ h10 : Hp, (∀ J11 : List Value → Hp → Prop, (∀ b12 : Bool, ∀ h13 : Hp, ((if b12 = true then
                  (X8 [(Value.int .i64 (IntKind.wrap .i64 (n9 + (1 : Int))))] h13) else
                  ((if (n9 == g2_b) = true then
                      (Q [(Value.bool true)] h13) else
                      ((if (decide ((IntKind.wrap .i64 (g2_b - g1_a)) < (50 : Int))) = true then
                          (Q [(Value.bool false)] h13) else
                          (nilW g0_data.a fun a14 => ixOk (IntKind.wrap .i64 (n9 - (1 : Int))) g0_data.n (∃ n15 : Int, rd h13 (Addr.add a14 (Int.toNat (IntKind.wrap .i64 (n9 - (1 : Int))) * 1)) = some (Value.int .i64 n15) ∧
                              nilW g0_data.a fun a16 => ixOk n9 g0_data.n (∃ n17 : Int, rd h13 (Addr.add a16 (Int.toNat n9 * 1)) = some (Value.int .i64 n17) ∧
                                nilW g0_data.a fun a18 => ixOk n9 g0_data.n (stOk h13 (Addr.add a18 (Int.toNat n9 * 1)) 1 ∧ wth (wrs h13 (Addr.add a18 (Int.toNat n9 * 1)) 0 [(Value.int .i64 n15)]) fun h19 =>
                                  nilW g0_data.a fun a20 => ixOk (IntKind.wrap .i64 (n9 - (1 : Int))) g0_data.n (stOk h19 (Addr.add a20 (Int.toNat (IntKind.wrap .i64 (n9 - (1 : Int))) * 1)) 1 ∧ wth (wrs h19 (Addr.add a20 (Int.toNat (IntKind.wrap .i64 (n9 - (1 : Int))) * 1)) 0 [(Value.int .i64 n17)]) fun h21 =>
                                    ∀ J22 : List Value → Hp → Prop, (∀ h23 : Hp, ((if (decide ((IntKind.wrap .i64 (g2_b - n9)) ≥ (2 : Int))) = true then
                                          (∀ X24 : List Value → Hp → Prop, (∀ n25 : Int, ∀ h26 : Hp, ((if (decide (n25 < g2_b)) = true then
                                                  (nilW g0_data.a fun a27 => ixOk n25 g0_data.n (∃ n28 : Int, rd h26 (Addr.add a27 (Int.toNat n25 * 1)) = some (Value.int .i64 n28) ∧
                                                      nilW g0_data.a fun a29 => ixOk (IntKind.wrap .i64 (n25 - (1 : Int))) g0_data.n (∃ n30 : Int, rd h26 (Addr.add a29 (Int.toNat (IntKind.wrap .i64 (n25 - (1 : Int))) * 1)) = some (Value.int .i64 n30) ∧
                                                        S_cmp_Less_int n28 n30 h26 fun (vs31 : List Value) (h32 : Hp) =>
                                                        ∃ b33 : Bool, vs31 = [(Value.bool b33)] ∧
                                                        (if (!b33) = true then
                                                          (J5 [(Value.int .i64 n9)] h32) else
                                                          (nilW g0_data.a fun a34 => ixOk (IntKind.wrap .i64 (n25 - (1 : Int))) g0_data.n (∃ n35 : Int, rd h32 (Addr.add a34 (Int.toNat (IntKind.wrap .i64 (n25 - (1 : Int))) * 1)) = some (Value.int .i64 n35) ∧
                                                            nilW g0_data.a fun a36 => ixOk n25 g0_data.n (∃ n37 : Int, rd h32 (Addr.add a36 (Int.toNat n25 * 1)) = some (Value.int .i64 n37) ∧
                                                            nilW g0_data.a fun a38 => ixOk n25 g0_data.n (stOk h32 (Addr.add a38 (Int.toNat n25 * 1)) 1 ∧ wth (wrs h32 (Addr.add a38 (Int.toNat n25 * 1)) 0 [(Value.int .i64 n35)]) fun h39 =>
                                                            nilW g0_data.a fun a40 => ixOk (IntKind.wrap .i64 (n25 - (1 : Int))) g0_data.n (stOk h39 (Addr.add a40 (Int.toNat (IntKind.wrap .i64 (n25 - (1 : Int))) * 1)) 1 ∧ wth (wrs h39 (Addr.add a40 (Int.toNat (IntKind.wrap .i64 (n25 - (1 : Int))) * 1)) 0 [(Value.int .i64 n37)]) fun h41 =>
                                                            X24 [(Value.int .i64 (IntKind.wrap .i64 (n25 + (1 : Int))))] h41))))))))) else
                                                  (J5 [(Value.int .i64 n9)] h26))) → X24 [(Value.int .i64 n25)] h26) →
                                            X24 [(Value.int .i64 (IntKind.wrap .i64 (n9 + (1 : Int))))] h23) else
                                          (J5 [(Value.int .i64 n9)] h23))) → J22 [] h23) →
                                    (if (decide ((IntKind.wrap .i64 (n9 - g1_a)) ≥ (2 : Int))) = true then
                                      (∀ X42 : List Value → Hp → Prop, (∀ n43 : Int, ∀ h44 : Hp, ((if (decide (n43 ≥ (1 : Int))) = true then
                                              (nilW g0_data.a fun a45 => ixOk n43 g0_data.n (∃ n46 : Int, rd h44 (Addr.add a45 (Int.toNat n43 * 1)) = some (Value.int .i64 n46) ∧
                                                  nilW g0_data.a fun a47 => ixOk (IntKind.wrap .i64 (n43 - (1 : Int))) g0_data.n (∃ n48 : Int, rd h44 (Addr.add a47 (Int.toNat (IntKind.wrap .i64 (n43 - (1 : Int))) * 1)) = some (Value.int .i64 n48) ∧
                                                    S_cmp_Less_int n46 n48 h44 fun (vs49 : List Value) (h50 : Hp) =>
                                                    ∃ b51 : Bool, vs49 = [(Value.bool b51)] ∧
                                                    (if (!b51) = true then
                                                      (J22 [] h50) else
                                                      (nilW g0_data.a fun a52 => ixOk (IntKind.wrap .i64 (n43 - (1 : Int))) g0_data.n (∃ n53 : Int, rd h50 (Addr.add a52 (Int.toNat (IntKind.wrap .i64 (n43 - (1 : Int))) * 1)) = some (Value.int .i64 n53) ∧
                                                          nilW g0_data.a fun a54 => ixOk n43 g0_data.n (∃ n55 : Int, rd h50 (Addr.add a54 (Int.toNat n43 * 1)) = some (Value.int .i64 n55) ∧
                                                            nilW g0_data.a fun a56 => ixOk n43 g0_data.n (stOk h50 (Addr.add a56 (Int.toNat n43 * 1)) 1 ∧ wth (wrs h50 (Addr.add a56 (Int.toNat n43 * 1)) 0 [(Value.int .i64 n53)]) fun h57 =>
                                                            nilW g0_data.a fun a58 => ixOk (IntKind.wrap .i64 (n43 - (1 : Int))) g0_data.n (stOk h57 (Addr.add a58 (Int.toNat (IntKind.wrap .i64 (n43 - (1 : Int))) * 1)) 1 ∧ wth (wrs h57 (Addr.add a58 (Int.toNat (IntKind.wrap .i64 (n43 - (1 : Int))) * 1)) 0 [(Value.int .i64 n55)]) fun h59 =>
                                                            X42 [(Value.int .i64 (IntKind.wrap .i64 (n43 - (1 : Int))))] h59))))))))) else
                                              (J22 [] h44))) → X42 [(Value.int .i64 n43)] h44) →
                                        X42 [(Value.int .i64 (IntKind.wrap .i64 (n9 - (1 : Int))))] h21) else
                                      (J22 [] h21))))))))))))) → J11 [(Value.bool b12)] h13) →
            (if (decide (n9 < g2_b)) = true then (nilW g0_data.a fun a60 => ixOk n9 g0_data.n (∃ n61 : Int, rd h10 (Addr.add a60 (Int.toNat n9 * 1)) = some (Value.int .i64 n61) ∧
                  nilW g0_data.a fun a62 => ixOk (IntKind.wrap .i64 (n9 - (1 : Int))) g0_data.n (∃ n63 : Int, rd h10 (Addr.add a62 (Int.toNat (IntKind.wrap .i64 (n9 - (1 : Int))) * 1)) = some (Value.int .i64 n63) ∧
                    S_cmp_Less_int n61 n63 h10 fun (vs64 : List Value) (h65 : Hp) =>
                    ∃ b66 : Bool, vs64 = [(Value.bool b66)] ∧
                    J11 [(Value.bool (!b66))] h65))) else
              (J11 [(Value.bool false)] h10))) → X8 [(Value.int .i64 n9)] h10) →
        X8 [(Value.int .i64 n2)] h4) else
      (Q [(Value.bool false)] h4))) → X1 [(Value.int .i64 n2), (Value.int .i64 n3)] h4) →
X1 [(Value.int .i64 (IntKind.wrap .i64 (g1_a + (1 : Int)))), (Value.int .i64 (0 : Int))] h
def A_slices_partialInsertionSortOrdered_int : Ann := (.mk none ⟨[], []⟩ .nil (.mk none ⟨[], []⟩ .nil (.mk none ⟨[], []⟩ (.mk none ⟨[], []⟩ .nil (.mk none ⟨[], []⟩ (.mk none ⟨[0, 1, 2], [(7, (.c (.int .i64))), (8, (.c (.int .i64)))]⟩ (.mk none ⟨[], []⟩ .nil (.mk none ⟨[], []⟩ (.mk (some ⟨[0, 1, 2, 8], [(7, (.c (.int .i64)))]⟩) ⟨[], []⟩ (.mk none ⟨[], []⟩ (.mk none ⟨[], []⟩ (.mk none ⟨[0, 1, 2, 8], [(7, (.c (.int .i64)))]⟩ (.mk none ⟨[], []⟩ (.mk none ⟨[], []⟩ (.mk (some ⟨[0, 1, 2, 7, 8], [(32, (.c .bool))]⟩) ⟨[], []⟩ .nil .nil) .nil) .nil) .nil) .nil) (.mk none ⟨[], []⟩ .nil (.mk none ⟨[], []⟩ .nil (.mk none ⟨[], []⟩ .nil (.mk none ⟨[], []⟩ (.mk none ⟨[], []⟩ .nil (.mk (some ⟨[0, 1, 2, 7, 8], []⟩) ⟨[], []⟩ (.mk none ⟨[], []⟩ .nil (.mk none ⟨[], []⟩ (.mk none ⟨[0, 1, 2, 7, 8], [(9, (.c (.int .i64)))]⟩ .nil .nil) .nil)) .nil)) (.mk none ⟨[], []⟩ .nil (.mk none ⟨[], []⟩ (.mk none ⟨[], []⟩ .nil (.mk none ⟨[], []⟩ (.mk none ⟨[0, 1, 2, 7, 8], [(10, (.c (.int .i64)))]⟩ .nil .nil) .nil)) .nil))))))) .nil) .nil)) .nil) .nil)) .nil)))
theorem E_slices_partialInsertionSortOrdered_int (g0_data : Sl) (g1_a : Int) (g2_b : Int) (h : Hp) (Q : List Value → Hp → Prop) : cw PP 133 (fun _ => []) (bodyOf Try.f64) A_slices_partialInsertionSortOrdered_int (finQ PP (Try.f64.results.toList) Q) (argFr [(Value.slice g0_data.a g0_data.n g0_data.c), (Value.int .i64 g1_a), (Value.int .i64 g2_b)]) h = F_slices_partialInsertionSortOrdered_int g0_data g1_a g2_b h Q := by kernel_rfl
theorem O_slices_partialInsertionSortOrdered_int (g0_data : Sl) (g1_a : Int) (g2_b : Int) {h : Hp} {Q : List Value → Hp → Prop} (H : F_slices_partialInsertionSortOrdered_int g0_data g1_a g2_b h Q) : S_slices_partialInsertionSortOrdered_int g0_data g1_a g2_b h Q :=
  fn_of_cw (hs := (fun _ => [])) (ann := A_slices_partialInsertionSortOrdered_int) (args := [(Value.slice g0_data.a g0_data.n g0_data.c), (Value.int .i64 g1_a), (Value.int .i64 g2_b)]) mixedPP Try.func64 (c := bodyOf Try.f64) (by kernel_rfl) (by kernel_rfl) (by kernel_rfl) (Eq.mpr (E_slices_partialInsertionSortOrdered_int g0_data g1_a g2_b h Q) H)
def F_slices_partitionEqualOrdered_int (g0_data : Sl) (g1_a : Int) (g2_b : Int) (g3_pivot : Int) (h : Hp) (Q : List Value → Hp → Prop) : Prop :=
nilW g0_data.a fun a1 => ixOk g3_pivot g0_data.n (∃ n2 : Int, rd h (Addr.add a1 (Int.toNat g3_pivot * 1)) = some (Value.int .i64 n2) ∧
  nilW g0_data.a fun a3 => ixOk g1_a g0_data.n (∃ n4 : Int, rd h (Addr.add a3 (Int.toNat g1_a * 1)) = some (Value.int .i64 n4) ∧
    nilW g0_data.a fun a5 => ixOk g1_a g0_data.n (stOk h (Addr.add a5 (Int.toNat g1_a * 1)) 1 ∧ wth (wrs h (Addr.add a5 (Int.toNat g1_a * 1)) 0 [(Value.int .i64 n2)]) fun h6 =>
      nilW g0_data.a fun a7 => ixOk g3_pivot g0_data.n (stOk h6 (Addr.add a7 (Int.toNat g3_pivot * 1)) 1 ∧ wth (wrs h6 (Addr.add a7 (Int.toNat g3_pivot * 1)) 0 [(Value.int .i64 n4)]) fun h8 =>
        ∀ X9 : List Value → Hp → Prop, (∀ n10 : Int, ∀ n11 : Int, ∀ h12 : Hp, (∀ X13 : List Value → Hp → Prop, (∀ n14 : Int, ∀ h15 : Hp, (∀ J16 : List Value → Hp → Prop, (∀ b17 : Bool, ∀ h18 : Hp, ((if b17 = true then
                      (X13 [(Value.int .i64 (IntKind.wrap .i64 (n14 + (1 : Int))))] h18) else
                      (∀ X19 : List Value → Hp → Prop, (∀ n20 : Int, ∀ h21 : Hp, (∀ J22 : List Value → Hp → Prop, (∀ b23 : Bool, ∀ h24 : Hp, ((if b23 = true then
                                  (X19 [(Value.int .i64 (IntKind.wrap .i64 (n20 - (1 : Int))))] h24) else
                                  ((if (decide (n14 > n20)) = true then
                                      (Q [(Value.int .i64 n14)] h24) else
                                      (nilW g0_data.a fun a25 => ixOk n20 g0_data.n (∃ n26 : Int, rd h24 (Addr.add a25 (Int.toNat n20 * 1)) = some (Value.int .i64 n26) ∧
                                          nilW g0_data.a fun a27 => ixOk n14 g0_data.n (∃ n28 : Int, rd h24 (Addr.add a27 (Int.toNat n14 * 1)) = some (Value.int .i64 n28) ∧
                                            nilW g0_data.a fun a29 => ixOk n14 g0_data.n (stOk h24 (Addr.add a29 (Int.toNat n14 * 1)) 1 ∧ wth (wrs h24 (Addr.add a29 (Int.toNat n14 * 1)) 0 [(Value.int .i64 n26)]) fun h30 =>
                                              nilW g0_data.a fun a31 => ixOk n20 g0_data.n (stOk h30 (Addr.add a31 (Int.toNat n20 * 1)) 1 ∧ wth (wrs h30 (Addr.add a31 (Int.toNat n20 * 1)) 0 [(Value.int .i64 n28)]) fun h32 =>
                                                X9 [(Value.int .i64 (IntKind.wrap .i64 (n14 + (1 : Int)))), (Value.int .i64 (IntKind.wrap .i64 (n20 - (1 : Int))))] h32))))))))) → J22 [(Value.bool b23)] h24) →
                            (if (decide (n14 ≤ n20)) = true then (nilW g0_data.a fun a33 => ixOk g1_a g0_data.n (∃ n34 : Int, rd h21 (Addr.add a33 (Int.toNat g1_a * 1)) = some (Value.int .i64 n34) ∧
                                  nilW g0_data.a fun a35 => ixOk n20 g0_data.n (∃ n36 : Int, rd h21 (Addr.add a35 (Int.toNat n20 * 1)) = some (Value.int .i64 n36) ∧
                                    S_cmp_Less_int n34 n36 h21 fun (vs37 : List Value) (h38 : Hp) =>
                                    ∃ b39 : Bool, vs37 = [(Value.bool b39)] ∧
                                    J22 [(Value.bool b39)] h38))) else
                              (J22 [(Value.bool false)] h21))) → X19 [(Value.int .i64 n20)] h21) →
                        X19 [(Value.int .i64 n11)] h18))) → J16 [(Value.bool b17)] h18) →
                (if (decide (n14 ≤ n11)) = true then (nilW g0_data.a fun a40 => ixOk g1_a g0_data.n (∃ n41 : Int, rd h15 (Addr.add a40 (Int.toNat g1_a * 1)) = some (Value.int .i64 n41) ∧
                      nilW g0_data.a fun a42 => ixOk n14 g0_data.n (∃ n43 : Int, rd h15 (Addr.add a42 (Int.toNat n14 * 1)) = some (Value.int .i64 n43) ∧
                        S_cmp_Less_int n41 n43 h15 fun (vs44 : List Value) (h45 : Hp) =>
                        ∃ b46 : Bool, vs44 = [(Value.bool b46)] ∧
                        J16 [(Value.bool (!b46))] h45))) else
                  (J16 [(Value.bool false)] h15))) → X13 [(Value.int .i64 n14)] h15) →
            X13 [(Value.int .i64 n10)] h12) → X9 [(Value.int .i64 n10), (Value.int .i64 n11)] h12) →
        X9 [(Value.int .i64 (IntKind.wrap .i64 (g1_a + (1 : Int)))), (Value.int .i64 (IntKind.wrap .i64 (g2_b - (1 : Int))))] h8))))
def A_slices_partitionEqualOrdered_int : Ann := (.mk none ⟨[], []⟩ .nil (.mk none ⟨[], []⟩ .nil (.mk none ⟨[], []⟩ .nil (.mk none ⟨[], []⟩ (.mk none ⟨[], []⟩ (.mk none ⟨[0, 1], [(9, (.c (.int .i64))), (10, (.c (.int .i64)))]⟩ (.mk none ⟨[], []⟩ (.mk none ⟨[], []⟩ (.mk none ⟨[], []⟩ (.mk none ⟨[0, 1, 10], [(9, (.c (.int .i64)))]⟩ (.mk none ⟨[], []⟩ (.mk none ⟨[], []⟩ (.mk (some ⟨[0, 1, 9, 10], [(43, (.c .bool))]⟩) ⟨[], []⟩ .nil .nil) .nil) .nil) .nil) .nil) (.mk none ⟨[], []⟩ (.mk none ⟨[], []⟩ (.mk none ⟨[0, 1, 9], [(10, (.c (.int .i64)))]⟩ (.mk none ⟨[], []⟩ (.mk none ⟨[], []⟩ (.mk (some ⟨[0, 1, 9, 10], [(59, (.c .bool))]⟩) ⟨[], []⟩ .nil .nil) .nil) .nil) .nil) .nil) .nil)) .nil) .nil) .nil) .nil))))
theorem E_slices_partitionEqualOrdered_int (g0_data : Sl) (g1_a : Int) (g2_b : Int) (g3_pivot : Int) (h : Hp) (Q : List Value → Hp → Prop) : cw PP 84 (fun _ => []) (bodyOf Try.f66) A_slices_partitionEqualOrdered_int (finQ PP (Try.f66.results.toList) Q) (argFr [(Value.slice g0_data.a g0_data.n g0_data.c), (Value.int .i64 g1_a), (Value.int .i64 g2_b), (Value.int .i64 g3_pivot)]) h = F_slices_partitionEqualOrdered_int g0_data g1_a g2_b g3_pivot h Q := by kernel_rfl
theorem O_slices_partitionEqualOrdered_int (g0_data : Sl) (g1_a : Int) (g2_b : Int) (g3_pivot : Int) {h : Hp} {Q : List Value → Hp → Prop} (H : F_slices_partitionEqualOrdered_int g0_data g1_a g2_b g3_pivot h Q) : S_slices_partitionEqualOrdered_int g0_data g1_a g2_b g3_pivot h Q :=
  fn_of_cw (hs := (fun _ => [])) (ann := A_slices_partitionEqualOrdered_int) (args := [(Value.slice g0_data.a g0_data.n g0_data.c), (Value.int .i64 g1_a), (Value.int .i64 g2_b), (Value.int .i64 g3_pivot)]) mixedPP Try.func66 (c := bodyOf Try.f66) (by kernel_rfl) (by kernel_rfl) (by kernel_rfl) (Eq.mpr (E_slices_partitionEqualOrdered_int g0_data g1_a g2_b g3_pivot h Q) H)
def F_slices_partitionOrdered_int (g0_data : Sl) (g1_a : Int) (g2_b : Int) (g3_pivot : Int) (h : Hp) (Q : List Value → Hp → Prop) : Prop :=
nilW g0_data.a fun a1 => ixOk g3_pivot g0_data.n (∃ n2 : Int, rd h (Addr.add a1 (Int.toNat g3_pivot * 1)) = some (Value.int .i64 n2) ∧
  nilW g0_data.a fun a3 => ixOk g1_a g0_data.n (∃ n4 : Int, rd h (Addr.add a3 (Int.toNat g1_a * 1)) = some (Value.int .i64 n4) ∧
    nilW g0_data.a fun a5 => ixOk g1_a g0_data.n (stOk h (Addr.add a5 (Int.toNat g1_a * 1)) 1 ∧ wth (wrs h (Addr.add a5 (Int.toNat g1_a * 1)) 0 [(Value.int .i64 n2)]) fun h6 =>
      nilW g0_data.a fun a7 => ixOk g3_pivot g0_data.n (stOk h6 (Addr.add a7 (Int.toNat g3_pivot * 1)) 1 ∧ wth (wrs h6 (Addr.add a7 (Int.toNat g3_pivot * 1)) 0 [(Value.int .i64 n4)]) fun h8 =>
        ∀ X9 : List Value → Hp → Prop, (∀ n10 : Int, ∀ h11 : Hp, (∀ J12 : List Value → Hp → Prop, (∀ b13 : Bool, ∀ h14 : Hp, ((if b13 = true then
                  (X9 [(Value.int .i64 (IntKind.wrap .i64 (n10 + (1 : Int))))] h14) else
                  (∀ X15 : List Value → Hp → Prop, (∀ n16 : Int, ∀ h17 : Hp, (∀ J18 : List Value → Hp → Prop, (∀ b19 : Bool, ∀ h20 : Hp, ((if b19 = true then
                              (X15 [(Value.int .i64 (IntKind.wrap .i64 (n16 - (1 : Int))))] h20) else
                              ((if (decide (n10 > n16)) = true then
                                  (nilW g0_data.a fun a21 => ixOk g1_a g0_data.n (∃ n22 : Int, rd h20 (Addr.add a21 (Int.toNat g1_a * 1)) = some (Value.int .i64 n22) ∧
                                      nilW g0_data.a fun a23 => ixOk n16 g0_data.n (∃ n24 : Int, rd h20 (Addr.add a23 (Int.toNat n16 * 1)) = some (Value.int .i64 n24) ∧
                                        nilW g0_data.a fun a25 => ixOk n16 g0_data.n (stOk h20 (Addr.add a25 (Int.toNat n16 * 1)) 1 ∧ wth (wrs h20 (Addr.add a25 (Int.toNat n16 * 1)) 0 [(Value.int .i64 n22)]) fun h26 =>
                                          nilW g0_data.a fun a27 => ixOk g1_a g0_data.n (stOk h26 (Addr.add a27 (Int.toNat g1_a * 1)) 1 ∧ wth (wrs h26 (Addr.add a27 (Int.toNat g1_a * 1)) 0 [(Value.int .i64 n24)]) fun h28 =>
                                            Q [(Value.int .i64 n16), (Value.bool true)] h28))))) else
                                  (nilW g0_data.a fun a29 => ixOk n16 g0_data.n (∃ n30 : Int, rd h20 (Addr.add a29 (Int.toNat n16 * 1)) = some (Value.int .i64 n30) ∧
                                      nilW g0_data.a fun a31 => ixOk n10 g0_data.n (∃ n32 : Int, rd h20 (Addr.add a31 (Int.toNat n10 * 1)) = some (Value.int .i64 n32) ∧
                                        nilW g0_data.a fun a33 => ixOk n10 g0_data.n (stOk h20 (Addr.add a33 (Int.toNat n10 * 1)) 1 ∧ wth (wrs h20 (Addr.add a33 (Int.toNat n10 * 1)) 0 [(Value.int .i64 n30)]) fun h34 =>
                                          nilW g0_data.a fun a35 => ixOk n16 g0_data.n (stOk h34 (Addr.add a35 (Int.toNat n16 * 1)) 1 ∧ wth (wrs h34 (Addr.add a35 (Int.toNat n16 * 1)) 0 [(Value.int .i64 n32)]) fun h36 =>
                                            ∀ X37 : List Value → Hp → Prop, (∀ n38 : Int, ∀ n39 : Int, ∀ h40 : Hp, (∀ X41 : List Value → Hp → Prop, (∀ n42 : Int, ∀ h43 : Hp, (∀ J44 : List Value → Hp → Prop, (∀ b45 : Bool, ∀ h46 : Hp, ((if b45 = true then
                                                          (X41 [(Value.int .i64 (IntKind.wrap .i64 (n42 + (1 : Int))))] h46) else
                                                          (∀ X47 : List Value → Hp → Prop, (∀ n48 : Int, ∀ h49 : Hp, (∀ J50 : List Value → Hp → Prop, (∀ b51 : Bool, ∀ h52 : Hp, ((if b51 = true then
                                                            (X47 [(Value.int .i64 (IntKind.wrap .i64 (n48 - (1 : Int))))] h52) else
                                                            ((if (decide (n42 > n48)) = true then
                                                            (nilW g0_data.a fun a53 => ixOk g1_a g0_data.n (∃ n54 : Int, rd h52 (Addr.add a53 (Int.toNat g1_a * 1)) = some (Value.int .i64 n54) ∧
                                                            nilW g0_data.a fun a55 => ixOk n48 g0_data.n (∃ n56 : Int, rd h52 (Addr.add a55 (Int.toNat n48 * 1)) = some (Value.int .i64 n56) ∧
                                                            nilW g0_data.a fun a57 => ixOk n48 g0_data.n (stOk h52 (Addr.add a57 (Int.toNat n48 * 1)) 1 ∧ wth (wrs h52 (Addr.add a57 (Int.toNat n48 * 1)) 0 [(Value.int .i64 n54)]) fun h58 =>
                                                            nilW g0_data.a fun a59 => ixOk g1_a g0_data.n (stOk h58 (Addr.add a59 (Int.toNat g1_a * 1)) 1 ∧ wth (wrs h58 (Addr.add a59 (Int.toNat g1_a * 1)) 0 [(Value.int .i64 n56)]) fun h60 =>
                                                            Q [(Value.int .i64 n48), (Value.bool false)] h60))))) else
                                                            (nilW g0_data.a fun a61 => ixOk n48 g0_data.n (∃ n62 : Int, rd h52 (Addr.add a61 (Int.toNat n48 * 1)) = some (Value.int .i64 n62) ∧
                                                            nilW g0_data.a fun a63 => ixOk n42 g0_data.n (∃ n64 : Int, rd h52 (Addr.add a63 (Int.toNat n42 * 1)) = some (Value.int .i64 n64) ∧
                                                            nilW g0_data.a fun a65 => ixOk n42 g0_data.n (stOk h52 (Addr.add a65 (Int.toNat n42 * 1)) 1 ∧ wth (wrs h52 (Addr.add a65 (Int.toNat n42 * 1)) 0 [(Value.int .i64 n62)]) fun h66 =>
                                                            nilW g0_data.a fun a67 => ixOk n48 g0_data.n (stOk h66 (Addr.add a67 (Int.toNat n48 * 1)) 1 ∧ wth (wrs h66 (Addr.add a67 (Int.toNat n48 * 1)) 0 [(Value.int .i64 n64)]) fun h68 =>
                                                            X37 [(Value.int .i64 (IntKind.wrap .i64 (n42 + (1 : Int)))), (Value.int .i64 (IntKind.wrap .i64 (n48 - (1 : Int))))] h68))))))))) → J50 [(Value.bool b51)] h52) →
                                                            (if (decide (n42 ≤ n48)) = true then (nilW g0_data.a fun a69 => ixOk n48 g0_data.n (∃ n70 : Int, rd h49 (Addr.add a69 (Int.toNat n48 * 1)) = some (Value.int .i64 n70) ∧
                                                            nilW g0_data.a fun a71 => ixOk g1_a g0_data.n (∃ n72 : Int, rd h49 (Addr.add a71 (Int.toNat g1_a * 1)) = some (Value.int .i64 n72) ∧
                                                            S_cmp_Less_int n70 n72 h49 fun (vs73 : List Value) (h74 : Hp) =>
                                                            ∃ b75 : Bool, vs73 = [(Value.bool b75)] ∧
                                                            J50 [(Value.bool (!b75))] h74))) else
                                                            (J50 [(Value.bool false)] h49))) → X47 [(Value.int .i64 n48)] h49) →
                                                            X47 [(Value.int .i64 n39)] h46))) → J44 [(Value.bool b45)] h46) →
                                                    (if (decide (n42 ≤ n39)) = true then (nilW g0_data.a fun a76 => ixOk n42 g0_data.n (∃ n77 : Int, rd h43 (Addr.add a76 (Int.toNat n42 * 1)) = some (Value.int .i64 n77) ∧
                                                          nilW g0_data.a fun a78 => ixOk g1_a g0_data.n (∃ n79 : Int, rd h43 (Addr.add a78 (Int.toNat g1_a * 1)) = some (Value.int .i64 n79) ∧
                                                            S_cmp_Less_int n77 n79 h43 fun (vs80 : List Value) (h81 : Hp) =>
                                                            ∃ b82 : Bool, vs80 = [(Value.bool b82)] ∧
                                                            J44 [(Value.bool b82)] h81))) else
                                                      (J44 [(Value.bool false)] h43))) → X41 [(Value.int .i64 n42)] h43) →
                                                X41 [(Value.int .i64 n38)] h40) → X37 [(Value.int .i64 n38), (Value.int .i64 n39)] h40) →
                                            X37 [(Value.int .i64 (IntKind.wrap .i64 (n10 + (1 : Int)))), (Value.int .i64 (IntKind.wrap .i64 (n16 - (1 : Int))))] h36))))))))) → J18 [(Value.bool b19)] h20) →
                        (if (decide (n10 ≤ n16)) = true then (nilW g0_data.a fun a83 => ixOk n16 g0_data.n (∃ n84 : Int, rd h17 (Addr.add a83 (Int.toNat n16 * 1)) = some (Value.int .i64 n84) ∧
                              nilW g0_data.a fun a85 => ixOk g1_a g0_data.n (∃ n86 : Int, rd h17 (Addr.add a85 (Int.toNat g1_a * 1)) = some (Value.int .i64 n86) ∧
                                S_cmp_Less_int n84 n86 h17 fun (vs87 : List Value) (h88 : Hp) =>
                                ∃ b89 : Bool, vs87 = [(Value.bool b89)] ∧
                                J18 [(Value.bool (!b89))] h88))) else
                          (J18 [(Value.bool false)] h17))) → X15 [(Value.int .i64 n16)] h17) →
                    X15 [(Value.int .i64 (IntKind.wrap .i64 (g2_b - (1 : Int))))] h14))) → J12 [(Value.bool b13)] h14) →
            (if (decide (n10 ≤ (IntKind.wrap .i64 (g2_b - (1 : Int))))) = true then (nilW g0_data.a fun a90 => ixOk n10 g0_data.n (∃ n91 : Int, rd h11 (Addr.add a90 (Int.toNat n10 * 1)) = some (Value.int .i64 n91) ∧
                  nilW g0_data.a fun a92 => ixOk g1_a g0_data.n (∃ n93 : Int, rd h11 (Addr.add a92 (Int.toNat g1_a * 1)) = some (Value.int .i64 n93) ∧
                    S_cmp_Less_int n91 n93 h11 fun (vs94 : List Value) (h95 : Hp) =>
                    ∃ b96 : Bool, vs94 = [(Value.bool b96)] ∧
                    J12 [(Value.bool b96)] h95))) else
              (J12 [(Value.bool false)] h11))) → X9 [(Value.int .i64 n10)] h11) →
        X9 [(Value.int .i64 (IntKind.wrap .i64 (g1_a + (1 : Int))))] h8))))
def A_slices_partitionOrdered_int : Ann := (.mk none ⟨[], []⟩ .nil (.mk none ⟨[], []⟩ .nil (.mk none ⟨[], []⟩ .nil (.mk none ⟨[], []⟩ (.mk none ⟨[], []⟩ (.mk none ⟨[0, 1, 11], [(10, (.c (.int .i64)))]⟩ (.mk none ⟨[], []⟩ (.mk none ⟨[], []⟩ (.mk (some ⟨[0, 1, 10, 11], [(43, (.c .bool))]⟩) ⟨[], []⟩ .nil .nil) .nil) .nil) .nil) .nil) (.mk none ⟨[], []⟩ (.mk none ⟨[], []⟩ (.mk none ⟨[0, 1, 10], [(11, (.c (.int .i64)))]⟩ (.mk none ⟨[], []⟩ (.mk none ⟨[], []⟩ (.mk (some ⟨[0, 1, 10, 11], [(60, (.c .bool))]⟩) ⟨[], []⟩ .nil .nil) .nil) .nil) .nil) .nil) (.mk none ⟨[], []⟩ .nil (.mk none ⟨[], []⟩ .nil (.mk none ⟨[], []⟩ .nil (.mk none ⟨[], []⟩ .nil (.mk none ⟨[], []⟩ (.mk none ⟨[], []⟩ (.mk none ⟨[0, 1], [(10, (.c (.int .i64))), (11, (.c (.int .i64)))]⟩ (.mk none ⟨[], []⟩ (.mk none ⟨[], []⟩ (.mk none ⟨[], []⟩ (.mk none ⟨[0, 1, 11], [(10, (.c (.int .i64)))]⟩ (.mk none ⟨[], []⟩ (.mk none ⟨[], []⟩ (.mk (some ⟨[0, 1, 10, 11], [(112, (.c .bool))]⟩) ⟨[], []⟩ .nil .nil) .nil) .nil) .nil) .nil) (.mk none ⟨[], []⟩ (.mk none ⟨[], []⟩ (.mk none ⟨[0, 1, 10], [(11, (.c (.int .i64)))]⟩ (.mk none ⟨[], []⟩ (.mk none ⟨[], []⟩ (.mk (some ⟨[0, 1, 10, 11], [(129, (.c .bool))]⟩) ⟨[], []⟩ .nil .nil) .nil) .nil) .nil) .nil) .nil)) .nil) .nil) .nil) .nil))))))))))
theorem E_slices_partitionOrdered_int (g0_data : Sl) (g1_a : Int) (g2_b : Int) (g3_pivot : Int) (h : Hp) (Q : List Value → Hp → Prop) : cw PP 168 (fun _ => []) (bodyOf Try.f67) A_slices_partitionOrdered_int (finQ PP (Try.f67.results.toList) Q) (argFr [(Value.slice g0_data.a g0_data.n g0_data.c), (Value.int .i64 g1_a), (Value.int .i64 g2_b), (Value.int .i64 g3_pivot)]) h = F_slices_partitionOrdered_int g0_data g1_a g2_b g3_pivot h Q := by kernel_rfl
theorem O_slices_partitionOrdered_int (g0_data : Sl) (g1_a : Int) (g2_b : Int) (g3_pivot : Int) {h : Hp} {Q : List Value → Hp → Prop} (H : F_slices_partitionOrdered_int g0_data g1_a g2_b g3_pivot h Q) : S_slices_partitionOrdered_int g0_data g1_a g2_b g3_pivot h Q :=
  fn_of_cw (hs := (fun _ => [])) (ann := A_slices_partitionOrdered_int) (args := [(Value.slice g0_data.a g0_data.n g0_data.c), (Value.int .i64 g1_a), (Value.int .i64 g2_b), (Value.int .i64 g3_pivot)]) mixedPP Try.func67 (c := bodyOf Try.f67) (by kernel_rfl) (by kernel_rfl) (by kernel_rfl) (Eq.mpr (E_slices_partitionOrdered_int g0_data g1_a g2_b g3_pivot h Q) H)
def F_slices_pdqsortOrdered_int (g0_data : Sl) (g1_a : Int) (g2_b : Int) (g3_limit : Int) (h : Hp) (Q : List Value → Hp → Prop) : Prop :=
∀ X1 : List Value → Hp → Prop, (∀ n2 : Int, ∀ n3 : Int, ∀ n4 : Int, ∀ b5 : Bool, ∀ b6 : Bool, ∀ h7 : Hp, ((if (decide ((IntKind.wrap .i64 (n3 - n2)) ≤ (12 : Int))) = true then
      (S_slices_insertionSortOrdered_int ⟨g0_data.a, g0_data.n, g0_data.c⟩ n2 n3 h7 fun (vs8 : List Value) (h9 : Hp) =>
        vs8 = [] ∧
        Q [] h9) else
      ((if (n4 == (0 : Int)) = true then
          (S_slices_heapSortOrdered_int ⟨g0_data.a, g0_data.n, g0_data.c⟩ n2 n3 h7 fun (vs10 : List Value) (h11 : Hp) =>
            vs10 = [] ∧
            Q [] h11) else
          (∀ J12 : List Value → Hp → Prop, (∀ n13 : Int, ∀ h14 : Hp, (S_slices_choosePivotOrdered_int ⟨g0_data.a, g0_data.n, g0_data.c⟩ n2 n3 h14 fun (vs15 : List Value) (h16 : Hp) =>
                ∃ n17 : Int, ∃ n18 : Int, vs15 = [(Value.int .i64 n17), (Value.int .i64 n18)] ∧
                ∀ J19 : List Value → Hp → Prop, (∀ n20 : Int, ∀ n21 : Int, ∀ h22 : Hp, (∀ J23 : List Value → Hp → Prop, (∀ b24 : Bool, ∀ h25 : Hp, (∀ J26 : List Value → Hp → Prop, (∀ h27 : Hp, (∀ J28 : List Value → Hp → Prop, (∀ b29 : Bool, ∀ h30 : Hp, ((if b29 = true then
                                  (S_slices_partitionEqualOrdered_int ⟨g0_data.a, g0_data.n, g0_data.c⟩ n2 n3 n20 h30 fun (vs31 : List Value) (h32 : Hp) =>
                                    ∃ n33 : Int, vs31 = [(Value.int .i64 n33)] ∧
                                    X1 [(Value.int .i64 n33), (Value.int .i64 n3), (Value.int .i64 n13), (Value.bool b5), (Value.bool b6)] h32) else
                                  (S_slices_partitionOrdered_int ⟨g0_data.a, g0_data.n, g0_data.c⟩ n2 n3 n20 h30 fun (vs34 : List Value) (h35 : Hp) =>
                                    ∃ n36 : Int, ∃ b37 : Bool, vs34 = [(Value.int .i64 n36), (Value.bool b37)] ∧
                                    divOk (8 : Int) ((if (decide ((IntKind.wrap .i64 (n36 - n2)) < (IntKind.wrap .i64 (n3 - n36)))) = true then
                                        (S_slices_pdqsortOrdered_int ⟨g0_data.a, g0_data.n, g0_data.c⟩ n2 n36 n13 h35 fun (vs38 : List Value) (h39 : Hp) =>
                                          vs38 = [] ∧
                                          X1 [(Value.int .i64 (IntKind.wrap .i64 (n36 + (1 : Int)))), (Value.int .i64 n3), (Value.int .i64 n13), (Value.bool (decide ((IntKind.wrap .i64 (n36 - n2)) ≥ (IntKind.wrap .i64 (Int.tdiv (IntKind.wrap .i64 (n3 - n2)) (8 : Int)))))), (Value.bool b37)] h39) else
                                        (S_slices_pdqsortOrdered_int ⟨g0_data.a, g0_data.n, g0_data.c⟩ (IntKind.wrap .i64 (n36 + (1 : Int))) n3 n13 h35 fun (vs40 : List Value) (h41 : Hp) =>
                                          vs40 = [] ∧
                                          X1 [(Value.int .i64 n2), (Value.int .i64 n36), (Value.int .i64 n13), (Value.bool (decide ((IntKind.wrap .i64 (n3 - n36)) ≥ (IntKind.wrap .i64 (Int.tdiv (IntKind.wrap .i64 (n3 - n2)) (8 : Int)))))), (Value.bool b37)] h41)))))) → J28 [(Value.bool b29)] h30) →
                            (if (decide (n2 > (0 : Int))) = true then (nilW g0_data.a fun a42 => ixOk (IntKind.wrap .i64 (n2 - (1 : Int))) g0_data.n (∃ n43 : Int, rd h27 (Addr.add a42 (Int.toNat (IntKind.wrap .i64 (n2 - (1 : Int))) * 1)) = some (Value.int .i64 n43) ∧
                                  nilW g0_data.a fun a44 => ixOk n20 g0_data.n (∃ n45 : Int, rd h27 (Addr.add a44 (Int.toNat n20 * 1)) = some (Value.int .i64 n45) ∧
                                    S_cmp_Less_int n43 n45 h27 fun (vs46 : List Value) (h47 : Hp) =>
                                    ∃ b48 : Bool, vs46 = [(Value.bool b48)] ∧
                                    J28 [(Value.bool (!b48))] h47))) else
                              (J28 [(Value.bool false)] h27))) → J26 [] h27) →
                        (if b24 = true then
                          (S_slices_partialInsertionSortOrdered_int ⟨g0_data.a, g0_data.n, g0_data.c⟩ n2 n3 h25 fun (vs49 : List Value) (h50 : Hp) =>
                            ∃ b51 : Bool, vs49 = [(Value.bool b51)] ∧
                            (if b51 = true then
                              (Q [] h50) else
                              (J26 [] h50))) else
                          (J26 [] h25))) → J23 [(Value.bool b24)] h25) →
                    (if b5 = true then ((if b6 = true then (J23 [(Value.bool (n21 == (1 : Int)))] h22) else
                          (J23 [(Value.bool false)] h22))) else
                      (J23 [(Value.bool false)] h22))) → J19 [(Value.int .i64 n20), (Value.int .i64 n21)] h22) →
                (if (n18 == (2 : Int)) = true then
                  (S_slices_reverseRangeOrdered_int ⟨g0_data.a, g0_data.n, g0_data.c⟩ n2 n3 h16 fun (vs52 : List Value) (h53 : Hp) =>
                    vs52 = [] ∧
                    J19 [(Value.int .i64 (IntKind.wrap .i64 ((IntKind.wrap .i64 (n3 - (1 : Int))) - (IntKind.wrap .i64 (n17 - n2))))), (Value.int .i64 (1 : Int))] h53) else
                  (J19 [(Value.int .i64 n17), (Value.int .i64 n18)] h16))) → J12 [(Value.int .i64 n13)] h14) →
            (if (!b5) = true then
              (S_slices_breakPatternsOrdered_int ⟨g0_data.a, g0_data.n, g0_data.c⟩ n2 n3 h7 fun (vs54 : List Value) (h55 : Hp) =>
                vs54 = [] ∧
                J12 [(Value.int .i64 (IntKind.wrap .i64 (n4 - (1 : Int))))] h55) else
              (J12 [(Value.int .i64 n4)] h7))))))) → X1 [(Value.int .i64 n2), (Value.int .i64 n3), (Value.int .i64 n4), (Value.bool b5), (Value.bool b6)] h7) →
X1 [(Value.int .i64 g1_a), (Value.int .i64 g2_b), (Value.int .i64 g3_limit), (Value.bool true), (Value.bool true)] h
def A_slices_pdqsortOrdered_int : Ann := (.mk none ⟨[], []⟩ .nil (.mk none ⟨[], []⟩ .nil (.mk none ⟨[], []⟩ (.mk none ⟨[0], [(1, (.c (.int .i64))), (2, (.c (.int .i64))), (3, (.c (.int .i64))), (8, (.c .bool)), (9, (.c .bool))]⟩ (.mk none ⟨[], []⟩ (.mk none ⟨[], []⟩ .nil (.mk none ⟨[], []⟩ .nil (.mk none ⟨[], []⟩ .nil (.mk none ⟨[], []⟩ (.mk none ⟨[], []⟩ .nil (.mk (some ⟨[0, 1, 2, 8, 9, 10], [(3, (.c (.int .i64)))]⟩) ⟨[], []⟩ .nil .nil)) (.mk none ⟨[], []⟩ .nil (.mk none ⟨[], []⟩ (.mk none ⟨[], []⟩ .nil (.mk (some ⟨[0, 1, 2, 3, 8, 9, 10], [(11, (.c (.int .i64))), (12, (.c (.int .i64)))]⟩) ⟨[], []⟩ .nil .nil)) (.mk none ⟨[], []⟩ (.mk none ⟨[], []⟩ (.mk (some ⟨[0, 1, 2, 3, 8, 9, 10, 11], [(68, (.c .bool))]⟩) ⟨[], []⟩ .nil .nil) (.mk (some ⟨[0, 1, 2, 3, 8, 9, 10, 11], []⟩) ⟨[], []⟩ .nil .nil)) (.mk none ⟨[], []⟩ (.mk none ⟨[], []⟩ (.mk (some ⟨[0, 1, 2, 3, 8, 9, 10, 11], [(87, (.c .bool))]⟩) ⟨[], []⟩ .nil .nil) .nil) .nil)))))))) .nil) .nil) .nil)))
theorem E_slices_pdqsortOrdered_int (g0_data : Sl) (g1_a : Int) (g2_b : Int) (g3_limit : Int) (h : Hp) (Q : List Value → Hp → Prop) : cw PP 134 (fun _ => []) (bodyOf Try.f56) A_slices_pdqsortOrdered_int (finQ PP (Try.f56.results.toList) Q) (argFr [(Value.slice g0_data.a g0_data.n g0_data.c), (Value.int .i64 g1_a), (Value.int .i64 g2_b), (Value.int .i64 g3_limit)]) h = F_slices_pdqsortOrdered_int g0_data g1_a g2_b g3_limit h Q := by kernel_rfl
theorem O_slices_pdqsortOrdered_int (g0_data : Sl) (g1_a : Int) (g2_b : Int) (g3_limit : Int) {h : Hp} {Q : List Value → Hp → Prop} (H : F_slices_pdqsortOrdered_int g0_data g1_a g2_b g3_limit h Q) : S_slices_pdqsortOrdered_int g0_data g1_a g2_b g3_limit h Q :=
  fn_of_cw (hs := (fun _ => [])) (ann := A_slices_pdqsortOrdered_int) (args := [(Value.slice g0_data.a g0_data.n g0_data.c), (Value.int .i64 g1_a), (Value.int .i64 g2_b), (Value.int .i64 g3_limit)]) mixedPP Try.func56 (c := bodyOf Try.f56) (by kernel_rfl) (by kernel_rfl) (by kernel_rfl) (Eq.mpr (E_slices_pdqsortOrdered_int g0_data g1_a g2_b g3_limit h Q) H)
def F_slices_Sort_sint_int (g0_x : Sl) (h : Hp) (Q : List Value → Hp → Prop) : Prop :=
S_math_bits_Len (IntKind.wrap .u64 (g0_x.n : Int)) h fun (vs1 : List Value) (h2 : Hp) =>
∃ n3 : Int, vs1 = [(Value.int .i64 n3)] ∧
S_slices_pdqsortOrdered_int ⟨g0_x.a, g0_x.n, g0_x.c⟩ (0 : Int) (g0_x.n : Int) n3 h2 fun (vs4 : List Value) (h5 : Hp) =>
vs4 = [] ∧
Q [] h5
def A_slices_Sort_sint_int : Ann := .nil
theorem E_slices_Sort_sint_int (g0_x : Sl) (h : Hp) (Q : List Value → Hp → Prop) : cw PP 11 (fun _ => []) (bodyOf Try.f50) A_slices_Sort_sint_int (finQ PP (Try.f50.results.toList) Q) (argFr [(Value.slice g0_x.a g0_x.n g0_x.c)]) h = F_slices_Sort_sint_int g0_x h Q := by kernel_rfl
theorem O_slices_Sort_sint_int (g0_x : Sl) {h : Hp} {Q : List Value → Hp → Prop} (H : F_slices_Sort_sint_int g0_x h Q) : S_slices_Sort_sint_int g0_x h Q :=
  fn_of_cw (hs := (fun _ => [])) (ann := A_slices_Sort_sint_int) (args := [(Value.slice g0_x.a g0_x.n g0_x.c)]) mixedPP Try.func50 (c := bodyOf Try.f50) (by kernel_rfl) (by kernel_rfl) (by kernel_rfl) (Eq.mpr (E_slices_Sort_sint_int g0_x h Q) H)
def F_slices_Sorted_int (g0_seq_f : Nat) (g0_seq_c : Array Value) (h : Hp) (Q : List Value → Hp → Prop) : Prop :=
S_slices_Collect_int g0_seq_f g0_seq_c h fun (vs1 : List Value) (h2 : Hp) =>
∃ l3 : Sl, vs1 = [(Value.slice l3.a l3.n l3.c)] ∧
S_slices_Sort_sint_int ⟨l3.a, l3.n, l3.c⟩ h2 fun (vs4 : List Value) (h5 : Hp) =>
vs4 = [] ∧
Q [(Value.slice l3.a l3.n l3.c)] h5
def A_slices_Sorted_int : Ann := .nil
theorem E_slices_Sorted_int (g0_seq_f : Nat) (g0_seq_c : Array Value) (h : Hp) (Q : List Value → Hp → Prop) : cw PP 9 (fun _ => []) (bodyOf Try.f40) A_slices_Sorted_int (finQ PP (Try.f40.results.toList) Q) (argFr [(Value.func (.func g0_seq_f) #[] g0_seq_c)]) h = F_slices_Sorted_int g0_seq_f g0_seq_c h Q := by kernel_rfl
theorem O_slices_Sorted_int (g0_seq_f : Nat) (g0_seq_c : Array Value) {h : Hp} {Q : List Value → Hp → Prop} (H : F_slices_Sorted_int g0_seq_f g0_seq_c h Q) : S_slices_Sorted_int g0_seq_f g0_seq_c h Q :=
  fn_of_cw (hs := (fun _ => [])) (ann := A_slices_Sorted_int) (args := [(Value.func (.func g0_seq_f) #[] g0_seq_c)]) mixedPP Try.func40 (c := bodyOf Try.f40) (by kernel_rfl) (by kernel_rfl) (by kernel_rfl) (Eq.mpr (E_slices_Sorted_int g0_seq_f g0_seq_c h Q) H)
def F_maps_Keys_map_int_api_Tuple_int_api_Tuple (g0_m : Option Nat) (h : Hp) (Q : List Value → Hp → Prop) : Prop :=
wth (Array.push h (Obj.cells #[(Value.map g0_m)] T_map_int_api_Tuple)) fun h1 =>
Q [(Value.func (.func 51) #[] #[(Value.pointer (some (Addr.mk (Array.size h) 0 none)))])] h1
def A_maps_Keys_map_int_api_Tuple_int_api_Tuple : Ann := .nil
theorem E_maps_Keys_map_int_api_Tuple_int_api_Tuple (g0_m : Option Nat) (h : Hp) (Q : List Value → Hp → Prop) : cw PP 4 (fun _ => []) (bodyOf Try.f41) A_maps_Keys_map_int_api_Tuple_int_api_Tuple (finQ PP (Try.f41.results.toList) Q) (argFr [(Value.map g0_m)]) h = F_maps_Keys_map_int_api_Tuple_int_api_Tuple g0_m h Q := by kernel_rfl
theorem O_maps_Keys_map_int_api_Tuple_int_api_Tuple (g0_m : Option Nat) {h : Hp} {Q : List Value → Hp → Prop} (H : F_maps_Keys_map_int_api_Tuple_int_api_Tuple g0_m h Q) : S_maps_Keys_map_int_api_Tuple_int_api_Tuple g0_m h Q :=
  fn_of_cw (hs := (fun _ => [])) (ann := A_maps_Keys_map_int_api_Tuple_int_api_Tuple) (args := [(Value.map g0_m)]) mixedPP Try.func41 (c := bodyOf Try.f41) (by kernel_rfl) (by kernel_rfl) (by kernel_rfl) (Eq.mpr (E_maps_Keys_map_int_api_Tuple_int_api_Tuple g0_m h Q) H)
def F_heap_Rel_All (g0_r : Option Addr) (h : Hp) (Q : List Value → Hp → Prop) : Prop :=
(if (Option.isNone g0_r) = true then
  (Q [(Value.slice none 0 0)] h) else
  (nilW g0_r fun a1 => ∃ r2 : Option Nat, rd h (Addr.add a1 0) = some (Value.map r2) ∧
    S_maps_Keys_map_int_api_Tuple_int_api_Tuple r2 h fun (vs3 : List Value) (h4 : Hp) =>
    ∃ f5 : Nat, ∃ cs6 : Array Value, vs3 = [(Value.func (.func f5) #[] cs6)] ∧
    S_slices_Sorted_int f5 cs6 h4 fun (vs7 : List Value) (h8 : Hp) =>
    ∃ l9 : Sl, vs7 = [(Value.slice l9.a l9.n l9.c)] ∧
    Q [(Value.slice l9.a l9.n l9.c)] h8))
def A_heap_Rel_All : Ann := .nil
theorem E_heap_Rel_All (g0_r : Option Addr) (h : Hp) (Q : List Value → Hp → Prop) : cw PP 11 (fun _ => []) (bodyOf Try.f24) A_heap_Rel_All (finQ PP (Try.f24.results.toList) Q) (argFr [(Value.pointer g0_r)]) h = F_heap_Rel_All g0_r h Q := by kernel_rfl
theorem O_heap_Rel_All (g0_r : Option Addr) {h : Hp} {Q : List Value → Hp → Prop} (H : F_heap_Rel_All g0_r h Q) : S_heap_Rel_All g0_r h Q :=
  fn_of_cw (hs := (fun _ => [])) (ann := A_heap_Rel_All) (args := [(Value.pointer g0_r)]) mixedPP Try.func24 (c := bodyOf Try.f24) (by kernel_rfl) (by kernel_rfl) (by kernel_rfl) (Eq.mpr (E_heap_Rel_All g0_r h Q) H)
def F_slices_IndexFunc_sint_int (g0_s : Sl) (g1_f_f : Nat) (g1_f_c : Array Value) (h : Hp) (Q : List Value → Hp → Prop) : Prop :=
∀ X1 : List Value → Hp → Prop, (∀ n2 : Int, ∀ h3 : Hp, ((if (decide (n2 < (g0_s.n : Int))) = true then
      (nilW g0_s.a fun a4 => ixOk n2 g0_s.n (∃ n5 : Int, rd h3 (Addr.add a4 (Int.toNat n2 * 1)) = some (Value.int .i64 n5) ∧
          Fn PP g1_f_f ((#[] ++ #[(Value.int .i64 n5)]) ++ g1_f_c) h3 fun (vs6 : List Value) (h7 : Hp) =>
          ∃ b8 : Bool, vs6 = [(Value.bool b8)] ∧
          (if b8 = true then
            (Q [(Value.int .i64 n2)] h7) else
            (X1 [(Value.int .i64 (IntKind.wrap .i64 (n2 + (1 : Int))))] h7)))) else
      (Q [(Value.int .i64 (-1 : Int))] h3))) → X1 [(Value.int .i64 n2)] h3) →
X1 [(Value.int .i64 (0 : Int))] h
def A_slices_IndexFunc_sint_int : Ann := (.mk none ⟨[], []⟩ .nil (.mk none ⟨[], []⟩ (.mk none ⟨[], []⟩ .nil (.mk none ⟨[], []⟩ (.mk none ⟨[0, 1, 7], [(8, (.c (.int .i64)))]⟩ .nil .nil) .nil)) .nil))
theorem E_slices_IndexFunc_sint_int (g0_s : Sl) (g1_f_f : Nat) (g1_f_c : Array Value) (h : Hp) (Q : List Value → Hp → Prop) : cw PP 19 (fun _ => []) (bodyOf Try.f46) A_slices_IndexFunc_sint_int (finQ PP (Try.f46.results.toList) Q) (argFr [(Value.slice g0_s.a g0_s.n g0_s.c), (Value.func (.func g1_f_f) #[] g1_f_c)]) h = F_slices_IndexFunc_sint_int g0_s g1_f_f g1_f_c h Q := by kernel_rfl
theorem O_slices_IndexFunc_sint_int (g0_s : Sl) (g1_f_f : Nat) (g1_f_c : Array Value) {h : Hp} {Q : List Value → Hp → Prop} (H : F_slices_IndexFunc_sint_int g0_s g1_f_f g1_f_c h Q) : S_slices_IndexFunc_sint_int g0_s g1_f_f g1_f_c h Q :=
  fn_of_cw (hs := (fun _ => [])) (ann := A_slices_IndexFunc_sint_int) (args := [(Value.slice g0_s.a g0_s.n g0_s.c), (Value.func (.func g1_f_f) #[] g1_f_c)]) mixedPP Try.func46 (c := bodyOf Try.f46) (by kernel_rfl) (by kernel_rfl) (by kernel_rfl) (Eq.mpr (E_slices_IndexFunc_sint_int g0_s g1_f_f g1_f_c h Q) H)
def F_slices_DeleteFunc_sint_int (g0_s : Sl) (g1_del_f : Nat) (g1_del_c : Array Value) (h : Hp) (Q : List Value → Hp → Prop) : Prop :=
S_slices_IndexFunc_sint_int ⟨g0_s.a, g0_s.n, g0_s.c⟩ g1_del_f g1_del_c h fun (vs1 : List Value) (h2 : Hp) =>
∃ n3 : Int, vs1 = [(Value.int .i64 n3)] ∧
(if (n3 == (-1 : Int)) = true then
  (Q [(Value.slice g0_s.a g0_s.n g0_s.c)] h2) else
  (∀ X4 : List Value → Hp → Prop, (∀ n5 : Int, ∀ n6 : Int, ∀ h7 : Hp, ((if (decide (n6 < (g0_s.n : Int))) = true then
          (∀ J8 : List Value → Hp → Prop, (∀ n9 : Int, ∀ h10 : Hp, (X4 [(Value.int .i64 n9), (Value.int .i64 (IntKind.wrap .i64 (n6 + (1 : Int))))] h10) → J8 [(Value.int .i64 n9)] h10) →
            nilW g0_s.a fun a11 => ixOk n6 g0_s.n (∃ n12 : Int, rd h7 (Addr.add a11 (Int.toNat n6 * 1)) = some (Value.int .i64 n12) ∧
              Fn PP g1_del_f ((#[] ++ #[(Value.int .i64 n12)]) ++ g1_del_c) h7 fun (vs13 : List Value) (h14 : Hp) =>
              ∃ b15 : Bool, vs13 = [(Value.bool b15)] ∧
              (if (!b15) = true then
                (nilW g0_s.a fun a16 => ixOk n5 g0_s.n (stOk h14 (Addr.add a16 (Int.toNat n5 * 1)) 1 ∧ wth (wrs h14 (Addr.add a16 (Int.toNat n5 * 1)) 0 [(Value.int .i64 n12)]) fun h17 =>
                    J8 [(Value.int .i64 (IntKind.wrap .i64 (n5 + (1 : Int))))] h17)) else
                (J8 [(Value.int .i64 n5)] h14)))) else
          ((0 ≤ n5 ∧ n5 ≤ (g0_s.n : Nat)) ∧ (List.all (Array.toList (zc PP T_int)) oneCell = true ∧ ∀ a : Addr, (slAd g0_s.a (Int.toNat n5) g0_s.c 1) = some a → stOk h7 a ((g0_s.n - (Int.toNat n5)) * Array.size (zc PP T_int))) ∧ wth (cpHp h7 (if (g0_s.n - (Int.toNat n5)) = 0 then none else (slAd g0_s.a (Int.toNat n5) g0_s.c 1)) (Array.toList (Builtin.zeroCells (zc PP T_int) (g0_s.n - (Int.toNat n5))))) fun h18 =>
            (0 ≤ n5 ∧ n5 ≤ (g0_s.c : Nat)) ∧ Q [(Value.slice (slAd g0_s.a 0 g0_s.c 1) ((Int.toNat n5) - 0) (g0_s.c - 0))] h18))) → X4 [(Value.int .i64 n5), (Value.int .i64 n6)] h7) →
    X4 [(Value.int .i64 n3), (Value.int .i64 (IntKind.wrap .i64 (n3 + (1 : Int))))] h2))
def A_slices_DeleteFunc_sint_int : Ann := (.mk none ⟨[], []⟩ .nil (.mk none ⟨[], []⟩ .nil (.mk none ⟨[], []⟩ .nil (.mk none ⟨[], []⟩ (.mk none ⟨[], []⟩ .nil (.mk none ⟨[], []⟩ (.mk none ⟨[0, 1], [(5, (.c (.int .i64))), (6, (.c (.int .i64)))]⟩ (.mk none ⟨[], []⟩ .nil (.mk none ⟨[], []⟩ (.mk (some ⟨[0, 1, 6], [(5, (.c (.int .i64)))]⟩) ⟨[], []⟩ .nil .nil) .nil)) .nil) .nil)) .nil))))
theorem E_slices_DeleteFunc_sint_int (g0_s : Sl) (g1_del_f : Nat) (g1_del_c : Array Value) (h : Hp) (Q : List Value → Hp → Prop) : cw PP 42 (fun _ => []) (bodyOf Try.f37) A_slices_DeleteFunc_sint_int (finQ PP (Try.f37.results.toList) Q) (argFr [(Value.slice g0_s.a g0_s.n g0_s.c), (Value.func (.func g1_del_f) #[] g1_del_c)]) h = F_slices_DeleteFunc_sint_int g0_s g1_del_f g1_del_c h Q := by kernel_rfl
theorem O_slices_DeleteFunc_sint_int (g0_s : Sl) (g1_del_f : Nat) (g1_del_c : Array Value) {h : Hp} {Q : List Value → Hp → Prop} (H : F_slices_DeleteFunc_sint_int g0_s g1_del_f g1_del_c h Q) : S_slices_DeleteFunc_sint_int g0_s g1_del_f g1_del_c h Q :=
  fn_of_cw (hs := (fun _ => [])) (ann := A_slices_DeleteFunc_sint_int) (args := [(Value.slice g0_s.a g0_s.n g0_s.c), (Value.func (.func g1_del_f) #[] g1_del_c)]) mixedPP Try.func37 (c := bodyOf Try.f37) (by kernel_rfl) (by kernel_rfl) (by kernel_rfl) (Eq.mpr (E_slices_DeleteFunc_sint_int g0_s g1_del_f g1_del_c h Q) H)
def F_heap_Rel_Visible (g0_r : Option Addr) (g1_l : Option Addr) (g2_xid : Int) (h : Hp) (Q : List Value → Hp → Prop) : Prop :=
wth (Array.push h (Obj.cells #[(Value.pointer g0_r)] T_pheap_Rel)) fun h1 =>
wth (Array.push h1 (Obj.cells #[(Value.pointer g1_l)] T_pclog_Log)) fun h2 =>
wth (Array.push h2 (Obj.cells #[(Value.int .i64 g2_xid)] T_int)) fun h3 =>
∃ p4 : Option Addr, rd h3 (Addr.mk (Array.size h) 0 none) = some (Value.pointer p4) ∧
S_heap_Rel_All p4 h3 fun (vs5 : List Value) (h6 : Hp) =>
∃ l7 : Sl, vs5 = [(Value.slice l7.a l7.n l7.c)] ∧
S_slices_DeleteFunc_sint_int ⟨l7.a, l7.n, l7.c⟩ 38 #[(Value.pointer (some (Addr.mk (Array.size h) 0 none))), (Value.pointer (some (Addr.mk (Array.size h1) 0 none))), (Value.pointer (some (Addr.mk (Array.size h2) 0 none)))] h6 fun (vs8 : List Value) (h9 : Hp) =>
∃ l10 : Sl, vs8 = [(Value.slice l10.a l10.n l10.c)] ∧
Q [(Value.slice l10.a l10.n l10.c)] h9
def A_heap_Rel_Visible : Ann := .nil
theorem E_heap_Rel_Visible (g0_r : Option Addr) (g1_l : Option Addr) (g2_xid : Int) (h : Hp) (Q : List Value → Hp → Prop) : cw PP 11 (fun _ => []) (bodyOf Try.f21) A_heap_Rel_Visible (finQ PP (Try.f21.results.toList) Q) (argFr [(Value.pointer g0_r), (Value.pointer g1_l), (Value.int .i64 g2_xid)]) h = F_heap_Rel_Visible g0_r g1_l g2_xid h Q := by kernel_rfl
theorem O_heap_Rel_Visible (g0_r : Option Addr) (g1_l : Option Addr) (g2_xid : Int) {h : Hp} {Q : List Value → Hp → Prop} (H : F_heap_Rel_Visible g0_r g1_l g2_xid h Q) : S_heap_Rel_Visible g0_r g1_l g2_xid h Q :=
  fn_of_cw (hs := (fun _ => [])) (ann := A_heap_Rel_Visible) (args := [(Value.pointer g0_r), (Value.pointer g1_l), (Value.int .i64 g2_xid)]) mixedPP Try.func21 (c := bodyOf Try.f21) (by kernel_rfl) (by kernel_rfl) (by kernel_rfl) (Eq.mpr (E_heap_Rel_Visible g0_r g1_l g2_xid h Q) H)
def F_liverylaw09_HeapAborts (g0_n : Int) (g1_ends : Sl) (h : Hp) (Q : List Value → Hp → Prop) : Prop :=
S_clog_New  h fun (vs1 : List Value) (h2 : Hp) =>
∃ p3 : Option Addr, vs1 = [(Value.pointer p3)] ∧
S_heap_New  h2 fun (vs4 : List Value) (h5 : Hp) =>
∃ p6 : Option Addr, vs4 = [(Value.pointer p6)] ∧
∀ J7 : List Value → Hp → Prop, (∀ b8 : Bool, ∀ h9 : Hp, ((if b8 = true then
      (∀ J10 : List Value → Hp → Prop, (∀ b11 : Bool, ∀ h12 : Hp, (Q [(Value.bool b11)] h12) → J10 [(Value.bool b11)] h12) →
        (if (!(Option.isNone p3)) = true then ((if (!(Option.isNone p6)) = true then (S_liverylaw09_wakes  h9 fun (vs13 : List Value) (h14 : Hp) =>
                ∃ b15 : Bool, vs13 = [(Value.bool b15)] ∧
                J10 [(Value.bool b15)] h14) else
              (J10 [(Value.bool false)] h9))) else
          (J10 [(Value.bool false)] h9))) else
      (S_clog_Log_Begin p3 false h9 fun (vs16 : List Value) (h17 : Hp) =>
        ∃ n18 : Int, ∃ n19 : Int, vs16 = [(Value.int .i64 n18), (Value.int .i64 n19)] ∧
        divOk (30 : Int) (∀ X20 : List Value → Hp → Prop, (∀ n21 : Int, ∀ h22 : Hp, ((if (decide (n21 < (Int.tmod (IntKind.wrap .i64 g0_n) (30 : Int)))) = true then
                (S_liverylaw09_one n21 h22 fun (vs23 : List Value) (h24 : Hp) =>
                  ∃ l25 : Sl, vs23 = [(Value.slice l25.a l25.n l25.c)] ∧
                  S_heap_Rel_Insert p6 (1 : Int) ⟨l25.a, l25.n, l25.c⟩ h24 fun (vs26 : List Value) (h27 : Hp) =>
                  ∃ n28 : Int, ∃ n29 : Int, vs26 = [(Value.int .i64 n28), (Value.int .i64 n29)] ∧
                  (if (n29 != (0 : Int)) = true then
                    (Q [(Value.bool false)] h27) else
                    (X20 [(Value.int .i64 (IntKind.wrap .i64 (n21 + (1 : Int))))] h27))) else
                (S_clog_Log_Commit p3 (1 : Int) h22 fun (vs30 : List Value) (h31 : Hp) =>
                  ∃ n32 : Int, ∃ n33 : Int, vs30 = [(Value.int .i64 n32), (Value.int .i64 n33)] ∧
                  S_clog_Log_Begin p3 false h31 fun (vs34 : List Value) (h35 : Hp) =>
                  ∃ n36 : Int, ∃ n37 : Int, vs34 = [(Value.int .i64 n36), (Value.int .i64 n37)] ∧
                  S_clog_Log_Begin p3 false h35 fun (vs38 : List Value) (h39 : Hp) =>
                  ∃ n40 : Int, ∃ n41 : Int, vs38 = [(Value.int .i64 n40), (Value.int .i64 n41)] ∧
                  ∀ X42 : List Value → Hp → Prop, (∀ n43 : Int, ∀ h44 : Hp, ((if (decide (n43 < (g1_ends.n : Int))) = true then
                        (nilW g1_ends.a fun a45 => ixOk n43 g1_ends.n (∃ n46 : Int, rd h44 (Addr.add a45 (Int.toNat n43 * 1)) = some (Value.int .u8 n46) ∧
                            divOk (2 : Int) (∀ J47 : List Value → Hp → Prop, (∀ h48 : Hp, (S_heap_Rel_Visible p6 p3 (3 : Int) h48 fun (vs49 : List Value) (h50 : Hp) =>
                                  ∃ l51 : Sl, vs49 = [(Value.slice l51.a l51.n l51.c)] ∧
                                  (if ((l51.n : Int) != (Int.tmod (IntKind.wrap .i64 g0_n) (30 : Int))) = true then
                                    (Q [(Value.bool false)] h50) else
                                    (X42 [(Value.int .i64 (IntKind.wrap .i64 (n43 + (1 : Int))))] h50))) → J47 [] h48) →
                              (if ((Int.tmod n46 (2 : Int)) == (0 : Int)) = true then
                                (nilW g1_ends.a fun a52 => ixOk n43 g1_ends.n (∃ n53 : Int, rd h44 (Addr.add a52 (Int.toNat n43 * 1)) = some (Value.int .u8 n53) ∧
                                    S_liverylaw09_one (IntKind.wrap .i64 n53) h44 fun (vs54 : List Value) (h55 : Hp) =>
                                    ∃ l56 : Sl, vs54 = [(Value.slice l56.a l56.n l56.c)] ∧
                                    S_heap_Rel_Insert p6 (2 : Int) ⟨l56.a, l56.n, l56.c⟩ h55 fun (vs57 : List Value) (h58 : Hp) =>
                                    ∃ n59 : Int, ∃ n60 : Int, vs57 = [(Value.int .i64 n59), (Value.int .i64 n60)] ∧
                                    J47 [] h58)) else
                                (nilW g1_ends.a fun a61 => ixOk n43 g1_ends.n (∃ n62 : Int, rd h44 (Addr.add a61 (Int.toNat n43 * 1)) = some (Value.int .u8 n62) ∧
                                    S_heap_Rel_May p6 p3 (2 : Int) (IntKind.wrap .i64 n62) h44 fun (vs63 : List Value) (h64 : Hp) =>
                                    ∃ n65 : Int, ∃ n66 : Int, vs63 = [(Value.int .i64 n65), (Value.int .i64 n66)] ∧
                                    (if (n65 == (0 : Int)) = true then
                                      (nilW g1_ends.a fun a67 => ixOk n43 g1_ends.n (∃ n68 : Int, rd h64 (Addr.add a67 (Int.toNat n43 * 1)) = some (Value.int .u8 n68) ∧
                                          S_heap_Rel_Delete p6 (2 : Int) (IntKind.wrap .i64 n68) h64 fun (vs69 : List Value) (h70 : Hp) =>
                                          ∃ n71 : Int, vs69 = [(Value.int .i64 n71)] ∧
                                          J47 [] h70)) else
                                      (J47 [] h64)))))))) else
                        (S_clog_Log_Abort p3 (2 : Int) h44 fun (vs72 : List Value) (h73 : Hp) =>
                          ∃ n74 : Int, vs72 = [(Value.int .i64 n74)] ∧
                          (if (n74 != (0 : Int)) = true then
                            (Q [(Value.bool false)] h73) else
                            (S_clog_Log_Begin p3 true h73 fun (vs75 : List Value) (h76 : Hp) =>
                              ∃ n77 : Int, ∃ n78 : Int, vs75 = [(Value.int .i64 n77), (Value.int .i64 n78)] ∧
                              S_heap_Rel_Visible p6 p3 (3 : Int) h76 fun (vs79 : List Value) (h80 : Hp) =>
                              ∃ l81 : Sl, vs79 = [(Value.slice l81.a l81.n l81.c)] ∧
                              S_heap_Rel_Visible p6 p3 (4 : Int) h80 fun (vs82 : List Value) (h83 : Hp) =>
                              ∃ l84 : Sl, vs82 = [(Value.slice l84.a l84.n l84.c)] ∧
                              ∀ X85 : List Value → Hp → Prop, (∀ n86 : Int, ∀ h87 : Hp, ((if (decide (n86 < (l81.n : Int))) = true then
                                    (∀ J88 : List Value → Hp → Prop, (∀ b89 : Bool, ∀ h90 : Hp, ((if b89 = true then
                                            (Q [(Value.bool false)] h90) else
                                            (X85 [(Value.int .i64 (IntKind.wrap .i64 (n86 + (1 : Int))))] h90))) → J88 [(Value.bool b89)] h90) →
                                      nilW l81.a fun a91 => ixOk n86 l81.n (∃ n92 : Int, rd h87 (Addr.add a91 (Int.toNat n86 * 1)) = some (Value.int .i64 n92) ∧
                                        (if (n92 != n86) = true then (J88 [(Value.bool true)] h87) else
                                          (S_heap_Rel_Unseen p6 p3 (3 : Int) n86 h87 fun (vs93 : List Value) (h94 : Hp) =>
                                            ∃ l95 : Sl, vs93 = [(Value.slice l95.a l95.n l95.c)] ∧
                                            J88 [(Value.bool ((l95.n : Int) != (0 : Int)))] h94)))) else
                                    ((if ((l81.n : Int) == (Int.tmod (IntKind.wrap .i64 g0_n) (30 : Int))) = true then (S_liverykeep_Ints ⟨l81.a, l81.n, l81.c⟩ ⟨l84.a, l84.n, l84.c⟩ h87 fun (vs96 : List Value) (h97 : Hp) =>
                                          ∃ b98 : Bool, vs96 = [(Value.bool b98)] ∧
                                          (if b98 = true then (S_liverylaw09_wakes  h97 fun (vs99 : List Value) (h100 : Hp) =>
                                              ∃ b101 : Bool, vs99 = [(Value.bool b101)] ∧
                                              Q [(Value.bool b101)] h100) else
                                            (Q [(Value.bool false)] h97))) else
                                        (Q [(Value.bool false)] h87))))) → X85 [(Value.int .i64 n86)] h87) →
                              X85 [(Value.int .i64 (0 : Int))] h83))))) → X42 [(Value.int .i64 n43)] h44) →
                  X42 [(Value.int .i64 (0 : Int))] h39))) → X20 [(Value.int .i64 n21)] h22) →
          X20 [(Value.int .i64 (0 : Int))] h17)))) → J7 [(Value.bool b8)] h9) →
(if (Option.isNone p3) = true then (J7 [(Value.bool true)] h5) else
  ((if (Option.isNone p6) = true then (J7 [(Value.bool true)] h5) else
      (J7 [(Value.bool (decide ((g1_ends.n : Int) > (60 : Int))))] h5))))
def A_liverylaw09_HeapAborts : Ann := (.mk none ⟨[], []⟩ .nil (.mk none ⟨[], []⟩ .nil (.mk none ⟨[], []⟩ (.mk none ⟨[], []⟩ (.mk (some ⟨[0, 1, 5, 6], [(30, (.c .bool))]⟩) ⟨[], []⟩ .nil .nil) (.mk none ⟨[], []⟩ (.mk none ⟨[], []⟩ (.mk (some ⟨[], [(4, (.c .bool))]⟩) ⟨[], []⟩ .nil .nil) .nil) .nil)) (.mk none ⟨[], []⟩ .nil (.mk none ⟨[], []⟩ .nil (.mk none ⟨[], []⟩ (.mk none ⟨[], []⟩ .nil (.mk none ⟨[], []⟩ (.mk none ⟨[1, 5, 6, 7], [(8, (.c (.int .i64)))]⟩ .nil .nil) .nil)) (.mk none ⟨[], []⟩ .nil (.mk none ⟨[], []⟩ .nil (.mk none ⟨[], []⟩ .nil (.mk none ⟨[], []⟩ (.mk none ⟨[], []⟩ .nil (.mk none ⟨[], []⟩ (.mk none ⟨[1, 5, 6, 7], [(11, (.c (.int .i64)))]⟩ (.mk none ⟨[], []⟩ .nil (.mk none ⟨[], []⟩ (.mk none ⟨[], []⟩ (.mk none ⟨[], []⟩ (.mk none ⟨[], []⟩ .nil (.mk (some ⟨[1, 5, 6, 7, 11], []⟩) ⟨[], []⟩ .nil .nil)) .nil) .nil) .nil)) .nil) .nil)) (.mk none ⟨[], []⟩ .nil (.mk none ⟨[], []⟩ .nil (.mk none ⟨[], []⟩ .nil (.mk none ⟨[], []⟩ (.mk none ⟨[], []⟩ .nil (.mk none ⟨[], []⟩ (.mk none ⟨[5, 6, 7, 15, 16], [(17, (.c (.int .i64)))]⟩ (.mk none ⟨[], []⟩ .nil (.mk none ⟨[], []⟩ (.mk none ⟨[], []⟩ (.mk none ⟨[], []⟩ (.mk (some ⟨[5, 6, 7, 15, 16, 17], [(142, (.c .bool))]⟩) ⟨[], []⟩ .nil .nil) .nil) .nil) .nil)) .nil) .nil)) .nil))))))))))))))
theorem E_liverylaw09_HeapAborts (g0_n : Int) (g1_ends : Sl) (h : Hp) (Q : List Value → Hp → Prop) : cw PP 155 (fun _ => []) (bodyOf Try.f4) A_liverylaw09_HeapAborts (finQ PP (Try.f4.results.toList) Q) (argFr [(Value.int .u8 g0_n), (Value.slice g1_ends.a g1_ends.n g1_ends.c)]) h = F_liverylaw09_HeapAborts g0_n g1_ends h Q := by kernel_rfl
theorem O_liverylaw09_HeapAborts (g0_n : Int) (g1_ends : Sl) {h : Hp} {Q : List Value → Hp → Prop} (H : F_liverylaw09_HeapAborts g0_n g1_ends h Q) : S_liverylaw09_HeapAborts g0_n g1_ends h Q :=
  fn_of_cw (hs := (fun _ => [])) (ann := A_liverylaw09_HeapAborts) (args := [(Value.int .u8 g0_n), (Value.slice g1_ends.a g1_ends.n g1_ends.c)]) mixedPP Try.func4 (c := bodyOf Try.f4) (by kernel_rfl) (by kernel_rfl) (by kernel_rfl) (Eq.mpr (E_liverylaw09_HeapAborts g0_n g1_ends h Q) H)
def F_clog_Log_Csn (g0_l : Option Addr) (g1_xid : Int) (h : Hp) (Q : List Value → Hp → Prop) : Prop :=
S_clog_Log_one g0_l g1_xid h fun (vs1 : List Value) (h2 : Hp) =>
∃ n3 : Int, ∃ n4 : Int, ∃ n5 : Int, ∃ b6 : Bool, vs1 = [(Value.agg #[(Value.int .i64 n3), (Value.int .i64 n4), (Value.int .i64 n5), (Value.bool b6)])] ∧
Q [(Value.int .i64 n4)] h2
def A_clog_Log_Csn : Ann := .nil
theorem E_clog_Log_Csn (g0_l : Option Addr) (g1_xid : Int) (h : Hp) (Q : List Value → Hp → Prop) : cw PP 9 (fun _ => []) (bodyOf Try.f47) A_clog_Log_Csn (finQ PP (Try.f47.results.toList) Q) (argFr [(Value.pointer g0_l), (Value.int .i64 g1_xid)]) h = F_clog_Log_Csn g0_l g1_xid h Q := by kernel_rfl
theorem O_clog_Log_Csn (g0_l : Option Addr) (g1_xid : Int) {h : Hp} {Q : List Value → Hp → Prop} (H : F_clog_Log_Csn g0_l g1_xid h Q) : S_clog_Log_Csn g0_l g1_xid h Q :=
  fn_of_cw (hs := (fun _ => [])) (ann := A_clog_Log_Csn) (args := [(Value.pointer g0_l), (Value.int .i64 g1_xid)]) mixedPP Try.func47 (c := bodyOf Try.f47) (by kernel_rfl) (by kernel_rfl) (by kernel_rfl) (Eq.mpr (E_clog_Log_Csn g0_l g1_xid h Q) H)
def F_clog_Log_Running (g0_l : Option Addr) (h : Hp) (Q : List Value → Hp → Prop) : Prop :=
∀ X1 : List Value → Hp → Prop, (∀ l2 : Sl, ∀ n3 : Int, ∀ h4 : Hp, (∀ J5 : List Value → Hp → Prop, (∀ b6 : Bool, ∀ h7 : Hp, ((if b6 = true then
          (∀ J8 : List Value → Hp → Prop, (∀ l9 : Sl, ∀ h10 : Hp, (X1 [(Value.slice l9.a l9.n l9.c), (Value.int .i64 (IntKind.wrap .i64 (n3 + (1 : Int))))] h10) → J8 [(Value.slice l9.a l9.n l9.c)] h10) →
            nilW g0_l fun a11 => ixOk n3 201 (∃ n12 : Int, rd h7 (Addr.add (Addr.add (Addr.add a11 0) (Int.toNat n3 * 4)) 0) = some (Value.int .i64 n12) ∧
              (if (n12 == (1 : Int)) = true then
                (wth (Array.push h7 (Obj.cells #[(Value.int .i64 n3)] T_int)) fun h13 =>
                  ∃ cs16 : List Value, cellsAt h13 (some (Addr.mk (Array.size h7) 0 none)) (1 * 1) cs16 ∧ appS PP T_int 8 1 h13 ⟨l2.a, l2.n, l2.c⟩ 1 cs16 fun (l14 : Sl) (h15 : Hp) =>
                  J8 [(Value.slice l14.a l14.n l14.c)] h15) else
                (J8 [(Value.slice l2.a l2.n l2.c)] h7)))) else
          (Q [(Value.slice l2.a l2.n l2.c)] h7))) → J5 [(Value.bool b6)] h7) →
    (if (!(Option.isNone g0_l)) = true then (nilW g0_l fun a17 => ∃ n18 : Int, rd h4 (Addr.add a17 804) = some (Value.int .i64 n18) ∧
        J5 [(Value.bool (decide (n3 ≤ n18)))] h4) else
      (J5 [(Value.bool false)] h4))) → X1 [(Value.slice l2.a l2.n l2.c), (Value.int .i64 n3)] h4) →
X1 [(Value.slice none 0 0), (Value.int .i64 (1 : Int))] h
def A_clog_Log_Running : Ann := (.mk none ⟨[], []⟩ .nil (.mk none ⟨[], []⟩ .nil (.mk none ⟨[], []⟩ (.mk none ⟨[], []⟩ .nil (.mk none ⟨[], []⟩ (.mk none ⟨[0], [(3, (.c .sl)), (4, (.c (.int .i64)))]⟩ (.mk none ⟨[], []⟩ (.mk none ⟨[], []⟩ (.mk (some ⟨[0, 3, 4], [(14, (.c .bool))]⟩) ⟨[], []⟩ .nil .nil) .nil) (.mk none ⟨[], []⟩ (.mk (some ⟨[0, 4], [(3, (.c .sl))]⟩) ⟨[], []⟩ .nil .nil) .nil)) .nil) .nil)) .nil)))
theorem E_clog_Log_Running (g0_l : Option Addr) (h : Hp) (Q : List Value → Hp → Prop) : cw PP 30 (fun _ => []) (bodyOf Try.f28) A_clog_Log_Running (finQ PP (Try.f28.results.toList) Q) (argFr [(Value.pointer g0_l)]) h = F_clog_Log_Running g0_l h Q := by kernel_rfl
theorem O_clog_Log_Running (g0_l : Option Addr) {h : Hp} {Q : List Value → Hp → Prop} (H : F_clog_Log_Running g0_l h Q) : S_clog_Log_Running g0_l h Q :=
  fn_of_cw (hs := (fun _ => [])) (ann := A_clog_Log_Running) (args := [(Value.pointer g0_l)]) mixedPP Try.func28 (c := bodyOf Try.f28) (by kernel_rfl) (by kernel_rfl) (by kernel_rfl) (Eq.mpr (E_clog_Log_Running g0_l h Q) H)
def F_clog_Log_Clock (g0_l : Option Addr) (h : Hp) (Q : List Value → Hp → Prop) : Prop :=
(if (Option.isNone g0_l) = true then
  (Q [(Value.int .i64 (0 : Int))] h) else
  (nilW g0_l fun a1 => ∃ n2 : Int, rd h (Addr.add a1 805) = some (Value.int .i64 n2) ∧
    Q [(Value.int .i64 n2)] h))
def A_clog_Log_Clock : Ann := .nil
theorem E_clog_Log_Clock (g0_l : Option Addr) (h : Hp) (Q : List Value → Hp → Prop) : cw PP 9 (fun _ => []) (bodyOf Try.f54) A_clog_Log_Clock (finQ PP (Try.f54.results.toList) Q) (argFr [(Value.pointer g0_l)]) h = F_clog_Log_Clock g0_l h Q := by kernel_rfl
theorem O_clog_Log_Clock (g0_l : Option Addr) {h : Hp} {Q : List Value → Hp → Prop} (H : F_clog_Log_Clock g0_l h Q) : S_clog_Log_Clock g0_l h Q :=
  fn_of_cw (hs := (fun _ => [])) (ann := A_clog_Log_Clock) (args := [(Value.pointer g0_l)]) mixedPP Try.func54 (c := bodyOf Try.f54) (by kernel_rfl) (by kernel_rfl) (by kernel_rfl) (Eq.mpr (E_clog_Log_Clock g0_l h Q) H)
def F_clog_Log_Horizon (g0_l : Option Addr) (h : Hp) (Q : List Value → Hp → Prop) : Prop :=
S_clog_Log_Clock g0_l h fun (vs1 : List Value) (h2 : Hp) =>
∃ n3 : Int, vs1 = [(Value.int .i64 n3)] ∧
S_clog_Log_Running g0_l h2 fun (vs4 : List Value) (h5 : Hp) =>
∃ l6 : Sl, vs4 = [(Value.slice l6.a l6.n l6.c)] ∧
∀ X7 : List Value → Hp → Prop, (∀ n8 : Int, ∀ n9 : Int, ∀ h10 : Hp, ((if (decide (n9 < (l6.n : Int))) = true then
      (nilW l6.a fun a11 => ixOk n9 l6.n (∃ n12 : Int, rd h10 (Addr.add a11 (Int.toNat n9 * 1)) = some (Value.int .i64 n12) ∧
          nilW g0_l fun a13 => ixOk n12 201 (∃ n14 : Int, rd h10 (Addr.add (Addr.add (Addr.add a13 0) (Int.toNat n12 * 4)) 2) = some (Value.int .i64 n14) ∧
            X7 [(Value.int .i64 (mnI n8 n14)), (Value.int .i64 (IntKind.wrap .i64 (n9 + (1 : Int))))] h10))) else
      (Q [(Value.int .i64 n8)] h10))) → X7 [(Value.int .i64 n8), (Value.int .i64 n9)] h10) →
X7 [(Value.int .i64 n3), (Value.int .i64 (0 : Int))] h5
def A_clog_Log_Horizon : Ann := (.mk none ⟨[], []⟩ .nil (.mk none ⟨[], []⟩ .nil (.mk none ⟨[], []⟩ (.mk none ⟨[], []⟩ .nil (.mk none ⟨[], []⟩ (.mk none ⟨[0, 9, 10], [(3, (.c (.int .i64))), (11, (.c (.int .i64)))]⟩ .nil .nil) .nil)) .nil)))
theorem E_clog_Log_Horizon (g0_l : Option Addr) (h : Hp) (Q : List Value → Hp → Prop) : cw PP 26 (fun _ => []) (bodyOf Try.f48) A_clog_Log_Horizon (finQ PP (Try.f48.results.toList) Q) (argFr [(Value.pointer g0_l)]) h = F_clog_Log_Horizon g0_l h Q := by kernel_rfl
theorem O_clog_Log_Horizon (g0_l : Option Addr) {h : Hp} {Q : List Value → Hp → Prop} (H : F_clog_Log_Horizon g0_l h Q) : S_clog_Log_Horizon g0_l h Q :=
  fn_of_cw (hs := (fun _ => [])) (ann := A_clog_Log_Horizon) (args := [(Value.pointer g0_l)]) mixedPP Try.func48 (c := bodyOf Try.f48) (by kernel_rfl) (by kernel_rfl) (by kernel_rfl) (Eq.mpr (E_clog_Log_Horizon g0_l h Q) H)
def F_heap_over (g0_l : Option Addr) (g1_x_0 : Int) (g1_x_1 : Int) (g1_x_2 : Sl) (h : Hp) (Q : List Value → Hp → Prop) : Prop :=
wth (Array.push h (Obj.cells #[(Value.int .i64 g1_x_0), (Value.int .i64 g1_x_1), (Value.slice g1_x_2.a g1_x_2.n g1_x_2.c)] T_api_Tuple)) fun h1 =>
∃ n2 : Int, rd h1 (Addr.add (Addr.mk (Array.size h) 0 none) 1) = some (Value.int .i64 n2) ∧
(if (n2 != (0 : Int)) = true then (∃ n3 : Int, rd h1 (Addr.add (Addr.mk (Array.size h) 0 none) 1) = some (Value.int .i64 n3) ∧
    S_clog_Log_State g0_l n3 h1 fun (vs4 : List Value) (h5 : Hp) =>
    ∃ n6 : Int, vs4 = [(Value.int .i64 n6)] ∧
    (if (n6 == (2 : Int)) = true then (∃ n7 : Int, rd h5 (Addr.add (Addr.mk (Array.size h) 0 none) 1) = some (Value.int .i64 n7) ∧
        S_clog_Log_Csn g0_l n7 h5 fun (vs8 : List Value) (h9 : Hp) =>
        ∃ n10 : Int, vs8 = [(Value.int .i64 n10)] ∧
        S_clog_Log_Horizon g0_l h9 fun (vs11 : List Value) (h12 : Hp) =>
        ∃ n13 : Int, vs11 = [(Value.int .i64 n13)] ∧
        Q [(Value.bool (decide (n10 ≤ n13)))] h12) else
      (Q [(Value.bool false)] h5))) else
  (Q [(Value.bool false)] h1))
def A_heap_over : Ann := .nil
theorem E_heap_over (g0_l : Option Addr) (g1_x_0 : Int) (g1_x_1 : Int) (g1_x_2 : Sl) (h : Hp) (Q : List Value → Hp → Prop) : cw PP 24 (fun _ => []) (bodyOf Try.f39) A_heap_over (finQ PP (Try.f39.results.toList) Q) (argFr [(Value.pointer g0_l), (Value.agg #[(Value.int .i64 g1_x_0), (Value.int .i64 g1_x_1), (Value.slice g1_x_2.a g1_x_2.n g1_x_2.c)])]) h = F_heap_over g0_l g1_x_0 g1_x_1 g1_x_2 h Q := by kernel_rfl
theorem O_heap_over (g0_l : Option Addr) (g1_x_0 : Int) (g1_x_1 : Int) (g1_x_2 : Sl) {h : Hp} {Q : List Value → Hp → Prop} (H : F_heap_over g0_l g1_x_0 g1_x_1 g1_x_2 h Q) : S_heap_over g0_l g1_x_0 g1_x_1 g1_x_2 h Q :=
  fn_of_cw (hs := (fun _ => [])) (ann := A_heap_over) (args := [(Value.pointer g0_l), (Value.agg #[(Value.int .i64 g1_x_0), (Value.int .i64 g1_x_1), (Value.slice g1_x_2.a g1_x_2.n g1_x_2.c)])]) mixedPP Try.func39 (c := bodyOf Try.f39) (by kernel_rfl) (by kernel_rfl) (by kernel_rfl) (Eq.mpr (E_heap_over g0_l g1_x_0 g1_x_1 g1_x_2 h Q) H)
def F_heap_Rel_Vacuum (g0_r : Option Addr) (g1_l : Option Addr) (h : Hp) (Q : List Value → Hp → Prop) : Prop :=
S_heap_Rel_All g0_r h fun (vs1 : List Value) (h2 : Hp) =>
∃ l3 : Sl, vs1 = [(Value.slice l3.a l3.n l3.c)] ∧
∀ X4 : List Value → Hp → Prop, (∀ l5 : Sl, ∀ n6 : Int, ∀ h7 : Hp, ((if (decide (n6 < (l3.n : Int))) = true then
      (∀ J8 : List Value → Hp → Prop, (∀ l9 : Sl, ∀ h10 : Hp, (X4 [(Value.slice l9.a l9.n l9.c), (Value.int .i64 (IntKind.wrap .i64 (n6 + (1 : Int))))] h10) → J8 [(Value.slice l9.a l9.n l9.c)] h10) →
        nilW l3.a fun a11 => ixOk n6 l3.n (∃ n12 : Int, rd h7 (Addr.add a11 (Int.toNat n6 * 1)) = some (Value.int .i64 n12) ∧
          nilW g0_r fun a13 => ∃ r14 : Option Nat, rd h7 (Addr.add a13 0) = some (Value.map r14) ∧
          ∃ es15 : Array MapEntry, mapAt h7 r14 es15 ∧ KeysLike (Value.int .i64 n12) es15 ∧ ∃ n16 : Int, ∃ n17 : Int, ∃ l18 : Sl, mgetD (Value.int .i64 n12) es15 (Value.agg #[(Value.int .i64 (0 : Int)), (Value.int .i64 (0 : Int)), (Value.slice none 0 0)]) = (Value.agg #[(Value.int .i64 n16), (Value.int .i64 n17), (Value.slice l18.a l18.n l18.c)]) ∧
          wth (Array.push h7 (Obj.cells #[(Value.int .i64 (0 : Int)), (Value.int .i64 (0 : Int)), (Value.slice none 0 0)] T_api_Tuple)) fun h19 =>
          stOk h19 (Addr.mk (Array.size h7) 0 none) 3 ∧ wth (wrs h19 (Addr.mk (Array.size h7) 0 none) 0 [(Value.int .i64 n16), (Value.int .i64 n17), (Value.slice l18.a l18.n l18.c)]) fun h20 =>
          ∀ J21 : List Value → Hp → Prop, (∀ b22 : Bool, ∀ h23 : Hp, ((if b22 = true then
                (J8 [(Value.slice l5.a l5.n l5.c)] h23) else
                (nilW g0_r fun a24 => ∃ r25 : Option Nat, rd h23 (Addr.add a24 0) = some (Value.map r25) ∧
                  ∃ (m26 : Nat) (es27 : Array MapEntry) (c28 : Nat), r25 = some m26 ∧ h23[m26]? = some (.map es27 c28) ∧ KeysLike (Value.int .i64 n12) es27 ∧ wth (Array.setIfInBounds h23 m26 (mdel (Value.int .i64 n12) es27 c28)) fun h29 =>
                  wth (Array.push h29 (Obj.cells #[(Value.int .i64 n12)] T_int)) fun h30 =>
                  ∃ cs33 : List Value, cellsAt h30 (some (Addr.mk (Array.size h29) 0 none)) (1 * 1) cs33 ∧ appS PP T_int 8 1 h30 ⟨l5.a, l5.n, l5.c⟩ 1 cs33 fun (l31 : Sl) (h32 : Hp) =>
                  J8 [(Value.slice l31.a l31.n l31.c)] h32))) → J21 [(Value.bool b22)] h23) →
          ∃ n34 : Int, rd h20 (Addr.add (Addr.mk (Array.size h7) 0 none) 0) = some (Value.int .i64 n34) ∧
          S_clog_Log_State g1_l n34 h20 fun (vs35 : List Value) (h36 : Hp) =>
          ∃ n37 : Int, vs35 = [(Value.int .i64 n37)] ∧
          (if (n37 != (3 : Int)) = true then (∃ n38 : Int, rd h36 (Addr.add (Addr.mk (Array.size h7) 0 none) 0) = some (Value.int .i64 n38) ∧ ∃ n39 : Int, rd h36 (Addr.add (Addr.mk (Array.size h7) 0 none) 1) = some (Value.int .i64 n39) ∧ ∃ l40 : Sl, rd h36 (Addr.add (Addr.mk (Array.size h7) 0 none) 2) = some (Value.slice l40.a l40.n l40.c) ∧ S_heap_over g1_l n38 n39 ⟨l40.a, l40.n, l40.c⟩ h36 fun (vs41 : List Value) (h42 : Hp) =>
              ∃ b43 : Bool, vs41 = [(Value.bool b43)] ∧
              J21 [(Value.bool (!b43))] h42) else
            (J21 [(Value.bool false)] h36)))) else
      (Q [(Value.slice l5.a l5.n l5.c)] h7))) → X4 [(Value.slice l5.a l5.n l5.c), (Value.int .i64 n6)] h7) →
X4 [(Value.slice none 0 0), (Value.int .i64 (0 : Int))] h2
def A_heap_Rel_Vacuum : Ann := (.mk none ⟨[], []⟩ .nil (.mk none ⟨[], []⟩ (.mk none ⟨[], []⟩ .nil (.mk none ⟨[], []⟩ .nil (.mk none ⟨[], []⟩ (.mk none ⟨[], []⟩ .nil (.mk none ⟨[], []⟩ (.mk none ⟨[0, 1, 10, 11], [(5, (.c .sl)), (12, (.c (.int .i64)))]⟩ (.mk none ⟨[], []⟩ .nil (.mk none ⟨[], []⟩ .nil (.mk none ⟨[], []⟩ (.mk (some ⟨[0, 1, 10, 11, 12], [(5, (.c .sl))]⟩) ⟨[], []⟩ (.mk none ⟨[], []⟩ .nil (.mk none ⟨[], []⟩ .nil (.mk none ⟨[], []⟩ (.mk none ⟨[], []⟩ (.mk (some ⟨[0, 1, 5, 7, 10, 11, 12], [(32, (.c .bool))]⟩) ⟨[], []⟩ .nil .nil) .nil) .nil))) .nil) .nil))) .nil) .nil)) .nil))) .nil))
theorem E_heap_Rel_Vacuum (g0_r : Option Addr) (g1_l : Option Addr) (h : Hp) (Q : List Value → Hp → Prop) : cw PP 44 (fun _ => []) (bodyOf Try.f22) A_heap_Rel_Vacuum (finQ PP (Try.f22.results.toList) Q) (argFr [(Value.pointer g0_r), (Value.pointer g1_l)]) h = F_heap_Rel_Vacuum g0_r g1_l h Q := by kernel_rfl
theorem O_heap_Rel_Vacuum (g0_r : Option Addr) (g1_l : Option Addr) {h : Hp} {Q : List Value → Hp → Prop} (H : F_heap_Rel_Vacuum g0_r g1_l h Q) : S_heap_Rel_Vacuum g0_r g1_l h Q :=
  fn_of_cw (hs := (fun _ => [])) (ann := A_heap_Rel_Vacuum) (args := [(Value.pointer g0_r), (Value.pointer g1_l)]) mixedPP Try.func22 (c := bodyOf Try.f22) (by kernel_rfl) (by kernel_rfl) (by kernel_rfl) (Eq.mpr (E_heap_Rel_Vacuum g0_r g1_l h Q) H)
def F_liverylaw09_HeapMost (g0_n : Int) (h : Hp) (Q : List Value → Hp → Prop) : Prop :=
S_clog_New  h fun (vs1 : List Value) (h2 : Hp) =>
∃ p3 : Option Addr, vs1 = [(Value.pointer p3)] ∧
S_heap_New  h2 fun (vs4 : List Value) (h5 : Hp) =>
∃ p6 : Option Addr, vs4 = [(Value.pointer p6)] ∧
∀ J7 : List Value → Hp → Prop, (∀ b8 : Bool, ∀ h9 : Hp, ((if b8 = true then
      (Q [(Value.bool false)] h9) else
      (S_clog_Log_Begin p3 false h9 fun (vs10 : List Value) (h11 : Hp) =>
        ∃ n12 : Int, ∃ n13 : Int, vs10 = [(Value.int .i64 n12), (Value.int .i64 n13)] ∧
        ∀ X14 : List Value → Hp → Prop, (∀ n15 : Int, ∀ h16 : Hp, ((if (decide (n15 < (512 : Int))) = true then
              (S_liverylaw09_one n15 h16 fun (vs17 : List Value) (h18 : Hp) =>
                ∃ l19 : Sl, vs17 = [(Value.slice l19.a l19.n l19.c)] ∧
                S_heap_Rel_Insert p6 (1 : Int) ⟨l19.a, l19.n, l19.c⟩ h18 fun (vs20 : List Value) (h21 : Hp) =>
                ∃ n22 : Int, ∃ n23 : Int, vs20 = [(Value.int .i64 n22), (Value.int .i64 n23)] ∧
                ∀ J24 : List Value → Hp → Prop, (∀ b25 : Bool, ∀ h26 : Hp, ((if b25 = true then
                      (Q [(Value.bool false)] h26) else
                      (X14 [(Value.int .i64 (IntKind.wrap .i64 (n15 + (1 : Int))))] h26))) → J24 [(Value.bool b25)] h26) →
                (if (n23 != (0 : Int)) = true then (J24 [(Value.bool true)] h21) else
                  (J24 [(Value.bool (n22 != n15))] h21))) else
              (S_heap_Rel_Insert p6 (1 : Int) ⟨none, 0, 0⟩ h16 fun (vs27 : List Value) (h28 : Hp) =>
                ∃ n29 : Int, ∃ n30 : Int, vs27 = [(Value.int .i64 n29), (Value.int .i64 n30)] ∧
                S_clog_Log_Commit p3 (1 : Int) h28 fun (vs31 : List Value) (h32 : Hp) =>
                ∃ n33 : Int, ∃ n34 : Int, vs31 = [(Value.int .i64 n33), (Value.int .i64 n34)] ∧
                S_clog_Log_Begin p3 false h32 fun (vs35 : List Value) (h36 : Hp) =>
                ∃ n37 : Int, ∃ n38 : Int, vs35 = [(Value.int .i64 n37), (Value.int .i64 n38)] ∧
                ∀ J39 : List Value → Hp → Prop, (∀ b40 : Bool, ∀ h41 : Hp, ((if b40 = true then
                      (Q [(Value.bool false)] h41) else
                      (S_clog_Log_Commit p3 (2 : Int) h41 fun (vs42 : List Value) (h43 : Hp) =>
                        ∃ n44 : Int, ∃ n45 : Int, vs42 = [(Value.int .i64 n44), (Value.int .i64 n45)] ∧
                        S_heap_Rel_Vacuum p6 p3 h43 fun (vs46 : List Value) (h47 : Hp) =>
                        ∃ l48 : Sl, vs46 = [(Value.slice l48.a l48.n l48.c)] ∧
                        S_clog_Log_Begin p3 false h47 fun (vs49 : List Value) (h50 : Hp) =>
                        ∃ n51 : Int, ∃ n52 : Int, vs49 = [(Value.int .i64 n51), (Value.int .i64 n52)] ∧
                        S_liverylaw09_one (1 : Int) h50 fun (vs53 : List Value) (h54 : Hp) =>
                        ∃ l55 : Sl, vs53 = [(Value.slice l55.a l55.n l55.c)] ∧
                        S_heap_Rel_Insert p6 (3 : Int) ⟨l55.a, l55.n, l55.c⟩ h54 fun (vs56 : List Value) (h57 : Hp) =>
                        ∃ n58 : Int, ∃ n59 : Int, vs56 = [(Value.int .i64 n58), (Value.int .i64 n59)] ∧
                        S_heap_Rel_Get p6 (IntKind.wrap .i64 g0_n) h57 fun (vs60 : List Value) (h61 : Hp) =>
                        ∃ n62 : Int, ∃ n63 : Int, ∃ l64 : Sl, ∃ b65 : Bool, vs60 = [(Value.agg #[(Value.int .i64 n62), (Value.int .i64 n63), (Value.slice l64.a l64.n l64.c)]), (Value.bool b65)] ∧
                        wth (Array.push h61 (Obj.cells #[(Value.int .i64 (0 : Int)), (Value.int .i64 (0 : Int)), (Value.slice none 0 0)] T_api_Tuple)) fun h66 =>
                        stOk h66 (Addr.mk (Array.size h61) 0 none) 3 ∧ wth (wrs h66 (Addr.mk (Array.size h61) 0 none) 0 [(Value.int .i64 n62), (Value.int .i64 n63), (Value.slice l64.a l64.n l64.c)]) fun h67 =>
                        wth (Array.push h67 (Obj.cells #[(Value.int .i64 (IntKind.wrap .i64 g0_n))] T_int)) fun h68 =>
                        S_liverykeep_Ints ⟨l48.a, l48.n, l48.c⟩ ⟨(some (Addr.mk (Array.size h67) 0 none)), 1, 1⟩ h68 fun (vs69 : List Value) (h70 : Hp) =>
                        ∃ b71 : Bool, vs69 = [(Value.bool b71)] ∧
                        (if b71 = true then ((if (n59 == (0 : Int)) = true then ((if (n58 == (512 : Int)) = true then ((if (!b65) = true then (S_heap_Rel_All p6 h70 fun (vs72 : List Value) (h73 : Hp) =>
                                        ∃ l74 : Sl, vs72 = [(Value.slice l74.a l74.n l74.c)] ∧
                                        (if ((l74.n : Int) == (512 : Int)) = true then (S_liverylaw09_wakes  h73 fun (vs75 : List Value) (h76 : Hp) =>
                                            ∃ b77 : Bool, vs75 = [(Value.bool b77)] ∧
                                            Q [(Value.bool b77)] h76) else
                                          (Q [(Value.bool false)] h73))) else
                                      (Q [(Value.bool false)] h70))) else
                                  (Q [(Value.bool false)] h70))) else
                              (Q [(Value.bool false)] h70))) else
                          (Q [(Value.bool false)] h70))))) → J39 [(Value.bool b40)] h41) →
                (if (n30 != (74 : Int)) = true then (J39 [(Value.bool true)] h36) else
                  (S_heap_Rel_Delete p6 (2 : Int) (IntKind.wrap .i64 g0_n) h36 fun (vs78 : List Value) (h79 : Hp) =>
                    ∃ n80 : Int, vs78 = [(Value.int .i64 n80)] ∧
                    J39 [(Value.bool (n80 != (0 : Int)))] h79))))) → X14 [(Value.int .i64 n15)] h16) →
        X14 [(Value.int .i64 (0 : Int))] h11))) → J7 [(Value.bool b8)] h9) →
(if (Option.isNone p3) = true then (J7 [(Value.bool true)] h5) else
  (J7 [(Value.bool (Option.isNone p6))] h5))
def A_liverylaw09_HeapMost : Ann := (.mk none ⟨[], []⟩ .nil (.mk none ⟨[], []⟩ .nil (.mk none ⟨[], []⟩ (.mk none ⟨[], []⟩ (.mk (some ⟨[0, 3, 4], [(23, (.c .bool))]⟩) ⟨[], []⟩ .nil .nil) .nil) (.mk none ⟨[], []⟩ .nil (.mk none ⟨[], []⟩ (.mk none ⟨[], []⟩ .nil (.mk none ⟨[], []⟩ (.mk none ⟨[0, 3, 4], [(5, (.c (.int .i64)))]⟩ (.mk none ⟨[], []⟩ .nil (.mk none ⟨[], []⟩ (.mk none ⟨[], []⟩ (.mk none ⟨[], []⟩ .nil (.mk none ⟨[], []⟩ (.mk (some ⟨[0, 3, 4, 5], [(43, (.c .bool))]⟩) ⟨[], []⟩ .nil .nil) .nil)) .nil) .nil)) .nil) .nil)) (.mk none ⟨[], []⟩ .nil (.mk none ⟨[], []⟩ .nil (.mk none ⟨[], []⟩ .nil (.mk none ⟨[], []⟩ .nil (.mk none ⟨[], []⟩ (.mk none ⟨[], []⟩ (.mk (some ⟨[3, 4, 10], [(62, (.c .bool))]⟩) ⟨[], []⟩ .nil .nil) .nil) .nil))))))))))
theorem E_liverylaw09_HeapMost (g0_n : Int) (h : Hp) (Q : List Value → Hp → Prop) : cw PP 107 (fun _ => []) (bodyOf Try.f5) A_liverylaw09_HeapMost (finQ PP (Try.f5.results.toList) Q) (argFr [(Value.int .u8 g0_n)]) h = F_liverylaw09_HeapMost g0_n h Q := by kernel_rfl
theorem O_liverylaw09_HeapMost (g0_n : Int) {h : Hp} {Q : List Value → Hp → Prop} (H : F_liverylaw09_HeapMost g0_n h Q) : S_liverylaw09_HeapMost g0_n h Q :=
  fn_of_cw (hs := (fun _ => [])) (ann := A_liverylaw09_HeapMost) (args := [(Value.int .u8 g0_n)]) mixedPP Try.func5 (c := bodyOf Try.f5) (by kernel_rfl) (by kernel_rfl) (by kernel_rfl) (Eq.mpr (E_liverylaw09_HeapMost g0_n h Q) H)
def F_heap_Rel_Copy (g0_r : Option Addr) (g1_l : Option Addr) (h : Hp) (Q : List Value → Hp → Prop) : Prop :=
(if (Option.isNone g0_r) = true then
  (Q [(Value.pointer none)] h) else
  (S_heap_New  h fun (vs1 : List Value) (h2 : Hp) =>
    ∃ p3 : Option Addr, vs1 = [(Value.pointer p3)] ∧
    S_heap_Rel_All g0_r h2 fun (vs4 : List Value) (h5 : Hp) =>
    ∃ l6 : Sl, vs4 = [(Value.slice l6.a l6.n l6.c)] ∧
    ∀ X7 : List Value → Hp → Prop, (∀ n8 : Int, ∀ h9 : Hp, ((if (decide (n8 < (l6.n : Int))) = true then
          (∀ J10 : List Value → Hp → Prop, (∀ h11 : Hp, (X7 [(Value.int .i64 (IntKind.wrap .i64 (n8 + (1 : Int))))] h11) → J10 [] h11) →
            nilW l6.a fun a12 => ixOk n8 l6.n (∃ n13 : Int, rd h9 (Addr.add a12 (Int.toNat n8 * 1)) = some (Value.int .i64 n13) ∧
              nilW g0_r fun a14 => ∃ r15 : Option Nat, rd h9 (Addr.add a14 0) = some (Value.map r15) ∧
              ∃ es16 : Array MapEntry, mapAt h9 r15 es16 ∧ KeysLike (Value.int .i64 n13) es16 ∧ ∃ n17 : Int, ∃ n18 : Int, ∃ l19 : Sl, mgetD (Value.int .i64 n13) es16 (Value.agg #[(Value.int .i64 (0 : Int)), (Value.int .i64 (0 : Int)), (Value.slice none 0 0)]) = (Value.agg #[(Value.int .i64 n17), (Value.int .i64 n18), (Value.slice l19.a l19.n l19.c)]) ∧
              wth (Array.push h9 (Obj.cells #[(Value.int .i64 (0 : Int)), (Value.int .i64 (0 : Int)), (Value.slice none 0 0)] T_api_Tuple)) fun h20 =>
              stOk h20 (Addr.mk (Array.size h9) 0 none) 3 ∧ wth (wrs h20 (Addr.mk (Array.size h9) 0 none) 0 [(Value.int .i64 n17), (Value.int .i64 n18), (Value.slice l19.a l19.n l19.c)]) fun h21 =>
              ∀ J22 : List Value → Hp → Prop, (∀ b23 : Bool, ∀ h24 : Hp, ((if b23 = true then
                    (J10 [] h24) else
                    (∃ l25 : Sl, rd h24 (Addr.add (Addr.mk (Array.size h9) 0 none) 2) = some (Value.slice l25.a l25.n l25.c) ∧
                      S_slices_Clone_sapi_Value_api_Value ⟨l25.a, l25.n, l25.c⟩ h24 fun (vs26 : List Value) (h27 : Hp) =>
                      ∃ l28 : Sl, vs26 = [(Value.slice l28.a l28.n l28.c)] ∧
                      stOk h27 (Addr.add (Addr.mk (Array.size h9) 0 none) 2) 1 ∧ wth (wrs h27 (Addr.add (Addr.mk (Array.size h9) 0 none) 2) 0 [(Value.slice l28.a l28.n l28.c)]) fun h29 =>
                      nilW p3 fun a30 => ∃ r31 : Option Nat, rd h29 (Addr.add a30 0) = some (Value.map r31) ∧
                      nilW p3 fun a32 => ∃ n33 : Int, rd h29 (Addr.add a32 1) = some (Value.int .i64 n33) ∧
                      ∃ n34 : Int, rd h29 (Addr.add (Addr.mk (Array.size h9) 0 none) 0) = some (Value.int .i64 n34) ∧ ∃ n35 : Int, rd h29 (Addr.add (Addr.mk (Array.size h9) 0 none) 1) = some (Value.int .i64 n35) ∧ ∃ l36 : Sl, rd h29 (Addr.add (Addr.mk (Array.size h9) 0 none) 2) = some (Value.slice l36.a l36.n l36.c) ∧ ∃ (m37 : Nat) (es38 : Array MapEntry) (c39 : Nat), r31 = some m37 ∧ h29[m37]? = some (.map es38 c39) ∧ KeysLike (Value.int .i64 n33) es38 ∧ wth (Array.setIfInBounds h29 m37 (mput (Value.int .i64 n33) (Value.agg #[(Value.int .i64 n34), (Value.int .i64 n35), (Value.slice l36.a l36.n l36.c)]) es38 c39)) fun h40 =>
                      nilW p3 fun a41 => ∃ n42 : Int, rd h40 (Addr.add a41 1) = some (Value.int .i64 n42) ∧
                      nilW p3 fun a43 => stOk h40 (Addr.add a43 1) 1 ∧ wth (wrs h40 (Addr.add a43 1) 0 [(Value.int .i64 (IntKind.wrap .i64 (n42 + (1 : Int))))]) fun h44 =>
                      J10 [] h44))) → J22 [(Value.bool b23)] h24) →
              ∃ n45 : Int, rd h21 (Addr.add (Addr.mk (Array.size h9) 0 none) 0) = some (Value.int .i64 n45) ∧
              S_clog_Log_State g1_l n45 h21 fun (vs46 : List Value) (h47 : Hp) =>
              ∃ n48 : Int, vs46 = [(Value.int .i64 n48)] ∧
              (if (n48 == (3 : Int)) = true then (J22 [(Value.bool true)] h47) else
                (∃ n49 : Int, rd h47 (Addr.add (Addr.mk (Array.size h9) 0 none) 0) = some (Value.int .i64 n49) ∧ ∃ n50 : Int, rd h47 (Addr.add (Addr.mk (Array.size h9) 0 none) 1) = some (Value.int .i64 n50) ∧ ∃ l51 : Sl, rd h47 (Addr.add (Addr.mk (Array.size h9) 0 none) 2) = some (Value.slice l51.a l51.n l51.c) ∧ S_heap_over g1_l n49 n50 ⟨l51.a, l51.n, l51.c⟩ h47 fun (vs52 : List Value) (h53 : Hp) =>
                  ∃ b54 : Bool, vs52 = [(Value.bool b54)] ∧
                  J22 [(Value.bool b54)] h53)))) else
          (Q [(Value.pointer p3)] h9))) → X7 [(Value.int .i64 n8)] h9) →
    X7 [(Value.int .i64 (0 : Int))] h5))
def A_heap_Rel_Copy : Ann := (.mk none ⟨[], []⟩ .nil (.mk none ⟨[], []⟩ (.mk none ⟨[], []⟩ .nil (.mk none ⟨[], []⟩ .nil (.mk none ⟨[], []⟩ .nil (.mk none ⟨[], []⟩ (.mk none ⟨[], []⟩ .nil (.mk none ⟨[], []⟩ (.mk none ⟨[0, 1, 5, 13, 14], [(15, (.c (.int .i64)))]⟩ (.mk none ⟨[], []⟩ .nil (.mk none ⟨[], []⟩ .nil (.mk none ⟨[], []⟩ (.mk (some ⟨[0, 1, 5, 13, 14, 15], []⟩) ⟨[], []⟩ (.mk none ⟨[], []⟩ .nil (.mk none ⟨[], []⟩ .nil (.mk none ⟨[], []⟩ (.mk none ⟨[], []⟩ (.mk (some ⟨[0, 1, 5, 8, 13, 14, 15], [(34, (.c .bool))]⟩) ⟨[], []⟩ .nil .nil) .nil) .nil))) .nil) .nil))) .nil) .nil)) .nil)))) .nil))
theorem E_heap_Rel_Copy (g0_r : Option Addr) (g1_l : Option Addr) (h : Hp) (Q : List Value → Hp → Prop) : cw PP 57 (fun _ => []) (bodyOf Try.f25) A_heap_Rel_Copy (finQ PP (Try.f25.results.toList) Q) (argFr [(Value.pointer g0_r), (Value.pointer g1_l)]) h = F_heap_Rel_Copy g0_r g1_l h Q := by kernel_rfl
theorem O_heap_Rel_Copy (g0_r : Option Addr) (g1_l : Option Addr) {h : Hp} {Q : List Value → Hp → Prop} (H : F_heap_Rel_Copy g0_r g1_l h Q) : S_heap_Rel_Copy g0_r g1_l h Q :=
  fn_of_cw (hs := (fun _ => [])) (ann := A_heap_Rel_Copy) (args := [(Value.pointer g0_r), (Value.pointer g1_l)]) mixedPP Try.func25 (c := bodyOf Try.f25) (by kernel_rfl) (by kernel_rfl) (by kernel_rfl) (Eq.mpr (E_heap_Rel_Copy g0_r g1_l h Q) H)
def F_liverylaw09_HeapNone (g0_xid : Int) (g1_tid : Int) (h : Hp) (Q : List Value → Hp → Prop) : Prop :=
S_clog_New  h fun (vs1 : List Value) (h2 : Hp) =>
∃ p3 : Option Addr, vs1 = [(Value.pointer p3)] ∧
S_heap_Rel_Insert none g0_xid ⟨none, 0, 0⟩ h2 fun (vs4 : List Value) (h5 : Hp) =>
∃ n6 : Int, ∃ n7 : Int, vs4 = [(Value.int .i64 n6), (Value.int .i64 n7)] ∧
S_heap_Rel_Get none g1_tid h5 fun (vs8 : List Value) (h9 : Hp) =>
∃ n10 : Int, ∃ n11 : Int, ∃ l12 : Sl, ∃ b13 : Bool, vs8 = [(Value.agg #[(Value.int .i64 n10), (Value.int .i64 n11), (Value.slice l12.a l12.n l12.c)]), (Value.bool b13)] ∧
wth (Array.push h9 (Obj.cells #[(Value.int .i64 (0 : Int)), (Value.int .i64 (0 : Int)), (Value.slice none 0 0)] T_api_Tuple)) fun h14 =>
stOk h14 (Addr.mk (Array.size h9) 0 none) 3 ∧ wth (wrs h14 (Addr.mk (Array.size h9) 0 none) 0 [(Value.int .i64 n10), (Value.int .i64 n11), (Value.slice l12.a l12.n l12.c)]) fun h15 =>
S_heap_Rel_May none p3 g0_xid g1_tid h15 fun (vs16 : List Value) (h17 : Hp) =>
∃ n18 : Int, ∃ n19 : Int, vs16 = [(Value.int .i64 n18), (Value.int .i64 n19)] ∧
(if (n6 == (0 : Int)) = true then ((if (n7 == (1 : Int)) = true then (S_heap_Rel_Delete none g0_xid g1_tid h17 fun (vs20 : List Value) (h21 : Hp) =>
        ∃ n22 : Int, vs20 = [(Value.int .i64 n22)] ∧
        (if (n22 == (1 : Int)) = true then ((if (!b13) = true then (S_heap_Rel_Sees none p3 g0_xid g1_tid h21 fun (vs23 : List Value) (h24 : Hp) =>
                ∃ b25 : Bool, vs23 = [(Value.bool b25)] ∧
                (if (!b25) = true then ((if (n18 == (1 : Int)) = true then ((if (n19 == (0 : Int)) = true then (S_heap_Rel_Unseen none p3 g0_xid g1_tid h24 fun (vs26 : List Value) (h27 : Hp) =>
                            ∃ l28 : Sl, vs26 = [(Value.slice l28.a l28.n l28.c)] ∧
                            (if ((l28.n : Int) == (0 : Int)) = true then (S_heap_Rel_All none h27 fun (vs29 : List Value) (h30 : Hp) =>
                                ∃ l31 : Sl, vs29 = [(Value.slice l31.a l31.n l31.c)] ∧
                                (if ((l31.n : Int) == (0 : Int)) = true then (S_heap_Rel_Visible none p3 g0_xid h30 fun (vs32 : List Value) (h33 : Hp) =>
                                    ∃ l34 : Sl, vs32 = [(Value.slice l34.a l34.n l34.c)] ∧
                                    (if ((l34.n : Int) == (0 : Int)) = true then (S_heap_Rel_Vacuum none p3 h33 fun (vs35 : List Value) (h36 : Hp) =>
                                        ∃ l37 : Sl, vs35 = [(Value.slice l37.a l37.n l37.c)] ∧
                                        (if ((l37.n : Int) == (0 : Int)) = true then (S_heap_Rel_Copy none p3 h36 fun (vs38 : List Value) (h39 : Hp) =>
                                            ∃ p40 : Option Addr, vs38 = [(Value.pointer p40)] ∧
                                            (if (Option.isNone p40) = true then (S_liverylaw09_wakes  h39 fun (vs41 : List Value) (h42 : Hp) =>
                                                ∃ b43 : Bool, vs41 = [(Value.bool b43)] ∧
                                                Q [(Value.bool b43)] h42) else
                                              (Q [(Value.bool false)] h39))) else
                                          (Q [(Value.bool false)] h36))) else
                                      (Q [(Value.bool false)] h33))) else
                                  (Q [(Value.bool false)] h30))) else
                              (Q [(Value.bool false)] h27))) else
                          (Q [(Value.bool false)] h24))) else
                      (Q [(Value.bool false)] h24))) else
                  (Q [(Value.bool false)] h24))) else
              (Q [(Value.bool false)] h21))) else
          (Q [(Value.bool false)] h21))) else
      (Q [(Value.bool false)] h17))) else
  (Q [(Value.bool false)] h17))
def A_liverylaw09_HeapNone : Ann := .nil
theorem E_liverylaw09_HeapNone (g0_xid : Int) (g1_tid : Int) (h : Hp) (Q : List Value → Hp → Prop) : cw PP 106 (fun _ => []) (bodyOf Try.f6) A_liverylaw09_HeapNone (finQ PP (Try.f6.results.toList) Q) (argFr [(Value.int .i64 g0_xid), (Value.int .i64 g1_tid)]) h = F_liverylaw09_HeapNone g0_xid g1_tid h Q := by kernel_rfl
theorem O_liverylaw09_HeapNone (g0_xid : Int) (g1_tid : Int) {h : Hp} {Q : List Value → Hp → Prop} (H : F_liverylaw09_HeapNone g0_xid g1_tid h Q) : S_liverylaw09_HeapNone g0_xid g1_tid h Q :=
  fn_of_cw (hs := (fun _ => [])) (ann := A_liverylaw09_HeapNone) (args := [(Value.int .i64 g0_xid), (Value.int .i64 g1_tid)]) mixedPP Try.func6 (c := bodyOf Try.f6) (by kernel_rfl) (by kernel_rfl) (by kernel_rfl) (Eq.mpr (E_liverylaw09_HeapNone g0_xid g1_tid h Q) H)
def F_liverykeep_LargeValue (g0_v_0 : Int) (g0_v_1 : Int) (g0_v_2 : Nat) (g0_v_3 : ByteArray) (h : Hp) (Q : List Value → Hp → Prop) : Prop :=
wth (Array.push h (Obj.cells #[(Value.int .i64 g0_v_0), (Value.int .i64 g0_v_1), (Value.float .f64 g0_v_2), (Value.string g0_v_3)] T_api_Value)) fun h1 =>
∃ s2 : ByteArray, rd h1 (Addr.add (Addr.mk (Array.size h) 0 none) 3) = some (Value.string s2) ∧
Q [(Value.bool (decide ((ByteArray.size s2 : Int) > (2000 : Int))))] h1
def A_liverykeep_LargeValue : Ann := .nil
theorem E_liverykeep_LargeValue (g0_v_0 : Int) (g0_v_1 : Int) (g0_v_2 : Nat) (g0_v_3 : ByteArray) (h : Hp) (Q : List Value → Hp → Prop) : cw PP 7 (fun _ => []) (bodyOf Try.f52) A_liverykeep_LargeValue (finQ PP (Try.f52.results.toList) Q) (argFr [(Value.agg #[(Value.int .i64 g0_v_0), (Value.int .i64 g0_v_1), (Value.float .f64 g0_v_2), (Value.string g0_v_3)])]) h = F_liverykeep_LargeValue g0_v_0 g0_v_1 g0_v_2 g0_v_3 h Q := by kernel_rfl
theorem O_liverykeep_LargeValue (g0_v_0 : Int) (g0_v_1 : Int) (g0_v_2 : Nat) (g0_v_3 : ByteArray) {h : Hp} {Q : List Value → Hp → Prop} (H : F_liverykeep_LargeValue g0_v_0 g0_v_1 g0_v_2 g0_v_3 h Q) : S_liverykeep_LargeValue g0_v_0 g0_v_1 g0_v_2 g0_v_3 h Q :=
  fn_of_cw (hs := (fun _ => [])) (ann := A_liverykeep_LargeValue) (args := [(Value.agg #[(Value.int .i64 g0_v_0), (Value.int .i64 g0_v_1), (Value.float .f64 g0_v_2), (Value.string g0_v_3)])]) mixedPP Try.func52 (c := bodyOf Try.f52) (by kernel_rfl) (by kernel_rfl) (by kernel_rfl) (Eq.mpr (E_liverykeep_LargeValue g0_v_0 g0_v_1 g0_v_2 g0_v_3 h Q) H)
def F_liverykeep_LargeRow (g0_l : Sl) (h : Hp) (Q : List Value → Hp → Prop) : Prop :=
(if (decide ((g0_l.n : Int) > (50 : Int))) = true then
  (Q [(Value.bool true)] h) else
  (∀ X1 : List Value → Hp → Prop, (∀ n2 : Int, ∀ h3 : Hp, ((if (decide (n2 < (g0_l.n : Int))) = true then
          (nilW g0_l.a fun a4 => ixOk n2 g0_l.n (∃ n5 : Int, rd h3 (Addr.add (Addr.add a4 (Int.toNat n2 * 4)) 0) = some (Value.int .i64 n5) ∧ ∃ n6 : Int, rd h3 (Addr.add (Addr.add a4 (Int.toNat n2 * 4)) 1) = some (Value.int .i64 n6) ∧ ∃ x7 : Nat, rd h3 (Addr.add (Addr.add a4 (Int.toNat n2 * 4)) 2) = some (Value.float .f64 x7) ∧ ∃ s8 : ByteArray, rd h3 (Addr.add (Addr.add a4 (Int.toNat n2 * 4)) 3) = some (Value.string s8) ∧ S_liverykeep_LargeValue n5 n6 x7 s8 h3 fun (vs9 : List Value) (h10 : Hp) =>
              ∃ b11 : Bool, vs9 = [(Value.bool b11)] ∧
              (if b11 = true then
                (Q [(Value.bool true)] h10) else
                (X1 [(Value.int .i64 (IntKind.wrap .i64 (n2 + (1 : Int))))] h10)))) else
          (Q [(Value.bool false)] h3))) → X1 [(Value.int .i64 n2)] h3) →
    X1 [(Value.int .i64 (0 : Int))] h))
def A_liverykeep_LargeRow : Ann := (.mk none ⟨[], []⟩ .nil (.mk none ⟨[], []⟩ .nil (.mk none ⟨[], []⟩ (.mk none ⟨[], []⟩ .nil (.mk none ⟨[], []⟩ (.mk none ⟨[0], [(3, (.c (.int .i64)))]⟩ .nil .nil) .nil)) .nil)))
theorem E_liverykeep_LargeRow (g0_l : Sl) (h : Hp) (Q : List Value → Hp → Prop) : cw PP 18 (fun _ => []) (bodyOf Try.f42) A_liverykeep_LargeRow (finQ PP (Try.f42.results.toList) Q) (argFr [(Value.slice g0_l.a g0_l.n g0_l.c)]) h = F_liverykeep_LargeRow g0_l h Q := by kernel_rfl
theorem O_liverykeep_LargeRow (g0_l : Sl) {h : Hp} {Q : List Value → Hp → Prop} (H : F_liverykeep_LargeRow g0_l h Q) : S_liverykeep_LargeRow g0_l h Q :=
  fn_of_cw (hs := (fun _ => [])) (ann := A_liverykeep_LargeRow) (args := [(Value.slice g0_l.a g0_l.n g0_l.c)]) mixedPP Try.func42 (c := bodyOf Try.f42) (by kernel_rfl) (by kernel_rfl) (by kernel_rfl) (Eq.mpr (E_liverykeep_LargeRow g0_l h Q) H)
def F_liverylaw09_Fair (g0_l : Sl) (h : Hp) (Q : List Value → Hp → Prop) : Prop :=
∀ X1 : List Value → Hp → Prop, (∀ n2 : Int, ∀ h3 : Hp, ((if (decide (n2 < (g0_l.n : Int))) = true then
      (nilW g0_l.a fun a4 => ixOk n2 g0_l.n (∃ l5 : Sl, rd h3 (Addr.add (Addr.add a4 (Int.toNat n2 * 5)) 4) = some (Value.slice l5.a l5.n l5.c) ∧
          S_liverykeep_LargeRow ⟨l5.a, l5.n, l5.c⟩ h3 fun (vs6 : List Value) (h7 : Hp) =>
          ∃ b8 : Bool, vs6 = [(Value.bool b8)] ∧
          (if b8 = true then
            (Q [(Value.bool false)] h7) else
            (X1 [(Value.int .i64 (IntKind.wrap .i64 (n2 + (1 : Int))))] h7)))) else
      (Q [(Value.bool (decide ((g0_l.n : Int) ≤ (120 : Int))))] h3))) → X1 [(Value.int .i64 n2)] h3) →
X1 [(Value.int .i64 (0 : Int))] h
def A_liverylaw09_Fair : Ann := (.mk none ⟨[], []⟩ .nil (.mk none ⟨[], []⟩ (.mk none ⟨[], []⟩ .nil (.mk none ⟨[], []⟩ (.mk none ⟨[0], [(3, (.c (.int .i64)))]⟩ .nil .nil) .nil)) .nil))
theorem E_liverylaw09_Fair (g0_l : Sl) (h : Hp) (Q : List Value → Hp → Prop) : cw PP 19 (fun _ => []) (bodyOf Try.f26) A_liverylaw09_Fair (finQ PP (Try.f26.results.toList) Q) (argFr [(Value.slice g0_l.a g0_l.n g0_l.c)]) h = F_liverylaw09_Fair g0_l h Q := by kernel_rfl
theorem O_liverylaw09_Fair (g0_l : Sl) {h : Hp} {Q : List Value → Hp → Prop} (H : F_liverylaw09_Fair g0_l h Q) : S_liverylaw09_Fair g0_l h Q :=
  fn_of_cw (hs := (fun _ => [])) (ann := A_liverylaw09_Fair) (args := [(Value.slice g0_l.a g0_l.n g0_l.c)]) mixedPP Try.func26 (c := bodyOf Try.f26) (by kernel_rfl) (by kernel_rfl) (by kernel_rfl) (Eq.mpr (E_liverylaw09_Fair g0_l h Q) H)
def F_liverylaw09_rows (g0_l : Option Addr) (g1_r : Option Addr) (g2_xid : Int) (h : Hp) (Q : List Value → Hp → Prop) : Prop :=
S_heap_Rel_Visible g1_r g0_l g2_xid h fun (vs1 : List Value) (h2 : Hp) =>
∃ l3 : Sl, vs1 = [(Value.slice l3.a l3.n l3.c)] ∧
∀ X4 : List Value → Hp → Prop, (∀ l5 : Sl, ∀ n6 : Int, ∀ h7 : Hp, ((if (decide (n6 < (l3.n : Int))) = true then
      (nilW l3.a fun a8 => ixOk n6 l3.n (∃ n9 : Int, rd h7 (Addr.add a8 (Int.toNat n6 * 1)) = some (Value.int .i64 n9) ∧
          S_heap_Rel_Get g1_r n9 h7 fun (vs10 : List Value) (h11 : Hp) =>
          ∃ n12 : Int, ∃ n13 : Int, ∃ l14 : Sl, ∃ b15 : Bool, vs10 = [(Value.agg #[(Value.int .i64 n12), (Value.int .i64 n13), (Value.slice l14.a l14.n l14.c)]), (Value.bool b15)] ∧
          wth (Array.push h11 (Obj.cells #[(Value.int .i64 (0 : Int)), (Value.int .i64 (0 : Int)), (Value.slice none 0 0)] T_api_Tuple)) fun h16 =>
          stOk h16 (Addr.mk (Array.size h11) 0 none) 3 ∧ wth (wrs h16 (Addr.mk (Array.size h11) 0 none) 0 [(Value.int .i64 n12), (Value.int .i64 n13), (Value.slice l14.a l14.n l14.c)]) fun h17 =>
          ∃ l18 : Sl, rd h17 (Addr.add (Addr.mk (Array.size h11) 0 none) 2) = some (Value.slice l18.a l18.n l18.c) ∧
          wth (Array.push h17 (Obj.cells #[(Value.slice l18.a l18.n l18.c)] T_sapi_Value)) fun h19 =>
          ∃ cs22 : List Value, cellsAt h19 (some (Addr.mk (Array.size h17) 0 none)) (1 * 1) cs22 ∧ appS PP T_sapi_Value 24 1 h19 ⟨l5.a, l5.n, l5.c⟩ 1 cs22 fun (l20 : Sl) (h21 : Hp) =>
          X4 [(Value.slice l20.a l20.n l20.c), (Value.int .i64 (IntKind.wrap .i64 (n6 + (1 : Int))))] h21)) else
      (Q [(Value.slice l5.a l5.n l5.c)] h7))) → X4 [(Value.slice l5.a l5.n l5.c), (Value.int .i64 n6)] h7) →
X4 [(Value.slice none 0 0), (Value.int .i64 (0 : Int))] h2
def A_liverylaw09_rows : Ann := (.mk none ⟨[], []⟩ .nil (.mk none ⟨[], []⟩ .nil (.mk none ⟨[], []⟩ .nil (.mk none ⟨[], []⟩ (.mk none ⟨[], []⟩ .nil (.mk none ⟨[], []⟩ (.mk none ⟨[1, 8], [(7, (.c .sl)), (9, (.c (.int .i64)))]⟩ .nil .nil) .nil)) .nil))))
theorem E_liverylaw09_rows (g0_l : Option Addr) (g1_r : Option Addr) (g2_xid : Int) (h : Hp) (Q : List Value → Hp → Prop) : cw PP 37 (fun _ => []) (bodyOf Try.f29) A_liverylaw09_rows (finQ PP (Try.f29.results.toList) Q) (argFr [(Value.pointer g0_l), (Value.pointer g1_r), (Value.int .i64 g2_xid)]) h = F_liverylaw09_rows g0_l g1_r g2_xid h Q := by kernel_rfl
theorem O_liverylaw09_rows (g0_l : Option Addr) (g1_r : Option Addr) (g2_xid : Int) {h : Hp} {Q : List Value → Hp → Prop} (H : F_liverylaw09_rows g0_l g1_r g2_xid h Q) : S_liverylaw09_rows g0_l g1_r g2_xid h Q :=
  fn_of_cw (hs := (fun _ => [])) (ann := A_liverylaw09_rows) (args := [(Value.pointer g0_l), (Value.pointer g1_r), (Value.int .i64 g2_xid)]) mixedPP Try.func29 (c := bodyOf Try.f29) (by kernel_rfl) (by kernel_rfl) (by kernel_rfl) (Eq.mpr (E_liverylaw09_rows g0_l g1_r g2_xid h Q) H)
def F_liverykeep_Value (g0_a_0 : Int) (g0_a_1 : Int) (g0_a_2 : Nat) (g0_a_3 : ByteArray) (g1_b_0 : Int) (g1_b_1 : Int) (g1_b_2 : Nat) (g1_b_3 : ByteArray) (h : Hp) (Q : List Value → Hp → Prop) : Prop :=
wth (Array.push h (Obj.cells #[(Value.int .i64 g0_a_0), (Value.int .i64 g0_a_1), (Value.float .f64 g0_a_2), (Value.string g0_a_3)] T_api_Value)) fun h1 =>
wth (Array.push h1 (Obj.cells #[(Value.int .i64 g1_b_0), (Value.int .i64 g1_b_1), (Value.float .f64 g1_b_2), (Value.string g1_b_3)] T_api_Value)) fun h2 =>
∃ n3 : Int, rd h2 (Addr.add (Addr.mk (Array.size h) 0 none) 0) = some (Value.int .i64 n3) ∧
∃ n4 : Int, rd h2 (Addr.add (Addr.mk (Array.size h1) 0 none) 0) = some (Value.int .i64 n4) ∧
(if (n3 == n4) = true then (∃ n5 : Int, rd h2 (Addr.add (Addr.mk (Array.size h) 0 none) 1) = some (Value.int .i64 n5) ∧
    ∃ n6 : Int, rd h2 (Addr.add (Addr.mk (Array.size h1) 0 none) 1) = some (Value.int .i64 n6) ∧
    (if (n5 == n6) = true then (∃ x7 : Nat, rd h2 (Addr.add (Addr.mk (Array.size h) 0 none) 2) = some (Value.float .f64 x7) ∧
        ∃ x8 : Nat, rd h2 (Addr.add (Addr.mk (Array.size h1) 0 none) 2) = some (Value.float .f64 x8) ∧
        S_math_Float64bits x7 h2 fun (vs9 : List Value) (h10 : Hp) =>
        ∃ n11 : Int, vs9 = [(Value.int .u64 n11)] ∧
        rd h10 (Addr.add (Addr.mk (Array.size h1) 0 none) 2) = some (Value.float .f64 x8) ∧ S_math_Float64bits x8 h10 fun (vs12 : List Value) (h13 : Hp) =>
        ∃ n14 : Int, vs12 = [(Value.int .u64 n14)] ∧
        (if (n11 == n14) = true then (∃ s15 : ByteArray, rd h13 (Addr.add (Addr.mk (Array.size h) 0 none) 3) = some (Value.string s15) ∧
            ∃ s16 : ByteArray, rd h13 (Addr.add (Addr.mk (Array.size h1) 0 none) 3) = some (Value.string s16) ∧
            Q [(Value.bool ((ByteArray.toList s15) == (ByteArray.toList s16)))] h13) else
          (Q [(Value.bool false)] h13))) else
      (Q [(Value.bool false)] h2))) else
  (Q [(Value.bool false)] h2))
def A_liverykeep_Value : Ann := .nil
theorem E_liverykeep_Value (g0_a_0 : Int) (g0_a_1 : Int) (g0_a_2 : Nat) (g0_a_3 : ByteArray) (g1_b_0 : Int) (g1_b_1 : Int) (g1_b_2 : Nat) (g1_b_3 : ByteArray) (h : Hp) (Q : List Value → Hp → Prop) : cw PP 33 (fun _ => []) (bodyOf Try.f53) A_liverykeep_Value (finQ PP (Try.f53.results.toList) Q) (argFr [(Value.agg #[(Value.int .i64 g0_a_0), (Value.int .i64 g0_a_1), (Value.float .f64 g0_a_2), (Value.string g0_a_3)]), (Value.agg #[(Value.int .i64 g1_b_0), (Value.int .i64 g1_b_1), (Value.float .f64 g1_b_2), (Value.string g1_b_3)])]) h = F_liverykeep_Value g0_a_0 g0_a_1 g0_a_2 g0_a_3 g1_b_0 g1_b_1 g1_b_2 g1_b_3 h Q := by kernel_rfl
theorem O_liverykeep_Value (g0_a_0 : Int) (g0_a_1 : Int) (g0_a_2 : Nat) (g0_a_3 : ByteArray) (g1_b_0 : Int) (g1_b_1 : Int) (g1_b_2 : Nat) (g1_b_3 : ByteArray) {h : Hp} {Q : List Value → Hp → Prop} (H : F_liverykeep_Value g0_a_0 g0_a_1 g0_a_2 g0_a_3 g1_b_0 g1_b_1 g1_b_2 g1_b_3 h Q) : S_liverykeep_Value g0_a_0 g0_a_1 g0_a_2 g0_a_3 g1_b_0 g1_b_1 g1_b_2 g1_b_3 h Q :=
  fn_of_cw (hs := (fun _ => [])) (ann := A_liverykeep_Value) (args := [(Value.agg #[(Value.int .i64 g0_a_0), (Value.int .i64 g0_a_1), (Value.float .f64 g0_a_2), (Value.string g0_a_3)]), (Value.agg #[(Value.int .i64 g1_b_0), (Value.int .i64 g1_b_1), (Value.float .f64 g1_b_2), (Value.string g1_b_3)])]) mixedPP Try.func53 (c := bodyOf Try.f53) (by kernel_rfl) (by kernel_rfl) (by kernel_rfl) (Eq.mpr (E_liverykeep_Value g0_a_0 g0_a_1 g0_a_2 g0_a_3 g1_b_0 g1_b_1 g1_b_2 g1_b_3 h Q) H)
def F_liverykeep_Values (g0_a : Sl) (g1_b : Sl) (h : Hp) (Q : List Value → Hp → Prop) : Prop :=
(if ((g0_a.n : Int) != (g1_b.n : Int)) = true then
  (Q [(Value.bool false)] h) else
  (∀ X1 : List Value → Hp → Prop, (∀ n2 : Int, ∀ h3 : Hp, ((if (decide (n2 < (g0_a.n : Int))) = true then
          (nilW g0_a.a fun a4 => ixOk n2 g0_a.n (∃ n5 : Int, rd h3 (Addr.add (Addr.add a4 (Int.toNat n2 * 4)) 0) = some (Value.int .i64 n5) ∧ ∃ n6 : Int, rd h3 (Addr.add (Addr.add a4 (Int.toNat n2 * 4)) 1) = some (Value.int .i64 n6) ∧ ∃ x7 : Nat, rd h3 (Addr.add (Addr.add a4 (Int.toNat n2 * 4)) 2) = some (Value.float .f64 x7) ∧ ∃ s8 : ByteArray, rd h3 (Addr.add (Addr.add a4 (Int.toNat n2 * 4)) 3) = some (Value.string s8) ∧ nilW g1_b.a fun a9 => ixOk n2 g1_b.n (∃ n10 : Int, rd h3 (Addr.add (Addr.add a9 (Int.toNat n2 * 4)) 0) = some (Value.int .i64 n10) ∧ ∃ n11 : Int, rd h3 (Addr.add (Addr.add a9 (Int.toNat n2 * 4)) 1) = some (Value.int .i64 n11) ∧ ∃ x12 : Nat, rd h3 (Addr.add (Addr.add a9 (Int.toNat n2 * 4)) 2) = some (Value.float .f64 x12) ∧ ∃ s13 : ByteArray, rd h3 (Addr.add (Addr.add a9 (Int.toNat n2 * 4)) 3) = some (Value.string s13) ∧ S_liverykeep_Value n5 n6 x7 s8 n10 n11 x12 s13 h3 fun (vs14 : List Value) (h15 : Hp) =>
                ∃ b16 : Bool, vs14 = [(Value.bool b16)] ∧
                (if (!b16) = true then
                  (Q [(Value.bool false)] h15) else
                  (X1 [(Value.int .i64 (IntKind.wrap .i64 (n2 + (1 : Int))))] h15))))) else
          (Q [(Value.bool true)] h3))) → X1 [(Value.int .i64 n2)] h3) →
    X1 [(Value.int .i64 (0 : Int))] h))
def A_liverykeep_Values : Ann := (.mk none ⟨[], []⟩ .nil (.mk none ⟨[], []⟩ .nil (.mk none ⟨[], []⟩ (.mk none ⟨[], []⟩ .nil (.mk none ⟨[], []⟩ (.mk none ⟨[0, 1], [(5, (.c (.int .i64)))]⟩ .nil .nil) .nil)) .nil)))
theorem E_liverykeep_Values (g0_a : Sl) (g1_b : Sl) (h : Hp) (Q : List Value → Hp → Prop) : cw PP 27 (fun _ => []) (bodyOf Try.f44) A_liverykeep_Values (finQ PP (Try.f44.results.toList) Q) (argFr [(Value.slice g0_a.a g0_a.n g0_a.c), (Value.slice g1_b.a g1_b.n g1_b.c)]) h = F_liverykeep_Values g0_a g1_b h Q := by kernel_rfl
theorem O_liverykeep_Values (g0_a : Sl) (g1_b : Sl) {h : Hp} {Q : List Value → Hp → Prop} (H : F_liverykeep_Values g0_a g1_b h Q) : S_liverykeep_Values g0_a g1_b h Q :=
  fn_of_cw (hs := (fun _ => [])) (ann := A_liverykeep_Values) (args := [(Value.slice g0_a.a g0_a.n g0_a.c), (Value.slice g1_b.a g1_b.n g1_b.c)]) mixedPP Try.func44 (c := bodyOf Try.f44) (by kernel_rfl) (by kernel_rfl) (by kernel_rfl) (Eq.mpr (E_liverykeep_Values g0_a g1_b h Q) H)
def F_liverykeep_Rows (g0_a : Sl) (g1_b : Sl) (h : Hp) (Q : List Value → Hp → Prop) : Prop :=
(if ((g0_a.n : Int) != (g1_b.n : Int)) = true then
  (Q [(Value.bool false)] h) else
  (∀ X1 : List Value → Hp → Prop, (∀ n2 : Int, ∀ h3 : Hp, ((if (decide (n2 < (g0_a.n : Int))) = true then
          (nilW g0_a.a fun a4 => ixOk n2 g0_a.n (∃ l5 : Sl, rd h3 (Addr.add a4 (Int.toNat n2 * 1)) = some (Value.slice l5.a l5.n l5.c) ∧
              nilW g1_b.a fun a6 => ixOk n2 g1_b.n (∃ l7 : Sl, rd h3 (Addr.add a6 (Int.toNat n2 * 1)) = some (Value.slice l7.a l7.n l7.c) ∧
                S_liverykeep_Values ⟨l5.a, l5.n, l5.c⟩ ⟨l7.a, l7.n, l7.c⟩ h3 fun (vs8 : List Value) (h9 : Hp) =>
                ∃ b10 : Bool, vs8 = [(Value.bool b10)] ∧
                (if (!b10) = true then
                  (Q [(Value.bool false)] h9) else
                  (X1 [(Value.int .i64 (IntKind.wrap .i64 (n2 + (1 : Int))))] h9))))) else
          (Q [(Value.bool true)] h3))) → X1 [(Value.int .i64 n2)] h3) →
    X1 [(Value.int .i64 (0 : Int))] h))
def A_liverykeep_Rows : Ann := (.mk none ⟨[], []⟩ .nil (.mk none ⟨[], []⟩ .nil (.mk none ⟨[], []⟩ (.mk none ⟨[], []⟩ .nil (.mk none ⟨[], []⟩ (.mk none ⟨[0, 1], [(5, (.c (.int .i64)))]⟩ .nil .nil) .nil)) .nil)))
theorem E_liverykeep_Rows (g0_a : Sl) (g1_b : Sl) (h : Hp) (Q : List Value → Hp → Prop) : cw PP 27 (fun _ => []) (bodyOf Try.f30) A_liverykeep_Rows (finQ PP (Try.f30.results.toList) Q) (argFr [(Value.slice g0_a.a g0_a.n g0_a.c), (Value.slice g1_b.a g1_b.n g1_b.c)]) h = F_liverykeep_Rows g0_a g1_b h Q := by kernel_rfl
theorem O_liverykeep_Rows (g0_a : Sl) (g1_b : Sl) {h : Hp} {Q : List Value → Hp → Prop} (H : F_liverykeep_Rows g0_a g1_b h Q) : S_liverykeep_Rows g0_a g1_b h Q :=
  fn_of_cw (hs := (fun _ => [])) (ann := A_liverykeep_Rows) (args := [(Value.slice g0_a.a g0_a.n g0_a.c), (Value.slice g1_b.a g1_b.n g1_b.c)]) mixedPP Try.func30 (c := bodyOf Try.f30) (by kernel_rfl) (by kernel_rfl) (by kernel_rfl) (Eq.mpr (E_liverykeep_Rows g0_a g1_b h Q) H)
def F_liverykeep_Has (g0_l : Sl) (g1_n : Int) (h : Hp) (Q : List Value → Hp → Prop) : Prop :=
∀ X1 : List Value → Hp → Prop, (∀ n2 : Int, ∀ h3 : Hp, ((if (decide (n2 < (g0_l.n : Int))) = true then
      (nilW g0_l.a fun a4 => ixOk n2 g0_l.n (∃ n5 : Int, rd h3 (Addr.add a4 (Int.toNat n2 * 1)) = some (Value.int .i64 n5) ∧
          (if (n5 == g1_n) = true then
            (Q [(Value.bool true)] h3) else
            (X1 [(Value.int .i64 (IntKind.wrap .i64 (n2 + (1 : Int))))] h3)))) else
      (Q [(Value.bool false)] h3))) → X1 [(Value.int .i64 n2)] h3) →
X1 [(Value.int .i64 (0 : Int))] h
def A_liverykeep_Has : Ann := (.mk none ⟨[], []⟩ .nil (.mk none ⟨[], []⟩ (.mk none ⟨[], []⟩ .nil (.mk none ⟨[], []⟩ (.mk none ⟨[0, 1], [(5, (.c (.int .i64)))]⟩ .nil .nil) .nil)) .nil))
theorem E_liverykeep_Has (g0_l : Sl) (g1_n : Int) (h : Hp) (Q : List Value → Hp → Prop) : cw PP 18 (fun _ => []) (bodyOf Try.f31) A_liverykeep_Has (finQ PP (Try.f31.results.toList) Q) (argFr [(Value.slice g0_l.a g0_l.n g0_l.c), (Value.int .i64 g1_n)]) h = F_liverykeep_Has g0_l g1_n h Q := by kernel_rfl
theorem O_liverykeep_Has (g0_l : Sl) (g1_n : Int) {h : Hp} {Q : List Value → Hp → Prop} (H : F_liverykeep_Has g0_l g1_n h Q) : S_liverykeep_Has g0_l g1_n h Q :=
  fn_of_cw (hs := (fun _ => [])) (ann := A_liverykeep_Has) (args := [(Value.slice g0_l.a g0_l.n g0_l.c), (Value.int .i64 g1_n)]) mixedPP Try.func31 (c := bodyOf Try.f31) (by kernel_rfl) (by kernel_rfl) (by kernel_rfl) (Eq.mpr (E_liverykeep_Has g0_l g1_n h Q) H)
def F_liverylaw09_HeapClean (g0_steps : Sl) (g1_copies : Bool) (h : Hp) (Q : List Value → Hp → Prop) : Prop :=
S_clog_New  h fun (vs1 : List Value) (h2 : Hp) =>
∃ p3 : Option Addr, vs1 = [(Value.pointer p3)] ∧
S_heap_New  h2 fun (vs4 : List Value) (h5 : Hp) =>
∃ p6 : Option Addr, vs4 = [(Value.pointer p6)] ∧
∀ J7 : List Value → Hp → Prop, (∀ b8 : Bool, ∀ h9 : Hp, ((if b8 = true then
      (∀ J10 : List Value → Hp → Prop, (∀ b11 : Bool, ∀ h12 : Hp, (Q [(Value.bool b11)] h12) → J10 [(Value.bool b11)] h12) →
        (if (!(Option.isNone p3)) = true then ((if (!(Option.isNone p6)) = true then (S_liverylaw09_wakes  h9 fun (vs13 : List Value) (h14 : Hp) =>
                ∃ b15 : Bool, vs13 = [(Value.bool b15)] ∧
                J10 [(Value.bool b15)] h14) else
              (J10 [(Value.bool false)] h9))) else
          (J10 [(Value.bool false)] h9))) else
      (∀ X16 : List Value → Hp → Prop, (∀ n17 : Int, ∀ h18 : Hp, ((if (decide (n17 < (g0_steps.n : Int))) = true then
              (∀ J19 : List Value → Hp → Prop, (∀ h20 : Hp, (X16 [(Value.int .i64 (IntKind.wrap .i64 (n17 + (1 : Int))))] h20) → J19 [] h20) →
                nilW g0_steps.a fun a21 => ixOk n17 g0_steps.n (∃ n22 : Int, rd h18 (Addr.add (Addr.add a21 (Int.toNat n17 * 5)) 0) = some (Value.int .i64 n22) ∧ ∃ n23 : Int, rd h18 (Addr.add (Addr.add a21 (Int.toNat n17 * 5)) 1) = some (Value.int .i64 n23) ∧ ∃ n24 : Int, rd h18 (Addr.add (Addr.add a21 (Int.toNat n17 * 5)) 2) = some (Value.int .i64 n24) ∧ ∃ b25 : Bool, rd h18 (Addr.add (Addr.add a21 (Int.toNat n17 * 5)) 3) = some (Value.bool b25) ∧ ∃ l26 : Sl, rd h18 (Addr.add (Addr.add a21 (Int.toNat n17 * 5)) 4) = some (Value.slice l26.a l26.n l26.c) ∧ wth (Array.push h18 (Obj.cells #[(Value.int .i64 (0 : Int)), (Value.int .i64 (0 : Int)), (Value.int .i64 (0 : Int)), (Value.bool false), (Value.slice none 0 0)] T_liverylaw09_Step)) fun h27 =>
                  stOk h27 (Addr.mk (Array.size h18) 0 none) 5 ∧ wth (wrs h27 (Addr.mk (Array.size h18) 0 none) 0 [(Value.int .i64 n22), (Value.int .i64 n23), (Value.int .i64 n24), (Value.bool b25), (Value.slice l26.a l26.n l26.c)]) fun h28 =>
                  ∃ n29 : Int, rd h28 (Addr.add (Addr.mk (Array.size h18) 0 none) 0) = some (Value.int .i64 n29) ∧
                  (if (n29 == (0 : Int)) = true then
                    (∃ b30 : Bool, rd h28 (Addr.add (Addr.mk (Array.size h18) 0 none) 3) = some (Value.bool b30) ∧
                      S_clog_Log_Begin p3 b30 h28 fun (vs31 : List Value) (h32 : Hp) =>
                      ∃ n33 : Int, ∃ n34 : Int, vs31 = [(Value.int .i64 n33), (Value.int .i64 n34)] ∧
                      J19 [] h32) else
                    ((if (n29 == (1 : Int)) = true then
                        (∃ n35 : Int, rd h28 (Addr.add (Addr.mk (Array.size h18) 0 none) 1) = some (Value.int .i64 n35) ∧
                          S_clog_Log_Commit p3 n35 h28 fun (vs36 : List Value) (h37 : Hp) =>
                          ∃ n38 : Int, ∃ n39 : Int, vs36 = [(Value.int .i64 n38), (Value.int .i64 n39)] ∧
                          J19 [] h37) else
                        ((if (n29 == (2 : Int)) = true then
                            (∃ n40 : Int, rd h28 (Addr.add (Addr.mk (Array.size h18) 0 none) 1) = some (Value.int .i64 n40) ∧
                              S_clog_Log_Abort p3 n40 h28 fun (vs41 : List Value) (h42 : Hp) =>
                              ∃ n43 : Int, vs41 = [(Value.int .i64 n43)] ∧
                              J19 [] h42) else
                            ((if (n29 == (3 : Int)) = true then
                                (∃ n44 : Int, rd h28 (Addr.add (Addr.mk (Array.size h18) 0 none) 1) = some (Value.int .i64 n44) ∧
                                  S_clog_Log_State p3 n44 h28 fun (vs45 : List Value) (h46 : Hp) =>
                                  ∃ n47 : Int, vs45 = [(Value.int .i64 n47)] ∧
                                  (if (n47 == (1 : Int)) = true then
                                    (∃ n48 : Int, rd h46 (Addr.add (Addr.mk (Array.size h18) 0 none) 1) = some (Value.int .i64 n48) ∧
                                      ∃ l49 : Sl, rd h46 (Addr.add (Addr.mk (Array.size h18) 0 none) 4) = some (Value.slice l49.a l49.n l49.c) ∧
                                      S_heap_Rel_Insert p6 n48 ⟨l49.a, l49.n, l49.c⟩ h46 fun (vs50 : List Value) (h51 : Hp) =>
                                      ∃ n52 : Int, ∃ n53 : Int, vs50 = [(Value.int .i64 n52), (Value.int .i64 n53)] ∧
                                      J19 [] h51) else
                                    (J19 [] h46))) else
                                ((if (n29 == (4 : Int)) = true then
                                    (∃ n54 : Int, rd h28 (Addr.add (Addr.mk (Array.size h18) 0 none) 1) = some (Value.int .i64 n54) ∧
                                      ∃ n55 : Int, rd h28 (Addr.add (Addr.mk (Array.size h18) 0 none) 2) = some (Value.int .i64 n55) ∧
                                      S_heap_Rel_May p6 p3 n54 n55 h28 fun (vs56 : List Value) (h57 : Hp) =>
                                      ∃ n58 : Int, ∃ n59 : Int, vs56 = [(Value.int .i64 n58), (Value.int .i64 n59)] ∧
                                      ∀ J60 : List Value → Hp → Prop, (∀ b61 : Bool, ∀ h62 : Hp, ((if b61 = true then
                                            (∃ n63 : Int, rd h62 (Addr.add (Addr.mk (Array.size h18) 0 none) 1) = some (Value.int .i64 n63) ∧
                                              ∃ n64 : Int, rd h62 (Addr.add (Addr.mk (Array.size h18) 0 none) 2) = some (Value.int .i64 n64) ∧
                                              S_heap_Rel_Delete p6 n63 n64 h62 fun (vs65 : List Value) (h66 : Hp) =>
                                              ∃ n67 : Int, vs65 = [(Value.int .i64 n67)] ∧
                                              J19 [] h66) else
                                            (J19 [] h62))) → J60 [(Value.bool b61)] h62) →
                                      (if (n58 == (0 : Int)) = true then (∃ n68 : Int, rd h57 (Addr.add (Addr.mk (Array.size h18) 0 none) 1) = some (Value.int .i64 n68) ∧
                                          S_clog_Log_State p3 n68 h57 fun (vs69 : List Value) (h70 : Hp) =>
                                          ∃ n71 : Int, vs69 = [(Value.int .i64 n71)] ∧
                                          J60 [(Value.bool (n71 == (1 : Int)))] h70) else
                                        (J60 [(Value.bool false)] h57))) else
                                    (J19 [] h28)))))))))))) else
              (S_clog_Log_Begin p3 true h18 fun (vs72 : List Value) (h73 : Hp) =>
                ∃ n74 : Int, ∃ n75 : Int, vs72 = [(Value.int .i64 n74), (Value.int .i64 n75)] ∧
                (if (n75 != (0 : Int)) = true then
                  (∀ J76 : List Value → Hp → Prop, (∀ b77 : Bool, ∀ h78 : Hp, (Q [(Value.bool b77)] h78) → J76 [(Value.bool b77)] h78) →
                    (if (n75 == (74 : Int)) = true then (S_liverylaw09_wakes  h73 fun (vs79 : List Value) (h80 : Hp) =>
                        ∃ b81 : Bool, vs79 = [(Value.bool b81)] ∧
                        J76 [(Value.bool b81)] h80) else
                      (J76 [(Value.bool false)] h73))) else
                  (S_clog_Log_Running p3 h73 fun (vs82 : List Value) (h83 : Hp) =>
                    ∃ l84 : Sl, vs82 = [(Value.slice l84.a l84.n l84.c)] ∧
                    ∀ X85 : List Value → Hp → Prop, (∀ l86 : Sl, ∀ n87 : Int, ∀ h88 : Hp, ((if (decide (n87 < (l84.n : Int))) = true then
                          (nilW l84.a fun a89 => ixOk n87 l84.n (∃ n90 : Int, rd h88 (Addr.add a89 (Int.toNat n87 * 1)) = some (Value.int .i64 n90) ∧
                              S_liverylaw09_rows p3 p6 n90 h88 fun (vs91 : List Value) (h92 : Hp) =>
                              ∃ l93 : Sl, vs91 = [(Value.slice l93.a l93.n l93.c)] ∧
                              wth (Array.push h92 (Obj.cells #[(Value.slice l93.a l93.n l93.c)] T_ssapi_Value)) fun h94 =>
                              ∃ cs97 : List Value, cellsAt h94 (some (Addr.mk (Array.size h92) 0 none)) (1 * 1) cs97 ∧ appS PP T_ssapi_Value 24 1 h94 ⟨l86.a, l86.n, l86.c⟩ 1 cs97 fun (l95 : Sl) (h96 : Hp) =>
                              X85 [(Value.slice l95.a l95.n l95.c), (Value.int .i64 (IntKind.wrap .i64 (n87 + (1 : Int))))] h96)) else
                          (∀ J98 : List Value → Hp → Prop, (∀ p99 : Option Addr, ∀ h100 : Hp, (∀ X101 : List Value → Hp → Prop, (∀ n102 : Int, ∀ h103 : Hp, ((if (decide (n102 < (l84.n : Int))) = true then
                                      (nilW l84.a fun a104 => ixOk n102 l84.n (∃ n105 : Int, rd h103 (Addr.add a104 (Int.toNat n102 * 1)) = some (Value.int .i64 n105) ∧
                                          nilW l86.a fun a106 => ixOk n102 l86.n (∃ l107 : Sl, rd h103 (Addr.add a106 (Int.toNat n102 * 1)) = some (Value.slice l107.a l107.n l107.c) ∧
                                            S_liverylaw09_rows p3 p99 n105 h103 fun (vs108 : List Value) (h109 : Hp) =>
                                            ∃ l110 : Sl, vs108 = [(Value.slice l110.a l110.n l110.c)] ∧
                                            rd h109 (Addr.add a106 (Int.toNat n102 * 1)) = some (Value.slice l107.a l107.n l107.c) ∧ S_liverykeep_Rows ⟨l110.a, l110.n, l110.c⟩ ⟨l107.a, l107.n, l107.c⟩ h109 fun (vs111 : List Value) (h112 : Hp) =>
                                            ∃ b113 : Bool, vs111 = [(Value.bool b113)] ∧
                                            (if (!b113) = true then
                                              (Q [(Value.bool false)] h112) else
                                              (X101 [(Value.int .i64 (IntKind.wrap .i64 (n102 + (1 : Int))))] h112))))) else
                                      (S_liverykeep_Has ⟨l84.a, l84.n, l84.c⟩ n74 h103 fun (vs114 : List Value) (h115 : Hp) =>
                                        ∃ b116 : Bool, vs114 = [(Value.bool b116)] ∧
                                        (if b116 = true then (S_liverylaw09_wakes  h115 fun (vs117 : List Value) (h118 : Hp) =>
                                            ∃ b119 : Bool, vs117 = [(Value.bool b119)] ∧
                                            Q [(Value.bool b119)] h118) else
                                          (Q [(Value.bool false)] h115))))) → X101 [(Value.int .i64 n102)] h103) →
                                X101 [(Value.int .i64 (0 : Int))] h100) → J98 [(Value.pointer p99)] h100) →
                            (if g1_copies = true then
                              (S_heap_Rel_Copy p6 p3 h88 fun (vs120 : List Value) (h121 : Hp) =>
                                ∃ p122 : Option Addr, vs120 = [(Value.pointer p122)] ∧
                                J98 [(Value.pointer p122)] h121) else
                              (S_heap_Rel_Vacuum p6 p3 h88 fun (vs123 : List Value) (h124 : Hp) =>
                                ∃ l125 : Sl, vs123 = [(Value.slice l125.a l125.n l125.c)] ∧
                                J98 [(Value.pointer p6)] h124))))) → X85 [(Value.slice l86.a l86.n l86.c), (Value.int .i64 n87)] h88) →
                    X85 [(Value.slice none 0 0), (Value.int .i64 (0 : Int))] h83))))) → X16 [(Value.int .i64 n17)] h18) →
        X16 [(Value.int .i64 (0 : Int))] h9))) → J7 [(Value.bool b8)] h9) →
(if (Option.isNone p3) = true then (J7 [(Value.bool true)] h5) else
  ((if (Option.isNone p6) = true then (J7 [(Value.bool true)] h5) else
      (S_liverylaw09_Fair ⟨g0_steps.a, g0_steps.n, g0_steps.c⟩ h5 fun (vs126 : List Value) (h127 : Hp) =>
        ∃ b128 : Bool, vs126 = [(Value.bool b128)] ∧
        J7 [(Value.bool (!b128))] h127))))
def A_liverylaw09_HeapClean : Ann := (.mk none ⟨[], []⟩ .nil (.mk none ⟨[], []⟩ .nil (.mk none ⟨[], []⟩ (.mk none ⟨[], []⟩ (.mk (some ⟨[0, 1, 5, 6], [(29, (.c .bool))]⟩) ⟨[], []⟩ .nil .nil) (.mk none ⟨[], []⟩ (.mk none ⟨[], []⟩ (.mk (some ⟨[], [(4, (.c .bool))]⟩) ⟨[], []⟩ .nil .nil) .nil) .nil)) (.mk none ⟨[], []⟩ (.mk none ⟨[], []⟩ .nil (.mk none ⟨[], []⟩ (.mk none ⟨[0, 1, 5, 6], [(7, (.c (.int .i64)))]⟩ (.mk none ⟨[], []⟩ .nil (.mk none ⟨[], []⟩ (.mk (some ⟨[0, 1, 5, 6, 7], []⟩) ⟨[], []⟩ (.mk none ⟨[], []⟩ .nil (.mk none ⟨[], []⟩ .nil (.mk none ⟨[], []⟩ (.mk none ⟨[], []⟩ .nil (.mk none ⟨[], []⟩ .nil (.mk none ⟨[], []⟩ .nil (.mk none ⟨[], []⟩ .nil (.mk none ⟨[], []⟩ .nil (.mk none ⟨[], []⟩ .nil (.mk none ⟨[], []⟩ .nil (.mk none ⟨[], []⟩ .nil (.mk none ⟨[], []⟩ .nil (.mk none ⟨[], []⟩ (.mk none ⟨[], []⟩ .nil (.mk none ⟨[], []⟩ (.mk (some ⟨[0, 1, 5, 6, 7, 8], [(102, (.c .bool))]⟩) ⟨[], []⟩ .nil .nil) .nil)) .nil)))))))))) .nil))) .nil) .nil)) .nil) .nil)) (.mk none ⟨[], []⟩ .nil (.mk none ⟨[], []⟩ (.mk none ⟨[], []⟩ .nil (.mk none ⟨[], []⟩ (.mk none ⟨[], []⟩ (.mk (some ⟨[], [(4, (.c .bool))]⟩) ⟨[], []⟩ .nil .nil) .nil) .nil)) (.mk none ⟨[], []⟩ .nil (.mk none ⟨[], []⟩ .nil (.mk none ⟨[], []⟩ (.mk none ⟨[], []⟩ .nil (.mk none ⟨[], []⟩ (.mk none ⟨[1, 5, 6, 11, 13], [(14, (.c .sl)), (15, (.c (.int .i64)))]⟩ .nil .nil) .nil)) (.mk none ⟨[], []⟩ (.mk none ⟨[], []⟩ .nil (.mk (some ⟨[5, 11, 13, 14], [(6, (.c .ptr))]⟩) ⟨[], []⟩ .nil .nil)) (.mk none ⟨[], []⟩ (.mk none ⟨[], []⟩ .nil (.mk none ⟨[], []⟩ (.mk none ⟨[5, 6, 11, 13, 14], [(16, (.c (.int .i64)))]⟩ .nil .nil) .nil)) .nil)))))))))))
theorem E_liverylaw09_HeapClean (g0_steps : Sl) (g1_copies : Bool) (h : Hp) (Q : List Value → Hp → Prop) : cw PP 171 (fun _ => []) (bodyOf Try.f7) A_liverylaw09_HeapClean (finQ PP (Try.f7.results.toList) Q) (argFr [(Value.slice g0_steps.a g0_steps.n g0_steps.c), (Value.bool g1_copies)]) h = F_liverylaw09_HeapClean g0_steps g1_copies h Q := by kernel_rfl
theorem O_liverylaw09_HeapClean (g0_steps : Sl) (g1_copies : Bool) {h : Hp} {Q : List Value → Hp → Prop} (H : F_liverylaw09_HeapClean g0_steps g1_copies h Q) : S_liverylaw09_HeapClean g0_steps g1_copies h Q :=
  fn_of_cw (hs := (fun _ => [])) (ann := A_liverylaw09_HeapClean) (args := [(Value.slice g0_steps.a g0_steps.n g0_steps.c), (Value.bool g1_copies)]) mixedPP Try.func7 (c := bodyOf Try.f7) (by kernel_rfl) (by kernel_rfl) (by kernel_rfl) (Eq.mpr (E_liverylaw09_HeapClean g0_steps g1_copies h Q) H)
def F_heap_Rel_Visible_1 (g0_tid : Int) (g1_x : Addr) (g2_x : Addr) (g3_x : Addr) (h : Hp) (Q : List Value → Hp → Prop) : Prop :=
∃ p1 : Option Addr, rd h g1_x = some (Value.pointer p1) ∧
∃ p2 : Option Addr, rd h g2_x = some (Value.pointer p2) ∧
∃ n3 : Int, rd h g3_x = some (Value.int .i64 n3) ∧
S_heap_Rel_Sees p1 p2 n3 g0_tid h fun (vs4 : List Value) (h5 : Hp) =>
∃ b6 : Bool, vs4 = [(Value.bool b6)] ∧
Q [(Value.bool (!b6))] h5
def A_heap_Rel_Visible_1 : Ann := .nil
theorem E_heap_Rel_Visible_1 (g0_tid : Int) (g1_x : Addr) (g2_x : Addr) (g3_x : Addr) (h : Hp) (Q : List Value → Hp → Prop) : cw PP 12 (fun _ => []) (bodyOf Try.f38) A_heap_Rel_Visible_1 (finQ PP (Try.f38.results.toList) Q) (argFr [(Value.int .i64 g0_tid), (Value.pointer (some g1_x)), (Value.pointer (some g2_x)), (Value.pointer (some g3_x))]) h = F_heap_Rel_Visible_1 g0_tid g1_x g2_x g3_x h Q := by kernel_rfl
theorem O_heap_Rel_Visible_1 (g0_tid : Int) (g1_x : Addr) (g2_x : Addr) (g3_x : Addr) {h : Hp} {Q : List Value → Hp → Prop} (H : F_heap_Rel_Visible_1 g0_tid g1_x g2_x g3_x h Q) : S_heap_Rel_Visible_1 g0_tid g1_x g2_x g3_x h Q :=
  fn_of_cw (hs := (fun _ => [])) (ann := A_heap_Rel_Visible_1) (args := [(Value.int .i64 g0_tid), (Value.pointer (some g1_x)), (Value.pointer (some g2_x)), (Value.pointer (some g3_x))]) mixedPP Try.func38 (c := bodyOf Try.f38) (by kernel_rfl) (by kernel_rfl) (by kernel_rfl) (Eq.mpr (E_heap_Rel_Visible_1 g0_tid g1_x g2_x g3_x h Q) H)
def F_maps_Keys_map_int_api_Tuple_int_api_Tuple_1 (g0_yield_f : Nat) (g0_yield_c : Array Value) (g1_x : Addr) (h : Hp) (Q : List Value → Hp → Prop) : Prop :=
∃ r1 : Option Nat, rd h g1_x = some (Value.map r1) ∧
∃ o2 : Obj, IterOf h r1 o2 ∧ wth (Array.push h o2) fun h3 =>
∀ X4 : List Value → Hp → Prop, (∀ h5 : Hp, ((Addr.off (Addr.mk (Array.size h) 0 none) = 0 ∧ ∃ o6 : Obj, h5[Addr.block (Addr.mk (Array.size h) 0 none)]? = some o6 ∧ IterGood h5 o6 ∧
      (IterEnd h5 o6 → Q [] h5) ∧
      ∀ (k7 v8 : Value) (o9 : Obj), IterStep h5 o6 k7 v8 o9 → wth (Array.setIfInBounds h5 (Addr.block (Addr.mk (Array.size h) 0 none)) o9) fun h10 =>
      (Addr.off (Addr.mk (Array.size h) 0 none) = 0 ∧ ∃ (m11 n12 : Nat) (q13 : Array Nat) (n14 : Nat) (es15 : Array MapEntry) (c16 : Nat) (e17 : MapEntry), h10[Addr.block (Addr.mk (Array.size h) 0 none)]? = some (.mapIter (some m11) n12 q13 c16) ∧ Array.back? q13 = some n14 ∧ h10[m11]? = some (.map es15 c16) ∧ Array.find? (fun x => x.born == n14) es15 = some e17 ∧ ∃ n18 : Int, e17.key = (Value.int .i64 n18) ∧ ∃ v19 : Value, e17.val = v19 ∧ Fn PP g0_yield_f ((#[] ++ #[(Value.int .i64 n18)]) ++ g0_yield_c) h10 fun (vs20 : List Value) (h21 : Hp) =>
        ∃ b22 : Bool, vs20 = [(Value.bool b22)] ∧
        (if (!b22) = true then
          (Q [] h21) else
          (X4 [] h21))))) → X4 [] h5) →
X4 [] h3
def A_maps_Keys_map_int_api_Tuple_int_api_Tuple_1 : Ann := (.mk none ⟨[], []⟩ .nil (.mk none ⟨[], []⟩ (.mk none ⟨[0, 5], []⟩ .nil .nil) .nil))
theorem E_maps_Keys_map_int_api_Tuple_int_api_Tuple_1 (g0_yield_f : Nat) (g0_yield_c : Array Value) (g1_x : Addr) (h : Hp) (Q : List Value → Hp → Prop) : cw PP 14 (fun d => if d = 8 then [(.c (.int .i64)), (.c .any)] else []) (bodyOf Try.f51) A_maps_Keys_map_int_api_Tuple_int_api_Tuple_1 (finQ PP (Try.f51.results.toList) Q) (argFr [(Value.func (.func g0_yield_f) #[] g0_yield_c), (Value.pointer (some g1_x))]) h = F_maps_Keys_map_int_api_Tuple_int_api_Tuple_1 g0_yield_f g0_yield_c g1_x h Q := by kernel_rfl
theorem O_maps_Keys_map_int_api_Tuple_int_api_Tuple_1 (g0_yield_f : Nat) (g0_yield_c : Array Value) (g1_x : Addr) {h : Hp} {Q : List Value → Hp → Prop} (H : F_maps_Keys_map_int_api_Tuple_int_api_Tuple_1 g0_yield_f g0_yield_c g1_x h Q) : S_maps_Keys_map_int_api_Tuple_int_api_Tuple_1 g0_yield_f g0_yield_c g1_x h Q :=
  fn_of_cw (hs := (fun d => if d = 8 then [(.c (.int .i64)), (.c .any)] else [])) (ann := A_maps_Keys_map_int_api_Tuple_int_api_Tuple_1) (args := [(Value.func (.func g0_yield_f) #[] g0_yield_c), (Value.pointer (some g1_x))]) mixedPP Try.func51 (c := bodyOf Try.f51) (by kernel_rfl) (by kernel_rfl) (by kernel_rfl) (Eq.mpr (E_maps_Keys_map_int_api_Tuple_int_api_Tuple_1 g0_yield_f g0_yield_c g1_x h Q) H)
def F_math_bits_Len32 (g0_x : Int) (h : Hp) (Q : List Value → Hp → Prop) : Prop :=
∀ J1 : List Value → Hp → Prop, (∀ n2 : Int, ∀ n3 : Int, ∀ h4 : Hp, (∀ J5 : List Value → Hp → Prop, (∀ n6 : Int, ∀ n7 : Int, ∀ h8 : Hp, (ixOk (IntKind.wrap .u8 n6) (ByteArray.size (ByteArray.mk #[0, 1, 2, 2, 3, 3, 3, 3, 4, 4, 4, 4, 4, 4, 4, 4, 5, 5, 5, 5, 5, 5, 5, 5, 5, 5, 5, 5, 5, 5, 5, 5, 6, 6, 6, 6, 6, 6, 6, 6, 6, 6, 6, 6, 6, 6, 6, 6, 6, 6, 6, 6, 6, 6, 6, 6, 6, 6, 6, 6, 6, 6, 6, 6, 7, 7, 7, 7, 7, 7, 7, 7, 7, 7, 7, 7, 7, 7, 7, 7, 7, 7, 7, 7, 7, 7, 7, 7, 7, 7, 7, 7, 7, 7, 7, 7, 7, 7, 7, 7, 7, 7, 7, 7, 7, 7, 7, 7, 7, 7, 7, 7, 7, 7, 7, 7, 7, 7, 7, 7, 7, 7, 7, 7, 7, 7, 7, 7, 8, 8, 8, 8, 8, 8, 8, 8, 8, 8, 8, 8, 8, 8, 8, 8, 8, 8, 8, 8, 8, 8, 8, 8, 8, 8, 8, 8, 8, 8, 8, 8, 8, 8, 8, 8, 8, 8, 8, 8, 8, 8, 8, 8, 8, 8, 8, 8, 8, 8, 8, 8, 8, 8, 8, 8, 8, 8, 8, 8, 8, 8, 8, 8, 8, 8, 8, 8, 8, 8, 8, 8, 8, 8, 8, 8, 8, 8, 8, 8, 8, 8, 8, 8, 8, 8, 8, 8, 8, 8, 8, 8, 8, 8, 8, 8, 8, 8, 8, 8, 8, 8, 8, 8, 8, 8, 8, 8, 8, 8, 8, 8, 8, 8, 8, 8, 8, 8, 8, 8, 8, 8, 8, 8, 8, 8, 8, 8])) (Q [(Value.int .i64 (IntKind.wrap .i64 (n7 + (IntKind.wrap .i64 (strIx (ByteArray.mk #[0, 1, 2, 2, 3, 3, 3, 3, 4, 4, 4, 4, 4, 4, 4, 4, 5, 5, 5, 5, 5, 5, 5, 5, 5, 5, 5, 5, 5, 5, 5, 5, 6, 6, 6, 6, 6, 6, 6, 6, 6, 6, 6, 6, 6, 6, 6, 6, 6, 6, 6, 6, 6, 6, 6, 6, 6, 6, 6, 6, 6, 6, 6, 6, 7, 7, 7, 7, 7, 7, 7, 7, 7, 7, 7, 7, 7, 7, 7, 7, 7, 7, 7, 7, 7, 7, 7, 7, 7, 7, 7, 7, 7, 7, 7, 7, 7, 7, 7, 7, 7, 7, 7, 7, 7, 7, 7, 7, 7, 7, 7, 7, 7, 7, 7, 7, 7, 7, 7, 7, 7, 7, 7, 7, 7, 7, 7, 7, 8, 8, 8, 8, 8, 8, 8, 8, 8, 8, 8, 8, 8, 8, 8, 8, 8, 8, 8, 8, 8, 8, 8, 8, 8, 8, 8, 8, 8, 8, 8, 8, 8, 8, 8, 8, 8, 8, 8, 8, 8, 8, 8, 8, 8, 8, 8, 8, 8, 8, 8, 8, 8, 8, 8, 8, 8, 8, 8, 8, 8, 8, 8, 8, 8, 8, 8, 8, 8, 8, 8, 8, 8, 8, 8, 8, 8, 8, 8, 8, 8, 8, 8, 8, 8, 8, 8, 8, 8, 8, 8, 8, 8, 8, 8, 8, 8, 8, 8, 8, 8, 8, 8, 8, 8, 8, 8, 8, 8, 8, 8, 8, 8, 8, 8, 8, 8, 8, 8, 8, 8, 8, 8, 8, 8, 8, 8, 8]) (IntKind.wrap .u8 n6))))))] h8)) → J5 [(Value.int .u32 n6), (Value.int .i64 n7)] h8) →
    (if (decide (n2 ≥ (256 : Int))) = true then
      (shOk (8 : Int) (J5 [(Value.int .u32 (iShr .u32 n2 (8 : Int))), (Value.int .i64 (IntKind.wrap .i64 (n3 + (8 : Int))))] h4)) else
      (J5 [(Value.int .u32 n2), (Value.int .i64 n3)] h4))) → J1 [(Value.int .u32 n2), (Value.int .i64 n3)] h4) →
(if (decide (g0_x ≥ (65536 : Int))) = true then
  (shOk (16 : Int) (J1 [(Value.int .u32 (iShr .u32 g0_x (16 : Int))), (Value.int .i64 (16 : Int))] h)) else
  (J1 [(Value.int .u32 g0_x), (Value.int .i64 (0 : Int))] h))
def A_math_bits_Len32 : Ann := (.mk none ⟨[], []⟩ .nil (.mk none ⟨[], []⟩ (.mk none ⟨[], []⟩ .nil (.mk (some ⟨[], [(0, (.c (.int .u32))), (2, (.c (.int .i64)))]⟩) ⟨[], []⟩ .nil .nil)) (.mk none ⟨[], []⟩ (.mk none ⟨[], []⟩ .nil (.mk (some ⟨[], [(0, (.c (.int .u32))), (2, (.c (.int .i64)))]⟩) ⟨[], []⟩ .nil .nil)) .nil)))
theorem E_math_bits_Len32 (g0_x : Int) (h : Hp) (Q : List Value → Hp → Prop) : cw PP 19 (fun _ => []) (bodyOf Try.f68) A_math_bits_Len32 (finQ PP (Try.f68.results.toList) Q) (argFr [(Value.int .u32 g0_x)]) h = F_math_bits_Len32 g0_x h Q := by kernel_rfl
theorem O_math_bits_Len32 (g0_x : Int) {h : Hp} {Q : List Value → Hp → Prop} (H : F_math_bits_Len32 g0_x h Q) : S_math_bits_Len32 g0_x h Q :=
  fn_of_cw (hs := (fun _ => [])) (ann := A_math_bits_Len32) (args := [(Value.int .u32 g0_x)]) mixedPP Try.func68 (c := bodyOf Try.f68) (by kernel_rfl) (by kernel_rfl) (by kernel_rfl) (Eq.mpr (E_math_bits_Len32 g0_x h Q) H)
end Go.Lift

/- Printed by lift.py: each Go function of this seat as a Prop over the heap, and that the Go code comes to it. -/
import Derived.Test.YtfkamdkocmkkpaaLvL
import Derived.Test.YtfkamdkocmkkpaaProg
set_option linter.unusedSimpArgs false
set_option linter.unusedVariables false
namespace Go.Lift
open Go Go.Proofs
set_option maxRecDepth 100000
noncomputable abbrev PP : Program := Try.prog
theorem mixedPP : PP.follows .mixedOrders = true := by kernel_rfl
def bodyOf (f : Func) : Code := f.body.getD .skip
abbrev T_int : TypeId := 3
abbrev T_liverylaw14_Step : TypeId := 29
abbrev T_21_21_bool : TypeId := 39
abbrev T_2_int : TypeId := 42
abbrev T_liveryref08_Log : TypeId := 52
abbrev T_liveryref14_Edges : TypeId := 55
abbrev T_liverylaw08_Step : TypeId := 58
abbrev T_clog_tx : TypeId := 61
abbrev T_clog_Log : TypeId := 64
abbrev T_map_2_int_int : TypeId := 65
abbrev T_edge_Edges : TypeId := 68
abbrev T_liveryref08_Tx : TypeId := 89
abbrev T_liveryref14_Verdict : TypeId := 92
abbrev T_slices_xorshift : TypeId := 121
/-- main.main -/
def S_main_main (h : Hp) (Q : List Value → Hp → Prop) : Prop := Fn PP 0 #[] h Q
/-- gosem.cut -/
def S_gosem_cut (h : Hp) (Q : List Value → Hp → Prop) : Prop := Fn PP 1 #[] h Q
/-- gosem.cut.init -/
def S_gosem_cut_init (h : Hp) (Q : List Value → Hp → Prop) : Prop := Fn PP 2 #[] h Q
/-- livery/clog.New -/
def S_clog_New (h : Hp) (Q : List Value → Hp → Prop) : Prop := Fn PP 7 #[] h Q
/-- livery/edge.New -/
def S_edge_New (g0_l : Option Addr) (h : Hp) (Q : List Value → Hp → Prop) : Prop := Fn PP 8 #[(Value.pointer g0_l)] h Q
/-- (*livery/clog.Log).Begin -/
def S_clog_Log_Begin (g0_l : Option Addr) (g1_reads : Bool) (h : Hp) (Q : List Value → Hp → Prop) : Prop := Fn PP 10 #[(Value.pointer g0_l), (Value.bool g1_reads)] h Q
/-- (*livery/clog.Log).get -/
def S_clog_Log_get (g0_l : Option Addr) (g1_xid : Int) (h : Hp) (Q : List Value → Hp → Prop) : Prop := Fn PP 38 #[(Value.pointer g0_l), (Value.int .i64 g1_xid)] h Q
/-- (*livery/clog.Log).ends -/
def S_clog_Log_ends (g0_l : Option Addr) (g1_xid : Int) (h : Hp) (Q : List Value → Hp → Prop) : Prop := Fn PP 33 #[(Value.pointer g0_l), (Value.int .i64 g1_xid)] h Q
/-- (*livery/clog.Log).Commit -/
def S_clog_Log_Commit (g0_l : Option Addr) (g1_xid : Int) (h : Hp) (Q : List Value → Hp → Prop) : Prop := Fn PP 11 #[(Value.pointer g0_l), (Value.int .i64 g1_xid)] h Q
/-- (*livery/clog.Log).Sees -/
def S_clog_Log_Sees (g0_l : Option Addr) (g1_xid : Int) (g2_other : Int) (h : Hp) (Q : List Value → Hp → Prop) : Prop := Fn PP 16 #[(Value.pointer g0_l), (Value.int .i64 g1_xid), (Value.int .i64 g2_other)] h Q
/-- (*livery/clog.Log).Beside -/
def S_clog_Log_Beside (g0_l : Option Addr) (g1_a : Int) (g2_b : Int) (h : Hp) (Q : List Value → Hp → Prop) : Prop := Fn PP 19 #[(Value.pointer g0_l), (Value.int .i64 g1_a), (Value.int .i64 g2_b)] h Q
/-- (*livery/edge.Edges).none -/
def S_edge_Edges_none (g0_e : Option Addr) (h : Hp) (Q : List Value → Hp → Prop) : Prop := Fn PP 34 #[(Value.pointer g0_e)] h Q
/-- (*livery/edge.Edges).Add -/
def S_edge_Edges_Add (g0_e : Option Addr) (g1_a : Int) (g2_b : Int) (h : Hp) (Q : List Value → Hp → Prop) : Prop := Fn PP 14 #[(Value.pointer g0_e), (Value.int .i64 g1_a), (Value.int .i64 g2_b)] h Q
/-- (*livery/clog.Log).one -/
def S_clog_Log_one (g0_l : Option Addr) (g1_xid : Int) (h : Hp) (Q : List Value → Hp → Prop) : Prop := Fn PP 37 #[(Value.pointer g0_l), (Value.int .i64 g1_xid)] h Q
/-- (*livery/clog.Log).State -/
def S_clog_Log_State (g0_l : Option Addr) (g1_xid : Int) (h : Hp) (Q : List Value → Hp → Prop) : Prop := Fn PP 15 #[(Value.pointer g0_l), (Value.int .i64 g1_xid)] h Q
/-- math/bits.Len64 -/
def S_math_bits_Len64 (g0_x : Int) (h : Hp) (Q : List Value → Hp → Prop) : Prop := Fn PP 79 #[(Value.int .u64 g0_x)] h Q
/-- math/bits.Len -/
def S_math_bits_Len (g0_x : Int) (h : Hp) (Q : List Value → Hp → Prop) : Prop := Fn PP 68 #[(Value.int .u64 g0_x)] h Q
/-- cmp.isNaN[int] -/
def S_cmp_isNaN_int (g0_x : Int) (h : Hp) (Q : List Value → Hp → Prop) : Prop := Fn PP 62 #[(Value.int .i64 g0_x)] h Q
/-- cmp.Less[int] -/
def S_cmp_Less_int (g0_x : Int) (g1_y : Int) (h : Hp) (Q : List Value → Hp → Prop) : Prop := Fn PP 86 #[(Value.int .i64 g0_x), (Value.int .i64 g1_y)] h Q
/-- slices.insertionSortOrdered[int] -/
def S_slices_insertionSortOrdered_int (g0_data : Sl) (g1_a : Int) (g2_b : Int) (h : Hp) (Q : List Value → Hp → Prop) : Prop := Fn PP 80 #[(Value.slice g0_data.a g0_data.n g0_data.c), (Value.int .i64 g1_a), (Value.int .i64 g2_b)] h Q
/-- slices.siftDownOrdered[int] -/
def S_slices_siftDownOrdered_int (g0_data : Sl) (g1_lo : Int) (g2_hi : Int) (g3_first : Int) (h : Hp) (Q : List Value → Hp → Prop) : Prop := Fn PP 94 #[(Value.slice g0_data.a g0_data.n g0_data.c), (Value.int .i64 g1_lo), (Value.int .i64 g2_hi), (Value.int .i64 g3_first)] h Q
/-- slices.heapSortOrdered[int] -/
def S_slices_heapSortOrdered_int (g0_data : Sl) (g1_a : Int) (g2_b : Int) (h : Hp) (Q : List Value → Hp → Prop) : Prop := Fn PP 81 #[(Value.slice g0_data.a g0_data.n g0_data.c), (Value.int .i64 g1_a), (Value.int .i64 g2_b)] h Q
/-- slices.nextPowerOfTwo -/
def S_slices_nextPowerOfTwo (g0_length : Int) (h : Hp) (Q : List Value → Hp → Prop) : Prop := Fn PP 90 #[(Value.int .i64 g0_length)] h Q
/-- (*slices.xorshift).Next -/
def S_slices_xorshift_Next (g0_r : Option Addr) (h : Hp) (Q : List Value → Hp → Prop) : Prop := Fn PP 91 #[(Value.pointer g0_r)] h Q
/-- slices.breakPatternsOrdered[int] -/
def S_slices_breakPatternsOrdered_int (g0_data : Sl) (g1_a : Int) (g2_b : Int) (h : Hp) (Q : List Value → Hp → Prop) : Prop := Fn PP 82 #[(Value.slice g0_data.a g0_data.n g0_data.c), (Value.int .i64 g1_a), (Value.int .i64 g2_b)] h Q
/-- slices.order2Ordered[int] -/
def S_slices_order2Ordered_int (g0_data : Sl) (g1_a : Int) (g2_b : Int) (g3_swaps : Option Addr) (h : Hp) (Q : List Value → Hp → Prop) : Prop := Fn PP 98 #[(Value.slice g0_data.a g0_data.n g0_data.c), (Value.int .i64 g1_a), (Value.int .i64 g2_b), (Value.pointer g3_swaps)] h Q
/-- slices.medianOrdered[int] -/
def S_slices_medianOrdered_int (g0_data : Sl) (g1_a : Int) (g2_b : Int) (g3_c : Int) (g4_swaps : Option Addr) (h : Hp) (Q : List Value → Hp → Prop) : Prop := Fn PP 96 #[(Value.slice g0_data.a g0_data.n g0_data.c), (Value.int .i64 g1_a), (Value.int .i64 g2_b), (Value.int .i64 g3_c), (Value.pointer g4_swaps)] h Q
/-- slices.medianAdjacentOrdered[int] -/
def S_slices_medianAdjacentOrdered_int (g0_data : Sl) (g1_a : Int) (g2_swaps : Option Addr) (h : Hp) (Q : List Value → Hp → Prop) : Prop := Fn PP 95 #[(Value.slice g0_data.a g0_data.n g0_data.c), (Value.int .i64 g1_a), (Value.pointer g2_swaps)] h Q
/-- slices.choosePivotOrdered[int] -/
def S_slices_choosePivotOrdered_int (g0_data : Sl) (g1_a : Int) (g2_b : Int) (h : Hp) (Q : List Value → Hp → Prop) : Prop := Fn PP 83 #[(Value.slice g0_data.a g0_data.n g0_data.c), (Value.int .i64 g1_a), (Value.int .i64 g2_b)] h Q
/-- slices.reverseRangeOrdered[int] -/
def S_slices_reverseRangeOrdered_int (g0_data : Sl) (g1_a : Int) (g2_b : Int) (h : Hp) (Q : List Value → Hp → Prop) : Prop := Fn PP 84 #[(Value.slice g0_data.a g0_data.n g0_data.c), (Value.int .i64 g1_a), (Value.int .i64 g2_b)] h Q
/-- slices.partialInsertionSortOrdered[int] -/
def S_slices_partialInsertionSortOrdered_int (g0_data : Sl) (g1_a : Int) (g2_b : Int) (h : Hp) (Q : List Value → Hp → Prop) : Prop := Fn PP 85 #[(Value.slice g0_data.a g0_data.n g0_data.c), (Value.int .i64 g1_a), (Value.int .i64 g2_b)] h Q
/-- slices.partitionEqualOrdered[int] -/
def S_slices_partitionEqualOrdered_int (g0_data : Sl) (g1_a : Int) (g2_b : Int) (g3_pivot : Int) (h : Hp) (Q : List Value → Hp → Prop) : Prop := Fn PP 87 #[(Value.slice g0_data.a g0_data.n g0_data.c), (Value.int .i64 g1_a), (Value.int .i64 g2_b), (Value.int .i64 g3_pivot)] h Q
/-- slices.partitionOrdered[int] -/
def S_slices_partitionOrdered_int (g0_data : Sl) (g1_a : Int) (g2_b : Int) (g3_pivot : Int) (h : Hp) (Q : List Value → Hp → Prop) : Prop := Fn PP 88 #[(Value.slice g0_data.a g0_data.n g0_data.c), (Value.int .i64 g1_a), (Value.int .i64 g2_b), (Value.int .i64 g3_pivot)] h Q
/-- slices.pdqsortOrdered[int] -/
def S_slices_pdqsortOrdered_int (g0_data : Sl) (g1_a : Int) (g2_b : Int) (g3_limit : Int) (h : Hp) (Q : List Value → Hp → Prop) : Prop := Fn PP 69 #[(Value.slice g0_data.a g0_data.n g0_data.c), (Value.int .i64 g1_a), (Value.int .i64 g2_b), (Value.int .i64 g3_limit)] h Q
/-- slices.Sort[[]int,int] -/
def S_slices_Sort_sint_int (g0_x : Sl) (h : Hp) (Q : List Value → Hp → Prop) : Prop := Fn PP 63 #[(Value.slice g0_x.a g0_x.n g0_x.c)] h Q
/-- (*livery/edge.Edges).ends -/
def S_edge_Edges_ends (g0_e : Option Addr) (g1_xid : Int) (g2_end : Int) (h : Hp) (Q : List Value → Hp → Prop) : Prop := Fn PP 46 #[(Value.pointer g0_e), (Value.int .i64 g1_xid), (Value.int .i64 g2_end)] h Q
/-- (*livery/edge.Edges).In -/
def S_edge_Edges_In (g0_e : Option Addr) (g1_xid : Int) (h : Hp) (Q : List Value → Hp → Prop) : Prop := Fn PP 20 #[(Value.pointer g0_e), (Value.int .i64 g1_xid)] h Q
/-- (*livery/clog.Log).Reads -/
def S_clog_Log_Reads (g0_l : Option Addr) (g1_xid : Int) (h : Hp) (Q : List Value → Hp → Prop) : Prop := Fn PP 22 #[(Value.pointer g0_l), (Value.int .i64 g1_xid)] h Q
/-- (*livery/clog.Log).Snapshot -/
def S_clog_Log_Snapshot (g0_l : Option Addr) (g1_xid : Int) (h : Hp) (Q : List Value → Hp → Prop) : Prop := Fn PP 23 #[(Value.pointer g0_l), (Value.int .i64 g1_xid)] h Q
/-- (*livery/edge.Edges).Out -/
def S_edge_Edges_Out (g0_e : Option Addr) (g1_xid : Int) (h : Hp) (Q : List Value → Hp → Prop) : Prop := Fn PP 24 #[(Value.pointer g0_e), (Value.int .i64 g1_xid)] h Q
/-- (*livery/clog.Log).Csn -/
def S_clog_Log_Csn (g0_l : Option Addr) (g1_xid : Int) (h : Hp) (Q : List Value → Hp → Prop) : Prop := Fn PP 45 #[(Value.pointer g0_l), (Value.int .i64 g1_xid)] h Q
/-- (*livery/edge.Edges).first -/
def S_edge_Edges_first (g0_e : Option Addr) (g1_p : Int) (h : Hp) (Q : List Value → Hp → Prop) : Prop := Fn PP 44 #[(Value.pointer g0_e), (Value.int .i64 g1_p)] h Q
/-- (*livery/edge.Edges).Spoilt -/
def S_edge_Edges_Spoilt (g0_e : Option Addr) (g1_p : Int) (h : Hp) (Q : List Value → Hp → Prop) : Prop := Fn PP 18 #[(Value.pointer g0_e), (Value.int .i64 g1_p)] h Q
/-- (*livery/edge.Edges).Ahead -/
def S_edge_Edges_Ahead (g0_e : Option Addr) (g1_t3 : Int) (h : Hp) (Q : List Value → Hp → Prop) : Prop := Fn PP 26 #[(Value.pointer g0_e), (Value.int .i64 g1_t3)] h Q
/-- livery/liverykeep.Ints -/
def S_liverykeep_Ints (g0_a : Sl) (g1_b : Sl) (h : Hp) (Q : List Value → Hp → Prop) : Prop := Fn PP 32 #[(Value.slice g0_a.a g0_a.n g0_a.c), (Value.slice g1_b.a g1_b.n g1_b.c)] h Q
/-- livery/liverylaw14.wakes -/
def S_liverylaw14_wakes (h : Hp) (Q : List Value → Hp → Prop) : Prop := Fn PP 9 #[] h Q
/-- (*livery/clog.Log).Abort -/
def S_clog_Log_Abort (g0_l : Option Addr) (g1_xid : Int) (h : Hp) (Q : List Value → Hp → Prop) : Prop := Fn PP 12 #[(Value.pointer g0_l), (Value.int .i64 g1_xid)] h Q
/-- maps.DeleteFunc[map[[2]int]int,[2]int,int] -/
def S_maps_DeleteFunc_map_2_int_int_2_int_int (g0_m : Option Nat) (g1_del_f : Nat) (g1_del_c : Array Value) (h : Hp) (Q : List Value → Hp → Prop) : Prop := Fn PP 35 #[(Value.map g0_m), (Value.func (.func g1_del_f) #[] g1_del_c)] h Q
/-- (*livery/edge.Edges).Drop -/
def S_edge_Edges_Drop (g0_e : Option Addr) (g1_xid : Int) (h : Hp) (Q : List Value → Hp → Prop) : Prop := Fn PP 13 #[(Value.pointer g0_e), (Value.int .i64 g1_xid)] h Q
/-- slices.AppendSeq[[][2]int,[2]int] -/
def S_slices_AppendSeq_s_2_int_2_int (g0_s : Sl) (g1_seq_f : Nat) (g1_seq_c : Array Value) (h : Hp) (Q : List Value → Hp → Prop) : Prop := Fn PP 66 #[(Value.slice g0_s.a g0_s.n g0_s.c), (Value.func (.func g1_seq_f) #[] g1_seq_c)] h Q
/-- slices.Collect[[2]int] -/
def S_slices_Collect_2_int (g0_seq_f : Nat) (g0_seq_c : Array Value) (h : Hp) (Q : List Value → Hp → Prop) : Prop := Fn PP 59 #[(Value.func (.func g0_seq_f) #[] g0_seq_c)] h Q
/-- slices.insertionSortCmpFunc[[2]int] -/
def S_slices_insertionSortCmpFunc_2_int (g0_data : Sl) (g1_a : Int) (g2_b : Int) (g3_cmp_f : Nat) (g3_cmp_c : Array Value) (h : Hp) (Q : List Value → Hp → Prop) : Prop := Fn PP 70 #[(Value.slice g0_data.a g0_data.n g0_data.c), (Value.int .i64 g1_a), (Value.int .i64 g2_b), (Value.func (.func g3_cmp_f) #[] g3_cmp_c)] h Q
/-- slices.siftDownCmpFunc[[2]int] -/
def S_slices_siftDownCmpFunc_2_int (g0_data : Sl) (g1_lo : Int) (g2_hi : Int) (g3_first : Int) (g4_cmp_f : Nat) (g4_cmp_c : Array Value) (h : Hp) (Q : List Value → Hp → Prop) : Prop := Fn PP 89 #[(Value.slice g0_data.a g0_data.n g0_data.c), (Value.int .i64 g1_lo), (Value.int .i64 g2_hi), (Value.int .i64 g3_first), (Value.func (.func g4_cmp_f) #[] g4_cmp_c)] h Q
/-- slices.heapSortCmpFunc[[2]int] -/
def S_slices_heapSortCmpFunc_2_int (g0_data : Sl) (g1_a : Int) (g2_b : Int) (g3_cmp_f : Nat) (g3_cmp_c : Array Value) (h : Hp) (Q : List Value → Hp → Prop) : Prop := Fn PP 71 #[(Value.slice g0_data.a g0_data.n g0_data.c), (Value.int .i64 g1_a), (Value.int .i64 g2_b), (Value.func (.func g3_cmp_f) #[] g3_cmp_c)] h Q
/-- slices.breakPatternsCmpFunc[[2]int] -/
def S_slices_breakPatternsCmpFunc_2_int (g0_data : Sl) (g1_a : Int) (g2_b : Int) (g3_cmp_f : Nat) (g3_cmp_c : Array Value) (h : Hp) (Q : List Value → Hp → Prop) : Prop := Fn PP 72 #[(Value.slice g0_data.a g0_data.n g0_data.c), (Value.int .i64 g1_a), (Value.int .i64 g2_b), (Value.func (.func g3_cmp_f) #[] g3_cmp_c)] h Q
/-- slices.order2CmpFunc[[2]int] -/
def S_slices_order2CmpFunc_2_int (g0_data : Sl) (g1_a : Int) (g2_b : Int) (g3_swaps : Option Addr) (g4_cmp_f : Nat) (g4_cmp_c : Array Value) (h : Hp) (Q : List Value → Hp → Prop) : Prop := Fn PP 97 #[(Value.slice g0_data.a g0_data.n g0_data.c), (Value.int .i64 g1_a), (Value.int .i64 g2_b), (Value.pointer g3_swaps), (Value.func (.func g4_cmp_f) #[] g4_cmp_c)] h Q
/-- slices.medianCmpFunc[[2]int] -/
def S_slices_medianCmpFunc_2_int (g0_data : Sl) (g1_a : Int) (g2_b : Int) (g3_c : Int) (g4_swaps : Option Addr) (g5_cmp_f : Nat) (g5_cmp_c : Array Value) (h : Hp) (Q : List Value → Hp → Prop) : Prop := Fn PP 93 #[(Value.slice g0_data.a g0_data.n g0_data.c), (Value.int .i64 g1_a), (Value.int .i64 g2_b), (Value.int .i64 g3_c), (Value.pointer g4_swaps), (Value.func (.func g5_cmp_f) #[] g5_cmp_c)] h Q
/-- slices.medianAdjacentCmpFunc[[2]int] -/
def S_slices_medianAdjacentCmpFunc_2_int (g0_data : Sl) (g1_a : Int) (g2_swaps : Option Addr) (g3_cmp_f : Nat) (g3_cmp_c : Array Value) (h : Hp) (Q : List Value → Hp → Prop) : Prop := Fn PP 92 #[(Value.slice g0_data.a g0_data.n g0_data.c), (Value.int .i64 g1_a), (Value.pointer g2_swaps), (Value.func (.func g3_cmp_f) #[] g3_cmp_c)] h Q
/-- slices.choosePivotCmpFunc[[2]int] -/
def S_slices_choosePivotCmpFunc_2_int (g0_data : Sl) (g1_a : Int) (g2_b : Int) (g3_cmp_f : Nat) (g3_cmp_c : Array Value) (h : Hp) (Q : List Value → Hp → Prop) : Prop := Fn PP 73 #[(Value.slice g0_data.a g0_data.n g0_data.c), (Value.int .i64 g1_a), (Value.int .i64 g2_b), (Value.func (.func g3_cmp_f) #[] g3_cmp_c)] h Q
/-- slices.reverseRangeCmpFunc[[2]int] -/
def S_slices_reverseRangeCmpFunc_2_int (g0_data : Sl) (g1_a : Int) (g2_b : Int) (g3_cmp_f : Nat) (g3_cmp_c : Array Value) (h : Hp) (Q : List Value → Hp → Prop) : Prop := Fn PP 74 #[(Value.slice g0_data.a g0_data.n g0_data.c), (Value.int .i64 g1_a), (Value.int .i64 g2_b), (Value.func (.func g3_cmp_f) #[] g3_cmp_c)] h Q
/-- slices.partialInsertionSortCmpFunc[[2]int] -/
def S_slices_partialInsertionSortCmpFunc_2_int (g0_data : Sl) (g1_a : Int) (g2_b : Int) (g3_cmp_f : Nat) (g3_cmp_c : Array Value) (h : Hp) (Q : List Value → Hp → Prop) : Prop := Fn PP 75 #[(Value.slice g0_data.a g0_data.n g0_data.c), (Value.int .i64 g1_a), (Value.int .i64 g2_b), (Value.func (.func g3_cmp_f) #[] g3_cmp_c)] h Q
/-- slices.partitionEqualCmpFunc[[2]int] -/
def S_slices_partitionEqualCmpFunc_2_int (g0_data : Sl) (g1_a : Int) (g2_b : Int) (g3_pivot : Int) (g4_cmp_f : Nat) (g4_cmp_c : Array Value) (h : Hp) (Q : List Value → Hp → Prop) : Prop := Fn PP 76 #[(Value.slice g0_data.a g0_data.n g0_data.c), (Value.int .i64 g1_a), (Value.int .i64 g2_b), (Value.int .i64 g3_pivot), (Value.func (.func g4_cmp_f) #[] g4_cmp_c)] h Q
/-- slices.partitionCmpFunc[[2]int] -/
def S_slices_partitionCmpFunc_2_int (g0_data : Sl) (g1_a : Int) (g2_b : Int) (g3_pivot : Int) (g4_cmp_f : Nat) (g4_cmp_c : Array Value) (h : Hp) (Q : List Value → Hp → Prop) : Prop := Fn PP 77 #[(Value.slice g0_data.a g0_data.n g0_data.c), (Value.int .i64 g1_a), (Value.int .i64 g2_b), (Value.int .i64 g3_pivot), (Value.func (.func g4_cmp_f) #[] g4_cmp_c)] h Q
/-- slices.pdqsortCmpFunc[[2]int] -/
def S_slices_pdqsortCmpFunc_2_int (g0_data : Sl) (g1_a : Int) (g2_b : Int) (g3_limit : Int) (g4_cmp_f : Nat) (g4_cmp_c : Array Value) (h : Hp) (Q : List Value → Hp → Prop) : Prop := Fn PP 67 #[(Value.slice g0_data.a g0_data.n g0_data.c), (Value.int .i64 g1_a), (Value.int .i64 g2_b), (Value.int .i64 g3_limit), (Value.func (.func g4_cmp_f) #[] g4_cmp_c)] h Q
/-- slices.SortFunc[[][2]int,[2]int] -/
def S_slices_SortFunc_s_2_int_2_int (g0_x : Sl) (g1_cmp_f : Nat) (g1_cmp_c : Array Value) (h : Hp) (Q : List Value → Hp → Prop) : Prop := Fn PP 60 #[(Value.slice g0_x.a g0_x.n g0_x.c), (Value.func (.func g1_cmp_f) #[] g1_cmp_c)] h Q
/-- slices.SortedFunc[[2]int] -/
def S_slices_SortedFunc_2_int (g0_seq_f : Nat) (g0_seq_c : Array Value) (g1_cmp_f : Nat) (g1_cmp_c : Array Value) (h : Hp) (Q : List Value → Hp → Prop) : Prop := Fn PP 39 #[(Value.func (.func g0_seq_f) #[] g0_seq_c), (Value.func (.func g1_cmp_f) #[] g1_cmp_c)] h Q
/-- maps.Keys[map[[2]int]int,[2]int,int] -/
def S_maps_Keys_map_2_int_int_2_int_int (g0_m : Option Nat) (h : Hp) (Q : List Value → Hp → Prop) : Prop := Fn PP 40 #[(Value.map g0_m)] h Q
/-- (*livery/edge.Edges).All -/
def S_edge_Edges_All (g0_e : Option Addr) (h : Hp) (Q : List Value → Hp → Prop) : Prop := Fn PP 17 #[(Value.pointer g0_e)] h Q
/-- livery/liverylaw14.EdgeCircles -/
def S_liverylaw14_EdgeCircles (g0_steps : Sl) (h : Hp) (Q : List Value → Hp → Prop) : Prop := Fn PP 3 #[(Value.slice g0_steps.a g0_steps.n g0_steps.c)] h Q
/-- (*livery/edge.Edges).Old -/
def S_edge_Edges_Old (g0_e : Option Addr) (g1_xid : Int) (h : Hp) (Q : List Value → Hp → Prop) : Prop := Fn PP 21 #[(Value.pointer g0_e), (Value.int .i64 g1_xid)] h Q
/-- livery/liverylaw14.EdgeBeside -/
def S_liverylaw14_EdgeBeside (g0_steps : Sl) (h : Hp) (Q : List Value → Hp → Prop) : Prop := Fn PP 4 #[(Value.slice g0_steps.a g0_steps.n g0_steps.c)] h Q
/-- (*livery/edge.Edges).OldIn -/
def S_edge_Edges_OldIn (g0_e : Option Addr) (g1_b : Int) (g2_csn : Int) (h : Hp) (Q : List Value → Hp → Prop) : Prop := Fn PP 25 #[(Value.pointer g0_e), (Value.int .i64 g1_b), (Value.int .i64 g2_csn)] h Q
/-- livery/liverylaw14.EdgeNone -/
def S_liverylaw14_EdgeNone (g0_a : Int) (g1_b : Int) (h : Hp) (Q : List Value → Hp → Prop) : Prop := Fn PP 5 #[(Value.int .i64 g0_a), (Value.int .i64 g1_b)] h Q
/-- (*livery/liveryref08.Log).Begin -/
def S_liveryref08_Log_Begin (g0_l : Option Addr) (g1_reads : Bool) (h : Hp) (Q : List Value → Hp → Prop) : Prop := Fn PP 47 #[(Value.pointer g0_l), (Value.bool g1_reads)] h Q
/-- (*livery/liveryref08.Log).Get -/
def S_liveryref08_Log_Get (g0_l : Option Addr) (g1_xid : Int) (h : Hp) (Q : List Value → Hp → Prop) : Prop := Fn PP 53 #[(Value.pointer g0_l), (Value.int .i64 g1_xid)] h Q
/-- (*livery/liveryref08.Log).Commit -/
def S_liveryref08_Log_Commit (g0_l : Option Addr) (g1_xid : Int) (h : Hp) (Q : List Value → Hp → Prop) : Prop := Fn PP 48 #[(Value.pointer g0_l), (Value.int .i64 g1_xid)] h Q
/-- (*livery/liveryref08.Log).Abort -/
def S_liveryref08_Log_Abort (g0_l : Option Addr) (g1_xid : Int) (h : Hp) (Q : List Value → Hp → Prop) : Prop := Fn PP 49 #[(Value.pointer g0_l), (Value.int .i64 g1_xid)] h Q
/-- livery/liverylaw08.Play -/
def S_liverylaw08_Play (g0_l : Option Addr) (g1_q : Option Addr) (g2_x_0 : Int) (g2_x_1 : Int) (g2_x_2 : Bool) (h : Hp) (Q : List Value → Hp → Prop) : Prop := Fn PP 27 #[(Value.pointer g0_l), (Value.pointer g1_q), (Value.agg #[(Value.int .i64 g2_x_0), (Value.int .i64 g2_x_1), (Value.bool g2_x_2)])] h Q
/-- (*livery/liveryref14.Edges).Drop -/
def S_liveryref14_Edges_Drop (g0_e : Option Addr) (g1_xid : Int) (h : Hp) (Q : List Value → Hp → Prop) : Prop := Fn PP 28 #[(Value.pointer g0_e), (Value.int .i64 g1_xid)] h Q
/-- (*livery/liveryref08.Log).Sees -/
def S_liveryref08_Log_Sees (g0_l : Option Addr) (g1_xid : Int) (g2_other : Int) (h : Hp) (Q : List Value → Hp → Prop) : Prop := Fn PP 64 #[(Value.pointer g0_l), (Value.int .i64 g1_xid), (Value.int .i64 g2_other)] h Q
/-- (*livery/liveryref08.Log).Beside -/
def S_liveryref08_Log_Beside (g0_l : Option Addr) (g1_a : Int) (g2_b : Int) (h : Hp) (Q : List Value → Hp → Prop) : Prop := Fn PP 50 #[(Value.pointer g0_l), (Value.int .i64 g1_a), (Value.int .i64 g2_b)] h Q
/-- (*livery/liveryref14.Edges).at -/
def S_liveryref14_Edges_at (g0_e : Option Addr) (g1_a : Int) (g2_b : Int) (h : Hp) (Q : List Value → Hp → Prop) : Prop := Fn PP 52 #[(Value.pointer g0_e), (Value.int .i64 g1_a), (Value.int .i64 g2_b)] h Q
/-- (*livery/liveryref14.Edges).Has -/
def S_liveryref14_Edges_Has (g0_e : Option Addr) (g1_a : Int) (g2_b : Int) (h : Hp) (Q : List Value → Hp → Prop) : Prop := Fn PP 51 #[(Value.pointer g0_e), (Value.int .i64 g1_a), (Value.int .i64 g2_b)] h Q
/-- (*livery/liveryref14.Edges).Add -/
def S_liveryref14_Edges_Add (g0_e : Option Addr) (g1_a : Int) (g2_b : Int) (h : Hp) (Q : List Value → Hp → Prop) : Prop := Fn PP 29 #[(Value.pointer g0_e), (Value.int .i64 g1_a), (Value.int .i64 g2_b)] h Q
/-- (*livery/liveryref14.Edges).Old -/
def S_liveryref14_Edges_Old (g0_e : Option Addr) (g1_xid : Int) (h : Hp) (Q : List Value → Hp → Prop) : Prop := Fn PP 54 #[(Value.pointer g0_e), (Value.int .i64 g1_xid)] h Q
/-- (*livery/liveryref14.Edges).OldIn -/
def S_liveryref14_Edges_OldIn (g0_e : Option Addr) (g1_b : Int) (g2_csn : Int) (h : Hp) (Q : List Value → Hp → Prop) : Prop := Fn PP 30 #[(Value.pointer g0_e), (Value.int .i64 g1_b), (Value.int .i64 g2_csn)] h Q
/-- (*livery/liveryref14.Edges).In -/
def S_liveryref14_Edges_In (g0_e : Option Addr) (g1_xid : Int) (h : Hp) (Q : List Value → Hp → Prop) : Prop := Fn PP 56 #[(Value.pointer g0_e), (Value.int .i64 g1_xid)] h Q
/-- (*livery/liveryref14.Edges).Out -/
def S_liveryref14_Edges_Out (g0_e : Option Addr) (g1_xid : Int) (h : Hp) (Q : List Value → Hp → Prop) : Prop := Fn PP 57 #[(Value.pointer g0_e), (Value.int .i64 g1_xid)] h Q
/-- livery/liveryref14.put -/
def S_liveryref14_put (g0_l : Sl) (g1_n : Int) (h : Hp) (Q : List Value → Hp → Prop) : Prop := Fn PP 65 #[(Value.slice g0_l.a g0_l.n g0_l.c), (Value.int .i64 g1_n)] h Q
/-- (*livery/liveryref14.Edges).Spoilt -/
def S_liveryref14_Edges_Spoilt (g0_e : Option Addr) (g1_p : Int) (h : Hp) (Q : List Value → Hp → Prop) : Prop := Fn PP 55 #[(Value.pointer g0_e), (Value.int .i64 g1_p)] h Q
/-- (*livery/liveryref14.Edges).Ahead -/
def S_liveryref14_Edges_Ahead (g0_e : Option Addr) (g1_t3 : Int) (h : Hp) (Q : List Value → Hp → Prop) : Prop := Fn PP 58 #[(Value.pointer g0_e), (Value.int .i64 g1_t3)] h Q
/-- livery/liverylaw14.Same -/
def S_liverylaw14_Same (g0_e : Option Addr) (g1_q : Option Addr) (h : Hp) (Q : List Value → Hp → Prop) : Prop := Fn PP 31 #[(Value.pointer g0_e), (Value.pointer g1_q)] h Q
/-- livery/liverylaw14.EdgePlays -/
def S_liverylaw14_EdgePlays (g0_steps : Sl) (h : Hp) (Q : List Value → Hp → Prop) : Prop := Fn PP 6 #[(Value.slice g0_steps.a g0_steps.n g0_steps.c)] h Q
/-- (*livery/edge.Edges).Drop$1 -/
def S_edge_Edges_Drop_1 (g0_x_0 : Int) (g0_x_1 : Int) (g1_x : Int) (g2_x : Addr) (h : Hp) (Q : List Value → Hp → Prop) : Prop := Fn PP 36 #[(Value.agg #[(Value.int .i64 g0_x_0), (Value.int .i64 g0_x_1)]), (Value.int .i64 g1_x), (Value.pointer (some g2_x))] h Q
/-- cmp.Or[int] -/
def S_cmp_Or_int (g0_vals : Sl) (h : Hp) (Q : List Value → Hp → Prop) : Prop := Fn PP 42 #[(Value.slice g0_vals.a g0_vals.n g0_vals.c)] h Q
/-- cmp.Compare[int] -/
def S_cmp_Compare_int (g0_x : Int) (g1_y : Int) (h : Hp) (Q : List Value → Hp → Prop) : Prop := Fn PP 43 #[(Value.int .i64 g0_x), (Value.int .i64 g1_y)] h Q
/-- (*livery/edge.Edges).All$1 -/
def S_edge_Edges_All_1 (g0_a_0 : Int) (g0_a_1 : Int) (g1_b_0 : Int) (g1_b_1 : Int) (h : Hp) (Q : List Value → Hp → Prop) : Prop := Fn PP 41 #[(Value.agg #[(Value.int .i64 g0_a_0), (Value.int .i64 g0_a_1)]), (Value.agg #[(Value.int .i64 g1_b_0), (Value.int .i64 g1_b_1)])] h Q
/-- maps.Keys[map[[2]int]int,[2]int,int]$1 -/
def S_maps_Keys_map_2_int_int_2_int_int_1 (g0_yield_f : Nat) (g0_yield_c : Array Value) (g1_x : Addr) (h : Hp) (Q : List Value → Hp → Prop) : Prop := Fn PP 61 #[(Value.func (.func g0_yield_f) #[] g0_yield_c), (Value.pointer (some g1_x))] h Q
/-- math/bits.Len32 -/
def S_math_bits_Len32 (g0_x : Int) (h : Hp) (Q : List Value → Hp → Prop) : Prop := Fn PP 78 #[(Value.int .u32 g0_x)] h Q
/-- (runtime.boundsError).Error -/
def S_runtime_boundsError_Error (g0_x_0 : Int) (g0_x_1 : Int) (g0_x_2 : Bool) (g0_x_3 : Int) (h : Hp) (Q : List Value → Hp → Prop) : Prop := Fn PP 99 #[(Value.agg #[(Value.int .i64 g0_x_0), (Value.int .i64 g0_x_1), (Value.bool g0_x_2), (Value.int .u8 g0_x_3)])] h Q
/-- (runtime.boundsError).RuntimeError -/
def S_runtime_boundsError_RuntimeError (g0_x_0 : Int) (g0_x_1 : Int) (g0_x_2 : Bool) (g0_x_3 : Int) (h : Hp) (Q : List Value → Hp → Prop) : Prop := Fn PP 100 #[(Value.agg #[(Value.int .i64 g0_x_0), (Value.int .i64 g0_x_1), (Value.bool g0_x_2), (Value.int .u8 g0_x_3)])] h Q
/-- (runtime.errorString).Error -/
def S_runtime_errorString_Error (g0_x : ByteArray) (h : Hp) (Q : List Value → Hp → Prop) : Prop := Fn PP 101 #[(Value.string g0_x)] h Q
/-- (runtime.errorString).RuntimeError -/
def S_runtime_errorString_RuntimeError (g0_x : ByteArray) (h : Hp) (Q : List Value → Hp → Prop) : Prop := Fn PP 102 #[(Value.string g0_x)] h Q
/-- (runtime.plainError).Error -/
def S_runtime_plainError_Error (g0_x : ByteArray) (h : Hp) (Q : List Value → Hp → Prop) : Prop := Fn PP 103 #[(Value.string g0_x)] h Q
/-- (runtime.plainError).RuntimeError -/
def S_runtime_plainError_RuntimeError (g0_x : ByteArray) (h : Hp) (Q : List Value → Hp → Prop) : Prop := Fn PP 104 #[(Value.string g0_x)] h Q
/-- (runtime.errorAddressString).Error -/
def S_runtime_errorAddressString_Error (g0_x_0 : ByteArray) (g0_x_1 : Int) (h : Hp) (Q : List Value → Hp → Prop) : Prop := Fn PP 105 #[(Value.agg #[(Value.string g0_x_0), (Value.int .u64 g0_x_1)])] h Q
/-- (runtime.errorAddressString).RuntimeError -/
def S_runtime_errorAddressString_RuntimeError (g0_x_0 : ByteArray) (g0_x_1 : Int) (h : Hp) (Q : List Value → Hp → Prop) : Prop := Fn PP 106 #[(Value.agg #[(Value.string g0_x_0), (Value.int .u64 g0_x_1)])] h Q
/-- (*runtime.TypeAssertionError).Error -/
def S_runtime_TypeAssertionError_Error (g0_x : Option Addr) (h : Hp) (Q : List Value → Hp → Prop) : Prop := Fn PP 107 #[(Value.pointer g0_x)] h Q
/-- (*runtime.TypeAssertionError).RuntimeError -/
def S_runtime_TypeAssertionError_RuntimeError (g0_x : Option Addr) (h : Hp) (Q : List Value → Hp → Prop) : Prop := Fn PP 108 #[(Value.pointer g0_x)] h Q
/-- (*runtime.PanicNilError).Error -/
def S_runtime_PanicNilError_Error (g0_x : Option Addr) (h : Hp) (Q : List Value → Hp → Prop) : Prop := Fn PP 109 #[(Value.pointer g0_x)] h Q
/-- (*runtime.PanicNilError).RuntimeError -/
def S_runtime_PanicNilError_RuntimeError (g0_x : Option Addr) (h : Hp) (Q : List Value → Hp → Prop) : Prop := Fn PP 110 #[(Value.pointer g0_x)] h Q
/-- (*internal/abi.Type).Align -/
def S_internal_abi_Type_Align (g0_x : Option Addr) (h : Hp) (Q : List Value → Hp → Prop) : Prop := Fn PP 111 #[(Value.pointer g0_x)] h Q
/-- (internal/runtime/maps.unhashableTypeError).Error -/
def S_internal_runtime_maps_unhashableTypeError_Error (g0_x_0 : Option Addr) (h : Hp) (Q : List Value → Hp → Prop) : Prop := Fn PP 112 #[(Value.agg #[(Value.pointer g0_x_0)])] h Q
/-- (internal/runtime/maps.unhashableTypeError).RuntimeError -/
def S_internal_runtime_maps_unhashableTypeError_RuntimeError (g0_x_0 : Option Addr) (h : Hp) (Q : List Value → Hp → Prop) : Prop := Fn PP 113 #[(Value.agg #[(Value.pointer g0_x_0)])] h Q
/-- (*livery/clog.Log).Clock -/
def S_clog_Log_Clock (g0_x : Option Addr) (h : Hp) (Q : List Value → Hp → Prop) : Prop := Fn PP 114 #[(Value.pointer g0_x)] h Q
/-- (livery/api.Errno).Error -/
def S_api_Errno_Error (g0_x : Int) (h : Hp) (Q : List Value → Hp → Prop) : Prop := Fn PP 115 #[(Value.int .i64 g0_x)] h Q
/-- (*livery/liveryref08.Log).Horizon -/
def S_liveryref08_Log_Horizon (g0_x : Option Addr) (h : Hp) (Q : List Value → Hp → Prop) : Prop := Fn PP 116 #[(Value.pointer g0_x)] h Q
/-- (internal/abi.Kind).String -/
def S_internal_abi_Kind_String (g0_x : Int) (h : Hp) (Q : List Value → Hp → Prop) : Prop := Fn PP 117 #[(Value.int .u8 g0_x)] h Q
def F_clog_New (h : Hp) (Q : List Value → Hp → Prop) : Prop :=
wth (Array.push h (Obj.cells (zc PP T_clog_Log) T_clog_Log)) fun h1 =>
Q [(Value.pointer (some (Addr.mk (Array.size h) 0 none)))] h1
def A_clog_New : Ann := .nil
theorem E_clog_New (h : Hp) (Q : List Value → Hp → Prop) : cw PP 3 (fun _ => []) (bodyOf Try.f7) A_clog_New (finQ PP (Try.f7.results.toList) Q) (argFr []) h = F_clog_New h Q := by kernel_rfl
theorem O_clog_New {h : Hp} {Q : List Value → Hp → Prop} (H : F_clog_New h Q) : S_clog_New h Q :=
  fn_of_cw (hs := (fun _ => [])) (ann := A_clog_New) (args := []) mixedPP Try.func7 (c := bodyOf Try.f7) (by kernel_rfl) (by kernel_rfl) (by kernel_rfl) (Eq.mpr (E_clog_New h Q) H)
def F_edge_New (g0_l : Option Addr) (h : Hp) (Q : List Value → Hp → Prop) : Prop :=
wth (Array.push h (Obj.map #[] 0)) fun h1 =>
wth (Array.push h1 (Obj.map #[] 0)) fun h2 =>
wth (Array.push h2 (Obj.cells #[(Value.pointer g0_l), (Value.map (some (Array.size h))), (Value.map (some (Array.size h1)))] T_edge_Edges)) fun h3 =>
Q [(Value.pointer (some (Addr.mk (Array.size h2) 0 none)))] h3
def A_edge_New : Ann := .nil
theorem E_edge_New (g0_l : Option Addr) (h : Hp) (Q : List Value → Hp → Prop) : cw PP 8 (fun _ => []) (bodyOf Try.f8) A_edge_New (finQ PP (Try.f8.results.toList) Q) (argFr [(Value.pointer g0_l)]) h = F_edge_New g0_l h Q := by kernel_rfl
theorem O_edge_New (g0_l : Option Addr) {h : Hp} {Q : List Value → Hp → Prop} (H : F_edge_New g0_l h Q) : S_edge_New g0_l h Q :=
  fn_of_cw (hs := (fun _ => [])) (ann := A_edge_New) (args := [(Value.pointer g0_l)]) mixedPP Try.func8 (c := bodyOf Try.f8) (by kernel_rfl) (by kernel_rfl) (by kernel_rfl) (Eq.mpr (E_edge_New g0_l h Q) H)
def F_clog_Log_Begin (g0_l : Option Addr) (g1_reads : Bool) (h : Hp) (Q : List Value → Hp → Prop) : Prop :=
(if (Option.isNone g0_l) = true then
  (Q [(Value.int .i64 (0 : Int)), (Value.int .i64 (1 : Int))] h) else
  (nilW g0_l fun a1 => ∃ n2 : Int, rd h (Addr.add a1 804) = some (Value.int .i64 n2) ∧
    (if (n2 == (200 : Int)) = true then
      (Q [(Value.int .i64 (0 : Int)), (Value.int .i64 (74 : Int))] h) else
      (nilW g0_l fun a3 => ∃ n4 : Int, rd h (Addr.add a3 804) = some (Value.int .i64 n4) ∧
        nilW g0_l fun a5 => stOk h (Addr.add a5 804) 1 ∧ wth (wrs h (Addr.add a5 804) 0 [(Value.int .i64 (IntKind.wrap .i64 (n4 + (1 : Int))))]) fun h6 =>
        nilW g0_l fun a7 => ∃ n8 : Int, rd h6 (Addr.add a7 804) = some (Value.int .i64 n8) ∧
        nilW g0_l fun a9 => ∃ n10 : Int, rd h6 (Addr.add a9 805) = some (Value.int .i64 n10) ∧
        nilW g0_l fun a11 => ixOk n8 201 (stOk h6 (Addr.add (Addr.add a11 0) (Int.toNat n8 * 4)) 4 ∧ wth (wrs h6 (Addr.add (Addr.add a11 0) (Int.toNat n8 * 4)) 0 [(Value.int .i64 (1 : Int)), (Value.int .i64 (0 : Int)), (Value.int .i64 n10), (Value.bool g1_reads)]) fun h12 =>
          nilW g0_l fun a13 => ∃ n14 : Int, rd h12 (Addr.add a13 804) = some (Value.int .i64 n14) ∧
          Q [(Value.int .i64 n14), (Value.int .i64 (0 : Int))] h12)))))
def A_clog_Log_Begin : Ann := .nil
theorem E_clog_Log_Begin (g0_l : Option Addr) (g1_reads : Bool) (h : Hp) (Q : List Value → Hp → Prop) : cw PP 40 (fun _ => []) (bodyOf Try.f10) A_clog_Log_Begin (finQ PP (Try.f10.results.toList) Q) (argFr [(Value.pointer g0_l), (Value.bool g1_reads)]) h = F_clog_Log_Begin g0_l g1_reads h Q := by kernel_rfl
theorem O_clog_Log_Begin (g0_l : Option Addr) (g1_reads : Bool) {h : Hp} {Q : List Value → Hp → Prop} (H : F_clog_Log_Begin g0_l g1_reads h Q) : S_clog_Log_Begin g0_l g1_reads h Q :=
  fn_of_cw (hs := (fun _ => [])) (ann := A_clog_Log_Begin) (args := [(Value.pointer g0_l), (Value.bool g1_reads)]) mixedPP Try.func10 (c := bodyOf Try.f10) (by kernel_rfl) (by kernel_rfl) (by kernel_rfl) (Eq.mpr (E_clog_Log_Begin g0_l g1_reads h Q) H)
def F_clog_Log_get (g0_l : Option Addr) (g1_xid : Int) (h : Hp) (Q : List Value → Hp → Prop) : Prop :=
∀ J1 : List Value → Hp → Prop, (∀ b2 : Bool, ∀ h3 : Hp, ((if b2 = true then
      (Q [(Value.pointer none)] h3) else
      (nilW g0_l fun a4 => ixOk g1_xid 201 (Q [(Value.pointer (some (Addr.add (Addr.add a4 0) (Int.toNat g1_xid * 4))))] h3)))) → J1 [(Value.bool b2)] h3) →
(if (Option.isNone g0_l) = true then (J1 [(Value.bool true)] h) else
  ((if (decide (g1_xid < (1 : Int))) = true then (J1 [(Value.bool true)] h) else
      (nilW g0_l fun a5 => ∃ n6 : Int, rd h (Addr.add a5 804) = some (Value.int .i64 n6) ∧
        J1 [(Value.bool (decide (g1_xid > n6)))] h))))
def A_clog_Log_get : Ann := (.mk none ⟨[], []⟩ .nil (.mk none ⟨[], []⟩ (.mk none ⟨[], []⟩ (.mk (some ⟨[0, 1], [(18, (.c .bool))]⟩) ⟨[], []⟩ .nil .nil) .nil) .nil))
theorem E_clog_Log_get (g0_l : Option Addr) (g1_xid : Int) (h : Hp) (Q : List Value → Hp → Prop) : cw PP 24 (fun _ => []) (bodyOf Try.f38) A_clog_Log_get (finQ PP (Try.f38.results.toList) Q) (argFr [(Value.pointer g0_l), (Value.int .i64 g1_xid)]) h = F_clog_Log_get g0_l g1_xid h Q := by kernel_rfl
theorem O_clog_Log_get (g0_l : Option Addr) (g1_xid : Int) {h : Hp} {Q : List Value → Hp → Prop} (H : F_clog_Log_get g0_l g1_xid h Q) : S_clog_Log_get g0_l g1_xid h Q :=
  fn_of_cw (hs := (fun _ => [])) (ann := A_clog_Log_get) (args := [(Value.pointer g0_l), (Value.int .i64 g1_xid)]) mixedPP Try.func38 (c := bodyOf Try.f38) (by kernel_rfl) (by kernel_rfl) (by kernel_rfl) (Eq.mpr (E_clog_Log_get g0_l g1_xid h Q) H)
def F_clog_Log_ends (g0_l : Option Addr) (g1_xid : Int) (h : Hp) (Q : List Value → Hp → Prop) : Prop :=
(if (Option.isNone g0_l) = true then
  (Q [(Value.pointer none), (Value.int .i64 (1 : Int))] h) else
  (S_clog_Log_get g0_l g1_xid h fun (vs1 : List Value) (h2 : Hp) =>
    ∃ p3 : Option Addr, vs1 = [(Value.pointer p3)] ∧
    ∀ J4 : List Value → Hp → Prop, (∀ b5 : Bool, ∀ h6 : Hp, ((if b5 = true then
          (Q [(Value.pointer none), (Value.int .i64 (76 : Int))] h6) else
          (Q [(Value.pointer p3), (Value.int .i64 (0 : Int))] h6))) → J4 [(Value.bool b5)] h6) →
    (if (Option.isNone p3) = true then (J4 [(Value.bool true)] h2) else
      (nilW p3 fun a7 => ∃ n8 : Int, rd h2 (Addr.add a7 0) = some (Value.int .i64 n8) ∧
        J4 [(Value.bool (n8 != (1 : Int)))] h2))))
def A_clog_Log_ends : Ann := (.mk none ⟨[], []⟩ .nil (.mk none ⟨[], []⟩ .nil (.mk none ⟨[], []⟩ .nil (.mk none ⟨[], []⟩ (.mk none ⟨[], []⟩ (.mk (some ⟨[6], [(20, (.c .bool))]⟩) ⟨[], []⟩ .nil .nil) .nil) .nil))))
theorem E_clog_Log_ends (g0_l : Option Addr) (g1_xid : Int) (h : Hp) (Q : List Value → Hp → Prop) : cw PP 22 (fun _ => []) (bodyOf Try.f33) A_clog_Log_ends (finQ PP (Try.f33.results.toList) Q) (argFr [(Value.pointer g0_l), (Value.int .i64 g1_xid)]) h = F_clog_Log_ends g0_l g1_xid h Q := by kernel_rfl
theorem O_clog_Log_ends (g0_l : Option Addr) (g1_xid : Int) {h : Hp} {Q : List Value → Hp → Prop} (H : F_clog_Log_ends g0_l g1_xid h Q) : S_clog_Log_ends g0_l g1_xid h Q :=
  fn_of_cw (hs := (fun _ => [])) (ann := A_clog_Log_ends) (args := [(Value.pointer g0_l), (Value.int .i64 g1_xid)]) mixedPP Try.func33 (c := bodyOf Try.f33) (by kernel_rfl) (by kernel_rfl) (by kernel_rfl) (Eq.mpr (E_clog_Log_ends g0_l g1_xid h Q) H)
def F_clog_Log_Commit (g0_l : Option Addr) (g1_xid : Int) (h : Hp) (Q : List Value → Hp → Prop) : Prop :=
S_clog_Log_ends g0_l g1_xid h fun (vs1 : List Value) (h2 : Hp) =>
∃ p3 : Option Addr, ∃ n4 : Int, vs1 = [(Value.pointer p3), (Value.int .i64 n4)] ∧
(if (n4 != (0 : Int)) = true then
  (Q [(Value.int .i64 (0 : Int)), (Value.int .i64 n4)] h2) else
  (nilW g0_l fun a5 => ∃ n6 : Int, rd h2 (Addr.add a5 805) = some (Value.int .i64 n6) ∧
    nilW g0_l fun a7 => stOk h2 (Addr.add a7 805) 1 ∧ wth (wrs h2 (Addr.add a7 805) 0 [(Value.int .i64 (IntKind.wrap .i64 (n6 + (1 : Int))))]) fun h8 =>
    nilW g0_l fun a9 => ∃ n10 : Int, rd h8 (Addr.add a9 805) = some (Value.int .i64 n10) ∧
    nilW p3 fun a11 => stOk h8 (Addr.add a11 0) 1 ∧ wth (wrs h8 (Addr.add a11 0) 0 [(Value.int .i64 (2 : Int))]) fun h12 =>
    nilW p3 fun a13 => stOk h12 (Addr.add a13 1) 1 ∧ wth (wrs h12 (Addr.add a13 1) 0 [(Value.int .i64 n10)]) fun h14 =>
    nilW g0_l fun a15 => ∃ n16 : Int, rd h14 (Addr.add a15 805) = some (Value.int .i64 n16) ∧
    Q [(Value.int .i64 n16), (Value.int .i64 (0 : Int))] h14))
def A_clog_Log_Commit : Ann := .nil
theorem E_clog_Log_Commit (g0_l : Option Addr) (g1_xid : Int) (h : Hp) (Q : List Value → Hp → Prop) : cw PP 38 (fun _ => []) (bodyOf Try.f11) A_clog_Log_Commit (finQ PP (Try.f11.results.toList) Q) (argFr [(Value.pointer g0_l), (Value.int .i64 g1_xid)]) h = F_clog_Log_Commit g0_l g1_xid h Q := by kernel_rfl
theorem O_clog_Log_Commit (g0_l : Option Addr) (g1_xid : Int) {h : Hp} {Q : List Value → Hp → Prop} (H : F_clog_Log_Commit g0_l g1_xid h Q) : S_clog_Log_Commit g0_l g1_xid h Q :=
  fn_of_cw (hs := (fun _ => [])) (ann := A_clog_Log_Commit) (args := [(Value.pointer g0_l), (Value.int .i64 g1_xid)]) mixedPP Try.func11 (c := bodyOf Try.f11) (by kernel_rfl) (by kernel_rfl) (by kernel_rfl) (Eq.mpr (E_clog_Log_Commit g0_l g1_xid h Q) H)
def F_clog_Log_Sees (g0_l : Option Addr) (g1_xid : Int) (g2_other : Int) (h : Hp) (Q : List Value → Hp → Prop) : Prop :=
S_clog_Log_get g0_l g1_xid h fun (vs1 : List Value) (h2 : Hp) =>
∃ p3 : Option Addr, vs1 = [(Value.pointer p3)] ∧
S_clog_Log_get g0_l g2_other h2 fun (vs4 : List Value) (h5 : Hp) =>
∃ p6 : Option Addr, vs4 = [(Value.pointer p6)] ∧
∀ J7 : List Value → Hp → Prop, (∀ b8 : Bool, ∀ h9 : Hp, ((if b8 = true then
      (Q [(Value.bool false)] h9) else
      ((if (g1_xid == g2_other) = true then (Q [(Value.bool true)] h9) else
          (nilW p6 fun a10 => ∃ n11 : Int, rd h9 (Addr.add a10 0) = some (Value.int .i64 n11) ∧
            (if (n11 == (2 : Int)) = true then (nilW p6 fun a12 => ∃ n13 : Int, rd h9 (Addr.add a12 1) = some (Value.int .i64 n13) ∧
                nilW p3 fun a14 => ∃ n15 : Int, rd h9 (Addr.add a14 2) = some (Value.int .i64 n15) ∧
                Q [(Value.bool (decide (n13 ≤ n15)))] h9) else
              (Q [(Value.bool false)] h9))))))) → J7 [(Value.bool b8)] h9) →
(if (Option.isNone p3) = true then (J7 [(Value.bool true)] h5) else
  (J7 [(Value.bool (Option.isNone p6))] h5))
def A_clog_Log_Sees : Ann := (.mk none ⟨[], []⟩ .nil (.mk none ⟨[], []⟩ .nil (.mk none ⟨[], []⟩ (.mk none ⟨[], []⟩ (.mk (some ⟨[1, 2, 7, 8], [(20, (.c .bool))]⟩) ⟨[], []⟩ .nil .nil) .nil) .nil)))
theorem E_clog_Log_Sees (g0_l : Option Addr) (g1_xid : Int) (g2_other : Int) (h : Hp) (Q : List Value → Hp → Prop) : cw PP 42 (fun _ => []) (bodyOf Try.f16) A_clog_Log_Sees (finQ PP (Try.f16.results.toList) Q) (argFr [(Value.pointer g0_l), (Value.int .i64 g1_xid), (Value.int .i64 g2_other)]) h = F_clog_Log_Sees g0_l g1_xid g2_other h Q := by kernel_rfl
theorem O_clog_Log_Sees (g0_l : Option Addr) (g1_xid : Int) (g2_other : Int) {h : Hp} {Q : List Value → Hp → Prop} (H : F_clog_Log_Sees g0_l g1_xid g2_other h Q) : S_clog_Log_Sees g0_l g1_xid g2_other h Q :=
  fn_of_cw (hs := (fun _ => [])) (ann := A_clog_Log_Sees) (args := [(Value.pointer g0_l), (Value.int .i64 g1_xid), (Value.int .i64 g2_other)]) mixedPP Try.func16 (c := bodyOf Try.f16) (by kernel_rfl) (by kernel_rfl) (by kernel_rfl) (Eq.mpr (E_clog_Log_Sees g0_l g1_xid g2_other h Q) H)
def F_clog_Log_Beside (g0_l : Option Addr) (g1_a : Int) (g2_b : Int) (h : Hp) (Q : List Value → Hp → Prop) : Prop :=
S_clog_Log_get g0_l g1_a h fun (vs1 : List Value) (h2 : Hp) =>
∃ p3 : Option Addr, vs1 = [(Value.pointer p3)] ∧
S_clog_Log_get g0_l g2_b h2 fun (vs4 : List Value) (h5 : Hp) =>
∃ p6 : Option Addr, vs4 = [(Value.pointer p6)] ∧
∀ J7 : List Value → Hp → Prop, (∀ b8 : Bool, ∀ h9 : Hp, ((if b8 = true then
      (Q [(Value.bool false)] h9) else
      (S_clog_Log_Sees g0_l g1_a g2_b h9 fun (vs10 : List Value) (h11 : Hp) =>
        ∃ b12 : Bool, vs10 = [(Value.bool b12)] ∧
        (if (!b12) = true then (S_clog_Log_Sees g0_l g2_b g1_a h11 fun (vs13 : List Value) (h14 : Hp) =>
            ∃ b15 : Bool, vs13 = [(Value.bool b15)] ∧
            Q [(Value.bool (!b15))] h14) else
          (Q [(Value.bool false)] h11))))) → J7 [(Value.bool b8)] h9) →
(if (Option.isNone p3) = true then (J7 [(Value.bool true)] h5) else
  ((if (Option.isNone p6) = true then (J7 [(Value.bool true)] h5) else
      ((if (g1_a == g2_b) = true then (J7 [(Value.bool true)] h5) else
          (nilW p3 fun a16 => ∃ n17 : Int, rd h5 (Addr.add a16 0) = some (Value.int .i64 n17) ∧
            (if (n17 == (3 : Int)) = true then (J7 [(Value.bool true)] h5) else
              (nilW p6 fun a18 => ∃ n19 : Int, rd h5 (Addr.add a18 0) = some (Value.int .i64 n19) ∧
                J7 [(Value.bool (n19 == (3 : Int)))] h5))))))))
def A_clog_Log_Beside : Ann := (.mk none ⟨[], []⟩ .nil (.mk none ⟨[], []⟩ .nil (.mk none ⟨[], []⟩ (.mk none ⟨[], []⟩ (.mk (some ⟨[0, 1, 2], [(39, (.c .bool))]⟩) ⟨[], []⟩ .nil .nil) .nil) .nil)))
theorem E_clog_Log_Beside (g0_l : Option Addr) (g1_a : Int) (g2_b : Int) (h : Hp) (Q : List Value → Hp → Prop) : cw PP 52 (fun _ => []) (bodyOf Try.f19) A_clog_Log_Beside (finQ PP (Try.f19.results.toList) Q) (argFr [(Value.pointer g0_l), (Value.int .i64 g1_a), (Value.int .i64 g2_b)]) h = F_clog_Log_Beside g0_l g1_a g2_b h Q := by kernel_rfl
theorem O_clog_Log_Beside (g0_l : Option Addr) (g1_a : Int) (g2_b : Int) {h : Hp} {Q : List Value → Hp → Prop} (H : F_clog_Log_Beside g0_l g1_a g2_b h Q) : S_clog_Log_Beside g0_l g1_a g2_b h Q :=
  fn_of_cw (hs := (fun _ => [])) (ann := A_clog_Log_Beside) (args := [(Value.pointer g0_l), (Value.int .i64 g1_a), (Value.int .i64 g2_b)]) mixedPP Try.func19 (c := bodyOf Try.f19) (by kernel_rfl) (by kernel_rfl) (by kernel_rfl) (Eq.mpr (E_clog_Log_Beside g0_l g1_a g2_b h Q) H)
def F_edge_Edges_none (g0_e : Option Addr) (h : Hp) (Q : List Value → Hp → Prop) : Prop :=
(if (Option.isNone g0_e) = true then (Q [(Value.bool true)] h) else
  (nilW g0_e fun a1 => ∃ p2 : Option Addr, rd h (Addr.add a1 0) = some (Value.pointer p2) ∧
    Q [(Value.bool (Option.isNone p2))] h))
def A_edge_Edges_none : Ann := .nil
theorem E_edge_Edges_none (g0_e : Option Addr) (h : Hp) (Q : List Value → Hp → Prop) : cw PP 12 (fun _ => []) (bodyOf Try.f34) A_edge_Edges_none (finQ PP (Try.f34.results.toList) Q) (argFr [(Value.pointer g0_e)]) h = F_edge_Edges_none g0_e h Q := by kernel_rfl
theorem O_edge_Edges_none (g0_e : Option Addr) {h : Hp} {Q : List Value → Hp → Prop} (H : F_edge_Edges_none g0_e h Q) : S_edge_Edges_none g0_e h Q :=
  fn_of_cw (hs := (fun _ => [])) (ann := A_edge_Edges_none) (args := [(Value.pointer g0_e)]) mixedPP Try.func34 (c := bodyOf Try.f34) (by kernel_rfl) (by kernel_rfl) (by kernel_rfl) (Eq.mpr (E_edge_Edges_none g0_e h Q) H)
def F_edge_Edges_Add (g0_e : Option Addr) (g1_a : Int) (g2_b : Int) (h : Hp) (Q : List Value → Hp → Prop) : Prop :=
∀ J1 : List Value → Hp → Prop, (∀ b2 : Bool, ∀ h3 : Hp, ((if b2 = true then
      (Q [(Value.bool false)] h3) else
      (nilW g0_e fun a4 => ∃ r5 : Option Nat, rd h3 (Addr.add a4 1) = some (Value.map r5) ∧
        ∃ es6 : Array MapEntry, mapAt h3 r5 es6 ∧ KeysLike (Value.agg #[(Value.int .i64 g1_a), (Value.int .i64 g2_b)]) es6 ∧ ∃ n7 : Int, mgetD (Value.agg #[(Value.int .i64 g1_a), (Value.int .i64 g2_b)]) es6 (Value.int .i64 (0 : Int)) = (Value.int .i64 n7) ∧
        ∃ (m9 : Nat) (es10 : Array MapEntry) (c11 : Nat), r5 = some m9 ∧ h3[m9]? = some (.map es10 c11) ∧ KeysLike (Value.agg #[(Value.int .i64 g1_a), (Value.int .i64 g2_b)]) es10 ∧ ∃ n12 : Int, (ment (Value.agg #[(Value.int .i64 g1_a), (Value.int .i64 g2_b)]) es10 c11 (Value.int .i64 (0 : Int))).1 = (Value.int .i64 n12) ∧ wth (Array.setIfInBounds h3 m9 (ment (Value.agg #[(Value.int .i64 g1_a), (Value.int .i64 g2_b)]) es10 c11 (Value.int .i64 (0 : Int))).2.2) fun h13 =>
        (∃ es8 : Array MapEntry, mapAt h13 r5 es8 ∧ KeysLike (Value.agg #[(Value.int .i64 g1_a), (Value.int .i64 g2_b)]) es8 ∧ mgetD (Value.agg #[(Value.int .i64 g1_a), (Value.int .i64 g2_b)]) es8 (Value.int .i64 (0 : Int)) = (Value.int .i64 n7)) ∧ ∃ (m14 : Nat) (es15 : Array MapEntry) (c16 : Nat) (es17 : Array MapEntry), r5 = some m14 ∧ h13[m14]? = some (.map es15 c16) ∧ msto (Value.int .i64 (IntKind.wrap .i64 (n7 + (1 : Int)))) ((ment (Value.agg #[(Value.int .i64 g1_a), (Value.int .i64 g2_b)]) es10 c11 (Value.int .i64 (0 : Int))).2.1 : Int) es15 = some es17 ∧ wth (Array.setIfInBounds h13 m14 (.map es17 c16)) fun h18 =>
        Q [(Value.bool true)] h18))) → J1 [(Value.bool b2)] h3) →
S_edge_Edges_none g0_e h fun (vs19 : List Value) (h20 : Hp) =>
∃ b21 : Bool, vs19 = [(Value.bool b21)] ∧
(if b21 = true then (J1 [(Value.bool true)] h20) else
  (nilW g0_e fun a22 => ∃ p23 : Option Addr, rd h20 (Addr.add a22 0) = some (Value.pointer p23) ∧
    S_clog_Log_Beside p23 g1_a g2_b h20 fun (vs24 : List Value) (h25 : Hp) =>
    ∃ b26 : Bool, vs24 = [(Value.bool b26)] ∧
    (if (!b26) = true then (J1 [(Value.bool true)] h25) else
      (nilW g0_e fun a27 => ∃ r28 : Option Nat, rd h25 (Addr.add a27 1) = some (Value.map r28) ∧
        ∃ es29 : Array MapEntry, mapAt h25 r28 es29 ∧ KeysLike (Value.agg #[(Value.int .i64 g1_a), (Value.int .i64 g2_b)]) es29 ∧ ∃ n30 : Int, mgetD (Value.agg #[(Value.int .i64 g1_a), (Value.int .i64 g2_b)]) es29 (Value.int .i64 (0 : Int)) = (Value.int .i64 n30) ∧
        J1 [(Value.bool (decide (n30 > (0 : Int))))] h25))))
def A_edge_Edges_Add : Ann := (.mk none ⟨[], []⟩ .nil (.mk none ⟨[], []⟩ (.mk none ⟨[], []⟩ (.mk (some ⟨[0, 1, 2], [(29, (.c .bool))]⟩) ⟨[], []⟩ .nil .nil) .nil) .nil))
theorem E_edge_Edges_Add (g0_e : Option Addr) (g1_a : Int) (g2_b : Int) (h : Hp) (Q : List Value → Hp → Prop) : cw PP 41 (fun _ => []) (bodyOf Try.f14) A_edge_Edges_Add (finQ PP (Try.f14.results.toList) Q) (argFr [(Value.pointer g0_e), (Value.int .i64 g1_a), (Value.int .i64 g2_b)]) h = F_edge_Edges_Add g0_e g1_a g2_b h Q := by kernel_rfl
theorem O_edge_Edges_Add (g0_e : Option Addr) (g1_a : Int) (g2_b : Int) {h : Hp} {Q : List Value → Hp → Prop} (H : F_edge_Edges_Add g0_e g1_a g2_b h Q) : S_edge_Edges_Add g0_e g1_a g2_b h Q :=
  fn_of_cw (hs := (fun _ => [])) (ann := A_edge_Edges_Add) (args := [(Value.pointer g0_e), (Value.int .i64 g1_a), (Value.int .i64 g2_b)]) mixedPP Try.func14 (c := bodyOf Try.f14) (by kernel_rfl) (by kernel_rfl) (by kernel_rfl) (Eq.mpr (E_edge_Edges_Add g0_e g1_a g2_b h Q) H)
def F_clog_Log_one (g0_l : Option Addr) (g1_xid : Int) (h : Hp) (Q : List Value → Hp → Prop) : Prop :=
wth (Array.push h (Obj.cells #[(Value.int .i64 (0 : Int)), (Value.int .i64 (0 : Int)), (Value.int .i64 (0 : Int)), (Value.bool false)] T_clog_tx)) fun h1 =>
S_clog_Log_get g0_l g1_xid h1 fun (vs2 : List Value) (h3 : Hp) =>
∃ p4 : Option Addr, vs2 = [(Value.pointer p4)] ∧
(if (!(Option.isNone p4)) = true then
  (nilW p4 fun a5 => ∃ n6 : Int, rd h3 (Addr.add a5 0) = some (Value.int .i64 n6) ∧ ∃ n7 : Int, rd h3 (Addr.add a5 1) = some (Value.int .i64 n7) ∧ ∃ n8 : Int, rd h3 (Addr.add a5 2) = some (Value.int .i64 n8) ∧ ∃ b9 : Bool, rd h3 (Addr.add a5 3) = some (Value.bool b9) ∧ stOk h3 (Addr.mk (Array.size h) 0 none) 4 ∧ wth (wrs h3 (Addr.mk (Array.size h) 0 none) 0 [(Value.int .i64 n6), (Value.int .i64 n7), (Value.int .i64 n8), (Value.bool b9)]) fun h10 =>
    ∃ n11 : Int, rd h10 (Addr.add (Addr.mk (Array.size h) 0 none) 0) = some (Value.int .i64 n11) ∧ ∃ n12 : Int, rd h10 (Addr.add (Addr.mk (Array.size h) 0 none) 1) = some (Value.int .i64 n12) ∧ ∃ n13 : Int, rd h10 (Addr.add (Addr.mk (Array.size h) 0 none) 2) = some (Value.int .i64 n13) ∧ ∃ b14 : Bool, rd h10 (Addr.add (Addr.mk (Array.size h) 0 none) 3) = some (Value.bool b14) ∧ Q [(Value.agg #[(Value.int .i64 n11), (Value.int .i64 n12), (Value.int .i64 n13), (Value.bool b14)])] h10) else
  (stOk h3 (Addr.mk (Array.size h) 0 none) 4 ∧ wth (wrs h3 (Addr.mk (Array.size h) 0 none) 0 [(Value.int .i64 (0 : Int)), (Value.int .i64 (0 : Int)), (Value.int .i64 (0 : Int)), (Value.bool false)]) fun h15 =>
    ∃ n16 : Int, rd h15 (Addr.add (Addr.mk (Array.size h) 0 none) 0) = some (Value.int .i64 n16) ∧ ∃ n17 : Int, rd h15 (Addr.add (Addr.mk (Array.size h) 0 none) 1) = some (Value.int .i64 n17) ∧ ∃ n18 : Int, rd h15 (Addr.add (Addr.mk (Array.size h) 0 none) 2) = some (Value.int .i64 n18) ∧ ∃ b19 : Bool, rd h15 (Addr.add (Addr.mk (Array.size h) 0 none) 3) = some (Value.bool b19) ∧ Q [(Value.agg #[(Value.int .i64 n16), (Value.int .i64 n17), (Value.int .i64 n18), (Value.bool b19)])] h15))
def A_clog_Log_one : Ann := .nil
theorem E_clog_Log_one (g0_l : Option Addr) (g1_xid : Int) (h : Hp) (Q : List Value → Hp → Prop) : cw PP 15 (fun _ => []) (bodyOf Try.f37) A_clog_Log_one (finQ PP (Try.f37.results.toList) Q) (argFr [(Value.pointer g0_l), (Value.int .i64 g1_xid)]) h = F_clog_Log_one g0_l g1_xid h Q := by kernel_rfl
theorem O_clog_Log_one (g0_l : Option Addr) (g1_xid : Int) {h : Hp} {Q : List Value → Hp → Prop} (H : F_clog_Log_one g0_l g1_xid h Q) : S_clog_Log_one g0_l g1_xid h Q :=
  fn_of_cw (hs := (fun _ => [])) (ann := A_clog_Log_one) (args := [(Value.pointer g0_l), (Value.int .i64 g1_xid)]) mixedPP Try.func37 (c := bodyOf Try.f37) (by kernel_rfl) (by kernel_rfl) (by kernel_rfl) (Eq.mpr (E_clog_Log_one g0_l g1_xid h Q) H)
def F_clog_Log_State (g0_l : Option Addr) (g1_xid : Int) (h : Hp) (Q : List Value → Hp → Prop) : Prop :=
S_clog_Log_one g0_l g1_xid h fun (vs1 : List Value) (h2 : Hp) =>
∃ n3 : Int, ∃ n4 : Int, ∃ n5 : Int, ∃ b6 : Bool, vs1 = [(Value.agg #[(Value.int .i64 n3), (Value.int .i64 n4), (Value.int .i64 n5), (Value.bool b6)])] ∧
Q [(Value.int .i64 n3)] h2
def A_clog_Log_State : Ann := .nil
theorem E_clog_Log_State (g0_l : Option Addr) (g1_xid : Int) (h : Hp) (Q : List Value → Hp → Prop) : cw PP 9 (fun _ => []) (bodyOf Try.f15) A_clog_Log_State (finQ PP (Try.f15.results.toList) Q) (argFr [(Value.pointer g0_l), (Value.int .i64 g1_xid)]) h = F_clog_Log_State g0_l g1_xid h Q := by kernel_rfl
theorem O_clog_Log_State (g0_l : Option Addr) (g1_xid : Int) {h : Hp} {Q : List Value → Hp → Prop} (H : F_clog_Log_State g0_l g1_xid h Q) : S_clog_Log_State g0_l g1_xid h Q :=
  fn_of_cw (hs := (fun _ => [])) (ann := A_clog_Log_State) (args := [(Value.pointer g0_l), (Value.int .i64 g1_xid)]) mixedPP Try.func15 (c := bodyOf Try.f15) (by kernel_rfl) (by kernel_rfl) (by kernel_rfl) (Eq.mpr (E_clog_Log_State g0_l g1_xid h Q) H)
def F_cmp_isNaN_int (g0_x : Int) (h : Hp) (Q : List Value → Hp → Prop) : Prop :=
Q [(Value.bool (g0_x != g0_x))] h
def A_cmp_isNaN_int : Ann := .nil
theorem E_cmp_isNaN_int (g0_x : Int) (h : Hp) (Q : List Value → Hp → Prop) : cw PP 6 (fun _ => []) (bodyOf Try.f62) A_cmp_isNaN_int (finQ PP (Try.f62.results.toList) Q) (argFr [(Value.int .i64 g0_x)]) h = F_cmp_isNaN_int g0_x h Q := by kernel_rfl
theorem O_cmp_isNaN_int (g0_x : Int) {h : Hp} {Q : List Value → Hp → Prop} (H : F_cmp_isNaN_int g0_x h Q) : S_cmp_isNaN_int g0_x h Q :=
  fn_of_cw (hs := (fun _ => [])) (ann := A_cmp_isNaN_int) (args := [(Value.int .i64 g0_x)]) mixedPP Try.func62 (c := bodyOf Try.f62) (by kernel_rfl) (by kernel_rfl) (by kernel_rfl) (Eq.mpr (E_cmp_isNaN_int g0_x h Q) H)
def F_edge_Edges_ends (g0_e : Option Addr) (g1_xid : Int) (g2_end : Int) (h : Hp) (Q : List Value → Hp → Prop) : Prop :=
S_edge_Edges_none g0_e h fun (vs1 : List Value) (h2 : Hp) =>
∃ b3 : Bool, vs1 = [(Value.bool b3)] ∧
(if b3 = true then
  (Q [(Value.slice none 0 0)] h2) else
  (nilW g0_e fun a4 => ∃ r5 : Option Nat, rd h2 (Addr.add a4 1) = some (Value.map r5) ∧
    ∃ o6 : Obj, IterOf h2 r5 o6 ∧ wth (Array.push h2 o6) fun h7 =>
    ∀ X8 : List Value → Hp → Prop, (∀ l9 : Sl, ∀ h10 : Hp, ((Addr.off (Addr.mk (Array.size h2) 0 none) = 0 ∧ ∃ o11 : Obj, h10[Addr.block (Addr.mk (Array.size h2) 0 none)]? = some o11 ∧ IterGood h10 o11 ∧
          (IterEnd h10 o11 → S_slices_Sort_sint_int ⟨l9.a, l9.n, l9.c⟩ h10 fun (vs15 : List Value) (h16 : Hp) =>
            vs15 = [] ∧
            Q [(Value.slice l9.a l9.n l9.c)] h16) ∧
          ∀ (k12 v13 : Value) (o14 : Obj), IterStep h10 o11 k12 v13 o14 → wth (Array.setIfInBounds h10 (Addr.block (Addr.mk (Array.size h2) 0 none)) o14) fun h17 =>
          (Addr.off (Addr.mk (Array.size h2) 0 none) = 0 ∧ ∃ (m18 n19 : Nat) (q20 : Array Nat) (n21 : Nat) (es22 : Array MapEntry) (c23 : Nat) (e24 : MapEntry), h17[Addr.block (Addr.mk (Array.size h2) 0 none)]? = some (.mapIter (some m18) n19 q20 c23) ∧ Array.back? q20 = some n21 ∧ h17[m18]? = some (.map es22 c23) ∧ Array.find? (fun x => x.born == n21) es22 = some e24 ∧ ∃ n25 : Int, ∃ n26 : Int, e24.key = (Value.agg #[(Value.int .i64 n25), (Value.int .i64 n26)]) ∧ ∃ v27 : Value, e24.val = v27 ∧ wth (Array.push h17 (Obj.cells #[(Value.int .i64 (0 : Int)), (Value.int .i64 (0 : Int))] T_2_int)) fun h28 =>
            stOk h28 (Addr.mk (Array.size h17) 0 none) 2 ∧ wth (wrs h28 (Addr.mk (Array.size h17) 0 none) 0 [(Value.int .i64 n25), (Value.int .i64 n26)]) fun h29 =>
            ixOk g2_end 2 (∃ n30 : Int, rd h29 (Addr.add (Addr.mk (Array.size h17) 0 none) (Int.toNat g2_end * 1)) = some (Value.int .i64 n30) ∧
              (if (n30 == g1_xid) = true then
                (ixOk (IntKind.wrap .i64 ((1 : Int) - g2_end)) 2 (∃ n31 : Int, rd h29 (Addr.add (Addr.mk (Array.size h17) 0 none) (Int.toNat (IntKind.wrap .i64 ((1 : Int) - g2_end)) * 1)) = some (Value.int .i64 n31) ∧
                    wth (Array.push h29 (Obj.cells #[(Value.int .i64 n31)] T_int)) fun h32 =>
                    ∃ cs35 : List Value, cellsAt h32 (some (Addr.mk (Array.size h29) 0 none)) (1 * 1) cs35 ∧ appS PP T_int 8 1 h32 ⟨l9.a, l9.n, l9.c⟩ 1 cs35 fun (l33 : Sl) (h34 : Hp) =>
                    X8 [(Value.slice l33.a l33.n l33.c)] h34)) else
                (X8 [(Value.slice l9.a l9.n l9.c)] h29)))))) → X8 [(Value.slice l9.a l9.n l9.c)] h10) →
    X8 [(Value.slice none 0 0)] h7))
def A_edge_Edges_ends : Ann := (.mk none ⟨[], []⟩ .nil (.mk none ⟨[], []⟩ .nil (.mk none ⟨[], []⟩ .nil (.mk none ⟨[], []⟩ (.mk none ⟨[], []⟩ .nil (.mk none ⟨[], []⟩ (.mk none ⟨[1, 2, 15], [(7, (.c .sl))]⟩ .nil .nil) .nil)) .nil))))
theorem E_edge_Edges_ends (g0_e : Option Addr) (g1_xid : Int) (g2_end : Int) (h : Hp) (Q : List Value → Hp → Prop) : cw PP 35 (fun d => if d = 18 then [(.agg [(.int .i64), (.int .i64)]), (.c .any)] else []) (bodyOf Try.f46) A_edge_Edges_ends (finQ PP (Try.f46.results.toList) Q) (argFr [(Value.pointer g0_e), (Value.int .i64 g1_xid), (Value.int .i64 g2_end)]) h = F_edge_Edges_ends g0_e g1_xid g2_end h Q := by kernel_rfl
theorem O_edge_Edges_ends (g0_e : Option Addr) (g1_xid : Int) (g2_end : Int) {h : Hp} {Q : List Value → Hp → Prop} (H : F_edge_Edges_ends g0_e g1_xid g2_end h Q) : S_edge_Edges_ends g0_e g1_xid g2_end h Q :=
  fn_of_cw (hs := (fun d => if d = 18 then [(.agg [(.int .i64), (.int .i64)]), (.c .any)] else [])) (ann := A_edge_Edges_ends) (args := [(Value.pointer g0_e), (Value.int .i64 g1_xid), (Value.int .i64 g2_end)]) mixedPP Try.func46 (c := bodyOf Try.f46) (by kernel_rfl) (by kernel_rfl) (by kernel_rfl) (Eq.mpr (E_edge_Edges_ends g0_e g1_xid g2_end h Q) H)
def F_edge_Edges_In (g0_e : Option Addr) (g1_xid : Int) (h : Hp) (Q : List Value → Hp → Prop) : Prop :=
S_edge_Edges_ends g0_e g1_xid (1 : Int) h fun (vs1 : List Value) (h2 : Hp) =>
∃ l3 : Sl, vs1 = [(Value.slice l3.a l3.n l3.c)] ∧
Q [(Value.slice l3.a l3.n l3.c)] h2
def A_edge_Edges_In : Ann := .nil
theorem E_edge_Edges_In (g0_e : Option Addr) (g1_xid : Int) (h : Hp) (Q : List Value → Hp → Prop) : cw PP 8 (fun _ => []) (bodyOf Try.f20) A_edge_Edges_In (finQ PP (Try.f20.results.toList) Q) (argFr [(Value.pointer g0_e), (Value.int .i64 g1_xid)]) h = F_edge_Edges_In g0_e g1_xid h Q := by kernel_rfl
theorem O_edge_Edges_In (g0_e : Option Addr) (g1_xid : Int) {h : Hp} {Q : List Value → Hp → Prop} (H : F_edge_Edges_In g0_e g1_xid h Q) : S_edge_Edges_In g0_e g1_xid h Q :=
  fn_of_cw (hs := (fun _ => [])) (ann := A_edge_Edges_In) (args := [(Value.pointer g0_e), (Value.int .i64 g1_xid)]) mixedPP Try.func20 (c := bodyOf Try.f20) (by kernel_rfl) (by kernel_rfl) (by kernel_rfl) (Eq.mpr (E_edge_Edges_In g0_e g1_xid h Q) H)
def F_clog_Log_Reads (g0_l : Option Addr) (g1_xid : Int) (h : Hp) (Q : List Value → Hp → Prop) : Prop :=
S_clog_Log_one g0_l g1_xid h fun (vs1 : List Value) (h2 : Hp) =>
∃ n3 : Int, ∃ n4 : Int, ∃ n5 : Int, ∃ b6 : Bool, vs1 = [(Value.agg #[(Value.int .i64 n3), (Value.int .i64 n4), (Value.int .i64 n5), (Value.bool b6)])] ∧
Q [(Value.bool b6)] h2
def A_clog_Log_Reads : Ann := .nil
theorem E_clog_Log_Reads (g0_l : Option Addr) (g1_xid : Int) (h : Hp) (Q : List Value → Hp → Prop) : cw PP 9 (fun _ => []) (bodyOf Try.f22) A_clog_Log_Reads (finQ PP (Try.f22.results.toList) Q) (argFr [(Value.pointer g0_l), (Value.int .i64 g1_xid)]) h = F_clog_Log_Reads g0_l g1_xid h Q := by kernel_rfl
theorem O_clog_Log_Reads (g0_l : Option Addr) (g1_xid : Int) {h : Hp} {Q : List Value → Hp → Prop} (H : F_clog_Log_Reads g0_l g1_xid h Q) : S_clog_Log_Reads g0_l g1_xid h Q :=
  fn_of_cw (hs := (fun _ => [])) (ann := A_clog_Log_Reads) (args := [(Value.pointer g0_l), (Value.int .i64 g1_xid)]) mixedPP Try.func22 (c := bodyOf Try.f22) (by kernel_rfl) (by kernel_rfl) (by kernel_rfl) (Eq.mpr (E_clog_Log_Reads g0_l g1_xid h Q) H)
def F_clog_Log_Snapshot (g0_l : Option Addr) (g1_xid : Int) (h : Hp) (Q : List Value → Hp → Prop) : Prop :=
S_clog_Log_one g0_l g1_xid h fun (vs1 : List Value) (h2 : Hp) =>
∃ n3 : Int, ∃ n4 : Int, ∃ n5 : Int, ∃ b6 : Bool, vs1 = [(Value.agg #[(Value.int .i64 n3), (Value.int .i64 n4), (Value.int .i64 n5), (Value.bool b6)])] ∧
Q [(Value.int .i64 n5)] h2
def A_clog_Log_Snapshot : Ann := .nil
theorem E_clog_Log_Snapshot (g0_l : Option Addr) (g1_xid : Int) (h : Hp) (Q : List Value → Hp → Prop) : cw PP 9 (fun _ => []) (bodyOf Try.f23) A_clog_Log_Snapshot (finQ PP (Try.f23.results.toList) Q) (argFr [(Value.pointer g0_l), (Value.int .i64 g1_xid)]) h = F_clog_Log_Snapshot g0_l g1_xid h Q := by kernel_rfl
theorem O_clog_Log_Snapshot (g0_l : Option Addr) (g1_xid : Int) {h : Hp} {Q : List Value → Hp → Prop} (H : F_clog_Log_Snapshot g0_l g1_xid h Q) : S_clog_Log_Snapshot g0_l g1_xid h Q :=
  fn_of_cw (hs := (fun _ => [])) (ann := A_clog_Log_Snapshot) (args := [(Value.pointer g0_l), (Value.int .i64 g1_xid)]) mixedPP Try.func23 (c := bodyOf Try.f23) (by kernel_rfl) (by kernel_rfl) (by kernel_rfl) (Eq.mpr (E_clog_Log_Snapshot g0_l g1_xid h Q) H)
def F_edge_Edges_Out (g0_e : Option Addr) (g1_xid : Int) (h : Hp) (Q : List Value → Hp → Prop) : Prop :=
S_edge_Edges_ends g0_e g1_xid (0 : Int) h fun (vs1 : List Value) (h2 : Hp) =>
∃ l3 : Sl, vs1 = [(Value.slice l3.a l3.n l3.c)] ∧
Q [(Value.slice l3.a l3.n l3.c)] h2
def A_edge_Edges_Out : Ann := .nil
theorem E_edge_Edges_Out (g0_e : Option Addr) (g1_xid : Int) (h : Hp) (Q : List Value → Hp → Prop) : cw PP 8 (fun _ => []) (bodyOf Try.f24) A_edge_Edges_Out (finQ PP (Try.f24.results.toList) Q) (argFr [(Value.pointer g0_e), (Value.int .i64 g1_xid)]) h = F_edge_Edges_Out g0_e g1_xid h Q := by kernel_rfl
theorem O_edge_Edges_Out (g0_e : Option Addr) (g1_xid : Int) {h : Hp} {Q : List Value → Hp → Prop} (H : F_edge_Edges_Out g0_e g1_xid h Q) : S_edge_Edges_Out g0_e g1_xid h Q :=
  fn_of_cw (hs := (fun _ => [])) (ann := A_edge_Edges_Out) (args := [(Value.pointer g0_e), (Value.int .i64 g1_xid)]) mixedPP Try.func24 (c := bodyOf Try.f24) (by kernel_rfl) (by kernel_rfl) (by kernel_rfl) (Eq.mpr (E_edge_Edges_Out g0_e g1_xid h Q) H)
def F_clog_Log_Csn (g0_l : Option Addr) (g1_xid : Int) (h : Hp) (Q : List Value → Hp → Prop) : Prop :=
S_clog_Log_one g0_l g1_xid h fun (vs1 : List Value) (h2 : Hp) =>
∃ n3 : Int, ∃ n4 : Int, ∃ n5 : Int, ∃ b6 : Bool, vs1 = [(Value.agg #[(Value.int .i64 n3), (Value.int .i64 n4), (Value.int .i64 n5), (Value.bool b6)])] ∧
Q [(Value.int .i64 n4)] h2
def A_clog_Log_Csn : Ann := .nil
theorem E_clog_Log_Csn (g0_l : Option Addr) (g1_xid : Int) (h : Hp) (Q : List Value → Hp → Prop) : cw PP 9 (fun _ => []) (bodyOf Try.f45) A_clog_Log_Csn (finQ PP (Try.f45.results.toList) Q) (argFr [(Value.pointer g0_l), (Value.int .i64 g1_xid)]) h = F_clog_Log_Csn g0_l g1_xid h Q := by kernel_rfl
theorem O_clog_Log_Csn (g0_l : Option Addr) (g1_xid : Int) {h : Hp} {Q : List Value → Hp → Prop} (H : F_clog_Log_Csn g0_l g1_xid h Q) : S_clog_Log_Csn g0_l g1_xid h Q :=
  fn_of_cw (hs := (fun _ => [])) (ann := A_clog_Log_Csn) (args := [(Value.pointer g0_l), (Value.int .i64 g1_xid)]) mixedPP Try.func45 (c := bodyOf Try.f45) (by kernel_rfl) (by kernel_rfl) (by kernel_rfl) (Eq.mpr (E_clog_Log_Csn g0_l g1_xid h Q) H)
def F_edge_Edges_first (g0_e : Option Addr) (g1_p : Int) (h : Hp) (Q : List Value → Hp → Prop) : Prop :=
S_edge_Edges_Out g0_e g1_p h fun (vs1 : List Value) (h2 : Hp) =>
∃ l3 : Sl, vs1 = [(Value.slice l3.a l3.n l3.c)] ∧
∀ X4 : List Value → Hp → Prop, (∀ n5 : Int, ∀ n6 : Int, ∀ h7 : Hp, ((if (decide (n6 < (l3.n : Int))) = true then
      (∀ J8 : List Value → Hp → Prop, (∀ n9 : Int, ∀ h10 : Hp, (X4 [(Value.int .i64 n9), (Value.int .i64 (IntKind.wrap .i64 (n6 + (1 : Int))))] h10) → J8 [(Value.int .i64 n9)] h10) →
        nilW l3.a fun a11 => ixOk n6 l3.n (∃ n12 : Int, rd h7 (Addr.add a11 (Int.toNat n6 * 1)) = some (Value.int .i64 n12) ∧
          nilW g0_e fun a13 => ∃ p14 : Option Addr, rd h7 (Addr.add a13 0) = some (Value.pointer p14) ∧
          S_clog_Log_Csn p14 n12 h7 fun (vs15 : List Value) (h16 : Hp) =>
          ∃ n17 : Int, vs15 = [(Value.int .i64 n17)] ∧
          ∀ J18 : List Value → Hp → Prop, (∀ b19 : Bool, ∀ h20 : Hp, ((if b19 = true then
                (J8 [(Value.int .i64 n5)] h20) else
                (∀ J21 : List Value → Hp → Prop, (∀ b22 : Bool, ∀ h23 : Hp, ((if b22 = true then
                        (J8 [(Value.int .i64 n17)] h23) else
                        (J8 [(Value.int .i64 n5)] h23))) → J21 [(Value.bool b22)] h23) →
                  (if (n5 == (0 : Int)) = true then (J21 [(Value.bool true)] h20) else
                    (J21 [(Value.bool (decide (n17 < n5)))] h20))))) → J18 [(Value.bool b19)] h20) →
          (if (n17 == (0 : Int)) = true then (J18 [(Value.bool true)] h16) else
            (nilW g0_e fun a24 => ∃ p25 : Option Addr, rd h16 (Addr.add a24 0) = some (Value.pointer p25) ∧
              S_clog_Log_Csn p25 g1_p h16 fun (vs26 : List Value) (h27 : Hp) =>
              ∃ n28 : Int, vs26 = [(Value.int .i64 n28)] ∧
              (if (n28 != (0 : Int)) = true then (nilW g0_e fun a29 => ∃ p30 : Option Addr, rd h27 (Addr.add a29 0) = some (Value.pointer p30) ∧
                  S_clog_Log_Csn p30 g1_p h27 fun (vs31 : List Value) (h32 : Hp) =>
                  ∃ n33 : Int, vs31 = [(Value.int .i64 n33)] ∧
                  J18 [(Value.bool (decide (n33 ≤ n17)))] h32) else
                (J18 [(Value.bool false)] h27)))))) else
      (Q [(Value.int .i64 n5)] h7))) → X4 [(Value.int .i64 n5), (Value.int .i64 n6)] h7) →
X4 [(Value.int .i64 (0 : Int)), (Value.int .i64 (0 : Int))] h2
def A_edge_Edges_first : Ann := (.mk none ⟨[], []⟩ .nil (.mk none ⟨[], []⟩ (.mk none ⟨[], []⟩ .nil (.mk none ⟨[], []⟩ .nil (.mk none ⟨[], []⟩ (.mk none ⟨[], []⟩ .nil (.mk none ⟨[], []⟩ (.mk none ⟨[0, 1, 11, 12], [(5, (.c (.int .i64))), (13, (.c (.int .i64)))]⟩ (.mk none ⟨[], []⟩ .nil (.mk none ⟨[], []⟩ .nil (.mk none ⟨[], []⟩ (.mk (some ⟨[0, 1, 11, 12, 13], [(5, (.c (.int .i64)))]⟩) ⟨[], []⟩ (.mk none ⟨[], []⟩ .nil (.mk none ⟨[], []⟩ .nil (.mk none ⟨[], []⟩ (.mk none ⟨[], []⟩ (.mk (some ⟨[0, 1, 5, 8, 11, 12, 13], [(43, (.c .bool))]⟩) ⟨[], []⟩ .nil .nil) .nil) (.mk none ⟨[], []⟩ (.mk (some ⟨[0, 1, 5, 8, 11, 12, 13], [(50, (.c .bool))]⟩) ⟨[], []⟩ .nil .nil) .nil)))) .nil) .nil))) .nil) .nil)) .nil))) .nil))
theorem E_edge_Edges_first (g0_e : Option Addr) (g1_p : Int) (h : Hp) (Q : List Value → Hp → Prop) : cw PP 54 (fun _ => []) (bodyOf Try.f44) A_edge_Edges_first (finQ PP (Try.f44.results.toList) Q) (argFr [(Value.pointer g0_e), (Value.int .i64 g1_p)]) h = F_edge_Edges_first g0_e g1_p h Q := by kernel_rfl
theorem O_edge_Edges_first (g0_e : Option Addr) (g1_p : Int) {h : Hp} {Q : List Value → Hp → Prop} (H : F_edge_Edges_first g0_e g1_p h Q) : S_edge_Edges_first g0_e g1_p h Q :=
  fn_of_cw (hs := (fun _ => [])) (ann := A_edge_Edges_first) (args := [(Value.pointer g0_e), (Value.int .i64 g1_p)]) mixedPP Try.func44 (c := bodyOf Try.f44) (by kernel_rfl) (by kernel_rfl) (by kernel_rfl) (Eq.mpr (E_edge_Edges_first g0_e g1_p h Q) H)
def F_edge_Edges_Spoilt (g0_e : Option Addr) (g1_p : Int) (h : Hp) (Q : List Value → Hp → Prop) : Prop :=
∀ J1 : List Value → Hp → Prop, (∀ b2 : Bool, ∀ h3 : Hp, ((if b2 = true then
      (Q [(Value.slice none 0 0), (Value.bool false)] h3) else
      (S_edge_Edges_first g0_e g1_p h3 fun (vs4 : List Value) (h5 : Hp) =>
        ∃ n6 : Int, vs4 = [(Value.int .i64 n6)] ∧
        (if (n6 == (0 : Int)) = true then
          (Q [(Value.slice none 0 0), (Value.bool false)] h5) else
          (nilW g0_e fun a7 => ∃ r8 : Option Nat, rd h5 (Addr.add a7 2) = some (Value.map r8) ∧
            ∃ es9 : Array MapEntry, mapAt h5 r8 es9 ∧ KeysLike (Value.int .i64 g1_p) es9 ∧ ∃ n10 : Int, mgetD (Value.int .i64 g1_p) es9 (Value.int .i64 (0 : Int)) = (Value.int .i64 n10) ∧
            S_edge_Edges_In g0_e g1_p h5 fun (vs12 : List Value) (h13 : Hp) =>
            ∃ l14 : Sl, vs12 = [(Value.slice l14.a l14.n l14.c)] ∧
            ∀ X15 : List Value → Hp → Prop, (∀ l16 : Sl, ∀ b17 : Bool, ∀ n18 : Int, ∀ h19 : Hp, ((if (decide (n18 < (l14.n : Int))) = true then
                  (∀ J20 : List Value → Hp → Prop, (∀ l21 : Sl, ∀ b22 : Bool, ∀ h23 : Hp, (X15 [(Value.slice l21.a l21.n l21.c), (Value.bool b22), (Value.int .i64 (IntKind.wrap .i64 (n18 + (1 : Int))))] h23) → J20 [(Value.slice l21.a l21.n l21.c), (Value.bool b22)] h23) →
                    nilW l14.a fun a24 => ixOk n18 l14.n (∃ n25 : Int, rd h19 (Addr.add a24 (Int.toNat n18 * 1)) = some (Value.int .i64 n25) ∧
                      nilW g0_e fun a26 => ∃ p27 : Option Addr, rd h19 (Addr.add a26 0) = some (Value.pointer p27) ∧
                      S_clog_Log_State p27 n25 h19 fun (vs28 : List Value) (h29 : Hp) =>
                      ∃ n30 : Int, vs28 = [(Value.int .i64 n30)] ∧
                      ∀ J31 : List Value → Hp → Prop, (∀ l32 : Sl, ∀ h33 : Hp, (J20 [(Value.slice l32.a l32.n l32.c), (Value.bool true)] h33) → J31 [(Value.slice l32.a l32.n l32.c)] h33) →
                      ∀ J34 : List Value → Hp → Prop, (∀ b35 : Bool, ∀ h36 : Hp, ((if b35 = true then
                            (J20 [(Value.slice l16.a l16.n l16.c), (Value.bool b17)] h36) else
                            (∀ J37 : List Value → Hp → Prop, (∀ b38 : Bool, ∀ h39 : Hp, ((if b38 = true then
                                    (J20 [(Value.slice l16.a l16.n l16.c), (Value.bool b17)] h39) else
                                    ((if (n30 == (1 : Int)) = true then
                                        (wth (Array.push h39 (Obj.cells #[(Value.int .i64 n25)] T_int)) fun h40 =>
                                          ∃ cs43 : List Value, cellsAt h40 (some (Addr.mk (Array.size h39) 0 none)) (1 * 1) cs43 ∧ appS PP T_int 8 1 h40 ⟨l16.a, l16.n, l16.c⟩ 1 cs43 fun (l41 : Sl) (h42 : Hp) =>
                                          J31 [(Value.slice l41.a l41.n l41.c)] h42) else
                                        (J31 [(Value.slice l16.a l16.n l16.c)] h39))))) → J37 [(Value.bool b38)] h39) →
                              nilW g0_e fun a44 => ∃ p45 : Option Addr, rd h36 (Addr.add a44 0) = some (Value.pointer p45) ∧
                              S_clog_Log_Reads p45 n25 h36 fun (vs46 : List Value) (h47 : Hp) =>
                              ∃ b48 : Bool, vs46 = [(Value.bool b48)] ∧
                              (if b48 = true then (nilW g0_e fun a49 => ∃ p50 : Option Addr, rd h47 (Addr.add a49 0) = some (Value.pointer p50) ∧
                                  S_clog_Log_Snapshot p50 n25 h47 fun (vs51 : List Value) (h52 : Hp) =>
                                  ∃ n53 : Int, vs51 = [(Value.int .i64 n53)] ∧
                                  J37 [(Value.bool (decide (n53 < n6)))] h52) else
                                (J37 [(Value.bool false)] h47))))) → J34 [(Value.bool b35)] h36) →
                      (if (n30 == (3 : Int)) = true then (J34 [(Value.bool true)] h29) else
                        ((if (n30 == (2 : Int)) = true then (nilW g0_e fun a54 => ∃ p55 : Option Addr, rd h29 (Addr.add a54 0) = some (Value.pointer p55) ∧
                              S_clog_Log_Csn p55 n25 h29 fun (vs56 : List Value) (h57 : Hp) =>
                              ∃ n58 : Int, vs56 = [(Value.int .i64 n58)] ∧
                              J34 [(Value.bool (decide (n58 < n6)))] h57) else
                            (J34 [(Value.bool false)] h29)))))) else
                  (Q [(Value.slice l16.a l16.n l16.c), (Value.bool b17)] h19))) → X15 [(Value.slice l16.a l16.n l16.c), (Value.bool b17), (Value.int .i64 n18)] h19) →
            X15 [(Value.slice none 0 0), (Value.bool (decide (n10 ≥ n6))), (Value.int .i64 (0 : Int))] h13))))) → J1 [(Value.bool b2)] h3) →
S_edge_Edges_none g0_e h fun (vs59 : List Value) (h60 : Hp) =>
∃ b61 : Bool, vs59 = [(Value.bool b61)] ∧
(if b61 = true then (J1 [(Value.bool true)] h60) else
  (nilW g0_e fun a62 => ∃ p63 : Option Addr, rd h60 (Addr.add a62 0) = some (Value.pointer p63) ∧
    S_clog_Log_State p63 g1_p h60 fun (vs64 : List Value) (h65 : Hp) =>
    ∃ n66 : Int, vs64 = [(Value.int .i64 n66)] ∧
    J1 [(Value.bool (n66 == (3 : Int)))] h65))
def A_edge_Edges_Spoilt : Ann := (.mk none ⟨[], []⟩ .nil (.mk none ⟨[], []⟩ (.mk none ⟨[], []⟩ (.mk none ⟨[], []⟩ (.mk (some ⟨[0, 1, 4], [(20, (.c .bool))]⟩) ⟨[], []⟩ .nil .nil) .nil) (.mk none ⟨[], []⟩ .nil (.mk none ⟨[], []⟩ .nil (.mk none ⟨[], []⟩ .nil (.mk none ⟨[], []⟩ .nil (.mk none ⟨[], []⟩ (.mk none ⟨[], []⟩ .nil (.mk none ⟨[], []⟩ (.mk none ⟨[0, 6, 36, 37], [(4, (.c .sl)), (5, (.c .bool)), (38, (.c (.int .i64)))]⟩ (.mk none ⟨[], []⟩ .nil (.mk none ⟨[], []⟩ .nil (.mk none ⟨[], []⟩ (.mk (some ⟨[0, 6, 36, 37, 38], [(4, (.c .sl)), (5, (.c .bool))]⟩) ⟨[], []⟩ (.mk none ⟨[], []⟩ .nil (.mk none ⟨[], []⟩ (.mk none ⟨[], []⟩ .nil (.mk (some ⟨[0, 6, 36, 37, 38], [(4, (.c .sl))]⟩) ⟨[], []⟩ (.mk none ⟨[], []⟩ (.mk (some ⟨[0, 4, 5, 6, 8, 9, 36, 37, 38], [(48, (.c .bool))]⟩) ⟨[], []⟩ .nil .nil) (.mk none ⟨[], []⟩ .nil (.mk none ⟨[], []⟩ (.mk (some ⟨[0, 4, 5, 6, 8, 9, 36, 37, 38], [(65, (.c .bool))]⟩) ⟨[], []⟩ .nil .nil) .nil))) .nil)) .nil)) .nil) .nil))) .nil) .nil)) .nil)))))) .nil))
theorem E_edge_Edges_Spoilt (g0_e : Option Addr) (g1_p : Int) (h : Hp) (Q : List Value → Hp → Prop) : cw PP 92 (fun _ => []) (bodyOf Try.f18) A_edge_Edges_Spoilt (finQ PP (Try.f18.results.toList) Q) (argFr [(Value.pointer g0_e), (Value.int .i64 g1_p)]) h = F_edge_Edges_Spoilt g0_e g1_p h Q := by kernel_rfl
theorem O_edge_Edges_Spoilt (g0_e : Option Addr) (g1_p : Int) {h : Hp} {Q : List Value → Hp → Prop} (H : F_edge_Edges_Spoilt g0_e g1_p h Q) : S_edge_Edges_Spoilt g0_e g1_p h Q :=
  fn_of_cw (hs := (fun _ => [])) (ann := A_edge_Edges_Spoilt) (args := [(Value.pointer g0_e), (Value.int .i64 g1_p)]) mixedPP Try.func18 (c := bodyOf Try.f18) (by kernel_rfl) (by kernel_rfl) (by kernel_rfl) (Eq.mpr (E_edge_Edges_Spoilt g0_e g1_p h Q) H)
def F_edge_Edges_Ahead (g0_e : Option Addr) (g1_t3 : Int) (h : Hp) (Q : List Value → Hp → Prop) : Prop :=
S_edge_Edges_In g0_e g1_t3 h fun (vs1 : List Value) (h2 : Hp) =>
∃ l3 : Sl, vs1 = [(Value.slice l3.a l3.n l3.c)] ∧
∀ X4 : List Value → Hp → Prop, (∀ l5 : Sl, ∀ n6 : Int, ∀ h7 : Hp, ((if (decide (n6 < (l3.n : Int))) = true then
      (∀ J8 : List Value → Hp → Prop, (∀ l9 : Sl, ∀ h10 : Hp, (X4 [(Value.slice l9.a l9.n l9.c), (Value.int .i64 (IntKind.wrap .i64 (n6 + (1 : Int))))] h10) → J8 [(Value.slice l9.a l9.n l9.c)] h10) →
        nilW l3.a fun a11 => ixOk n6 l3.n (∃ n12 : Int, rd h7 (Addr.add a11 (Int.toNat n6 * 1)) = some (Value.int .i64 n12) ∧
          nilW g0_e fun a13 => ∃ p14 : Option Addr, rd h7 (Addr.add a13 0) = some (Value.pointer p14) ∧
          S_clog_Log_State p14 n12 h7 fun (vs15 : List Value) (h16 : Hp) =>
          ∃ n17 : Int, vs15 = [(Value.int .i64 n17)] ∧
          (if (n17 != (1 : Int)) = true then
            (J8 [(Value.slice l5.a l5.n l5.c)] h16) else
            (S_edge_Edges_In g0_e n12 h16 fun (vs18 : List Value) (h19 : Hp) =>
              ∃ l20 : Sl, vs18 = [(Value.slice l20.a l20.n l20.c)] ∧
              ∀ X21 : List Value → Hp → Prop, (∀ l22 : Sl, ∀ n23 : Int, ∀ h24 : Hp, ((if (decide (n23 < (l20.n : Int))) = true then
                    (nilW l20.a fun a25 => ixOk n23 l20.n (∃ n26 : Int, rd h24 (Addr.add a25 (Int.toNat n23 * 1)) = some (Value.int .i64 n26) ∧
                        ∀ J27 : List Value → Hp → Prop, (∀ b28 : Bool, ∀ h29 : Hp, ((if b28 = true then
                              (wth (Array.push h29 (Obj.cells #[(Value.int .i64 n12)] T_int)) fun h30 =>
                                ∃ cs33 : List Value, cellsAt h30 (some (Addr.mk (Array.size h29) 0 none)) (1 * 1) cs33 ∧ appS PP T_int 8 1 h30 ⟨l22.a, l22.n, l22.c⟩ 1 cs33 fun (l31 : Sl) (h32 : Hp) =>
                                J8 [(Value.slice l31.a l31.n l31.c)] h32) else
                              (X21 [(Value.slice l22.a l22.n l22.c), (Value.int .i64 (IntKind.wrap .i64 (n23 + (1 : Int))))] h29))) → J27 [(Value.bool b28)] h29) →
                        (if (n26 == g1_t3) = true then (nilW g0_e fun a34 => ∃ p35 : Option Addr, rd h24 (Addr.add a34 0) = some (Value.pointer p35) ∧
                            S_clog_Log_Reads p35 n26 h24 fun (vs36 : List Value) (h37 : Hp) =>
                            ∃ b38 : Bool, vs36 = [(Value.bool b38)] ∧
                            J27 [(Value.bool (!b38))] h37) else
                          (nilW g0_e fun a39 => ∃ p40 : Option Addr, rd h24 (Addr.add a39 0) = some (Value.pointer p40) ∧
                            S_clog_Log_State p40 n26 h24 fun (vs41 : List Value) (h42 : Hp) =>
                            ∃ n43 : Int, vs41 = [(Value.int .i64 n43)] ∧
                            (if (n43 == (1 : Int)) = true then (nilW g0_e fun a44 => ∃ p45 : Option Addr, rd h42 (Addr.add a44 0) = some (Value.pointer p45) ∧
                                S_clog_Log_Reads p45 n26 h42 fun (vs46 : List Value) (h47 : Hp) =>
                                ∃ b48 : Bool, vs46 = [(Value.bool b48)] ∧
                                J27 [(Value.bool (!b48))] h47) else
                              (J27 [(Value.bool false)] h42)))))) else
                    (J8 [(Value.slice l22.a l22.n l22.c)] h24))) → X21 [(Value.slice l22.a l22.n l22.c), (Value.int .i64 n23)] h24) →
              X21 [(Value.slice l5.a l5.n l5.c), (Value.int .i64 (0 : Int))] h19)))) else
      (Q [(Value.slice l5.a l5.n l5.c)] h7))) → X4 [(Value.slice l5.a l5.n l5.c), (Value.int .i64 n6)] h7) →
X4 [(Value.slice none 0 0), (Value.int .i64 (0 : Int))] h2
def A_edge_Edges_Ahead : Ann := (.mk none ⟨[], []⟩ .nil (.mk none ⟨[], []⟩ (.mk none ⟨[], []⟩ .nil (.mk none ⟨[], []⟩ .nil (.mk none ⟨[], []⟩ (.mk none ⟨[], []⟩ .nil (.mk none ⟨[], []⟩ (.mk none ⟨[0, 1, 12, 13], [(5, (.c .sl)), (14, (.c (.int .i64)))]⟩ (.mk none ⟨[], []⟩ .nil (.mk none ⟨[], []⟩ .nil (.mk none ⟨[], []⟩ (.mk (some ⟨[0, 1, 12, 13, 14], [(5, (.c .sl))]⟩) ⟨[], []⟩ (.mk none ⟨[], []⟩ .nil (.mk none ⟨[], []⟩ .nil (.mk none ⟨[], []⟩ .nil (.mk none ⟨[], []⟩ (.mk none ⟨[0, 1, 7, 12, 13, 14, 27, 28], [(5, (.c .sl)), (29, (.c (.int .i64)))]⟩ (.mk none ⟨[], []⟩ .nil (.mk none ⟨[], []⟩ .nil (.mk none ⟨[], []⟩ (.mk none ⟨[], []⟩ (.mk none ⟨[], []⟩ .nil (.mk none ⟨[], []⟩ (.mk (some ⟨[0, 1, 5, 7, 12, 13, 14, 27, 28, 29], [(53, (.c .bool))]⟩) ⟨[], []⟩ .nil .nil) .nil)) .nil) .nil))) .nil) .nil)))) .nil) .nil))) .nil) .nil)) .nil))) .nil))
theorem E_edge_Edges_Ahead (g0_e : Option Addr) (g1_t3 : Int) (h : Hp) (Q : List Value → Hp → Prop) : cw PP 61 (fun _ => []) (bodyOf Try.f26) A_edge_Edges_Ahead (finQ PP (Try.f26.results.toList) Q) (argFr [(Value.pointer g0_e), (Value.int .i64 g1_t3)]) h = F_edge_Edges_Ahead g0_e g1_t3 h Q := by kernel_rfl
theorem O_edge_Edges_Ahead (g0_e : Option Addr) (g1_t3 : Int) {h : Hp} {Q : List Value → Hp → Prop} (H : F_edge_Edges_Ahead g0_e g1_t3 h Q) : S_edge_Edges_Ahead g0_e g1_t3 h Q :=
  fn_of_cw (hs := (fun _ => [])) (ann := A_edge_Edges_Ahead) (args := [(Value.pointer g0_e), (Value.int .i64 g1_t3)]) mixedPP Try.func26 (c := bodyOf Try.f26) (by kernel_rfl) (by kernel_rfl) (by kernel_rfl) (Eq.mpr (E_edge_Edges_Ahead g0_e g1_t3 h Q) H)
def F_liverykeep_Ints (g0_a : Sl) (g1_b : Sl) (h : Hp) (Q : List Value → Hp → Prop) : Prop :=
(if ((g0_a.n : Int) != (g1_b.n : Int)) = true then
  (Q [(Value.bool false)] h) else
  (∀ X1 : List Value → Hp → Prop, (∀ n2 : Int, ∀ h3 : Hp, ((if (decide (n2 < (g0_a.n : Int))) = true then
          (nilW g0_a.a fun a4 => ixOk n2 g0_a.n (∃ n5 : Int, rd h3 (Addr.add a4 (Int.toNat n2 * 1)) = some (Value.int .i64 n5) ∧
              nilW g1_b.a fun a6 => ixOk n2 g1_b.n (∃ n7 : Int, rd h3 (Addr.add a6 (Int.toNat n2 * 1)) = some (Value.int .i64 n7) ∧
                (if (n5 != n7) = true then
                  (Q [(Value.bool false)] h3) else
                  (X1 [(Value.int .i64 (IntKind.wrap .i64 (n2 + (1 : Int))))] h3))))) else
          (Q [(Value.bool true)] h3))) → X1 [(Value.int .i64 n2)] h3) →
    X1 [(Value.int .i64 (0 : Int))] h))
def A_liverykeep_Ints : Ann := (.mk none ⟨[], []⟩ .nil (.mk none ⟨[], []⟩ .nil (.mk none ⟨[], []⟩ (.mk none ⟨[], []⟩ .nil (.mk none ⟨[], []⟩ (.mk none ⟨[0, 1], [(5, (.c (.int .i64)))]⟩ .nil .nil) .nil)) .nil)))
theorem E_liverykeep_Ints (g0_a : Sl) (g1_b : Sl) (h : Hp) (Q : List Value → Hp → Prop) : cw PP 26 (fun _ => []) (bodyOf Try.f32) A_liverykeep_Ints (finQ PP (Try.f32.results.toList) Q) (argFr [(Value.slice g0_a.a g0_a.n g0_a.c), (Value.slice g1_b.a g1_b.n g1_b.c)]) h = F_liverykeep_Ints g0_a g1_b h Q := by kernel_rfl
theorem O_liverykeep_Ints (g0_a : Sl) (g1_b : Sl) {h : Hp} {Q : List Value → Hp → Prop} (H : F_liverykeep_Ints g0_a g1_b h Q) : S_liverykeep_Ints g0_a g1_b h Q :=
  fn_of_cw (hs := (fun _ => [])) (ann := A_liverykeep_Ints) (args := [(Value.slice g0_a.a g0_a.n g0_a.c), (Value.slice g1_b.a g1_b.n g1_b.c)]) mixedPP Try.func32 (c := bodyOf Try.f32) (by kernel_rfl) (by kernel_rfl) (by kernel_rfl) (Eq.mpr (E_liverykeep_Ints g0_a g1_b h Q) H)
def F_liverylaw14_wakes (h : Hp) (Q : List Value → Hp → Prop) : Prop :=
S_clog_New  h fun (vs1 : List Value) (h2 : Hp) =>
∃ p3 : Option Addr, vs1 = [(Value.pointer p3)] ∧
S_edge_New p3 h2 fun (vs4 : List Value) (h5 : Hp) =>
∃ p6 : Option Addr, vs4 = [(Value.pointer p6)] ∧
∀ J7 : List Value → Hp → Prop, (∀ b8 : Bool, ∀ h9 : Hp, ((if b8 = true then
      (Q [(Value.bool false)] h9) else
      (S_clog_Log_Begin p3 false h9 fun (vs10 : List Value) (h11 : Hp) =>
        ∃ n12 : Int, ∃ n13 : Int, vs10 = [(Value.int .i64 n12), (Value.int .i64 n13)] ∧
        S_clog_Log_Begin p3 false h11 fun (vs14 : List Value) (h15 : Hp) =>
        ∃ n16 : Int, ∃ n17 : Int, vs14 = [(Value.int .i64 n16), (Value.int .i64 n17)] ∧
        S_clog_Log_Begin p3 false h15 fun (vs18 : List Value) (h19 : Hp) =>
        ∃ n20 : Int, ∃ n21 : Int, vs18 = [(Value.int .i64 n20), (Value.int .i64 n21)] ∧
        ∀ J22 : List Value → Hp → Prop, (∀ b23 : Bool, ∀ h24 : Hp, ((if b23 = true then
              (Q [(Value.bool false)] h24) else
              (S_edge_Edges_Spoilt p6 (2 : Int) h24 fun (vs25 : List Value) (h26 : Hp) =>
                ∃ l27 : Sl, ∃ b28 : Bool, vs25 = [(Value.slice l27.a l27.n l27.c), (Value.bool b28)] ∧
                S_edge_Edges_Ahead p6 (3 : Int) h26 fun (vs29 : List Value) (h30 : Hp) =>
                ∃ l31 : Sl, vs29 = [(Value.slice l31.a l31.n l31.c)] ∧
                S_clog_Log_Commit p3 (3 : Int) h30 fun (vs32 : List Value) (h33 : Hp) =>
                ∃ n34 : Int, ∃ n35 : Int, vs32 = [(Value.int .i64 n34), (Value.int .i64 n35)] ∧
                S_edge_Edges_Spoilt p6 (2 : Int) h33 fun (vs36 : List Value) (h37 : Hp) =>
                ∃ l38 : Sl, ∃ b39 : Bool, vs36 = [(Value.slice l38.a l38.n l38.c), (Value.bool b39)] ∧
                (if (!b28) = true then ((if b39 = true then (wth (Array.push h37 (Obj.cells #[(Value.int .i64 (2 : Int))] T_int)) fun h40 =>
                        S_liverykeep_Ints ⟨l31.a, l31.n, l31.c⟩ ⟨(some (Addr.mk (Array.size h37) 0 none)), 1, 1⟩ h40 fun (vs41 : List Value) (h42 : Hp) =>
                        ∃ b43 : Bool, vs41 = [(Value.bool b43)] ∧
                        (if b43 = true then (wth (Array.push h42 (Obj.cells #[(Value.int .i64 (1 : Int))] T_int)) fun h44 =>
                            S_liverykeep_Ints ⟨l38.a, l38.n, l38.c⟩ ⟨(some (Addr.mk (Array.size h42) 0 none)), 1, 1⟩ h44 fun (vs45 : List Value) (h46 : Hp) =>
                            ∃ b47 : Bool, vs45 = [(Value.bool b47)] ∧
                            (if b47 = true then (S_edge_Edges_In p6 (2 : Int) h46 fun (vs48 : List Value) (h49 : Hp) =>
                                ∃ l50 : Sl, vs48 = [(Value.slice l50.a l50.n l50.c)] ∧
                                wth (Array.push h49 (Obj.cells #[(Value.int .i64 (1 : Int))] T_int)) fun h51 =>
                                S_liverykeep_Ints ⟨l50.a, l50.n, l50.c⟩ ⟨(some (Addr.mk (Array.size h49) 0 none)), 1, 1⟩ h51 fun (vs52 : List Value) (h53 : Hp) =>
                                ∃ b54 : Bool, vs52 = [(Value.bool b54)] ∧
                                (if b54 = true then (S_edge_Edges_Out p6 (2 : Int) h53 fun (vs55 : List Value) (h56 : Hp) =>
                                    ∃ l57 : Sl, vs55 = [(Value.slice l57.a l57.n l57.c)] ∧
                                    wth (Array.push h56 (Obj.cells #[(Value.int .i64 (3 : Int))] T_int)) fun h58 =>
                                    S_liverykeep_Ints ⟨l57.a, l57.n, l57.c⟩ ⟨(some (Addr.mk (Array.size h56) 0 none)), 1, 1⟩ h58 fun (vs59 : List Value) (h60 : Hp) =>
                                    ∃ b61 : Bool, vs59 = [(Value.bool b61)] ∧
                                    Q [(Value.bool b61)] h60) else
                                  (Q [(Value.bool false)] h53))) else
                              (Q [(Value.bool false)] h46))) else
                          (Q [(Value.bool false)] h42))) else
                      (Q [(Value.bool false)] h37))) else
                  (Q [(Value.bool false)] h37))))) → J22 [(Value.bool b23)] h24) →
        S_edge_Edges_Add p6 (1 : Int) (2 : Int) h19 fun (vs62 : List Value) (h63 : Hp) =>
        ∃ b64 : Bool, vs62 = [(Value.bool b64)] ∧
        (if (!b64) = true then (J22 [(Value.bool true)] h63) else
          (S_edge_Edges_Add p6 (2 : Int) (3 : Int) h63 fun (vs65 : List Value) (h66 : Hp) =>
            ∃ b67 : Bool, vs65 = [(Value.bool b67)] ∧
            (if (!b67) = true then (J22 [(Value.bool true)] h66) else
              (S_edge_Edges_Add p6 (1 : Int) (2 : Int) h66 fun (vs68 : List Value) (h69 : Hp) =>
                ∃ b70 : Bool, vs68 = [(Value.bool b70)] ∧
                J22 [(Value.bool b70)] h69))))))) → J7 [(Value.bool b8)] h9) →
(if (Option.isNone p3) = true then (J7 [(Value.bool true)] h5) else
  (J7 [(Value.bool (Option.isNone p6))] h5))
def A_liverylaw14_wakes : Ann := (.mk none ⟨[], []⟩ .nil (.mk none ⟨[], []⟩ .nil (.mk none ⟨[], []⟩ .nil (.mk none ⟨[], []⟩ (.mk none ⟨[], []⟩ (.mk (some ⟨[1, 2], [(16, (.c .bool))]⟩) ⟨[], []⟩ .nil .nil) .nil) (.mk none ⟨[], []⟩ .nil (.mk none ⟨[], []⟩ .nil (.mk none ⟨[], []⟩ .nil (.mk none ⟨[], []⟩ (.mk none ⟨[], []⟩ (.mk (some ⟨[1, 2], [(34, (.c .bool))]⟩) ⟨[], []⟩ .nil .nil) .nil) .nil))))))))
theorem E_liverylaw14_wakes (h : Hp) (Q : List Value → Hp → Prop) : cw PP 76 (fun _ => []) (bodyOf Try.f9) A_liverylaw14_wakes (finQ PP (Try.f9.results.toList) Q) (argFr []) h = F_liverylaw14_wakes h Q := by kernel_rfl
theorem O_liverylaw14_wakes {h : Hp} {Q : List Value → Hp → Prop} (H : F_liverylaw14_wakes h Q) : S_liverylaw14_wakes h Q :=
  fn_of_cw (hs := (fun _ => [])) (ann := A_liverylaw14_wakes) (args := []) mixedPP Try.func9 (c := bodyOf Try.f9) (by kernel_rfl) (by kernel_rfl) (by kernel_rfl) (Eq.mpr (E_liverylaw14_wakes h Q) H)
def F_clog_Log_Abort (g0_l : Option Addr) (g1_xid : Int) (h : Hp) (Q : List Value → Hp → Prop) : Prop :=
S_clog_Log_ends g0_l g1_xid h fun (vs1 : List Value) (h2 : Hp) =>
∃ p3 : Option Addr, ∃ n4 : Int, vs1 = [(Value.pointer p3), (Value.int .i64 n4)] ∧
∀ J5 : List Value → Hp → Prop, (∀ h6 : Hp, (Q [(Value.int .i64 n4)] h6) → J5 [] h6) →
(if (n4 == (0 : Int)) = true then
  (nilW p3 fun a7 => stOk h2 (Addr.add a7 0) 1 ∧ wth (wrs h2 (Addr.add a7 0) 0 [(Value.int .i64 (3 : Int))]) fun h8 =>
    J5 [] h8) else
  (J5 [] h2))
def A_clog_Log_Abort : Ann := (.mk none ⟨[], []⟩ .nil (.mk none ⟨[], []⟩ .nil (.mk none ⟨[], []⟩ (.mk none ⟨[], []⟩ .nil (.mk (some ⟨[6], []⟩) ⟨[], []⟩ .nil .nil)) .nil)))
theorem E_clog_Log_Abort (g0_l : Option Addr) (g1_xid : Int) (h : Hp) (Q : List Value → Hp → Prop) : cw PP 19 (fun _ => []) (bodyOf Try.f12) A_clog_Log_Abort (finQ PP (Try.f12.results.toList) Q) (argFr [(Value.pointer g0_l), (Value.int .i64 g1_xid)]) h = F_clog_Log_Abort g0_l g1_xid h Q := by kernel_rfl
theorem O_clog_Log_Abort (g0_l : Option Addr) (g1_xid : Int) {h : Hp} {Q : List Value → Hp → Prop} (H : F_clog_Log_Abort g0_l g1_xid h Q) : S_clog_Log_Abort g0_l g1_xid h Q :=
  fn_of_cw (hs := (fun _ => [])) (ann := A_clog_Log_Abort) (args := [(Value.pointer g0_l), (Value.int .i64 g1_xid)]) mixedPP Try.func12 (c := bodyOf Try.f12) (by kernel_rfl) (by kernel_rfl) (by kernel_rfl) (Eq.mpr (E_clog_Log_Abort g0_l g1_xid h Q) H)
def F_maps_DeleteFunc_map_2_int_int_2_int_int (g0_m : Option Nat) (g1_del_f : Nat) (g1_del_c : Array Value) (h : Hp) (Q : List Value → Hp → Prop) : Prop :=
∃ o1 : Obj, IterOf h g0_m o1 ∧ wth (Array.push h o1) fun h2 =>
∀ X3 : List Value → Hp → Prop, (∀ h4 : Hp, ((Addr.off (Addr.mk (Array.size h) 0 none) = 0 ∧ ∃ o5 : Obj, h4[Addr.block (Addr.mk (Array.size h) 0 none)]? = some o5 ∧ IterGood h4 o5 ∧
      (IterEnd h4 o5 → Q [] h4) ∧
      ∀ (k6 v7 : Value) (o8 : Obj), IterStep h4 o5 k6 v7 o8 → wth (Array.setIfInBounds h4 (Addr.block (Addr.mk (Array.size h) 0 none)) o8) fun h9 =>
      (Addr.off (Addr.mk (Array.size h) 0 none) = 0 ∧ ∃ (m10 n11 : Nat) (q12 : Array Nat) (n13 : Nat) (es14 : Array MapEntry) (c15 : Nat) (e16 : MapEntry), h9[Addr.block (Addr.mk (Array.size h) 0 none)]? = some (.mapIter (some m10) n11 q12 c15) ∧ Array.back? q12 = some n13 ∧ h9[m10]? = some (.map es14 c15) ∧ Array.find? (fun x => x.born == n13) es14 = some e16 ∧ ∃ n17 : Int, ∃ n18 : Int, e16.key = (Value.agg #[(Value.int .i64 n17), (Value.int .i64 n18)]) ∧ ∃ n19 : Int, e16.val = (Value.int .i64 n19) ∧ wth (Array.push h9 (Obj.cells #[(Value.int .i64 (0 : Int)), (Value.int .i64 (0 : Int))] T_2_int)) fun h20 =>
        stOk h20 (Addr.mk (Array.size h9) 0 none) 2 ∧ wth (wrs h20 (Addr.mk (Array.size h9) 0 none) 0 [(Value.int .i64 n17), (Value.int .i64 n18)]) fun h21 =>
        ∃ n22 : Int, rd h21 (Addr.add (Addr.mk (Array.size h9) 0 none) 0) = some (Value.int .i64 n22) ∧ ∃ n23 : Int, rd h21 (Addr.add (Addr.mk (Array.size h9) 0 none) 1) = some (Value.int .i64 n23) ∧ Fn PP g1_del_f ((#[] ++ #[(Value.agg #[(Value.int .i64 n22), (Value.int .i64 n23)]), (Value.int .i64 n19)]) ++ g1_del_c) h21 fun (vs24 : List Value) (h25 : Hp) =>
        ∃ b26 : Bool, vs24 = [(Value.bool b26)] ∧
        (if b26 = true then
          (∃ n27 : Int, rd h25 (Addr.add (Addr.mk (Array.size h9) 0 none) 0) = some (Value.int .i64 n27) ∧ ∃ n28 : Int, rd h25 (Addr.add (Addr.mk (Array.size h9) 0 none) 1) = some (Value.int .i64 n28) ∧ ∃ (m29 : Nat) (es30 : Array MapEntry) (c31 : Nat), g0_m = some m29 ∧ h25[m29]? = some (.map es30 c31) ∧ KeysLike (Value.agg #[(Value.int .i64 n27), (Value.int .i64 n28)]) es30 ∧ wth (Array.setIfInBounds h25 m29 (mdel (Value.agg #[(Value.int .i64 n27), (Value.int .i64 n28)]) es30 c31)) fun h32 =>
            X3 [] h32) else
          (X3 [] h25))))) → X3 [] h4) →
X3 [] h2
def A_maps_DeleteFunc_map_2_int_int_2_int_int : Ann := (.mk none ⟨[], []⟩ .nil (.mk none ⟨[], []⟩ (.mk none ⟨[0, 1, 7], []⟩ .nil .nil) .nil))
theorem E_maps_DeleteFunc_map_2_int_int_2_int_int (g0_m : Option Nat) (g1_del_f : Nat) (g1_del_c : Array Value) (h : Hp) (Q : List Value → Hp → Prop) : cw PP 19 (fun d => if d = 10 then [(.agg [(.int .i64), (.int .i64)]), (.c (.int .i64))] else []) (bodyOf Try.f35) A_maps_DeleteFunc_map_2_int_int_2_int_int (finQ PP (Try.f35.results.toList) Q) (argFr [(Value.map g0_m), (Value.func (.func g1_del_f) #[] g1_del_c)]) h = F_maps_DeleteFunc_map_2_int_int_2_int_int g0_m g1_del_f g1_del_c h Q := by kernel_rfl
theorem O_maps_DeleteFunc_map_2_int_int_2_int_int (g0_m : Option Nat) (g1_del_f : Nat) (g1_del_c : Array Value) {h : Hp} {Q : List Value → Hp → Prop} (H : F_maps_DeleteFunc_map_2_int_int_2_int_int g0_m g1_del_f g1_del_c h Q) : S_maps_DeleteFunc_map_2_int_int_2_int_int g0_m g1_del_f g1_del_c h Q :=
  fn_of_cw (hs := (fun d => if d = 10 then [(.agg [(.int .i64), (.int .i64)]), (.c (.int .i64))] else [])) (ann := A_maps_DeleteFunc_map_2_int_int_2_int_int) (args := [(Value.map g0_m), (Value.func (.func g1_del_f) #[] g1_del_c)]) mixedPP Try.func35 (c := bodyOf Try.f35) (by kernel_rfl) (by kernel_rfl) (by kernel_rfl) (Eq.mpr (E_maps_DeleteFunc_map_2_int_int_2_int_int g0_m g1_del_f g1_del_c h Q) H)
def F_edge_Edges_Drop (g0_e : Option Addr) (g1_xid : Int) (h : Hp) (Q : List Value → Hp → Prop) : Prop :=
wth (Array.push h (Obj.cells #[(Value.int .i64 g1_xid)] T_int)) fun h1 =>
S_edge_Edges_none g0_e h1 fun (vs2 : List Value) (h3 : Hp) =>
∃ b4 : Bool, vs2 = [(Value.bool b4)] ∧
(if b4 = true then
  (Q [] h3) else
  (nilW g0_e fun a5 => ∃ r6 : Option Nat, rd h3 (Addr.add a5 1) = some (Value.map r6) ∧
    S_maps_DeleteFunc_map_2_int_int_2_int_int r6 36 #[(Value.pointer (some (Addr.mk (Array.size h) 0 none)))] h3 fun (vs7 : List Value) (h8 : Hp) =>
    vs7 = [] ∧
    nilW g0_e fun a9 => ∃ r10 : Option Nat, rd h8 (Addr.add a9 2) = some (Value.map r10) ∧
    ∃ n11 : Int, rd h8 (Addr.mk (Array.size h) 0 none) = some (Value.int .i64 n11) ∧
    ∃ (m12 : Nat) (es13 : Array MapEntry) (c14 : Nat), r10 = some m12 ∧ h8[m12]? = some (.map es13 c14) ∧ KeysLike (Value.int .i64 n11) es13 ∧ wth (Array.setIfInBounds h8 m12 (mdel (Value.int .i64 n11) es13 c14)) fun h15 =>
    Q [] h15))
def A_edge_Edges_Drop : Ann := .nil
theorem E_edge_Edges_Drop (g0_e : Option Addr) (g1_xid : Int) (h : Hp) (Q : List Value → Hp → Prop) : cw PP 17 (fun _ => []) (bodyOf Try.f13) A_edge_Edges_Drop (finQ PP (Try.f13.results.toList) Q) (argFr [(Value.pointer g0_e), (Value.int .i64 g1_xid)]) h = F_edge_Edges_Drop g0_e g1_xid h Q := by kernel_rfl
theorem O_edge_Edges_Drop (g0_e : Option Addr) (g1_xid : Int) {h : Hp} {Q : List Value → Hp → Prop} (H : F_edge_Edges_Drop g0_e g1_xid h Q) : S_edge_Edges_Drop g0_e g1_xid h Q :=
  fn_of_cw (hs := (fun _ => [])) (ann := A_edge_Edges_Drop) (args := [(Value.pointer g0_e), (Value.int .i64 g1_xid)]) mixedPP Try.func13 (c := bodyOf Try.f13) (by kernel_rfl) (by kernel_rfl) (by kernel_rfl) (Eq.mpr (E_edge_Edges_Drop g0_e g1_xid h Q) H)
def F_slices_Collect_2_int (g0_seq_f : Nat) (g0_seq_c : Array Value) (h : Hp) (Q : List Value → Hp → Prop) : Prop :=
S_slices_AppendSeq_s_2_int_2_int ⟨none, 0, 0⟩ g0_seq_f g0_seq_c h fun (vs1 : List Value) (h2 : Hp) =>
∃ l3 : Sl, vs1 = [(Value.slice l3.a l3.n l3.c)] ∧
Q [(Value.slice l3.a l3.n l3.c)] h2
def A_slices_Collect_2_int : Ann := .nil
theorem E_slices_Collect_2_int (g0_seq_f : Nat) (g0_seq_c : Array Value) (h : Hp) (Q : List Value → Hp → Prop) : cw PP 5 (fun _ => []) (bodyOf Try.f59) A_slices_Collect_2_int (finQ PP (Try.f59.results.toList) Q) (argFr [(Value.func (.func g0_seq_f) #[] g0_seq_c)]) h = F_slices_Collect_2_int g0_seq_f g0_seq_c h Q := by kernel_rfl
theorem O_slices_Collect_2_int (g0_seq_f : Nat) (g0_seq_c : Array Value) {h : Hp} {Q : List Value → Hp → Prop} (H : F_slices_Collect_2_int g0_seq_f g0_seq_c h Q) : S_slices_Collect_2_int g0_seq_f g0_seq_c h Q :=
  fn_of_cw (hs := (fun _ => [])) (ann := A_slices_Collect_2_int) (args := [(Value.func (.func g0_seq_f) #[] g0_seq_c)]) mixedPP Try.func59 (c := bodyOf Try.f59) (by kernel_rfl) (by kernel_rfl) (by kernel_rfl) (Eq.mpr (E_slices_Collect_2_int g0_seq_f g0_seq_c h Q) H)
def F_slices_SortedFunc_2_int (g0_seq_f : Nat) (g0_seq_c : Array Value) (g1_cmp_f : Nat) (g1_cmp_c : Array Value) (h : Hp) (Q : List Value → Hp → Prop) : Prop :=
S_slices_Collect_2_int g0_seq_f g0_seq_c h fun (vs1 : List Value) (h2 : Hp) =>
∃ l3 : Sl, vs1 = [(Value.slice l3.a l3.n l3.c)] ∧
S_slices_SortFunc_s_2_int_2_int ⟨l3.a, l3.n, l3.c⟩ g1_cmp_f g1_cmp_c h2 fun (vs4 : List Value) (h5 : Hp) =>
vs4 = [] ∧
Q [(Value.slice l3.a l3.n l3.c)] h5
def A_slices_SortedFunc_2_int : Ann := .nil
theorem E_slices_SortedFunc_2_int (g0_seq_f : Nat) (g0_seq_c : Array Value) (g1_cmp_f : Nat) (g1_cmp_c : Array Value) (h : Hp) (Q : List Value → Hp → Prop) : cw PP 12 (fun _ => []) (bodyOf Try.f39) A_slices_SortedFunc_2_int (finQ PP (Try.f39.results.toList) Q) (argFr [(Value.func (.func g0_seq_f) #[] g0_seq_c), (Value.func (.func g1_cmp_f) #[] g1_cmp_c)]) h = F_slices_SortedFunc_2_int g0_seq_f g0_seq_c g1_cmp_f g1_cmp_c h Q := by kernel_rfl
theorem O_slices_SortedFunc_2_int (g0_seq_f : Nat) (g0_seq_c : Array Value) (g1_cmp_f : Nat) (g1_cmp_c : Array Value) {h : Hp} {Q : List Value → Hp → Prop} (H : F_slices_SortedFunc_2_int g0_seq_f g0_seq_c g1_cmp_f g1_cmp_c h Q) : S_slices_SortedFunc_2_int g0_seq_f g0_seq_c g1_cmp_f g1_cmp_c h Q :=
  fn_of_cw (hs := (fun _ => [])) (ann := A_slices_SortedFunc_2_int) (args := [(Value.func (.func g0_seq_f) #[] g0_seq_c), (Value.func (.func g1_cmp_f) #[] g1_cmp_c)]) mixedPP Try.func39 (c := bodyOf Try.f39) (by kernel_rfl) (by kernel_rfl) (by kernel_rfl) (Eq.mpr (E_slices_SortedFunc_2_int g0_seq_f g0_seq_c g1_cmp_f g1_cmp_c h Q) H)
def F_maps_Keys_map_2_int_int_2_int_int (g0_m : Option Nat) (h : Hp) (Q : List Value → Hp → Prop) : Prop :=
wth (Array.push h (Obj.cells #[(Value.map g0_m)] T_map_2_int_int)) fun h1 =>
Q [(Value.func (.func 61) #[] #[(Value.pointer (some (Addr.mk (Array.size h) 0 none)))])] h1
def A_maps_Keys_map_2_int_int_2_int_int : Ann := .nil
theorem E_maps_Keys_map_2_int_int_2_int_int (g0_m : Option Nat) (h : Hp) (Q : List Value → Hp → Prop) : cw PP 4 (fun _ => []) (bodyOf Try.f40) A_maps_Keys_map_2_int_int_2_int_int (finQ PP (Try.f40.results.toList) Q) (argFr [(Value.map g0_m)]) h = F_maps_Keys_map_2_int_int_2_int_int g0_m h Q := by kernel_rfl
theorem O_maps_Keys_map_2_int_int_2_int_int (g0_m : Option Nat) {h : Hp} {Q : List Value → Hp → Prop} (H : F_maps_Keys_map_2_int_int_2_int_int g0_m h Q) : S_maps_Keys_map_2_int_int_2_int_int g0_m h Q :=
  fn_of_cw (hs := (fun _ => [])) (ann := A_maps_Keys_map_2_int_int_2_int_int) (args := [(Value.map g0_m)]) mixedPP Try.func40 (c := bodyOf Try.f40) (by kernel_rfl) (by kernel_rfl) (by kernel_rfl) (Eq.mpr (E_maps_Keys_map_2_int_int_2_int_int g0_m h Q) H)
def F_edge_Edges_All (g0_e : Option Addr) (h : Hp) (Q : List Value → Hp → Prop) : Prop :=
S_edge_Edges_none g0_e h fun (vs1 : List Value) (h2 : Hp) =>
∃ b3 : Bool, vs1 = [(Value.bool b3)] ∧
(if b3 = true then
  (Q [(Value.slice none 0 0)] h2) else
  (nilW g0_e fun a4 => ∃ r5 : Option Nat, rd h2 (Addr.add a4 1) = some (Value.map r5) ∧
    S_maps_Keys_map_2_int_int_2_int_int r5 h2 fun (vs6 : List Value) (h7 : Hp) =>
    ∃ f8 : Nat, ∃ cs9 : Array Value, vs6 = [(Value.func (.func f8) #[] cs9)] ∧
    S_slices_SortedFunc_2_int f8 cs9 41 #[] h7 fun (vs10 : List Value) (h11 : Hp) =>
    ∃ l12 : Sl, vs10 = [(Value.slice l12.a l12.n l12.c)] ∧
    Q [(Value.slice l12.a l12.n l12.c)] h11))
def A_edge_Edges_All : Ann := .nil
theorem E_edge_Edges_All (g0_e : Option Addr) (h : Hp) (Q : List Value → Hp → Prop) : cw PP 11 (fun _ => []) (bodyOf Try.f17) A_edge_Edges_All (finQ PP (Try.f17.results.toList) Q) (argFr [(Value.pointer g0_e)]) h = F_edge_Edges_All g0_e h Q := by kernel_rfl
theorem O_edge_Edges_All (g0_e : Option Addr) {h : Hp} {Q : List Value → Hp → Prop} (H : F_edge_Edges_All g0_e h Q) : S_edge_Edges_All g0_e h Q :=
  fn_of_cw (hs := (fun _ => [])) (ann := A_edge_Edges_All) (args := [(Value.pointer g0_e)]) mixedPP Try.func17 (c := bodyOf Try.f17) (by kernel_rfl) (by kernel_rfl) (by kernel_rfl) (Eq.mpr (E_edge_Edges_All g0_e h Q) H)
def F_liverylaw14_EdgeCircles (g0_steps : Sl) (h : Hp) (Q : List Value → Hp → Prop) : Prop :=
S_clog_New  h fun (vs1 : List Value) (h2 : Hp) =>
∃ p3 : Option Addr, vs1 = [(Value.pointer p3)] ∧
S_edge_New p3 h2 fun (vs4 : List Value) (h5 : Hp) =>
∃ p6 : Option Addr, vs4 = [(Value.pointer p6)] ∧
∀ J7 : List Value → Hp → Prop, (∀ b8 : Bool, ∀ h9 : Hp, ((if b8 = true then
      (∀ J10 : List Value → Hp → Prop, (∀ b11 : Bool, ∀ h12 : Hp, (Q [(Value.bool b11)] h12) → J10 [(Value.bool b11)] h12) →
        (if (!(Option.isNone p3)) = true then ((if (!(Option.isNone p6)) = true then (S_liverylaw14_wakes  h9 fun (vs13 : List Value) (h14 : Hp) =>
                ∃ b15 : Bool, vs13 = [(Value.bool b15)] ∧
                J10 [(Value.bool b15)] h14) else
              (J10 [(Value.bool false)] h9))) else
          (J10 [(Value.bool false)] h9))) else
      (∀ X16 : List Value → Hp → Prop, (∀ n17 : Int, ∀ n18 : Int, ∀ h19 : Hp, ((if (decide (n18 < (g0_steps.n : Int))) = true then
              (∀ J20 : List Value → Hp → Prop, (∀ n21 : Int, ∀ h22 : Hp, (X16 [(Value.int .i64 n21), (Value.int .i64 (IntKind.wrap .i64 (n18 + (1 : Int))))] h22) → J20 [(Value.int .i64 n21)] h22) →
                nilW g0_steps.a fun a23 => ixOk n18 g0_steps.n (∃ n24 : Int, rd h19 (Addr.add (Addr.add a23 (Int.toNat n18 * 4)) 0) = some (Value.int .i64 n24) ∧ ∃ n25 : Int, rd h19 (Addr.add (Addr.add a23 (Int.toNat n18 * 4)) 1) = some (Value.int .i64 n25) ∧ ∃ n26 : Int, rd h19 (Addr.add (Addr.add a23 (Int.toNat n18 * 4)) 2) = some (Value.int .i64 n26) ∧ ∃ b27 : Bool, rd h19 (Addr.add (Addr.add a23 (Int.toNat n18 * 4)) 3) = some (Value.bool b27) ∧ wth (Array.push h19 (Obj.cells #[(Value.int .i64 (0 : Int)), (Value.int .i64 (0 : Int)), (Value.int .i64 (0 : Int)), (Value.bool false)] T_liverylaw14_Step)) fun h28 =>
                  stOk h28 (Addr.mk (Array.size h19) 0 none) 4 ∧ wth (wrs h28 (Addr.mk (Array.size h19) 0 none) 0 [(Value.int .i64 n24), (Value.int .i64 n25), (Value.int .i64 n26), (Value.bool b27)]) fun h29 =>
                  ∃ n30 : Int, rd h29 (Addr.add (Addr.mk (Array.size h19) 0 none) 0) = some (Value.int .i64 n30) ∧
                  (if (n30 == (0 : Int)) = true then
                    (S_clog_Log_Begin p3 false h29 fun (vs31 : List Value) (h32 : Hp) =>
                      ∃ n33 : Int, ∃ n34 : Int, vs31 = [(Value.int .i64 n33), (Value.int .i64 n34)] ∧
                      (if (n34 == (0 : Int)) = true then
                        (J20 [(Value.int .i64 (IntKind.wrap .i64 (n17 + (1 : Int))))] h32) else
                        (J20 [(Value.int .i64 n17)] h32))) else
                    ((if (n30 == (1 : Int)) = true then
                        (∃ n35 : Int, rd h29 (Addr.add (Addr.mk (Array.size h19) 0 none) 1) = some (Value.int .i64 n35) ∧
                          S_clog_Log_Commit p3 n35 h29 fun (vs36 : List Value) (h37 : Hp) =>
                          ∃ n38 : Int, ∃ n39 : Int, vs36 = [(Value.int .i64 n38), (Value.int .i64 n39)] ∧
                          J20 [(Value.int .i64 n17)] h37) else
                        ((if (n30 == (2 : Int)) = true then
                            (∃ n40 : Int, rd h29 (Addr.add (Addr.mk (Array.size h19) 0 none) 1) = some (Value.int .i64 n40) ∧
                              S_clog_Log_Abort p3 n40 h29 fun (vs41 : List Value) (h42 : Hp) =>
                              ∃ n43 : Int, vs41 = [(Value.int .i64 n43)] ∧
                              ∃ n44 : Int, rd h42 (Addr.add (Addr.mk (Array.size h19) 0 none) 1) = some (Value.int .i64 n44) ∧
                              S_edge_Edges_Drop p6 n44 h42 fun (vs45 : List Value) (h46 : Hp) =>
                              vs45 = [] ∧
                              J20 [(Value.int .i64 n17)] h46) else
                            ((if (n30 == (3 : Int)) = true then
                                (∃ n47 : Int, rd h29 (Addr.add (Addr.mk (Array.size h19) 0 none) 1) = some (Value.int .i64 n47) ∧
                                  ∃ n48 : Int, rd h29 (Addr.add (Addr.mk (Array.size h19) 0 none) 2) = some (Value.int .i64 n48) ∧
                                  S_edge_Edges_Add p6 n47 n48 h29 fun (vs49 : List Value) (h50 : Hp) =>
                                  ∃ b51 : Bool, vs49 = [(Value.bool b51)] ∧
                                  J20 [(Value.int .i64 n17)] h50) else
                                (J20 [(Value.int .i64 n17)] h29)))))))))) else
              ((if (decide (n17 > (20 : Int))) = true then
                  (S_liverylaw14_wakes  h19 fun (vs52 : List Value) (h53 : Hp) =>
                    ∃ b54 : Bool, vs52 = [(Value.bool b54)] ∧
                    Q [(Value.bool b54)] h53) else
                  (∀ X55 : List Value → Hp → Prop, (∀ n56 : Int, ∀ h57 : Hp, ((if (decide (n56 ≤ n17)) = true then
                          (S_clog_Log_Commit p3 n56 h57 fun (vs58 : List Value) (h59 : Hp) =>
                            ∃ n60 : Int, ∃ n61 : Int, vs58 = [(Value.int .i64 n60), (Value.int .i64 n61)] ∧
                            ∀ J62 : List Value → Hp → Prop, (∀ b63 : Bool, ∀ h64 : Hp, ((if b63 = true then
                                  (Q [(Value.bool false)] h64) else
                                  (X55 [(Value.int .i64 (IntKind.wrap .i64 (n56 + (1 : Int))))] h64))) → J62 [(Value.bool b63)] h64) →
                            (if (n61 != (0 : Int)) = true then (S_clog_Log_State p3 n56 h59 fun (vs65 : List Value) (h66 : Hp) =>
                                ∃ n67 : Int, vs65 = [(Value.int .i64 n67)] ∧
                                J62 [(Value.bool (n67 == (1 : Int)))] h66) else
                              (J62 [(Value.bool false)] h59))) else
                          (wth (Array.push h57 (Obj.cells (zc PP T_21_21_bool) T_21_21_bool)) fun h68 =>
                            ∀ X69 : List Value → Hp → Prop, (∀ n70 : Int, ∀ h71 : Hp, ((if (decide (n70 ≤ n17)) = true then
                                  (∀ X72 : List Value → Hp → Prop, (∀ n73 : Int, ∀ h74 : Hp, ((if (decide (n73 ≤ n17)) = true then
                                          (∀ J75 : List Value → Hp → Prop, (∀ h76 : Hp, (X72 [(Value.int .i64 (IntKind.wrap .i64 (n73 + (1 : Int))))] h76) → J75 [] h76) →
                                            (if (n70 != n73) = true then (ixOk n70 21 (S_clog_Log_State p3 n70 h74 fun (vs77 : List Value) (h78 : Hp) =>
                                                  ∃ n79 : Int, vs77 = [(Value.int .i64 n79)] ∧
                                                  (if (n79 == (2 : Int)) = true then (S_clog_Log_State p3 n73 h78 fun (vs80 : List Value) (h81 : Hp) =>
                                                      ∃ n82 : Int, vs80 = [(Value.int .i64 n82)] ∧
                                                      (if (n82 == (2 : Int)) = true then (S_clog_Log_Sees p3 n73 n70 h81 fun (vs83 : List Value) (h84 : Hp) =>
                                                          ∃ b85 : Bool, vs83 = [(Value.bool b85)] ∧
                                                          ixOk n73 21 (stOk h84 (Addr.add (Addr.add (Addr.mk (Array.size h57) 0 none) (Int.toNat n70 * 21)) (Int.toNat n73 * 1)) 1 ∧ wth (wrs h84 (Addr.add (Addr.add (Addr.mk (Array.size h57) 0 none) (Int.toNat n70 * 21)) (Int.toNat n73 * 1)) 0 [(Value.bool b85)]) fun h86 =>
                                                            J75 [] h86)) else
                                                        (ixOk n73 21 (stOk h81 (Addr.add (Addr.add (Addr.mk (Array.size h57) 0 none) (Int.toNat n70 * 21)) (Int.toNat n73 * 1)) 1 ∧ wth (wrs h81 (Addr.add (Addr.add (Addr.mk (Array.size h57) 0 none) (Int.toNat n70 * 21)) (Int.toNat n73 * 1)) 0 [(Value.bool false)]) fun h87 =>
                                                            J75 [] h87)))) else
                                                    (ixOk n73 21 (stOk h78 (Addr.add (Addr.add (Addr.mk (Array.size h57) 0 none) (Int.toNat n70 * 21)) (Int.toNat n73 * 1)) 1 ∧ wth (wrs h78 (Addr.add (Addr.add (Addr.mk (Array.size h57) 0 none) (Int.toNat n70 * 21)) (Int.toNat n73 * 1)) 0 [(Value.bool false)]) fun h88 =>
                                                        J75 [] h88))))) else
                                              (ixOk n70 21 (ixOk n73 21 (stOk h74 (Addr.add (Addr.add (Addr.mk (Array.size h57) 0 none) (Int.toNat n70 * 21)) (Int.toNat n73 * 1)) 1 ∧ wth (wrs h74 (Addr.add (Addr.add (Addr.mk (Array.size h57) 0 none) (Int.toNat n70 * 21)) (Int.toNat n73 * 1)) 0 [(Value.bool false)]) fun h89 =>
                                                    J75 [] h89))))) else
                                          (X69 [(Value.int .i64 (IntKind.wrap .i64 (n70 + (1 : Int))))] h74))) → X72 [(Value.int .i64 n73)] h74) →
                                    X72 [(Value.int .i64 (1 : Int))] h71) else
                                  (S_edge_Edges_All p6 h71 fun (vs90 : List Value) (h91 : Hp) =>
                                    ∃ l92 : Sl, vs90 = [(Value.slice l92.a l92.n l92.c)] ∧
                                    ∀ X93 : List Value → Hp → Prop, (∀ n94 : Int, ∀ h95 : Hp, ((if (decide (n94 < (l92.n : Int))) = true then
                                          (nilW l92.a fun a96 => ixOk n94 l92.n (ixOk (0 : Int) 2 (∃ n97 : Int, rd h95 (Addr.add (Addr.add a96 (Int.toNat n94 * 2)) (Int.toNat (0 : Int) * 1)) = some (Value.int .i64 n97) ∧
                                                nilW l92.a fun a98 => ixOk n94 l92.n (ixOk (1 : Int) 2 (∃ n99 : Int, rd h95 (Addr.add (Addr.add a98 (Int.toNat n94 * 2)) (Int.toNat (1 : Int) * 1)) = some (Value.int .i64 n99) ∧
                                                    ∀ J100 : List Value → Hp → Prop, (∀ b101 : Bool, ∀ h102 : Hp, ((if b101 = true then
                                                          (Q [(Value.bool false)] h102) else
                                                          (ixOk n97 21 (ixOk n99 21 (stOk h102 (Addr.add (Addr.add (Addr.mk (Array.size h57) 0 none) (Int.toNat n97 * 21)) (Int.toNat n99 * 1)) 1 ∧ wth (wrs h102 (Addr.add (Addr.add (Addr.mk (Array.size h57) 0 none) (Int.toNat n97 * 21)) (Int.toNat n99 * 1)) 0 [(Value.bool true)]) fun h103 =>
                                                            X93 [(Value.int .i64 (IntKind.wrap .i64 (n94 + (1 : Int))))] h103))))) → J100 [(Value.bool b101)] h102) →
                                                    (if (decide (n97 < (1 : Int))) = true then (J100 [(Value.bool true)] h95) else
                                                      ((if (decide (n97 > n17)) = true then (J100 [(Value.bool true)] h95) else
                                                          ((if (decide (n99 < (1 : Int))) = true then (J100 [(Value.bool true)] h95) else
                                                            (J100 [(Value.bool (decide (n99 > n17)))] h95))))))))))) else
                                          (∀ X104 : List Value → Hp → Prop, (∀ n105 : Int, ∀ h106 : Hp, ((if (decide (n105 ≤ n17)) = true then
                                                  (∀ X107 : List Value → Hp → Prop, (∀ n108 : Int, ∀ h109 : Hp, ((if (decide (n108 ≤ n17)) = true then
                                                          (∀ X110 : List Value → Hp → Prop, (∀ n111 : Int, ∀ h112 : Hp, ((if (decide (n111 ≤ n17)) = true then
                                                            (∀ J113 : List Value → Hp → Prop, (∀ h114 : Hp, (X110 [(Value.int .i64 (IntKind.wrap .i64 (n111 + (1 : Int))))] h114) → J113 [] h114) →
                                                            ixOk n108 21 (ixOk n111 21 (∃ b115 : Bool, rd h112 (Addr.add (Addr.add (Addr.mk (Array.size h57) 0 none) (Int.toNat n108 * 21)) (Int.toNat n111 * 1)) = some (Value.bool b115) ∧
                                                            (if b115 = true then (ixOk n108 21 (ixOk n111 21 (stOk h112 (Addr.add (Addr.add (Addr.mk (Array.size h57) 0 none) (Int.toNat n108 * 21)) (Int.toNat n111 * 1)) 1 ∧ wth (wrs h112 (Addr.add (Addr.add (Addr.mk (Array.size h57) 0 none) (Int.toNat n108 * 21)) (Int.toNat n111 * 1)) 0 [(Value.bool true)]) fun h116 =>
                                                            J113 [] h116))) else
                                                            (ixOk n108 21 (ixOk n105 21 (∃ b117 : Bool, rd h112 (Addr.add (Addr.add (Addr.mk (Array.size h57) 0 none) (Int.toNat n108 * 21)) (Int.toNat n105 * 1)) = some (Value.bool b117) ∧
                                                            (if b117 = true then (ixOk n105 21 (ixOk n111 21 (∃ b118 : Bool, rd h112 (Addr.add (Addr.add (Addr.mk (Array.size h57) 0 none) (Int.toNat n105 * 21)) (Int.toNat n111 * 1)) = some (Value.bool b118) ∧
                                                            ixOk n108 21 (ixOk n111 21 (stOk h112 (Addr.add (Addr.add (Addr.mk (Array.size h57) 0 none) (Int.toNat n108 * 21)) (Int.toNat n111 * 1)) 1 ∧ wth (wrs h112 (Addr.add (Addr.add (Addr.mk (Array.size h57) 0 none) (Int.toNat n108 * 21)) (Int.toNat n111 * 1)) 0 [(Value.bool b118)]) fun h119 =>
                                                            J113 [] h119))))) else
                                                            (ixOk n108 21 (ixOk n111 21 (stOk h112 (Addr.add (Addr.add (Addr.mk (Array.size h57) 0 none) (Int.toNat n108 * 21)) (Int.toNat n111 * 1)) 1 ∧ wth (wrs h112 (Addr.add (Addr.add (Addr.mk (Array.size h57) 0 none) (Int.toNat n108 * 21)) (Int.toNat n111 * 1)) 0 [(Value.bool false)]) fun h120 =>
                                                            J113 [] h120))))))))))) else
                                                            (X107 [(Value.int .i64 (IntKind.wrap .i64 (n108 + (1 : Int))))] h112))) → X110 [(Value.int .i64 n111)] h112) →
                                                            X110 [(Value.int .i64 (1 : Int))] h109) else
                                                          (X104 [(Value.int .i64 (IntKind.wrap .i64 (n105 + (1 : Int))))] h109))) → X107 [(Value.int .i64 n108)] h109) →
                                                    X107 [(Value.int .i64 (1 : Int))] h106) else
                                                  (∀ X121 : List Value → Hp → Prop, (∀ b122 : Bool, ∀ b123 : Bool, ∀ n124 : Int, ∀ h125 : Hp, ((if (decide (n124 ≤ n17)) = true then
                                                          (∀ J126 : List Value → Hp → Prop, (∀ b127 : Bool, ∀ b128 : Bool, ∀ h129 : Hp, (X121 [(Value.bool b127), (Value.bool b128), (Value.int .i64 (IntKind.wrap .i64 (n124 + (1 : Int))))] h129) → J126 [(Value.bool b127), (Value.bool b128)] h129) →
                                                            ∀ J130 : List Value → Hp → Prop, (∀ b131 : Bool, ∀ h132 : Hp, (S_edge_Edges_Spoilt p6 n124 h132 fun (vs133 : List Value) (h134 : Hp) =>
                                                            ∃ l135 : Sl, ∃ b136 : Bool, vs133 = [(Value.slice l135.a l135.n l135.c), (Value.bool b136)] ∧
                                                            (if b136 = true then
                                                            (J126 [(Value.bool b131), (Value.bool true)] h134) else
                                                            (J126 [(Value.bool b131), (Value.bool b123)] h134))) → J130 [(Value.bool b131)] h132) →
                                                            (if b122 = true then (J130 [(Value.bool true)] h125) else
                                                            (ixOk n124 21 (ixOk n124 21 (∃ b137 : Bool, rd h125 (Addr.add (Addr.add (Addr.mk (Array.size h57) 0 none) (Int.toNat n124 * 21)) (Int.toNat n124 * 1)) = some (Value.bool b137) ∧
                                                            J130 [(Value.bool b137)] h125))))) else
                                                          ((if (!b122) = true then (S_liverylaw14_wakes  h125 fun (vs138 : List Value) (h139 : Hp) =>
                                                            ∃ b140 : Bool, vs138 = [(Value.bool b140)] ∧
                                                            Q [(Value.bool b140)] h139) else
                                                            ((if b123 = true then (S_liverylaw14_wakes  h125 fun (vs141 : List Value) (h142 : Hp) =>
                                                            ∃ b143 : Bool, vs141 = [(Value.bool b143)] ∧
                                                            Q [(Value.bool b143)] h142) else
                                                            (Q [(Value.bool false)] h125))))))) → X121 [(Value.bool b122), (Value.bool b123), (Value.int .i64 n124)] h125) →
                                                    X121 [(Value.bool false), (Value.bool false), (Value.int .i64 (1 : Int))] h106))) → X104 [(Value.int .i64 n105)] h106) →
                                            X104 [(Value.int .i64 (1 : Int))] h95))) → X93 [(Value.int .i64 n94)] h95) →
                                    X93 [(Value.int .i64 (0 : Int))] h91))) → X69 [(Value.int .i64 n70)] h71) →
                            X69 [(Value.int .i64 (1 : Int))] h68))) → X55 [(Value.int .i64 n56)] h57) →
                    X55 [(Value.int .i64 (1 : Int))] h19))))) → X16 [(Value.int .i64 n17), (Value.int .i64 n18)] h19) →
        X16 [(Value.int .i64 (0 : Int)), (Value.int .i64 (0 : Int))] h9))) → J7 [(Value.bool b8)] h9) →
(if (Option.isNone p3) = true then (J7 [(Value.bool true)] h5) else
  ((if (Option.isNone p6) = true then (J7 [(Value.bool true)] h5) else
      (J7 [(Value.bool (decide ((g0_steps.n : Int) > (60 : Int))))] h5))))
def A_liverylaw14_EdgeCircles : Ann := (.mk none ⟨[], []⟩ .nil (.mk none ⟨[], []⟩ .nil (.mk none ⟨[], []⟩ .nil (.mk none ⟨[], []⟩ (.mk none ⟨[], []⟩ (.mk (some ⟨[0, 3, 4], [(41, (.c .bool))]⟩) ⟨[], []⟩ .nil .nil) (.mk none ⟨[], []⟩ (.mk none ⟨[], []⟩ (.mk (some ⟨[], [(2, (.c .bool))]⟩) ⟨[], []⟩ .nil .nil) .nil) .nil)) (.mk none ⟨[], []⟩ .nil (.mk none ⟨[], []⟩ (.mk none ⟨[], []⟩ .nil (.mk none ⟨[], []⟩ (.mk none ⟨[0, 3, 4], [(5, (.c (.int .i64))), (6, (.c (.int .i64)))]⟩ (.mk none ⟨[], []⟩ .nil (.mk none ⟨[], []⟩ (.mk (some ⟨[0, 3, 4, 6], [(5, (.c (.int .i64)))]⟩) ⟨[], []⟩ .nil .nil) .nil)) .nil) .nil)) (.mk none ⟨[], []⟩ .nil (.mk none ⟨[], []⟩ (.mk none ⟨[], []⟩ .nil (.mk none ⟨[], []⟩ (.mk none ⟨[3, 4, 5], [(10, (.c (.int .i64)))]⟩ (.mk none ⟨[], []⟩ .nil (.mk none ⟨[], []⟩ (.mk none ⟨[], []⟩ (.mk none ⟨[], []⟩ .nil (.mk none ⟨[], []⟩ (.mk (some ⟨[3, 4, 5, 10], [(119, (.c .bool))]⟩) ⟨[], []⟩ .nil .nil) .nil)) .nil) .nil)) .nil) .nil)) (.mk none ⟨[], []⟩ .nil (.mk none ⟨[], []⟩ (.mk none ⟨[], []⟩ .nil (.mk none ⟨[], []⟩ (.mk none ⟨[3, 4, 5, 13], [(14, (.c (.int .i64)))]⟩ (.mk none ⟨[], []⟩ .nil (.mk none ⟨[], []⟩ (.mk none ⟨[], []⟩ (.mk none ⟨[], []⟩ .nil (.mk none ⟨[], []⟩ (.mk none ⟨[3, 4, 5, 13, 14], [(15, (.c (.int .i64)))]⟩ (.mk none ⟨[], []⟩ .nil (.mk none ⟨[], []⟩ (.mk (some ⟨[3, 4, 5, 13, 14, 15], []⟩) ⟨[], []⟩ .nil .nil) .nil)) .nil) .nil)) .nil) .nil)) .nil) .nil)) (.mk none ⟨[], []⟩ .nil (.mk none ⟨[], []⟩ (.mk none ⟨[], []⟩ .nil (.mk none ⟨[], []⟩ (.mk none ⟨[4, 5, 13, 16], [(17, (.c (.int .i64)))]⟩ (.mk none ⟨[], []⟩ .nil (.mk none ⟨[], []⟩ (.mk none ⟨[], []⟩ (.mk none ⟨[], []⟩ .nil (.mk none ⟨[], []⟩ (.mk none ⟨[], []⟩ (.mk (some ⟨[4, 5, 13, 16, 17, 18, 19], [(188, (.c .bool))]⟩) ⟨[], []⟩ .nil .nil) .nil) .nil)) .nil) .nil)) .nil) .nil)) (.mk none ⟨[], []⟩ (.mk none ⟨[], []⟩ .nil (.mk none ⟨[], []⟩ (.mk none ⟨[4, 5, 13], [(20, (.c (.int .i64)))]⟩ (.mk none ⟨[], []⟩ .nil (.mk none ⟨[], []⟩ (.mk none ⟨[], []⟩ (.mk none ⟨[], []⟩ .nil (.mk none ⟨[], []⟩ (.mk none ⟨[4, 5, 13, 20], [(21, (.c (.int .i64)))]⟩ (.mk none ⟨[], []⟩ .nil (.mk none ⟨[], []⟩ (.mk none ⟨[], []⟩ (.mk none ⟨[], []⟩ .nil (.mk none ⟨[], []⟩ (.mk none ⟨[4, 5, 13, 20, 21], [(22, (.c (.int .i64)))]⟩ (.mk none ⟨[], []⟩ .nil (.mk none ⟨[], []⟩ (.mk (some ⟨[4, 5, 13, 20, 21, 22], []⟩) ⟨[], []⟩ .nil .nil) .nil)) .nil) .nil)) .nil) .nil)) .nil) .nil)) .nil) .nil)) .nil) .nil)) (.mk none ⟨[], []⟩ .nil (.mk none ⟨[], []⟩ (.mk none ⟨[], []⟩ .nil (.mk none ⟨[], []⟩ (.mk none ⟨[4, 5, 13], [(23, (.c .bool)), (24, (.c .bool)), (25, (.c (.int .i64)))]⟩ (.mk none ⟨[], []⟩ .nil (.mk none ⟨[], []⟩ (.mk (some ⟨[4, 5, 13, 25], [(23, (.c .bool)), (24, (.c .bool))]⟩) ⟨[], []⟩ (.mk none ⟨[], []⟩ (.mk (some ⟨[4, 5, 13, 24, 25], [(23, (.c .bool))]⟩) ⟨[], []⟩ .nil .nil) .nil) .nil) .nil)) .nil) .nil)) .nil)))))))))))))))
theorem E_liverylaw14_EdgeCircles (g0_steps : Sl) (h : Hp) (Q : List Value → Hp → Prop) : cw PP 259 (fun _ => []) (bodyOf Try.f3) A_liverylaw14_EdgeCircles (finQ PP (Try.f3.results.toList) Q) (argFr [(Value.slice g0_steps.a g0_steps.n g0_steps.c)]) h = F_liverylaw14_EdgeCircles g0_steps h Q := by kernel_rfl
theorem O_liverylaw14_EdgeCircles (g0_steps : Sl) {h : Hp} {Q : List Value → Hp → Prop} (H : F_liverylaw14_EdgeCircles g0_steps h Q) : S_liverylaw14_EdgeCircles g0_steps h Q :=
  fn_of_cw (hs := (fun _ => [])) (ann := A_liverylaw14_EdgeCircles) (args := [(Value.slice g0_steps.a g0_steps.n g0_steps.c)]) mixedPP Try.func3 (c := bodyOf Try.f3) (by kernel_rfl) (by kernel_rfl) (by kernel_rfl) (Eq.mpr (E_liverylaw14_EdgeCircles g0_steps h Q) H)
def F_edge_Edges_Old (g0_e : Option Addr) (g1_xid : Int) (h : Hp) (Q : List Value → Hp → Prop) : Prop :=
S_edge_Edges_none g0_e h fun (vs1 : List Value) (h2 : Hp) =>
∃ b3 : Bool, vs1 = [(Value.bool b3)] ∧
(if b3 = true then
  (Q [(Value.int .i64 (0 : Int))] h2) else
  (nilW g0_e fun a4 => ∃ r5 : Option Nat, rd h2 (Addr.add a4 2) = some (Value.map r5) ∧
    ∃ es6 : Array MapEntry, mapAt h2 r5 es6 ∧ KeysLike (Value.int .i64 g1_xid) es6 ∧ ∃ n7 : Int, mgetD (Value.int .i64 g1_xid) es6 (Value.int .i64 (0 : Int)) = (Value.int .i64 n7) ∧
    Q [(Value.int .i64 n7)] h2))
def A_edge_Edges_Old : Ann := .nil
theorem E_edge_Edges_Old (g0_e : Option Addr) (g1_xid : Int) (h : Hp) (Q : List Value → Hp → Prop) : cw PP 13 (fun _ => []) (bodyOf Try.f21) A_edge_Edges_Old (finQ PP (Try.f21.results.toList) Q) (argFr [(Value.pointer g0_e), (Value.int .i64 g1_xid)]) h = F_edge_Edges_Old g0_e g1_xid h Q := by kernel_rfl
theorem O_edge_Edges_Old (g0_e : Option Addr) (g1_xid : Int) {h : Hp} {Q : List Value → Hp → Prop} (H : F_edge_Edges_Old g0_e g1_xid h Q) : S_edge_Edges_Old g0_e g1_xid h Q :=
  fn_of_cw (hs := (fun _ => [])) (ann := A_edge_Edges_Old) (args := [(Value.pointer g0_e), (Value.int .i64 g1_xid)]) mixedPP Try.func21 (c := bodyOf Try.f21) (by kernel_rfl) (by kernel_rfl) (by kernel_rfl) (Eq.mpr (E_edge_Edges_Old g0_e g1_xid h Q) H)
def F_liverylaw14_EdgeBeside (g0_steps : Sl) (h : Hp) (Q : List Value → Hp → Prop) : Prop :=
S_clog_New  h fun (vs1 : List Value) (h2 : Hp) =>
∃ p3 : Option Addr, vs1 = [(Value.pointer p3)] ∧
S_edge_New p3 h2 fun (vs4 : List Value) (h5 : Hp) =>
∃ p6 : Option Addr, vs4 = [(Value.pointer p6)] ∧
∀ J7 : List Value → Hp → Prop, (∀ b8 : Bool, ∀ h9 : Hp, ((if b8 = true then
      (∀ J10 : List Value → Hp → Prop, (∀ b11 : Bool, ∀ h12 : Hp, (Q [(Value.bool b11)] h12) → J10 [(Value.bool b11)] h12) →
        (if (!(Option.isNone p3)) = true then ((if (!(Option.isNone p6)) = true then (S_liverylaw14_wakes  h9 fun (vs13 : List Value) (h14 : Hp) =>
                ∃ b15 : Bool, vs13 = [(Value.bool b15)] ∧
                J10 [(Value.bool b15)] h14) else
              (J10 [(Value.bool false)] h9))) else
          (J10 [(Value.bool false)] h9))) else
      (∀ X16 : List Value → Hp → Prop, (∀ n17 : Int, ∀ h18 : Hp, ((if (decide (n17 < (g0_steps.n : Int))) = true then
              (nilW g0_steps.a fun a19 => ixOk n17 g0_steps.n (∃ n20 : Int, rd h18 (Addr.add (Addr.add a19 (Int.toNat n17 * 4)) 0) = some (Value.int .i64 n20) ∧ ∃ n21 : Int, rd h18 (Addr.add (Addr.add a19 (Int.toNat n17 * 4)) 1) = some (Value.int .i64 n21) ∧ ∃ n22 : Int, rd h18 (Addr.add (Addr.add a19 (Int.toNat n17 * 4)) 2) = some (Value.int .i64 n22) ∧ ∃ b23 : Bool, rd h18 (Addr.add (Addr.add a19 (Int.toNat n17 * 4)) 3) = some (Value.bool b23) ∧ wth (Array.push h18 (Obj.cells #[(Value.int .i64 (0 : Int)), (Value.int .i64 (0 : Int)), (Value.int .i64 (0 : Int)), (Value.bool false)] T_liverylaw14_Step)) fun h24 =>
                  stOk h24 (Addr.mk (Array.size h18) 0 none) 4 ∧ wth (wrs h24 (Addr.mk (Array.size h18) 0 none) 0 [(Value.int .i64 n20), (Value.int .i64 n21), (Value.int .i64 n22), (Value.bool b23)]) fun h25 =>
                  ∃ n26 : Int, rd h25 (Addr.add (Addr.mk (Array.size h18) 0 none) 0) = some (Value.int .i64 n26) ∧
                  ∀ J27 : List Value → Hp → Prop, (∀ h28 : Hp, (S_edge_Edges_All p6 h28 fun (vs29 : List Value) (h30 : Hp) =>
                      ∃ l31 : Sl, vs29 = [(Value.slice l31.a l31.n l31.c)] ∧
                      ∀ X32 : List Value → Hp → Prop, (∀ n33 : Int, ∀ h34 : Hp, ((if (decide (n33 < (l31.n : Int))) = true then
                            (nilW l31.a fun a35 => ixOk n33 l31.n (ixOk (0 : Int) 2 (∃ n36 : Int, rd h34 (Addr.add (Addr.add a35 (Int.toNat n33 * 2)) (Int.toNat (0 : Int) * 1)) = some (Value.int .i64 n36) ∧
                                  nilW l31.a fun a37 => ixOk n33 l31.n (ixOk (1 : Int) 2 (∃ n38 : Int, rd h34 (Addr.add (Addr.add a37 (Int.toNat n33 * 2)) (Int.toNat (1 : Int) * 1)) = some (Value.int .i64 n38) ∧
                                      S_clog_Log_Beside p3 n36 n38 h34 fun (vs39 : List Value) (h40 : Hp) =>
                                      ∃ b41 : Bool, vs39 = [(Value.bool b41)] ∧
                                      (if (!b41) = true then
                                        (Q [(Value.bool false)] h40) else
                                        (X32 [(Value.int .i64 (IntKind.wrap .i64 (n33 + (1 : Int))))] h40))))))) else
                            (X16 [(Value.int .i64 (IntKind.wrap .i64 (n17 + (1 : Int))))] h34))) → X32 [(Value.int .i64 n33)] h34) →
                      X32 [(Value.int .i64 (0 : Int))] h30) → J27 [] h28) →
                  (if (n26 == (0 : Int)) = true then
                    (∃ b42 : Bool, rd h25 (Addr.add (Addr.mk (Array.size h18) 0 none) 3) = some (Value.bool b42) ∧
                      S_clog_Log_Begin p3 b42 h25 fun (vs43 : List Value) (h44 : Hp) =>
                      ∃ n45 : Int, ∃ n46 : Int, vs43 = [(Value.int .i64 n45), (Value.int .i64 n46)] ∧
                      J27 [] h44) else
                    ((if (n26 == (1 : Int)) = true then
                        (∃ n47 : Int, rd h25 (Addr.add (Addr.mk (Array.size h18) 0 none) 1) = some (Value.int .i64 n47) ∧
                          S_clog_Log_Commit p3 n47 h25 fun (vs48 : List Value) (h49 : Hp) =>
                          ∃ n50 : Int, ∃ n51 : Int, vs48 = [(Value.int .i64 n50), (Value.int .i64 n51)] ∧
                          J27 [] h49) else
                        ((if (n26 == (2 : Int)) = true then
                            (∃ n52 : Int, rd h25 (Addr.add (Addr.mk (Array.size h18) 0 none) 1) = some (Value.int .i64 n52) ∧
                              S_clog_Log_Abort p3 n52 h25 fun (vs53 : List Value) (h54 : Hp) =>
                              ∃ n55 : Int, vs53 = [(Value.int .i64 n55)] ∧
                              ∃ n56 : Int, rd h54 (Addr.add (Addr.mk (Array.size h18) 0 none) 1) = some (Value.int .i64 n56) ∧
                              S_edge_Edges_Drop p6 n56 h54 fun (vs57 : List Value) (h58 : Hp) =>
                              vs57 = [] ∧
                              J27 [] h58) else
                            ((if (n26 == (3 : Int)) = true then
                                (∀ J59 : List Value → Hp → Prop, (∀ b60 : Bool, ∀ h61 : Hp, ((if b60 = true then
                                        (Q [(Value.bool false)] h61) else
                                        (J27 [] h61))) → J59 [(Value.bool b60)] h61) →
                                  ∃ n62 : Int, rd h25 (Addr.add (Addr.mk (Array.size h18) 0 none) 1) = some (Value.int .i64 n62) ∧
                                  ∃ n63 : Int, rd h25 (Addr.add (Addr.mk (Array.size h18) 0 none) 2) = some (Value.int .i64 n63) ∧
                                  S_edge_Edges_Add p6 n62 n63 h25 fun (vs64 : List Value) (h65 : Hp) =>
                                  ∃ b66 : Bool, vs64 = [(Value.bool b66)] ∧
                                  (if b66 = true then (∃ n67 : Int, rd h65 (Addr.add (Addr.mk (Array.size h18) 0 none) 1) = some (Value.int .i64 n67) ∧
                                      ∃ n68 : Int, rd h65 (Addr.add (Addr.mk (Array.size h18) 0 none) 2) = some (Value.int .i64 n68) ∧
                                      S_clog_Log_Beside p3 n67 n68 h65 fun (vs69 : List Value) (h70 : Hp) =>
                                      ∃ b71 : Bool, vs69 = [(Value.bool b71)] ∧
                                      J59 [(Value.bool (!b71))] h70) else
                                    (J59 [(Value.bool false)] h65))) else
                                (J27 [] h25)))))))))) else
              (∀ X72 : List Value → Hp → Prop, (∀ n73 : Int, ∀ h74 : Hp, ((if (decide (n73 ≤ (12 : Int))) = true then
                      (∀ J75 : List Value → Hp → Prop, (∀ h76 : Hp, (X72 [(Value.int .i64 (IntKind.wrap .i64 (n73 + (1 : Int))))] h76) → J75 [] h76) →
                        S_edge_Edges_Spoilt p6 n73 h74 fun (vs77 : List Value) (h78 : Hp) =>
                        ∃ l79 : Sl, ∃ b80 : Bool, vs77 = [(Value.slice l79.a l79.n l79.c), (Value.bool b80)] ∧
                        (if b80 = true then
                          (S_edge_Edges_In p6 n73 h78 fun (vs81 : List Value) (h82 : Hp) =>
                            ∃ l83 : Sl, vs81 = [(Value.slice l83.a l83.n l83.c)] ∧
                            S_edge_Edges_Old p6 n73 h82 fun (vs84 : List Value) (h85 : Hp) =>
                            ∃ n86 : Int, vs84 = [(Value.int .i64 n86)] ∧
                            ∀ X87 : List Value → Hp → Prop, (∀ b88 : Bool, ∀ n89 : Int, ∀ h90 : Hp, ((if (decide (n89 < (l83.n : Int))) = true then
                                  (∀ J91 : List Value → Hp → Prop, (∀ b92 : Bool, ∀ h93 : Hp, (X87 [(Value.bool b92), (Value.int .i64 (IntKind.wrap .i64 (n89 + (1 : Int))))] h93) → J91 [(Value.bool b92)] h93) →
                                    (if b88 = true then (J91 [(Value.bool true)] h90) else
                                      (nilW l83.a fun a94 => ixOk n89 l83.n (∃ n95 : Int, rd h90 (Addr.add a94 (Int.toNat n89 * 1)) = some (Value.int .i64 n95) ∧
                                          S_clog_Log_Reads p3 n95 h90 fun (vs96 : List Value) (h97 : Hp) =>
                                          ∃ b98 : Bool, vs96 = [(Value.bool b98)] ∧
                                          (if (!b98) = true then (J91 [(Value.bool true)] h97) else
                                            (nilW l83.a fun a99 => ixOk n89 l83.n (∃ n100 : Int, rd h97 (Addr.add a99 (Int.toNat n89 * 1)) = some (Value.int .i64 n100) ∧
                                                S_clog_Log_Snapshot p3 n100 h97 fun (vs101 : List Value) (h102 : Hp) =>
                                                ∃ n103 : Int, vs101 = [(Value.int .i64 n103)] ∧
                                                J91 [(Value.bool (decide (n103 > (0 : Int))))] h102))))))) else
                                  (∀ J104 : List Value → Hp → Prop, (∀ b105 : Bool, ∀ h106 : Hp, ((if b105 = true then
                                          (Q [(Value.bool false)] h106) else
                                          (J75 [] h106))) → J104 [(Value.bool b105)] h106) →
                                    (if (!b88) = true then (J104 [(Value.bool true)] h90) else
                                      (S_edge_Edges_Out p6 n73 h90 fun (vs107 : List Value) (h108 : Hp) =>
                                        ∃ l109 : Sl, vs107 = [(Value.slice l109.a l109.n l109.c)] ∧
                                        J104 [(Value.bool ((l109.n : Int) == (0 : Int)))] h108))))) → X87 [(Value.bool b88), (Value.int .i64 n89)] h90) →
                            X87 [(Value.bool (decide (n86 > (0 : Int)))), (Value.int .i64 (0 : Int))] h85) else
                          (J75 [] h78))) else
                      (S_liverylaw14_wakes  h74 fun (vs110 : List Value) (h111 : Hp) =>
                        ∃ b112 : Bool, vs110 = [(Value.bool b112)] ∧
                        Q [(Value.bool b112)] h111))) → X72 [(Value.int .i64 n73)] h74) →
                X72 [(Value.int .i64 (1 : Int))] h18))) → X16 [(Value.int .i64 n17)] h18) →
        X16 [(Value.int .i64 (0 : Int))] h9))) → J7 [(Value.bool b8)] h9) →
(if (Option.isNone p3) = true then (J7 [(Value.bool true)] h5) else
  ((if (Option.isNone p6) = true then (J7 [(Value.bool true)] h5) else
      (J7 [(Value.bool (decide ((g0_steps.n : Int) > (100 : Int))))] h5))))
def A_liverylaw14_EdgeBeside : Ann := (.mk none ⟨[], []⟩ .nil (.mk none ⟨[], []⟩ .nil (.mk none ⟨[], []⟩ .nil (.mk none ⟨[], []⟩ (.mk none ⟨[], []⟩ (.mk (some ⟨[0, 3, 4], [(28, (.c .bool))]⟩) ⟨[], []⟩ .nil .nil) (.mk none ⟨[], []⟩ (.mk none ⟨[], []⟩ (.mk (some ⟨[], [(2, (.c .bool))]⟩) ⟨[], []⟩ .nil .nil) .nil) .nil)) (.mk none ⟨[], []⟩ (.mk none ⟨[], []⟩ .nil (.mk none ⟨[], []⟩ (.mk none ⟨[0, 3, 4], [(5, (.c (.int .i64)))]⟩ (.mk none ⟨[], []⟩ .nil (.mk none ⟨[], []⟩ (.mk none ⟨[], []⟩ (.mk none ⟨[], []⟩ .nil (.mk none ⟨[], []⟩ (.mk none ⟨[], []⟩ .nil (.mk (some ⟨[0, 3, 4, 5], []⟩) ⟨[], []⟩ (.mk none ⟨[], []⟩ .nil (.mk none ⟨[], []⟩ .nil (.mk none ⟨[], []⟩ .nil (.mk none ⟨[], []⟩ .nil (.mk none ⟨[], []⟩ .nil (.mk none ⟨[], []⟩ .nil (.mk none ⟨[], []⟩ .nil (.mk none ⟨[], []⟩ (.mk none ⟨[], []⟩ (.mk (some ⟨[0, 3, 4, 5], [(88, (.c .bool))]⟩) ⟨[], []⟩ .nil .nil) .nil) .nil)))))))) .nil)) (.mk none ⟨[], []⟩ .nil (.mk none ⟨[], []⟩ .nil (.mk none ⟨[], []⟩ (.mk none ⟨[0, 3, 4, 5, 7], [(8, (.c (.int .i64)))]⟩ .nil .nil) .nil))))) .nil) .nil)) .nil) .nil)) (.mk none ⟨[], []⟩ (.mk none ⟨[], []⟩ .nil (.mk none ⟨[], []⟩ (.mk none ⟨[3, 4], [(9, (.c (.int .i64)))]⟩ (.mk none ⟨[], []⟩ .nil (.mk none ⟨[], []⟩ (.mk (some ⟨[3, 4, 9], []⟩) ⟨[], []⟩ (.mk none ⟨[], []⟩ .nil (.mk none ⟨[], []⟩ .nil (.mk none ⟨[], []⟩ (.mk none ⟨[], []⟩ .nil (.mk none ⟨[], []⟩ .nil (.mk none ⟨[], []⟩ (.mk none ⟨[], []⟩ .nil (.mk none ⟨[], []⟩ (.mk none ⟨[3, 4, 9, 12], [(13, (.c .bool)), (14, (.c (.int .i64)))]⟩ (.mk none ⟨[], []⟩ .nil (.mk none ⟨[], []⟩ (.mk (some ⟨[3, 4, 9, 12, 14], [(13, (.c .bool))]⟩) ⟨[], []⟩ .nil .nil) .nil)) .nil) .nil)) (.mk none ⟨[], []⟩ (.mk (some ⟨[3, 4, 9], [(161, (.c .bool))]⟩) ⟨[], []⟩ .nil .nil) .nil)))) .nil))) .nil) .nil)) .nil) .nil)) .nil))))))
theorem E_liverylaw14_EdgeBeside (g0_steps : Sl) (h : Hp) (Q : List Value → Hp → Prop) : cw PP 163 (fun _ => []) (bodyOf Try.f4) A_liverylaw14_EdgeBeside (finQ PP (Try.f4.results.toList) Q) (argFr [(Value.slice g0_steps.a g0_steps.n g0_steps.c)]) h = F_liverylaw14_EdgeBeside g0_steps h Q := by kernel_rfl
theorem O_liverylaw14_EdgeBeside (g0_steps : Sl) {h : Hp} {Q : List Value → Hp → Prop} (H : F_liverylaw14_EdgeBeside g0_steps h Q) : S_liverylaw14_EdgeBeside g0_steps h Q :=
  fn_of_cw (hs := (fun _ => [])) (ann := A_liverylaw14_EdgeBeside) (args := [(Value.slice g0_steps.a g0_steps.n g0_steps.c)]) mixedPP Try.func4 (c := bodyOf Try.f4) (by kernel_rfl) (by kernel_rfl) (by kernel_rfl) (Eq.mpr (E_liverylaw14_EdgeBeside g0_steps h Q) H)
def F_edge_Edges_OldIn (g0_e : Option Addr) (g1_b : Int) (g2_csn : Int) (h : Hp) (Q : List Value → Hp → Prop) : Prop :=
∀ J1 : List Value → Hp → Prop, (∀ b2 : Bool, ∀ h3 : Hp, ((if b2 = true then
      (Q [(Value.bool false)] h3) else
      (nilW g0_e fun a4 => ∃ r5 : Option Nat, rd h3 (Addr.add a4 2) = some (Value.map r5) ∧
        ∃ (m6 : Nat) (es7 : Array MapEntry) (c8 : Nat), r5 = some m6 ∧ h3[m6]? = some (.map es7 c8) ∧ KeysLike (Value.int .i64 g1_b) es7 ∧ wth (Array.setIfInBounds h3 m6 (mput (Value.int .i64 g1_b) (Value.int .i64 g2_csn) es7 c8)) fun h9 =>
        Q [(Value.bool true)] h9))) → J1 [(Value.bool b2)] h3) →
S_edge_Edges_none g0_e h fun (vs10 : List Value) (h11 : Hp) =>
∃ b12 : Bool, vs10 = [(Value.bool b12)] ∧
(if b12 = true then (J1 [(Value.bool true)] h11) else
  (nilW g0_e fun a13 => ∃ p14 : Option Addr, rd h11 (Addr.add a13 0) = some (Value.pointer p14) ∧
    S_clog_Log_State p14 g1_b h11 fun (vs15 : List Value) (h16 : Hp) =>
    ∃ n17 : Int, vs15 = [(Value.int .i64 n17)] ∧
    (if (n17 == (0 : Int)) = true then (J1 [(Value.bool true)] h16) else
      (nilW g0_e fun a18 => ∃ p19 : Option Addr, rd h16 (Addr.add a18 0) = some (Value.pointer p19) ∧
        S_clog_Log_State p19 g1_b h16 fun (vs20 : List Value) (h21 : Hp) =>
        ∃ n22 : Int, vs20 = [(Value.int .i64 n22)] ∧
        (if (n22 == (3 : Int)) = true then (J1 [(Value.bool true)] h21) else
          (nilW g0_e fun a23 => ∃ p24 : Option Addr, rd h21 (Addr.add a23 0) = some (Value.pointer p24) ∧
            S_clog_Log_Snapshot p24 g1_b h21 fun (vs25 : List Value) (h26 : Hp) =>
            ∃ n27 : Int, vs25 = [(Value.int .i64 n27)] ∧
            (if (decide (g2_csn ≤ n27)) = true then (J1 [(Value.bool true)] h26) else
              (nilW g0_e fun a28 => ∃ r29 : Option Nat, rd h26 (Addr.add a28 2) = some (Value.map r29) ∧
                ∃ es30 : Array MapEntry, mapAt h26 r29 es30 ∧ KeysLike (Value.int .i64 g1_b) es30 ∧ ∃ n31 : Int, mgetD (Value.int .i64 g1_b) es30 (Value.int .i64 (0 : Int)) = (Value.int .i64 n31) ∧
                J1 [(Value.bool (decide (g2_csn ≤ n31)))] h26))))))))
def A_edge_Edges_OldIn : Ann := (.mk none ⟨[], []⟩ .nil (.mk none ⟨[], []⟩ (.mk none ⟨[], []⟩ (.mk (some ⟨[0, 1, 2], [(46, (.c .bool))]⟩) ⟨[], []⟩ .nil .nil) .nil) .nil))
theorem E_edge_Edges_OldIn (g0_e : Option Addr) (g1_b : Int) (g2_csn : Int) (h : Hp) (Q : List Value → Hp → Prop) : cw PP 53 (fun _ => []) (bodyOf Try.f25) A_edge_Edges_OldIn (finQ PP (Try.f25.results.toList) Q) (argFr [(Value.pointer g0_e), (Value.int .i64 g1_b), (Value.int .i64 g2_csn)]) h = F_edge_Edges_OldIn g0_e g1_b g2_csn h Q := by kernel_rfl
theorem O_edge_Edges_OldIn (g0_e : Option Addr) (g1_b : Int) (g2_csn : Int) {h : Hp} {Q : List Value → Hp → Prop} (H : F_edge_Edges_OldIn g0_e g1_b g2_csn h Q) : S_edge_Edges_OldIn g0_e g1_b g2_csn h Q :=
  fn_of_cw (hs := (fun _ => [])) (ann := A_edge_Edges_OldIn) (args := [(Value.pointer g0_e), (Value.int .i64 g1_b), (Value.int .i64 g2_csn)]) mixedPP Try.func25 (c := bodyOf Try.f25) (by kernel_rfl) (by kernel_rfl) (by kernel_rfl) (Eq.mpr (E_edge_Edges_OldIn g0_e g1_b g2_csn h Q) H)
def F_liverylaw14_EdgeNone (g0_a : Int) (g1_b : Int) (h : Hp) (Q : List Value → Hp → Prop) : Prop :=
S_edge_New none h fun (vs1 : List Value) (h2 : Hp) =>
∃ p3 : Option Addr, vs1 = [(Value.pointer p3)] ∧
S_edge_Edges_Drop none g0_a h2 fun (vs4 : List Value) (h5 : Hp) =>
vs4 = [] ∧
S_edge_Edges_Drop p3 g0_a h5 fun (vs6 : List Value) (h7 : Hp) =>
vs6 = [] ∧
S_edge_Edges_Spoilt none g0_a h7 fun (vs8 : List Value) (h9 : Hp) =>
∃ l10 : Sl, ∃ b11 : Bool, vs8 = [(Value.slice l10.a l10.n l10.c), (Value.bool b11)] ∧
S_edge_Edges_Spoilt p3 g0_a h9 fun (vs12 : List Value) (h13 : Hp) =>
∃ l14 : Sl, ∃ b15 : Bool, vs12 = [(Value.slice l14.a l14.n l14.c), (Value.bool b15)] ∧
S_edge_Edges_Add none g0_a g1_b h13 fun (vs16 : List Value) (h17 : Hp) =>
∃ b18 : Bool, vs16 = [(Value.bool b18)] ∧
(if (!b18) = true then (S_edge_Edges_Add p3 (1 : Int) (2 : Int) h17 fun (vs19 : List Value) (h20 : Hp) =>
    ∃ b21 : Bool, vs19 = [(Value.bool b21)] ∧
    (if (!b21) = true then (S_edge_Edges_OldIn none g0_a g1_b h20 fun (vs22 : List Value) (h23 : Hp) =>
        ∃ b24 : Bool, vs22 = [(Value.bool b24)] ∧
        (if (!b24) = true then (S_edge_Edges_OldIn p3 (1 : Int) (5 : Int) h23 fun (vs25 : List Value) (h26 : Hp) =>
            ∃ b27 : Bool, vs25 = [(Value.bool b27)] ∧
            (if (!b27) = true then (S_edge_Edges_In none g0_a h26 fun (vs28 : List Value) (h29 : Hp) =>
                ∃ l30 : Sl, vs28 = [(Value.slice l30.a l30.n l30.c)] ∧
                (if ((l30.n : Int) == (0 : Int)) = true then (S_edge_Edges_Out none g0_a h29 fun (vs31 : List Value) (h32 : Hp) =>
                    ∃ l33 : Sl, vs31 = [(Value.slice l33.a l33.n l33.c)] ∧
                    (if ((l33.n : Int) == (0 : Int)) = true then (S_edge_Edges_Old none g0_a h32 fun (vs34 : List Value) (h35 : Hp) =>
                        ∃ n36 : Int, vs34 = [(Value.int .i64 n36)] ∧
                        (if (n36 == (0 : Int)) = true then ((if (!b11) = true then ((if (!b15) = true then (S_edge_Edges_Ahead none g0_a h35 fun (vs37 : List Value) (h38 : Hp) =>
                                    ∃ l39 : Sl, vs37 = [(Value.slice l39.a l39.n l39.c)] ∧
                                    (if ((l39.n : Int) == (0 : Int)) = true then (S_edge_Edges_All none h38 fun (vs40 : List Value) (h41 : Hp) =>
                                        ∃ l42 : Sl, vs40 = [(Value.slice l42.a l42.n l42.c)] ∧
                                        (if ((l42.n : Int) == (0 : Int)) = true then (S_edge_Edges_All p3 h41 fun (vs43 : List Value) (h44 : Hp) =>
                                            ∃ l45 : Sl, vs43 = [(Value.slice l45.a l45.n l45.c)] ∧
                                            (if ((l45.n : Int) == (0 : Int)) = true then (S_liverylaw14_wakes  h44 fun (vs46 : List Value) (h47 : Hp) =>
                                                ∃ b48 : Bool, vs46 = [(Value.bool b48)] ∧
                                                Q [(Value.bool b48)] h47) else
                                              (Q [(Value.bool false)] h44))) else
                                          (Q [(Value.bool false)] h41))) else
                                      (Q [(Value.bool false)] h38))) else
                                  (Q [(Value.bool false)] h35))) else
                              (Q [(Value.bool false)] h35))) else
                          (Q [(Value.bool false)] h35))) else
                      (Q [(Value.bool false)] h32))) else
                  (Q [(Value.bool false)] h29))) else
              (Q [(Value.bool false)] h26))) else
          (Q [(Value.bool false)] h23))) else
      (Q [(Value.bool false)] h20))) else
  (Q [(Value.bool false)] h17))
def A_liverylaw14_EdgeNone : Ann := .nil
theorem E_liverylaw14_EdgeNone (g0_a : Int) (g1_b : Int) (h : Hp) (Q : List Value → Hp → Prop) : cw PP 102 (fun _ => []) (bodyOf Try.f5) A_liverylaw14_EdgeNone (finQ PP (Try.f5.results.toList) Q) (argFr [(Value.int .i64 g0_a), (Value.int .i64 g1_b)]) h = F_liverylaw14_EdgeNone g0_a g1_b h Q := by kernel_rfl
theorem O_liverylaw14_EdgeNone (g0_a : Int) (g1_b : Int) {h : Hp} {Q : List Value → Hp → Prop} (H : F_liverylaw14_EdgeNone g0_a g1_b h Q) : S_liverylaw14_EdgeNone g0_a g1_b h Q :=
  fn_of_cw (hs := (fun _ => [])) (ann := A_liverylaw14_EdgeNone) (args := [(Value.int .i64 g0_a), (Value.int .i64 g1_b)]) mixedPP Try.func5 (c := bodyOf Try.f5) (by kernel_rfl) (by kernel_rfl) (by kernel_rfl) (Eq.mpr (E_liverylaw14_EdgeNone g0_a g1_b h Q) H)
def F_liveryref08_Log_Begin (g0_l : Option Addr) (g1_reads : Bool) (h : Hp) (Q : List Value → Hp → Prop) : Prop :=
nilW g0_l fun a1 => ∃ l2 : Sl, rd h (Addr.add a1 0) = some (Value.slice l2.a l2.n l2.c) ∧
(if (decide ((l2.n : Int) ≥ (200 : Int))) = true then
  (Q [(Value.int .i64 (0 : Int)), (Value.int .i64 (74 : Int))] h) else
  (∀ J3 : List Value → Hp → Prop, (∀ h4 : Hp, (nilW g0_l fun a5 => ∃ l6 : Sl, rd h4 (Addr.add a5 0) = some (Value.slice l6.a l6.n l6.c) ∧
        Q [(Value.int .i64 (l6.n : Int)), (Value.int .i64 (0 : Int))] h4) → J3 [] h4) →
    nilW g0_l fun a7 => ∃ l8 : Sl, rd h (Addr.add a7 0) = some (Value.slice l8.a l8.n l8.c) ∧
    nilW g0_l fun a9 => ∃ n10 : Int, rd h (Addr.add a9 1) = some (Value.int .i64 n10) ∧
    (wth (Array.push h (Obj.cells #[] T_liveryref08_Tx)) fun h11 =>
      rd h11 (Addr.add a9 1) = some (Value.int .i64 n10) ∧ rd h11 (Addr.add a7 0) = some (Value.slice l8.a l8.n l8.c) ∧ (∃ cs20 : List Value, cellsAt h11 l8.a (l8.n * 4) cs20 ∧ appS PP T_liveryref08_Tx 32 4 h11 ⟨(some (Addr.mk (Array.size h) 0 none)), 0, 0⟩ l8.n cs20 fun (l12 : Sl) (h13 : Hp) =>
        rd h13 (Addr.add a9 1) = some (Value.int .i64 n10) ∧ wth (Array.push h13 (Obj.cells #[(Value.int .i64 (1 : Int)), (Value.int .i64 n10), (Value.int .i64 (0 : Int)), (Value.bool g1_reads)] T_liveryref08_Tx)) fun h14 =>
        ∃ cs19 : List Value, cellsAt h14 (some (Addr.mk (Array.size h13) 0 none)) (1 * 4) cs19 ∧ appS PP T_liveryref08_Tx 32 4 h14 ⟨l12.a, l12.n, l12.c⟩ 1 cs19 fun (l15 : Sl) (h16 : Hp) =>
        nilW g0_l fun a17 => stOk h16 (Addr.add a17 0) 1 ∧ wth (wrs h16 (Addr.add a17 0) 0 [(Value.slice l15.a l15.n l15.c)]) fun h18 =>
        J3 [] h18) ∧
      (wth (Array.push h11 (Obj.cells #[(Value.int .i64 (1 : Int)), (Value.int .i64 n10), (Value.int .i64 (0 : Int)), (Value.bool g1_reads)] T_liveryref08_Tx)) fun h21 =>
        rd h21 (Addr.add a7 0) = some (Value.slice l8.a l8.n l8.c) ∧ ∃ cs29 : List Value, cellsAt h21 l8.a (l8.n * 4) cs29 ∧ appS PP T_liveryref08_Tx 32 4 h21 ⟨(some (Addr.mk (Array.size h) 0 none)), 0, 0⟩ l8.n cs29 fun (l22 : Sl) (h23 : Hp) =>
        ∃ cs28 : List Value, cellsAt h23 (some (Addr.mk (Array.size h11) 0 none)) (1 * 4) cs28 ∧ appS PP T_liveryref08_Tx 32 4 h23 ⟨l22.a, l22.n, l22.c⟩ 1 cs28 fun (l24 : Sl) (h25 : Hp) =>
        nilW g0_l fun a26 => stOk h25 (Addr.add a26 0) 1 ∧ wth (wrs h25 (Addr.add a26 0) 0 [(Value.slice l24.a l24.n l24.c)]) fun h27 =>
        J3 [] h27)) ∧
    (wth (Array.push h (Obj.cells #[(Value.int .i64 (1 : Int)), (Value.int .i64 n10), (Value.int .i64 (0 : Int)), (Value.bool g1_reads)] T_liveryref08_Tx)) fun h30 =>
      rd h30 (Addr.add a7 0) = some (Value.slice l8.a l8.n l8.c) ∧ wth (Array.push h30 (Obj.cells #[] T_liveryref08_Tx)) fun h31 =>
      rd h31 (Addr.add a7 0) = some (Value.slice l8.a l8.n l8.c) ∧ ∃ cs39 : List Value, cellsAt h31 l8.a (l8.n * 4) cs39 ∧ appS PP T_liveryref08_Tx 32 4 h31 ⟨(some (Addr.mk (Array.size h30) 0 none)), 0, 0⟩ l8.n cs39 fun (l32 : Sl) (h33 : Hp) =>
      ∃ cs38 : List Value, cellsAt h33 (some (Addr.mk (Array.size h) 0 none)) (1 * 4) cs38 ∧ appS PP T_liveryref08_Tx 32 4 h33 ⟨l32.a, l32.n, l32.c⟩ 1 cs38 fun (l34 : Sl) (h35 : Hp) =>
      nilW g0_l fun a36 => stOk h35 (Addr.add a36 0) 1 ∧ wth (wrs h35 (Addr.add a36 0) 0 [(Value.slice l34.a l34.n l34.c)]) fun h37 =>
      J3 [] h37)))
def A_liveryref08_Log_Begin : Ann := (.mk none ⟨[], []⟩ .nil (.mk none ⟨[], []⟩ .nil (.mk none ⟨[], []⟩ (.mk (some ⟨[0], []⟩) ⟨[], []⟩ .nil .nil) .nil)))
theorem E_liveryref08_Log_Begin (g0_l : Option Addr) (g1_reads : Bool) (h : Hp) (Q : List Value → Hp → Prop) : cw PP 34 (fun _ => []) (bodyOf Try.f47) A_liveryref08_Log_Begin (finQ PP (Try.f47.results.toList) Q) (argFr [(Value.pointer g0_l), (Value.bool g1_reads)]) h = F_liveryref08_Log_Begin g0_l g1_reads h Q := by kernel_rfl
theorem O_liveryref08_Log_Begin (g0_l : Option Addr) (g1_reads : Bool) {h : Hp} {Q : List Value → Hp → Prop} (H : F_liveryref08_Log_Begin g0_l g1_reads h Q) : S_liveryref08_Log_Begin g0_l g1_reads h Q :=
  fn_of_cw (hs := (fun _ => [])) (ann := A_liveryref08_Log_Begin) (args := [(Value.pointer g0_l), (Value.bool g1_reads)]) mixedPP Try.func47 (c := bodyOf Try.f47) (by kernel_rfl) (by kernel_rfl) (by kernel_rfl) (Eq.mpr (E_liveryref08_Log_Begin g0_l g1_reads h Q) H)
def F_liveryref08_Log_Get (g0_l : Option Addr) (g1_xid : Int) (h : Hp) (Q : List Value → Hp → Prop) : Prop :=
wth (Array.push h (Obj.cells #[(Value.int .i64 (0 : Int)), (Value.int .i64 (0 : Int)), (Value.int .i64 (0 : Int)), (Value.bool false)] T_liveryref08_Tx)) fun h1 =>
∀ J2 : List Value → Hp → Prop, (∀ b3 : Bool, ∀ h4 : Hp, ((if b3 = true then
      (stOk h4 (Addr.mk (Array.size h) 0 none) 4 ∧ wth (wrs h4 (Addr.mk (Array.size h) 0 none) 0 [(Value.int .i64 (0 : Int)), (Value.int .i64 (0 : Int)), (Value.int .i64 (0 : Int)), (Value.bool false)]) fun h5 =>
        ∃ n6 : Int, rd h5 (Addr.add (Addr.mk (Array.size h) 0 none) 0) = some (Value.int .i64 n6) ∧ ∃ n7 : Int, rd h5 (Addr.add (Addr.mk (Array.size h) 0 none) 1) = some (Value.int .i64 n7) ∧ ∃ n8 : Int, rd h5 (Addr.add (Addr.mk (Array.size h) 0 none) 2) = some (Value.int .i64 n8) ∧ ∃ b9 : Bool, rd h5 (Addr.add (Addr.mk (Array.size h) 0 none) 3) = some (Value.bool b9) ∧ Q [(Value.agg #[(Value.int .i64 n6), (Value.int .i64 n7), (Value.int .i64 n8), (Value.bool b9)])] h5) else
      (nilW g0_l fun a10 => ∃ l11 : Sl, rd h4 (Addr.add a10 0) = some (Value.slice l11.a l11.n l11.c) ∧
        nilW l11.a fun a12 => ixOk (IntKind.wrap .i64 (g1_xid - (1 : Int))) l11.n (∃ n13 : Int, rd h4 (Addr.add (Addr.add a12 (Int.toNat (IntKind.wrap .i64 (g1_xid - (1 : Int))) * 4)) 0) = some (Value.int .i64 n13) ∧ ∃ n14 : Int, rd h4 (Addr.add (Addr.add a12 (Int.toNat (IntKind.wrap .i64 (g1_xid - (1 : Int))) * 4)) 1) = some (Value.int .i64 n14) ∧ ∃ n15 : Int, rd h4 (Addr.add (Addr.add a12 (Int.toNat (IntKind.wrap .i64 (g1_xid - (1 : Int))) * 4)) 2) = some (Value.int .i64 n15) ∧ ∃ b16 : Bool, rd h4 (Addr.add (Addr.add a12 (Int.toNat (IntKind.wrap .i64 (g1_xid - (1 : Int))) * 4)) 3) = some (Value.bool b16) ∧ stOk h4 (Addr.mk (Array.size h) 0 none) 4 ∧ wth (wrs h4 (Addr.mk (Array.size h) 0 none) 0 [(Value.int .i64 n13), (Value.int .i64 n14), (Value.int .i64 n15), (Value.bool b16)]) fun h17 =>
          ∃ n18 : Int, rd h17 (Addr.add (Addr.mk (Array.size h) 0 none) 0) = some (Value.int .i64 n18) ∧ ∃ n19 : Int, rd h17 (Addr.add (Addr.mk (Array.size h) 0 none) 1) = some (Value.int .i64 n19) ∧ ∃ n20 : Int, rd h17 (Addr.add (Addr.mk (Array.size h) 0 none) 2) = some (Value.int .i64 n20) ∧ ∃ b21 : Bool, rd h17 (Addr.add (Addr.mk (Array.size h) 0 none) 3) = some (Value.bool b21) ∧ Q [(Value.agg #[(Value.int .i64 n18), (Value.int .i64 n19), (Value.int .i64 n20), (Value.bool b21)])] h17)))) → J2 [(Value.bool b3)] h4) →
(if (decide (g1_xid < (1 : Int))) = true then (J2 [(Value.bool true)] h1) else
  (nilW g0_l fun a22 => ∃ l23 : Sl, rd h1 (Addr.add a22 0) = some (Value.slice l23.a l23.n l23.c) ∧
    J2 [(Value.bool (decide (g1_xid > (l23.n : Int))))] h1))
def A_liveryref08_Log_Get : Ann := (.mk none ⟨[], []⟩ .nil (.mk none ⟨[], []⟩ (.mk none ⟨[], []⟩ (.mk (some ⟨[0, 1, 4], [(15, (.c .bool))]⟩) ⟨[], []⟩ .nil .nil) .nil) .nil))
theorem E_liveryref08_Log_Get (g0_l : Option Addr) (g1_xid : Int) (h : Hp) (Q : List Value → Hp → Prop) : cw PP 25 (fun _ => []) (bodyOf Try.f53) A_liveryref08_Log_Get (finQ PP (Try.f53.results.toList) Q) (argFr [(Value.pointer g0_l), (Value.int .i64 g1_xid)]) h = F_liveryref08_Log_Get g0_l g1_xid h Q := by kernel_rfl
theorem O_liveryref08_Log_Get (g0_l : Option Addr) (g1_xid : Int) {h : Hp} {Q : List Value → Hp → Prop} (H : F_liveryref08_Log_Get g0_l g1_xid h Q) : S_liveryref08_Log_Get g0_l g1_xid h Q :=
  fn_of_cw (hs := (fun _ => [])) (ann := A_liveryref08_Log_Get) (args := [(Value.pointer g0_l), (Value.int .i64 g1_xid)]) mixedPP Try.func53 (c := bodyOf Try.f53) (by kernel_rfl) (by kernel_rfl) (by kernel_rfl) (Eq.mpr (E_liveryref08_Log_Get g0_l g1_xid h Q) H)
def F_liveryref08_Log_Commit (g0_l : Option Addr) (g1_xid : Int) (h : Hp) (Q : List Value → Hp → Prop) : Prop :=
S_liveryref08_Log_Get g0_l g1_xid h fun (vs1 : List Value) (h2 : Hp) =>
∃ n3 : Int, ∃ n4 : Int, ∃ n5 : Int, ∃ b6 : Bool, vs1 = [(Value.agg #[(Value.int .i64 n3), (Value.int .i64 n4), (Value.int .i64 n5), (Value.bool b6)])] ∧
(if (n3 != (1 : Int)) = true then
  (Q [(Value.int .i64 (0 : Int)), (Value.int .i64 (76 : Int))] h2) else
  (nilW g0_l fun a7 => ∃ n8 : Int, rd h2 (Addr.add a7 1) = some (Value.int .i64 n8) ∧
    nilW g0_l fun a9 => stOk h2 (Addr.add a9 1) 1 ∧ wth (wrs h2 (Addr.add a9 1) 0 [(Value.int .i64 (IntKind.wrap .i64 (n8 + (1 : Int))))]) fun h10 =>
    nilW g0_l fun a11 => ∃ l12 : Sl, rd h10 (Addr.add a11 0) = some (Value.slice l12.a l12.n l12.c) ∧
    nilW g0_l fun a13 => ∃ l14 : Sl, rd h10 (Addr.add a13 0) = some (Value.slice l14.a l14.n l14.c) ∧
    nilW g0_l fun a15 => ∃ n16 : Int, rd h10 (Addr.add a15 1) = some (Value.int .i64 n16) ∧
    nilW l12.a fun a17 => ixOk (IntKind.wrap .i64 (g1_xid - (1 : Int))) l12.n (stOk h10 (Addr.add (Addr.add a17 (Int.toNat (IntKind.wrap .i64 (g1_xid - (1 : Int))) * 4)) 0) 1 ∧ wth (wrs h10 (Addr.add (Addr.add a17 (Int.toNat (IntKind.wrap .i64 (g1_xid - (1 : Int))) * 4)) 0) 0 [(Value.int .i64 (2 : Int))]) fun h18 =>
      nilW l14.a fun a19 => ixOk (IntKind.wrap .i64 (g1_xid - (1 : Int))) l14.n (stOk h18 (Addr.add (Addr.add a19 (Int.toNat (IntKind.wrap .i64 (g1_xid - (1 : Int))) * 4)) 2) 1 ∧ wth (wrs h18 (Addr.add (Addr.add a19 (Int.toNat (IntKind.wrap .i64 (g1_xid - (1 : Int))) * 4)) 2) 0 [(Value.int .i64 n16)]) fun h20 =>
        nilW g0_l fun a21 => ∃ n22 : Int, rd h20 (Addr.add a21 1) = some (Value.int .i64 n22) ∧
        Q [(Value.int .i64 n22), (Value.int .i64 (0 : Int))] h20))))
def A_liveryref08_Log_Commit : Ann := .nil
theorem E_liveryref08_Log_Commit (g0_l : Option Addr) (g1_xid : Int) (h : Hp) (Q : List Value → Hp → Prop) : cw PP 42 (fun _ => []) (bodyOf Try.f48) A_liveryref08_Log_Commit (finQ PP (Try.f48.results.toList) Q) (argFr [(Value.pointer g0_l), (Value.int .i64 g1_xid)]) h = F_liveryref08_Log_Commit g0_l g1_xid h Q := by kernel_rfl
theorem O_liveryref08_Log_Commit (g0_l : Option Addr) (g1_xid : Int) {h : Hp} {Q : List Value → Hp → Prop} (H : F_liveryref08_Log_Commit g0_l g1_xid h Q) : S_liveryref08_Log_Commit g0_l g1_xid h Q :=
  fn_of_cw (hs := (fun _ => [])) (ann := A_liveryref08_Log_Commit) (args := [(Value.pointer g0_l), (Value.int .i64 g1_xid)]) mixedPP Try.func48 (c := bodyOf Try.f48) (by kernel_rfl) (by kernel_rfl) (by kernel_rfl) (Eq.mpr (E_liveryref08_Log_Commit g0_l g1_xid h Q) H)
def F_liveryref08_Log_Abort (g0_l : Option Addr) (g1_xid : Int) (h : Hp) (Q : List Value → Hp → Prop) : Prop :=
S_liveryref08_Log_Get g0_l g1_xid h fun (vs1 : List Value) (h2 : Hp) =>
∃ n3 : Int, ∃ n4 : Int, ∃ n5 : Int, ∃ b6 : Bool, vs1 = [(Value.agg #[(Value.int .i64 n3), (Value.int .i64 n4), (Value.int .i64 n5), (Value.bool b6)])] ∧
(if (n3 != (1 : Int)) = true then
  (Q [(Value.int .i64 (76 : Int))] h2) else
  (nilW g0_l fun a7 => ∃ l8 : Sl, rd h2 (Addr.add a7 0) = some (Value.slice l8.a l8.n l8.c) ∧
    nilW l8.a fun a9 => ixOk (IntKind.wrap .i64 (g1_xid - (1 : Int))) l8.n (stOk h2 (Addr.add (Addr.add a9 (Int.toNat (IntKind.wrap .i64 (g1_xid - (1 : Int))) * 4)) 0) 1 ∧ wth (wrs h2 (Addr.add (Addr.add a9 (Int.toNat (IntKind.wrap .i64 (g1_xid - (1 : Int))) * 4)) 0) 0 [(Value.int .i64 (3 : Int))]) fun h10 =>
      Q [(Value.int .i64 (0 : Int))] h10)))
def A_liveryref08_Log_Abort : Ann := .nil
theorem E_liveryref08_Log_Abort (g0_l : Option Addr) (g1_xid : Int) (h : Hp) (Q : List Value → Hp → Prop) : cw PP 18 (fun _ => []) (bodyOf Try.f49) A_liveryref08_Log_Abort (finQ PP (Try.f49.results.toList) Q) (argFr [(Value.pointer g0_l), (Value.int .i64 g1_xid)]) h = F_liveryref08_Log_Abort g0_l g1_xid h Q := by kernel_rfl
theorem O_liveryref08_Log_Abort (g0_l : Option Addr) (g1_xid : Int) {h : Hp} {Q : List Value → Hp → Prop} (H : F_liveryref08_Log_Abort g0_l g1_xid h Q) : S_liveryref08_Log_Abort g0_l g1_xid h Q :=
  fn_of_cw (hs := (fun _ => [])) (ann := A_liveryref08_Log_Abort) (args := [(Value.pointer g0_l), (Value.int .i64 g1_xid)]) mixedPP Try.func49 (c := bodyOf Try.f49) (by kernel_rfl) (by kernel_rfl) (by kernel_rfl) (Eq.mpr (E_liveryref08_Log_Abort g0_l g1_xid h Q) H)
def F_liverylaw08_Play (g0_l : Option Addr) (g1_q : Option Addr) (g2_x_0 : Int) (g2_x_1 : Int) (g2_x_2 : Bool) (h : Hp) (Q : List Value → Hp → Prop) : Prop :=
wth (Array.push h (Obj.cells #[(Value.int .i64 g2_x_0), (Value.int .i64 g2_x_1), (Value.bool g2_x_2)] T_liverylaw08_Step)) fun h1 =>
∃ n2 : Int, rd h1 (Addr.add (Addr.mk (Array.size h) 0 none) 0) = some (Value.int .i64 n2) ∧
(if (n2 == (0 : Int)) = true then
  (∃ b3 : Bool, rd h1 (Addr.add (Addr.mk (Array.size h) 0 none) 2) = some (Value.bool b3) ∧
    S_clog_Log_Begin g0_l b3 h1 fun (vs4 : List Value) (h5 : Hp) =>
    ∃ n6 : Int, ∃ n7 : Int, vs4 = [(Value.int .i64 n6), (Value.int .i64 n7)] ∧
    ∃ b8 : Bool, rd h5 (Addr.add (Addr.mk (Array.size h) 0 none) 2) = some (Value.bool b8) ∧
    S_liveryref08_Log_Begin g1_q b8 h5 fun (vs9 : List Value) (h10 : Hp) =>
    ∃ n11 : Int, ∃ n12 : Int, vs9 = [(Value.int .i64 n11), (Value.int .i64 n12)] ∧
    ∀ J13 : List Value → Hp → Prop, (∀ b14 : Bool, ∀ h15 : Hp, (Q [(Value.bool b14)] h15) → J13 [(Value.bool b14)] h15) →
    (if (n6 == n11) = true then (J13 [(Value.bool (n7 == n12))] h10) else
      (J13 [(Value.bool false)] h10))) else
  ((if (n2 == (1 : Int)) = true then
      (∃ n16 : Int, rd h1 (Addr.add (Addr.mk (Array.size h) 0 none) 1) = some (Value.int .i64 n16) ∧
        S_clog_Log_Commit g0_l n16 h1 fun (vs17 : List Value) (h18 : Hp) =>
        ∃ n19 : Int, ∃ n20 : Int, vs17 = [(Value.int .i64 n19), (Value.int .i64 n20)] ∧
        ∃ n21 : Int, rd h18 (Addr.add (Addr.mk (Array.size h) 0 none) 1) = some (Value.int .i64 n21) ∧
        S_liveryref08_Log_Commit g1_q n21 h18 fun (vs22 : List Value) (h23 : Hp) =>
        ∃ n24 : Int, ∃ n25 : Int, vs22 = [(Value.int .i64 n24), (Value.int .i64 n25)] ∧
        ∀ J26 : List Value → Hp → Prop, (∀ b27 : Bool, ∀ h28 : Hp, (Q [(Value.bool b27)] h28) → J26 [(Value.bool b27)] h28) →
        (if (n19 == n24) = true then (J26 [(Value.bool (n20 == n25))] h23) else
          (J26 [(Value.bool false)] h23))) else
      ((if (n2 == (2 : Int)) = true then
          (∃ n29 : Int, rd h1 (Addr.add (Addr.mk (Array.size h) 0 none) 1) = some (Value.int .i64 n29) ∧
            ∃ n30 : Int, rd h1 (Addr.add (Addr.mk (Array.size h) 0 none) 1) = some (Value.int .i64 n30) ∧
            S_clog_Log_Abort g0_l n29 h1 fun (vs31 : List Value) (h32 : Hp) =>
            ∃ n33 : Int, vs31 = [(Value.int .i64 n33)] ∧
            rd h32 (Addr.add (Addr.mk (Array.size h) 0 none) 1) = some (Value.int .i64 n30) ∧ S_liveryref08_Log_Abort g1_q n30 h32 fun (vs34 : List Value) (h35 : Hp) =>
            ∃ n36 : Int, vs34 = [(Value.int .i64 n36)] ∧
            Q [(Value.bool (n33 == n36))] h35) else
          (Q [(Value.bool true)] h1))))))
def A_liverylaw08_Play : Ann := (.mk none ⟨[], []⟩ .nil (.mk none ⟨[], []⟩ (.mk none ⟨[], []⟩ .nil (.mk none ⟨[], []⟩ (.mk none ⟨[], []⟩ .nil (.mk none ⟨[], []⟩ (.mk none ⟨[], []⟩ .nil (.mk none ⟨[], []⟩ .nil (.mk none ⟨[], []⟩ (.mk (some ⟨[], [(6, (.c .bool))]⟩) ⟨[], []⟩ .nil .nil) .nil))) (.mk none ⟨[], []⟩ .nil (.mk none ⟨[], []⟩ (.mk none ⟨[], []⟩ .nil (.mk none ⟨[], []⟩ .nil (.mk none ⟨[], []⟩ (.mk (some ⟨[], [(6, (.c .bool))]⟩) ⟨[], []⟩ .nil .nil) .nil))) .nil)))) .nil)) .nil))
theorem E_liverylaw08_Play (g0_l : Option Addr) (g1_q : Option Addr) (g2_x_0 : Int) (g2_x_1 : Int) (g2_x_2 : Bool) (h : Hp) (Q : List Value → Hp → Prop) : cw PP 76 (fun _ => []) (bodyOf Try.f27) A_liverylaw08_Play (finQ PP (Try.f27.results.toList) Q) (argFr [(Value.pointer g0_l), (Value.pointer g1_q), (Value.agg #[(Value.int .i64 g2_x_0), (Value.int .i64 g2_x_1), (Value.bool g2_x_2)])]) h = F_liverylaw08_Play g0_l g1_q g2_x_0 g2_x_1 g2_x_2 h Q := by kernel_rfl
theorem O_liverylaw08_Play (g0_l : Option Addr) (g1_q : Option Addr) (g2_x_0 : Int) (g2_x_1 : Int) (g2_x_2 : Bool) {h : Hp} {Q : List Value → Hp → Prop} (H : F_liverylaw08_Play g0_l g1_q g2_x_0 g2_x_1 g2_x_2 h Q) : S_liverylaw08_Play g0_l g1_q g2_x_0 g2_x_1 g2_x_2 h Q :=
  fn_of_cw (hs := (fun _ => [])) (ann := A_liverylaw08_Play) (args := [(Value.pointer g0_l), (Value.pointer g1_q), (Value.agg #[(Value.int .i64 g2_x_0), (Value.int .i64 g2_x_1), (Value.bool g2_x_2)])]) mixedPP Try.func27 (c := bodyOf Try.f27) (by kernel_rfl) (by kernel_rfl) (by kernel_rfl) (Eq.mpr (E_liverylaw08_Play g0_l g1_q g2_x_0 g2_x_1 g2_x_2 h Q) H)
def F_liveryref14_Edges_Drop (g0_e : Option Addr) (g1_xid : Int) (h : Hp) (Q : List Value → Hp → Prop) : Prop :=
∀ X1 : List Value → Hp → Prop, (∀ l2 : Sl, ∀ n3 : Int, ∀ h4 : Hp, (nilW g0_e fun a5 => ∃ l6 : Sl, rd h4 (Addr.add a5 1) = some (Value.slice l6.a l6.n l6.c) ∧
    (if (decide (n3 < (l6.n : Int))) = true then
      (∀ J7 : List Value → Hp → Prop, (∀ l8 : Sl, ∀ h9 : Hp, (X1 [(Value.slice l8.a l8.n l8.c), (Value.int .i64 (IntKind.wrap .i64 (n3 + (1 : Int))))] h9) → J7 [(Value.slice l8.a l8.n l8.c)] h9) →
        ∀ J10 : List Value → Hp → Prop, (∀ b11 : Bool, ∀ h12 : Hp, ((if b11 = true then
              (nilW g0_e fun a13 => ∃ l14 : Sl, rd h12 (Addr.add a13 1) = some (Value.slice l14.a l14.n l14.c) ∧
                nilW l14.a fun a15 => ixOk n3 l14.n (∃ n16 : Int, rd h12 (Addr.add (Addr.add a15 (Int.toNat n3 * 2)) 0) = some (Value.int .i64 n16) ∧ ∃ n17 : Int, rd h12 (Addr.add (Addr.add a15 (Int.toNat n3 * 2)) 1) = some (Value.int .i64 n17) ∧ wth (Array.push h12 (Obj.cells #[(Value.int .i64 n16), (Value.int .i64 n17)] T_2_int)) fun h18 =>
                  ∃ cs21 : List Value, cellsAt h18 (some (Addr.mk (Array.size h12) 0 none)) (1 * 2) cs21 ∧ appS PP T_2_int 16 2 h18 ⟨l2.a, l2.n, l2.c⟩ 1 cs21 fun (l19 : Sl) (h20 : Hp) =>
                  J7 [(Value.slice l19.a l19.n l19.c)] h20)) else
              (J7 [(Value.slice l2.a l2.n l2.c)] h12))) → J10 [(Value.bool b11)] h12) →
        nilW g0_e fun a22 => ∃ l23 : Sl, rd h4 (Addr.add a22 1) = some (Value.slice l23.a l23.n l23.c) ∧
        nilW l23.a fun a24 => ixOk n3 l23.n (ixOk (0 : Int) 2 (∃ n25 : Int, rd h4 (Addr.add (Addr.add a24 (Int.toNat n3 * 2)) (Int.toNat (0 : Int) * 1)) = some (Value.int .i64 n25) ∧
            (if (n25 != g1_xid) = true then (nilW g0_e fun a26 => ∃ l27 : Sl, rd h4 (Addr.add a26 1) = some (Value.slice l27.a l27.n l27.c) ∧
                nilW l27.a fun a28 => ixOk n3 l27.n (ixOk (1 : Int) 2 (∃ n29 : Int, rd h4 (Addr.add (Addr.add a28 (Int.toNat n3 * 2)) (Int.toNat (1 : Int) * 1)) = some (Value.int .i64 n29) ∧
                    J10 [(Value.bool (n29 != g1_xid))] h4))) else
              (J10 [(Value.bool false)] h4))))) else
      (∀ X30 : List Value → Hp → Prop, (∀ l31 : Sl, ∀ n32 : Int, ∀ h33 : Hp, (nilW g0_e fun a34 => ∃ l35 : Sl, rd h33 (Addr.add a34 2) = some (Value.slice l35.a l35.n l35.c) ∧
            (if (decide (n32 < (l35.n : Int))) = true then
              (∀ J36 : List Value → Hp → Prop, (∀ l37 : Sl, ∀ h38 : Hp, (X30 [(Value.slice l37.a l37.n l37.c), (Value.int .i64 (IntKind.wrap .i64 (n32 + (1 : Int))))] h38) → J36 [(Value.slice l37.a l37.n l37.c)] h38) →
                nilW g0_e fun a39 => ∃ l40 : Sl, rd h33 (Addr.add a39 2) = some (Value.slice l40.a l40.n l40.c) ∧
                nilW l40.a fun a41 => ixOk n32 l40.n (ixOk (0 : Int) 2 (∃ n42 : Int, rd h33 (Addr.add (Addr.add a41 (Int.toNat n32 * 2)) (Int.toNat (0 : Int) * 1)) = some (Value.int .i64 n42) ∧
                    (if (n42 != g1_xid) = true then
                      (nilW g0_e fun a43 => ∃ l44 : Sl, rd h33 (Addr.add a43 2) = some (Value.slice l44.a l44.n l44.c) ∧
                        nilW l44.a fun a45 => ixOk n32 l44.n (∃ n46 : Int, rd h33 (Addr.add (Addr.add a45 (Int.toNat n32 * 2)) 0) = some (Value.int .i64 n46) ∧ ∃ n47 : Int, rd h33 (Addr.add (Addr.add a45 (Int.toNat n32 * 2)) 1) = some (Value.int .i64 n47) ∧ wth (Array.push h33 (Obj.cells #[(Value.int .i64 n46), (Value.int .i64 n47)] T_2_int)) fun h48 =>
                          ∃ cs51 : List Value, cellsAt h48 (some (Addr.mk (Array.size h33) 0 none)) (1 * 2) cs51 ∧ appS PP T_2_int 16 2 h48 ⟨l31.a, l31.n, l31.c⟩ 1 cs51 fun (l49 : Sl) (h50 : Hp) =>
                          J36 [(Value.slice l49.a l49.n l49.c)] h50)) else
                      (J36 [(Value.slice l31.a l31.n l31.c)] h33))))) else
              (nilW g0_e fun a52 => stOk h33 (Addr.add a52 1) 1 ∧ wth (wrs h33 (Addr.add a52 1) 0 [(Value.slice l2.a l2.n l2.c)]) fun h53 =>
                nilW g0_e fun a54 => stOk h53 (Addr.add a54 2) 1 ∧ wth (wrs h53 (Addr.add a54 2) 0 [(Value.slice l31.a l31.n l31.c)]) fun h55 =>
                Q [] h55))) → X30 [(Value.slice l31.a l31.n l31.c), (Value.int .i64 n32)] h33) →
        X30 [(Value.slice none 0 0), (Value.int .i64 (0 : Int))] h4))) → X1 [(Value.slice l2.a l2.n l2.c), (Value.int .i64 n3)] h4) →
X1 [(Value.slice none 0 0), (Value.int .i64 (0 : Int))] h
def A_liveryref14_Edges_Drop : Ann := (.mk none ⟨[], []⟩ .nil (.mk none ⟨[], []⟩ (.mk none ⟨[], []⟩ .nil (.mk none ⟨[], []⟩ (.mk none ⟨[0, 1, 5], [(4, (.c .sl)), (6, (.c (.int .i64)))]⟩ (.mk none ⟨[], []⟩ .nil (.mk none ⟨[], []⟩ (.mk (some ⟨[0, 1, 5, 6], [(4, (.c .sl))]⟩) ⟨[], []⟩ (.mk none ⟨[], []⟩ (.mk (some ⟨[0, 1, 4, 5, 6], [(38, (.c .bool))]⟩) ⟨[], []⟩ .nil .nil) .nil) .nil) .nil)) .nil) .nil)) (.mk none ⟨[], []⟩ (.mk none ⟨[], []⟩ .nil (.mk none ⟨[], []⟩ (.mk none ⟨[0, 1, 4], [(5, (.c .sl)), (7, (.c (.int .i64)))]⟩ (.mk none ⟨[], []⟩ .nil (.mk none ⟨[], []⟩ (.mk (some ⟨[0, 1, 4, 7], [(5, (.c .sl))]⟩) ⟨[], []⟩ .nil .nil) .nil)) .nil) .nil)) .nil)))
theorem E_liveryref14_Edges_Drop (g0_e : Option Addr) (g1_xid : Int) (h : Hp) (Q : List Value → Hp → Prop) : cw PP 86 (fun _ => []) (bodyOf Try.f28) A_liveryref14_Edges_Drop (finQ PP (Try.f28.results.toList) Q) (argFr [(Value.pointer g0_e), (Value.int .i64 g1_xid)]) h = F_liveryref14_Edges_Drop g0_e g1_xid h Q := by kernel_rfl
theorem O_liveryref14_Edges_Drop (g0_e : Option Addr) (g1_xid : Int) {h : Hp} {Q : List Value → Hp → Prop} (H : F_liveryref14_Edges_Drop g0_e g1_xid h Q) : S_liveryref14_Edges_Drop g0_e g1_xid h Q :=
  fn_of_cw (hs := (fun _ => [])) (ann := A_liveryref14_Edges_Drop) (args := [(Value.pointer g0_e), (Value.int .i64 g1_xid)]) mixedPP Try.func28 (c := bodyOf Try.f28) (by kernel_rfl) (by kernel_rfl) (by kernel_rfl) (Eq.mpr (E_liveryref14_Edges_Drop g0_e g1_xid h Q) H)
def F_liveryref08_Log_Sees (g0_l : Option Addr) (g1_xid : Int) (g2_other : Int) (h : Hp) (Q : List Value → Hp → Prop) : Prop :=
S_liveryref08_Log_Get g0_l g1_xid h fun (vs1 : List Value) (h2 : Hp) =>
∃ n3 : Int, ∃ n4 : Int, ∃ n5 : Int, ∃ b6 : Bool, vs1 = [(Value.agg #[(Value.int .i64 n3), (Value.int .i64 n4), (Value.int .i64 n5), (Value.bool b6)])] ∧
S_liveryref08_Log_Get g0_l g2_other h2 fun (vs7 : List Value) (h8 : Hp) =>
∃ n9 : Int, ∃ n10 : Int, ∃ n11 : Int, ∃ b12 : Bool, vs7 = [(Value.agg #[(Value.int .i64 n9), (Value.int .i64 n10), (Value.int .i64 n11), (Value.bool b12)])] ∧
wth (Array.push h8 (Obj.cells #[(Value.int .i64 (0 : Int)), (Value.int .i64 (0 : Int)), (Value.int .i64 (0 : Int)), (Value.bool false)] T_liveryref08_Tx)) fun h13 =>
wth (Array.push h13 (Obj.cells #[(Value.int .i64 (0 : Int)), (Value.int .i64 (0 : Int)), (Value.int .i64 (0 : Int)), (Value.bool false)] T_liveryref08_Tx)) fun h14 =>
stOk h14 (Addr.mk (Array.size h8) 0 none) 4 ∧ wth (wrs h14 (Addr.mk (Array.size h8) 0 none) 0 [(Value.int .i64 n3), (Value.int .i64 n4), (Value.int .i64 n5), (Value.bool b6)]) fun h15 =>
stOk h15 (Addr.mk (Array.size h13) 0 none) 4 ∧ wth (wrs h15 (Addr.mk (Array.size h13) 0 none) 0 [(Value.int .i64 n9), (Value.int .i64 n10), (Value.int .i64 n11), (Value.bool b12)]) fun h16 =>
∃ n17 : Int, rd h16 (Addr.add (Addr.mk (Array.size h8) 0 none) 0) = some (Value.int .i64 n17) ∧
(if (n17 == (0 : Int)) = true then
  (Q [(Value.bool false)] h16) else
  ((if (g1_xid == g2_other) = true then (Q [(Value.bool true)] h16) else
      (∃ n18 : Int, rd h16 (Addr.add (Addr.mk (Array.size h13) 0 none) 0) = some (Value.int .i64 n18) ∧
        (if (n18 == (2 : Int)) = true then (∃ n19 : Int, rd h16 (Addr.add (Addr.mk (Array.size h13) 0 none) 2) = some (Value.int .i64 n19) ∧
            ∃ n20 : Int, rd h16 (Addr.add (Addr.mk (Array.size h8) 0 none) 1) = some (Value.int .i64 n20) ∧
            Q [(Value.bool (decide (n19 ≤ n20)))] h16) else
          (Q [(Value.bool false)] h16))))))
def A_liveryref08_Log_Sees : Ann := .nil
theorem E_liveryref08_Log_Sees (g0_l : Option Addr) (g1_xid : Int) (g2_other : Int) (h : Hp) (Q : List Value → Hp → Prop) : cw PP 33 (fun _ => []) (bodyOf Try.f64) A_liveryref08_Log_Sees (finQ PP (Try.f64.results.toList) Q) (argFr [(Value.pointer g0_l), (Value.int .i64 g1_xid), (Value.int .i64 g2_other)]) h = F_liveryref08_Log_Sees g0_l g1_xid g2_other h Q := by kernel_rfl
theorem O_liveryref08_Log_Sees (g0_l : Option Addr) (g1_xid : Int) (g2_other : Int) {h : Hp} {Q : List Value → Hp → Prop} (H : F_liveryref08_Log_Sees g0_l g1_xid g2_other h Q) : S_liveryref08_Log_Sees g0_l g1_xid g2_other h Q :=
  fn_of_cw (hs := (fun _ => [])) (ann := A_liveryref08_Log_Sees) (args := [(Value.pointer g0_l), (Value.int .i64 g1_xid), (Value.int .i64 g2_other)]) mixedPP Try.func64 (c := bodyOf Try.f64) (by kernel_rfl) (by kernel_rfl) (by kernel_rfl) (Eq.mpr (E_liveryref08_Log_Sees g0_l g1_xid g2_other h Q) H)
def F_liveryref08_Log_Beside (g0_l : Option Addr) (g1_a : Int) (g2_b : Int) (h : Hp) (Q : List Value → Hp → Prop) : Prop :=
S_liveryref08_Log_Get g0_l g1_a h fun (vs1 : List Value) (h2 : Hp) =>
∃ n3 : Int, ∃ n4 : Int, ∃ n5 : Int, ∃ b6 : Bool, vs1 = [(Value.agg #[(Value.int .i64 n3), (Value.int .i64 n4), (Value.int .i64 n5), (Value.bool b6)])] ∧
S_liveryref08_Log_Get g0_l g2_b h2 fun (vs7 : List Value) (h8 : Hp) =>
∃ n9 : Int, ∃ n10 : Int, ∃ n11 : Int, ∃ b12 : Bool, vs7 = [(Value.agg #[(Value.int .i64 n9), (Value.int .i64 n10), (Value.int .i64 n11), (Value.bool b12)])] ∧
wth (Array.push h8 (Obj.cells #[(Value.int .i64 (0 : Int)), (Value.int .i64 (0 : Int)), (Value.int .i64 (0 : Int)), (Value.bool false)] T_liveryref08_Tx)) fun h13 =>
wth (Array.push h13 (Obj.cells #[(Value.int .i64 (0 : Int)), (Value.int .i64 (0 : Int)), (Value.int .i64 (0 : Int)), (Value.bool false)] T_liveryref08_Tx)) fun h14 =>
stOk h14 (Addr.mk (Array.size h8) 0 none) 4 ∧ wth (wrs h14 (Addr.mk (Array.size h8) 0 none) 0 [(Value.int .i64 n3), (Value.int .i64 n4), (Value.int .i64 n5), (Value.bool b6)]) fun h15 =>
stOk h15 (Addr.mk (Array.size h13) 0 none) 4 ∧ wth (wrs h15 (Addr.mk (Array.size h13) 0 none) 0 [(Value.int .i64 n9), (Value.int .i64 n10), (Value.int .i64 n11), (Value.bool b12)]) fun h16 =>
∀ J17 : List Value → Hp → Prop, (∀ b18 : Bool, ∀ h19 : Hp, ((if b18 = true then
      (Q [(Value.bool false)] h19) else
      (S_liveryref08_Log_Sees g0_l g1_a g2_b h19 fun (vs20 : List Value) (h21 : Hp) =>
        ∃ b22 : Bool, vs20 = [(Value.bool b22)] ∧
        (if (!b22) = true then (S_liveryref08_Log_Sees g0_l g2_b g1_a h21 fun (vs23 : List Value) (h24 : Hp) =>
            ∃ b25 : Bool, vs23 = [(Value.bool b25)] ∧
            Q [(Value.bool (!b25))] h24) else
          (Q [(Value.bool false)] h21))))) → J17 [(Value.bool b18)] h19) →
(if (g1_a == g2_b) = true then (J17 [(Value.bool true)] h16) else
  (∃ n26 : Int, rd h16 (Addr.add (Addr.mk (Array.size h8) 0 none) 0) = some (Value.int .i64 n26) ∧
    (if (n26 == (0 : Int)) = true then (J17 [(Value.bool true)] h16) else
      (∃ n27 : Int, rd h16 (Addr.add (Addr.mk (Array.size h13) 0 none) 0) = some (Value.int .i64 n27) ∧
        (if (n27 == (0 : Int)) = true then (J17 [(Value.bool true)] h16) else
          (∃ n28 : Int, rd h16 (Addr.add (Addr.mk (Array.size h8) 0 none) 0) = some (Value.int .i64 n28) ∧
            (if (n28 == (3 : Int)) = true then (J17 [(Value.bool true)] h16) else
              (∃ n29 : Int, rd h16 (Addr.add (Addr.mk (Array.size h13) 0 none) 0) = some (Value.int .i64 n29) ∧
                J17 [(Value.bool (n29 == (3 : Int)))] h16))))))))
def A_liveryref08_Log_Beside : Ann := (.mk none ⟨[], []⟩ .nil (.mk none ⟨[], []⟩ .nil (.mk none ⟨[], []⟩ (.mk none ⟨[], []⟩ (.mk (some ⟨[0, 1, 2], [(37, (.c .bool))]⟩) ⟨[], []⟩ .nil .nil) .nil) .nil)))
theorem E_liveryref08_Log_Beside (g0_l : Option Addr) (g1_a : Int) (g2_b : Int) (h : Hp) (Q : List Value → Hp → Prop) : cw PP 50 (fun _ => []) (bodyOf Try.f50) A_liveryref08_Log_Beside (finQ PP (Try.f50.results.toList) Q) (argFr [(Value.pointer g0_l), (Value.int .i64 g1_a), (Value.int .i64 g2_b)]) h = F_liveryref08_Log_Beside g0_l g1_a g2_b h Q := by kernel_rfl
theorem O_liveryref08_Log_Beside (g0_l : Option Addr) (g1_a : Int) (g2_b : Int) {h : Hp} {Q : List Value → Hp → Prop} (H : F_liveryref08_Log_Beside g0_l g1_a g2_b h Q) : S_liveryref08_Log_Beside g0_l g1_a g2_b h Q :=
  fn_of_cw (hs := (fun _ => [])) (ann := A_liveryref08_Log_Beside) (args := [(Value.pointer g0_l), (Value.int .i64 g1_a), (Value.int .i64 g2_b)]) mixedPP Try.func50 (c := bodyOf Try.f50) (by kernel_rfl) (by kernel_rfl) (by kernel_rfl) (Eq.mpr (E_liveryref08_Log_Beside g0_l g1_a g2_b h Q) H)
def F_liveryref14_Edges_at (g0_e : Option Addr) (g1_a : Int) (g2_b : Int) (h : Hp) (Q : List Value → Hp → Prop) : Prop :=
∀ X1 : List Value → Hp → Prop, (∀ n2 : Int, ∀ h3 : Hp, (∀ J4 : List Value → Hp → Prop, (∀ b5 : Bool, ∀ h6 : Hp, ((if b5 = true then
          (X1 [(Value.int .i64 (IntKind.wrap .i64 (n2 + (1 : Int))))] h6) else
          (Q [(Value.int .i64 n2)] h6))) → J4 [(Value.bool b5)] h6) →
    nilW g0_e fun a7 => ∃ l8 : Sl, rd h3 (Addr.add a7 1) = some (Value.slice l8.a l8.n l8.c) ∧
    (if (decide (n2 < (l8.n : Int))) = true then (nilW g0_e fun a9 => ∃ l10 : Sl, rd h3 (Addr.add a9 1) = some (Value.slice l10.a l10.n l10.c) ∧
        nilW l10.a fun a11 => ixOk n2 l10.n (ixOk (0 : Int) 2 (∃ n12 : Int, rd h3 (Addr.add (Addr.add a11 (Int.toNat n2 * 2)) (Int.toNat (0 : Int) * 1)) = some (Value.int .i64 n12) ∧
            (if (decide (n12 < g1_a)) = true then (J4 [(Value.bool true)] h3) else
              (nilW g0_e fun a13 => ∃ l14 : Sl, rd h3 (Addr.add a13 1) = some (Value.slice l14.a l14.n l14.c) ∧
                nilW l14.a fun a15 => ixOk n2 l14.n (ixOk (0 : Int) 2 (∃ n16 : Int, rd h3 (Addr.add (Addr.add a15 (Int.toNat n2 * 2)) (Int.toNat (0 : Int) * 1)) = some (Value.int .i64 n16) ∧
                    (if (n16 == g1_a) = true then (nilW g0_e fun a17 => ∃ l18 : Sl, rd h3 (Addr.add a17 1) = some (Value.slice l18.a l18.n l18.c) ∧
                        nilW l18.a fun a19 => ixOk n2 l18.n (ixOk (1 : Int) 2 (∃ n20 : Int, rd h3 (Addr.add (Addr.add a19 (Int.toNat n2 * 2)) (Int.toNat (1 : Int) * 1)) = some (Value.int .i64 n20) ∧
                            J4 [(Value.bool (decide (n20 < g2_b)))] h3))) else
                      (J4 [(Value.bool false)] h3))))))))) else
      (J4 [(Value.bool false)] h3))) → X1 [(Value.int .i64 n2)] h3) →
X1 [(Value.int .i64 (0 : Int))] h
def A_liveryref14_Edges_at : Ann := (.mk none ⟨[], []⟩ .nil (.mk none ⟨[], []⟩ .nil (.mk none ⟨[], []⟩ (.mk none ⟨[], []⟩ (.mk none ⟨[0, 1, 2], [(7, (.c (.int .i64)))]⟩ (.mk none ⟨[], []⟩ (.mk none ⟨[], []⟩ (.mk (some ⟨[0, 1, 2, 7], [(50, (.c .bool))]⟩) ⟨[], []⟩ .nil .nil) .nil) .nil) .nil) .nil) .nil)))
theorem E_liveryref14_Edges_at (g0_e : Option Addr) (g1_a : Int) (g2_b : Int) (h : Hp) (Q : List Value → Hp → Prop) : cw PP 54 (fun _ => []) (bodyOf Try.f52) A_liveryref14_Edges_at (finQ PP (Try.f52.results.toList) Q) (argFr [(Value.pointer g0_e), (Value.int .i64 g1_a), (Value.int .i64 g2_b)]) h = F_liveryref14_Edges_at g0_e g1_a g2_b h Q := by kernel_rfl
theorem O_liveryref14_Edges_at (g0_e : Option Addr) (g1_a : Int) (g2_b : Int) {h : Hp} {Q : List Value → Hp → Prop} (H : F_liveryref14_Edges_at g0_e g1_a g2_b h Q) : S_liveryref14_Edges_at g0_e g1_a g2_b h Q :=
  fn_of_cw (hs := (fun _ => [])) (ann := A_liveryref14_Edges_at) (args := [(Value.pointer g0_e), (Value.int .i64 g1_a), (Value.int .i64 g2_b)]) mixedPP Try.func52 (c := bodyOf Try.f52) (by kernel_rfl) (by kernel_rfl) (by kernel_rfl) (Eq.mpr (E_liveryref14_Edges_at g0_e g1_a g2_b h Q) H)
def F_liveryref14_Edges_Has (g0_e : Option Addr) (g1_a : Int) (g2_b : Int) (h : Hp) (Q : List Value → Hp → Prop) : Prop :=
S_liveryref14_Edges_at g0_e g1_a g2_b h fun (vs1 : List Value) (h2 : Hp) =>
∃ n3 : Int, vs1 = [(Value.int .i64 n3)] ∧
nilW g0_e fun a4 => ∃ l5 : Sl, rd h2 (Addr.add a4 1) = some (Value.slice l5.a l5.n l5.c) ∧
(if (decide (n3 < (l5.n : Int))) = true then (nilW g0_e fun a6 => ∃ l7 : Sl, rd h2 (Addr.add a6 1) = some (Value.slice l7.a l7.n l7.c) ∧
    nilW l7.a fun a8 => ixOk n3 l7.n (ixOk (0 : Int) 2 (∃ n9 : Int, rd h2 (Addr.add (Addr.add a8 (Int.toNat n3 * 2)) (Int.toNat (0 : Int) * 1)) = some (Value.int .i64 n9) ∧
        (if (n9 == g1_a) = true then (nilW g0_e fun a10 => ∃ l11 : Sl, rd h2 (Addr.add a10 1) = some (Value.slice l11.a l11.n l11.c) ∧
            nilW l11.a fun a12 => ixOk n3 l11.n (ixOk (1 : Int) 2 (∃ n13 : Int, rd h2 (Addr.add (Addr.add a12 (Int.toNat n3 * 2)) (Int.toNat (1 : Int) * 1)) = some (Value.int .i64 n13) ∧
                Q [(Value.bool (n13 == g2_b))] h2))) else
          (Q [(Value.bool false)] h2))))) else
  (Q [(Value.bool false)] h2))
def A_liveryref14_Edges_Has : Ann := .nil
theorem E_liveryref14_Edges_Has (g0_e : Option Addr) (g1_a : Int) (g2_b : Int) (h : Hp) (Q : List Value → Hp → Prop) : cw PP 43 (fun _ => []) (bodyOf Try.f51) A_liveryref14_Edges_Has (finQ PP (Try.f51.results.toList) Q) (argFr [(Value.pointer g0_e), (Value.int .i64 g1_a), (Value.int .i64 g2_b)]) h = F_liveryref14_Edges_Has g0_e g1_a g2_b h Q := by kernel_rfl
theorem O_liveryref14_Edges_Has (g0_e : Option Addr) (g1_a : Int) (g2_b : Int) {h : Hp} {Q : List Value → Hp → Prop} (H : F_liveryref14_Edges_Has g0_e g1_a g2_b h Q) : S_liveryref14_Edges_Has g0_e g1_a g2_b h Q :=
  fn_of_cw (hs := (fun _ => [])) (ann := A_liveryref14_Edges_Has) (args := [(Value.pointer g0_e), (Value.int .i64 g1_a), (Value.int .i64 g2_b)]) mixedPP Try.func51 (c := bodyOf Try.f51) (by kernel_rfl) (by kernel_rfl) (by kernel_rfl) (Eq.mpr (E_liveryref14_Edges_Has g0_e g1_a g2_b h Q) H)
def F_liveryref14_Edges_Add (g0_e : Option Addr) (g1_a : Int) (g2_b : Int) (h : Hp) (Q : List Value → Hp → Prop) : Prop :=
∀ J1 : List Value → Hp → Prop, (∀ b2 : Bool, ∀ h3 : Hp, ((if b2 = true then
      (Q [(Value.bool false)] h3) else
      (S_liveryref14_Edges_at g0_e g1_a g2_b h3 fun (vs4 : List Value) (h5 : Hp) =>
        ∃ n6 : Int, vs4 = [(Value.int .i64 n6)] ∧
        ∀ J7 : List Value → Hp → Prop, (∀ h8 : Hp, (Q [(Value.bool true)] h8) → J7 [] h8) →
        nilW g0_e fun a9 => ∃ l10 : Sl, rd h5 (Addr.add a9 1) = some (Value.slice l10.a l10.n l10.c) ∧
        (0 ≤ n6 ∧ n6 ≤ (l10.c : Nat)) ∧ nilW g0_e fun a11 => ∃ l12 : Sl, rd h5 (Addr.add a11 1) = some (Value.slice l12.a l12.n l12.c) ∧
        (0 ≤ n6 ∧ n6 ≤ (l12.n : Nat)) ∧ (wth (Array.push h5 (Obj.cells #[] T_2_int)) fun h13 =>
          rd h13 (Addr.add a11 1) = some (Value.slice l12.a l12.n l12.c) ∧ rd h13 (Addr.add a9 1) = some (Value.slice l10.a l10.n l10.c) ∧ (∃ cs25 : List Value, cellsAt h13 (slAd l10.a 0 l10.c 2) (((Int.toNat n6) - 0) * 2) cs25 ∧ appS PP T_2_int 16 2 h13 ⟨(some (Addr.mk (Array.size h5) 0 none)), 0, 0⟩ ((Int.toNat n6) - 0) cs25 fun (l14 : Sl) (h15 : Hp) =>
            rd h15 (Addr.add a11 1) = some (Value.slice l12.a l12.n l12.c) ∧ wth (Array.push h15 (Obj.cells #[(Value.int .i64 g1_a), (Value.int .i64 g2_b)] T_2_int)) fun h16 =>
            rd h16 (Addr.add a11 1) = some (Value.slice l12.a l12.n l12.c) ∧ ∃ cs24 : List Value, cellsAt h16 (some (Addr.mk (Array.size h15) 0 none)) (1 * 2) cs24 ∧ appS PP T_2_int 16 2 h16 ⟨l14.a, l14.n, l14.c⟩ 1 cs24 fun (l17 : Sl) (h18 : Hp) =>
            rd h18 (Addr.add a11 1) = some (Value.slice l12.a l12.n l12.c) ∧ ∃ cs23 : List Value, cellsAt h18 (slAd l12.a (Int.toNat n6) l12.c 2) ((l12.n - (Int.toNat n6)) * 2) cs23 ∧ appS PP T_2_int 16 2 h18 ⟨l17.a, l17.n, l17.c⟩ (l12.n - (Int.toNat n6)) cs23 fun (l19 : Sl) (h20 : Hp) =>
            nilW g0_e fun a21 => stOk h20 (Addr.add a21 1) 1 ∧ wth (wrs h20 (Addr.add a21 1) 0 [(Value.slice l19.a l19.n l19.c)]) fun h22 =>
            J7 [] h22) ∧
          (wth (Array.push h13 (Obj.cells #[(Value.int .i64 g1_a), (Value.int .i64 g2_b)] T_2_int)) fun h26 =>
            rd h26 (Addr.add a11 1) = some (Value.slice l12.a l12.n l12.c) ∧ rd h26 (Addr.add a9 1) = some (Value.slice l10.a l10.n l10.c) ∧ ∃ cs37 : List Value, cellsAt h26 (slAd l10.a 0 l10.c 2) (((Int.toNat n6) - 0) * 2) cs37 ∧ appS PP T_2_int 16 2 h26 ⟨(some (Addr.mk (Array.size h5) 0 none)), 0, 0⟩ ((Int.toNat n6) - 0) cs37 fun (l27 : Sl) (h28 : Hp) =>
            rd h28 (Addr.add a11 1) = some (Value.slice l12.a l12.n l12.c) ∧ ∃ cs36 : List Value, cellsAt h28 (some (Addr.mk (Array.size h13) 0 none)) (1 * 2) cs36 ∧ appS PP T_2_int 16 2 h28 ⟨l27.a, l27.n, l27.c⟩ 1 cs36 fun (l29 : Sl) (h30 : Hp) =>
            rd h30 (Addr.add a11 1) = some (Value.slice l12.a l12.n l12.c) ∧ ∃ cs35 : List Value, cellsAt h30 (slAd l12.a (Int.toNat n6) l12.c 2) ((l12.n - (Int.toNat n6)) * 2) cs35 ∧ appS PP T_2_int 16 2 h30 ⟨l29.a, l29.n, l29.c⟩ (l12.n - (Int.toNat n6)) cs35 fun (l31 : Sl) (h32 : Hp) =>
            nilW g0_e fun a33 => stOk h32 (Addr.add a33 1) 1 ∧ wth (wrs h32 (Addr.add a33 1) 0 [(Value.slice l31.a l31.n l31.c)]) fun h34 =>
            J7 [] h34)) ∧
        (wth (Array.push h5 (Obj.cells #[(Value.int .i64 g1_a), (Value.int .i64 g2_b)] T_2_int)) fun h38 =>
          rd h38 (Addr.add a11 1) = some (Value.slice l12.a l12.n l12.c) ∧ rd h38 (Addr.add a9 1) = some (Value.slice l10.a l10.n l10.c) ∧ wth (Array.push h38 (Obj.cells #[] T_2_int)) fun h39 =>
          rd h39 (Addr.add a11 1) = some (Value.slice l12.a l12.n l12.c) ∧ rd h39 (Addr.add a9 1) = some (Value.slice l10.a l10.n l10.c) ∧ ∃ cs50 : List Value, cellsAt h39 (slAd l10.a 0 l10.c 2) (((Int.toNat n6) - 0) * 2) cs50 ∧ appS PP T_2_int 16 2 h39 ⟨(some (Addr.mk (Array.size h38) 0 none)), 0, 0⟩ ((Int.toNat n6) - 0) cs50 fun (l40 : Sl) (h41 : Hp) =>
          rd h41 (Addr.add a11 1) = some (Value.slice l12.a l12.n l12.c) ∧ ∃ cs49 : List Value, cellsAt h41 (some (Addr.mk (Array.size h5) 0 none)) (1 * 2) cs49 ∧ appS PP T_2_int 16 2 h41 ⟨l40.a, l40.n, l40.c⟩ 1 cs49 fun (l42 : Sl) (h43 : Hp) =>
          rd h43 (Addr.add a11 1) = some (Value.slice l12.a l12.n l12.c) ∧ ∃ cs48 : List Value, cellsAt h43 (slAd l12.a (Int.toNat n6) l12.c 2) ((l12.n - (Int.toNat n6)) * 2) cs48 ∧ appS PP T_2_int 16 2 h43 ⟨l42.a, l42.n, l42.c⟩ (l12.n - (Int.toNat n6)) cs48 fun (l44 : Sl) (h45 : Hp) =>
          nilW g0_e fun a46 => stOk h45 (Addr.add a46 1) 1 ∧ wth (wrs h45 (Addr.add a46 1) 0 [(Value.slice l44.a l44.n l44.c)]) fun h47 =>
          J7 [] h47)))) → J1 [(Value.bool b2)] h3) →
nilW g0_e fun a51 => ∃ p52 : Option Addr, rd h (Addr.add a51 0) = some (Value.pointer p52) ∧
S_liveryref08_Log_Beside p52 g1_a g2_b h fun (vs53 : List Value) (h54 : Hp) =>
∃ b55 : Bool, vs53 = [(Value.bool b55)] ∧
(if (!b55) = true then (J1 [(Value.bool true)] h54) else
  (S_liveryref14_Edges_Has g0_e g1_a g2_b h54 fun (vs56 : List Value) (h57 : Hp) =>
    ∃ b58 : Bool, vs56 = [(Value.bool b58)] ∧
    J1 [(Value.bool b58)] h57))
def A_liveryref14_Edges_Add : Ann := (.mk none ⟨[], []⟩ .nil (.mk none ⟨[], []⟩ (.mk none ⟨[], []⟩ (.mk (some ⟨[0, 1, 2], [(21, (.c .bool))]⟩) ⟨[], []⟩ .nil .nil) .nil) (.mk none ⟨[], []⟩ .nil (.mk none ⟨[], []⟩ (.mk (some ⟨[], []⟩) ⟨[], []⟩ .nil .nil) .nil))))
theorem E_liveryref14_Edges_Add (g0_e : Option Addr) (g1_a : Int) (g2_b : Int) (h : Hp) (Q : List Value → Hp → Prop) : cw PP 49 (fun _ => []) (bodyOf Try.f29) A_liveryref14_Edges_Add (finQ PP (Try.f29.results.toList) Q) (argFr [(Value.pointer g0_e), (Value.int .i64 g1_a), (Value.int .i64 g2_b)]) h = F_liveryref14_Edges_Add g0_e g1_a g2_b h Q := by kernel_rfl
theorem O_liveryref14_Edges_Add (g0_e : Option Addr) (g1_a : Int) (g2_b : Int) {h : Hp} {Q : List Value → Hp → Prop} (H : F_liveryref14_Edges_Add g0_e g1_a g2_b h Q) : S_liveryref14_Edges_Add g0_e g1_a g2_b h Q :=
  fn_of_cw (hs := (fun _ => [])) (ann := A_liveryref14_Edges_Add) (args := [(Value.pointer g0_e), (Value.int .i64 g1_a), (Value.int .i64 g2_b)]) mixedPP Try.func29 (c := bodyOf Try.f29) (by kernel_rfl) (by kernel_rfl) (by kernel_rfl) (Eq.mpr (E_liveryref14_Edges_Add g0_e g1_a g2_b h Q) H)
def F_liveryref14_Edges_Old (g0_e : Option Addr) (g1_xid : Int) (h : Hp) (Q : List Value → Hp → Prop) : Prop :=
∀ X1 : List Value → Hp → Prop, (∀ n2 : Int, ∀ h3 : Hp, (nilW g0_e fun a4 => ∃ l5 : Sl, rd h3 (Addr.add a4 2) = some (Value.slice l5.a l5.n l5.c) ∧
    (if (decide (n2 < (l5.n : Int))) = true then
      (nilW g0_e fun a6 => ∃ l7 : Sl, rd h3 (Addr.add a6 2) = some (Value.slice l7.a l7.n l7.c) ∧
        nilW l7.a fun a8 => ixOk n2 l7.n (ixOk (0 : Int) 2 (∃ n9 : Int, rd h3 (Addr.add (Addr.add a8 (Int.toNat n2 * 2)) (Int.toNat (0 : Int) * 1)) = some (Value.int .i64 n9) ∧
            (if (n9 == g1_xid) = true then
              (nilW g0_e fun a10 => ∃ l11 : Sl, rd h3 (Addr.add a10 2) = some (Value.slice l11.a l11.n l11.c) ∧
                nilW l11.a fun a12 => ixOk n2 l11.n (ixOk (1 : Int) 2 (∃ n13 : Int, rd h3 (Addr.add (Addr.add a12 (Int.toNat n2 * 2)) (Int.toNat (1 : Int) * 1)) = some (Value.int .i64 n13) ∧
                    Q [(Value.int .i64 n13)] h3))) else
              (X1 [(Value.int .i64 (IntKind.wrap .i64 (n2 + (1 : Int))))] h3))))) else
      (Q [(Value.int .i64 (0 : Int))] h3))) → X1 [(Value.int .i64 n2)] h3) →
X1 [(Value.int .i64 (0 : Int))] h
def A_liveryref14_Edges_Old : Ann := (.mk none ⟨[], []⟩ .nil (.mk none ⟨[], []⟩ (.mk none ⟨[], []⟩ .nil (.mk none ⟨[], []⟩ (.mk none ⟨[0, 1], [(5, (.c (.int .i64)))]⟩ .nil .nil) .nil)) .nil))
theorem E_liveryref14_Edges_Old (g0_e : Option Addr) (g1_xid : Int) (h : Hp) (Q : List Value → Hp → Prop) : cw PP 33 (fun _ => []) (bodyOf Try.f54) A_liveryref14_Edges_Old (finQ PP (Try.f54.results.toList) Q) (argFr [(Value.pointer g0_e), (Value.int .i64 g1_xid)]) h = F_liveryref14_Edges_Old g0_e g1_xid h Q := by kernel_rfl
theorem O_liveryref14_Edges_Old (g0_e : Option Addr) (g1_xid : Int) {h : Hp} {Q : List Value → Hp → Prop} (H : F_liveryref14_Edges_Old g0_e g1_xid h Q) : S_liveryref14_Edges_Old g0_e g1_xid h Q :=
  fn_of_cw (hs := (fun _ => [])) (ann := A_liveryref14_Edges_Old) (args := [(Value.pointer g0_e), (Value.int .i64 g1_xid)]) mixedPP Try.func54 (c := bodyOf Try.f54) (by kernel_rfl) (by kernel_rfl) (by kernel_rfl) (Eq.mpr (E_liveryref14_Edges_Old g0_e g1_xid h Q) H)
def F_liveryref14_Edges_OldIn (g0_e : Option Addr) (g1_b : Int) (g2_csn : Int) (h : Hp) (Q : List Value → Hp → Prop) : Prop :=
nilW g0_e fun a1 => ∃ p2 : Option Addr, rd h (Addr.add a1 0) = some (Value.pointer p2) ∧
S_liveryref08_Log_Get p2 g1_b h fun (vs3 : List Value) (h4 : Hp) =>
∃ n5 : Int, ∃ n6 : Int, ∃ n7 : Int, ∃ b8 : Bool, vs3 = [(Value.agg #[(Value.int .i64 n5), (Value.int .i64 n6), (Value.int .i64 n7), (Value.bool b8)])] ∧
wth (Array.push h4 (Obj.cells #[(Value.int .i64 (0 : Int)), (Value.int .i64 (0 : Int)), (Value.int .i64 (0 : Int)), (Value.bool false)] T_liveryref08_Tx)) fun h9 =>
stOk h9 (Addr.mk (Array.size h4) 0 none) 4 ∧ wth (wrs h9 (Addr.mk (Array.size h4) 0 none) 0 [(Value.int .i64 n5), (Value.int .i64 n6), (Value.int .i64 n7), (Value.bool b8)]) fun h10 =>
∀ J11 : List Value → Hp → Prop, (∀ b12 : Bool, ∀ h13 : Hp, ((if b12 = true then
      (Q [(Value.bool false)] h13) else
      (∀ X14 : List Value → Hp → Prop, (∀ l15 : Sl, ∀ n16 : Int, ∀ h17 : Hp, (nilW g0_e fun a18 => ∃ l19 : Sl, rd h17 (Addr.add a18 2) = some (Value.slice l19.a l19.n l19.c) ∧
            (if (decide (n16 < (l19.n : Int))) = true then
              (∀ J20 : List Value → Hp → Prop, (∀ l21 : Sl, ∀ h22 : Hp, (X14 [(Value.slice l21.a l21.n l21.c), (Value.int .i64 (IntKind.wrap .i64 (n16 + (1 : Int))))] h22) → J20 [(Value.slice l21.a l21.n l21.c)] h22) →
                nilW g0_e fun a23 => ∃ l24 : Sl, rd h17 (Addr.add a23 2) = some (Value.slice l24.a l24.n l24.c) ∧
                nilW l24.a fun a25 => ixOk n16 l24.n (ixOk (0 : Int) 2 (∃ n26 : Int, rd h17 (Addr.add (Addr.add a25 (Int.toNat n16 * 2)) (Int.toNat (0 : Int) * 1)) = some (Value.int .i64 n26) ∧
                    (if (n26 != g1_b) = true then
                      (nilW g0_e fun a27 => ∃ l28 : Sl, rd h17 (Addr.add a27 2) = some (Value.slice l28.a l28.n l28.c) ∧
                        nilW l28.a fun a29 => ixOk n16 l28.n (∃ n30 : Int, rd h17 (Addr.add (Addr.add a29 (Int.toNat n16 * 2)) 0) = some (Value.int .i64 n30) ∧ ∃ n31 : Int, rd h17 (Addr.add (Addr.add a29 (Int.toNat n16 * 2)) 1) = some (Value.int .i64 n31) ∧ wth (Array.push h17 (Obj.cells #[(Value.int .i64 n30), (Value.int .i64 n31)] T_2_int)) fun h32 =>
                          ∃ cs35 : List Value, cellsAt h32 (some (Addr.mk (Array.size h17) 0 none)) (1 * 2) cs35 ∧ appS PP T_2_int 16 2 h32 ⟨l15.a, l15.n, l15.c⟩ 1 cs35 fun (l33 : Sl) (h34 : Hp) =>
                          J20 [(Value.slice l33.a l33.n l33.c)] h34)) else
                      (J20 [(Value.slice l15.a l15.n l15.c)] h17))))) else
              (wth (Array.push h17 (Obj.cells #[(Value.int .i64 g1_b), (Value.int .i64 g2_csn)] T_2_int)) fun h36 =>
                ∃ cs41 : List Value, cellsAt h36 (some (Addr.mk (Array.size h17) 0 none)) (1 * 2) cs41 ∧ appS PP T_2_int 16 2 h36 ⟨l15.a, l15.n, l15.c⟩ 1 cs41 fun (l37 : Sl) (h38 : Hp) =>
                nilW g0_e fun a39 => stOk h38 (Addr.add a39 2) 1 ∧ wth (wrs h38 (Addr.add a39 2) 0 [(Value.slice l37.a l37.n l37.c)]) fun h40 =>
                Q [(Value.bool true)] h40))) → X14 [(Value.slice l15.a l15.n l15.c), (Value.int .i64 n16)] h17) →
        X14 [(Value.slice none 0 0), (Value.int .i64 (0 : Int))] h13))) → J11 [(Value.bool b12)] h13) →
∃ n42 : Int, rd h10 (Addr.add (Addr.mk (Array.size h4) 0 none) 0) = some (Value.int .i64 n42) ∧
(if (n42 != (1 : Int)) = true then (∃ n43 : Int, rd h10 (Addr.add (Addr.mk (Array.size h4) 0 none) 0) = some (Value.int .i64 n43) ∧
    (if (n43 != (2 : Int)) = true then (J11 [(Value.bool true)] h10) else
      (∃ n44 : Int, rd h10 (Addr.add (Addr.mk (Array.size h4) 0 none) 1) = some (Value.int .i64 n44) ∧
        (if (decide (g2_csn ≤ n44)) = true then (J11 [(Value.bool true)] h10) else
          (S_liveryref14_Edges_Old g0_e g1_b h10 fun (vs45 : List Value) (h46 : Hp) =>
            ∃ n47 : Int, vs45 = [(Value.int .i64 n47)] ∧
            J11 [(Value.bool (decide (g2_csn ≤ n47)))] h46))))) else
  (∃ n48 : Int, rd h10 (Addr.add (Addr.mk (Array.size h4) 0 none) 1) = some (Value.int .i64 n48) ∧
    (if (decide (g2_csn ≤ n48)) = true then (J11 [(Value.bool true)] h10) else
      (S_liveryref14_Edges_Old g0_e g1_b h10 fun (vs49 : List Value) (h50 : Hp) =>
        ∃ n51 : Int, vs49 = [(Value.int .i64 n51)] ∧
        J11 [(Value.bool (decide (g2_csn ≤ n51)))] h50))))
def A_liveryref14_Edges_OldIn : Ann := (.mk none ⟨[], []⟩ .nil (.mk none ⟨[], []⟩ .nil (.mk none ⟨[], []⟩ (.mk none ⟨[], []⟩ (.mk (some ⟨[0, 1, 2], [(36, (.c .bool))]⟩) ⟨[], []⟩ .nil .nil) .nil) (.mk none ⟨[], []⟩ .nil (.mk none ⟨[], []⟩ (.mk none ⟨[], []⟩ .nil (.mk none ⟨[], []⟩ (.mk none ⟨[0, 1, 2], [(8, (.c .sl)), (9, (.c (.int .i64)))]⟩ (.mk none ⟨[], []⟩ .nil (.mk none ⟨[], []⟩ (.mk (some ⟨[0, 1, 2, 9], [(8, (.c .sl))]⟩) ⟨[], []⟩ .nil .nil) .nil)) .nil) .nil)) .nil)))))
theorem E_liveryref14_Edges_OldIn (g0_e : Option Addr) (g1_b : Int) (g2_csn : Int) (h : Hp) (Q : List Value → Hp → Prop) : cw PP 75 (fun _ => []) (bodyOf Try.f30) A_liveryref14_Edges_OldIn (finQ PP (Try.f30.results.toList) Q) (argFr [(Value.pointer g0_e), (Value.int .i64 g1_b), (Value.int .i64 g2_csn)]) h = F_liveryref14_Edges_OldIn g0_e g1_b g2_csn h Q := by kernel_rfl
theorem O_liveryref14_Edges_OldIn (g0_e : Option Addr) (g1_b : Int) (g2_csn : Int) {h : Hp} {Q : List Value → Hp → Prop} (H : F_liveryref14_Edges_OldIn g0_e g1_b g2_csn h Q) : S_liveryref14_Edges_OldIn g0_e g1_b g2_csn h Q :=
  fn_of_cw (hs := (fun _ => [])) (ann := A_liveryref14_Edges_OldIn) (args := [(Value.pointer g0_e), (Value.int .i64 g1_b), (Value.int .i64 g2_csn)]) mixedPP Try.func30 (c := bodyOf Try.f30) (by kernel_rfl) (by kernel_rfl) (by kernel_rfl) (Eq.mpr (E_liveryref14_Edges_OldIn g0_e g1_b g2_csn h Q) H)
def F_liveryref14_Edges_In (g0_e : Option Addr) (g1_xid : Int) (h : Hp) (Q : List Value → Hp → Prop) : Prop :=
∀ X1 : List Value → Hp → Prop, (∀ l2 : Sl, ∀ n3 : Int, ∀ h4 : Hp, (nilW g0_e fun a5 => ∃ l6 : Sl, rd h4 (Addr.add a5 1) = some (Value.slice l6.a l6.n l6.c) ∧
    (if (decide (n3 < (l6.n : Int))) = true then
      (∀ J7 : List Value → Hp → Prop, (∀ l8 : Sl, ∀ h9 : Hp, (X1 [(Value.slice l8.a l8.n l8.c), (Value.int .i64 (IntKind.wrap .i64 (n3 + (1 : Int))))] h9) → J7 [(Value.slice l8.a l8.n l8.c)] h9) →
        nilW g0_e fun a10 => ∃ l11 : Sl, rd h4 (Addr.add a10 1) = some (Value.slice l11.a l11.n l11.c) ∧
        nilW l11.a fun a12 => ixOk n3 l11.n (ixOk (1 : Int) 2 (∃ n13 : Int, rd h4 (Addr.add (Addr.add a12 (Int.toNat n3 * 2)) (Int.toNat (1 : Int) * 1)) = some (Value.int .i64 n13) ∧
            (if (n13 == g1_xid) = true then
              (nilW g0_e fun a14 => ∃ l15 : Sl, rd h4 (Addr.add a14 1) = some (Value.slice l15.a l15.n l15.c) ∧
                nilW l15.a fun a16 => ixOk n3 l15.n (ixOk (0 : Int) 2 (∃ n17 : Int, rd h4 (Addr.add (Addr.add a16 (Int.toNat n3 * 2)) (Int.toNat (0 : Int) * 1)) = some (Value.int .i64 n17) ∧
                    wth (Array.push h4 (Obj.cells #[(Value.int .i64 n17)] T_int)) fun h18 =>
                    ∃ cs21 : List Value, cellsAt h18 (some (Addr.mk (Array.size h4) 0 none)) (1 * 1) cs21 ∧ appS PP T_int 8 1 h18 ⟨l2.a, l2.n, l2.c⟩ 1 cs21 fun (l19 : Sl) (h20 : Hp) =>
                    J7 [(Value.slice l19.a l19.n l19.c)] h20))) else
              (J7 [(Value.slice l2.a l2.n l2.c)] h4))))) else
      (Q [(Value.slice l2.a l2.n l2.c)] h4))) → X1 [(Value.slice l2.a l2.n l2.c), (Value.int .i64 n3)] h4) →
X1 [(Value.slice none 0 0), (Value.int .i64 (0 : Int))] h
def A_liveryref14_Edges_In : Ann := (.mk none ⟨[], []⟩ .nil (.mk none ⟨[], []⟩ .nil (.mk none ⟨[], []⟩ (.mk none ⟨[], []⟩ .nil (.mk none ⟨[], []⟩ (.mk none ⟨[0, 1], [(5, (.c .sl)), (6, (.c (.int .i64)))]⟩ (.mk none ⟨[], []⟩ .nil (.mk none ⟨[], []⟩ (.mk (some ⟨[0, 1, 6], [(5, (.c .sl))]⟩) ⟨[], []⟩ .nil .nil) .nil)) .nil) .nil)) .nil)))
theorem E_liveryref14_Edges_In (g0_e : Option Addr) (g1_xid : Int) (h : Hp) (Q : List Value → Hp → Prop) : cw PP 38 (fun _ => []) (bodyOf Try.f56) A_liveryref14_Edges_In (finQ PP (Try.f56.results.toList) Q) (argFr [(Value.pointer g0_e), (Value.int .i64 g1_xid)]) h = F_liveryref14_Edges_In g0_e g1_xid h Q := by kernel_rfl
theorem O_liveryref14_Edges_In (g0_e : Option Addr) (g1_xid : Int) {h : Hp} {Q : List Value → Hp → Prop} (H : F_liveryref14_Edges_In g0_e g1_xid h Q) : S_liveryref14_Edges_In g0_e g1_xid h Q :=
  fn_of_cw (hs := (fun _ => [])) (ann := A_liveryref14_Edges_In) (args := [(Value.pointer g0_e), (Value.int .i64 g1_xid)]) mixedPP Try.func56 (c := bodyOf Try.f56) (by kernel_rfl) (by kernel_rfl) (by kernel_rfl) (Eq.mpr (E_liveryref14_Edges_In g0_e g1_xid h Q) H)
def F_liveryref14_Edges_Out (g0_e : Option Addr) (g1_xid : Int) (h : Hp) (Q : List Value → Hp → Prop) : Prop :=
∀ X1 : List Value → Hp → Prop, (∀ l2 : Sl, ∀ n3 : Int, ∀ h4 : Hp, (nilW g0_e fun a5 => ∃ l6 : Sl, rd h4 (Addr.add a5 1) = some (Value.slice l6.a l6.n l6.c) ∧
    (if (decide (n3 < (l6.n : Int))) = true then
      (∀ J7 : List Value → Hp → Prop, (∀ l8 : Sl, ∀ h9 : Hp, (X1 [(Value.slice l8.a l8.n l8.c), (Value.int .i64 (IntKind.wrap .i64 (n3 + (1 : Int))))] h9) → J7 [(Value.slice l8.a l8.n l8.c)] h9) →
        nilW g0_e fun a10 => ∃ l11 : Sl, rd h4 (Addr.add a10 1) = some (Value.slice l11.a l11.n l11.c) ∧
        nilW l11.a fun a12 => ixOk n3 l11.n (ixOk (0 : Int) 2 (∃ n13 : Int, rd h4 (Addr.add (Addr.add a12 (Int.toNat n3 * 2)) (Int.toNat (0 : Int) * 1)) = some (Value.int .i64 n13) ∧
            (if (n13 == g1_xid) = true then
              (nilW g0_e fun a14 => ∃ l15 : Sl, rd h4 (Addr.add a14 1) = some (Value.slice l15.a l15.n l15.c) ∧
                nilW l15.a fun a16 => ixOk n3 l15.n (ixOk (1 : Int) 2 (∃ n17 : Int, rd h4 (Addr.add (Addr.add a16 (Int.toNat n3 * 2)) (Int.toNat (1 : Int) * 1)) = some (Value.int .i64 n17) ∧
                    wth (Array.push h4 (Obj.cells #[(Value.int .i64 n17)] T_int)) fun h18 =>
                    ∃ cs21 : List Value, cellsAt h18 (some (Addr.mk (Array.size h4) 0 none)) (1 * 1) cs21 ∧ appS PP T_int 8 1 h18 ⟨l2.a, l2.n, l2.c⟩ 1 cs21 fun (l19 : Sl) (h20 : Hp) =>
                    J7 [(Value.slice l19.a l19.n l19.c)] h20))) else
              (J7 [(Value.slice l2.a l2.n l2.c)] h4))))) else
      (Q [(Value.slice l2.a l2.n l2.c)] h4))) → X1 [(Value.slice l2.a l2.n l2.c), (Value.int .i64 n3)] h4) →
X1 [(Value.slice none 0 0), (Value.int .i64 (0 : Int))] h
def A_liveryref14_Edges_Out : Ann := (.mk none ⟨[], []⟩ .nil (.mk none ⟨[], []⟩ .nil (.mk none ⟨[], []⟩ (.mk none ⟨[], []⟩ .nil (.mk none ⟨[], []⟩ (.mk none ⟨[0, 1], [(5, (.c .sl)), (6, (.c (.int .i64)))]⟩ (.mk none ⟨[], []⟩ .nil (.mk none ⟨[], []⟩ (.mk (some ⟨[0, 1, 6], [(5, (.c .sl))]⟩) ⟨[], []⟩ .nil .nil) .nil)) .nil) .nil)) .nil)))
theorem E_liveryref14_Edges_Out (g0_e : Option Addr) (g1_xid : Int) (h : Hp) (Q : List Value → Hp → Prop) : cw PP 38 (fun _ => []) (bodyOf Try.f57) A_liveryref14_Edges_Out (finQ PP (Try.f57.results.toList) Q) (argFr [(Value.pointer g0_e), (Value.int .i64 g1_xid)]) h = F_liveryref14_Edges_Out g0_e g1_xid h Q := by kernel_rfl
theorem O_liveryref14_Edges_Out (g0_e : Option Addr) (g1_xid : Int) {h : Hp} {Q : List Value → Hp → Prop} (H : F_liveryref14_Edges_Out g0_e g1_xid h Q) : S_liveryref14_Edges_Out g0_e g1_xid h Q :=
  fn_of_cw (hs := (fun _ => [])) (ann := A_liveryref14_Edges_Out) (args := [(Value.pointer g0_e), (Value.int .i64 g1_xid)]) mixedPP Try.func57 (c := bodyOf Try.f57) (by kernel_rfl) (by kernel_rfl) (by kernel_rfl) (Eq.mpr (E_liveryref14_Edges_Out g0_e g1_xid h Q) H)
def F_liveryref14_put (g0_l : Sl) (g1_n : Int) (h : Hp) (Q : List Value → Hp → Prop) : Prop :=
∀ X1 : List Value → Hp → Prop, (∀ n2 : Int, ∀ h3 : Hp, (∀ J4 : List Value → Hp → Prop, (∀ b5 : Bool, ∀ h6 : Hp, ((if b5 = true then
          (X1 [(Value.int .i64 (IntKind.wrap .i64 (n2 + (1 : Int))))] h6) else
          (∀ J7 : List Value → Hp → Prop, (∀ b8 : Bool, ∀ h9 : Hp, ((if b8 = true then
                  (Q [(Value.slice g0_l.a g0_l.n g0_l.c)] h9) else
                  ((0 ≤ n2 ∧ n2 ≤ (g0_l.c : Nat)) ∧ (0 ≤ n2 ∧ n2 ≤ (g0_l.n : Nat)) ∧ (wth (Array.push h9 (Obj.cells #[] T_int)) fun h10 =>
                      (∃ cs20 : List Value, cellsAt h10 (slAd g0_l.a 0 g0_l.c 1) (((Int.toNat n2) - 0) * 1) cs20 ∧ appS PP T_int 8 1 h10 ⟨(some (Addr.mk (Array.size h9) 0 none)), 0, 0⟩ ((Int.toNat n2) - 0) cs20 fun (l11 : Sl) (h12 : Hp) =>
                        wth (Array.push h12 (Obj.cells #[(Value.int .i64 g1_n)] T_int)) fun h13 =>
                        ∃ cs19 : List Value, cellsAt h13 (some (Addr.mk (Array.size h12) 0 none)) (1 * 1) cs19 ∧ appS PP T_int 8 1 h13 ⟨l11.a, l11.n, l11.c⟩ 1 cs19 fun (l14 : Sl) (h15 : Hp) =>
                        ∃ cs18 : List Value, cellsAt h15 (slAd g0_l.a (Int.toNat n2) g0_l.c 1) ((g0_l.n - (Int.toNat n2)) * 1) cs18 ∧ appS PP T_int 8 1 h15 ⟨l14.a, l14.n, l14.c⟩ (g0_l.n - (Int.toNat n2)) cs18 fun (l16 : Sl) (h17 : Hp) =>
                        Q [(Value.slice l16.a l16.n l16.c)] h17) ∧
                      (wth (Array.push h10 (Obj.cells #[(Value.int .i64 g1_n)] T_int)) fun h21 =>
                        ∃ cs30 : List Value, cellsAt h21 (slAd g0_l.a 0 g0_l.c 1) (((Int.toNat n2) - 0) * 1) cs30 ∧ appS PP T_int 8 1 h21 ⟨(some (Addr.mk (Array.size h9) 0 none)), 0, 0⟩ ((Int.toNat n2) - 0) cs30 fun (l22 : Sl) (h23 : Hp) =>
                        ∃ cs29 : List Value, cellsAt h23 (some (Addr.mk (Array.size h10) 0 none)) (1 * 1) cs29 ∧ appS PP T_int 8 1 h23 ⟨l22.a, l22.n, l22.c⟩ 1 cs29 fun (l24 : Sl) (h25 : Hp) =>
                        ∃ cs28 : List Value, cellsAt h25 (slAd g0_l.a (Int.toNat n2) g0_l.c 1) ((g0_l.n - (Int.toNat n2)) * 1) cs28 ∧ appS PP T_int 8 1 h25 ⟨l24.a, l24.n, l24.c⟩ (g0_l.n - (Int.toNat n2)) cs28 fun (l26 : Sl) (h27 : Hp) =>
                        Q [(Value.slice l26.a l26.n l26.c)] h27)) ∧
                    (wth (Array.push h9 (Obj.cells #[(Value.int .i64 g1_n)] T_int)) fun h31 =>
                      wth (Array.push h31 (Obj.cells #[] T_int)) fun h32 =>
                      ∃ cs41 : List Value, cellsAt h32 (slAd g0_l.a 0 g0_l.c 1) (((Int.toNat n2) - 0) * 1) cs41 ∧ appS PP T_int 8 1 h32 ⟨(some (Addr.mk (Array.size h31) 0 none)), 0, 0⟩ ((Int.toNat n2) - 0) cs41 fun (l33 : Sl) (h34 : Hp) =>
                      ∃ cs40 : List Value, cellsAt h34 (some (Addr.mk (Array.size h9) 0 none)) (1 * 1) cs40 ∧ appS PP T_int 8 1 h34 ⟨l33.a, l33.n, l33.c⟩ 1 cs40 fun (l35 : Sl) (h36 : Hp) =>
                      ∃ cs39 : List Value, cellsAt h36 (slAd g0_l.a (Int.toNat n2) g0_l.c 1) ((g0_l.n - (Int.toNat n2)) * 1) cs39 ∧ appS PP T_int 8 1 h36 ⟨l35.a, l35.n, l35.c⟩ (g0_l.n - (Int.toNat n2)) cs39 fun (l37 : Sl) (h38 : Hp) =>
                      Q [(Value.slice l37.a l37.n l37.c)] h38)))) → J7 [(Value.bool b8)] h9) →
            (if (decide (n2 < (g0_l.n : Int))) = true then (nilW g0_l.a fun a42 => ixOk n2 g0_l.n (∃ n43 : Int, rd h6 (Addr.add a42 (Int.toNat n2 * 1)) = some (Value.int .i64 n43) ∧
                  J7 [(Value.bool (n43 == g1_n))] h6)) else
              (J7 [(Value.bool false)] h6))))) → J4 [(Value.bool b5)] h6) →
    (if (decide (n2 < (g0_l.n : Int))) = true then (nilW g0_l.a fun a44 => ixOk n2 g0_l.n (∃ n45 : Int, rd h3 (Addr.add a44 (Int.toNat n2 * 1)) = some (Value.int .i64 n45) ∧
          J4 [(Value.bool (decide (n45 < g1_n)))] h3)) else
      (J4 [(Value.bool false)] h3))) → X1 [(Value.int .i64 n2)] h3) →
X1 [(Value.int .i64 (0 : Int))] h
def A_liveryref14_put : Ann := (.mk none ⟨[], []⟩ .nil (.mk none ⟨[], []⟩ .nil (.mk none ⟨[], []⟩ (.mk none ⟨[], []⟩ (.mk none ⟨[0, 1], [(5, (.c (.int .i64)))]⟩ (.mk none ⟨[], []⟩ (.mk none ⟨[], []⟩ (.mk (some ⟨[0, 1, 5], [(17, (.c .bool))]⟩) ⟨[], []⟩ .nil .nil) .nil) .nil) .nil) .nil) (.mk none ⟨[], []⟩ (.mk none ⟨[], []⟩ (.mk (some ⟨[0, 1, 5], [(31, (.c .bool))]⟩) ⟨[], []⟩ .nil .nil) .nil) .nil))))
theorem E_liveryref14_put (g0_l : Sl) (g1_n : Int) (h : Hp) (Q : List Value → Hp → Prop) : cw PP 45 (fun _ => []) (bodyOf Try.f65) A_liveryref14_put (finQ PP (Try.f65.results.toList) Q) (argFr [(Value.slice g0_l.a g0_l.n g0_l.c), (Value.int .i64 g1_n)]) h = F_liveryref14_put g0_l g1_n h Q := by kernel_rfl
theorem O_liveryref14_put (g0_l : Sl) (g1_n : Int) {h : Hp} {Q : List Value → Hp → Prop} (H : F_liveryref14_put g0_l g1_n h Q) : S_liveryref14_put g0_l g1_n h Q :=
  fn_of_cw (hs := (fun _ => [])) (ann := A_liveryref14_put) (args := [(Value.slice g0_l.a g0_l.n g0_l.c), (Value.int .i64 g1_n)]) mixedPP Try.func65 (c := bodyOf Try.f65) (by kernel_rfl) (by kernel_rfl) (by kernel_rfl) (Eq.mpr (E_liveryref14_put g0_l g1_n h Q) H)
def F_liveryref14_Edges_Spoilt (g0_e : Option Addr) (g1_p : Int) (h : Hp) (Q : List Value → Hp → Prop) : Prop :=
wth (Array.push h (Obj.cells #[(Value.slice none 0 0), (Value.bool false)] T_liveryref14_Verdict)) fun h1 =>
wth (Array.push h1 (Obj.cells #[(Value.slice none 0 0), (Value.bool false)] T_liveryref14_Verdict)) fun h2 =>
S_liveryref14_Edges_In g0_e g1_p h2 fun (vs3 : List Value) (h4 : Hp) =>
∃ l5 : Sl, vs3 = [(Value.slice l5.a l5.n l5.c)] ∧
S_liveryref14_Edges_Out g0_e g1_p h4 fun (vs6 : List Value) (h7 : Hp) =>
∃ l8 : Sl, vs6 = [(Value.slice l8.a l8.n l8.c)] ∧
nilW g0_e fun a9 => ∃ p10 : Option Addr, rd h7 (Addr.add a9 0) = some (Value.pointer p10) ∧
S_liveryref08_Log_Get p10 g1_p h7 fun (vs11 : List Value) (h12 : Hp) =>
∃ n13 : Int, ∃ n14 : Int, ∃ n15 : Int, ∃ b16 : Bool, vs11 = [(Value.agg #[(Value.int .i64 n13), (Value.int .i64 n14), (Value.int .i64 n15), (Value.bool b16)])] ∧
wth (Array.push h12 (Obj.cells #[(Value.int .i64 (0 : Int)), (Value.int .i64 (0 : Int)), (Value.int .i64 (0 : Int)), (Value.bool false)] T_liveryref08_Tx)) fun h17 =>
stOk h17 (Addr.mk (Array.size h12) 0 none) 4 ∧ wth (wrs h17 (Addr.mk (Array.size h12) 0 none) 0 [(Value.int .i64 n13), (Value.int .i64 n14), (Value.int .i64 n15), (Value.bool b16)]) fun h18 =>
∀ X19 : List Value → Hp → Prop, (∀ n20 : Int, ∀ h21 : Hp, ((if (decide (n20 < (l8.n : Int))) = true then
      (∀ J22 : List Value → Hp → Prop, (∀ h23 : Hp, (X19 [(Value.int .i64 (IntKind.wrap .i64 (n20 + (1 : Int))))] h23) → J22 [] h23) →
        ∀ J24 : List Value → Hp → Prop, (∀ a25 : Addr, ∀ h26 : Hp, (∀ J27 : List Value → Hp → Prop, (∀ b28 : Bool, ∀ h29 : Hp, ((if b28 = true then
                  (J22 [] h29) else
                  (∀ J30 : List Value → Hp → Prop, (∀ b31 : Bool, ∀ h32 : Hp, (∀ J33 : List Value → Hp → Prop, (∀ h34 : Hp, (∀ X35 : List Value → Hp → Prop, (∀ n36 : Int, ∀ h37 : Hp, ((if (decide (n36 < (l5.n : Int))) = true then
                                  (∀ J38 : List Value → Hp → Prop, (∀ h39 : Hp, (X35 [(Value.int .i64 (IntKind.wrap .i64 (n36 + (1 : Int))))] h39) → J38 [] h39) →
                                    ∀ J40 : List Value → Hp → Prop, (∀ a41 : Addr, ∀ h42 : Hp, (∀ J43 : List Value → Hp → Prop, (∀ b44 : Bool, ∀ h45 : Hp, ((if b44 = true then
                                              (J38 [] h45) else
                                              (stOk h45 (Addr.add (Addr.mk (Array.size h1) 0 none) 1) 1 ∧ wth (wrs h45 (Addr.add (Addr.mk (Array.size h1) 0 none) 1) 0 [(Value.bool true)]) fun h46 =>
                                                ∃ n47 : Int, rd h46 (Addr.add a41 0) = some (Value.int .i64 n47) ∧
                                                (if (n47 == (1 : Int)) = true then
                                                  (∃ l48 : Sl, rd h46 (Addr.add (Addr.mk (Array.size h1) 0 none) 0) = some (Value.slice l48.a l48.n l48.c) ∧
                                                    nilW l5.a fun a49 => ixOk n36 l5.n (∃ n50 : Int, rd h46 (Addr.add a49 (Int.toNat n36 * 1)) = some (Value.int .i64 n50) ∧
                                                      S_liveryref14_put ⟨l48.a, l48.n, l48.c⟩ n50 h46 fun (vs51 : List Value) (h52 : Hp) =>
                                                      ∃ l53 : Sl, vs51 = [(Value.slice l53.a l53.n l53.c)] ∧
                                                      stOk h52 (Addr.add (Addr.mk (Array.size h1) 0 none) 0) 1 ∧ wth (wrs h52 (Addr.add (Addr.mk (Array.size h1) 0 none) 0) 0 [(Value.slice l53.a l53.n l53.c)]) fun h54 =>
                                                      J38 [] h54)) else
                                                  (J38 [] h46))))) → J43 [(Value.bool b44)] h45) →
                                        ∃ n55 : Int, rd h42 (Addr.add a41 0) = some (Value.int .i64 n55) ∧
                                        (if (n55 == (2 : Int)) = true then (∃ n56 : Int, rd h42 (Addr.add a41 2) = some (Value.int .i64 n56) ∧
                                            ∃ n57 : Int, rd h42 (Addr.add a25 2) = some (Value.int .i64 n57) ∧
                                            (if (decide (n56 < n57)) = true then (J43 [(Value.bool true)] h42) else
                                              (∃ b58 : Bool, rd h42 (Addr.add a41 3) = some (Value.bool b58) ∧
                                                (if b58 = true then (∃ n59 : Int, rd h42 (Addr.add a41 1) = some (Value.int .i64 n59) ∧
                                                    ∃ n60 : Int, rd h42 (Addr.add a25 2) = some (Value.int .i64 n60) ∧
                                                    J43 [(Value.bool (decide (n59 < n60)))] h42) else
                                                  (J43 [(Value.bool false)] h42))))) else
                                          (∃ b61 : Bool, rd h42 (Addr.add a41 3) = some (Value.bool b61) ∧
                                            (if b61 = true then (∃ n62 : Int, rd h42 (Addr.add a41 1) = some (Value.int .i64 n62) ∧
                                                ∃ n63 : Int, rd h42 (Addr.add a25 2) = some (Value.int .i64 n63) ∧
                                                J43 [(Value.bool (decide (n62 < n63)))] h42) else
                                              (J43 [(Value.bool false)] h42))))) → J40 [(Value.pointer (some a41))] h42) →
                                    nilW g0_e fun a64 => ∃ p65 : Option Addr, rd h37 (Addr.add a64 0) = some (Value.pointer p65) ∧
                                    nilW l5.a fun a66 => ixOk n36 l5.n (∃ n67 : Int, rd h37 (Addr.add a66 (Int.toNat n36 * 1)) = some (Value.int .i64 n67) ∧
                                      (S_liveryref08_Log_Get p65 n67 h37 fun (vs68 : List Value) (h69 : Hp) =>
                                        ∃ n70 : Int, ∃ n71 : Int, ∃ n72 : Int, ∃ b73 : Bool, vs68 = [(Value.agg #[(Value.int .i64 n70), (Value.int .i64 n71), (Value.int .i64 n72), (Value.bool b73)])] ∧
                                        wth (Array.push h69 (Obj.cells #[(Value.int .i64 (0 : Int)), (Value.int .i64 (0 : Int)), (Value.int .i64 (0 : Int)), (Value.bool false)] T_liveryref08_Tx)) fun h74 =>
                                        stOk h74 (Addr.mk (Array.size h69) 0 none) 4 ∧ wth (wrs h74 (Addr.mk (Array.size h69) 0 none) 0 [(Value.int .i64 n70), (Value.int .i64 n71), (Value.int .i64 n72), (Value.bool b73)]) fun h75 =>
                                        J40 [(Value.pointer (some (Addr.mk (Array.size h69) 0 none)))] h75) ∧
                                      (wth (Array.push h37 (Obj.cells #[(Value.int .i64 (0 : Int)), (Value.int .i64 (0 : Int)), (Value.int .i64 (0 : Int)), (Value.bool false)] T_liveryref08_Tx)) fun h76 =>
                                        rd h76 (Addr.add a66 (Int.toNat n36 * 1)) = some (Value.int .i64 n67) ∧ rd h76 (Addr.add a64 0) = some (Value.pointer p65) ∧ S_liveryref08_Log_Get p65 n67 h76 fun (vs77 : List Value) (h78 : Hp) =>
                                        ∃ n79 : Int, ∃ n80 : Int, ∃ n81 : Int, ∃ b82 : Bool, vs77 = [(Value.agg #[(Value.int .i64 n79), (Value.int .i64 n80), (Value.int .i64 n81), (Value.bool b82)])] ∧
                                        stOk h78 (Addr.mk (Array.size h37) 0 none) 4 ∧ wth (wrs h78 (Addr.mk (Array.size h37) 0 none) 0 [(Value.int .i64 n79), (Value.int .i64 n80), (Value.int .i64 n81), (Value.bool b82)]) fun h83 =>
                                        J40 [(Value.pointer (some (Addr.mk (Array.size h37) 0 none)))] h83))) else
                                  (J22 [] h37))) → X35 [(Value.int .i64 n36)] h37) →
                            X35 [(Value.int .i64 (0 : Int))] h34) → J33 [] h34) →
                        (if b31 = true then
                          (stOk h32 (Addr.add (Addr.mk (Array.size h1) 0 none) 1) 1 ∧ wth (wrs h32 (Addr.add (Addr.mk (Array.size h1) 0 none) 1) 0 [(Value.bool true)]) fun h84 =>
                            J33 [] h84) else
                          (J33 [] h32))) → J30 [(Value.bool b31)] h32) →
                    S_liveryref14_Edges_Old g0_e g1_p h29 fun (vs85 : List Value) (h86 : Hp) =>
                    ∃ n87 : Int, vs85 = [(Value.int .i64 n87)] ∧
                    (if (decide (n87 > (0 : Int))) = true then (∃ n88 : Int, rd h86 (Addr.add a25 2) = some (Value.int .i64 n88) ∧
                        S_liveryref14_Edges_Old g0_e g1_p h86 fun (vs89 : List Value) (h90 : Hp) =>
                        ∃ n91 : Int, vs89 = [(Value.int .i64 n91)] ∧
                        rd h90 (Addr.add a25 2) = some (Value.int .i64 n88) ∧ J30 [(Value.bool (decide (n91 ≥ n88)))] h90) else
                      (J30 [(Value.bool false)] h86))))) → J27 [(Value.bool b28)] h29) →
            ∃ n92 : Int, rd h26 (Addr.add a25 0) = some (Value.int .i64 n92) ∧
            (if (n92 != (2 : Int)) = true then (J27 [(Value.bool true)] h26) else
              (∃ n93 : Int, rd h26 (Addr.add (Addr.mk (Array.size h12) 0 none) 0) = some (Value.int .i64 n93) ∧
                (if (n93 == (2 : Int)) = true then (∃ n94 : Int, rd h26 (Addr.add (Addr.mk (Array.size h12) 0 none) 2) = some (Value.int .i64 n94) ∧
                    ∃ n95 : Int, rd h26 (Addr.add a25 2) = some (Value.int .i64 n95) ∧
                    J27 [(Value.bool (decide (n94 ≤ n95)))] h26) else
                  (J27 [(Value.bool false)] h26))))) → J24 [(Value.pointer (some a25))] h26) →
        nilW g0_e fun a96 => ∃ p97 : Option Addr, rd h21 (Addr.add a96 0) = some (Value.pointer p97) ∧
        nilW l8.a fun a98 => ixOk n20 l8.n (∃ n99 : Int, rd h21 (Addr.add a98 (Int.toNat n20 * 1)) = some (Value.int .i64 n99) ∧
          (S_liveryref08_Log_Get p97 n99 h21 fun (vs100 : List Value) (h101 : Hp) =>
            ∃ n102 : Int, ∃ n103 : Int, ∃ n104 : Int, ∃ b105 : Bool, vs100 = [(Value.agg #[(Value.int .i64 n102), (Value.int .i64 n103), (Value.int .i64 n104), (Value.bool b105)])] ∧
            wth (Array.push h101 (Obj.cells #[(Value.int .i64 (0 : Int)), (Value.int .i64 (0 : Int)), (Value.int .i64 (0 : Int)), (Value.bool false)] T_liveryref08_Tx)) fun h106 =>
            stOk h106 (Addr.mk (Array.size h101) 0 none) 4 ∧ wth (wrs h106 (Addr.mk (Array.size h101) 0 none) 0 [(Value.int .i64 n102), (Value.int .i64 n103), (Value.int .i64 n104), (Value.bool b105)]) fun h107 =>
            J24 [(Value.pointer (some (Addr.mk (Array.size h101) 0 none)))] h107) ∧
          (wth (Array.push h21 (Obj.cells #[(Value.int .i64 (0 : Int)), (Value.int .i64 (0 : Int)), (Value.int .i64 (0 : Int)), (Value.bool false)] T_liveryref08_Tx)) fun h108 =>
            rd h108 (Addr.add a98 (Int.toNat n20 * 1)) = some (Value.int .i64 n99) ∧ rd h108 (Addr.add a96 0) = some (Value.pointer p97) ∧ S_liveryref08_Log_Get p97 n99 h108 fun (vs109 : List Value) (h110 : Hp) =>
            ∃ n111 : Int, ∃ n112 : Int, ∃ n113 : Int, ∃ b114 : Bool, vs109 = [(Value.agg #[(Value.int .i64 n111), (Value.int .i64 n112), (Value.int .i64 n113), (Value.bool b114)])] ∧
            stOk h110 (Addr.mk (Array.size h21) 0 none) 4 ∧ wth (wrs h110 (Addr.mk (Array.size h21) 0 none) 0 [(Value.int .i64 n111), (Value.int .i64 n112), (Value.int .i64 n113), (Value.bool b114)]) fun h115 =>
            J24 [(Value.pointer (some (Addr.mk (Array.size h21) 0 none)))] h115))) else
      (∃ l116 : Sl, rd h21 (Addr.add (Addr.mk (Array.size h1) 0 none) 0) = some (Value.slice l116.a l116.n l116.c) ∧ ∃ b117 : Bool, rd h21 (Addr.add (Addr.mk (Array.size h1) 0 none) 1) = some (Value.bool b117) ∧ stOk h21 (Addr.mk (Array.size h) 0 none) 2 ∧ wth (wrs h21 (Addr.mk (Array.size h) 0 none) 0 [(Value.slice l116.a l116.n l116.c), (Value.bool b117)]) fun h118 =>
        ∃ l119 : Sl, rd h118 (Addr.add (Addr.mk (Array.size h) 0 none) 0) = some (Value.slice l119.a l119.n l119.c) ∧ ∃ b120 : Bool, rd h118 (Addr.add (Addr.mk (Array.size h) 0 none) 1) = some (Value.bool b120) ∧ Q [(Value.agg #[(Value.slice l119.a l119.n l119.c), (Value.bool b120)])] h118))) → X19 [(Value.int .i64 n20)] h21) →
X19 [(Value.int .i64 (0 : Int))] h18
def A_liveryref14_Edges_Spoilt : Ann := (.mk none ⟨[], []⟩ .nil (.mk none ⟨[], []⟩ .nil (.mk none ⟨[], []⟩ .nil (.mk none ⟨[], []⟩ .nil (.mk none ⟨[], []⟩ (.mk none ⟨[], []⟩ .nil (.mk none ⟨[], []⟩ (.mk none ⟨[0, 1, 4, 5, 6, 7, 8], [(9, (.c (.int .i64)))]⟩ (.mk none ⟨[], []⟩ .nil (.mk none ⟨[], []⟩ (.mk (some ⟨[0, 1, 4, 5, 6, 7, 8, 9], []⟩) ⟨[], []⟩ (.mk none ⟨[], []⟩ (.mk (some ⟨[0, 1, 4, 5, 6, 7, 8, 9], [(10, (.c .adr))]⟩) ⟨[], []⟩ .nil .nil) (.mk none ⟨[], []⟩ (.mk none ⟨[], []⟩ (.mk (some ⟨[0, 1, 4, 5, 6, 7, 8, 9, 10], [(54, (.c .bool))]⟩) ⟨[], []⟩ .nil .nil) .nil) (.mk none ⟨[], []⟩ (.mk none ⟨[], []⟩ (.mk (some ⟨[0, 1, 4, 5, 6, 7, 8, 9, 10], [(66, (.c .bool))]⟩) ⟨[], []⟩ .nil .nil) (.mk (some ⟨[0, 1, 4, 5, 6, 7, 8, 9, 10], []⟩) ⟨[], []⟩ .nil .nil)) (.mk none ⟨[], []⟩ .nil (.mk none ⟨[], []⟩ (.mk none ⟨[0, 1, 4, 5, 6, 7, 8, 9, 10], [(11, (.c (.int .i64)))]⟩ (.mk none ⟨[], []⟩ .nil (.mk none ⟨[], []⟩ (.mk (some ⟨[0, 1, 4, 5, 6, 7, 8, 9, 10, 11], []⟩) ⟨[], []⟩ (.mk none ⟨[], []⟩ (.mk (some ⟨[0, 1, 4, 5, 6, 7, 8, 9, 10, 11], [(12, (.c .adr))]⟩) ⟨[], []⟩ .nil .nil) (.mk none ⟨[], []⟩ (.mk none ⟨[], []⟩ (.mk (some ⟨[0, 1, 4, 5, 6, 7, 8, 9, 10, 11, 12], [(103, (.c .bool))]⟩) ⟨[], []⟩ .nil .nil) .nil) .nil)) .nil) .nil)) .nil) .nil))))) .nil) .nil)) .nil) .nil)) .nil)))))
theorem E_liveryref14_Edges_Spoilt (g0_e : Option Addr) (g1_p : Int) (h : Hp) (Q : List Value → Hp → Prop) : cw PP 117 (fun _ => []) (bodyOf Try.f55) A_liveryref14_Edges_Spoilt (finQ PP (Try.f55.results.toList) Q) (argFr [(Value.pointer g0_e), (Value.int .i64 g1_p)]) h = F_liveryref14_Edges_Spoilt g0_e g1_p h Q := by kernel_rfl
theorem O_liveryref14_Edges_Spoilt (g0_e : Option Addr) (g1_p : Int) {h : Hp} {Q : List Value → Hp → Prop} (H : F_liveryref14_Edges_Spoilt g0_e g1_p h Q) : S_liveryref14_Edges_Spoilt g0_e g1_p h Q :=
  fn_of_cw (hs := (fun _ => [])) (ann := A_liveryref14_Edges_Spoilt) (args := [(Value.pointer g0_e), (Value.int .i64 g1_p)]) mixedPP Try.func55 (c := bodyOf Try.f55) (by kernel_rfl) (by kernel_rfl) (by kernel_rfl) (Eq.mpr (E_liveryref14_Edges_Spoilt g0_e g1_p h Q) H)
def F_liveryref14_Edges_Ahead (g0_e : Option Addr) (g1_t3 : Int) (h : Hp) (Q : List Value → Hp → Prop) : Prop :=
S_liveryref14_Edges_In g0_e g1_t3 h fun (vs1 : List Value) (h2 : Hp) =>
∃ l3 : Sl, vs1 = [(Value.slice l3.a l3.n l3.c)] ∧
∀ X4 : List Value → Hp → Prop, (∀ l5 : Sl, ∀ n6 : Int, ∀ h7 : Hp, ((if (decide (n6 < (l3.n : Int))) = true then
      (∀ J8 : List Value → Hp → Prop, (∀ l9 : Sl, ∀ h10 : Hp, (X4 [(Value.slice l9.a l9.n l9.c), (Value.int .i64 (IntKind.wrap .i64 (n6 + (1 : Int))))] h10) → J8 [(Value.slice l9.a l9.n l9.c)] h10) →
        nilW l3.a fun a11 => ixOk n6 l3.n (∃ n12 : Int, rd h7 (Addr.add a11 (Int.toNat n6 * 1)) = some (Value.int .i64 n12) ∧
          nilW g0_e fun a13 => ∃ p14 : Option Addr, rd h7 (Addr.add a13 0) = some (Value.pointer p14) ∧
          S_liveryref08_Log_Get p14 n12 h7 fun (vs15 : List Value) (h16 : Hp) =>
          ∃ n17 : Int, ∃ n18 : Int, ∃ n19 : Int, ∃ b20 : Bool, vs15 = [(Value.agg #[(Value.int .i64 n17), (Value.int .i64 n18), (Value.int .i64 n19), (Value.bool b20)])] ∧
          (if (n17 != (1 : Int)) = true then
            (J8 [(Value.slice l5.a l5.n l5.c)] h16) else
            (S_liveryref14_Edges_In g0_e n12 h16 fun (vs21 : List Value) (h22 : Hp) =>
              ∃ l23 : Sl, vs21 = [(Value.slice l23.a l23.n l23.c)] ∧
              ∀ X24 : List Value → Hp → Prop, (∀ l25 : Sl, ∀ n26 : Int, ∀ h27 : Hp, ((if (decide (n26 < (l23.n : Int))) = true then
                    (∀ J28 : List Value → Hp → Prop, (∀ l29 : Sl, ∀ h30 : Hp, (X24 [(Value.slice l29.a l29.n l29.c), (Value.int .i64 (IntKind.wrap .i64 (n26 + (1 : Int))))] h30) → J28 [(Value.slice l29.a l29.n l29.c)] h30) →
                      ∀ J31 : List Value → Hp → Prop, (∀ a32 : Addr, ∀ h33 : Hp, (∀ J34 : List Value → Hp → Prop, (∀ b35 : Bool, ∀ h36 : Hp, ((if b35 = true then
                                (S_liveryref14_put ⟨l25.a, l25.n, l25.c⟩ n12 h36 fun (vs37 : List Value) (h38 : Hp) =>
                                  ∃ l39 : Sl, vs37 = [(Value.slice l39.a l39.n l39.c)] ∧
                                  J28 [(Value.slice l39.a l39.n l39.c)] h38) else
                                (J28 [(Value.slice l25.a l25.n l25.c)] h36))) → J34 [(Value.bool b35)] h36) →
                          ∃ n40 : Int, rd h33 (Addr.add a32 0) = some (Value.int .i64 n40) ∧
                          (if (n40 == (1 : Int)) = true then (∃ b41 : Bool, rd h33 (Addr.add a32 3) = some (Value.bool b41) ∧
                              J34 [(Value.bool (!b41))] h33) else
                            (nilW l23.a fun a42 => ixOk n26 l23.n (∃ n43 : Int, rd h33 (Addr.add a42 (Int.toNat n26 * 1)) = some (Value.int .i64 n43) ∧
                                (if (n43 == g1_t3) = true then (∃ b44 : Bool, rd h33 (Addr.add a32 3) = some (Value.bool b44) ∧
                                    J34 [(Value.bool (!b44))] h33) else
                                  (J34 [(Value.bool false)] h33)))))) → J31 [(Value.pointer (some a32))] h33) →
                      nilW g0_e fun a45 => ∃ p46 : Option Addr, rd h27 (Addr.add a45 0) = some (Value.pointer p46) ∧
                      nilW l23.a fun a47 => ixOk n26 l23.n (∃ n48 : Int, rd h27 (Addr.add a47 (Int.toNat n26 * 1)) = some (Value.int .i64 n48) ∧
                        (S_liveryref08_Log_Get p46 n48 h27 fun (vs49 : List Value) (h50 : Hp) =>
                          ∃ n51 : Int, ∃ n52 : Int, ∃ n53 : Int, ∃ b54 : Bool, vs49 = [(Value.agg #[(Value.int .i64 n51), (Value.int .i64 n52), (Value.int .i64 n53), (Value.bool b54)])] ∧
                          wth (Array.push h50 (Obj.cells #[(Value.int .i64 (0 : Int)), (Value.int .i64 (0 : Int)), (Value.int .i64 (0 : Int)), (Value.bool false)] T_liveryref08_Tx)) fun h55 =>
                          stOk h55 (Addr.mk (Array.size h50) 0 none) 4 ∧ wth (wrs h55 (Addr.mk (Array.size h50) 0 none) 0 [(Value.int .i64 n51), (Value.int .i64 n52), (Value.int .i64 n53), (Value.bool b54)]) fun h56 =>
                          J31 [(Value.pointer (some (Addr.mk (Array.size h50) 0 none)))] h56) ∧
                        (wth (Array.push h27 (Obj.cells #[(Value.int .i64 (0 : Int)), (Value.int .i64 (0 : Int)), (Value.int .i64 (0 : Int)), (Value.bool false)] T_liveryref08_Tx)) fun h57 =>
                          rd h57 (Addr.add a47 (Int.toNat n26 * 1)) = some (Value.int .i64 n48) ∧ rd h57 (Addr.add a45 0) = some (Value.pointer p46) ∧ S_liveryref08_Log_Get p46 n48 h57 fun (vs58 : List Value) (h59 : Hp) =>
                          ∃ n60 : Int, ∃ n61 : Int, ∃ n62 : Int, ∃ b63 : Bool, vs58 = [(Value.agg #[(Value.int .i64 n60), (Value.int .i64 n61), (Value.int .i64 n62), (Value.bool b63)])] ∧
                          stOk h59 (Addr.mk (Array.size h27) 0 none) 4 ∧ wth (wrs h59 (Addr.mk (Array.size h27) 0 none) 0 [(Value.int .i64 n60), (Value.int .i64 n61), (Value.int .i64 n62), (Value.bool b63)]) fun h64 =>
                          J31 [(Value.pointer (some (Addr.mk (Array.size h27) 0 none)))] h64))) else
                    (J8 [(Value.slice l25.a l25.n l25.c)] h27))) → X24 [(Value.slice l25.a l25.n l25.c), (Value.int .i64 n26)] h27) →
              X24 [(Value.slice l5.a l5.n l5.c), (Value.int .i64 (0 : Int))] h22)))) else
      (Q [(Value.slice l5.a l5.n l5.c)] h7))) → X4 [(Value.slice l5.a l5.n l5.c), (Value.int .i64 n6)] h7) →
X4 [(Value.slice none 0 0), (Value.int .i64 (0 : Int))] h2
def A_liveryref14_Edges_Ahead : Ann := (.mk none ⟨[], []⟩ .nil (.mk none ⟨[], []⟩ .nil (.mk none ⟨[], []⟩ .nil (.mk none ⟨[], []⟩ (.mk none ⟨[], []⟩ .nil (.mk none ⟨[], []⟩ (.mk none ⟨[0, 1, 6], [(5, (.c .sl)), (7, (.c (.int .i64)))]⟩ (.mk none ⟨[], []⟩ .nil (.mk none ⟨[], []⟩ (.mk (some ⟨[0, 1, 6, 7], [(5, (.c .sl))]⟩) ⟨[], []⟩ (.mk none ⟨[], []⟩ .nil (.mk none ⟨[], []⟩ .nil (.mk none ⟨[], []⟩ .nil (.mk none ⟨[], []⟩ .nil (.mk none ⟨[], []⟩ (.mk none ⟨[0, 1, 6, 7, 8, 9], [(5, (.c .sl)), (10, (.c (.int .i64)))]⟩ (.mk none ⟨[], []⟩ .nil (.mk none ⟨[], []⟩ (.mk (some ⟨[0, 1, 6, 7, 8, 9, 10], [(5, (.c .sl))]⟩) ⟨[], []⟩ (.mk none ⟨[], []⟩ (.mk (some ⟨[0, 1, 5, 6, 7, 8, 9, 10], [(11, (.c .adr))]⟩) ⟨[], []⟩ .nil .nil) (.mk none ⟨[], []⟩ (.mk (some ⟨[0, 1, 5, 6, 7, 8, 9, 10], [(66, (.c .bool))]⟩) ⟨[], []⟩ .nil .nil) .nil)) .nil) .nil)) .nil) .nil))))) .nil) .nil)) .nil) .nil)) .nil))))
theorem E_liveryref14_Edges_Ahead (g0_e : Option Addr) (g1_t3 : Int) (h : Hp) (Q : List Value → Hp → Prop) : cw PP 71 (fun _ => []) (bodyOf Try.f58) A_liveryref14_Edges_Ahead (finQ PP (Try.f58.results.toList) Q) (argFr [(Value.pointer g0_e), (Value.int .i64 g1_t3)]) h = F_liveryref14_Edges_Ahead g0_e g1_t3 h Q := by kernel_rfl
theorem O_liveryref14_Edges_Ahead (g0_e : Option Addr) (g1_t3 : Int) {h : Hp} {Q : List Value → Hp → Prop} (H : F_liveryref14_Edges_Ahead g0_e g1_t3 h Q) : S_liveryref14_Edges_Ahead g0_e g1_t3 h Q :=
  fn_of_cw (hs := (fun _ => [])) (ann := A_liveryref14_Edges_Ahead) (args := [(Value.pointer g0_e), (Value.int .i64 g1_t3)]) mixedPP Try.func58 (c := bodyOf Try.f58) (by kernel_rfl) (by kernel_rfl) (by kernel_rfl) (Eq.mpr (E_liveryref14_Edges_Ahead g0_e g1_t3 h Q) H)
def F_liverylaw14_Same (g0_e : Option Addr) (g1_q : Option Addr) (h : Hp) (Q : List Value → Hp → Prop) : Prop :=
S_edge_Edges_All g0_e h fun (vs1 : List Value) (h2 : Hp) =>
∃ l3 : Sl, vs1 = [(Value.slice l3.a l3.n l3.c)] ∧
nilW g1_q fun a4 => ∃ l5 : Sl, rd h2 (Addr.add a4 1) = some (Value.slice l5.a l5.n l5.c) ∧
(if ((l3.n : Int) != (l5.n : Int)) = true then
  (Q [(Value.bool false)] h2) else
  (∀ X6 : List Value → Hp → Prop, (∀ n7 : Int, ∀ h8 : Hp, ((if (decide (n7 < (l3.n : Int))) = true then
          (nilW l3.a fun a9 => ixOk n7 l3.n (∃ n10 : Int, rd h8 (Addr.add (Addr.add a9 (Int.toNat n7 * 2)) 0) = some (Value.int .i64 n10) ∧ ∃ n11 : Int, rd h8 (Addr.add (Addr.add a9 (Int.toNat n7 * 2)) 1) = some (Value.int .i64 n11) ∧ nilW g1_q fun a12 => ∃ l13 : Sl, rd h8 (Addr.add a12 1) = some (Value.slice l13.a l13.n l13.c) ∧
              nilW l13.a fun a14 => ixOk n7 l13.n (∃ n15 : Int, rd h8 (Addr.add (Addr.add a14 (Int.toNat n7 * 2)) 0) = some (Value.int .i64 n15) ∧ ∃ n16 : Int, rd h8 (Addr.add (Addr.add a14 (Int.toNat n7 * 2)) 1) = some (Value.int .i64 n16) ∧ (if (!(n10 == n15 && (n11 == n16 && true))) = true then
                  (Q [(Value.bool false)] h8) else
                  (X6 [(Value.int .i64 (IntKind.wrap .i64 (n7 + (1 : Int))))] h8))))) else
          (∀ X17 : List Value → Hp → Prop, (∀ n18 : Int, ∀ h19 : Hp, (nilW g1_q fun a20 => ∃ p21 : Option Addr, rd h19 (Addr.add a20 0) = some (Value.pointer p21) ∧
                nilW p21 fun a22 => ∃ l23 : Sl, rd h19 (Addr.add a22 0) = some (Value.slice l23.a l23.n l23.c) ∧
                (if (decide (n18 ≤ (IntKind.wrap .i64 ((l23.n : Int) + (1 : Int))))) = true then
                  (S_edge_Edges_Spoilt g0_e n18 h19 fun (vs24 : List Value) (h25 : Hp) =>
                    ∃ l26 : Sl, ∃ b27 : Bool, vs24 = [(Value.slice l26.a l26.n l26.c), (Value.bool b27)] ∧
                    S_liveryref14_Edges_Spoilt g1_q n18 h25 fun (vs28 : List Value) (h29 : Hp) =>
                    ∃ l30 : Sl, ∃ b31 : Bool, vs28 = [(Value.agg #[(Value.slice l30.a l30.n l30.c), (Value.bool b31)])] ∧
                    wth (Array.push h29 (Obj.cells #[(Value.slice none 0 0), (Value.bool false)] T_liveryref14_Verdict)) fun h32 =>
                    stOk h32 (Addr.mk (Array.size h29) 0 none) 2 ∧ wth (wrs h32 (Addr.mk (Array.size h29) 0 none) 0 [(Value.slice l30.a l30.n l30.c), (Value.bool b31)]) fun h33 =>
                    ∀ J34 : List Value → Hp → Prop, (∀ b35 : Bool, ∀ h36 : Hp, ((if b35 = true then
                          (Q [(Value.bool false)] h36) else
                          (X17 [(Value.int .i64 (IntKind.wrap .i64 (n18 + (1 : Int))))] h36))) → J34 [(Value.bool b35)] h36) →
                    ∃ b37 : Bool, rd h33 (Addr.add (Addr.mk (Array.size h29) 0 none) 1) = some (Value.bool b37) ∧
                    (if (!(b27 == b37)) = true then (J34 [(Value.bool true)] h33) else
                      (∃ l38 : Sl, rd h33 (Addr.add (Addr.mk (Array.size h29) 0 none) 0) = some (Value.slice l38.a l38.n l38.c) ∧
                        S_liverykeep_Ints ⟨l26.a, l26.n, l26.c⟩ ⟨l38.a, l38.n, l38.c⟩ h33 fun (vs39 : List Value) (h40 : Hp) =>
                        ∃ b41 : Bool, vs39 = [(Value.bool b41)] ∧
                        (if (!b41) = true then (J34 [(Value.bool true)] h40) else
                          (S_edge_Edges_In g0_e n18 h40 fun (vs42 : List Value) (h43 : Hp) =>
                            ∃ l44 : Sl, vs42 = [(Value.slice l44.a l44.n l44.c)] ∧
                            S_liveryref14_Edges_In g1_q n18 h43 fun (vs45 : List Value) (h46 : Hp) =>
                            ∃ l47 : Sl, vs45 = [(Value.slice l47.a l47.n l47.c)] ∧
                            S_liverykeep_Ints ⟨l44.a, l44.n, l44.c⟩ ⟨l47.a, l47.n, l47.c⟩ h46 fun (vs48 : List Value) (h49 : Hp) =>
                            ∃ b50 : Bool, vs48 = [(Value.bool b50)] ∧
                            (if (!b50) = true then (J34 [(Value.bool true)] h49) else
                              (S_edge_Edges_Out g0_e n18 h49 fun (vs51 : List Value) (h52 : Hp) =>
                                ∃ l53 : Sl, vs51 = [(Value.slice l53.a l53.n l53.c)] ∧
                                S_liveryref14_Edges_Out g1_q n18 h52 fun (vs54 : List Value) (h55 : Hp) =>
                                ∃ l56 : Sl, vs54 = [(Value.slice l56.a l56.n l56.c)] ∧
                                S_liverykeep_Ints ⟨l53.a, l53.n, l53.c⟩ ⟨l56.a, l56.n, l56.c⟩ h55 fun (vs57 : List Value) (h58 : Hp) =>
                                ∃ b59 : Bool, vs57 = [(Value.bool b59)] ∧
                                (if (!b59) = true then (J34 [(Value.bool true)] h58) else
                                  (S_edge_Edges_Ahead g0_e n18 h58 fun (vs60 : List Value) (h61 : Hp) =>
                                    ∃ l62 : Sl, vs60 = [(Value.slice l62.a l62.n l62.c)] ∧
                                    S_liveryref14_Edges_Ahead g1_q n18 h61 fun (vs63 : List Value) (h64 : Hp) =>
                                    ∃ l65 : Sl, vs63 = [(Value.slice l65.a l65.n l65.c)] ∧
                                    S_liverykeep_Ints ⟨l62.a, l62.n, l62.c⟩ ⟨l65.a, l65.n, l65.c⟩ h64 fun (vs66 : List Value) (h67 : Hp) =>
                                    ∃ b68 : Bool, vs66 = [(Value.bool b68)] ∧
                                    (if (!b68) = true then (J34 [(Value.bool true)] h67) else
                                      (S_edge_Edges_Old g0_e n18 h67 fun (vs69 : List Value) (h70 : Hp) =>
                                        ∃ n71 : Int, vs69 = [(Value.int .i64 n71)] ∧
                                        S_liveryref14_Edges_Old g1_q n18 h70 fun (vs72 : List Value) (h73 : Hp) =>
                                        ∃ n74 : Int, vs72 = [(Value.int .i64 n74)] ∧
                                        J34 [(Value.bool (n71 != n74))] h73))))))))))) else
                  (Q [(Value.bool true)] h19))) → X17 [(Value.int .i64 n18)] h19) →
            X17 [(Value.int .i64 (0 : Int))] h8))) → X6 [(Value.int .i64 n7)] h8) →
    X6 [(Value.int .i64 (0 : Int))] h2))
def A_liverylaw14_Same : Ann := (.mk none ⟨[], []⟩ .nil (.mk none ⟨[], []⟩ .nil (.mk none ⟨[], []⟩ .nil (.mk none ⟨[], []⟩ (.mk none ⟨[], []⟩ .nil (.mk none ⟨[], []⟩ (.mk none ⟨[0, 1, 5], [(6, (.c (.int .i64)))]⟩ .nil .nil) .nil)) (.mk none ⟨[], []⟩ (.mk none ⟨[], []⟩ .nil (.mk none ⟨[], []⟩ (.mk none ⟨[0, 1], [(7, (.c (.int .i64)))]⟩ (.mk none ⟨[], []⟩ .nil (.mk none ⟨[], []⟩ (.mk none ⟨[], []⟩ (.mk none ⟨[], []⟩ .nil (.mk none ⟨[], []⟩ .nil (.mk none ⟨[], []⟩ (.mk (some ⟨[0, 1, 7], [(110, (.c .bool))]⟩) ⟨[], []⟩ .nil .nil) .nil))) .nil) .nil)) .nil) .nil)) .nil)))))
theorem E_liverylaw14_Same (g0_e : Option Addr) (g1_q : Option Addr) (h : Hp) (Q : List Value → Hp → Prop) : cw PP 111 (fun _ => []) (bodyOf Try.f31) A_liverylaw14_Same (finQ PP (Try.f31.results.toList) Q) (argFr [(Value.pointer g0_e), (Value.pointer g1_q)]) h = F_liverylaw14_Same g0_e g1_q h Q := by kernel_rfl
theorem O_liverylaw14_Same (g0_e : Option Addr) (g1_q : Option Addr) {h : Hp} {Q : List Value → Hp → Prop} (H : F_liverylaw14_Same g0_e g1_q h Q) : S_liverylaw14_Same g0_e g1_q h Q :=
  fn_of_cw (hs := (fun _ => [])) (ann := A_liverylaw14_Same) (args := [(Value.pointer g0_e), (Value.pointer g1_q)]) mixedPP Try.func31 (c := bodyOf Try.f31) (by kernel_rfl) (by kernel_rfl) (by kernel_rfl) (Eq.mpr (E_liverylaw14_Same g0_e g1_q h Q) H)
def F_liverylaw14_EdgePlays (g0_steps : Sl) (h : Hp) (Q : List Value → Hp → Prop) : Prop :=
S_clog_New  h fun (vs1 : List Value) (h2 : Hp) =>
∃ p3 : Option Addr, vs1 = [(Value.pointer p3)] ∧
wth (Array.push h2 (Obj.cells #[(Value.slice none 0 0), (Value.int .i64 (0 : Int))] T_liveryref08_Log)) fun h4 =>
S_edge_New p3 h4 fun (vs5 : List Value) (h6 : Hp) =>
∃ p7 : Option Addr, vs5 = [(Value.pointer p7)] ∧
wth (Array.push h6 (Obj.cells #[(Value.pointer (some (Addr.mk (Array.size h2) 0 none))), (Value.slice none 0 0), (Value.slice none 0 0)] T_liveryref14_Edges)) fun h8 =>
∀ J9 : List Value → Hp → Prop, (∀ b10 : Bool, ∀ h11 : Hp, ((if b10 = true then
      (∀ J12 : List Value → Hp → Prop, (∀ b13 : Bool, ∀ h14 : Hp, (Q [(Value.bool b13)] h14) → J12 [(Value.bool b13)] h14) →
        (if (!(Option.isNone p3)) = true then ((if (!(Option.isNone p7)) = true then (S_liverylaw14_wakes  h11 fun (vs15 : List Value) (h16 : Hp) =>
                ∃ b17 : Bool, vs15 = [(Value.bool b17)] ∧
                J12 [(Value.bool b17)] h16) else
              (J12 [(Value.bool false)] h11))) else
          (J12 [(Value.bool false)] h11))) else
      (∀ X18 : List Value → Hp → Prop, (∀ n19 : Int, ∀ h20 : Hp, ((if (decide (n19 < (g0_steps.n : Int))) = true then
              (nilW g0_steps.a fun a21 => ixOk n19 g0_steps.n (∃ n22 : Int, rd h20 (Addr.add (Addr.add a21 (Int.toNat n19 * 4)) 0) = some (Value.int .i64 n22) ∧ ∃ n23 : Int, rd h20 (Addr.add (Addr.add a21 (Int.toNat n19 * 4)) 1) = some (Value.int .i64 n23) ∧ ∃ n24 : Int, rd h20 (Addr.add (Addr.add a21 (Int.toNat n19 * 4)) 2) = some (Value.int .i64 n24) ∧ ∃ b25 : Bool, rd h20 (Addr.add (Addr.add a21 (Int.toNat n19 * 4)) 3) = some (Value.bool b25) ∧ wth (Array.push h20 (Obj.cells #[(Value.int .i64 (0 : Int)), (Value.int .i64 (0 : Int)), (Value.int .i64 (0 : Int)), (Value.bool false)] T_liverylaw14_Step)) fun h26 =>
                  stOk h26 (Addr.mk (Array.size h20) 0 none) 4 ∧ wth (wrs h26 (Addr.mk (Array.size h20) 0 none) 0 [(Value.int .i64 n22), (Value.int .i64 n23), (Value.int .i64 n24), (Value.bool b25)]) fun h27 =>
                  ∃ n28 : Int, rd h27 (Addr.add (Addr.mk (Array.size h20) 0 none) 0) = some (Value.int .i64 n28) ∧
                  ∀ J29 : List Value → Hp → Prop, (∀ h30 : Hp, (S_liverylaw14_Same p7 (some (Addr.mk (Array.size h6) 0 none)) h30 fun (vs31 : List Value) (h32 : Hp) =>
                      ∃ b33 : Bool, vs31 = [(Value.bool b33)] ∧
                      (if (!b33) = true then
                        (Q [(Value.bool false)] h32) else
                        (X18 [(Value.int .i64 (IntKind.wrap .i64 (n19 + (1 : Int))))] h32))) → J29 [] h30) →
                  ∀ J34 : List Value → Hp → Prop, (∀ b35 : Bool, ∀ h36 : Hp, ((if b35 = true then
                        (∃ n37 : Int, rd h36 (Addr.add (Addr.mk (Array.size h20) 0 none) 0) = some (Value.int .i64 n37) ∧
                          ∃ n38 : Int, rd h36 (Addr.add (Addr.mk (Array.size h20) 0 none) 1) = some (Value.int .i64 n38) ∧
                          ∃ b39 : Bool, rd h36 (Addr.add (Addr.mk (Array.size h20) 0 none) 3) = some (Value.bool b39) ∧
                          S_liverylaw08_Play p3 (some (Addr.mk (Array.size h2) 0 none)) n37 n38 b39 h36 fun (vs40 : List Value) (h41 : Hp) =>
                          ∃ b42 : Bool, vs40 = [(Value.bool b42)] ∧
                          (if (!b42) = true then
                            (Q [(Value.bool false)] h41) else
                            (∃ n43 : Int, rd h41 (Addr.add (Addr.mk (Array.size h20) 0 none) 0) = some (Value.int .i64 n43) ∧
                              (if (n43 == (2 : Int)) = true then
                                (∃ n44 : Int, rd h41 (Addr.add (Addr.mk (Array.size h20) 0 none) 1) = some (Value.int .i64 n44) ∧
                                  S_edge_Edges_Drop p7 n44 h41 fun (vs45 : List Value) (h46 : Hp) =>
                                  vs45 = [] ∧
                                  ∃ n47 : Int, rd h46 (Addr.add (Addr.mk (Array.size h20) 0 none) 1) = some (Value.int .i64 n47) ∧
                                  S_liveryref14_Edges_Drop (some (Addr.mk (Array.size h6) 0 none)) n47 h46 fun (vs48 : List Value) (h49 : Hp) =>
                                  vs48 = [] ∧
                                  J29 [] h49) else
                                (J29 [] h41))))) else
                        ((if (n28 == (3 : Int)) = true then
                            (∃ n50 : Int, rd h36 (Addr.add (Addr.mk (Array.size h20) 0 none) 1) = some (Value.int .i64 n50) ∧
                              ∃ n51 : Int, rd h36 (Addr.add (Addr.mk (Array.size h20) 0 none) 2) = some (Value.int .i64 n51) ∧
                              ∃ n52 : Int, rd h36 (Addr.add (Addr.mk (Array.size h20) 0 none) 1) = some (Value.int .i64 n52) ∧
                              ∃ n53 : Int, rd h36 (Addr.add (Addr.mk (Array.size h20) 0 none) 2) = some (Value.int .i64 n53) ∧
                              S_edge_Edges_Add p7 n50 n51 h36 fun (vs54 : List Value) (h55 : Hp) =>
                              ∃ b56 : Bool, vs54 = [(Value.bool b56)] ∧
                              rd h55 (Addr.add (Addr.mk (Array.size h20) 0 none) 2) = some (Value.int .i64 n53) ∧ rd h55 (Addr.add (Addr.mk (Array.size h20) 0 none) 1) = some (Value.int .i64 n52) ∧ S_liveryref14_Edges_Add (some (Addr.mk (Array.size h6) 0 none)) n52 n53 h55 fun (vs57 : List Value) (h58 : Hp) =>
                              ∃ b59 : Bool, vs57 = [(Value.bool b59)] ∧
                              (if (!(b56 == b59)) = true then
                                (Q [(Value.bool false)] h58) else
                                (J29 [] h58))) else
                            ((if (n28 == (4 : Int)) = true then
                                (∃ n60 : Int, rd h36 (Addr.add (Addr.mk (Array.size h20) 0 none) 1) = some (Value.int .i64 n60) ∧
                                  ∃ n61 : Int, rd h36 (Addr.add (Addr.mk (Array.size h20) 0 none) 2) = some (Value.int .i64 n61) ∧
                                  ∃ n62 : Int, rd h36 (Addr.add (Addr.mk (Array.size h20) 0 none) 1) = some (Value.int .i64 n62) ∧
                                  ∃ n63 : Int, rd h36 (Addr.add (Addr.mk (Array.size h20) 0 none) 2) = some (Value.int .i64 n63) ∧
                                  S_edge_Edges_OldIn p7 n60 n61 h36 fun (vs64 : List Value) (h65 : Hp) =>
                                  ∃ b66 : Bool, vs64 = [(Value.bool b66)] ∧
                                  rd h65 (Addr.add (Addr.mk (Array.size h20) 0 none) 2) = some (Value.int .i64 n63) ∧ rd h65 (Addr.add (Addr.mk (Array.size h20) 0 none) 1) = some (Value.int .i64 n62) ∧ S_liveryref14_Edges_OldIn (some (Addr.mk (Array.size h6) 0 none)) n62 n63 h65 fun (vs67 : List Value) (h68 : Hp) =>
                                  ∃ b69 : Bool, vs67 = [(Value.bool b69)] ∧
                                  (if (!(b66 == b69)) = true then
                                    (Q [(Value.bool false)] h68) else
                                    (J29 [] h68))) else
                                ((if (n28 == (5 : Int)) = true then
                                    (∃ n70 : Int, rd h36 (Addr.add (Addr.mk (Array.size h20) 0 none) 1) = some (Value.int .i64 n70) ∧
                                      S_edge_Edges_Drop p7 n70 h36 fun (vs71 : List Value) (h72 : Hp) =>
                                      vs71 = [] ∧
                                      ∃ n73 : Int, rd h72 (Addr.add (Addr.mk (Array.size h20) 0 none) 1) = some (Value.int .i64 n73) ∧
                                      S_liveryref14_Edges_Drop (some (Addr.mk (Array.size h6) 0 none)) n73 h72 fun (vs74 : List Value) (h75 : Hp) =>
                                      vs74 = [] ∧
                                      J29 [] h75) else
                                    (J29 [] h36))))))))) → J34 [(Value.bool b35)] h36) →
                  (if (n28 == (0 : Int)) = true then
                    (J34 [(Value.bool (n28 == (0 : Int)))] h27) else
                    ((if (n28 == (1 : Int)) = true then
                        (J34 [(Value.bool (n28 == (1 : Int)))] h27) else
                        (J34 [(Value.bool (n28 == (2 : Int)))] h27)))))) else
              (S_liverylaw14_wakes  h20 fun (vs76 : List Value) (h77 : Hp) =>
                ∃ b78 : Bool, vs76 = [(Value.bool b78)] ∧
                Q [(Value.bool b78)] h77))) → X18 [(Value.int .i64 n19)] h20) →
        X18 [(Value.int .i64 (0 : Int))] h11))) → J9 [(Value.bool b10)] h11) →
(if (Option.isNone p3) = true then (J9 [(Value.bool true)] h8) else
  ((if (Option.isNone p7) = true then (J9 [(Value.bool true)] h8) else
      (J9 [(Value.bool (decide ((g0_steps.n : Int) > (100 : Int))))] h8))))
def A_liverylaw14_EdgePlays : Ann := (.mk none ⟨[], []⟩ .nil (.mk none ⟨[], []⟩ .nil (.mk none ⟨[], []⟩ .nil (.mk none ⟨[], []⟩ (.mk none ⟨[], []⟩ (.mk (some ⟨[0, 3, 4, 5, 6], [(27, (.c .bool))]⟩) ⟨[], []⟩ .nil .nil) (.mk none ⟨[], []⟩ (.mk none ⟨[], []⟩ (.mk (some ⟨[], [(2, (.c .bool))]⟩) ⟨[], []⟩ .nil .nil) .nil) .nil)) (.mk none ⟨[], []⟩ (.mk none ⟨[], []⟩ .nil (.mk none ⟨[], []⟩ (.mk none ⟨[0, 3, 4, 5, 6], [(7, (.c (.int .i64)))]⟩ (.mk none ⟨[], []⟩ .nil (.mk none ⟨[], []⟩ (.mk none ⟨[], []⟩ (.mk none ⟨[], []⟩ .nil (.mk none ⟨[], []⟩ (.mk none ⟨[], []⟩ .nil (.mk (some ⟨[0, 3, 4, 5, 6, 7], []⟩) ⟨[], []⟩ (.mk none ⟨[], []⟩ (.mk none ⟨[], []⟩ .nil (.mk (some ⟨[0, 3, 4, 5, 6, 7, 8, 48], [(49, (.c .bool))]⟩) ⟨[], []⟩ .nil .nil)) .nil) .nil)) .nil)) .nil) .nil)) .nil) .nil)) .nil)))))
theorem E_liverylaw14_EdgePlays (g0_steps : Sl) (h : Hp) (Q : List Value → Hp → Prop) : cw PP 120 (fun _ => []) (bodyOf Try.f6) A_liverylaw14_EdgePlays (finQ PP (Try.f6.results.toList) Q) (argFr [(Value.slice g0_steps.a g0_steps.n g0_steps.c)]) h = F_liverylaw14_EdgePlays g0_steps h Q := by kernel_rfl
theorem O_liverylaw14_EdgePlays (g0_steps : Sl) {h : Hp} {Q : List Value → Hp → Prop} (H : F_liverylaw14_EdgePlays g0_steps h Q) : S_liverylaw14_EdgePlays g0_steps h Q :=
  fn_of_cw (hs := (fun _ => [])) (ann := A_liverylaw14_EdgePlays) (args := [(Value.slice g0_steps.a g0_steps.n g0_steps.c)]) mixedPP Try.func6 (c := bodyOf Try.f6) (by kernel_rfl) (by kernel_rfl) (by kernel_rfl) (Eq.mpr (E_liverylaw14_EdgePlays g0_steps h Q) H)
def F_edge_Edges_Drop_1 (g0_x_0 : Int) (g0_x_1 : Int) (g1_x : Int) (g2_x : Addr) (h : Hp) (Q : List Value → Hp → Prop) : Prop :=
wth (Array.push h (Obj.cells #[(Value.int .i64 g0_x_0), (Value.int .i64 g0_x_1)] T_2_int)) fun h1 =>
ixOk (0 : Int) 2 (∃ n2 : Int, rd h1 (Addr.add (Addr.mk (Array.size h) 0 none) (Int.toNat (0 : Int) * 1)) = some (Value.int .i64 n2) ∧
  ∃ n3 : Int, rd h1 g2_x = some (Value.int .i64 n3) ∧
  (if (n2 == n3) = true then (Q [(Value.bool true)] h1) else
    (ixOk (1 : Int) 2 (∃ n4 : Int, rd h1 (Addr.add (Addr.mk (Array.size h) 0 none) (Int.toNat (1 : Int) * 1)) = some (Value.int .i64 n4) ∧
        ∃ n5 : Int, rd h1 g2_x = some (Value.int .i64 n5) ∧
        Q [(Value.bool (n4 == n5))] h1))))
def A_edge_Edges_Drop_1 : Ann := .nil
theorem E_edge_Edges_Drop_1 (g0_x_0 : Int) (g0_x_1 : Int) (g1_x : Int) (g2_x : Addr) (h : Hp) (Q : List Value → Hp → Prop) : cw PP 16 (fun _ => []) (bodyOf Try.f36) A_edge_Edges_Drop_1 (finQ PP (Try.f36.results.toList) Q) (argFr [(Value.agg #[(Value.int .i64 g0_x_0), (Value.int .i64 g0_x_1)]), (Value.int .i64 g1_x), (Value.pointer (some g2_x))]) h = F_edge_Edges_Drop_1 g0_x_0 g0_x_1 g1_x g2_x h Q := by kernel_rfl
theorem O_edge_Edges_Drop_1 (g0_x_0 : Int) (g0_x_1 : Int) (g1_x : Int) (g2_x : Addr) {h : Hp} {Q : List Value → Hp → Prop} (H : F_edge_Edges_Drop_1 g0_x_0 g0_x_1 g1_x g2_x h Q) : S_edge_Edges_Drop_1 g0_x_0 g0_x_1 g1_x g2_x h Q :=
  fn_of_cw (hs := (fun _ => [])) (ann := A_edge_Edges_Drop_1) (args := [(Value.agg #[(Value.int .i64 g0_x_0), (Value.int .i64 g0_x_1)]), (Value.int .i64 g1_x), (Value.pointer (some g2_x))]) mixedPP Try.func36 (c := bodyOf Try.f36) (by kernel_rfl) (by kernel_rfl) (by kernel_rfl) (Eq.mpr (E_edge_Edges_Drop_1 g0_x_0 g0_x_1 g1_x g2_x h Q) H)
def F_cmp_Or_int (g0_vals : Sl) (h : Hp) (Q : List Value → Hp → Prop) : Prop :=
∀ X1 : List Value → Hp → Prop, (∀ n2 : Int, ∀ h3 : Hp, ((if (decide (n2 < (g0_vals.n : Int))) = true then
      (nilW g0_vals.a fun a4 => ixOk n2 g0_vals.n (∃ n5 : Int, rd h3 (Addr.add a4 (Int.toNat n2 * 1)) = some (Value.int .i64 n5) ∧
          (if (n5 != (0 : Int)) = true then
            (Q [(Value.int .i64 n5)] h3) else
            (X1 [(Value.int .i64 (IntKind.wrap .i64 (n2 + (1 : Int))))] h3)))) else
      (Q [(Value.int .i64 (0 : Int))] h3))) → X1 [(Value.int .i64 n2)] h3) →
X1 [(Value.int .i64 (0 : Int))] h
def A_cmp_Or_int : Ann := (.mk none ⟨[], []⟩ .nil (.mk none ⟨[], []⟩ .nil (.mk none ⟨[], []⟩ (.mk none ⟨[], []⟩ .nil (.mk none ⟨[], []⟩ (.mk none ⟨[3, 6, 7], [(8, (.c (.int .i64)))]⟩ .nil .nil) .nil)) .nil)))
theorem E_cmp_Or_int (g0_vals : Sl) (h : Hp) (Q : List Value → Hp → Prop) : cw PP 18 (fun _ => []) (bodyOf Try.f42) A_cmp_Or_int (finQ PP (Try.f42.results.toList) Q) (argFr [(Value.slice g0_vals.a g0_vals.n g0_vals.c)]) h = F_cmp_Or_int g0_vals h Q := by kernel_rfl
theorem O_cmp_Or_int (g0_vals : Sl) {h : Hp} {Q : List Value → Hp → Prop} (H : F_cmp_Or_int g0_vals h Q) : S_cmp_Or_int g0_vals h Q :=
  fn_of_cw (hs := (fun _ => [])) (ann := A_cmp_Or_int) (args := [(Value.slice g0_vals.a g0_vals.n g0_vals.c)]) mixedPP Try.func42 (c := bodyOf Try.f42) (by kernel_rfl) (by kernel_rfl) (by kernel_rfl) (Eq.mpr (E_cmp_Or_int g0_vals h Q) H)
def F_cmp_Compare_int (g0_x : Int) (g1_y : Int) (h : Hp) (Q : List Value → Hp → Prop) : Prop :=
S_cmp_isNaN_int g0_x h fun (vs1 : List Value) (h2 : Hp) =>
∃ b3 : Bool, vs1 = [(Value.bool b3)] ∧
S_cmp_isNaN_int g1_y h2 fun (vs4 : List Value) (h5 : Hp) =>
∃ b6 : Bool, vs4 = [(Value.bool b6)] ∧
(if b3 = true then
  ((if b6 = true then
      (Q [(Value.int .i64 (0 : Int))] h5) else
      (Q [(Value.int .i64 (-1 : Int))] h5))) else
  ((if b6 = true then
      (Q [(Value.int .i64 (1 : Int))] h5) else
      ((if (decide (g0_x < g1_y)) = true then
          (Q [(Value.int .i64 (-1 : Int))] h5) else
          ((if (decide (g0_x > g1_y)) = true then
              (Q [(Value.int .i64 (1 : Int))] h5) else
              (Q [(Value.int .i64 (0 : Int))] h5))))))))
def A_cmp_Compare_int : Ann := .nil
theorem E_cmp_Compare_int (g0_x : Int) (g1_y : Int) (h : Hp) (Q : List Value → Hp → Prop) : cw PP 20 (fun _ => []) (bodyOf Try.f43) A_cmp_Compare_int (finQ PP (Try.f43.results.toList) Q) (argFr [(Value.int .i64 g0_x), (Value.int .i64 g1_y)]) h = F_cmp_Compare_int g0_x g1_y h Q := by kernel_rfl
theorem O_cmp_Compare_int (g0_x : Int) (g1_y : Int) {h : Hp} {Q : List Value → Hp → Prop} (H : F_cmp_Compare_int g0_x g1_y h Q) : S_cmp_Compare_int g0_x g1_y h Q :=
  fn_of_cw (hs := (fun _ => [])) (ann := A_cmp_Compare_int) (args := [(Value.int .i64 g0_x), (Value.int .i64 g1_y)]) mixedPP Try.func43 (c := bodyOf Try.f43) (by kernel_rfl) (by kernel_rfl) (by kernel_rfl) (Eq.mpr (E_cmp_Compare_int g0_x g1_y h Q) H)
def F_edge_Edges_All_1 (g0_a_0 : Int) (g0_a_1 : Int) (g1_b_0 : Int) (g1_b_1 : Int) (h : Hp) (Q : List Value → Hp → Prop) : Prop :=
wth (Array.push h (Obj.cells #[(Value.int .i64 g0_a_0), (Value.int .i64 g0_a_1)] T_2_int)) fun h1 =>
wth (Array.push h1 (Obj.cells #[(Value.int .i64 g1_b_0), (Value.int .i64 g1_b_1)] T_2_int)) fun h2 =>
ixOk (0 : Int) 2 (∃ n3 : Int, rd h2 (Addr.add (Addr.mk (Array.size h) 0 none) (Int.toNat (0 : Int) * 1)) = some (Value.int .i64 n3) ∧
  ixOk (0 : Int) 2 (∃ n4 : Int, rd h2 (Addr.add (Addr.mk (Array.size h1) 0 none) (Int.toNat (0 : Int) * 1)) = some (Value.int .i64 n4) ∧
    ixOk (1 : Int) 2 (∃ n5 : Int, rd h2 (Addr.add (Addr.mk (Array.size h) 0 none) (Int.toNat (1 : Int) * 1)) = some (Value.int .i64 n5) ∧
      ixOk (1 : Int) 2 (∃ n6 : Int, rd h2 (Addr.add (Addr.mk (Array.size h1) 0 none) (Int.toNat (1 : Int) * 1)) = some (Value.int .i64 n6) ∧
        S_cmp_Compare_int n3 n4 h2 fun (vs7 : List Value) (h8 : Hp) =>
        ∃ n9 : Int, vs7 = [(Value.int .i64 n9)] ∧
        rd h8 (Addr.add (Addr.mk (Array.size h1) 0 none) (Int.toNat (1 : Int) * 1)) = some (Value.int .i64 n6) ∧ rd h8 (Addr.add (Addr.mk (Array.size h) 0 none) (Int.toNat (1 : Int) * 1)) = some (Value.int .i64 n5) ∧ S_cmp_Compare_int n5 n6 h8 fun (vs10 : List Value) (h11 : Hp) =>
        ∃ n12 : Int, vs10 = [(Value.int .i64 n12)] ∧
        wth (Array.push h11 (Obj.cells #[(Value.int .i64 n9), (Value.int .i64 n12)] T_int)) fun h13 =>
        S_cmp_Or_int ⟨(some (Addr.mk (Array.size h11) 0 none)), 2, 2⟩ h13 fun (vs14 : List Value) (h15 : Hp) =>
        ∃ n16 : Int, vs14 = [(Value.int .i64 n16)] ∧
        Q [(Value.int .i64 n16)] h15))))
def A_edge_Edges_All_1 : Ann := .nil
theorem E_edge_Edges_All_1 (g0_a_0 : Int) (g0_a_1 : Int) (g1_b_0 : Int) (g1_b_1 : Int) (h : Hp) (Q : List Value → Hp → Prop) : cw PP 17 (fun _ => []) (bodyOf Try.f41) A_edge_Edges_All_1 (finQ PP (Try.f41.results.toList) Q) (argFr [(Value.agg #[(Value.int .i64 g0_a_0), (Value.int .i64 g0_a_1)]), (Value.agg #[(Value.int .i64 g1_b_0), (Value.int .i64 g1_b_1)])]) h = F_edge_Edges_All_1 g0_a_0 g0_a_1 g1_b_0 g1_b_1 h Q := by kernel_rfl
theorem O_edge_Edges_All_1 (g0_a_0 : Int) (g0_a_1 : Int) (g1_b_0 : Int) (g1_b_1 : Int) {h : Hp} {Q : List Value → Hp → Prop} (H : F_edge_Edges_All_1 g0_a_0 g0_a_1 g1_b_0 g1_b_1 h Q) : S_edge_Edges_All_1 g0_a_0 g0_a_1 g1_b_0 g1_b_1 h Q :=
  fn_of_cw (hs := (fun _ => [])) (ann := A_edge_Edges_All_1) (args := [(Value.agg #[(Value.int .i64 g0_a_0), (Value.int .i64 g0_a_1)]), (Value.agg #[(Value.int .i64 g1_b_0), (Value.int .i64 g1_b_1)])]) mixedPP Try.func41 (c := bodyOf Try.f41) (by kernel_rfl) (by kernel_rfl) (by kernel_rfl) (Eq.mpr (E_edge_Edges_All_1 g0_a_0 g0_a_1 g1_b_0 g1_b_1 h Q) H)
def F_maps_Keys_map_2_int_int_2_int_int_1 (g0_yield_f : Nat) (g0_yield_c : Array Value) (g1_x : Addr) (h : Hp) (Q : List Value → Hp → Prop) : Prop :=
∃ r1 : Option Nat, rd h g1_x = some (Value.map r1) ∧
∃ o2 : Obj, IterOf h r1 o2 ∧ wth (Array.push h o2) fun h3 =>
∀ X4 : List Value → Hp → Prop, (∀ h5 : Hp, ((Addr.off (Addr.mk (Array.size h) 0 none) = 0 ∧ ∃ o6 : Obj, h5[Addr.block (Addr.mk (Array.size h) 0 none)]? = some o6 ∧ IterGood h5 o6 ∧
      (IterEnd h5 o6 → Q [] h5) ∧
      ∀ (k7 v8 : Value) (o9 : Obj), IterStep h5 o6 k7 v8 o9 → wth (Array.setIfInBounds h5 (Addr.block (Addr.mk (Array.size h) 0 none)) o9) fun h10 =>
      (Addr.off (Addr.mk (Array.size h) 0 none) = 0 ∧ ∃ (m11 n12 : Nat) (q13 : Array Nat) (n14 : Nat) (es15 : Array MapEntry) (c16 : Nat) (e17 : MapEntry), h10[Addr.block (Addr.mk (Array.size h) 0 none)]? = some (.mapIter (some m11) n12 q13 c16) ∧ Array.back? q13 = some n14 ∧ h10[m11]? = some (.map es15 c16) ∧ Array.find? (fun x => x.born == n14) es15 = some e17 ∧ ∃ n18 : Int, ∃ n19 : Int, e17.key = (Value.agg #[(Value.int .i64 n18), (Value.int .i64 n19)]) ∧ ∃ v20 : Value, e17.val = v20 ∧ wth (Array.push h10 (Obj.cells #[(Value.int .i64 (0 : Int)), (Value.int .i64 (0 : Int))] T_2_int)) fun h21 =>
        stOk h21 (Addr.mk (Array.size h10) 0 none) 2 ∧ wth (wrs h21 (Addr.mk (Array.size h10) 0 none) 0 [(Value.int .i64 n18), (Value.int .i64 n19)]) fun h22 =>
        ∃ n23 : Int, rd h22 (Addr.add (Addr.mk (Array.size h10) 0 none) 0) = some (Value.int .i64 n23) ∧ ∃ n24 : Int, rd h22 (Addr.add (Addr.mk (Array.size h10) 0 none) 1) = some (Value.int .i64 n24) ∧ Fn PP g0_yield_f ((#[] ++ #[(Value.agg #[(Value.int .i64 n23), (Value.int .i64 n24)])]) ++ g0_yield_c) h22 fun (vs25 : List Value) (h26 : Hp) =>
        ∃ b27 : Bool, vs25 = [(Value.bool b27)] ∧
        (if (!b27) = true then
          (Q [] h26) else
          (X4 [] h26))))) → X4 [] h5) →
X4 [] h3
def A_maps_Keys_map_2_int_int_2_int_int_1 : Ann := (.mk none ⟨[], []⟩ .nil (.mk none ⟨[], []⟩ (.mk none ⟨[0, 5], []⟩ .nil .nil) .nil))
theorem E_maps_Keys_map_2_int_int_2_int_int_1 (g0_yield_f : Nat) (g0_yield_c : Array Value) (g1_x : Addr) (h : Hp) (Q : List Value → Hp → Prop) : cw PP 14 (fun d => if d = 8 then [(.agg [(.int .i64), (.int .i64)]), (.c .any)] else []) (bodyOf Try.f61) A_maps_Keys_map_2_int_int_2_int_int_1 (finQ PP (Try.f61.results.toList) Q) (argFr [(Value.func (.func g0_yield_f) #[] g0_yield_c), (Value.pointer (some g1_x))]) h = F_maps_Keys_map_2_int_int_2_int_int_1 g0_yield_f g0_yield_c g1_x h Q := by kernel_rfl
theorem O_maps_Keys_map_2_int_int_2_int_int_1 (g0_yield_f : Nat) (g0_yield_c : Array Value) (g1_x : Addr) {h : Hp} {Q : List Value → Hp → Prop} (H : F_maps_Keys_map_2_int_int_2_int_int_1 g0_yield_f g0_yield_c g1_x h Q) : S_maps_Keys_map_2_int_int_2_int_int_1 g0_yield_f g0_yield_c g1_x h Q :=
  fn_of_cw (hs := (fun d => if d = 8 then [(.agg [(.int .i64), (.int .i64)]), (.c .any)] else [])) (ann := A_maps_Keys_map_2_int_int_2_int_int_1) (args := [(Value.func (.func g0_yield_f) #[] g0_yield_c), (Value.pointer (some g1_x))]) mixedPP Try.func61 (c := bodyOf Try.f61) (by kernel_rfl) (by kernel_rfl) (by kernel_rfl) (Eq.mpr (E_maps_Keys_map_2_int_int_2_int_int_1 g0_yield_f g0_yield_c g1_x h Q) H)
end Go.Lift

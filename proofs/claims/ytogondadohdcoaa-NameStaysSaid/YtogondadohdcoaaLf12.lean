/- Printed by lift.py: each Go function of this seat as a Prop over the heap, and that the Go code comes to it. -/
import Derived.Test.YtogondadohdcoaaLvL
import Derived.Test.YtogondadohdcoaaProg
set_option linter.unusedSimpArgs false
set_option linter.unusedVariables false
namespace Go.Lift
open Go Go.Proofs
set_option maxRecDepth 100000
noncomputable abbrev PP : Program := Try.prog
theorem mixedPP : PP.follows .mixedOrders = true := by kernel_rfl
def bodyOf (f : Func) : Code := f.body.getD .skip
abbrev T_int : TypeId := 3
abbrev T_uint8 : TypeId := 5
abbrev T_string : TypeId := 9
abbrev T_pclog_Log : TypeId := 24
abbrev T_api_Table : TypeId := 28
abbrev T_liverylaw12_Step : TypeId := 51
abbrev T_clog_tx : TypeId := 59
abbrev T_clog_Log : TypeId := 62
abbrev T_name_version : TypeId := 66
abbrev T_name_Names : TypeId := 70
abbrev T_map_int_int : TypeId := 73
abbrev T_api_Value : TypeId := 83
abbrev T_api_Column : TypeId := 85
abbrev T_value_own : TypeId := 130
abbrev T_slices_xorshift : TypeId := 132
/-- main.main -/
def S_main_main (h : Hp) (Q : List Value → Hp → Prop) : Prop := Fn PP 0 #[] h Q
/-- gosem.cut -/
def S_gosem_cut (h : Hp) (Q : List Value → Hp → Prop) : Prop := Fn PP 1 #[] h Q
/-- gosem.cut.init -/
def S_gosem_cut_init (h : Hp) (Q : List Value → Hp → Prop) : Prop := Fn PP 2 #[] h Q
/-- livery/clog.New -/
def S_clog_New (h : Hp) (Q : List Value → Hp → Prop) : Prop := Fn PP 9 #[] h Q
/-- (*livery/clog.Log).get -/
def S_clog_Log_get (g0_l : Option Addr) (g1_xid : Int) (h : Hp) (Q : List Value → Hp → Prop) : Prop := Fn PP 41 #[(Value.pointer g0_l), (Value.int .i64 g1_xid)] h Q
/-- (*livery/clog.Log).one -/
def S_clog_Log_one (g0_l : Option Addr) (g1_xid : Int) (h : Hp) (Q : List Value → Hp → Prop) : Prop := Fn PP 40 #[(Value.pointer g0_l), (Value.int .i64 g1_xid)] h Q
/-- (*livery/clog.Log).State -/
def S_clog_Log_State (g0_l : Option Addr) (g1_xid : Int) (h : Hp) (Q : List Value → Hp → Prop) : Prop := Fn PP 22 #[(Value.pointer g0_l), (Value.int .i64 g1_xid)] h Q
/-- (*livery/clog.Log).Sees -/
def S_clog_Log_Sees (g0_l : Option Addr) (g1_xid : Int) (g2_other : Int) (h : Hp) (Q : List Value → Hp → Prop) : Prop := Fn PP 23 #[(Value.pointer g0_l), (Value.int .i64 g1_xid), (Value.int .i64 g2_other)] h Q
/-- (livery/name.version).sees -/
def S_name_version_sees (g0_v_0 : Int) (g0_v_1 : Int) (g0_v_2 : ByteArray) (g0_v_3 : Sl) (g0_v_4 : Int) (g1_l : Option Addr) (g2_xid : Int) (h : Hp) (Q : List Value → Hp → Prop) : Prop := Fn PP 43 #[(Value.agg #[(Value.int .i64 g0_v_0), (Value.int .i64 g0_v_1), (Value.string g0_v_2), (Value.slice g0_v_3.a g0_v_3.n g0_v_3.c), (Value.int .i64 g0_v_4)]), (Value.pointer g1_l), (Value.int .i64 g2_xid)] h Q
/-- (*livery/name.Names).at -/
def S_name_Names_at (g0_n : Option Addr) (g1_l : Option Addr) (g2_xid : Int) (g3_name : ByteArray) (h : Hp) (Q : List Value → Hp → Prop) : Prop := Fn PP 26 #[(Value.pointer g0_n), (Value.pointer g1_l), (Value.int .i64 g2_xid), (Value.string g3_name)] h Q
/-- slices.Clone[[]livery/api.Column,livery/api.Column] -/
def S_slices_Clone_sapi_Column_api_Column (g0_s : Sl) (h : Hp) (Q : List Value → Hp → Prop) : Prop := Fn PP 44 #[(Value.slice g0_s.a g0_s.n g0_s.c)] h Q
/-- livery/name.copied -/
def S_name_copied (g0_t_0 : ByteArray) (g0_t_1 : Sl) (g0_t_2 : Int) (h : Hp) (Q : List Value → Hp → Prop) : Prop := Fn PP 27 #[(Value.agg #[(Value.string g0_t_0), (Value.slice g0_t_1.a g0_t_1.n g0_t_1.c), (Value.int .i64 g0_t_2)])] h Q
/-- (*livery/name.Names).See -/
def S_name_Names_See (g0_n : Option Addr) (g1_l : Option Addr) (g2_xid : Int) (g3_name : ByteArray) (h : Hp) (Q : List Value → Hp → Prop) : Prop := Fn PP 10 #[(Value.pointer g0_n), (Value.pointer g1_l), (Value.int .i64 g2_xid), (Value.string g3_name)] h Q
/-- slices.AppendSeq[[]int,int] -/
def S_slices_AppendSeq_sint_int (g0_s : Sl) (g1_seq_f : Nat) (g1_seq_c : Array Value) (h : Hp) (Q : List Value → Hp → Prop) : Prop := Fn PP 57 #[(Value.slice g0_s.a g0_s.n g0_s.c), (Value.func (.func g1_seq_f) #[] g1_seq_c)] h Q
/-- slices.Collect[int] -/
def S_slices_Collect_int (g0_seq_f : Nat) (g0_seq_c : Array Value) (h : Hp) (Q : List Value → Hp → Prop) : Prop := Fn PP 45 #[(Value.func (.func g0_seq_f) #[] g0_seq_c)] h Q
/-- math/bits.Len64 -/
def S_math_bits_Len64 (g0_x : Int) (h : Hp) (Q : List Value → Hp → Prop) : Prop := Fn PP 72 #[(Value.int .u64 g0_x)] h Q
/-- math/bits.Len -/
def S_math_bits_Len (g0_x : Int) (h : Hp) (Q : List Value → Hp → Prop) : Prop := Fn PP 53 #[(Value.int .u64 g0_x)] h Q
/-- cmp.isNaN[int] -/
def S_cmp_isNaN_int (g0_x : Int) (h : Hp) (Q : List Value → Hp → Prop) : Prop := Fn PP 97 #[(Value.int .i64 g0_x)] h Q
/-- cmp.Less[int] -/
def S_cmp_Less_int (g0_x : Int) (g1_y : Int) (h : Hp) (Q : List Value → Hp → Prop) : Prop := Fn PP 80 #[(Value.int .i64 g0_x), (Value.int .i64 g1_y)] h Q
/-- slices.insertionSortOrdered[int] -/
def S_slices_insertionSortOrdered_int (g0_data : Sl) (g1_a : Int) (g2_b : Int) (h : Hp) (Q : List Value → Hp → Prop) : Prop := Fn PP 74 #[(Value.slice g0_data.a g0_data.n g0_data.c), (Value.int .i64 g1_a), (Value.int .i64 g2_b)] h Q
/-- slices.siftDownOrdered[int] -/
def S_slices_siftDownOrdered_int (g0_data : Sl) (g1_lo : Int) (g2_hi : Int) (g3_first : Int) (h : Hp) (Q : List Value → Hp → Prop) : Prop := Fn PP 94 #[(Value.slice g0_data.a g0_data.n g0_data.c), (Value.int .i64 g1_lo), (Value.int .i64 g2_hi), (Value.int .i64 g3_first)] h Q
/-- slices.heapSortOrdered[int] -/
def S_slices_heapSortOrdered_int (g0_data : Sl) (g1_a : Int) (g2_b : Int) (h : Hp) (Q : List Value → Hp → Prop) : Prop := Fn PP 75 #[(Value.slice g0_data.a g0_data.n g0_data.c), (Value.int .i64 g1_a), (Value.int .i64 g2_b)] h Q
/-- slices.nextPowerOfTwo -/
def S_slices_nextPowerOfTwo (g0_length : Int) (h : Hp) (Q : List Value → Hp → Prop) : Prop := Fn PP 89 #[(Value.int .i64 g0_length)] h Q
/-- (*slices.xorshift).Next -/
def S_slices_xorshift_Next (g0_r : Option Addr) (h : Hp) (Q : List Value → Hp → Prop) : Prop := Fn PP 90 #[(Value.pointer g0_r)] h Q
/-- slices.breakPatternsOrdered[int] -/
def S_slices_breakPatternsOrdered_int (g0_data : Sl) (g1_a : Int) (g2_b : Int) (h : Hp) (Q : List Value → Hp → Prop) : Prop := Fn PP 76 #[(Value.slice g0_data.a g0_data.n g0_data.c), (Value.int .i64 g1_a), (Value.int .i64 g2_b)] h Q
/-- slices.order2Ordered[int] -/
def S_slices_order2Ordered_int (g0_data : Sl) (g1_a : Int) (g2_b : Int) (g3_swaps : Option Addr) (h : Hp) (Q : List Value → Hp → Prop) : Prop := Fn PP 101 #[(Value.slice g0_data.a g0_data.n g0_data.c), (Value.int .i64 g1_a), (Value.int .i64 g2_b), (Value.pointer g3_swaps)] h Q
/-- slices.medianOrdered[int] -/
def S_slices_medianOrdered_int (g0_data : Sl) (g1_a : Int) (g2_b : Int) (g3_c : Int) (g4_swaps : Option Addr) (h : Hp) (Q : List Value → Hp → Prop) : Prop := Fn PP 96 #[(Value.slice g0_data.a g0_data.n g0_data.c), (Value.int .i64 g1_a), (Value.int .i64 g2_b), (Value.int .i64 g3_c), (Value.pointer g4_swaps)] h Q
/-- slices.medianAdjacentOrdered[int] -/
def S_slices_medianAdjacentOrdered_int (g0_data : Sl) (g1_a : Int) (g2_swaps : Option Addr) (h : Hp) (Q : List Value → Hp → Prop) : Prop := Fn PP 95 #[(Value.slice g0_data.a g0_data.n g0_data.c), (Value.int .i64 g1_a), (Value.pointer g2_swaps)] h Q
/-- slices.choosePivotOrdered[int] -/
def S_slices_choosePivotOrdered_int (g0_data : Sl) (g1_a : Int) (g2_b : Int) (h : Hp) (Q : List Value → Hp → Prop) : Prop := Fn PP 77 #[(Value.slice g0_data.a g0_data.n g0_data.c), (Value.int .i64 g1_a), (Value.int .i64 g2_b)] h Q
/-- slices.reverseRangeOrdered[int] -/
def S_slices_reverseRangeOrdered_int (g0_data : Sl) (g1_a : Int) (g2_b : Int) (h : Hp) (Q : List Value → Hp → Prop) : Prop := Fn PP 78 #[(Value.slice g0_data.a g0_data.n g0_data.c), (Value.int .i64 g1_a), (Value.int .i64 g2_b)] h Q
/-- slices.partialInsertionSortOrdered[int] -/
def S_slices_partialInsertionSortOrdered_int (g0_data : Sl) (g1_a : Int) (g2_b : Int) (h : Hp) (Q : List Value → Hp → Prop) : Prop := Fn PP 79 #[(Value.slice g0_data.a g0_data.n g0_data.c), (Value.int .i64 g1_a), (Value.int .i64 g2_b)] h Q
/-- slices.partitionEqualOrdered[int] -/
def S_slices_partitionEqualOrdered_int (g0_data : Sl) (g1_a : Int) (g2_b : Int) (g3_pivot : Int) (h : Hp) (Q : List Value → Hp → Prop) : Prop := Fn PP 81 #[(Value.slice g0_data.a g0_data.n g0_data.c), (Value.int .i64 g1_a), (Value.int .i64 g2_b), (Value.int .i64 g3_pivot)] h Q
/-- slices.partitionOrdered[int] -/
def S_slices_partitionOrdered_int (g0_data : Sl) (g1_a : Int) (g2_b : Int) (g3_pivot : Int) (h : Hp) (Q : List Value → Hp → Prop) : Prop := Fn PP 82 #[(Value.slice g0_data.a g0_data.n g0_data.c), (Value.int .i64 g1_a), (Value.int .i64 g2_b), (Value.int .i64 g3_pivot)] h Q
/-- slices.pdqsortOrdered[int] -/
def S_slices_pdqsortOrdered_int (g0_data : Sl) (g1_a : Int) (g2_b : Int) (g3_limit : Int) (h : Hp) (Q : List Value → Hp → Prop) : Prop := Fn PP 58 #[(Value.slice g0_data.a g0_data.n g0_data.c), (Value.int .i64 g1_a), (Value.int .i64 g2_b), (Value.int .i64 g3_limit)] h Q
/-- slices.Sort[[]int,int] -/
def S_slices_Sort_sint_int (g0_x : Sl) (h : Hp) (Q : List Value → Hp → Prop) : Prop := Fn PP 46 #[(Value.slice g0_x.a g0_x.n g0_x.c)] h Q
/-- slices.Sorted[int] -/
def S_slices_Sorted_int (g0_seq_f : Nat) (g0_seq_c : Array Value) (h : Hp) (Q : List Value → Hp → Prop) : Prop := Fn PP 30 #[(Value.func (.func g0_seq_f) #[] g0_seq_c)] h Q
/-- maps.Keys[map[int]int,int,int] -/
def S_maps_Keys_map_int_int_int_int (g0_m : Option Nat) (h : Hp) (Q : List Value → Hp → Prop) : Prop := Fn PP 31 #[(Value.map g0_m)] h Q
/-- (*livery/name.Names).Unseen -/
def S_name_Names_Unseen (g0_n : Option Addr) (g1_l : Option Addr) (g2_xid : Int) (g3_name : ByteArray) (h : Hp) (Q : List Value → Hp → Prop) : Prop := Fn PP 12 #[(Value.pointer g0_n), (Value.pointer g1_l), (Value.int .i64 g2_xid), (Value.string g3_name)] h Q
/-- slices.IndexFunc[[]int,int] -/
def S_slices_IndexFunc_sint_int (g0_s : Sl) (g1_f_f : Nat) (g1_f_c : Array Value) (h : Hp) (Q : List Value → Hp → Prop) : Prop := Fn PP 28 #[(Value.slice g0_s.a g0_s.n g0_s.c), (Value.func (.func g1_f_f) #[] g1_f_c)] h Q
/-- (*livery/name.Names).May -/
def S_name_Names_May (g0_n : Option Addr) (g1_l : Option Addr) (g2_xid : Int) (g3_name : ByteArray) (h : Hp) (Q : List Value → Hp → Prop) : Prop := Fn PP 11 #[(Value.pointer g0_n), (Value.pointer g1_l), (Value.int .i64 g2_xid), (Value.string g3_name)] h Q
/-- livery/value.Name -/
def S_value_Name (g0_s : ByteArray) (h : Hp) (Q : List Value → Hp → Prop) : Prop := Fn PP 32 #[(Value.string g0_s)] h Q
/-- livery/value.Good -/
def S_value_Good (g0_v_0 : Int) (g0_v_1 : Int) (g0_v_2 : Nat) (g0_v_3 : ByteArray) (h : Hp) (Q : List Value → Hp → Prop) : Prop := Fn PP 59 #[(Value.agg #[(Value.int .i64 g0_v_0), (Value.int .i64 g0_v_1), (Value.float .f64 g0_v_2), (Value.string g0_v_3)])] h Q
/-- livery/row.one -/
def S_row_one (g0_c_0 : ByteArray) (g0_c_1 : Int) (g0_c_2 : Bool) (g0_c_3 : Int) (g0_c_4 : Int) (g0_c_5 : Nat) (g0_c_6 : ByteArray) (h : Hp) (Q : List Value → Hp → Prop) : Prop := Fn PP 48 #[(Value.agg #[(Value.string g0_c_0), (Value.int .i64 g0_c_1), (Value.bool g0_c_2), (Value.int .i64 g0_c_3), (Value.int .i64 g0_c_4), (Value.float .f64 g0_c_5), (Value.string g0_c_6)])] h Q
/-- slices.IndexFunc[[]livery/api.Column,livery/api.Column] -/
def S_slices_IndexFunc_sapi_Column_api_Column (g0_s : Sl) (g1_f_f : Nat) (g1_f_c : Array Value) (h : Hp) (Q : List Value → Hp → Prop) : Prop := Fn PP 60 #[(Value.slice g0_s.a g0_s.n g0_s.c), (Value.func (.func g1_f_f) #[] g1_f_c)] h Q
/-- livery/row.Find -/
def S_row_Find (g0_l : Sl) (g1_name : ByteArray) (h : Hp) (Q : List Value → Hp → Prop) : Prop := Fn PP 49 #[(Value.slice g0_l.a g0_l.n g0_l.c), (Value.string g1_name)] h Q
/-- livery/row.Good -/
def S_row_Good (g0_l : Sl) (h : Hp) (Q : List Value → Hp → Prop) : Prop := Fn PP 33 #[(Value.slice g0_l.a g0_l.n g0_l.c)] h Q
/-- slices.IndexFunc[[]livery/name.version,livery/name.version] -/
def S_slices_IndexFunc_sname_version_name_version (g0_s : Sl) (g1_f_f : Nat) (g1_f_c : Array Value) (h : Hp) (Q : List Value → Hp → Prop) : Prop := Fn PP 62 #[(Value.slice g0_s.a g0_s.n g0_s.c), (Value.func (.func g1_f_f) #[] g1_f_c)] h Q
/-- slices.ContainsFunc[[]livery/name.version,livery/name.version] -/
def S_slices_ContainsFunc_sname_version_name_version (g0_s : Sl) (g1_f_f : Nat) (g1_f_c : Array Value) (h : Hp) (Q : List Value → Hp → Prop) : Prop := Fn PP 50 #[(Value.slice g0_s.a g0_s.n g0_s.c), (Value.func (.func g1_f_f) #[] g1_f_c)] h Q
/-- (*livery/name.Names).others -/
def S_name_Names_others (g0_n : Option Addr) (g1_l : Option Addr) (g2_xid : Int) (g3_name : ByteArray) (h : Hp) (Q : List Value → Hp → Prop) : Prop := Fn PP 34 #[(Value.pointer g0_n), (Value.pointer g1_l), (Value.int .i64 g2_xid), (Value.string g3_name)] h Q
/-- (*livery/name.Names).Put -/
def S_name_Names_Put (g0_n : Option Addr) (g1_l : Option Addr) (g2_xid : Int) (g3_t_0 : ByteArray) (g3_t_1 : Sl) (g3_t_2 : Int) (h : Hp) (Q : List Value → Hp → Prop) : Prop := Fn PP 13 #[(Value.pointer g0_n), (Value.pointer g1_l), (Value.int .i64 g2_xid), (Value.agg #[(Value.string g3_t_0), (Value.slice g3_t_1.a g3_t_1.n g3_t_1.c), (Value.int .i64 g3_t_2)])] h Q
/-- livery/liverylaw12.tab -/
def S_liverylaw12_tab (g0_s : ByteArray) (g1_rel : Int) (h : Hp) (Q : List Value → Hp → Prop) : Prop := Fn PP 14 #[(Value.string g0_s), (Value.int .i64 g1_rel)] h Q
/-- slices.insertionSortCmpFunc[livery/api.Table] -/
def S_slices_insertionSortCmpFunc_api_Table (g0_data : Sl) (g1_a : Int) (g2_b : Int) (g3_cmp_f : Nat) (g3_cmp_c : Array Value) (h : Hp) (Q : List Value → Hp → Prop) : Prop := Fn PP 63 #[(Value.slice g0_data.a g0_data.n g0_data.c), (Value.int .i64 g1_a), (Value.int .i64 g2_b), (Value.func (.func g3_cmp_f) #[] g3_cmp_c)] h Q
/-- slices.siftDownCmpFunc[livery/api.Table] -/
def S_slices_siftDownCmpFunc_api_Table (g0_data : Sl) (g1_lo : Int) (g2_hi : Int) (g3_first : Int) (g4_cmp_f : Nat) (g4_cmp_c : Array Value) (h : Hp) (Q : List Value → Hp → Prop) : Prop := Fn PP 88 #[(Value.slice g0_data.a g0_data.n g0_data.c), (Value.int .i64 g1_lo), (Value.int .i64 g2_hi), (Value.int .i64 g3_first), (Value.func (.func g4_cmp_f) #[] g4_cmp_c)] h Q
/-- slices.heapSortCmpFunc[livery/api.Table] -/
def S_slices_heapSortCmpFunc_api_Table (g0_data : Sl) (g1_a : Int) (g2_b : Int) (g3_cmp_f : Nat) (g3_cmp_c : Array Value) (h : Hp) (Q : List Value → Hp → Prop) : Prop := Fn PP 64 #[(Value.slice g0_data.a g0_data.n g0_data.c), (Value.int .i64 g1_a), (Value.int .i64 g2_b), (Value.func (.func g3_cmp_f) #[] g3_cmp_c)] h Q
/-- slices.breakPatternsCmpFunc[livery/api.Table] -/
def S_slices_breakPatternsCmpFunc_api_Table (g0_data : Sl) (g1_a : Int) (g2_b : Int) (g3_cmp_f : Nat) (g3_cmp_c : Array Value) (h : Hp) (Q : List Value → Hp → Prop) : Prop := Fn PP 65 #[(Value.slice g0_data.a g0_data.n g0_data.c), (Value.int .i64 g1_a), (Value.int .i64 g2_b), (Value.func (.func g3_cmp_f) #[] g3_cmp_c)] h Q
/-- slices.order2CmpFunc[livery/api.Table] -/
def S_slices_order2CmpFunc_api_Table (g0_data : Sl) (g1_a : Int) (g2_b : Int) (g3_swaps : Option Addr) (g4_cmp_f : Nat) (g4_cmp_c : Array Value) (h : Hp) (Q : List Value → Hp → Prop) : Prop := Fn PP 100 #[(Value.slice g0_data.a g0_data.n g0_data.c), (Value.int .i64 g1_a), (Value.int .i64 g2_b), (Value.pointer g3_swaps), (Value.func (.func g4_cmp_f) #[] g4_cmp_c)] h Q
/-- slices.medianCmpFunc[livery/api.Table] -/
def S_slices_medianCmpFunc_api_Table (g0_data : Sl) (g1_a : Int) (g2_b : Int) (g3_c : Int) (g4_swaps : Option Addr) (g5_cmp_f : Nat) (g5_cmp_c : Array Value) (h : Hp) (Q : List Value → Hp → Prop) : Prop := Fn PP 92 #[(Value.slice g0_data.a g0_data.n g0_data.c), (Value.int .i64 g1_a), (Value.int .i64 g2_b), (Value.int .i64 g3_c), (Value.pointer g4_swaps), (Value.func (.func g5_cmp_f) #[] g5_cmp_c)] h Q
/-- slices.medianAdjacentCmpFunc[livery/api.Table] -/
def S_slices_medianAdjacentCmpFunc_api_Table (g0_data : Sl) (g1_a : Int) (g2_swaps : Option Addr) (g3_cmp_f : Nat) (g3_cmp_c : Array Value) (h : Hp) (Q : List Value → Hp → Prop) : Prop := Fn PP 91 #[(Value.slice g0_data.a g0_data.n g0_data.c), (Value.int .i64 g1_a), (Value.pointer g2_swaps), (Value.func (.func g3_cmp_f) #[] g3_cmp_c)] h Q
/-- slices.choosePivotCmpFunc[livery/api.Table] -/
def S_slices_choosePivotCmpFunc_api_Table (g0_data : Sl) (g1_a : Int) (g2_b : Int) (g3_cmp_f : Nat) (g3_cmp_c : Array Value) (h : Hp) (Q : List Value → Hp → Prop) : Prop := Fn PP 66 #[(Value.slice g0_data.a g0_data.n g0_data.c), (Value.int .i64 g1_a), (Value.int .i64 g2_b), (Value.func (.func g3_cmp_f) #[] g3_cmp_c)] h Q
/-- slices.reverseRangeCmpFunc[livery/api.Table] -/
def S_slices_reverseRangeCmpFunc_api_Table (g0_data : Sl) (g1_a : Int) (g2_b : Int) (g3_cmp_f : Nat) (g3_cmp_c : Array Value) (h : Hp) (Q : List Value → Hp → Prop) : Prop := Fn PP 67 #[(Value.slice g0_data.a g0_data.n g0_data.c), (Value.int .i64 g1_a), (Value.int .i64 g2_b), (Value.func (.func g3_cmp_f) #[] g3_cmp_c)] h Q
/-- slices.partialInsertionSortCmpFunc[livery/api.Table] -/
def S_slices_partialInsertionSortCmpFunc_api_Table (g0_data : Sl) (g1_a : Int) (g2_b : Int) (g3_cmp_f : Nat) (g3_cmp_c : Array Value) (h : Hp) (Q : List Value → Hp → Prop) : Prop := Fn PP 68 #[(Value.slice g0_data.a g0_data.n g0_data.c), (Value.int .i64 g1_a), (Value.int .i64 g2_b), (Value.func (.func g3_cmp_f) #[] g3_cmp_c)] h Q
/-- slices.partitionEqualCmpFunc[livery/api.Table] -/
def S_slices_partitionEqualCmpFunc_api_Table (g0_data : Sl) (g1_a : Int) (g2_b : Int) (g3_pivot : Int) (g4_cmp_f : Nat) (g4_cmp_c : Array Value) (h : Hp) (Q : List Value → Hp → Prop) : Prop := Fn PP 69 #[(Value.slice g0_data.a g0_data.n g0_data.c), (Value.int .i64 g1_a), (Value.int .i64 g2_b), (Value.int .i64 g3_pivot), (Value.func (.func g4_cmp_f) #[] g4_cmp_c)] h Q
/-- slices.partitionCmpFunc[livery/api.Table] -/
def S_slices_partitionCmpFunc_api_Table (g0_data : Sl) (g1_a : Int) (g2_b : Int) (g3_pivot : Int) (g4_cmp_f : Nat) (g4_cmp_c : Array Value) (h : Hp) (Q : List Value → Hp → Prop) : Prop := Fn PP 70 #[(Value.slice g0_data.a g0_data.n g0_data.c), (Value.int .i64 g1_a), (Value.int .i64 g2_b), (Value.int .i64 g3_pivot), (Value.func (.func g4_cmp_f) #[] g4_cmp_c)] h Q
/-- slices.pdqsortCmpFunc[livery/api.Table] -/
def S_slices_pdqsortCmpFunc_api_Table (g0_data : Sl) (g1_a : Int) (g2_b : Int) (g3_limit : Int) (g4_cmp_f : Nat) (g4_cmp_c : Array Value) (h : Hp) (Q : List Value → Hp → Prop) : Prop := Fn PP 52 #[(Value.slice g0_data.a g0_data.n g0_data.c), (Value.int .i64 g1_a), (Value.int .i64 g2_b), (Value.int .i64 g3_limit), (Value.func (.func g4_cmp_f) #[] g4_cmp_c)] h Q
/-- slices.SortFunc[[]livery/api.Table,livery/api.Table] -/
def S_slices_SortFunc_sapi_Table_api_Table (g0_x : Sl) (g1_cmp_f : Nat) (g1_cmp_c : Array Value) (h : Hp) (Q : List Value → Hp → Prop) : Prop := Fn PP 35 #[(Value.slice g0_x.a g0_x.n g0_x.c), (Value.func (.func g1_cmp_f) #[] g1_cmp_c)] h Q
/-- (*livery/name.Names).All -/
def S_name_Names_All (g0_n : Option Addr) (g1_l : Option Addr) (g2_xid : Int) (h : Hp) (Q : List Value → Hp → Prop) : Prop := Fn PP 16 #[(Value.pointer g0_n), (Value.pointer g1_l), (Value.int .i64 g2_xid)] h Q
/-- livery/name.New -/
def S_name_New (h : Hp) (Q : List Value → Hp → Prop) : Prop := Fn PP 17 #[] h Q
/-- (*livery/clog.Log).Begin -/
def S_clog_Log_Begin (g0_l : Option Addr) (g1_reads : Bool) (h : Hp) (Q : List Value → Hp → Prop) : Prop := Fn PP 18 #[(Value.pointer g0_l), (Value.bool g1_reads)] h Q
/-- livery/liverykeep.Ints -/
def S_liverykeep_Ints (g0_a : Sl) (g1_b : Sl) (h : Hp) (Q : List Value → Hp → Prop) : Prop := Fn PP 25 #[(Value.slice g0_a.a g0_a.n g0_a.c), (Value.slice g1_b.a g1_b.n g1_b.c)] h Q
/-- livery/liverylaw12.wakes -/
def S_liverylaw12_wakes (h : Hp) (Q : List Value → Hp → Prop) : Prop := Fn PP 8 #[] h Q
/-- (*livery/name.Names).Drop -/
def S_name_Names_Drop (g0_n : Option Addr) (g1_l : Option Addr) (g2_xid : Int) (g3_name : ByteArray) (h : Hp) (Q : List Value → Hp → Prop) : Prop := Fn PP 15 #[(Value.pointer g0_n), (Value.pointer g1_l), (Value.int .i64 g2_xid), (Value.string g3_name)] h Q
/-- livery/liverylaw12.NameNone -/
def S_liverylaw12_NameNone (g0_xid : Int) (g1_s : ByteArray) (h : Hp) (Q : List Value → Hp → Prop) : Prop := Fn PP 3 #[(Value.int .i64 g0_xid), (Value.string g1_s)] h Q
/-- (*livery/clog.Log).ends -/
def S_clog_Log_ends (g0_l : Option Addr) (g1_xid : Int) (h : Hp) (Q : List Value → Hp → Prop) : Prop := Fn PP 38 #[(Value.pointer g0_l), (Value.int .i64 g1_xid)] h Q
/-- (*livery/clog.Log).Abort -/
def S_clog_Log_Abort (g0_l : Option Addr) (g1_xid : Int) (h : Hp) (Q : List Value → Hp → Prop) : Prop := Fn PP 19 #[(Value.pointer g0_l), (Value.int .i64 g1_xid)] h Q
/-- livery/liverylaw12.NameMost -/
def S_liverylaw12_NameMost (g0_split : Int) (h : Hp) (Q : List Value → Hp → Prop) : Prop := Fn PP 4 #[(Value.int .u8 g0_split)] h Q
/-- livery/liverykeep.LargeValue -/
def S_liverykeep_LargeValue (g0_v_0 : Int) (g0_v_1 : Int) (g0_v_2 : Nat) (g0_v_3 : ByteArray) (h : Hp) (Q : List Value → Hp → Prop) : Prop := Fn PP 55 #[(Value.agg #[(Value.int .i64 g0_v_0), (Value.int .i64 g0_v_1), (Value.float .f64 g0_v_2), (Value.string g0_v_3)])] h Q
/-- livery/liverykeep.LargeColumns -/
def S_liverykeep_LargeColumns (g0_l : Sl) (h : Hp) (Q : List Value → Hp → Prop) : Prop := Fn PP 39 #[(Value.slice g0_l.a g0_l.n g0_l.c)] h Q
/-- livery/liverylaw12.Fair -/
def S_liverylaw12_Fair (g0_l : Sl) (h : Hp) (Q : List Value → Hp → Prop) : Prop := Fn PP 20 #[(Value.slice g0_l.a g0_l.n g0_l.c)] h Q
/-- (*livery/clog.Log).Commit -/
def S_clog_Log_Commit (g0_l : Option Addr) (g1_xid : Int) (h : Hp) (Q : List Value → Hp → Prop) : Prop := Fn PP 21 #[(Value.pointer g0_l), (Value.int .i64 g1_xid)] h Q
/-- livery/liverylaw12.NameOne -/
def S_liverylaw12_NameOne (g0_steps : Sl) (h : Hp) (Q : List Value → Hp → Prop) : Prop := Fn PP 5 #[(Value.slice g0_steps.a g0_steps.n g0_steps.c)] h Q
/-- math.Float64bits -/
def S_math_Float64bits (g0_x : Nat) (h : Hp) (Q : List Value → Hp → Prop) : Prop := Fn PP 93 #[(Value.float .f64 g0_x)] h Q
/-- livery/liverykeep.Value -/
def S_liverykeep_Value (g0_a_0 : Int) (g0_a_1 : Int) (g0_a_2 : Nat) (g0_a_3 : ByteArray) (g1_b_0 : Int) (g1_b_1 : Int) (g1_b_2 : Nat) (g1_b_3 : ByteArray) (h : Hp) (Q : List Value → Hp → Prop) : Prop := Fn PP 73 #[(Value.agg #[(Value.int .i64 g0_a_0), (Value.int .i64 g0_a_1), (Value.float .f64 g0_a_2), (Value.string g0_a_3)]), (Value.agg #[(Value.int .i64 g1_b_0), (Value.int .i64 g1_b_1), (Value.float .f64 g1_b_2), (Value.string g1_b_3)])] h Q
/-- livery/liverykeep.Columns -/
def S_liverykeep_Columns (g0_a : Sl) (g1_b : Sl) (h : Hp) (Q : List Value → Hp → Prop) : Prop := Fn PP 56 #[(Value.slice g0_a.a g0_a.n g0_a.c), (Value.slice g1_b.a g1_b.n g1_b.c)] h Q
/-- livery/liverykeep.Table -/
def S_liverykeep_Table (g0_a_0 : ByteArray) (g0_a_1 : Sl) (g0_a_2 : Int) (g1_b_0 : ByteArray) (g1_b_1 : Sl) (g1_b_2 : Int) (h : Hp) (Q : List Value → Hp → Prop) : Prop := Fn PP 42 #[(Value.agg #[(Value.string g0_a_0), (Value.slice g0_a_1.a g0_a_1.n g0_a_1.c), (Value.int .i64 g0_a_2)]), (Value.agg #[(Value.string g1_b_0), (Value.slice g1_b_1.a g1_b_1.n g1_b_1.c), (Value.int .i64 g1_b_2)])] h Q
/-- livery/liverykeep.Tables -/
def S_liverykeep_Tables (g0_a : Sl) (g1_b : Sl) (h : Hp) (Q : List Value → Hp → Prop) : Prop := Fn PP 24 #[(Value.slice g0_a.a g0_a.n g0_a.c), (Value.slice g1_b.a g1_b.n g1_b.c)] h Q
/-- livery/liverylaw12.NameStays -/
def S_liverylaw12_NameStays (g0_steps : Sl) (g1_at : Int) (h : Hp) (Q : List Value → Hp → Prop) : Prop := Fn PP 6 #[(Value.slice g0_steps.a g0_steps.n g0_steps.c), (Value.int .u8 g1_at)] h Q
/-- livery/liverylaw12.NameAborts -/
def S_liverylaw12_NameAborts (g0_steps : Sl) (h : Hp) (Q : List Value → Hp → Prop) : Prop := Fn PP 7 #[(Value.slice g0_steps.a g0_steps.n g0_steps.c)] h Q
/-- (*livery/name.Names).May$1 -/
def S_name_Names_May_1 (g0_x : Int) (g1_x : Addr) (h : Hp) (Q : List Value → Hp → Prop) : Prop := Fn PP 29 #[(Value.int .i64 g0_x), (Value.pointer (some g1_x))] h Q
/-- cmp.isNaN[string] -/
def S_cmp_isNaN_string (g0_x : ByteArray) (h : Hp) (Q : List Value → Hp → Prop) : Prop := Fn PP 54 #[(Value.string g0_x)] h Q
/-- cmp.Compare[string] -/
def S_cmp_Compare_string (g0_x : ByteArray) (g1_y : ByteArray) (h : Hp) (Q : List Value → Hp → Prop) : Prop := Fn PP 37 #[(Value.string g0_x), (Value.string g1_y)] h Q
/-- (*livery/name.Names).All$1 -/
def S_name_Names_All_1 (g0_a_0 : ByteArray) (g0_a_1 : Sl) (g0_a_2 : Int) (g1_b_0 : ByteArray) (g1_b_1 : Sl) (g1_b_2 : Int) (h : Hp) (Q : List Value → Hp → Prop) : Prop := Fn PP 36 #[(Value.agg #[(Value.string g0_a_0), (Value.slice g0_a_1.a g0_a_1.n g0_a_1.c), (Value.int .i64 g0_a_2)]), (Value.agg #[(Value.string g1_b_0), (Value.slice g1_b_1.a g1_b_1.n g1_b_1.c), (Value.int .i64 g1_b_2)])] h Q
/-- maps.Keys[map[int]int,int,int]$1 -/
def S_maps_Keys_map_int_int_int_int_1 (g0_yield_f : Nat) (g0_yield_c : Array Value) (g1_x : Addr) (h : Hp) (Q : List Value → Hp → Prop) : Prop := Fn PP 47 #[(Value.func (.func g0_yield_f) #[] g0_yield_c), (Value.pointer (some g1_x))] h Q
/-- (*livery/name.Names).others$1 -/
def S_name_Names_others_1 (g0_v_0 : Int) (g0_v_1 : Int) (g0_v_2 : ByteArray) (g0_v_3 : Sl) (g0_v_4 : Int) (g1_x : Addr) (g2_x : Addr) (h : Hp) (Q : List Value → Hp → Prop) : Prop := Fn PP 51 #[(Value.agg #[(Value.int .i64 g0_v_0), (Value.int .i64 g0_v_1), (Value.string g0_v_2), (Value.slice g0_v_3.a g0_v_3.n g0_v_3.c), (Value.int .i64 g0_v_4)]), (Value.pointer (some g1_x)), (Value.pointer (some g2_x))] h Q
/-- livery/row.Find$1 -/
def S_row_Find_1 (g0_c_0 : ByteArray) (g0_c_1 : Int) (g0_c_2 : Bool) (g0_c_3 : Int) (g0_c_4 : Int) (g0_c_5 : Nat) (g0_c_6 : ByteArray) (g1_x : Addr) (h : Hp) (Q : List Value → Hp → Prop) : Prop := Fn PP 61 #[(Value.agg #[(Value.string g0_c_0), (Value.int .i64 g0_c_1), (Value.bool g0_c_2), (Value.int .i64 g0_c_3), (Value.int .i64 g0_c_4), (Value.float .f64 g0_c_5), (Value.string g0_c_6)]), (Value.pointer (some g1_x))] h Q
/-- math/bits.Len32 -/
def S_math_bits_Len32 (g0_x : Int) (h : Hp) (Q : List Value → Hp → Prop) : Prop := Fn PP 71 #[(Value.int .u32 g0_x)] h Q
/-- (livery/value.own).bare -/
def S_value_own_bare (g0_v_0 : Int) (g0_v_1 : Int) (g0_v_2 : Nat) (g0_v_3 : ByteArray) (g1_n : Bool) (g2_f : Bool) (g3_s : Bool) (h : Hp) (Q : List Value → Hp → Prop) : Prop := Fn PP 98 #[(Value.agg #[(Value.int .i64 g0_v_0), (Value.int .i64 g0_v_1), (Value.float .f64 g0_v_2), (Value.string g0_v_3)]), (Value.bool g1_n), (Value.bool g2_f), (Value.bool g3_s)] h Q
/-- (livery/value.own).null -/
def S_value_own_null (g0_v_0 : Int) (g0_v_1 : Int) (g0_v_2 : Nat) (g0_v_3 : ByteArray) (h : Hp) (Q : List Value → Hp → Prop) : Prop := Fn PP 83 #[(Value.agg #[(Value.int .i64 g0_v_0), (Value.int .i64 g0_v_1), (Value.float .f64 g0_v_2), (Value.string g0_v_3)])] h Q
/-- (livery/value.own).bool -/
def S_value_own_bool (g0_v_0 : Int) (g0_v_1 : Int) (g0_v_2 : Nat) (g0_v_3 : ByteArray) (h : Hp) (Q : List Value → Hp → Prop) : Prop := Fn PP 84 #[(Value.agg #[(Value.int .i64 g0_v_0), (Value.int .i64 g0_v_1), (Value.float .f64 g0_v_2), (Value.string g0_v_3)])] h Q
/-- (livery/value.own).int -/
def S_value_own_int (g0_v_0 : Int) (g0_v_1 : Int) (g0_v_2 : Nat) (g0_v_3 : ByteArray) (h : Hp) (Q : List Value → Hp → Prop) : Prop := Fn PP 85 #[(Value.agg #[(Value.int .i64 g0_v_0), (Value.int .i64 g0_v_1), (Value.float .f64 g0_v_2), (Value.string g0_v_3)])] h Q
/-- math.Float64frombits -/
def S_math_Float64frombits (g0_x : Int) (h : Hp) (Q : List Value → Hp → Prop) : Prop := Fn PP 103 #[(Value.int .u64 g0_x)] h Q
/-- livery/float.Canon -/
def S_float_Canon (g0_f : Nat) (h : Hp) (Q : List Value → Hp → Prop) : Prop := Fn PP 102 #[(Value.float .f64 g0_f)] h Q
/-- livery/float.Is -/
def S_float_Is (g0_f : Nat) (h : Hp) (Q : List Value → Hp → Prop) : Prop := Fn PP 99 #[(Value.float .f64 g0_f)] h Q
/-- (livery/value.own).float -/
def S_value_own_float (g0_v_0 : Int) (g0_v_1 : Int) (g0_v_2 : Nat) (g0_v_3 : ByteArray) (h : Hp) (Q : List Value → Hp → Prop) : Prop := Fn PP 86 #[(Value.agg #[(Value.int .i64 g0_v_0), (Value.int .i64 g0_v_1), (Value.float .f64 g0_v_2), (Value.string g0_v_3)])] h Q
/-- (livery/value.own).text -/
def S_value_own_text (g0_v_0 : Int) (g0_v_1 : Int) (g0_v_2 : Nat) (g0_v_3 : ByteArray) (h : Hp) (Q : List Value → Hp → Prop) : Prop := Fn PP 87 #[(Value.agg #[(Value.int .i64 g0_v_0), (Value.int .i64 g0_v_1), (Value.float .f64 g0_v_2), (Value.string g0_v_3)])] h Q
/-- (runtime.boundsError).Error -/
def S_runtime_boundsError_Error (g0_x_0 : Int) (g0_x_1 : Int) (g0_x_2 : Bool) (g0_x_3 : Int) (h : Hp) (Q : List Value → Hp → Prop) : Prop := Fn PP 104 #[(Value.agg #[(Value.int .i64 g0_x_0), (Value.int .i64 g0_x_1), (Value.bool g0_x_2), (Value.int .u8 g0_x_3)])] h Q
/-- (runtime.boundsError).RuntimeError -/
def S_runtime_boundsError_RuntimeError (g0_x_0 : Int) (g0_x_1 : Int) (g0_x_2 : Bool) (g0_x_3 : Int) (h : Hp) (Q : List Value → Hp → Prop) : Prop := Fn PP 105 #[(Value.agg #[(Value.int .i64 g0_x_0), (Value.int .i64 g0_x_1), (Value.bool g0_x_2), (Value.int .u8 g0_x_3)])] h Q
/-- (runtime.errorString).Error -/
def S_runtime_errorString_Error (g0_x : ByteArray) (h : Hp) (Q : List Value → Hp → Prop) : Prop := Fn PP 106 #[(Value.string g0_x)] h Q
/-- (runtime.errorString).RuntimeError -/
def S_runtime_errorString_RuntimeError (g0_x : ByteArray) (h : Hp) (Q : List Value → Hp → Prop) : Prop := Fn PP 107 #[(Value.string g0_x)] h Q
/-- (runtime.plainError).Error -/
def S_runtime_plainError_Error (g0_x : ByteArray) (h : Hp) (Q : List Value → Hp → Prop) : Prop := Fn PP 108 #[(Value.string g0_x)] h Q
/-- (runtime.plainError).RuntimeError -/
def S_runtime_plainError_RuntimeError (g0_x : ByteArray) (h : Hp) (Q : List Value → Hp → Prop) : Prop := Fn PP 109 #[(Value.string g0_x)] h Q
/-- (runtime.errorAddressString).Error -/
def S_runtime_errorAddressString_Error (g0_x_0 : ByteArray) (g0_x_1 : Int) (h : Hp) (Q : List Value → Hp → Prop) : Prop := Fn PP 110 #[(Value.agg #[(Value.string g0_x_0), (Value.int .u64 g0_x_1)])] h Q
/-- (runtime.errorAddressString).RuntimeError -/
def S_runtime_errorAddressString_RuntimeError (g0_x_0 : ByteArray) (g0_x_1 : Int) (h : Hp) (Q : List Value → Hp → Prop) : Prop := Fn PP 111 #[(Value.agg #[(Value.string g0_x_0), (Value.int .u64 g0_x_1)])] h Q
/-- (*runtime.TypeAssertionError).Error -/
def S_runtime_TypeAssertionError_Error (g0_x : Option Addr) (h : Hp) (Q : List Value → Hp → Prop) : Prop := Fn PP 112 #[(Value.pointer g0_x)] h Q
/-- (*runtime.TypeAssertionError).RuntimeError -/
def S_runtime_TypeAssertionError_RuntimeError (g0_x : Option Addr) (h : Hp) (Q : List Value → Hp → Prop) : Prop := Fn PP 113 #[(Value.pointer g0_x)] h Q
/-- (*runtime.PanicNilError).Error -/
def S_runtime_PanicNilError_Error (g0_x : Option Addr) (h : Hp) (Q : List Value → Hp → Prop) : Prop := Fn PP 114 #[(Value.pointer g0_x)] h Q
/-- (*runtime.PanicNilError).RuntimeError -/
def S_runtime_PanicNilError_RuntimeError (g0_x : Option Addr) (h : Hp) (Q : List Value → Hp → Prop) : Prop := Fn PP 115 #[(Value.pointer g0_x)] h Q
/-- (*internal/abi.Type).Align -/
def S_internal_abi_Type_Align (g0_x : Option Addr) (h : Hp) (Q : List Value → Hp → Prop) : Prop := Fn PP 116 #[(Value.pointer g0_x)] h Q
/-- (internal/runtime/maps.unhashableTypeError).Error -/
def S_internal_runtime_maps_unhashableTypeError_Error (g0_x_0 : Option Addr) (h : Hp) (Q : List Value → Hp → Prop) : Prop := Fn PP 117 #[(Value.agg #[(Value.pointer g0_x_0)])] h Q
/-- (internal/runtime/maps.unhashableTypeError).RuntimeError -/
def S_internal_runtime_maps_unhashableTypeError_RuntimeError (g0_x_0 : Option Addr) (h : Hp) (Q : List Value → Hp → Prop) : Prop := Fn PP 118 #[(Value.agg #[(Value.pointer g0_x_0)])] h Q
/-- (*livery/clog.Log).Clock -/
def S_clog_Log_Clock (g0_x : Option Addr) (h : Hp) (Q : List Value → Hp → Prop) : Prop := Fn PP 119 #[(Value.pointer g0_x)] h Q
/-- (livery/api.Errno).Error -/
def S_api_Errno_Error (g0_x : Int) (h : Hp) (Q : List Value → Hp → Prop) : Prop := Fn PP 120 #[(Value.int .i64 g0_x)] h Q
/-- (internal/abi.Kind).String -/
def S_internal_abi_Kind_String (g0_x : Int) (h : Hp) (Q : List Value → Hp → Prop) : Prop := Fn PP 121 #[(Value.int .u8 g0_x)] h Q
def F_clog_New (h : Hp) (Q : List Value → Hp → Prop) : Prop :=
wth (Array.push h (Obj.cells (zc PP T_clog_Log) T_clog_Log)) fun h1 =>
Q [(Value.pointer (some (Addr.mk (Array.size h) 0 none)))] h1
def A_clog_New : Ann := .nil
theorem E_clog_New (h : Hp) (Q : List Value → Hp → Prop) : cw PP 3 (fun _ => []) (bodyOf Try.f9) A_clog_New (finQ PP (Try.f9.results.toList) Q) (argFr []) h = F_clog_New h Q := by kernel_rfl
theorem O_clog_New {h : Hp} {Q : List Value → Hp → Prop} (H : F_clog_New h Q) : S_clog_New h Q :=
  fn_of_cw (hs := (fun _ => [])) (ann := A_clog_New) (args := []) mixedPP Try.func9 (c := bodyOf Try.f9) (by kernel_rfl) (by kernel_rfl) (by kernel_rfl) (Eq.mpr (E_clog_New h Q) H)
def F_clog_Log_get (g0_l : Option Addr) (g1_xid : Int) (h : Hp) (Q : List Value → Hp → Prop) : Prop :=
∀ J1 : List Value → Hp → Prop, (∀ b2 : Bool, ∀ h3 : Hp, ((if b2 = true then
      (Q [(Value.pointer none)] h3) else
      (nilW g0_l fun a4 => ixOk g1_xid 201 (Q [(Value.pointer (some (Addr.add (Addr.add a4 0) (Int.toNat g1_xid * 4))))] h3)))) → J1 [(Value.bool b2)] h3) →
(if (Option.isNone g0_l) = true then (J1 [(Value.bool true)] h) else
  ((if (decide (g1_xid < (1 : Int))) = true then (J1 [(Value.bool true)] h) else
      (nilW g0_l fun a5 => ∃ n6 : Int, rd h (Addr.add a5 804) = some (Value.int .i64 n6) ∧
        J1 [(Value.bool (decide (g1_xid > n6)))] h))))
def A_clog_Log_get : Ann := (.mk none ⟨[], []⟩ .nil (.mk none ⟨[], []⟩ (.mk none ⟨[], []⟩ (.mk (some ⟨[0, 1], [(18, (.c .bool))]⟩) ⟨[], []⟩ .nil .nil) .nil) .nil))
theorem E_clog_Log_get (g0_l : Option Addr) (g1_xid : Int) (h : Hp) (Q : List Value → Hp → Prop) : cw PP 24 (fun _ => []) (bodyOf Try.f41) A_clog_Log_get (finQ PP (Try.f41.results.toList) Q) (argFr [(Value.pointer g0_l), (Value.int .i64 g1_xid)]) h = F_clog_Log_get g0_l g1_xid h Q := by kernel_rfl
theorem O_clog_Log_get (g0_l : Option Addr) (g1_xid : Int) {h : Hp} {Q : List Value → Hp → Prop} (H : F_clog_Log_get g0_l g1_xid h Q) : S_clog_Log_get g0_l g1_xid h Q :=
  fn_of_cw (hs := (fun _ => [])) (ann := A_clog_Log_get) (args := [(Value.pointer g0_l), (Value.int .i64 g1_xid)]) mixedPP Try.func41 (c := bodyOf Try.f41) (by kernel_rfl) (by kernel_rfl) (by kernel_rfl) (Eq.mpr (E_clog_Log_get g0_l g1_xid h Q) H)
def F_clog_Log_one (g0_l : Option Addr) (g1_xid : Int) (h : Hp) (Q : List Value → Hp → Prop) : Prop :=
wth (Array.push h (Obj.cells #[(Value.int .i64 (0 : Int)), (Value.int .i64 (0 : Int)), (Value.int .i64 (0 : Int)), (Value.bool false)] T_clog_tx)) fun h1 =>
S_clog_Log_get g0_l g1_xid h1 fun (vs2 : List Value) (h3 : Hp) =>
∃ p4 : Option Addr, vs2 = [(Value.pointer p4)] ∧
(if (!(Option.isNone p4)) = true then
  (nilW p4 fun a5 => ∃ n6 : Int, rd h3 (Addr.add a5 0) = some (Value.int .i64 n6) ∧ ∃ n7 : Int, rd h3 (Addr.add a5 1) = some (Value.int .i64 n7) ∧ ∃ n8 : Int, rd h3 (Addr.add a5 2) = some (Value.int .i64 n8) ∧ ∃ b9 : Bool, rd h3 (Addr.add a5 3) = some (Value.bool b9) ∧ stOk h3 (Addr.mk (Array.size h) 0 none) 4 ∧ wth (wrs h3 (Addr.mk (Array.size h) 0 none) 0 [(Value.int .i64 n6), (Value.int .i64 n7), (Value.int .i64 n8), (Value.bool b9)]) fun h10 =>
    ∃ n11 : Int, rd h10 (Addr.add (Addr.mk (Array.size h) 0 none) 0) = some (Value.int .i64 n11) ∧ ∃ n12 : Int, rd h10 (Addr.add (Addr.mk (Array.size h) 0 none) 1) = some (Value.int .i64 n12) ∧ ∃ n13 : Int, rd h10 (Addr.add (Addr.mk (Array.size h) 0 none) 2) = some (Value.int .i64 n13) ∧ ∃ b14 : Bool, rd h10 (Addr.add (Addr.mk (Array.size h) 0 none) 3) = some (Value.bool b14) ∧ Q [(Value.agg #[(Value.int .i64 n11), (Value.int .i64 n12), (Value.int .i64 n13), (Value.bool b14)])] h10) else
  (stOk h3 (Addr.mk (Array.size h) 0 none) 4 ∧ wth (wrs h3 (Addr.mk (Array.size h) 0 none) 0 [(Value.int .i64 (0 : Int)), (Value.int .i64 (0 : Int)), (Value.int .i64 (0 : Int)), (Value.bool false)]) fun h15 =>
    ∃ n16 : Int, rd h15 (Addr.add (Addr.mk (Array.size h) 0 none) 0) = some (Value.int .i64 n16) ∧ ∃ n17 : Int, rd h15 (Addr.add (Addr.mk (Array.size h) 0 none) 1) = some (Value.int .i64 n17) ∧ ∃ n18 : Int, rd h15 (Addr.add (Addr.mk (Array.size h) 0 none) 2) = some (Value.int .i64 n18) ∧ ∃ b19 : Bool, rd h15 (Addr.add (Addr.mk (Array.size h) 0 none) 3) = some (Value.bool b19) ∧ Q [(Value.agg #[(Value.int .i64 n16), (Value.int .i64 n17), (Value.int .i64 n18), (Value.bool b19)])] h15))
def A_clog_Log_one : Ann := .nil
theorem E_clog_Log_one (g0_l : Option Addr) (g1_xid : Int) (h : Hp) (Q : List Value → Hp → Prop) : cw PP 15 (fun _ => []) (bodyOf Try.f40) A_clog_Log_one (finQ PP (Try.f40.results.toList) Q) (argFr [(Value.pointer g0_l), (Value.int .i64 g1_xid)]) h = F_clog_Log_one g0_l g1_xid h Q := by kernel_rfl
theorem O_clog_Log_one (g0_l : Option Addr) (g1_xid : Int) {h : Hp} {Q : List Value → Hp → Prop} (H : F_clog_Log_one g0_l g1_xid h Q) : S_clog_Log_one g0_l g1_xid h Q :=
  fn_of_cw (hs := (fun _ => [])) (ann := A_clog_Log_one) (args := [(Value.pointer g0_l), (Value.int .i64 g1_xid)]) mixedPP Try.func40 (c := bodyOf Try.f40) (by kernel_rfl) (by kernel_rfl) (by kernel_rfl) (Eq.mpr (E_clog_Log_one g0_l g1_xid h Q) H)
def F_clog_Log_State (g0_l : Option Addr) (g1_xid : Int) (h : Hp) (Q : List Value → Hp → Prop) : Prop :=
S_clog_Log_one g0_l g1_xid h fun (vs1 : List Value) (h2 : Hp) =>
∃ n3 : Int, ∃ n4 : Int, ∃ n5 : Int, ∃ b6 : Bool, vs1 = [(Value.agg #[(Value.int .i64 n3), (Value.int .i64 n4), (Value.int .i64 n5), (Value.bool b6)])] ∧
Q [(Value.int .i64 n3)] h2
def A_clog_Log_State : Ann := .nil
theorem E_clog_Log_State (g0_l : Option Addr) (g1_xid : Int) (h : Hp) (Q : List Value → Hp → Prop) : cw PP 9 (fun _ => []) (bodyOf Try.f22) A_clog_Log_State (finQ PP (Try.f22.results.toList) Q) (argFr [(Value.pointer g0_l), (Value.int .i64 g1_xid)]) h = F_clog_Log_State g0_l g1_xid h Q := by kernel_rfl
theorem O_clog_Log_State (g0_l : Option Addr) (g1_xid : Int) {h : Hp} {Q : List Value → Hp → Prop} (H : F_clog_Log_State g0_l g1_xid h Q) : S_clog_Log_State g0_l g1_xid h Q :=
  fn_of_cw (hs := (fun _ => [])) (ann := A_clog_Log_State) (args := [(Value.pointer g0_l), (Value.int .i64 g1_xid)]) mixedPP Try.func22 (c := bodyOf Try.f22) (by kernel_rfl) (by kernel_rfl) (by kernel_rfl) (Eq.mpr (E_clog_Log_State g0_l g1_xid h Q) H)
def F_clog_Log_Sees (g0_l : Option Addr) (g1_xid : Int) (g2_other : Int) (h : Hp) (Q : List Value → Hp → Prop) : Prop :=
S_clog_Log_get g0_l g1_xid h fun (vs1 : List Value) (h2 : Hp) =>
∃ p3 : Option Addr, vs1 = [(Value.pointer p3)] ∧
S_clog_Log_get g0_l g2_other h2 fun (vs4 : List Value) (h5 : Hp) =>
∃ p6 : Option Addr, vs4 = [(Value.pointer p6)] ∧
∀ J7 : List Value → Hp → Prop, (∀ b8 : Bool, ∀ h9 : Hp, ((if b8 = true then
      (Q [(Value.bool false)] h9) else
      ((if (g1_xid == g2_other) = true then (Q [(Value.bool true)] h9) else
          (nilW p6 fun a10 => ∃ n11 : Int, rd h9 (Addr.add a10 0) = some (Value.int .i64 n11) ∧
            (if (n11 == (2 : Int)) = true then (nilW p6 fun a12 => ∃ n13 : Int, rd h9 (Addr.add a12 1) = some (Value.int .i64 n13) ∧
                nilW p3 fun a14 => ∃ n15 : Int, rd h9 (Addr.add a14 2) = some (Value.int .i64 n15) ∧
                Q [(Value.bool (decide (n13 ≤ n15)))] h9) else
              (Q [(Value.bool false)] h9))))))) → J7 [(Value.bool b8)] h9) →
(if (Option.isNone p3) = true then (J7 [(Value.bool true)] h5) else
  (J7 [(Value.bool (Option.isNone p6))] h5))
def A_clog_Log_Sees : Ann := (.mk none ⟨[], []⟩ .nil (.mk none ⟨[], []⟩ .nil (.mk none ⟨[], []⟩ (.mk none ⟨[], []⟩ (.mk (some ⟨[1, 2, 7, 8], [(20, (.c .bool))]⟩) ⟨[], []⟩ .nil .nil) .nil) .nil)))
theorem E_clog_Log_Sees (g0_l : Option Addr) (g1_xid : Int) (g2_other : Int) (h : Hp) (Q : List Value → Hp → Prop) : cw PP 42 (fun _ => []) (bodyOf Try.f23) A_clog_Log_Sees (finQ PP (Try.f23.results.toList) Q) (argFr [(Value.pointer g0_l), (Value.int .i64 g1_xid), (Value.int .i64 g2_other)]) h = F_clog_Log_Sees g0_l g1_xid g2_other h Q := by kernel_rfl
theorem O_clog_Log_Sees (g0_l : Option Addr) (g1_xid : Int) (g2_other : Int) {h : Hp} {Q : List Value → Hp → Prop} (H : F_clog_Log_Sees g0_l g1_xid g2_other h Q) : S_clog_Log_Sees g0_l g1_xid g2_other h Q :=
  fn_of_cw (hs := (fun _ => [])) (ann := A_clog_Log_Sees) (args := [(Value.pointer g0_l), (Value.int .i64 g1_xid), (Value.int .i64 g2_other)]) mixedPP Try.func23 (c := bodyOf Try.f23) (by kernel_rfl) (by kernel_rfl) (by kernel_rfl) (Eq.mpr (E_clog_Log_Sees g0_l g1_xid g2_other h Q) H)
def F_name_version_sees (g0_v_0 : Int) (g0_v_1 : Int) (g0_v_2 : ByteArray) (g0_v_3 : Sl) (g0_v_4 : Int) (g1_l : Option Addr) (g2_xid : Int) (h : Hp) (Q : List Value → Hp → Prop) : Prop :=
wth (Array.push h (Obj.cells #[(Value.int .i64 g0_v_0), (Value.int .i64 g0_v_1), (Value.string g0_v_2), (Value.slice g0_v_3.a g0_v_3.n g0_v_3.c), (Value.int .i64 g0_v_4)] T_name_version)) fun h1 =>
∀ J2 : List Value → Hp → Prop, (∀ b3 : Bool, ∀ h4 : Hp, (∃ n5 : Int, rd h4 (Addr.add (Addr.mk (Array.size h) 0 none) 0) = some (Value.int .i64 n5) ∧
    S_clog_Log_Sees g1_l g2_xid n5 h4 fun (vs6 : List Value) (h7 : Hp) =>
    ∃ b8 : Bool, vs6 = [(Value.bool b8)] ∧
    (if b8 = true then ((if b3 = true then (∃ n9 : Int, rd h7 (Addr.add (Addr.mk (Array.size h) 0 none) 1) = some (Value.int .i64 n9) ∧
            S_clog_Log_Sees g1_l g2_xid n9 h7 fun (vs10 : List Value) (h11 : Hp) =>
            ∃ b12 : Bool, vs10 = [(Value.bool b12)] ∧
            Q [(Value.bool (!b12))] h11) else
          (Q [(Value.bool true)] h7))) else
      (Q [(Value.bool false)] h7))) → J2 [(Value.bool b3)] h4) →
∃ n13 : Int, rd h1 (Addr.add (Addr.mk (Array.size h) 0 none) 1) = some (Value.int .i64 n13) ∧
(if (n13 != (0 : Int)) = true then (∃ n14 : Int, rd h1 (Addr.add (Addr.mk (Array.size h) 0 none) 1) = some (Value.int .i64 n14) ∧
    S_clog_Log_State g1_l n14 h1 fun (vs15 : List Value) (h16 : Hp) =>
    ∃ n17 : Int, vs15 = [(Value.int .i64 n17)] ∧
    J2 [(Value.bool (n17 != (3 : Int)))] h16) else
  (J2 [(Value.bool false)] h1))
def A_name_version_sees : Ann := (.mk none ⟨[], []⟩ .nil (.mk none ⟨[], []⟩ (.mk (some ⟨[1, 2, 3], [(7, (.c .bool))]⟩) ⟨[], []⟩ .nil .nil) .nil))
theorem E_name_version_sees (g0_v_0 : Int) (g0_v_1 : Int) (g0_v_2 : ByteArray) (g0_v_3 : Sl) (g0_v_4 : Int) (g1_l : Option Addr) (g2_xid : Int) (h : Hp) (Q : List Value → Hp → Prop) : cw PP 34 (fun _ => []) (bodyOf Try.f43) A_name_version_sees (finQ PP (Try.f43.results.toList) Q) (argFr [(Value.agg #[(Value.int .i64 g0_v_0), (Value.int .i64 g0_v_1), (Value.string g0_v_2), (Value.slice g0_v_3.a g0_v_3.n g0_v_3.c), (Value.int .i64 g0_v_4)]), (Value.pointer g1_l), (Value.int .i64 g2_xid)]) h = F_name_version_sees g0_v_0 g0_v_1 g0_v_2 g0_v_3 g0_v_4 g1_l g2_xid h Q := by kernel_rfl
theorem O_name_version_sees (g0_v_0 : Int) (g0_v_1 : Int) (g0_v_2 : ByteArray) (g0_v_3 : Sl) (g0_v_4 : Int) (g1_l : Option Addr) (g2_xid : Int) {h : Hp} {Q : List Value → Hp → Prop} (H : F_name_version_sees g0_v_0 g0_v_1 g0_v_2 g0_v_3 g0_v_4 g1_l g2_xid h Q) : S_name_version_sees g0_v_0 g0_v_1 g0_v_2 g0_v_3 g0_v_4 g1_l g2_xid h Q :=
  fn_of_cw (hs := (fun _ => [])) (ann := A_name_version_sees) (args := [(Value.agg #[(Value.int .i64 g0_v_0), (Value.int .i64 g0_v_1), (Value.string g0_v_2), (Value.slice g0_v_3.a g0_v_3.n g0_v_3.c), (Value.int .i64 g0_v_4)]), (Value.pointer g1_l), (Value.int .i64 g2_xid)]) mixedPP Try.func43 (c := bodyOf Try.f43) (by kernel_rfl) (by kernel_rfl) (by kernel_rfl) (Eq.mpr (E_name_version_sees g0_v_0 g0_v_1 g0_v_2 g0_v_3 g0_v_4 g1_l g2_xid h Q) H)
def F_name_Names_at (g0_n : Option Addr) (g1_l : Option Addr) (g2_xid : Int) (g3_name : ByteArray) (h : Hp) (Q : List Value → Hp → Prop) : Prop :=
(if (Option.isNone g0_n) = true then
  (Q [(Value.int .i64 (-1 : Int))] h) else
  (nilW g0_n fun a1 => ∃ r2 : Option Nat, rd h (Addr.add a1 0) = some (Value.map r2) ∧
    ∃ es3 : Array MapEntry, mapAt h r2 es3 ∧ KeysLike (Value.string g3_name) es3 ∧ ∃ l4 : Sl, mgetD (Value.string g3_name) es3 (Value.slice none 0 0) = (Value.slice l4.a l4.n l4.c) ∧
    ∀ X6 : List Value → Hp → Prop, (∀ n7 : Int, ∀ h8 : Hp, ((if (decide (n7 < (l4.n : Int))) = true then
          (nilW l4.a fun a9 => ixOk n7 l4.n (∃ n10 : Int, rd h8 (Addr.add (Addr.add a9 (Int.toNat n7 * 5)) 0) = some (Value.int .i64 n10) ∧ ∃ n11 : Int, rd h8 (Addr.add (Addr.add a9 (Int.toNat n7 * 5)) 1) = some (Value.int .i64 n11) ∧ ∃ s12 : ByteArray, rd h8 (Addr.add (Addr.add a9 (Int.toNat n7 * 5)) 2) = some (Value.string s12) ∧ ∃ l13 : Sl, rd h8 (Addr.add (Addr.add a9 (Int.toNat n7 * 5)) 3) = some (Value.slice l13.a l13.n l13.c) ∧ ∃ n14 : Int, rd h8 (Addr.add (Addr.add a9 (Int.toNat n7 * 5)) 4) = some (Value.int .i64 n14) ∧ wth (Array.push h8 (Obj.cells #[(Value.int .i64 (0 : Int)), (Value.int .i64 (0 : Int)), (Value.string (ByteArray.mk #[])), (Value.slice none 0 0), (Value.int .i64 (0 : Int))] T_name_version)) fun h15 =>
              stOk h15 (Addr.mk (Array.size h8) 0 none) 5 ∧ wth (wrs h15 (Addr.mk (Array.size h8) 0 none) 0 [(Value.int .i64 n10), (Value.int .i64 n11), (Value.string s12), (Value.slice l13.a l13.n l13.c), (Value.int .i64 n14)]) fun h16 =>
              ∃ n17 : Int, rd h16 (Addr.add (Addr.mk (Array.size h8) 0 none) 0) = some (Value.int .i64 n17) ∧ ∃ n18 : Int, rd h16 (Addr.add (Addr.mk (Array.size h8) 0 none) 1) = some (Value.int .i64 n18) ∧ ∃ s19 : ByteArray, rd h16 (Addr.add (Addr.mk (Array.size h8) 0 none) 2) = some (Value.string s19) ∧ ∃ l20 : Sl, rd h16 (Addr.add (Addr.mk (Array.size h8) 0 none) 3) = some (Value.slice l20.a l20.n l20.c) ∧ ∃ n21 : Int, rd h16 (Addr.add (Addr.mk (Array.size h8) 0 none) 4) = some (Value.int .i64 n21) ∧ S_name_version_sees n17 n18 s19 ⟨l20.a, l20.n, l20.c⟩ n21 g1_l g2_xid h16 fun (vs22 : List Value) (h23 : Hp) =>
              ∃ b24 : Bool, vs22 = [(Value.bool b24)] ∧
              (if (!b24) = true then
                (X6 [(Value.int .i64 (IntKind.wrap .i64 (n7 + (1 : Int))))] h23) else
                (Q [(Value.int .i64 n7)] h23)))) else
          (Q [(Value.int .i64 (-1 : Int))] h8))) → X6 [(Value.int .i64 n7)] h8) →
    X6 [(Value.int .i64 (0 : Int))] h))
def A_name_Names_at : Ann := (.mk none ⟨[], []⟩ .nil (.mk none ⟨[], []⟩ (.mk none ⟨[], []⟩ .nil (.mk none ⟨[], []⟩ .nil (.mk none ⟨[], []⟩ (.mk none ⟨[], []⟩ .nil (.mk none ⟨[], []⟩ (.mk none ⟨[1, 2, 18, 19], [(20, (.c (.int .i64)))]⟩ .nil .nil) .nil)) .nil))) .nil))
theorem E_name_Names_at (g0_n : Option Addr) (g1_l : Option Addr) (g2_xid : Int) (g3_name : ByteArray) (h : Hp) (Q : List Value → Hp → Prop) : cw PP 32 (fun _ => []) (bodyOf Try.f26) A_name_Names_at (finQ PP (Try.f26.results.toList) Q) (argFr [(Value.pointer g0_n), (Value.pointer g1_l), (Value.int .i64 g2_xid), (Value.string g3_name)]) h = F_name_Names_at g0_n g1_l g2_xid g3_name h Q := by kernel_rfl
theorem O_name_Names_at (g0_n : Option Addr) (g1_l : Option Addr) (g2_xid : Int) (g3_name : ByteArray) {h : Hp} {Q : List Value → Hp → Prop} (H : F_name_Names_at g0_n g1_l g2_xid g3_name h Q) : S_name_Names_at g0_n g1_l g2_xid g3_name h Q :=
  fn_of_cw (hs := (fun _ => [])) (ann := A_name_Names_at) (args := [(Value.pointer g0_n), (Value.pointer g1_l), (Value.int .i64 g2_xid), (Value.string g3_name)]) mixedPP Try.func26 (c := bodyOf Try.f26) (by kernel_rfl) (by kernel_rfl) (by kernel_rfl) (Eq.mpr (E_name_Names_at g0_n g1_l g2_xid g3_name h Q) H)
def F_slices_Clone_sapi_Column_api_Column (g0_s : Sl) (h : Hp) (Q : List Value → Hp → Prop) : Prop :=
(if (Option.isNone g0_s.a) = true then
  (Q [(Value.slice none 0 0)] h) else
  (wth (Array.push h (Obj.cells #[] T_api_Column)) fun h1 =>
    ∃ cs4 : List Value, cellsAt h1 g0_s.a (g0_s.n * 7) cs4 ∧ appS PP T_api_Column 72 7 h1 ⟨(some (Addr.mk (Array.size h) 0 none)), 0, 0⟩ g0_s.n cs4 fun (l2 : Sl) (h3 : Hp) =>
    Q [(Value.slice l2.a l2.n l2.c)] h3))
def A_slices_Clone_sapi_Column_api_Column : Ann := .nil
theorem E_slices_Clone_sapi_Column_api_Column (g0_s : Sl) (h : Hp) (Q : List Value → Hp → Prop) : cw PP 8 (fun _ => []) (bodyOf Try.f44) A_slices_Clone_sapi_Column_api_Column (finQ PP (Try.f44.results.toList) Q) (argFr [(Value.slice g0_s.a g0_s.n g0_s.c)]) h = F_slices_Clone_sapi_Column_api_Column g0_s h Q := by kernel_rfl
theorem O_slices_Clone_sapi_Column_api_Column (g0_s : Sl) {h : Hp} {Q : List Value → Hp → Prop} (H : F_slices_Clone_sapi_Column_api_Column g0_s h Q) : S_slices_Clone_sapi_Column_api_Column g0_s h Q :=
  fn_of_cw (hs := (fun _ => [])) (ann := A_slices_Clone_sapi_Column_api_Column) (args := [(Value.slice g0_s.a g0_s.n g0_s.c)]) mixedPP Try.func44 (c := bodyOf Try.f44) (by kernel_rfl) (by kernel_rfl) (by kernel_rfl) (Eq.mpr (E_slices_Clone_sapi_Column_api_Column g0_s h Q) H)
def F_name_copied (g0_t_0 : ByteArray) (g0_t_1 : Sl) (g0_t_2 : Int) (h : Hp) (Q : List Value → Hp → Prop) : Prop :=
wth (Array.push h (Obj.cells #[(Value.string g0_t_0), (Value.slice g0_t_1.a g0_t_1.n g0_t_1.c), (Value.int .i64 g0_t_2)] T_api_Table)) fun h1 =>
wth (Array.push h1 (Obj.cells #[(Value.string (ByteArray.mk #[])), (Value.slice none 0 0), (Value.int .i64 (0 : Int))] T_api_Table)) fun h2 =>
∃ l3 : Sl, rd h2 (Addr.add (Addr.mk (Array.size h) 0 none) 1) = some (Value.slice l3.a l3.n l3.c) ∧
S_slices_Clone_sapi_Column_api_Column ⟨l3.a, l3.n, l3.c⟩ h2 fun (vs4 : List Value) (h5 : Hp) =>
∃ l6 : Sl, vs4 = [(Value.slice l6.a l6.n l6.c)] ∧
stOk h5 (Addr.add (Addr.mk (Array.size h) 0 none) 1) 1 ∧ wth (wrs h5 (Addr.add (Addr.mk (Array.size h) 0 none) 1) 0 [(Value.slice l6.a l6.n l6.c)]) fun h7 =>
∃ s8 : ByteArray, rd h7 (Addr.add (Addr.mk (Array.size h) 0 none) 0) = some (Value.string s8) ∧ ∃ l9 : Sl, rd h7 (Addr.add (Addr.mk (Array.size h) 0 none) 1) = some (Value.slice l9.a l9.n l9.c) ∧ ∃ n10 : Int, rd h7 (Addr.add (Addr.mk (Array.size h) 0 none) 2) = some (Value.int .i64 n10) ∧ stOk h7 (Addr.mk (Array.size h1) 0 none) 3 ∧ wth (wrs h7 (Addr.mk (Array.size h1) 0 none) 0 [(Value.string s8), (Value.slice l9.a l9.n l9.c), (Value.int .i64 n10)]) fun h11 =>
∃ s12 : ByteArray, rd h11 (Addr.add (Addr.mk (Array.size h1) 0 none) 0) = some (Value.string s12) ∧ ∃ l13 : Sl, rd h11 (Addr.add (Addr.mk (Array.size h1) 0 none) 1) = some (Value.slice l13.a l13.n l13.c) ∧ ∃ n14 : Int, rd h11 (Addr.add (Addr.mk (Array.size h1) 0 none) 2) = some (Value.int .i64 n14) ∧ Q [(Value.agg #[(Value.string s12), (Value.slice l13.a l13.n l13.c), (Value.int .i64 n14)])] h11
def A_name_copied : Ann := .nil
theorem E_name_copied (g0_t_0 : ByteArray) (g0_t_1 : Sl) (g0_t_2 : Int) (h : Hp) (Q : List Value → Hp → Prop) : cw PP 8 (fun _ => []) (bodyOf Try.f27) A_name_copied (finQ PP (Try.f27.results.toList) Q) (argFr [(Value.agg #[(Value.string g0_t_0), (Value.slice g0_t_1.a g0_t_1.n g0_t_1.c), (Value.int .i64 g0_t_2)])]) h = F_name_copied g0_t_0 g0_t_1 g0_t_2 h Q := by kernel_rfl
theorem O_name_copied (g0_t_0 : ByteArray) (g0_t_1 : Sl) (g0_t_2 : Int) {h : Hp} {Q : List Value → Hp → Prop} (H : F_name_copied g0_t_0 g0_t_1 g0_t_2 h Q) : S_name_copied g0_t_0 g0_t_1 g0_t_2 h Q :=
  fn_of_cw (hs := (fun _ => [])) (ann := A_name_copied) (args := [(Value.agg #[(Value.string g0_t_0), (Value.slice g0_t_1.a g0_t_1.n g0_t_1.c), (Value.int .i64 g0_t_2)])]) mixedPP Try.func27 (c := bodyOf Try.f27) (by kernel_rfl) (by kernel_rfl) (by kernel_rfl) (Eq.mpr (E_name_copied g0_t_0 g0_t_1 g0_t_2 h Q) H)
def F_name_Names_See (g0_n : Option Addr) (g1_l : Option Addr) (g2_xid : Int) (g3_name : ByteArray) (h : Hp) (Q : List Value → Hp → Prop) : Prop :=
wth (Array.push h (Obj.cells #[(Value.string (ByteArray.mk #[])), (Value.slice none 0 0), (Value.int .i64 (0 : Int))] T_api_Table)) fun h1 =>
S_name_Names_at g0_n g1_l g2_xid g3_name h1 fun (vs2 : List Value) (h3 : Hp) =>
∃ n4 : Int, vs2 = [(Value.int .i64 n4)] ∧
(if (decide (n4 < (0 : Int))) = true then
  (stOk h3 (Addr.mk (Array.size h) 0 none) 3 ∧ wth (wrs h3 (Addr.mk (Array.size h) 0 none) 0 [(Value.string (ByteArray.mk #[])), (Value.slice none 0 0), (Value.int .i64 (0 : Int))]) fun h5 =>
    ∃ s6 : ByteArray, rd h5 (Addr.add (Addr.mk (Array.size h) 0 none) 0) = some (Value.string s6) ∧ ∃ l7 : Sl, rd h5 (Addr.add (Addr.mk (Array.size h) 0 none) 1) = some (Value.slice l7.a l7.n l7.c) ∧ ∃ n8 : Int, rd h5 (Addr.add (Addr.mk (Array.size h) 0 none) 2) = some (Value.int .i64 n8) ∧ Q [(Value.agg #[(Value.string s6), (Value.slice l7.a l7.n l7.c), (Value.int .i64 n8)]), (Value.bool false)] h5) else
  (nilW g0_n fun a9 => ∃ r10 : Option Nat, rd h3 (Addr.add a9 0) = some (Value.map r10) ∧
    ∃ es11 : Array MapEntry, mapAt h3 r10 es11 ∧ KeysLike (Value.string g3_name) es11 ∧ ∃ l12 : Sl, mgetD (Value.string g3_name) es11 (Value.slice none 0 0) = (Value.slice l12.a l12.n l12.c) ∧
    nilW l12.a fun a14 => ixOk n4 l12.n (∃ s15 : ByteArray, rd h3 (Addr.add (Addr.add (Addr.add a14 (Int.toNat n4 * 5)) 2) 0) = some (Value.string s15) ∧ ∃ l16 : Sl, rd h3 (Addr.add (Addr.add (Addr.add a14 (Int.toNat n4 * 5)) 2) 1) = some (Value.slice l16.a l16.n l16.c) ∧ ∃ n17 : Int, rd h3 (Addr.add (Addr.add (Addr.add a14 (Int.toNat n4 * 5)) 2) 2) = some (Value.int .i64 n17) ∧ S_name_copied s15 ⟨l16.a, l16.n, l16.c⟩ n17 h3 fun (vs18 : List Value) (h19 : Hp) =>
      ∃ s20 : ByteArray, ∃ l21 : Sl, ∃ n22 : Int, vs18 = [(Value.agg #[(Value.string s20), (Value.slice l21.a l21.n l21.c), (Value.int .i64 n22)])] ∧
      stOk h19 (Addr.mk (Array.size h) 0 none) 3 ∧ wth (wrs h19 (Addr.mk (Array.size h) 0 none) 0 [(Value.string s20), (Value.slice l21.a l21.n l21.c), (Value.int .i64 n22)]) fun h23 =>
      ∃ s24 : ByteArray, rd h23 (Addr.add (Addr.mk (Array.size h) 0 none) 0) = some (Value.string s24) ∧ ∃ l25 : Sl, rd h23 (Addr.add (Addr.mk (Array.size h) 0 none) 1) = some (Value.slice l25.a l25.n l25.c) ∧ ∃ n26 : Int, rd h23 (Addr.add (Addr.mk (Array.size h) 0 none) 2) = some (Value.int .i64 n26) ∧ Q [(Value.agg #[(Value.string s24), (Value.slice l25.a l25.n l25.c), (Value.int .i64 n26)]), (Value.bool true)] h23)))
def A_name_Names_See : Ann := .nil
theorem E_name_Names_See (g0_n : Option Addr) (g1_l : Option Addr) (g2_xid : Int) (g3_name : ByteArray) (h : Hp) (Q : List Value → Hp → Prop) : cw PP 30 (fun _ => []) (bodyOf Try.f10) A_name_Names_See (finQ PP (Try.f10.results.toList) Q) (argFr [(Value.pointer g0_n), (Value.pointer g1_l), (Value.int .i64 g2_xid), (Value.string g3_name)]) h = F_name_Names_See g0_n g1_l g2_xid g3_name h Q := by kernel_rfl
theorem O_name_Names_See (g0_n : Option Addr) (g1_l : Option Addr) (g2_xid : Int) (g3_name : ByteArray) {h : Hp} {Q : List Value → Hp → Prop} (H : F_name_Names_See g0_n g1_l g2_xid g3_name h Q) : S_name_Names_See g0_n g1_l g2_xid g3_name h Q :=
  fn_of_cw (hs := (fun _ => [])) (ann := A_name_Names_See) (args := [(Value.pointer g0_n), (Value.pointer g1_l), (Value.int .i64 g2_xid), (Value.string g3_name)]) mixedPP Try.func10 (c := bodyOf Try.f10) (by kernel_rfl) (by kernel_rfl) (by kernel_rfl) (Eq.mpr (E_name_Names_See g0_n g1_l g2_xid g3_name h Q) H)
def F_slices_Collect_int (g0_seq_f : Nat) (g0_seq_c : Array Value) (h : Hp) (Q : List Value → Hp → Prop) : Prop :=
S_slices_AppendSeq_sint_int ⟨none, 0, 0⟩ g0_seq_f g0_seq_c h fun (vs1 : List Value) (h2 : Hp) =>
∃ l3 : Sl, vs1 = [(Value.slice l3.a l3.n l3.c)] ∧
Q [(Value.slice l3.a l3.n l3.c)] h2
def A_slices_Collect_int : Ann := .nil
theorem E_slices_Collect_int (g0_seq_f : Nat) (g0_seq_c : Array Value) (h : Hp) (Q : List Value → Hp → Prop) : cw PP 5 (fun _ => []) (bodyOf Try.f45) A_slices_Collect_int (finQ PP (Try.f45.results.toList) Q) (argFr [(Value.func (.func g0_seq_f) #[] g0_seq_c)]) h = F_slices_Collect_int g0_seq_f g0_seq_c h Q := by kernel_rfl
theorem O_slices_Collect_int (g0_seq_f : Nat) (g0_seq_c : Array Value) {h : Hp} {Q : List Value → Hp → Prop} (H : F_slices_Collect_int g0_seq_f g0_seq_c h Q) : S_slices_Collect_int g0_seq_f g0_seq_c h Q :=
  fn_of_cw (hs := (fun _ => [])) (ann := A_slices_Collect_int) (args := [(Value.func (.func g0_seq_f) #[] g0_seq_c)]) mixedPP Try.func45 (c := bodyOf Try.f45) (by kernel_rfl) (by kernel_rfl) (by kernel_rfl) (Eq.mpr (E_slices_Collect_int g0_seq_f g0_seq_c h Q) H)
def F_slices_Sorted_int (g0_seq_f : Nat) (g0_seq_c : Array Value) (h : Hp) (Q : List Value → Hp → Prop) : Prop :=
S_slices_Collect_int g0_seq_f g0_seq_c h fun (vs1 : List Value) (h2 : Hp) =>
∃ l3 : Sl, vs1 = [(Value.slice l3.a l3.n l3.c)] ∧
S_slices_Sort_sint_int ⟨l3.a, l3.n, l3.c⟩ h2 fun (vs4 : List Value) (h5 : Hp) =>
vs4 = [] ∧
Q [(Value.slice l3.a l3.n l3.c)] h5
def A_slices_Sorted_int : Ann := .nil
theorem E_slices_Sorted_int (g0_seq_f : Nat) (g0_seq_c : Array Value) (h : Hp) (Q : List Value → Hp → Prop) : cw PP 9 (fun _ => []) (bodyOf Try.f30) A_slices_Sorted_int (finQ PP (Try.f30.results.toList) Q) (argFr [(Value.func (.func g0_seq_f) #[] g0_seq_c)]) h = F_slices_Sorted_int g0_seq_f g0_seq_c h Q := by kernel_rfl
theorem O_slices_Sorted_int (g0_seq_f : Nat) (g0_seq_c : Array Value) {h : Hp} {Q : List Value → Hp → Prop} (H : F_slices_Sorted_int g0_seq_f g0_seq_c h Q) : S_slices_Sorted_int g0_seq_f g0_seq_c h Q :=
  fn_of_cw (hs := (fun _ => [])) (ann := A_slices_Sorted_int) (args := [(Value.func (.func g0_seq_f) #[] g0_seq_c)]) mixedPP Try.func30 (c := bodyOf Try.f30) (by kernel_rfl) (by kernel_rfl) (by kernel_rfl) (Eq.mpr (E_slices_Sorted_int g0_seq_f g0_seq_c h Q) H)
def F_maps_Keys_map_int_int_int_int (g0_m : Option Nat) (h : Hp) (Q : List Value → Hp → Prop) : Prop :=
wth (Array.push h (Obj.cells #[(Value.map g0_m)] T_map_int_int)) fun h1 =>
Q [(Value.func (.func 47) #[] #[(Value.pointer (some (Addr.mk (Array.size h) 0 none)))])] h1
def A_maps_Keys_map_int_int_int_int : Ann := .nil
theorem E_maps_Keys_map_int_int_int_int (g0_m : Option Nat) (h : Hp) (Q : List Value → Hp → Prop) : cw PP 4 (fun _ => []) (bodyOf Try.f31) A_maps_Keys_map_int_int_int_int (finQ PP (Try.f31.results.toList) Q) (argFr [(Value.map g0_m)]) h = F_maps_Keys_map_int_int_int_int g0_m h Q := by kernel_rfl
theorem O_maps_Keys_map_int_int_int_int (g0_m : Option Nat) {h : Hp} {Q : List Value → Hp → Prop} (H : F_maps_Keys_map_int_int_int_int g0_m h Q) : S_maps_Keys_map_int_int_int_int g0_m h Q :=
  fn_of_cw (hs := (fun _ => [])) (ann := A_maps_Keys_map_int_int_int_int) (args := [(Value.map g0_m)]) mixedPP Try.func31 (c := bodyOf Try.f31) (by kernel_rfl) (by kernel_rfl) (by kernel_rfl) (Eq.mpr (E_maps_Keys_map_int_int_int_int g0_m h Q) H)
def F_name_Names_Unseen (g0_n : Option Addr) (g1_l : Option Addr) (g2_xid : Int) (g3_name : ByteArray) (h : Hp) (Q : List Value → Hp → Prop) : Prop :=
(if (Option.isNone g0_n) = true then
  (Q [(Value.slice none 0 0)] h) else
  (wth (Array.push h (Obj.map #[] 0)) fun h1 =>
    nilW g0_n fun a2 => ∃ r3 : Option Nat, rd h1 (Addr.add a2 0) = some (Value.map r3) ∧
    ∃ es4 : Array MapEntry, mapAt h1 r3 es4 ∧ KeysLike (Value.string g3_name) es4 ∧ ∃ l5 : Sl, mgetD (Value.string g3_name) es4 (Value.slice none 0 0) = (Value.slice l5.a l5.n l5.c) ∧
    ∀ X7 : List Value → Hp → Prop, (∀ n8 : Int, ∀ h9 : Hp, ((if (decide (n8 < (l5.n : Int))) = true then
          (nilW l5.a fun a10 => ixOk n8 l5.n (∃ n11 : Int, rd h9 (Addr.add (Addr.add a10 (Int.toNat n8 * 5)) 0) = some (Value.int .i64 n11) ∧ ∃ n12 : Int, rd h9 (Addr.add (Addr.add a10 (Int.toNat n8 * 5)) 1) = some (Value.int .i64 n12) ∧ ∃ s13 : ByteArray, rd h9 (Addr.add (Addr.add a10 (Int.toNat n8 * 5)) 2) = some (Value.string s13) ∧ ∃ l14 : Sl, rd h9 (Addr.add (Addr.add a10 (Int.toNat n8 * 5)) 3) = some (Value.slice l14.a l14.n l14.c) ∧ ∃ n15 : Int, rd h9 (Addr.add (Addr.add a10 (Int.toNat n8 * 5)) 4) = some (Value.int .i64 n15) ∧ wth (Array.push h9 (Obj.cells #[(Value.int .i64 (0 : Int)), (Value.int .i64 (0 : Int)), (Value.string (ByteArray.mk #[])), (Value.slice none 0 0), (Value.int .i64 (0 : Int))] T_name_version)) fun h16 =>
              stOk h16 (Addr.mk (Array.size h9) 0 none) 5 ∧ wth (wrs h16 (Addr.mk (Array.size h9) 0 none) 0 [(Value.int .i64 n11), (Value.int .i64 n12), (Value.string s13), (Value.slice l14.a l14.n l14.c), (Value.int .i64 n15)]) fun h17 =>
              ∃ n18 : Int, rd h17 (Addr.add (Addr.mk (Array.size h9) 0 none) 0) = some (Value.int .i64 n18) ∧
              ∃ n19 : Int, rd h17 (Addr.add (Addr.mk (Array.size h9) 0 none) 1) = some (Value.int .i64 n19) ∧
              ∀ X20 : List Value → Hp → Prop, (∀ n21 : Int, ∀ h22 : Hp, ((if (decide (n21 < (2 : Int))) = true then
                    (∀ J23 : List Value → Hp → Prop, (∀ h24 : Hp, (X20 [(Value.int .i64 (IntKind.wrap .i64 (n21 + (1 : Int))))] h24) → J23 [] h24) →
                      ixOk n21 2 (∃ n25 : Int, (#[(Value.int .i64 n18), (Value.int .i64 n19)] : Array Value)[Int.toNat n21 * 1]? = some (Value.int .i64 n25) ∧ ∀ J26 : List Value → Hp → Prop, (∀ b27 : Bool, ∀ h28 : Hp, ((if b27 = true then
                              (∃ es29 : Array MapEntry, mapAt h28 (some (Array.size h)) es29 ∧ KeysLike (Value.int .i64 n25) es29 ∧ ∃ n30 : Int, mgetD (Value.int .i64 n25) es29 (Value.int .i64 (0 : Int)) = (Value.int .i64 n30) ∧
                                ∃ (m32 : Nat) (es33 : Array MapEntry) (c34 : Nat), (some (Array.size h)) = some m32 ∧ h28[m32]? = some (.map es33 c34) ∧ KeysLike (Value.int .i64 n25) es33 ∧ wth (Array.setIfInBounds h28 m32 (mput (Value.int .i64 n25) (Value.int .i64 (IntKind.wrap .i64 (n30 + (1 : Int)))) es33 c34)) fun h35 =>
                                J23 [] h35) else
                              (J23 [] h28))) → J26 [(Value.bool b27)] h28) →
                        (if (n25 != (0 : Int)) = true then (S_clog_Log_State g1_l n25 h22 fun (vs36 : List Value) (h37 : Hp) =>
                            ∃ n38 : Int, vs36 = [(Value.int .i64 n38)] ∧
                            (if (n38 != (3 : Int)) = true then (S_clog_Log_Sees g1_l g2_xid n25 h37 fun (vs39 : List Value) (h40 : Hp) =>
                                ∃ b41 : Bool, vs39 = [(Value.bool b41)] ∧
                                J26 [(Value.bool (!b41))] h40) else
                              (J26 [(Value.bool false)] h37))) else
                          (J26 [(Value.bool false)] h22)))) else
                    (X7 [(Value.int .i64 (IntKind.wrap .i64 (n8 + (1 : Int))))] h22))) → X20 [(Value.int .i64 n21)] h22) →
              X20 [(Value.int .i64 (0 : Int))] h17)) else
          (S_maps_Keys_map_int_int_int_int (some (Array.size h)) h9 fun (vs42 : List Value) (h43 : Hp) =>
            ∃ f44 : Nat, ∃ cs45 : Array Value, vs42 = [(Value.func (.func f44) #[] cs45)] ∧
            S_slices_Sorted_int f44 cs45 h43 fun (vs46 : List Value) (h47 : Hp) =>
            ∃ l48 : Sl, vs46 = [(Value.slice l48.a l48.n l48.c)] ∧
            Q [(Value.slice l48.a l48.n l48.c)] h47))) → X7 [(Value.int .i64 n8)] h9) →
    X7 [(Value.int .i64 (0 : Int))] h1))
def A_name_Names_Unseen : Ann := (.mk none ⟨[], []⟩ .nil (.mk none ⟨[], []⟩ .nil (.mk none ⟨[], []⟩ .nil (.mk none ⟨[], []⟩ (.mk none ⟨[], []⟩ .nil (.mk none ⟨[], []⟩ (.mk none ⟨[1, 2, 9, 22, 23], [(24, (.c (.int .i64)))]⟩ (.mk none ⟨[], []⟩ .nil (.mk none ⟨[], []⟩ .nil (.mk none ⟨[], []⟩ (.mk none ⟨[], []⟩ (.mk none ⟨[], []⟩ .nil (.mk none ⟨[], []⟩ .nil (.mk none ⟨[], []⟩ (.mk none ⟨[1, 2, 9, 22, 23, 24, 32], [(33, (.c (.int .i64)))]⟩ (.mk none ⟨[], []⟩ .nil (.mk none ⟨[], []⟩ .nil (.mk none ⟨[], []⟩ (.mk (some ⟨[1, 2, 9, 22, 23, 24, 32, 33], []⟩) ⟨[], []⟩ (.mk none ⟨[], []⟩ .nil (.mk none ⟨[], []⟩ (.mk (some ⟨[1, 2, 9, 13, 22, 23, 24, 32, 33], [(50, (.c .bool))]⟩) ⟨[], []⟩ .nil .nil) .nil)) .nil) .nil))) .nil) .nil))) .nil) .nil))) .nil) .nil)) .nil))))
theorem E_name_Names_Unseen (g0_n : Option Addr) (g1_l : Option Addr) (g2_xid : Int) (g3_name : ByteArray) (h : Hp) (Q : List Value → Hp → Prop) : cw PP 60 (fun _ => []) (bodyOf Try.f12) A_name_Names_Unseen (finQ PP (Try.f12.results.toList) Q) (argFr [(Value.pointer g0_n), (Value.pointer g1_l), (Value.int .i64 g2_xid), (Value.string g3_name)]) h = F_name_Names_Unseen g0_n g1_l g2_xid g3_name h Q := by kernel_rfl
theorem O_name_Names_Unseen (g0_n : Option Addr) (g1_l : Option Addr) (g2_xid : Int) (g3_name : ByteArray) {h : Hp} {Q : List Value → Hp → Prop} (H : F_name_Names_Unseen g0_n g1_l g2_xid g3_name h Q) : S_name_Names_Unseen g0_n g1_l g2_xid g3_name h Q :=
  fn_of_cw (hs := (fun _ => [])) (ann := A_name_Names_Unseen) (args := [(Value.pointer g0_n), (Value.pointer g1_l), (Value.int .i64 g2_xid), (Value.string g3_name)]) mixedPP Try.func12 (c := bodyOf Try.f12) (by kernel_rfl) (by kernel_rfl) (by kernel_rfl) (Eq.mpr (E_name_Names_Unseen g0_n g1_l g2_xid g3_name h Q) H)
def F_slices_IndexFunc_sint_int (g0_s : Sl) (g1_f_f : Nat) (g1_f_c : Array Value) (h : Hp) (Q : List Value → Hp → Prop) : Prop :=
∀ X1 : List Value → Hp → Prop, (∀ n2 : Int, ∀ h3 : Hp, ((if (decide (n2 < (g0_s.n : Int))) = true then
      (nilW g0_s.a fun a4 => ixOk n2 g0_s.n (∃ n5 : Int, rd h3 (Addr.add a4 (Int.toNat n2 * 1)) = some (Value.int .i64 n5) ∧
          Fn PP g1_f_f ((#[] ++ #[(Value.int .i64 n5)]) ++ g1_f_c) h3 fun (vs6 : List Value) (h7 : Hp) =>
          ∃ b8 : Bool, vs6 = [(Value.bool b8)] ∧
          (if b8 = true then
            (Q [(Value.int .i64 n2)] h7) else
            (X1 [(Value.int .i64 (IntKind.wrap .i64 (n2 + (1 : Int))))] h7)))) else
      (Q [(Value.int .i64 (-1 : Int))] h3))) → X1 [(Value.int .i64 n2)] h3) →
X1 [(Value.int .i64 (0 : Int))] h
def A_slices_IndexFunc_sint_int : Ann := (.mk none ⟨[], []⟩ .nil (.mk none ⟨[], []⟩ (.mk none ⟨[], []⟩ .nil (.mk none ⟨[], []⟩ (.mk none ⟨[0, 1, 7], [(8, (.c (.int .i64)))]⟩ .nil .nil) .nil)) .nil))
theorem E_slices_IndexFunc_sint_int (g0_s : Sl) (g1_f_f : Nat) (g1_f_c : Array Value) (h : Hp) (Q : List Value → Hp → Prop) : cw PP 19 (fun _ => []) (bodyOf Try.f28) A_slices_IndexFunc_sint_int (finQ PP (Try.f28.results.toList) Q) (argFr [(Value.slice g0_s.a g0_s.n g0_s.c), (Value.func (.func g1_f_f) #[] g1_f_c)]) h = F_slices_IndexFunc_sint_int g0_s g1_f_f g1_f_c h Q := by kernel_rfl
theorem O_slices_IndexFunc_sint_int (g0_s : Sl) (g1_f_f : Nat) (g1_f_c : Array Value) {h : Hp} {Q : List Value → Hp → Prop} (H : F_slices_IndexFunc_sint_int g0_s g1_f_f g1_f_c h Q) : S_slices_IndexFunc_sint_int g0_s g1_f_f g1_f_c h Q :=
  fn_of_cw (hs := (fun _ => [])) (ann := A_slices_IndexFunc_sint_int) (args := [(Value.slice g0_s.a g0_s.n g0_s.c), (Value.func (.func g1_f_f) #[] g1_f_c)]) mixedPP Try.func28 (c := bodyOf Try.f28) (by kernel_rfl) (by kernel_rfl) (by kernel_rfl) (Eq.mpr (E_slices_IndexFunc_sint_int g0_s g1_f_f g1_f_c h Q) H)
def F_name_Names_May (g0_n : Option Addr) (g1_l : Option Addr) (g2_xid : Int) (g3_name : ByteArray) (h : Hp) (Q : List Value → Hp → Prop) : Prop :=
wth (Array.push h (Obj.cells #[(Value.pointer g1_l)] T_pclog_Log)) fun h1 =>
(if (Option.isNone g0_n) = true then
  (Q [(Value.int .i64 (1 : Int)), (Value.int .i64 (0 : Int))] h1) else
  (∃ p2 : Option Addr, rd h1 (Addr.mk (Array.size h) 0 none) = some (Value.pointer p2) ∧
    S_name_Names_Unseen g0_n p2 g2_xid g3_name h1 fun (vs3 : List Value) (h4 : Hp) =>
    ∃ l5 : Sl, vs3 = [(Value.slice l5.a l5.n l5.c)] ∧
    S_slices_IndexFunc_sint_int ⟨l5.a, l5.n, l5.c⟩ 29 #[(Value.pointer (some (Addr.mk (Array.size h) 0 none)))] h4 fun (vs6 : List Value) (h7 : Hp) =>
    ∃ n8 : Int, vs6 = [(Value.int .i64 n8)] ∧
    (if (decide (n8 ≥ (0 : Int))) = true then
      (nilW l5.a fun a9 => ixOk n8 l5.n (∃ n10 : Int, rd h7 (Addr.add a9 (Int.toNat n8 * 1)) = some (Value.int .i64 n10) ∧
          Q [(Value.int .i64 (75 : Int)), (Value.int .i64 n10)] h7)) else
      ((if (decide ((l5.n : Int) > (0 : Int))) = true then
          (nilW l5.a fun a11 => ixOk (0 : Int) l5.n (∃ n12 : Int, rd h7 (Addr.add a11 (Int.toNat (0 : Int) * 1)) = some (Value.int .i64 n12) ∧
              Q [(Value.int .i64 (71 : Int)), (Value.int .i64 n12)] h7)) else
          (Q [(Value.int .i64 (0 : Int)), (Value.int .i64 (0 : Int))] h7))))))
def A_name_Names_May : Ann := .nil
theorem E_name_Names_May (g0_n : Option Addr) (g1_l : Option Addr) (g2_xid : Int) (g3_name : ByteArray) (h : Hp) (Q : List Value → Hp → Prop) : cw PP 34 (fun _ => []) (bodyOf Try.f11) A_name_Names_May (finQ PP (Try.f11.results.toList) Q) (argFr [(Value.pointer g0_n), (Value.pointer g1_l), (Value.int .i64 g2_xid), (Value.string g3_name)]) h = F_name_Names_May g0_n g1_l g2_xid g3_name h Q := by kernel_rfl
theorem O_name_Names_May (g0_n : Option Addr) (g1_l : Option Addr) (g2_xid : Int) (g3_name : ByteArray) {h : Hp} {Q : List Value → Hp → Prop} (H : F_name_Names_May g0_n g1_l g2_xid g3_name h Q) : S_name_Names_May g0_n g1_l g2_xid g3_name h Q :=
  fn_of_cw (hs := (fun _ => [])) (ann := A_name_Names_May) (args := [(Value.pointer g0_n), (Value.pointer g1_l), (Value.int .i64 g2_xid), (Value.string g3_name)]) mixedPP Try.func11 (c := bodyOf Try.f11) (by kernel_rfl) (by kernel_rfl) (by kernel_rfl) (Eq.mpr (E_name_Names_May g0_n g1_l g2_xid g3_name h Q) H)
def F_value_Name (g0_s : ByteArray) (h : Hp) (Q : List Value → Hp → Prop) : Prop :=
∀ J1 : List Value → Hp → Prop, (∀ b2 : Bool, ∀ h3 : Hp, ((if b2 = true then
      (Q [(Value.bool false)] h3) else
      (∀ X4 : List Value → Hp → Prop, (∀ n5 : Int, ∀ h6 : Hp, ((if (decide (n5 < (ByteArray.size g0_s : Int))) = true then
              (ixOk n5 (ByteArray.size g0_s) (∀ J7 : List Value → Hp → Prop, (∀ b8 : Bool, ∀ h9 : Hp, (∀ J10 : List Value → Hp → Prop, (∀ b11 : Bool, ∀ h12 : Hp, ((if b11 = true then
                            (Q [(Value.bool false)] h12) else
                            (X4 [(Value.int .i64 (IntKind.wrap .i64 (n5 + (1 : Int))))] h12))) → J10 [(Value.bool b11)] h12) →
                      (if (decide ((strIx g0_s n5) < (97 : Int))) = true then ((if (!b8) = true then (J10 [(Value.bool true)] h9) else
                            (J10 [(Value.bool (n5 == (0 : Int)))] h9))) else
                        ((if (decide ((strIx g0_s n5) > (122 : Int))) = true then ((if (!b8) = true then (J10 [(Value.bool true)] h9) else
                                (J10 [(Value.bool (n5 == (0 : Int)))] h9))) else
                            (J10 [(Value.bool false)] h9))))) → J7 [(Value.bool b8)] h9) →
                  (if (decide ((strIx g0_s n5) ≥ (48 : Int))) = true then ((if (decide ((strIx g0_s n5) ≤ (57 : Int))) = true then (J7 [(Value.bool true)] h6) else
                        (J7 [(Value.bool ((strIx g0_s n5) == (95 : Int)))] h6))) else
                    (J7 [(Value.bool ((strIx g0_s n5) == (95 : Int)))] h6)))) else
              (Q [(Value.bool true)] h6))) → X4 [(Value.int .i64 n5)] h6) →
        X4 [(Value.int .i64 (0 : Int))] h3))) → J1 [(Value.bool b2)] h3) →
(if (decide ((ByteArray.size g0_s : Int) < (1 : Int))) = true then (J1 [(Value.bool true)] h) else
  (J1 [(Value.bool (decide ((ByteArray.size g0_s : Int) > (8 : Int))))] h))
def A_value_Name : Ann := (.mk none ⟨[], []⟩ .nil (.mk none ⟨[], []⟩ (.mk none ⟨[], []⟩ (.mk (some ⟨[0], [(13, (.c .bool))]⟩) ⟨[], []⟩ .nil .nil) .nil) (.mk none ⟨[], []⟩ (.mk none ⟨[], []⟩ .nil (.mk none ⟨[], []⟩ (.mk none ⟨[0, 15], [(16, (.c (.int .i64)))]⟩ (.mk none ⟨[], []⟩ .nil (.mk none ⟨[], []⟩ .nil (.mk none ⟨[], []⟩ (.mk none ⟨[], []⟩ (.mk none ⟨[], []⟩ .nil (.mk none ⟨[], []⟩ .nil (.mk none ⟨[], []⟩ (.mk (some ⟨[0, 3, 4, 15, 16], [(5, (.c .bool))]⟩) ⟨[], []⟩ .nil .nil) (.mk none ⟨[], []⟩ (.mk (some ⟨[0, 15, 16], [(45, (.c .bool))]⟩) ⟨[], []⟩ .nil .nil) .nil)))) .nil) .nil))) .nil) .nil)) .nil)))
theorem E_value_Name (g0_s : ByteArray) (h : Hp) (Q : List Value → Hp → Prop) : cw PP 47 (fun _ => []) (bodyOf Try.f32) A_value_Name (finQ PP (Try.f32.results.toList) Q) (argFr [(Value.string g0_s)]) h = F_value_Name g0_s h Q := by kernel_rfl
theorem O_value_Name (g0_s : ByteArray) {h : Hp} {Q : List Value → Hp → Prop} (H : F_value_Name g0_s h Q) : S_value_Name g0_s h Q :=
  fn_of_cw (hs := (fun _ => [])) (ann := A_value_Name) (args := [(Value.string g0_s)]) mixedPP Try.func32 (c := bodyOf Try.f32) (by kernel_rfl) (by kernel_rfl) (by kernel_rfl) (Eq.mpr (E_value_Name g0_s h Q) H)
def F_value_Good (g0_v_0 : Int) (g0_v_1 : Int) (g0_v_2 : Nat) (g0_v_3 : ByteArray) (h : Hp) (Q : List Value → Hp → Prop) : Prop :=
wth (Array.push h (Obj.cells #[(Value.int .i64 g0_v_0), (Value.int .i64 g0_v_1), (Value.float .f64 g0_v_2), (Value.string g0_v_3)] T_api_Value)) fun h1 =>
wth (Array.push h1 (Obj.map #[] 0)) fun h2 =>
∃ (m3 : Nat) (es4 : Array MapEntry) (c5 : Nat), (some (Array.size h1)) = some m3 ∧ h2[m3]? = some (.map es4 c5) ∧ KeysLike (Value.int .i64 (0 : Int)) es4 ∧ wth (Array.setIfInBounds h2 m3 (mput (Value.int .i64 (0 : Int)) (Value.func (.func 83) #[] #[]) es4 c5)) fun h6 =>
∃ (m7 : Nat) (es8 : Array MapEntry) (c9 : Nat), (some (Array.size h1)) = some m7 ∧ h6[m7]? = some (.map es8 c9) ∧ KeysLike (Value.int .i64 (1 : Int)) es8 ∧ wth (Array.setIfInBounds h6 m7 (mput (Value.int .i64 (1 : Int)) (Value.func (.func 84) #[] #[]) es8 c9)) fun h10 =>
∃ (m11 : Nat) (es12 : Array MapEntry) (c13 : Nat), (some (Array.size h1)) = some m11 ∧ h10[m11]? = some (.map es12 c13) ∧ KeysLike (Value.int .i64 (2 : Int)) es12 ∧ wth (Array.setIfInBounds h10 m11 (mput (Value.int .i64 (2 : Int)) (Value.func (.func 85) #[] #[]) es12 c13)) fun h14 =>
∃ (m15 : Nat) (es16 : Array MapEntry) (c17 : Nat), (some (Array.size h1)) = some m15 ∧ h14[m15]? = some (.map es16 c17) ∧ KeysLike (Value.int .i64 (3 : Int)) es16 ∧ wth (Array.setIfInBounds h14 m15 (mput (Value.int .i64 (3 : Int)) (Value.func (.func 86) #[] #[]) es16 c17)) fun h18 =>
∃ (m19 : Nat) (es20 : Array MapEntry) (c21 : Nat), (some (Array.size h1)) = some m19 ∧ h18[m19]? = some (.map es20 c21) ∧ KeysLike (Value.int .i64 (4 : Int)) es20 ∧ wth (Array.setIfInBounds h18 m19 (mput (Value.int .i64 (4 : Int)) (Value.func (.func 87) #[] #[]) es20 c21)) fun h22 =>
∃ n23 : Int, rd h22 (Addr.add (Addr.mk (Array.size h) 0 none) 0) = some (Value.int .i64 n23) ∧
∃ es24 : Array MapEntry, mapAt h22 (some (Array.size h1)) es24 ∧ KeysLike (Value.int .i64 n23) es24 ∧ ((∃ f25 : Nat, ∃ cs26 : Array Value, mgetD (Value.int .i64 n23) es24 Value.nilFunc = (Value.func (.func f25) #[] cs26) ∧
    ∃ n28 : Int, rd h22 (Addr.add (Addr.mk (Array.size h) 0 none) 0) = some (Value.int .i64 n28) ∧ ∃ n29 : Int, rd h22 (Addr.add (Addr.mk (Array.size h) 0 none) 1) = some (Value.int .i64 n29) ∧ ∃ x30 : Nat, rd h22 (Addr.add (Addr.mk (Array.size h) 0 none) 2) = some (Value.float .f64 x30) ∧ ∃ s31 : ByteArray, rd h22 (Addr.add (Addr.mk (Array.size h) 0 none) 3) = some (Value.string s31) ∧ Fn PP f25 ((#[] ++ #[(Value.agg #[(Value.int .i64 n28), (Value.int .i64 n29), (Value.float .f64 x30), (Value.string s31)])]) ++ cs26) h22 fun (vs32 : List Value) (h33 : Hp) =>
    ∃ b34 : Bool, vs32 = [(Value.bool b34)] ∧
    Q [(Value.bool b34)] h33) ∨
  (mgetD (Value.int .i64 n23) es24 Value.nilFunc = Value.nilFunc ∧
    Q [(Value.bool false)] h22))
def A_value_Good : Ann := .nil
theorem E_value_Good (g0_v_0 : Int) (g0_v_1 : Int) (g0_v_2 : Nat) (g0_v_3 : ByteArray) (h : Hp) (Q : List Value → Hp → Prop) : cw PP 18 (fun _ => []) (bodyOf Try.f59) A_value_Good (finQ PP (Try.f59.results.toList) Q) (argFr [(Value.agg #[(Value.int .i64 g0_v_0), (Value.int .i64 g0_v_1), (Value.float .f64 g0_v_2), (Value.string g0_v_3)])]) h = F_value_Good g0_v_0 g0_v_1 g0_v_2 g0_v_3 h Q := by kernel_rfl
theorem O_value_Good (g0_v_0 : Int) (g0_v_1 : Int) (g0_v_2 : Nat) (g0_v_3 : ByteArray) {h : Hp} {Q : List Value → Hp → Prop} (H : F_value_Good g0_v_0 g0_v_1 g0_v_2 g0_v_3 h Q) : S_value_Good g0_v_0 g0_v_1 g0_v_2 g0_v_3 h Q :=
  fn_of_cw (hs := (fun _ => [])) (ann := A_value_Good) (args := [(Value.agg #[(Value.int .i64 g0_v_0), (Value.int .i64 g0_v_1), (Value.float .f64 g0_v_2), (Value.string g0_v_3)])]) mixedPP Try.func59 (c := bodyOf Try.f59) (by kernel_rfl) (by kernel_rfl) (by kernel_rfl) (Eq.mpr (E_value_Good g0_v_0 g0_v_1 g0_v_2 g0_v_3 h Q) H)
def F_row_one (g0_c_0 : ByteArray) (g0_c_1 : Int) (g0_c_2 : Bool) (g0_c_3 : Int) (g0_c_4 : Int) (g0_c_5 : Nat) (g0_c_6 : ByteArray) (h : Hp) (Q : List Value → Hp → Prop) : Prop :=
wth (Array.push h (Obj.cells #[(Value.string g0_c_0), (Value.int .i64 g0_c_1), (Value.bool g0_c_2), (Value.int .i64 g0_c_3), (Value.int .i64 g0_c_4), (Value.float .f64 g0_c_5), (Value.string g0_c_6)] T_api_Column)) fun h1 =>
∃ s2 : ByteArray, rd h1 (Addr.add (Addr.mk (Array.size h) 0 none) 0) = some (Value.string s2) ∧
S_value_Name s2 h1 fun (vs3 : List Value) (h4 : Hp) =>
∃ b5 : Bool, vs3 = [(Value.bool b5)] ∧
(if b5 = true then (∃ n6 : Int, rd h4 (Addr.add (Addr.mk (Array.size h) 0 none) 1) = some (Value.int .i64 n6) ∧
    (if (decide (n6 ≥ (1 : Int))) = true then (∃ n7 : Int, rd h4 (Addr.add (Addr.mk (Array.size h) 0 none) 1) = some (Value.int .i64 n7) ∧
        (if (decide (n7 ≤ (4 : Int))) = true then (∃ n8 : Int, rd h4 (Addr.add (Addr.add (Addr.mk (Array.size h) 0 none) 3) 0) = some (Value.int .i64 n8) ∧ ∃ n9 : Int, rd h4 (Addr.add (Addr.add (Addr.mk (Array.size h) 0 none) 3) 1) = some (Value.int .i64 n9) ∧ ∃ x10 : Nat, rd h4 (Addr.add (Addr.add (Addr.mk (Array.size h) 0 none) 3) 2) = some (Value.float .f64 x10) ∧ ∃ s11 : ByteArray, rd h4 (Addr.add (Addr.add (Addr.mk (Array.size h) 0 none) 3) 3) = some (Value.string s11) ∧ S_value_Good n8 n9 x10 s11 h4 fun (vs12 : List Value) (h13 : Hp) =>
            ∃ b14 : Bool, vs12 = [(Value.bool b14)] ∧
            (if b14 = true then (∃ n15 : Int, rd h13 (Addr.add (Addr.add (Addr.mk (Array.size h) 0 none) 3) 0) = some (Value.int .i64 n15) ∧
                (if (n15 == (0 : Int)) = true then (Q [(Value.bool true)] h13) else
                  (∃ n16 : Int, rd h13 (Addr.add (Addr.add (Addr.mk (Array.size h) 0 none) 3) 0) = some (Value.int .i64 n16) ∧
                    ∃ n17 : Int, rd h13 (Addr.add (Addr.mk (Array.size h) 0 none) 1) = some (Value.int .i64 n17) ∧
                    Q [(Value.bool (n16 == n17))] h13))) else
              (Q [(Value.bool false)] h13))) else
          (Q [(Value.bool false)] h4))) else
      (Q [(Value.bool false)] h4))) else
  (Q [(Value.bool false)] h4))
def A_row_one : Ann := .nil
theorem E_row_one (g0_c_0 : ByteArray) (g0_c_1 : Int) (g0_c_2 : Bool) (g0_c_3 : Int) (g0_c_4 : Int) (g0_c_5 : Nat) (g0_c_6 : ByteArray) (h : Hp) (Q : List Value → Hp → Prop) : cw PP 35 (fun _ => []) (bodyOf Try.f48) A_row_one (finQ PP (Try.f48.results.toList) Q) (argFr [(Value.agg #[(Value.string g0_c_0), (Value.int .i64 g0_c_1), (Value.bool g0_c_2), (Value.int .i64 g0_c_3), (Value.int .i64 g0_c_4), (Value.float .f64 g0_c_5), (Value.string g0_c_6)])]) h = F_row_one g0_c_0 g0_c_1 g0_c_2 g0_c_3 g0_c_4 g0_c_5 g0_c_6 h Q := by kernel_rfl
theorem O_row_one (g0_c_0 : ByteArray) (g0_c_1 : Int) (g0_c_2 : Bool) (g0_c_3 : Int) (g0_c_4 : Int) (g0_c_5 : Nat) (g0_c_6 : ByteArray) {h : Hp} {Q : List Value → Hp → Prop} (H : F_row_one g0_c_0 g0_c_1 g0_c_2 g0_c_3 g0_c_4 g0_c_5 g0_c_6 h Q) : S_row_one g0_c_0 g0_c_1 g0_c_2 g0_c_3 g0_c_4 g0_c_5 g0_c_6 h Q :=
  fn_of_cw (hs := (fun _ => [])) (ann := A_row_one) (args := [(Value.agg #[(Value.string g0_c_0), (Value.int .i64 g0_c_1), (Value.bool g0_c_2), (Value.int .i64 g0_c_3), (Value.int .i64 g0_c_4), (Value.float .f64 g0_c_5), (Value.string g0_c_6)])]) mixedPP Try.func48 (c := bodyOf Try.f48) (by kernel_rfl) (by kernel_rfl) (by kernel_rfl) (Eq.mpr (E_row_one g0_c_0 g0_c_1 g0_c_2 g0_c_3 g0_c_4 g0_c_5 g0_c_6 h Q) H)
def F_slices_IndexFunc_sapi_Column_api_Column (g0_s : Sl) (g1_f_f : Nat) (g1_f_c : Array Value) (h : Hp) (Q : List Value → Hp → Prop) : Prop :=
∀ X1 : List Value → Hp → Prop, (∀ n2 : Int, ∀ h3 : Hp, ((if (decide (n2 < (g0_s.n : Int))) = true then
      (nilW g0_s.a fun a4 => ixOk n2 g0_s.n (∃ s5 : ByteArray, rd h3 (Addr.add (Addr.add a4 (Int.toNat n2 * 7)) 0) = some (Value.string s5) ∧ ∃ n6 : Int, rd h3 (Addr.add (Addr.add a4 (Int.toNat n2 * 7)) 1) = some (Value.int .i64 n6) ∧ ∃ b7 : Bool, rd h3 (Addr.add (Addr.add a4 (Int.toNat n2 * 7)) 2) = some (Value.bool b7) ∧ ∃ n8 : Int, rd h3 (Addr.add (Addr.add a4 (Int.toNat n2 * 7)) 3) = some (Value.int .i64 n8) ∧ ∃ n9 : Int, rd h3 (Addr.add (Addr.add a4 (Int.toNat n2 * 7)) 4) = some (Value.int .i64 n9) ∧ ∃ x10 : Nat, rd h3 (Addr.add (Addr.add a4 (Int.toNat n2 * 7)) 5) = some (Value.float .f64 x10) ∧ ∃ s11 : ByteArray, rd h3 (Addr.add (Addr.add a4 (Int.toNat n2 * 7)) 6) = some (Value.string s11) ∧ Fn PP g1_f_f ((#[] ++ #[(Value.agg #[(Value.string s5), (Value.int .i64 n6), (Value.bool b7), (Value.int .i64 n8), (Value.int .i64 n9), (Value.float .f64 x10), (Value.string s11)])]) ++ g1_f_c) h3 fun (vs12 : List Value) (h13 : Hp) =>
          ∃ b14 : Bool, vs12 = [(Value.bool b14)] ∧
          (if b14 = true then
            (Q [(Value.int .i64 n2)] h13) else
            (X1 [(Value.int .i64 (IntKind.wrap .i64 (n2 + (1 : Int))))] h13)))) else
      (Q [(Value.int .i64 (-1 : Int))] h3))) → X1 [(Value.int .i64 n2)] h3) →
X1 [(Value.int .i64 (0 : Int))] h
def A_slices_IndexFunc_sapi_Column_api_Column : Ann := (.mk none ⟨[], []⟩ .nil (.mk none ⟨[], []⟩ (.mk none ⟨[], []⟩ .nil (.mk none ⟨[], []⟩ (.mk none ⟨[0, 1, 7], [(8, (.c (.int .i64)))]⟩ .nil .nil) .nil)) .nil))
theorem E_slices_IndexFunc_sapi_Column_api_Column (g0_s : Sl) (g1_f_f : Nat) (g1_f_c : Array Value) (h : Hp) (Q : List Value → Hp → Prop) : cw PP 19 (fun _ => []) (bodyOf Try.f60) A_slices_IndexFunc_sapi_Column_api_Column (finQ PP (Try.f60.results.toList) Q) (argFr [(Value.slice g0_s.a g0_s.n g0_s.c), (Value.func (.func g1_f_f) #[] g1_f_c)]) h = F_slices_IndexFunc_sapi_Column_api_Column g0_s g1_f_f g1_f_c h Q := by kernel_rfl
theorem O_slices_IndexFunc_sapi_Column_api_Column (g0_s : Sl) (g1_f_f : Nat) (g1_f_c : Array Value) {h : Hp} {Q : List Value → Hp → Prop} (H : F_slices_IndexFunc_sapi_Column_api_Column g0_s g1_f_f g1_f_c h Q) : S_slices_IndexFunc_sapi_Column_api_Column g0_s g1_f_f g1_f_c h Q :=
  fn_of_cw (hs := (fun _ => [])) (ann := A_slices_IndexFunc_sapi_Column_api_Column) (args := [(Value.slice g0_s.a g0_s.n g0_s.c), (Value.func (.func g1_f_f) #[] g1_f_c)]) mixedPP Try.func60 (c := bodyOf Try.f60) (by kernel_rfl) (by kernel_rfl) (by kernel_rfl) (Eq.mpr (E_slices_IndexFunc_sapi_Column_api_Column g0_s g1_f_f g1_f_c h Q) H)
def F_row_Find (g0_l : Sl) (g1_name : ByteArray) (h : Hp) (Q : List Value → Hp → Prop) : Prop :=
wth (Array.push h (Obj.cells #[(Value.string g1_name)] T_string)) fun h1 =>
S_slices_IndexFunc_sapi_Column_api_Column ⟨g0_l.a, g0_l.n, g0_l.c⟩ 61 #[(Value.pointer (some (Addr.mk (Array.size h) 0 none)))] h1 fun (vs2 : List Value) (h3 : Hp) =>
∃ n4 : Int, vs2 = [(Value.int .i64 n4)] ∧
Q [(Value.int .i64 n4)] h3
def A_row_Find : Ann := .nil
theorem E_row_Find (g0_l : Sl) (g1_name : ByteArray) (h : Hp) (Q : List Value → Hp → Prop) : cw PP 8 (fun _ => []) (bodyOf Try.f49) A_row_Find (finQ PP (Try.f49.results.toList) Q) (argFr [(Value.slice g0_l.a g0_l.n g0_l.c), (Value.string g1_name)]) h = F_row_Find g0_l g1_name h Q := by kernel_rfl
theorem O_row_Find (g0_l : Sl) (g1_name : ByteArray) {h : Hp} {Q : List Value → Hp → Prop} (H : F_row_Find g0_l g1_name h Q) : S_row_Find g0_l g1_name h Q :=
  fn_of_cw (hs := (fun _ => [])) (ann := A_row_Find) (args := [(Value.slice g0_l.a g0_l.n g0_l.c), (Value.string g1_name)]) mixedPP Try.func49 (c := bodyOf Try.f49) (by kernel_rfl) (by kernel_rfl) (by kernel_rfl) (Eq.mpr (E_row_Find g0_l g1_name h Q) H)
def F_row_Good (g0_l : Sl) (h : Hp) (Q : List Value → Hp → Prop) : Prop :=
∀ J1 : List Value → Hp → Prop, (∀ b2 : Bool, ∀ h3 : Hp, ((if b2 = true then
      (Q [(Value.bool false)] h3) else
      (∀ X4 : List Value → Hp → Prop, (∀ n5 : Int, ∀ h6 : Hp, ((if (decide (n5 < (g0_l.n : Int))) = true then
              (nilW g0_l.a fun a7 => ixOk n5 g0_l.n (∃ s8 : ByteArray, rd h6 (Addr.add (Addr.add a7 (Int.toNat n5 * 7)) 0) = some (Value.string s8) ∧ ∃ n9 : Int, rd h6 (Addr.add (Addr.add a7 (Int.toNat n5 * 7)) 1) = some (Value.int .i64 n9) ∧ ∃ b10 : Bool, rd h6 (Addr.add (Addr.add a7 (Int.toNat n5 * 7)) 2) = some (Value.bool b10) ∧ ∃ n11 : Int, rd h6 (Addr.add (Addr.add a7 (Int.toNat n5 * 7)) 3) = some (Value.int .i64 n11) ∧ ∃ n12 : Int, rd h6 (Addr.add (Addr.add a7 (Int.toNat n5 * 7)) 4) = some (Value.int .i64 n12) ∧ ∃ x13 : Nat, rd h6 (Addr.add (Addr.add a7 (Int.toNat n5 * 7)) 5) = some (Value.float .f64 x13) ∧ ∃ s14 : ByteArray, rd h6 (Addr.add (Addr.add a7 (Int.toNat n5 * 7)) 6) = some (Value.string s14) ∧ wth (Array.push h6 (Obj.cells #[(Value.string (ByteArray.mk #[])), (Value.int .i64 (0 : Int)), (Value.bool false), (Value.int .i64 (0 : Int)), (Value.int .i64 (0 : Int)), (Value.float .f64 0), (Value.string (ByteArray.mk #[]))] T_api_Column)) fun h15 =>
                  stOk h15 (Addr.mk (Array.size h6) 0 none) 7 ∧ wth (wrs h15 (Addr.mk (Array.size h6) 0 none) 0 [(Value.string s8), (Value.int .i64 n9), (Value.bool b10), (Value.int .i64 n11), (Value.int .i64 n12), (Value.float .f64 x13), (Value.string s14)]) fun h16 =>
                  ∀ J17 : List Value → Hp → Prop, (∀ b18 : Bool, ∀ h19 : Hp, ((if b18 = true then
                        (X4 [(Value.int .i64 (IntKind.wrap .i64 (n5 + (1 : Int))))] h19) else
                        (Q [(Value.bool false)] h19))) → J17 [(Value.bool b18)] h19) →
                  ∃ s20 : ByteArray, rd h16 (Addr.add (Addr.mk (Array.size h6) 0 none) 0) = some (Value.string s20) ∧ ∃ n21 : Int, rd h16 (Addr.add (Addr.mk (Array.size h6) 0 none) 1) = some (Value.int .i64 n21) ∧ ∃ b22 : Bool, rd h16 (Addr.add (Addr.mk (Array.size h6) 0 none) 2) = some (Value.bool b22) ∧ ∃ n23 : Int, rd h16 (Addr.add (Addr.mk (Array.size h6) 0 none) 3) = some (Value.int .i64 n23) ∧ ∃ n24 : Int, rd h16 (Addr.add (Addr.mk (Array.size h6) 0 none) 4) = some (Value.int .i64 n24) ∧ ∃ x25 : Nat, rd h16 (Addr.add (Addr.mk (Array.size h6) 0 none) 5) = some (Value.float .f64 x25) ∧ ∃ s26 : ByteArray, rd h16 (Addr.add (Addr.mk (Array.size h6) 0 none) 6) = some (Value.string s26) ∧ S_row_one s20 n21 b22 n23 n24 x25 s26 h16 fun (vs27 : List Value) (h28 : Hp) =>
                  ∃ b29 : Bool, vs27 = [(Value.bool b29)] ∧
                  (if b29 = true then (∃ s30 : ByteArray, rd h28 (Addr.add (Addr.mk (Array.size h6) 0 none) 0) = some (Value.string s30) ∧
                      S_row_Find ⟨g0_l.a, g0_l.n, g0_l.c⟩ s30 h28 fun (vs31 : List Value) (h32 : Hp) =>
                      ∃ n33 : Int, vs31 = [(Value.int .i64 n33)] ∧
                      J17 [(Value.bool (n33 == n5))] h32) else
                    (J17 [(Value.bool false)] h28)))) else
              (Q [(Value.bool true)] h6))) → X4 [(Value.int .i64 n5)] h6) →
        X4 [(Value.int .i64 (0 : Int))] h3))) → J1 [(Value.bool b2)] h3) →
(if (decide ((g0_l.n : Int) < (1 : Int))) = true then (J1 [(Value.bool true)] h) else
  (J1 [(Value.bool (decide ((g0_l.n : Int) > (6 : Int))))] h))
def A_row_Good : Ann := (.mk none ⟨[], []⟩ .nil (.mk none ⟨[], []⟩ (.mk none ⟨[], []⟩ (.mk none ⟨[], []⟩ (.mk (some ⟨[0], [(12, (.c .bool))]⟩) ⟨[], []⟩ .nil .nil) .nil) (.mk none ⟨[], []⟩ .nil (.mk none ⟨[], []⟩ (.mk none ⟨[], []⟩ .nil (.mk none ⟨[], []⟩ (.mk none ⟨[0, 13, 14], [(15, (.c (.int .i64)))]⟩ (.mk none ⟨[], []⟩ .nil (.mk none ⟨[], []⟩ .nil (.mk none ⟨[], []⟩ (.mk none ⟨[], []⟩ (.mk none ⟨[], []⟩ .nil (.mk none ⟨[], []⟩ (.mk none ⟨[], []⟩ (.mk (some ⟨[0, 13, 14, 15], [(29, (.c .bool))]⟩) ⟨[], []⟩ .nil .nil) .nil) .nil)) .nil) .nil))) .nil) .nil)) .nil))) .nil))
theorem E_row_Good (g0_l : Sl) (h : Hp) (Q : List Value → Hp → Prop) : cw PP 31 (fun _ => []) (bodyOf Try.f33) A_row_Good (finQ PP (Try.f33.results.toList) Q) (argFr [(Value.slice g0_l.a g0_l.n g0_l.c)]) h = F_row_Good g0_l h Q := by kernel_rfl
theorem O_row_Good (g0_l : Sl) {h : Hp} {Q : List Value → Hp → Prop} (H : F_row_Good g0_l h Q) : S_row_Good g0_l h Q :=
  fn_of_cw (hs := (fun _ => [])) (ann := A_row_Good) (args := [(Value.slice g0_l.a g0_l.n g0_l.c)]) mixedPP Try.func33 (c := bodyOf Try.f33) (by kernel_rfl) (by kernel_rfl) (by kernel_rfl) (Eq.mpr (E_row_Good g0_l h Q) H)
def F_slices_IndexFunc_sname_version_name_version (g0_s : Sl) (g1_f_f : Nat) (g1_f_c : Array Value) (h : Hp) (Q : List Value → Hp → Prop) : Prop :=
∀ X1 : List Value → Hp → Prop, (∀ n2 : Int, ∀ h3 : Hp, ((if (decide (n2 < (g0_s.n : Int))) = true then
      (nilW g0_s.a fun a4 => ixOk n2 g0_s.n (∃ n5 : Int, rd h3 (Addr.add (Addr.add a4 (Int.toNat n2 * 5)) 0) = some (Value.int .i64 n5) ∧ ∃ n6 : Int, rd h3 (Addr.add (Addr.add a4 (Int.toNat n2 * 5)) 1) = some (Value.int .i64 n6) ∧ ∃ s7 : ByteArray, rd h3 (Addr.add (Addr.add a4 (Int.toNat n2 * 5)) 2) = some (Value.string s7) ∧ ∃ l8 : Sl, rd h3 (Addr.add (Addr.add a4 (Int.toNat n2 * 5)) 3) = some (Value.slice l8.a l8.n l8.c) ∧ ∃ n9 : Int, rd h3 (Addr.add (Addr.add a4 (Int.toNat n2 * 5)) 4) = some (Value.int .i64 n9) ∧ Fn PP g1_f_f ((#[] ++ #[(Value.agg #[(Value.int .i64 n5), (Value.int .i64 n6), (Value.string s7), (Value.slice l8.a l8.n l8.c), (Value.int .i64 n9)])]) ++ g1_f_c) h3 fun (vs10 : List Value) (h11 : Hp) =>
          ∃ b12 : Bool, vs10 = [(Value.bool b12)] ∧
          (if b12 = true then
            (Q [(Value.int .i64 n2)] h11) else
            (X1 [(Value.int .i64 (IntKind.wrap .i64 (n2 + (1 : Int))))] h11)))) else
      (Q [(Value.int .i64 (-1 : Int))] h3))) → X1 [(Value.int .i64 n2)] h3) →
X1 [(Value.int .i64 (0 : Int))] h
def A_slices_IndexFunc_sname_version_name_version : Ann := (.mk none ⟨[], []⟩ .nil (.mk none ⟨[], []⟩ (.mk none ⟨[], []⟩ .nil (.mk none ⟨[], []⟩ (.mk none ⟨[0, 1, 7], [(8, (.c (.int .i64)))]⟩ .nil .nil) .nil)) .nil))
theorem E_slices_IndexFunc_sname_version_name_version (g0_s : Sl) (g1_f_f : Nat) (g1_f_c : Array Value) (h : Hp) (Q : List Value → Hp → Prop) : cw PP 19 (fun _ => []) (bodyOf Try.f62) A_slices_IndexFunc_sname_version_name_version (finQ PP (Try.f62.results.toList) Q) (argFr [(Value.slice g0_s.a g0_s.n g0_s.c), (Value.func (.func g1_f_f) #[] g1_f_c)]) h = F_slices_IndexFunc_sname_version_name_version g0_s g1_f_f g1_f_c h Q := by kernel_rfl
theorem O_slices_IndexFunc_sname_version_name_version (g0_s : Sl) (g1_f_f : Nat) (g1_f_c : Array Value) {h : Hp} {Q : List Value → Hp → Prop} (H : F_slices_IndexFunc_sname_version_name_version g0_s g1_f_f g1_f_c h Q) : S_slices_IndexFunc_sname_version_name_version g0_s g1_f_f g1_f_c h Q :=
  fn_of_cw (hs := (fun _ => [])) (ann := A_slices_IndexFunc_sname_version_name_version) (args := [(Value.slice g0_s.a g0_s.n g0_s.c), (Value.func (.func g1_f_f) #[] g1_f_c)]) mixedPP Try.func62 (c := bodyOf Try.f62) (by kernel_rfl) (by kernel_rfl) (by kernel_rfl) (Eq.mpr (E_slices_IndexFunc_sname_version_name_version g0_s g1_f_f g1_f_c h Q) H)
def F_slices_ContainsFunc_sname_version_name_version (g0_s : Sl) (g1_f_f : Nat) (g1_f_c : Array Value) (h : Hp) (Q : List Value → Hp → Prop) : Prop :=
S_slices_IndexFunc_sname_version_name_version ⟨g0_s.a, g0_s.n, g0_s.c⟩ g1_f_f g1_f_c h fun (vs1 : List Value) (h2 : Hp) =>
∃ n3 : Int, vs1 = [(Value.int .i64 n3)] ∧
Q [(Value.bool (decide (n3 ≥ (0 : Int))))] h2
def A_slices_ContainsFunc_sname_version_name_version : Ann := .nil
theorem E_slices_ContainsFunc_sname_version_name_version (g0_s : Sl) (g1_f_f : Nat) (g1_f_c : Array Value) (h : Hp) (Q : List Value → Hp → Prop) : cw PP 9 (fun _ => []) (bodyOf Try.f50) A_slices_ContainsFunc_sname_version_name_version (finQ PP (Try.f50.results.toList) Q) (argFr [(Value.slice g0_s.a g0_s.n g0_s.c), (Value.func (.func g1_f_f) #[] g1_f_c)]) h = F_slices_ContainsFunc_sname_version_name_version g0_s g1_f_f g1_f_c h Q := by kernel_rfl
theorem O_slices_ContainsFunc_sname_version_name_version (g0_s : Sl) (g1_f_f : Nat) (g1_f_c : Array Value) {h : Hp} {Q : List Value → Hp → Prop} (H : F_slices_ContainsFunc_sname_version_name_version g0_s g1_f_f g1_f_c h Q) : S_slices_ContainsFunc_sname_version_name_version g0_s g1_f_f g1_f_c h Q :=
  fn_of_cw (hs := (fun _ => [])) (ann := A_slices_ContainsFunc_sname_version_name_version) (args := [(Value.slice g0_s.a g0_s.n g0_s.c), (Value.func (.func g1_f_f) #[] g1_f_c)]) mixedPP Try.func50 (c := bodyOf Try.f50) (by kernel_rfl) (by kernel_rfl) (by kernel_rfl) (Eq.mpr (E_slices_ContainsFunc_sname_version_name_version g0_s g1_f_f g1_f_c h Q) H)
def F_name_Names_others (g0_n : Option Addr) (g1_l : Option Addr) (g2_xid : Int) (g3_name : ByteArray) (h : Hp) (Q : List Value → Hp → Prop) : Prop :=
wth (Array.push h (Obj.cells #[(Value.pointer g1_l)] T_pclog_Log)) fun h1 =>
wth (Array.push h1 (Obj.cells #[(Value.int .i64 g2_xid)] T_int)) fun h2 =>
nilW g0_n fun a3 => ∃ r4 : Option Nat, rd h2 (Addr.add a3 0) = some (Value.map r4) ∧
∃ o5 : Obj, IterOf h2 r4 o5 ∧ wth (Array.push h2 o5) fun h6 =>
∀ X7 : List Value → Hp → Prop, (∀ n8 : Int, ∀ h9 : Hp, ((Addr.off (Addr.mk (Array.size h2) 0 none) = 0 ∧ ∃ o10 : Obj, h9[Addr.block (Addr.mk (Array.size h2) 0 none)]? = some o10 ∧ IterGood h9 o10 ∧
      (IterEnd h9 o10 → Q [(Value.int .i64 n8)] h9) ∧
      ∀ (k11 v12 : Value) (o13 : Obj), IterStep h9 o10 k11 v12 o13 → wth (Array.setIfInBounds h9 (Addr.block (Addr.mk (Array.size h2) 0 none)) o13) fun h14 =>
      (Addr.off (Addr.mk (Array.size h2) 0 none) = 0 ∧ ∃ (m15 n16 : Nat) (q17 : Array Nat) (n18 : Nat) (es19 : Array MapEntry) (c20 : Nat) (e21 : MapEntry), h14[Addr.block (Addr.mk (Array.size h2) 0 none)]? = some (.mapIter (some m15) n16 q17 c20) ∧ Array.back? q17 = some n18 ∧ h14[m15]? = some (.map es19 c20) ∧ Array.find? (fun x => x.born == n18) es19 = some e21 ∧ ∃ s22 : ByteArray, e21.key = (Value.string s22) ∧ ∃ l23 : Sl, e21.val = (Value.slice l23.a l23.n l23.c) ∧ ∀ J24 : List Value → Hp → Prop, (∀ b25 : Bool, ∀ h26 : Hp, ((if b25 = true then
              (X7 [(Value.int .i64 (IntKind.wrap .i64 (n8 + (1 : Int))))] h26) else
              (X7 [(Value.int .i64 n8)] h26))) → J24 [(Value.bool b25)] h26) →
        (if (!((ByteArray.toList s22) == (ByteArray.toList g3_name))) = true then (S_slices_ContainsFunc_sname_version_name_version ⟨l23.a, l23.n, l23.c⟩ 51 #[(Value.pointer (some (Addr.mk (Array.size h) 0 none))), (Value.pointer (some (Addr.mk (Array.size h1) 0 none)))] h14 fun (vs27 : List Value) (h28 : Hp) =>
            ∃ b29 : Bool, vs27 = [(Value.bool b29)] ∧
            J24 [(Value.bool b29)] h28) else
          (J24 [(Value.bool false)] h14))))) → X7 [(Value.int .i64 n8)] h9) →
X7 [(Value.int .i64 (0 : Int))] h6
def A_name_Names_others : Ann := (.mk none ⟨[], []⟩ .nil (.mk none ⟨[], []⟩ .nil (.mk none ⟨[], []⟩ (.mk none ⟨[], []⟩ .nil (.mk none ⟨[], []⟩ (.mk none ⟨[3, 5, 6, 16], [(9, (.c (.int .i64)))]⟩ (.mk none ⟨[], []⟩ .nil (.mk none ⟨[], []⟩ .nil (.mk none ⟨[], []⟩ (.mk none ⟨[], []⟩ .nil (.mk none ⟨[], []⟩ (.mk (some ⟨[3, 5, 6, 9, 16], [(29, (.c .bool))]⟩) ⟨[], []⟩ .nil .nil) .nil)) .nil))) .nil) .nil)) .nil)))
theorem E_name_Names_others (g0_n : Option Addr) (g1_l : Option Addr) (g2_xid : Int) (g3_name : ByteArray) (h : Hp) (Q : List Value → Hp → Prop) : cw PP 33 (fun d => if d = 19 then [(.c .str), (.c .sl)] else []) (bodyOf Try.f34) A_name_Names_others (finQ PP (Try.f34.results.toList) Q) (argFr [(Value.pointer g0_n), (Value.pointer g1_l), (Value.int .i64 g2_xid), (Value.string g3_name)]) h = F_name_Names_others g0_n g1_l g2_xid g3_name h Q := by kernel_rfl
theorem O_name_Names_others (g0_n : Option Addr) (g1_l : Option Addr) (g2_xid : Int) (g3_name : ByteArray) {h : Hp} {Q : List Value → Hp → Prop} (H : F_name_Names_others g0_n g1_l g2_xid g3_name h Q) : S_name_Names_others g0_n g1_l g2_xid g3_name h Q :=
  fn_of_cw (hs := (fun d => if d = 19 then [(.c .str), (.c .sl)] else [])) (ann := A_name_Names_others) (args := [(Value.pointer g0_n), (Value.pointer g1_l), (Value.int .i64 g2_xid), (Value.string g3_name)]) mixedPP Try.func34 (c := bodyOf Try.f34) (by kernel_rfl) (by kernel_rfl) (by kernel_rfl) (Eq.mpr (E_name_Names_others g0_n g1_l g2_xid g3_name h Q) H)
def F_name_Names_Put (g0_n : Option Addr) (g1_l : Option Addr) (g2_xid : Int) (g3_t_0 : ByteArray) (g3_t_1 : Sl) (g3_t_2 : Int) (h : Hp) (Q : List Value → Hp → Prop) : Prop :=
wth (Array.push h (Obj.cells #[(Value.string g3_t_0), (Value.slice g3_t_1.a g3_t_1.n g3_t_1.c), (Value.int .i64 g3_t_2)] T_api_Table)) fun h1 =>
∀ J2 : List Value → Hp → Prop, (∀ b3 : Bool, ∀ h4 : Hp, ((if b3 = true then
      (Q [(Value.int .i64 (1 : Int))] h4) else
      (∃ s5 : ByteArray, rd h4 (Addr.add (Addr.mk (Array.size h) 0 none) 0) = some (Value.string s5) ∧
        S_name_Names_May g0_n g1_l g2_xid s5 h4 fun (vs6 : List Value) (h7 : Hp) =>
        ∃ n8 : Int, ∃ n9 : Int, vs6 = [(Value.int .i64 n8), (Value.int .i64 n9)] ∧
        (if (n8 != (0 : Int)) = true then
          (Q [(Value.int .i64 n8)] h7) else
          (∃ s10 : ByteArray, rd h7 (Addr.add (Addr.mk (Array.size h) 0 none) 0) = some (Value.string s10) ∧
            S_name_Names_at g0_n g1_l g2_xid s10 h7 fun (vs11 : List Value) (h12 : Hp) =>
            ∃ n13 : Int, vs11 = [(Value.int .i64 n13)] ∧
            ∀ J14 : List Value → Hp → Prop, (∀ b15 : Bool, ∀ h16 : Hp, ((if b15 = true then
                  (Q [(Value.int .i64 (3 : Int))] h16) else
                  (∀ J17 : List Value → Hp → Prop, (∀ h18 : Hp, (nilW g0_n fun a19 => ∃ r20 : Option Nat, rd h18 (Addr.add a19 0) = some (Value.map r20) ∧
                        ∃ s21 : ByteArray, rd h18 (Addr.add (Addr.mk (Array.size h) 0 none) 0) = some (Value.string s21) ∧
                        nilW g0_n fun a22 => ∃ r23 : Option Nat, rd h18 (Addr.add a22 0) = some (Value.map r23) ∧
                        ∃ s24 : ByteArray, rd h18 (Addr.add (Addr.mk (Array.size h) 0 none) 0) = some (Value.string s24) ∧
                        ∃ es25 : Array MapEntry, mapAt h18 r23 es25 ∧ KeysLike (Value.string s24) es25 ∧ ∃ l26 : Sl, mgetD (Value.string s24) es25 (Value.slice none 0 0) = (Value.slice l26.a l26.n l26.c) ∧
                        ∃ s28 : ByteArray, rd h18 (Addr.add (Addr.mk (Array.size h) 0 none) 0) = some (Value.string s28) ∧ ∃ l29 : Sl, rd h18 (Addr.add (Addr.mk (Array.size h) 0 none) 1) = some (Value.slice l29.a l29.n l29.c) ∧ ∃ n30 : Int, rd h18 (Addr.add (Addr.mk (Array.size h) 0 none) 2) = some (Value.int .i64 n30) ∧ S_name_copied s28 ⟨l29.a, l29.n, l29.c⟩ n30 h18 fun (vs31 : List Value) (h32 : Hp) =>
                        ∃ s33 : ByteArray, ∃ l34 : Sl, ∃ n35 : Int, vs31 = [(Value.agg #[(Value.string s33), (Value.slice l34.a l34.n l34.c), (Value.int .i64 n35)])] ∧
                        (∃ es27 : Array MapEntry, mapAt h32 r23 es27 ∧ KeysLike (Value.string s24) es27 ∧ mgetD (Value.string s24) es27 (Value.slice none 0 0) = (Value.slice l26.a l26.n l26.c)) ∧ rd h32 (Addr.add (Addr.mk (Array.size h) 0 none) 0) = some (Value.string s24) ∧ rd h32 (Addr.add a22 0) = some (Value.map r23) ∧ rd h32 (Addr.add (Addr.mk (Array.size h) 0 none) 0) = some (Value.string s21) ∧ rd h32 (Addr.add a19 0) = some (Value.map r20) ∧ wth (Array.push h32 (Obj.cells #[(Value.int .i64 g2_xid), (Value.int .i64 (0 : Int)), (Value.string s33), (Value.slice l34.a l34.n l34.c), (Value.int .i64 n35)] T_name_version)) fun h36 =>
                        (∃ es27 : Array MapEntry, mapAt h36 r23 es27 ∧ KeysLike (Value.string s24) es27 ∧ mgetD (Value.string s24) es27 (Value.slice none 0 0) = (Value.slice l26.a l26.n l26.c)) ∧ rd h36 (Addr.add (Addr.mk (Array.size h) 0 none) 0) = some (Value.string s24) ∧ rd h36 (Addr.add a22 0) = some (Value.map r23) ∧ rd h36 (Addr.add (Addr.mk (Array.size h) 0 none) 0) = some (Value.string s21) ∧ rd h36 (Addr.add a19 0) = some (Value.map r20) ∧ ∃ cs43 : List Value, cellsAt h36 (some (Addr.mk (Array.size h32) 0 none)) (1 * 5) cs43 ∧ appS PP T_name_version 64 5 h36 ⟨l26.a, l26.n, l26.c⟩ 1 cs43 fun (l37 : Sl) (h38 : Hp) =>
                        rd h38 (Addr.add (Addr.mk (Array.size h) 0 none) 0) = some (Value.string s21) ∧ rd h38 (Addr.add a19 0) = some (Value.map r20) ∧ ∃ (m39 : Nat) (es40 : Array MapEntry) (c41 : Nat), r20 = some m39 ∧ h38[m39]? = some (.map es40 c41) ∧ KeysLike (Value.string s21) es40 ∧ wth (Array.setIfInBounds h38 m39 (mput (Value.string s21) (Value.slice l37.a l37.n l37.c) es40 c41)) fun h42 =>
                        Q [(Value.int .i64 (0 : Int))] h42) → J17 [] h18) →
                    (if (decide (n13 ≥ (0 : Int))) = true then
                      (nilW g0_n fun a44 => ∃ r45 : Option Nat, rd h16 (Addr.add a44 0) = some (Value.map r45) ∧
                        ∃ s46 : ByteArray, rd h16 (Addr.add (Addr.mk (Array.size h) 0 none) 0) = some (Value.string s46) ∧
                        ∃ es47 : Array MapEntry, mapAt h16 r45 es47 ∧ KeysLike (Value.string s46) es47 ∧ ∃ l48 : Sl, mgetD (Value.string s46) es47 (Value.slice none 0 0) = (Value.slice l48.a l48.n l48.c) ∧
                        nilW l48.a fun a50 => ixOk n13 l48.n (stOk h16 (Addr.add (Addr.add a50 (Int.toNat n13 * 5)) 1) 1 ∧ wth (wrs h16 (Addr.add (Addr.add a50 (Int.toNat n13 * 5)) 1) 0 [(Value.int .i64 g2_xid)]) fun h51 =>
                          J17 [] h51)) else
                      (J17 [] h16))))) → J14 [(Value.bool b15)] h16) →
            (if (decide (n13 < (0 : Int))) = true then (∃ s52 : ByteArray, rd h12 (Addr.add (Addr.mk (Array.size h) 0 none) 0) = some (Value.string s52) ∧
                S_name_Names_others g0_n g1_l g2_xid s52 h12 fun (vs53 : List Value) (h54 : Hp) =>
                ∃ n55 : Int, vs53 = [(Value.int .i64 n55)] ∧
                J14 [(Value.bool (decide (n55 ≥ (6 : Int))))] h54) else
              (J14 [(Value.bool false)] h12))))))) → J2 [(Value.bool b3)] h4) →
(if (Option.isNone g0_n) = true then (J2 [(Value.bool true)] h1) else
  (S_clog_Log_State g1_l g2_xid h1 fun (vs56 : List Value) (h57 : Hp) =>
    ∃ n58 : Int, vs56 = [(Value.int .i64 n58)] ∧
    (if (n58 != (1 : Int)) = true then (J2 [(Value.bool true)] h57) else
      (∃ s59 : ByteArray, rd h57 (Addr.add (Addr.mk (Array.size h) 0 none) 0) = some (Value.string s59) ∧
        S_value_Name s59 h57 fun (vs60 : List Value) (h61 : Hp) =>
        ∃ b62 : Bool, vs60 = [(Value.bool b62)] ∧
        (if (!b62) = true then (J2 [(Value.bool true)] h61) else
          (∃ l63 : Sl, rd h61 (Addr.add (Addr.mk (Array.size h) 0 none) 1) = some (Value.slice l63.a l63.n l63.c) ∧
            S_row_Good ⟨l63.a, l63.n, l63.c⟩ h61 fun (vs64 : List Value) (h65 : Hp) =>
            ∃ b66 : Bool, vs64 = [(Value.bool b66)] ∧
            (if (!b66) = true then (J2 [(Value.bool true)] h65) else
              (∃ n67 : Int, rd h65 (Addr.add (Addr.mk (Array.size h) 0 none) 2) = some (Value.int .i64 n67) ∧
                (if (decide (n67 < (1 : Int))) = true then (J2 [(Value.bool true)] h65) else
                  (∃ n68 : Int, rd h65 (Addr.add (Addr.mk (Array.size h) 0 none) 2) = some (Value.int .i64 n68) ∧
                    J2 [(Value.bool (decide (n68 > (100 : Int))))] h65))))))))))
def A_name_Names_Put : Ann := (.mk none ⟨[], []⟩ .nil (.mk none ⟨[], []⟩ (.mk none ⟨[], []⟩ (.mk (some ⟨[0, 1, 2, 7], [(41, (.c .bool))]⟩) ⟨[], []⟩ .nil .nil) .nil) (.mk none ⟨[], []⟩ .nil (.mk none ⟨[], []⟩ .nil (.mk none ⟨[], []⟩ (.mk none ⟨[], []⟩ (.mk (some ⟨[0, 2, 7, 11], [(70, (.c .bool))]⟩) ⟨[], []⟩ .nil .nil) .nil) (.mk none ⟨[], []⟩ (.mk none ⟨[], []⟩ .nil (.mk (some ⟨[0, 2, 7], []⟩) ⟨[], []⟩ .nil .nil)) .nil))))))
theorem E_name_Names_Put (g0_n : Option Addr) (g1_l : Option Addr) (g2_xid : Int) (g3_t_0 : ByteArray) (g3_t_1 : Sl) (g3_t_2 : Int) (h : Hp) (Q : List Value → Hp → Prop) : cw PP 103 (fun _ => []) (bodyOf Try.f13) A_name_Names_Put (finQ PP (Try.f13.results.toList) Q) (argFr [(Value.pointer g0_n), (Value.pointer g1_l), (Value.int .i64 g2_xid), (Value.agg #[(Value.string g3_t_0), (Value.slice g3_t_1.a g3_t_1.n g3_t_1.c), (Value.int .i64 g3_t_2)])]) h = F_name_Names_Put g0_n g1_l g2_xid g3_t_0 g3_t_1 g3_t_2 h Q := by kernel_rfl
theorem O_name_Names_Put (g0_n : Option Addr) (g1_l : Option Addr) (g2_xid : Int) (g3_t_0 : ByteArray) (g3_t_1 : Sl) (g3_t_2 : Int) {h : Hp} {Q : List Value → Hp → Prop} (H : F_name_Names_Put g0_n g1_l g2_xid g3_t_0 g3_t_1 g3_t_2 h Q) : S_name_Names_Put g0_n g1_l g2_xid g3_t_0 g3_t_1 g3_t_2 h Q :=
  fn_of_cw (hs := (fun _ => [])) (ann := A_name_Names_Put) (args := [(Value.pointer g0_n), (Value.pointer g1_l), (Value.int .i64 g2_xid), (Value.agg #[(Value.string g3_t_0), (Value.slice g3_t_1.a g3_t_1.n g3_t_1.c), (Value.int .i64 g3_t_2)])]) mixedPP Try.func13 (c := bodyOf Try.f13) (by kernel_rfl) (by kernel_rfl) (by kernel_rfl) (Eq.mpr (E_name_Names_Put g0_n g1_l g2_xid g3_t_0 g3_t_1 g3_t_2 h Q) H)
def F_liverylaw12_tab (g0_s : ByteArray) (g1_rel : Int) (h : Hp) (Q : List Value → Hp → Prop) : Prop :=
wth (Array.push h (Obj.cells #[(Value.string (ByteArray.mk #[])), (Value.slice none 0 0), (Value.int .i64 (0 : Int))] T_api_Table)) fun h1 =>
wth (Array.push h1 (Obj.cells #[(Value.string (ByteArray.mk #[97])), (Value.int .i64 (2 : Int)), (Value.bool false), (Value.int .i64 (0 : Int)), (Value.int .i64 (0 : Int)), (Value.float .f64 0), (Value.string (ByteArray.mk #[]))] T_api_Column)) fun h2 =>
stOk h2 (Addr.mk (Array.size h) 0 none) 3 ∧ wth (wrs h2 (Addr.mk (Array.size h) 0 none) 0 [(Value.string g0_s), (Value.slice (some (Addr.mk (Array.size h1) 0 none)) 1 1), (Value.int .i64 g1_rel)]) fun h3 =>
∃ s4 : ByteArray, rd h3 (Addr.add (Addr.mk (Array.size h) 0 none) 0) = some (Value.string s4) ∧ ∃ l5 : Sl, rd h3 (Addr.add (Addr.mk (Array.size h) 0 none) 1) = some (Value.slice l5.a l5.n l5.c) ∧ ∃ n6 : Int, rd h3 (Addr.add (Addr.mk (Array.size h) 0 none) 2) = some (Value.int .i64 n6) ∧ Q [(Value.agg #[(Value.string s4), (Value.slice l5.a l5.n l5.c), (Value.int .i64 n6)])] h3
def A_liverylaw12_tab : Ann := .nil
theorem E_liverylaw12_tab (g0_s : ByteArray) (g1_rel : Int) (h : Hp) (Q : List Value → Hp → Prop) : cw PP 10 (fun _ => []) (bodyOf Try.f14) A_liverylaw12_tab (finQ PP (Try.f14.results.toList) Q) (argFr [(Value.string g0_s), (Value.int .i64 g1_rel)]) h = F_liverylaw12_tab g0_s g1_rel h Q := by kernel_rfl
theorem O_liverylaw12_tab (g0_s : ByteArray) (g1_rel : Int) {h : Hp} {Q : List Value → Hp → Prop} (H : F_liverylaw12_tab g0_s g1_rel h Q) : S_liverylaw12_tab g0_s g1_rel h Q :=
  fn_of_cw (hs := (fun _ => [])) (ann := A_liverylaw12_tab) (args := [(Value.string g0_s), (Value.int .i64 g1_rel)]) mixedPP Try.func14 (c := bodyOf Try.f14) (by kernel_rfl) (by kernel_rfl) (by kernel_rfl) (Eq.mpr (E_liverylaw12_tab g0_s g1_rel h Q) H)
def F_name_Names_All (g0_n : Option Addr) (g1_l : Option Addr) (g2_xid : Int) (h : Hp) (Q : List Value → Hp → Prop) : Prop :=
(if (Option.isNone g0_n) = true then
  (Q [(Value.slice none 0 0)] h) else
  (nilW g0_n fun a1 => ∃ r2 : Option Nat, rd h (Addr.add a1 0) = some (Value.map r2) ∧
    ∃ o3 : Obj, IterOf h r2 o3 ∧ wth (Array.push h o3) fun h4 =>
    ∀ X5 : List Value → Hp → Prop, (∀ l6 : Sl, ∀ h7 : Hp, ((Addr.off (Addr.mk (Array.size h) 0 none) = 0 ∧ ∃ o8 : Obj, h7[Addr.block (Addr.mk (Array.size h) 0 none)]? = some o8 ∧ IterGood h7 o8 ∧
          (IterEnd h7 o8 → S_slices_SortFunc_sapi_Table_api_Table ⟨l6.a, l6.n, l6.c⟩ 36 #[] h7 fun (vs12 : List Value) (h13 : Hp) =>
            vs12 = [] ∧
            Q [(Value.slice l6.a l6.n l6.c)] h13) ∧
          ∀ (k9 v10 : Value) (o11 : Obj), IterStep h7 o8 k9 v10 o11 → wth (Array.setIfInBounds h7 (Addr.block (Addr.mk (Array.size h) 0 none)) o11) fun h14 =>
          (Addr.off (Addr.mk (Array.size h) 0 none) = 0 ∧ ∃ (m15 n16 : Nat) (q17 : Array Nat) (n18 : Nat) (es19 : Array MapEntry) (c20 : Nat) (e21 : MapEntry), h14[Addr.block (Addr.mk (Array.size h) 0 none)]? = some (.mapIter (some m15) n16 q17 c20) ∧ Array.back? q17 = some n18 ∧ h14[m15]? = some (.map es19 c20) ∧ Array.find? (fun x => x.born == n18) es19 = some e21 ∧ ∃ s22 : ByteArray, e21.key = (Value.string s22) ∧ ∃ v23 : Value, e21.val = v23 ∧ S_name_Names_See g0_n g1_l g2_xid s22 h14 fun (vs24 : List Value) (h25 : Hp) =>
            ∃ s26 : ByteArray, ∃ l27 : Sl, ∃ n28 : Int, ∃ b29 : Bool, vs24 = [(Value.agg #[(Value.string s26), (Value.slice l27.a l27.n l27.c), (Value.int .i64 n28)]), (Value.bool b29)] ∧
            wth (Array.push h25 (Obj.cells #[(Value.string (ByteArray.mk #[])), (Value.slice none 0 0), (Value.int .i64 (0 : Int))] T_api_Table)) fun h30 =>
            stOk h30 (Addr.mk (Array.size h25) 0 none) 3 ∧ wth (wrs h30 (Addr.mk (Array.size h25) 0 none) 0 [(Value.string s26), (Value.slice l27.a l27.n l27.c), (Value.int .i64 n28)]) fun h31 =>
            (if b29 = true then
              (∃ s32 : ByteArray, rd h31 (Addr.add (Addr.mk (Array.size h25) 0 none) 0) = some (Value.string s32) ∧ ∃ l33 : Sl, rd h31 (Addr.add (Addr.mk (Array.size h25) 0 none) 1) = some (Value.slice l33.a l33.n l33.c) ∧ ∃ n34 : Int, rd h31 (Addr.add (Addr.mk (Array.size h25) 0 none) 2) = some (Value.int .i64 n34) ∧ wth (Array.push h31 (Obj.cells #[(Value.string s32), (Value.slice l33.a l33.n l33.c), (Value.int .i64 n34)] T_api_Table)) fun h35 =>
                ∃ cs38 : List Value, cellsAt h35 (some (Addr.mk (Array.size h31) 0 none)) (1 * 3) cs38 ∧ appS PP T_api_Table 48 3 h35 ⟨l6.a, l6.n, l6.c⟩ 1 cs38 fun (l36 : Sl) (h37 : Hp) =>
                X5 [(Value.slice l36.a l36.n l36.c)] h37) else
              (X5 [(Value.slice l6.a l6.n l6.c)] h31))))) → X5 [(Value.slice l6.a l6.n l6.c)] h7) →
    X5 [(Value.slice none 0 0)] h4))
def A_name_Names_All : Ann := (.mk none ⟨[], []⟩ .nil (.mk none ⟨[], []⟩ .nil (.mk none ⟨[], []⟩ .nil (.mk none ⟨[], []⟩ (.mk none ⟨[], []⟩ .nil (.mk none ⟨[], []⟩ (.mk none ⟨[0, 1, 2, 17], [(7, (.c .sl))]⟩ .nil .nil) .nil)) .nil))))
theorem E_name_Names_All (g0_n : Option Addr) (g1_l : Option Addr) (g2_xid : Int) (h : Hp) (Q : List Value → Hp → Prop) : cw PP 38 (fun d => if d = 20 then [(.c .str), (.c .any)] else []) (bodyOf Try.f16) A_name_Names_All (finQ PP (Try.f16.results.toList) Q) (argFr [(Value.pointer g0_n), (Value.pointer g1_l), (Value.int .i64 g2_xid)]) h = F_name_Names_All g0_n g1_l g2_xid h Q := by kernel_rfl
theorem O_name_Names_All (g0_n : Option Addr) (g1_l : Option Addr) (g2_xid : Int) {h : Hp} {Q : List Value → Hp → Prop} (H : F_name_Names_All g0_n g1_l g2_xid h Q) : S_name_Names_All g0_n g1_l g2_xid h Q :=
  fn_of_cw (hs := (fun d => if d = 20 then [(.c .str), (.c .any)] else [])) (ann := A_name_Names_All) (args := [(Value.pointer g0_n), (Value.pointer g1_l), (Value.int .i64 g2_xid)]) mixedPP Try.func16 (c := bodyOf Try.f16) (by kernel_rfl) (by kernel_rfl) (by kernel_rfl) (Eq.mpr (E_name_Names_All g0_n g1_l g2_xid h Q) H)
def F_name_New (h : Hp) (Q : List Value → Hp → Prop) : Prop :=
wth (Array.push h (Obj.map #[] 0)) fun h1 =>
wth (Array.push h1 (Obj.cells #[(Value.map (some (Array.size h)))] T_name_Names)) fun h2 =>
Q [(Value.pointer (some (Addr.mk (Array.size h1) 0 none)))] h2
def A_name_New : Ann := .nil
theorem E_name_New (h : Hp) (Q : List Value → Hp → Prop) : cw PP 4 (fun _ => []) (bodyOf Try.f17) A_name_New (finQ PP (Try.f17.results.toList) Q) (argFr []) h = F_name_New h Q := by kernel_rfl
theorem O_name_New {h : Hp} {Q : List Value → Hp → Prop} (H : F_name_New h Q) : S_name_New h Q :=
  fn_of_cw (hs := (fun _ => [])) (ann := A_name_New) (args := []) mixedPP Try.func17 (c := bodyOf Try.f17) (by kernel_rfl) (by kernel_rfl) (by kernel_rfl) (Eq.mpr (E_name_New h Q) H)
def F_clog_Log_Begin (g0_l : Option Addr) (g1_reads : Bool) (h : Hp) (Q : List Value → Hp → Prop) : Prop :=
(if (Option.isNone g0_l) = true then
  (Q [(Value.int .i64 (0 : Int)), (Value.int .i64 (1 : Int))] h) else
  (nilW g0_l fun a1 => ∃ n2 : Int, rd h (Addr.add a1 804) = some (Value.int .i64 n2) ∧
    (if (n2 == (200 : Int)) = true then
      (Q [(Value.int .i64 (0 : Int)), (Value.int .i64 (74 : Int))] h) else
      (nilW g0_l fun a3 => ∃ n4 : Int, rd h (Addr.add a3 804) = some (Value.int .i64 n4) ∧
        nilW g0_l fun a5 => stOk h (Addr.add a5 804) 1 ∧ wth (wrs h (Addr.add a5 804) 0 [(Value.int .i64 (IntKind.wrap .i64 (n4 + (1 : Int))))]) fun h6 =>
        nilW g0_l fun a7 => ∃ n8 : Int, rd h6 (Addr.add a7 804) = some (Value.int .i64 n8) ∧
        nilW g0_l fun a9 => ∃ n10 : Int, rd h6 (Addr.add a9 805) = some (Value.int .i64 n10) ∧
        nilW g0_l fun a11 => ixOk n8 201 (stOk h6 (Addr.add (Addr.add a11 0) (Int.toNat n8 * 4)) 4 ∧ wth (wrs h6 (Addr.add (Addr.add a11 0) (Int.toNat n8 * 4)) 0 [(Value.int .i64 (1 : Int)), (Value.int .i64 (0 : Int)), (Value.int .i64 n10), (Value.bool g1_reads)]) fun h12 =>
          nilW g0_l fun a13 => ∃ n14 : Int, rd h12 (Addr.add a13 804) = some (Value.int .i64 n14) ∧
          Q [(Value.int .i64 n14), (Value.int .i64 (0 : Int))] h12)))))
def A_clog_Log_Begin : Ann := .nil
theorem E_clog_Log_Begin (g0_l : Option Addr) (g1_reads : Bool) (h : Hp) (Q : List Value → Hp → Prop) : cw PP 40 (fun _ => []) (bodyOf Try.f18) A_clog_Log_Begin (finQ PP (Try.f18.results.toList) Q) (argFr [(Value.pointer g0_l), (Value.bool g1_reads)]) h = F_clog_Log_Begin g0_l g1_reads h Q := by kernel_rfl
theorem O_clog_Log_Begin (g0_l : Option Addr) (g1_reads : Bool) {h : Hp} {Q : List Value → Hp → Prop} (H : F_clog_Log_Begin g0_l g1_reads h Q) : S_clog_Log_Begin g0_l g1_reads h Q :=
  fn_of_cw (hs := (fun _ => [])) (ann := A_clog_Log_Begin) (args := [(Value.pointer g0_l), (Value.bool g1_reads)]) mixedPP Try.func18 (c := bodyOf Try.f18) (by kernel_rfl) (by kernel_rfl) (by kernel_rfl) (Eq.mpr (E_clog_Log_Begin g0_l g1_reads h Q) H)
def F_liverykeep_Ints (g0_a : Sl) (g1_b : Sl) (h : Hp) (Q : List Value → Hp → Prop) : Prop :=
(if ((g0_a.n : Int) != (g1_b.n : Int)) = true then
  (Q [(Value.bool false)] h) else
  (∀ X1 : List Value → Hp → Prop, (∀ n2 : Int, ∀ h3 : Hp, ((if (decide (n2 < (g0_a.n : Int))) = true then
          (nilW g0_a.a fun a4 => ixOk n2 g0_a.n (∃ n5 : Int, rd h3 (Addr.add a4 (Int.toNat n2 * 1)) = some (Value.int .i64 n5) ∧
              nilW g1_b.a fun a6 => ixOk n2 g1_b.n (∃ n7 : Int, rd h3 (Addr.add a6 (Int.toNat n2 * 1)) = some (Value.int .i64 n7) ∧
                (if (n5 != n7) = true then
                  (Q [(Value.bool false)] h3) else
                  (X1 [(Value.int .i64 (IntKind.wrap .i64 (n2 + (1 : Int))))] h3))))) else
          (Q [(Value.bool true)] h3))) → X1 [(Value.int .i64 n2)] h3) →
    X1 [(Value.int .i64 (0 : Int))] h))
def A_liverykeep_Ints : Ann := (.mk none ⟨[], []⟩ .nil (.mk none ⟨[], []⟩ .nil (.mk none ⟨[], []⟩ (.mk none ⟨[], []⟩ .nil (.mk none ⟨[], []⟩ (.mk none ⟨[0, 1], [(5, (.c (.int .i64)))]⟩ .nil .nil) .nil)) .nil)))
theorem E_liverykeep_Ints (g0_a : Sl) (g1_b : Sl) (h : Hp) (Q : List Value → Hp → Prop) : cw PP 26 (fun _ => []) (bodyOf Try.f25) A_liverykeep_Ints (finQ PP (Try.f25.results.toList) Q) (argFr [(Value.slice g0_a.a g0_a.n g0_a.c), (Value.slice g1_b.a g1_b.n g1_b.c)]) h = F_liverykeep_Ints g0_a g1_b h Q := by kernel_rfl
theorem O_liverykeep_Ints (g0_a : Sl) (g1_b : Sl) {h : Hp} {Q : List Value → Hp → Prop} (H : F_liverykeep_Ints g0_a g1_b h Q) : S_liverykeep_Ints g0_a g1_b h Q :=
  fn_of_cw (hs := (fun _ => [])) (ann := A_liverykeep_Ints) (args := [(Value.slice g0_a.a g0_a.n g0_a.c), (Value.slice g1_b.a g1_b.n g1_b.c)]) mixedPP Try.func25 (c := bodyOf Try.f25) (by kernel_rfl) (by kernel_rfl) (by kernel_rfl) (Eq.mpr (E_liverykeep_Ints g0_a g1_b h Q) H)
def F_liverylaw12_wakes (h : Hp) (Q : List Value → Hp → Prop) : Prop :=
S_clog_New  h fun (vs1 : List Value) (h2 : Hp) =>
∃ p3 : Option Addr, vs1 = [(Value.pointer p3)] ∧
S_name_New  h2 fun (vs4 : List Value) (h5 : Hp) =>
∃ p6 : Option Addr, vs4 = [(Value.pointer p6)] ∧
∀ J7 : List Value → Hp → Prop, (∀ b8 : Bool, ∀ h9 : Hp, ((if b8 = true then
      (Q [(Value.bool false)] h9) else
      (S_clog_Log_Begin p3 false h9 fun (vs10 : List Value) (h11 : Hp) =>
        ∃ n12 : Int, ∃ n13 : Int, vs10 = [(Value.int .i64 n12), (Value.int .i64 n13)] ∧
        S_clog_Log_Begin p3 false h11 fun (vs14 : List Value) (h15 : Hp) =>
        ∃ n16 : Int, ∃ n17 : Int, vs14 = [(Value.int .i64 n16), (Value.int .i64 n17)] ∧
        S_liverylaw12_tab (ByteArray.mk #[116]) (3 : Int) h15 fun (vs18 : List Value) (h19 : Hp) =>
        ∃ s20 : ByteArray, ∃ l21 : Sl, ∃ n22 : Int, vs18 = [(Value.agg #[(Value.string s20), (Value.slice l21.a l21.n l21.c), (Value.int .i64 n22)])] ∧
        S_name_Names_Put p6 p3 (1 : Int) s20 ⟨l21.a, l21.n, l21.c⟩ n22 h19 fun (vs23 : List Value) (h24 : Hp) =>
        ∃ n25 : Int, vs23 = [(Value.int .i64 n25)] ∧
        (if (n25 != (0 : Int)) = true then
          (Q [(Value.bool false)] h24) else
          (S_name_Names_May p6 p3 (2 : Int) (ByteArray.mk #[116]) h24 fun (vs26 : List Value) (h27 : Hp) =>
            ∃ n28 : Int, ∃ n29 : Int, vs26 = [(Value.int .i64 n28), (Value.int .i64 n29)] ∧
            S_name_Names_See p6 p3 (2 : Int) (ByteArray.mk #[116]) h27 fun (vs30 : List Value) (h31 : Hp) =>
            ∃ s32 : ByteArray, ∃ l33 : Sl, ∃ n34 : Int, ∃ b35 : Bool, vs30 = [(Value.agg #[(Value.string s32), (Value.slice l33.a l33.n l33.c), (Value.int .i64 n34)]), (Value.bool b35)] ∧
            wth (Array.push h31 (Obj.cells #[(Value.string (ByteArray.mk #[])), (Value.slice none 0 0), (Value.int .i64 (0 : Int))] T_api_Table)) fun h36 =>
            stOk h36 (Addr.mk (Array.size h31) 0 none) 3 ∧ wth (wrs h36 (Addr.mk (Array.size h31) 0 none) 0 [(Value.string s32), (Value.slice l33.a l33.n l33.c), (Value.int .i64 n34)]) fun h37 =>
            S_name_Names_See p6 p3 (1 : Int) (ByteArray.mk #[116]) h37 fun (vs38 : List Value) (h39 : Hp) =>
            ∃ s40 : ByteArray, ∃ l41 : Sl, ∃ n42 : Int, ∃ b43 : Bool, vs38 = [(Value.agg #[(Value.string s40), (Value.slice l41.a l41.n l41.c), (Value.int .i64 n42)]), (Value.bool b43)] ∧
            wth (Array.push h39 (Obj.cells #[(Value.string (ByteArray.mk #[])), (Value.slice none 0 0), (Value.int .i64 (0 : Int))] T_api_Table)) fun h44 =>
            stOk h44 (Addr.mk (Array.size h39) 0 none) 3 ∧ wth (wrs h44 (Addr.mk (Array.size h39) 0 none) 0 [(Value.string s40), (Value.slice l41.a l41.n l41.c), (Value.int .i64 n42)]) fun h45 =>
            (if (n28 == (75 : Int)) = true then ((if (n29 == (1 : Int)) = true then ((if (!b35) = true then ((if b43 = true then (∃ n46 : Int, rd h45 (Addr.add (Addr.mk (Array.size h39) 0 none) 2) = some (Value.int .i64 n46) ∧
                            (if (n46 == (3 : Int)) = true then (S_name_Names_Unseen p6 p3 (2 : Int) (ByteArray.mk #[116]) h45 fun (vs47 : List Value) (h48 : Hp) =>
                                ∃ l49 : Sl, vs47 = [(Value.slice l49.a l49.n l49.c)] ∧
                                wth (Array.push h48 (Obj.cells #[(Value.int .i64 (1 : Int))] T_int)) fun h50 =>
                                S_liverykeep_Ints ⟨l49.a, l49.n, l49.c⟩ ⟨(some (Addr.mk (Array.size h48) 0 none)), 1, 1⟩ h50 fun (vs51 : List Value) (h52 : Hp) =>
                                ∃ b53 : Bool, vs51 = [(Value.bool b53)] ∧
                                (if b53 = true then (S_name_Names_All p6 p3 (1 : Int) h52 fun (vs54 : List Value) (h55 : Hp) =>
                                    ∃ l56 : Sl, vs54 = [(Value.slice l56.a l56.n l56.c)] ∧
                                    Q [(Value.bool ((l56.n : Int) == (1 : Int)))] h55) else
                                  (Q [(Value.bool false)] h52))) else
                              (Q [(Value.bool false)] h45))) else
                          (Q [(Value.bool false)] h45))) else
                      (Q [(Value.bool false)] h45))) else
                  (Q [(Value.bool false)] h45))) else
              (Q [(Value.bool false)] h45))))))) → J7 [(Value.bool b8)] h9) →
(if (Option.isNone p3) = true then (J7 [(Value.bool true)] h5) else
  (J7 [(Value.bool (Option.isNone p6))] h5))
def A_liverylaw12_wakes : Ann := (.mk none ⟨[], []⟩ .nil (.mk none ⟨[], []⟩ .nil (.mk none ⟨[], []⟩ (.mk none ⟨[], []⟩ (.mk (some ⟨[1, 2], [(16, (.c .bool))]⟩) ⟨[], []⟩ .nil .nil) .nil) .nil)))
theorem E_liverylaw12_wakes (h : Hp) (Q : List Value → Hp → Prop) : cw PP 76 (fun _ => []) (bodyOf Try.f8) A_liverylaw12_wakes (finQ PP (Try.f8.results.toList) Q) (argFr []) h = F_liverylaw12_wakes h Q := by kernel_rfl
theorem O_liverylaw12_wakes {h : Hp} {Q : List Value → Hp → Prop} (H : F_liverylaw12_wakes h Q) : S_liverylaw12_wakes h Q :=
  fn_of_cw (hs := (fun _ => [])) (ann := A_liverylaw12_wakes) (args := []) mixedPP Try.func8 (c := bodyOf Try.f8) (by kernel_rfl) (by kernel_rfl) (by kernel_rfl) (Eq.mpr (E_liverylaw12_wakes h Q) H)
def F_name_Names_Drop (g0_n : Option Addr) (g1_l : Option Addr) (g2_xid : Int) (g3_name : ByteArray) (h : Hp) (Q : List Value → Hp → Prop) : Prop :=
∀ J1 : List Value → Hp → Prop, (∀ b2 : Bool, ∀ h3 : Hp, ((if b2 = true then
      (Q [(Value.int .i64 (1 : Int))] h3) else
      (S_name_Names_May g0_n g1_l g2_xid g3_name h3 fun (vs4 : List Value) (h5 : Hp) =>
        ∃ n6 : Int, ∃ n7 : Int, vs4 = [(Value.int .i64 n6), (Value.int .i64 n7)] ∧
        (if (n6 != (0 : Int)) = true then
          (Q [(Value.int .i64 n6)] h5) else
          (S_name_Names_at g0_n g1_l g2_xid g3_name h5 fun (vs8 : List Value) (h9 : Hp) =>
            ∃ n10 : Int, vs8 = [(Value.int .i64 n10)] ∧
            (if (decide (n10 < (0 : Int))) = true then
              (Q [(Value.int .i64 (60 : Int))] h9) else
              (nilW g0_n fun a11 => ∃ r12 : Option Nat, rd h9 (Addr.add a11 0) = some (Value.map r12) ∧
                ∃ es13 : Array MapEntry, mapAt h9 r12 es13 ∧ KeysLike (Value.string g3_name) es13 ∧ ∃ l14 : Sl, mgetD (Value.string g3_name) es13 (Value.slice none 0 0) = (Value.slice l14.a l14.n l14.c) ∧
                nilW l14.a fun a16 => ixOk n10 l14.n (stOk h9 (Addr.add (Addr.add a16 (Int.toNat n10 * 5)) 1) 1 ∧ wth (wrs h9 (Addr.add (Addr.add a16 (Int.toNat n10 * 5)) 1) 0 [(Value.int .i64 g2_xid)]) fun h17 =>
                  Q [(Value.int .i64 (0 : Int))] h17)))))))) → J1 [(Value.bool b2)] h3) →
(if (Option.isNone g0_n) = true then (J1 [(Value.bool true)] h) else
  (S_clog_Log_State g1_l g2_xid h fun (vs18 : List Value) (h19 : Hp) =>
    ∃ n20 : Int, vs18 = [(Value.int .i64 n20)] ∧
    J1 [(Value.bool (n20 != (1 : Int)))] h19))
def A_name_Names_Drop : Ann := (.mk none ⟨[], []⟩ .nil (.mk none ⟨[], []⟩ (.mk none ⟨[], []⟩ (.mk (some ⟨[0, 1, 2, 3], [(19, (.c .bool))]⟩) ⟨[], []⟩ .nil .nil) .nil) .nil))
theorem E_name_Names_Drop (g0_n : Option Addr) (g1_l : Option Addr) (g2_xid : Int) (g3_name : ByteArray) (h : Hp) (Q : List Value → Hp → Prop) : cw PP 48 (fun _ => []) (bodyOf Try.f15) A_name_Names_Drop (finQ PP (Try.f15.results.toList) Q) (argFr [(Value.pointer g0_n), (Value.pointer g1_l), (Value.int .i64 g2_xid), (Value.string g3_name)]) h = F_name_Names_Drop g0_n g1_l g2_xid g3_name h Q := by kernel_rfl
theorem O_name_Names_Drop (g0_n : Option Addr) (g1_l : Option Addr) (g2_xid : Int) (g3_name : ByteArray) {h : Hp} {Q : List Value → Hp → Prop} (H : F_name_Names_Drop g0_n g1_l g2_xid g3_name h Q) : S_name_Names_Drop g0_n g1_l g2_xid g3_name h Q :=
  fn_of_cw (hs := (fun _ => [])) (ann := A_name_Names_Drop) (args := [(Value.pointer g0_n), (Value.pointer g1_l), (Value.int .i64 g2_xid), (Value.string g3_name)]) mixedPP Try.func15 (c := bodyOf Try.f15) (by kernel_rfl) (by kernel_rfl) (by kernel_rfl) (Eq.mpr (E_name_Names_Drop g0_n g1_l g2_xid g3_name h Q) H)
def F_liverylaw12_NameNone (g0_xid : Int) (g1_s : ByteArray) (h : Hp) (Q : List Value → Hp → Prop) : Prop :=
(if (decide ((ByteArray.size g1_s : Int) > (1000 : Int))) = true then
  (S_liverylaw12_wakes  h fun (vs1 : List Value) (h2 : Hp) =>
    ∃ b3 : Bool, vs1 = [(Value.bool b3)] ∧
    Q [(Value.bool b3)] h2) else
  (S_clog_New  h fun (vs4 : List Value) (h5 : Hp) =>
    ∃ p6 : Option Addr, vs4 = [(Value.pointer p6)] ∧
    S_name_Names_See none p6 g0_xid g1_s h5 fun (vs7 : List Value) (h8 : Hp) =>
    ∃ s9 : ByteArray, ∃ l10 : Sl, ∃ n11 : Int, ∃ b12 : Bool, vs7 = [(Value.agg #[(Value.string s9), (Value.slice l10.a l10.n l10.c), (Value.int .i64 n11)]), (Value.bool b12)] ∧
    wth (Array.push h8 (Obj.cells #[(Value.string (ByteArray.mk #[])), (Value.slice none 0 0), (Value.int .i64 (0 : Int))] T_api_Table)) fun h13 =>
    stOk h13 (Addr.mk (Array.size h8) 0 none) 3 ∧ wth (wrs h13 (Addr.mk (Array.size h8) 0 none) 0 [(Value.string s9), (Value.slice l10.a l10.n l10.c), (Value.int .i64 n11)]) fun h14 =>
    S_name_Names_May none p6 g0_xid g1_s h14 fun (vs15 : List Value) (h16 : Hp) =>
    ∃ n17 : Int, ∃ n18 : Int, vs15 = [(Value.int .i64 n17), (Value.int .i64 n18)] ∧
    (if (!b12) = true then ((if (n17 == (1 : Int)) = true then ((if (n18 == (0 : Int)) = true then (S_name_Names_Unseen none p6 g0_xid g1_s h16 fun (vs19 : List Value) (h20 : Hp) =>
                ∃ l21 : Sl, vs19 = [(Value.slice l21.a l21.n l21.c)] ∧
                (if ((l21.n : Int) == (0 : Int)) = true then (S_liverylaw12_tab (ByteArray.mk #[116]) (1 : Int) h20 fun (vs22 : List Value) (h23 : Hp) =>
                    ∃ s24 : ByteArray, ∃ l25 : Sl, ∃ n26 : Int, vs22 = [(Value.agg #[(Value.string s24), (Value.slice l25.a l25.n l25.c), (Value.int .i64 n26)])] ∧
                    S_name_Names_Put none p6 g0_xid s24 ⟨l25.a, l25.n, l25.c⟩ n26 h23 fun (vs27 : List Value) (h28 : Hp) =>
                    ∃ n29 : Int, vs27 = [(Value.int .i64 n29)] ∧
                    (if (n29 == (1 : Int)) = true then (S_name_Names_Drop none p6 g0_xid g1_s h28 fun (vs30 : List Value) (h31 : Hp) =>
                        ∃ n32 : Int, vs30 = [(Value.int .i64 n32)] ∧
                        (if (n32 == (1 : Int)) = true then (S_name_Names_All none p6 g0_xid h31 fun (vs33 : List Value) (h34 : Hp) =>
                            ∃ l35 : Sl, vs33 = [(Value.slice l35.a l35.n l35.c)] ∧
                            (if ((l35.n : Int) == (0 : Int)) = true then (S_liverylaw12_wakes  h34 fun (vs36 : List Value) (h37 : Hp) =>
                                ∃ b38 : Bool, vs36 = [(Value.bool b38)] ∧
                                Q [(Value.bool b38)] h37) else
                              (Q [(Value.bool false)] h34))) else
                          (Q [(Value.bool false)] h31))) else
                      (Q [(Value.bool false)] h28))) else
                  (Q [(Value.bool false)] h20))) else
              (Q [(Value.bool false)] h16))) else
          (Q [(Value.bool false)] h16))) else
      (Q [(Value.bool false)] h16))))
def A_liverylaw12_NameNone : Ann := .nil
theorem E_liverylaw12_NameNone (g0_xid : Int) (g1_s : ByteArray) (h : Hp) (Q : List Value → Hp → Prop) : cw PP 78 (fun _ => []) (bodyOf Try.f3) A_liverylaw12_NameNone (finQ PP (Try.f3.results.toList) Q) (argFr [(Value.int .i64 g0_xid), (Value.string g1_s)]) h = F_liverylaw12_NameNone g0_xid g1_s h Q := by kernel_rfl
theorem O_liverylaw12_NameNone (g0_xid : Int) (g1_s : ByteArray) {h : Hp} {Q : List Value → Hp → Prop} (H : F_liverylaw12_NameNone g0_xid g1_s h Q) : S_liverylaw12_NameNone g0_xid g1_s h Q :=
  fn_of_cw (hs := (fun _ => [])) (ann := A_liverylaw12_NameNone) (args := [(Value.int .i64 g0_xid), (Value.string g1_s)]) mixedPP Try.func3 (c := bodyOf Try.f3) (by kernel_rfl) (by kernel_rfl) (by kernel_rfl) (Eq.mpr (E_liverylaw12_NameNone g0_xid g1_s h Q) H)
def F_clog_Log_ends (g0_l : Option Addr) (g1_xid : Int) (h : Hp) (Q : List Value → Hp → Prop) : Prop :=
(if (Option.isNone g0_l) = true then
  (Q [(Value.pointer none), (Value.int .i64 (1 : Int))] h) else
  (S_clog_Log_get g0_l g1_xid h fun (vs1 : List Value) (h2 : Hp) =>
    ∃ p3 : Option Addr, vs1 = [(Value.pointer p3)] ∧
    ∀ J4 : List Value → Hp → Prop, (∀ b5 : Bool, ∀ h6 : Hp, ((if b5 = true then
          (Q [(Value.pointer none), (Value.int .i64 (76 : Int))] h6) else
          (Q [(Value.pointer p3), (Value.int .i64 (0 : Int))] h6))) → J4 [(Value.bool b5)] h6) →
    (if (Option.isNone p3) = true then (J4 [(Value.bool true)] h2) else
      (nilW p3 fun a7 => ∃ n8 : Int, rd h2 (Addr.add a7 0) = some (Value.int .i64 n8) ∧
        J4 [(Value.bool (n8 != (1 : Int)))] h2))))
def A_clog_Log_ends : Ann := (.mk none ⟨[], []⟩ .nil (.mk none ⟨[], []⟩ .nil (.mk none ⟨[], []⟩ .nil (.mk none ⟨[], []⟩ (.mk none ⟨[], []⟩ (.mk (some ⟨[6], [(20, (.c .bool))]⟩) ⟨[], []⟩ .nil .nil) .nil) .nil))))
theorem E_clog_Log_ends (g0_l : Option Addr) (g1_xid : Int) (h : Hp) (Q : List Value → Hp → Prop) : cw PP 22 (fun _ => []) (bodyOf Try.f38) A_clog_Log_ends (finQ PP (Try.f38.results.toList) Q) (argFr [(Value.pointer g0_l), (Value.int .i64 g1_xid)]) h = F_clog_Log_ends g0_l g1_xid h Q := by kernel_rfl
theorem O_clog_Log_ends (g0_l : Option Addr) (g1_xid : Int) {h : Hp} {Q : List Value → Hp → Prop} (H : F_clog_Log_ends g0_l g1_xid h Q) : S_clog_Log_ends g0_l g1_xid h Q :=
  fn_of_cw (hs := (fun _ => [])) (ann := A_clog_Log_ends) (args := [(Value.pointer g0_l), (Value.int .i64 g1_xid)]) mixedPP Try.func38 (c := bodyOf Try.f38) (by kernel_rfl) (by kernel_rfl) (by kernel_rfl) (Eq.mpr (E_clog_Log_ends g0_l g1_xid h Q) H)
def F_clog_Log_Abort (g0_l : Option Addr) (g1_xid : Int) (h : Hp) (Q : List Value → Hp → Prop) : Prop :=
S_clog_Log_ends g0_l g1_xid h fun (vs1 : List Value) (h2 : Hp) =>
∃ p3 : Option Addr, ∃ n4 : Int, vs1 = [(Value.pointer p3), (Value.int .i64 n4)] ∧
∀ J5 : List Value → Hp → Prop, (∀ h6 : Hp, (Q [(Value.int .i64 n4)] h6) → J5 [] h6) →
(if (n4 == (0 : Int)) = true then
  (nilW p3 fun a7 => stOk h2 (Addr.add a7 0) 1 ∧ wth (wrs h2 (Addr.add a7 0) 0 [(Value.int .i64 (3 : Int))]) fun h8 =>
    J5 [] h8) else
  (J5 [] h2))
def A_clog_Log_Abort : Ann := (.mk none ⟨[], []⟩ .nil (.mk none ⟨[], []⟩ .nil (.mk none ⟨[], []⟩ (.mk none ⟨[], []⟩ .nil (.mk (some ⟨[6], []⟩) ⟨[], []⟩ .nil .nil)) .nil)))
theorem E_clog_Log_Abort (g0_l : Option Addr) (g1_xid : Int) (h : Hp) (Q : List Value → Hp → Prop) : cw PP 19 (fun _ => []) (bodyOf Try.f19) A_clog_Log_Abort (finQ PP (Try.f19.results.toList) Q) (argFr [(Value.pointer g0_l), (Value.int .i64 g1_xid)]) h = F_clog_Log_Abort g0_l g1_xid h Q := by kernel_rfl
theorem O_clog_Log_Abort (g0_l : Option Addr) (g1_xid : Int) {h : Hp} {Q : List Value → Hp → Prop} (H : F_clog_Log_Abort g0_l g1_xid h Q) : S_clog_Log_Abort g0_l g1_xid h Q :=
  fn_of_cw (hs := (fun _ => [])) (ann := A_clog_Log_Abort) (args := [(Value.pointer g0_l), (Value.int .i64 g1_xid)]) mixedPP Try.func19 (c := bodyOf Try.f19) (by kernel_rfl) (by kernel_rfl) (by kernel_rfl) (Eq.mpr (E_clog_Log_Abort g0_l g1_xid h Q) H)
def F_liverylaw12_NameMost (g0_split : Int) (h : Hp) (Q : List Value → Hp → Prop) : Prop :=
S_clog_New  h fun (vs1 : List Value) (h2 : Hp) =>
∃ p3 : Option Addr, vs1 = [(Value.pointer p3)] ∧
S_name_New  h2 fun (vs4 : List Value) (h5 : Hp) =>
∃ p6 : Option Addr, vs4 = [(Value.pointer p6)] ∧
∀ J7 : List Value → Hp → Prop, (∀ b8 : Bool, ∀ h9 : Hp, ((if b8 = true then
      (Q [(Value.bool false)] h9) else
      (S_clog_Log_Begin p3 false h9 fun (vs10 : List Value) (h11 : Hp) =>
        ∃ n12 : Int, ∃ n13 : Int, vs10 = [(Value.int .i64 n12), (Value.int .i64 n13)] ∧
        S_clog_Log_Begin p3 false h11 fun (vs14 : List Value) (h15 : Hp) =>
        ∃ n16 : Int, ∃ n17 : Int, vs14 = [(Value.int .i64 n16), (Value.int .i64 n17)] ∧
        divOk (7 : Int) (∀ X18 : List Value → Hp → Prop, (∀ n19 : Int, ∀ h20 : Hp, ((if (decide (n19 < (6 : Int))) = true then
                (∀ J21 : List Value → Hp → Prop, (∀ n22 : Int, ∀ h23 : Hp, (wth (Array.push h23 (Obj.cells #[(Value.int .u8 (IntKind.wrap .u8 (IntKind.wrap .i64 ((97 : Int) + n19))))] T_uint8)) fun h24 =>
                      ∃ s25 : ByteArray, bytesAt h24 (some (Addr.mk (Array.size h23) 0 none)) 1 s25 ∧
                      S_liverylaw12_tab s25 (1 : Int) h24 fun (vs26 : List Value) (h27 : Hp) =>
                      ∃ s28 : ByteArray, ∃ l29 : Sl, ∃ n30 : Int, vs26 = [(Value.agg #[(Value.string s28), (Value.slice l29.a l29.n l29.c), (Value.int .i64 n30)])] ∧
                      S_name_Names_Put p6 p3 n22 s28 ⟨l29.a, l29.n, l29.c⟩ n30 h27 fun (vs31 : List Value) (h32 : Hp) =>
                      ∃ n33 : Int, vs31 = [(Value.int .i64 n33)] ∧
                      (if (n33 != (0 : Int)) = true then
                        (Q [(Value.bool false)] h32) else
                        (X18 [(Value.int .i64 (IntKind.wrap .i64 (n19 + (1 : Int))))] h32))) → J21 [(Value.int .i64 n22)] h23) →
                  (if (decide (n19 ≥ (Int.tmod (IntKind.wrap .i64 g0_split) (7 : Int)))) = true then
                    (J21 [(Value.int .i64 (2 : Int))] h20) else
                    (J21 [(Value.int .i64 (1 : Int))] h20))) else
                (∀ J34 : List Value → Hp → Prop, (∀ b35 : Bool, ∀ h36 : Hp, ((if b35 = true then
                        (Q [(Value.bool false)] h36) else
                        (S_clog_Log_Abort p3 (2 : Int) h36 fun (vs37 : List Value) (h38 : Hp) =>
                          ∃ n39 : Int, vs37 = [(Value.int .i64 n39)] ∧
                          S_liverylaw12_tab (ByteArray.mk #[109, 111, 114, 101]) (1 : Int) h38 fun (vs40 : List Value) (h41 : Hp) =>
                          ∃ s42 : ByteArray, ∃ l43 : Sl, ∃ n44 : Int, vs40 = [(Value.agg #[(Value.string s42), (Value.slice l43.a l43.n l43.c), (Value.int .i64 n44)])] ∧
                          S_name_Names_Put p6 p3 (1 : Int) s42 ⟨l43.a, l43.n, l43.c⟩ n44 h41 fun (vs45 : List Value) (h46 : Hp) =>
                          ∃ n47 : Int, vs45 = [(Value.int .i64 n47)] ∧
                          (if ((n47 == (0 : Int)) == (decide ((Int.tmod (IntKind.wrap .i64 g0_split) (7 : Int)) < (6 : Int)))) = true then (S_liverylaw12_wakes  h46 fun (vs48 : List Value) (h49 : Hp) =>
                              ∃ b50 : Bool, vs48 = [(Value.bool b50)] ∧
                              Q [(Value.bool b50)] h49) else
                            (Q [(Value.bool false)] h46))))) → J34 [(Value.bool b35)] h36) →
                  S_liverylaw12_tab (ByteArray.mk #[109, 111, 114, 101]) (1 : Int) h20 fun (vs51 : List Value) (h52 : Hp) =>
                  ∃ s53 : ByteArray, ∃ l54 : Sl, ∃ n55 : Int, vs51 = [(Value.agg #[(Value.string s53), (Value.slice l54.a l54.n l54.c), (Value.int .i64 n55)])] ∧
                  S_name_Names_Put p6 p3 (1 : Int) s53 ⟨l54.a, l54.n, l54.c⟩ n55 h52 fun (vs56 : List Value) (h57 : Hp) =>
                  ∃ n58 : Int, vs56 = [(Value.int .i64 n58)] ∧
                  (if (n58 != (3 : Int)) = true then (J34 [(Value.bool true)] h57) else
                    (S_liverylaw12_tab (ByteArray.mk #[109, 111, 114, 101]) (1 : Int) h57 fun (vs59 : List Value) (h60 : Hp) =>
                      ∃ s61 : ByteArray, ∃ l62 : Sl, ∃ n63 : Int, vs59 = [(Value.agg #[(Value.string s61), (Value.slice l62.a l62.n l62.c), (Value.int .i64 n63)])] ∧
                      S_name_Names_Put p6 p3 (2 : Int) s61 ⟨l62.a, l62.n, l62.c⟩ n63 h60 fun (vs64 : List Value) (h65 : Hp) =>
                      ∃ n66 : Int, vs64 = [(Value.int .i64 n66)] ∧
                      J34 [(Value.bool (n66 != (3 : Int)))] h65))))) → X18 [(Value.int .i64 n19)] h20) →
          X18 [(Value.int .i64 (0 : Int))] h15)))) → J7 [(Value.bool b8)] h9) →
(if (Option.isNone p3) = true then (J7 [(Value.bool true)] h5) else
  (J7 [(Value.bool (Option.isNone p6))] h5))
def A_liverylaw12_NameMost : Ann := (.mk none ⟨[], []⟩ .nil (.mk none ⟨[], []⟩ .nil (.mk none ⟨[], []⟩ (.mk none ⟨[], []⟩ (.mk (some ⟨[0, 3, 4], [(15, (.c .bool))]⟩) ⟨[], []⟩ .nil .nil) .nil) (.mk none ⟨[], []⟩ .nil (.mk none ⟨[], []⟩ .nil (.mk none ⟨[], []⟩ .nil (.mk none ⟨[], []⟩ (.mk none ⟨[], []⟩ .nil (.mk none ⟨[], []⟩ (.mk none ⟨[3, 4, 5], [(6, (.c (.int .i64)))]⟩ (.mk none ⟨[], []⟩ .nil (.mk none ⟨[], []⟩ (.mk none ⟨[], []⟩ (.mk none ⟨[], []⟩ .nil (.mk none ⟨[], []⟩ (.mk none ⟨[], []⟩ .nil (.mk (some ⟨[3, 4, 5, 6], [(7, (.c (.int .i64)))]⟩) ⟨[], []⟩ .nil .nil)) .nil)) .nil) .nil)) .nil) .nil)) (.mk none ⟨[], []⟩ (.mk none ⟨[], []⟩ (.mk (some ⟨[3, 4, 5], [(52, (.c .bool))]⟩) ⟨[], []⟩ .nil .nil) .nil) .nil))))))))
theorem E_liverylaw12_NameMost (g0_split : Int) (h : Hp) (Q : List Value → Hp → Prop) : cw PP 66 (fun _ => []) (bodyOf Try.f4) A_liverylaw12_NameMost (finQ PP (Try.f4.results.toList) Q) (argFr [(Value.int .u8 g0_split)]) h = F_liverylaw12_NameMost g0_split h Q := by kernel_rfl
theorem O_liverylaw12_NameMost (g0_split : Int) {h : Hp} {Q : List Value → Hp → Prop} (H : F_liverylaw12_NameMost g0_split h Q) : S_liverylaw12_NameMost g0_split h Q :=
  fn_of_cw (hs := (fun _ => [])) (ann := A_liverylaw12_NameMost) (args := [(Value.int .u8 g0_split)]) mixedPP Try.func4 (c := bodyOf Try.f4) (by kernel_rfl) (by kernel_rfl) (by kernel_rfl) (Eq.mpr (E_liverylaw12_NameMost g0_split h Q) H)
def F_liverykeep_LargeValue (g0_v_0 : Int) (g0_v_1 : Int) (g0_v_2 : Nat) (g0_v_3 : ByteArray) (h : Hp) (Q : List Value → Hp → Prop) : Prop :=
wth (Array.push h (Obj.cells #[(Value.int .i64 g0_v_0), (Value.int .i64 g0_v_1), (Value.float .f64 g0_v_2), (Value.string g0_v_3)] T_api_Value)) fun h1 =>
∃ s2 : ByteArray, rd h1 (Addr.add (Addr.mk (Array.size h) 0 none) 3) = some (Value.string s2) ∧
Q [(Value.bool (decide ((ByteArray.size s2 : Int) > (2000 : Int))))] h1
def A_liverykeep_LargeValue : Ann := .nil
theorem E_liverykeep_LargeValue (g0_v_0 : Int) (g0_v_1 : Int) (g0_v_2 : Nat) (g0_v_3 : ByteArray) (h : Hp) (Q : List Value → Hp → Prop) : cw PP 7 (fun _ => []) (bodyOf Try.f55) A_liverykeep_LargeValue (finQ PP (Try.f55.results.toList) Q) (argFr [(Value.agg #[(Value.int .i64 g0_v_0), (Value.int .i64 g0_v_1), (Value.float .f64 g0_v_2), (Value.string g0_v_3)])]) h = F_liverykeep_LargeValue g0_v_0 g0_v_1 g0_v_2 g0_v_3 h Q := by kernel_rfl
theorem O_liverykeep_LargeValue (g0_v_0 : Int) (g0_v_1 : Int) (g0_v_2 : Nat) (g0_v_3 : ByteArray) {h : Hp} {Q : List Value → Hp → Prop} (H : F_liverykeep_LargeValue g0_v_0 g0_v_1 g0_v_2 g0_v_3 h Q) : S_liverykeep_LargeValue g0_v_0 g0_v_1 g0_v_2 g0_v_3 h Q :=
  fn_of_cw (hs := (fun _ => [])) (ann := A_liverykeep_LargeValue) (args := [(Value.agg #[(Value.int .i64 g0_v_0), (Value.int .i64 g0_v_1), (Value.float .f64 g0_v_2), (Value.string g0_v_3)])]) mixedPP Try.func55 (c := bodyOf Try.f55) (by kernel_rfl) (by kernel_rfl) (by kernel_rfl) (Eq.mpr (E_liverykeep_LargeValue g0_v_0 g0_v_1 g0_v_2 g0_v_3 h Q) H)
def F_liverykeep_LargeColumns (g0_l : Sl) (h : Hp) (Q : List Value → Hp → Prop) : Prop :=
(if (decide ((g0_l.n : Int) > (50 : Int))) = true then
  (Q [(Value.bool true)] h) else
  (∀ X1 : List Value → Hp → Prop, (∀ n2 : Int, ∀ h3 : Hp, ((if (decide (n2 < (g0_l.n : Int))) = true then
          (∀ J4 : List Value → Hp → Prop, (∀ b5 : Bool, ∀ h6 : Hp, ((if b5 = true then
                  (Q [(Value.bool true)] h6) else
                  (X1 [(Value.int .i64 (IntKind.wrap .i64 (n2 + (1 : Int))))] h6))) → J4 [(Value.bool b5)] h6) →
            nilW g0_l.a fun a7 => ixOk n2 g0_l.n (∃ s8 : ByteArray, rd h3 (Addr.add (Addr.add a7 (Int.toNat n2 * 7)) 0) = some (Value.string s8) ∧
              (if (decide ((ByteArray.size s8 : Int) > (1000 : Int))) = true then (J4 [(Value.bool true)] h3) else
                (nilW g0_l.a fun a9 => ixOk n2 g0_l.n (∃ n10 : Int, rd h3 (Addr.add (Addr.add (Addr.add a9 (Int.toNat n2 * 7)) 3) 0) = some (Value.int .i64 n10) ∧ ∃ n11 : Int, rd h3 (Addr.add (Addr.add (Addr.add a9 (Int.toNat n2 * 7)) 3) 1) = some (Value.int .i64 n11) ∧ ∃ x12 : Nat, rd h3 (Addr.add (Addr.add (Addr.add a9 (Int.toNat n2 * 7)) 3) 2) = some (Value.float .f64 x12) ∧ ∃ s13 : ByteArray, rd h3 (Addr.add (Addr.add (Addr.add a9 (Int.toNat n2 * 7)) 3) 3) = some (Value.string s13) ∧ S_liverykeep_LargeValue n10 n11 x12 s13 h3 fun (vs14 : List Value) (h15 : Hp) =>
                    ∃ b16 : Bool, vs14 = [(Value.bool b16)] ∧
                    J4 [(Value.bool b16)] h15))))) else
          (Q [(Value.bool false)] h3))) → X1 [(Value.int .i64 n2)] h3) →
    X1 [(Value.int .i64 (0 : Int))] h))
def A_liverykeep_LargeColumns : Ann := (.mk none ⟨[], []⟩ .nil (.mk none ⟨[], []⟩ .nil (.mk none ⟨[], []⟩ (.mk none ⟨[], []⟩ .nil (.mk none ⟨[], []⟩ (.mk none ⟨[0], [(3, (.c (.int .i64)))]⟩ (.mk none ⟨[], []⟩ .nil (.mk none ⟨[], []⟩ (.mk none ⟨[], []⟩ (.mk none ⟨[], []⟩ (.mk (some ⟨[0, 3], [(27, (.c .bool))]⟩) ⟨[], []⟩ .nil .nil) .nil) .nil) .nil)) .nil) .nil)) .nil)))
theorem E_liverykeep_LargeColumns (g0_l : Sl) (h : Hp) (Q : List Value → Hp → Prop) : cw PP 28 (fun _ => []) (bodyOf Try.f39) A_liverykeep_LargeColumns (finQ PP (Try.f39.results.toList) Q) (argFr [(Value.slice g0_l.a g0_l.n g0_l.c)]) h = F_liverykeep_LargeColumns g0_l h Q := by kernel_rfl
theorem O_liverykeep_LargeColumns (g0_l : Sl) {h : Hp} {Q : List Value → Hp → Prop} (H : F_liverykeep_LargeColumns g0_l h Q) : S_liverykeep_LargeColumns g0_l h Q :=
  fn_of_cw (hs := (fun _ => [])) (ann := A_liverykeep_LargeColumns) (args := [(Value.slice g0_l.a g0_l.n g0_l.c)]) mixedPP Try.func39 (c := bodyOf Try.f39) (by kernel_rfl) (by kernel_rfl) (by kernel_rfl) (Eq.mpr (E_liverykeep_LargeColumns g0_l h Q) H)
def F_liverylaw12_Fair (g0_l : Sl) (h : Hp) (Q : List Value → Hp → Prop) : Prop :=
∀ X1 : List Value → Hp → Prop, (∀ n2 : Int, ∀ h3 : Hp, ((if (decide (n2 < (g0_l.n : Int))) = true then
      (∀ J4 : List Value → Hp → Prop, (∀ b5 : Bool, ∀ h6 : Hp, ((if b5 = true then
              (Q [(Value.bool false)] h6) else
              (X1 [(Value.int .i64 (IntKind.wrap .i64 (n2 + (1 : Int))))] h6))) → J4 [(Value.bool b5)] h6) →
        nilW g0_l.a fun a7 => ixOk n2 g0_l.n (∃ s8 : ByteArray, rd h3 (Addr.add (Addr.add (Addr.add a7 (Int.toNat n2 * 5)) 2) 0) = some (Value.string s8) ∧
          (if (decide ((ByteArray.size s8 : Int) > (1000 : Int))) = true then (J4 [(Value.bool true)] h3) else
            (nilW g0_l.a fun a9 => ixOk n2 g0_l.n (∃ l10 : Sl, rd h3 (Addr.add (Addr.add (Addr.add a9 (Int.toNat n2 * 5)) 2) 1) = some (Value.slice l10.a l10.n l10.c) ∧
                S_liverykeep_LargeColumns ⟨l10.a, l10.n, l10.c⟩ h3 fun (vs11 : List Value) (h12 : Hp) =>
                ∃ b13 : Bool, vs11 = [(Value.bool b13)] ∧
                J4 [(Value.bool b13)] h12))))) else
      (Q [(Value.bool (decide ((g0_l.n : Int) ≤ (120 : Int))))] h3))) → X1 [(Value.int .i64 n2)] h3) →
X1 [(Value.int .i64 (0 : Int))] h
def A_liverylaw12_Fair : Ann := (.mk none ⟨[], []⟩ .nil (.mk none ⟨[], []⟩ (.mk none ⟨[], []⟩ .nil (.mk none ⟨[], []⟩ (.mk none ⟨[0], [(3, (.c (.int .i64)))]⟩ (.mk none ⟨[], []⟩ .nil (.mk none ⟨[], []⟩ (.mk none ⟨[], []⟩ (.mk none ⟨[], []⟩ (.mk (some ⟨[0, 3], [(26, (.c .bool))]⟩) ⟨[], []⟩ .nil .nil) .nil) .nil) .nil)) .nil) .nil)) .nil))
theorem E_liverylaw12_Fair (g0_l : Sl) (h : Hp) (Q : List Value → Hp → Prop) : cw PP 30 (fun _ => []) (bodyOf Try.f20) A_liverylaw12_Fair (finQ PP (Try.f20.results.toList) Q) (argFr [(Value.slice g0_l.a g0_l.n g0_l.c)]) h = F_liverylaw12_Fair g0_l h Q := by kernel_rfl
theorem O_liverylaw12_Fair (g0_l : Sl) {h : Hp} {Q : List Value → Hp → Prop} (H : F_liverylaw12_Fair g0_l h Q) : S_liverylaw12_Fair g0_l h Q :=
  fn_of_cw (hs := (fun _ => [])) (ann := A_liverylaw12_Fair) (args := [(Value.slice g0_l.a g0_l.n g0_l.c)]) mixedPP Try.func20 (c := bodyOf Try.f20) (by kernel_rfl) (by kernel_rfl) (by kernel_rfl) (Eq.mpr (E_liverylaw12_Fair g0_l h Q) H)
def F_clog_Log_Commit (g0_l : Option Addr) (g1_xid : Int) (h : Hp) (Q : List Value → Hp → Prop) : Prop :=
S_clog_Log_ends g0_l g1_xid h fun (vs1 : List Value) (h2 : Hp) =>
∃ p3 : Option Addr, ∃ n4 : Int, vs1 = [(Value.pointer p3), (Value.int .i64 n4)] ∧
(if (n4 != (0 : Int)) = true then
  (Q [(Value.int .i64 (0 : Int)), (Value.int .i64 n4)] h2) else
  (nilW g0_l fun a5 => ∃ n6 : Int, rd h2 (Addr.add a5 805) = some (Value.int .i64 n6) ∧
    nilW g0_l fun a7 => stOk h2 (Addr.add a7 805) 1 ∧ wth (wrs h2 (Addr.add a7 805) 0 [(Value.int .i64 (IntKind.wrap .i64 (n6 + (1 : Int))))]) fun h8 =>
    nilW g0_l fun a9 => ∃ n10 : Int, rd h8 (Addr.add a9 805) = some (Value.int .i64 n10) ∧
    nilW p3 fun a11 => stOk h8 (Addr.add a11 0) 1 ∧ wth (wrs h8 (Addr.add a11 0) 0 [(Value.int .i64 (2 : Int))]) fun h12 =>
    nilW p3 fun a13 => stOk h12 (Addr.add a13 1) 1 ∧ wth (wrs h12 (Addr.add a13 1) 0 [(Value.int .i64 n10)]) fun h14 =>
    nilW g0_l fun a15 => ∃ n16 : Int, rd h14 (Addr.add a15 805) = some (Value.int .i64 n16) ∧
    Q [(Value.int .i64 n16), (Value.int .i64 (0 : Int))] h14))
def A_clog_Log_Commit : Ann := .nil
theorem E_clog_Log_Commit (g0_l : Option Addr) (g1_xid : Int) (h : Hp) (Q : List Value → Hp → Prop) : cw PP 38 (fun _ => []) (bodyOf Try.f21) A_clog_Log_Commit (finQ PP (Try.f21.results.toList) Q) (argFr [(Value.pointer g0_l), (Value.int .i64 g1_xid)]) h = F_clog_Log_Commit g0_l g1_xid h Q := by kernel_rfl
theorem O_clog_Log_Commit (g0_l : Option Addr) (g1_xid : Int) {h : Hp} {Q : List Value → Hp → Prop} (H : F_clog_Log_Commit g0_l g1_xid h Q) : S_clog_Log_Commit g0_l g1_xid h Q :=
  fn_of_cw (hs := (fun _ => [])) (ann := A_clog_Log_Commit) (args := [(Value.pointer g0_l), (Value.int .i64 g1_xid)]) mixedPP Try.func21 (c := bodyOf Try.f21) (by kernel_rfl) (by kernel_rfl) (by kernel_rfl) (Eq.mpr (E_clog_Log_Commit g0_l g1_xid h Q) H)
def F_liverylaw12_NameOne (g0_steps : Sl) (h : Hp) (Q : List Value → Hp → Prop) : Prop :=
S_clog_New  h fun (vs1 : List Value) (h2 : Hp) =>
∃ p3 : Option Addr, vs1 = [(Value.pointer p3)] ∧
S_name_New  h2 fun (vs4 : List Value) (h5 : Hp) =>
∃ p6 : Option Addr, vs4 = [(Value.pointer p6)] ∧
∀ J7 : List Value → Hp → Prop, (∀ b8 : Bool, ∀ h9 : Hp, ((if b8 = true then
      (∀ J10 : List Value → Hp → Prop, (∀ b11 : Bool, ∀ h12 : Hp, (Q [(Value.bool b11)] h12) → J10 [(Value.bool b11)] h12) →
        (if (!(Option.isNone p3)) = true then ((if (!(Option.isNone p6)) = true then (S_liverylaw12_wakes  h9 fun (vs13 : List Value) (h14 : Hp) =>
                ∃ b15 : Bool, vs13 = [(Value.bool b15)] ∧
                J10 [(Value.bool b15)] h14) else
              (J10 [(Value.bool false)] h9))) else
          (J10 [(Value.bool false)] h9))) else
      (∀ X16 : List Value → Hp → Prop, (∀ n17 : Int, ∀ n18 : Int, ∀ h19 : Hp, ((if (decide (n18 < (g0_steps.n : Int))) = true then
              (nilW g0_steps.a fun a20 => ixOk n18 g0_steps.n (∃ n21 : Int, rd h19 (Addr.add (Addr.add a20 (Int.toNat n18 * 5)) 0) = some (Value.int .i64 n21) ∧ ∃ n22 : Int, rd h19 (Addr.add (Addr.add a20 (Int.toNat n18 * 5)) 1) = some (Value.int .i64 n22) ∧ ∃ s23 : ByteArray, rd h19 (Addr.add (Addr.add a20 (Int.toNat n18 * 5)) 2) = some (Value.string s23) ∧ ∃ l24 : Sl, rd h19 (Addr.add (Addr.add a20 (Int.toNat n18 * 5)) 3) = some (Value.slice l24.a l24.n l24.c) ∧ ∃ n25 : Int, rd h19 (Addr.add (Addr.add a20 (Int.toNat n18 * 5)) 4) = some (Value.int .i64 n25) ∧ wth (Array.push h19 (Obj.cells #[(Value.int .i64 (0 : Int)), (Value.int .i64 (0 : Int)), (Value.string (ByteArray.mk #[])), (Value.slice none 0 0), (Value.int .i64 (0 : Int))] T_liverylaw12_Step)) fun h26 =>
                  stOk h26 (Addr.mk (Array.size h19) 0 none) 5 ∧ wth (wrs h26 (Addr.mk (Array.size h19) 0 none) 0 [(Value.int .i64 n21), (Value.int .i64 n22), (Value.string s23), (Value.slice l24.a l24.n l24.c), (Value.int .i64 n25)]) fun h27 =>
                  ∃ n28 : Int, rd h27 (Addr.add (Addr.mk (Array.size h19) 0 none) 0) = some (Value.int .i64 n28) ∧
                  ∀ J29 : List Value → Hp → Prop, (∀ n30 : Int, ∀ h31 : Hp, (∀ X32 : List Value → Hp → Prop, (∀ n33 : Int, ∀ h34 : Hp, ((if (decide (n33 < (8 : Int))) = true then
                            (S_name_Names_All p6 p3 n33 h34 fun (vs35 : List Value) (h36 : Hp) =>
                              ∃ l37 : Sl, vs35 = [(Value.slice l37.a l37.n l37.c)] ∧
                              ∀ J38 : List Value → Hp → Prop, (∀ b39 : Bool, ∀ h40 : Hp, ((if b39 = true then
                                    (Q [(Value.bool false)] h40) else
                                    (X32 [(Value.int .i64 (IntKind.wrap .i64 (n33 + (1 : Int))))] h40))) → J38 [(Value.bool b39)] h40) →
                              (if (decide ((l37.n : Int) > (1 : Int))) = true then (J38 [(Value.bool true)] h36) else
                                ((if ((l37.n : Int) == (1 : Int)) = true then (nilW l37.a fun a41 => ixOk (0 : Int) l37.n (∃ s42 : ByteArray, rd h36 (Addr.add (Addr.add a41 (Int.toNat (0 : Int) * 3)) 0) = some (Value.string s42) ∧
                                        J38 [(Value.bool (!((ByteArray.toList s42) == (ByteArray.toList (ByteArray.mk #[116])))))] h36)) else
                                    (J38 [(Value.bool false)] h36))))) else
                            (X16 [(Value.int .i64 n30), (Value.int .i64 (IntKind.wrap .i64 (n18 + (1 : Int))))] h34))) → X32 [(Value.int .i64 n33)] h34) →
                      X32 [(Value.int .i64 (1 : Int))] h31) → J29 [(Value.int .i64 n30)] h31) →
                  (if (n28 == (0 : Int)) = true then
                    (S_clog_Log_Begin p3 false h27 fun (vs43 : List Value) (h44 : Hp) =>
                      ∃ n45 : Int, ∃ n46 : Int, vs43 = [(Value.int .i64 n45), (Value.int .i64 n46)] ∧
                      J29 [(Value.int .i64 n17)] h44) else
                    ((if (n28 == (1 : Int)) = true then
                        (∃ n47 : Int, rd h27 (Addr.add (Addr.mk (Array.size h19) 0 none) 1) = some (Value.int .i64 n47) ∧
                          S_clog_Log_Commit p3 n47 h27 fun (vs48 : List Value) (h49 : Hp) =>
                          ∃ n50 : Int, ∃ n51 : Int, vs48 = [(Value.int .i64 n50), (Value.int .i64 n51)] ∧
                          J29 [(Value.int .i64 n17)] h49) else
                        ((if (n28 == (2 : Int)) = true then
                            (∃ n52 : Int, rd h27 (Addr.add (Addr.mk (Array.size h19) 0 none) 1) = some (Value.int .i64 n52) ∧
                              S_clog_Log_Abort p3 n52 h27 fun (vs53 : List Value) (h54 : Hp) =>
                              ∃ n55 : Int, vs53 = [(Value.int .i64 n55)] ∧
                              J29 [(Value.int .i64 n17)] h54) else
                            (divOk (100 : Int) (S_liverylaw12_tab (ByteArray.mk #[116]) (IntKind.wrap .i64 ((1 : Int) + (Int.tmod n18 (100 : Int)))) h27 fun (vs56 : List Value) (h57 : Hp) =>
                                ∃ s58 : ByteArray, ∃ l59 : Sl, ∃ n60 : Int, vs56 = [(Value.agg #[(Value.string s58), (Value.slice l59.a l59.n l59.c), (Value.int .i64 n60)])] ∧
                                wth (Array.push h57 (Obj.cells #[(Value.string (ByteArray.mk #[])), (Value.slice none 0 0), (Value.int .i64 (0 : Int))] T_api_Table)) fun h61 =>
                                stOk h61 (Addr.mk (Array.size h57) 0 none) 3 ∧ wth (wrs h61 (Addr.mk (Array.size h57) 0 none) 0 [(Value.string s58), (Value.slice l59.a l59.n l59.c), (Value.int .i64 n60)]) fun h62 =>
                                ∃ n63 : Int, rd h62 (Addr.add (Addr.mk (Array.size h19) 0 none) 1) = some (Value.int .i64 n63) ∧
                                ∃ s64 : ByteArray, rd h62 (Addr.add (Addr.mk (Array.size h57) 0 none) 0) = some (Value.string s64) ∧ ∃ l65 : Sl, rd h62 (Addr.add (Addr.mk (Array.size h57) 0 none) 1) = some (Value.slice l65.a l65.n l65.c) ∧ ∃ n66 : Int, rd h62 (Addr.add (Addr.mk (Array.size h57) 0 none) 2) = some (Value.int .i64 n66) ∧ S_name_Names_Put p6 p3 n63 s64 ⟨l65.a, l65.n, l65.c⟩ n66 h62 fun (vs67 : List Value) (h68 : Hp) =>
                                ∃ n69 : Int, vs67 = [(Value.int .i64 n69)] ∧
                                (if (n69 == (0 : Int)) = true then
                                  (∀ J70 : List Value → Hp → Prop, (∀ b71 : Bool, ∀ h72 : Hp, ((if b71 = true then
                                          (Q [(Value.bool false)] h72) else
                                          (∃ n73 : Int, rd h72 (Addr.add (Addr.mk (Array.size h19) 0 none) 1) = some (Value.int .i64 n73) ∧
                                            J29 [(Value.int .i64 n73)] h72))) → J70 [(Value.bool b71)] h72) →
                                    (if (n17 != (0 : Int)) = true then (S_clog_Log_State p3 n17 h68 fun (vs74 : List Value) (h75 : Hp) =>
                                        ∃ n76 : Int, vs74 = [(Value.int .i64 n76)] ∧
                                        (if (n76 != (3 : Int)) = true then (∃ n77 : Int, rd h75 (Addr.add (Addr.mk (Array.size h19) 0 none) 1) = some (Value.int .i64 n77) ∧
                                            S_clog_Log_Sees p3 n77 n17 h75 fun (vs78 : List Value) (h79 : Hp) =>
                                            ∃ b80 : Bool, vs78 = [(Value.bool b80)] ∧
                                            J70 [(Value.bool (!b80))] h79) else
                                          (J70 [(Value.bool false)] h75))) else
                                      (J70 [(Value.bool false)] h68))) else
                                  (J29 [(Value.int .i64 n17)] h68))))))))))) else
              (S_liverylaw12_wakes  h19 fun (vs81 : List Value) (h82 : Hp) =>
                ∃ b83 : Bool, vs81 = [(Value.bool b83)] ∧
                Q [(Value.bool b83)] h82))) → X16 [(Value.int .i64 n17), (Value.int .i64 n18)] h19) →
        X16 [(Value.int .i64 (0 : Int)), (Value.int .i64 (0 : Int))] h9))) → J7 [(Value.bool b8)] h9) →
(if (Option.isNone p3) = true then (J7 [(Value.bool true)] h5) else
  ((if (Option.isNone p6) = true then (J7 [(Value.bool true)] h5) else
      (S_liverylaw12_Fair ⟨g0_steps.a, g0_steps.n, g0_steps.c⟩ h5 fun (vs84 : List Value) (h85 : Hp) =>
        ∃ b86 : Bool, vs84 = [(Value.bool b86)] ∧
        J7 [(Value.bool (!b86))] h85))))
def A_liverylaw12_NameOne : Ann := (.mk none ⟨[], []⟩ .nil (.mk none ⟨[], []⟩ .nil (.mk none ⟨[], []⟩ (.mk none ⟨[], []⟩ (.mk (some ⟨[0, 3, 4], [(23, (.c .bool))]⟩) ⟨[], []⟩ .nil .nil) (.mk none ⟨[], []⟩ (.mk none ⟨[], []⟩ (.mk (some ⟨[], [(2, (.c .bool))]⟩) ⟨[], []⟩ .nil .nil) .nil) .nil)) (.mk none ⟨[], []⟩ .nil (.mk none ⟨[], []⟩ (.mk none ⟨[], []⟩ .nil (.mk none ⟨[], []⟩ (.mk none ⟨[0, 3, 4], [(5, (.c (.int .i64))), (6, (.c (.int .i64)))]⟩ (.mk none ⟨[], []⟩ .nil (.mk none ⟨[], []⟩ (.mk none ⟨[], []⟩ (.mk none ⟨[], []⟩ .nil (.mk none ⟨[], []⟩ (.mk none ⟨[], []⟩ .nil (.mk (some ⟨[0, 3, 4, 6], [(5, (.c (.int .i64)))]⟩) ⟨[], []⟩ (.mk none ⟨[], []⟩ .nil (.mk none ⟨[], []⟩ .nil (.mk none ⟨[], []⟩ .nil (.mk none ⟨[], []⟩ .nil (.mk none ⟨[], []⟩ .nil (.mk none ⟨[], []⟩ .nil (.mk none ⟨[], []⟩ .nil (.mk none ⟨[], []⟩ .nil (.mk none ⟨[], []⟩ (.mk none ⟨[], []⟩ (.mk none ⟨[], []⟩ (.mk (some ⟨[0, 3, 4, 6, 7], [(71, (.c .bool))]⟩) ⟨[], []⟩ .nil .nil) .nil) .nil) .nil))))))))) .nil)) (.mk none ⟨[], []⟩ .nil (.mk none ⟨[], []⟩ (.mk none ⟨[0, 3, 4, 5, 6], [(9, (.c (.int .i64)))]⟩ (.mk none ⟨[], []⟩ .nil (.mk none ⟨[], []⟩ (.mk none ⟨[], []⟩ (.mk none ⟨[], []⟩ .nil (.mk none ⟨[], []⟩ (.mk (some ⟨[0, 3, 4, 5, 6, 9], [(112, (.c .bool))]⟩) ⟨[], []⟩ .nil .nil) .nil)) .nil) .nil)) .nil) .nil)))) .nil) .nil)) .nil) .nil)) .nil)))))
theorem E_liverylaw12_NameOne (g0_steps : Sl) (h : Hp) (Q : List Value → Hp → Prop) : cw PP 114 (fun _ => []) (bodyOf Try.f5) A_liverylaw12_NameOne (finQ PP (Try.f5.results.toList) Q) (argFr [(Value.slice g0_steps.a g0_steps.n g0_steps.c)]) h = F_liverylaw12_NameOne g0_steps h Q := by kernel_rfl
theorem O_liverylaw12_NameOne (g0_steps : Sl) {h : Hp} {Q : List Value → Hp → Prop} (H : F_liverylaw12_NameOne g0_steps h Q) : S_liverylaw12_NameOne g0_steps h Q :=
  fn_of_cw (hs := (fun _ => [])) (ann := A_liverylaw12_NameOne) (args := [(Value.slice g0_steps.a g0_steps.n g0_steps.c)]) mixedPP Try.func5 (c := bodyOf Try.f5) (by kernel_rfl) (by kernel_rfl) (by kernel_rfl) (Eq.mpr (E_liverylaw12_NameOne g0_steps h Q) H)
def F_liverykeep_Value (g0_a_0 : Int) (g0_a_1 : Int) (g0_a_2 : Nat) (g0_a_3 : ByteArray) (g1_b_0 : Int) (g1_b_1 : Int) (g1_b_2 : Nat) (g1_b_3 : ByteArray) (h : Hp) (Q : List Value → Hp → Prop) : Prop :=
wth (Array.push h (Obj.cells #[(Value.int .i64 g0_a_0), (Value.int .i64 g0_a_1), (Value.float .f64 g0_a_2), (Value.string g0_a_3)] T_api_Value)) fun h1 =>
wth (Array.push h1 (Obj.cells #[(Value.int .i64 g1_b_0), (Value.int .i64 g1_b_1), (Value.float .f64 g1_b_2), (Value.string g1_b_3)] T_api_Value)) fun h2 =>
∃ n3 : Int, rd h2 (Addr.add (Addr.mk (Array.size h) 0 none) 0) = some (Value.int .i64 n3) ∧
∃ n4 : Int, rd h2 (Addr.add (Addr.mk (Array.size h1) 0 none) 0) = some (Value.int .i64 n4) ∧
(if (n3 == n4) = true then (∃ n5 : Int, rd h2 (Addr.add (Addr.mk (Array.size h) 0 none) 1) = some (Value.int .i64 n5) ∧
    ∃ n6 : Int, rd h2 (Addr.add (Addr.mk (Array.size h1) 0 none) 1) = some (Value.int .i64 n6) ∧
    (if (n5 == n6) = true then (∃ x7 : Nat, rd h2 (Addr.add (Addr.mk (Array.size h) 0 none) 2) = some (Value.float .f64 x7) ∧
        ∃ x8 : Nat, rd h2 (Addr.add (Addr.mk (Array.size h1) 0 none) 2) = some (Value.float .f64 x8) ∧
        S_math_Float64bits x7 h2 fun (vs9 : List Value) (h10 : Hp) =>
        ∃ n11 : Int, vs9 = [(Value.int .u64 n11)] ∧
        rd h10 (Addr.add (Addr.mk (Array.size h1) 0 none) 2) = some (Value.float .f64 x8) ∧ S_math_Float64bits x8 h10 fun (vs12 : List Value) (h13 : Hp) =>
        ∃ n14 : Int, vs12 = [(Value.int .u64 n14)] ∧
        (if (n11 == n14) = true then (∃ s15 : ByteArray, rd h13 (Addr.add (Addr.mk (Array.size h) 0 none) 3) = some (Value.string s15) ∧
            ∃ s16 : ByteArray, rd h13 (Addr.add (Addr.mk (Array.size h1) 0 none) 3) = some (Value.string s16) ∧
            Q [(Value.bool ((ByteArray.toList s15) == (ByteArray.toList s16)))] h13) else
          (Q [(Value.bool false)] h13))) else
      (Q [(Value.bool false)] h2))) else
  (Q [(Value.bool false)] h2))
def A_liverykeep_Value : Ann := .nil
theorem E_liverykeep_Value (g0_a_0 : Int) (g0_a_1 : Int) (g0_a_2 : Nat) (g0_a_3 : ByteArray) (g1_b_0 : Int) (g1_b_1 : Int) (g1_b_2 : Nat) (g1_b_3 : ByteArray) (h : Hp) (Q : List Value → Hp → Prop) : cw PP 33 (fun _ => []) (bodyOf Try.f73) A_liverykeep_Value (finQ PP (Try.f73.results.toList) Q) (argFr [(Value.agg #[(Value.int .i64 g0_a_0), (Value.int .i64 g0_a_1), (Value.float .f64 g0_a_2), (Value.string g0_a_3)]), (Value.agg #[(Value.int .i64 g1_b_0), (Value.int .i64 g1_b_1), (Value.float .f64 g1_b_2), (Value.string g1_b_3)])]) h = F_liverykeep_Value g0_a_0 g0_a_1 g0_a_2 g0_a_3 g1_b_0 g1_b_1 g1_b_2 g1_b_3 h Q := by kernel_rfl
theorem O_liverykeep_Value (g0_a_0 : Int) (g0_a_1 : Int) (g0_a_2 : Nat) (g0_a_3 : ByteArray) (g1_b_0 : Int) (g1_b_1 : Int) (g1_b_2 : Nat) (g1_b_3 : ByteArray) {h : Hp} {Q : List Value → Hp → Prop} (H : F_liverykeep_Value g0_a_0 g0_a_1 g0_a_2 g0_a_3 g1_b_0 g1_b_1 g1_b_2 g1_b_3 h Q) : S_liverykeep_Value g0_a_0 g0_a_1 g0_a_2 g0_a_3 g1_b_0 g1_b_1 g1_b_2 g1_b_3 h Q :=
  fn_of_cw (hs := (fun _ => [])) (ann := A_liverykeep_Value) (args := [(Value.agg #[(Value.int .i64 g0_a_0), (Value.int .i64 g0_a_1), (Value.float .f64 g0_a_2), (Value.string g0_a_3)]), (Value.agg #[(Value.int .i64 g1_b_0), (Value.int .i64 g1_b_1), (Value.float .f64 g1_b_2), (Value.string g1_b_3)])]) mixedPP Try.func73 (c := bodyOf Try.f73) (by kernel_rfl) (by kernel_rfl) (by kernel_rfl) (Eq.mpr (E_liverykeep_Value g0_a_0 g0_a_1 g0_a_2 g0_a_3 g1_b_0 g1_b_1 g1_b_2 g1_b_3 h Q) H)
def F_liverykeep_Columns (g0_a : Sl) (g1_b : Sl) (h : Hp) (Q : List Value → Hp → Prop) : Prop :=
(if ((g0_a.n : Int) != (g1_b.n : Int)) = true then
  (Q [(Value.bool false)] h) else
  (∀ X1 : List Value → Hp → Prop, (∀ n2 : Int, ∀ h3 : Hp, ((if (decide (n2 < (g0_a.n : Int))) = true then
          (∀ J4 : List Value → Hp → Prop, (∀ b5 : Bool, ∀ h6 : Hp, ((if b5 = true then
                  (Q [(Value.bool false)] h6) else
                  (X1 [(Value.int .i64 (IntKind.wrap .i64 (n2 + (1 : Int))))] h6))) → J4 [(Value.bool b5)] h6) →
            nilW g0_a.a fun a7 => ixOk n2 g0_a.n (∃ s8 : ByteArray, rd h3 (Addr.add (Addr.add a7 (Int.toNat n2 * 7)) 0) = some (Value.string s8) ∧
              nilW g1_b.a fun a9 => ixOk n2 g1_b.n (∃ s10 : ByteArray, rd h3 (Addr.add (Addr.add a9 (Int.toNat n2 * 7)) 0) = some (Value.string s10) ∧
                (if (!((ByteArray.toList s8) == (ByteArray.toList s10))) = true then (J4 [(Value.bool true)] h3) else
                  (nilW g0_a.a fun a11 => ixOk n2 g0_a.n (∃ n12 : Int, rd h3 (Addr.add (Addr.add a11 (Int.toNat n2 * 7)) 1) = some (Value.int .i64 n12) ∧
                      nilW g1_b.a fun a13 => ixOk n2 g1_b.n (∃ n14 : Int, rd h3 (Addr.add (Addr.add a13 (Int.toNat n2 * 7)) 1) = some (Value.int .i64 n14) ∧
                        (if (n12 != n14) = true then (J4 [(Value.bool true)] h3) else
                          (nilW g0_a.a fun a15 => ixOk n2 g0_a.n (∃ b16 : Bool, rd h3 (Addr.add (Addr.add a15 (Int.toNat n2 * 7)) 2) = some (Value.bool b16) ∧
                              nilW g1_b.a fun a17 => ixOk n2 g1_b.n (∃ b18 : Bool, rd h3 (Addr.add (Addr.add a17 (Int.toNat n2 * 7)) 2) = some (Value.bool b18) ∧
                                (if (!(b16 == b18)) = true then (J4 [(Value.bool true)] h3) else
                                  (nilW g0_a.a fun a19 => ixOk n2 g0_a.n (∃ n20 : Int, rd h3 (Addr.add (Addr.add (Addr.add a19 (Int.toNat n2 * 7)) 3) 0) = some (Value.int .i64 n20) ∧ ∃ n21 : Int, rd h3 (Addr.add (Addr.add (Addr.add a19 (Int.toNat n2 * 7)) 3) 1) = some (Value.int .i64 n21) ∧ ∃ x22 : Nat, rd h3 (Addr.add (Addr.add (Addr.add a19 (Int.toNat n2 * 7)) 3) 2) = some (Value.float .f64 x22) ∧ ∃ s23 : ByteArray, rd h3 (Addr.add (Addr.add (Addr.add a19 (Int.toNat n2 * 7)) 3) 3) = some (Value.string s23) ∧ nilW g1_b.a fun a24 => ixOk n2 g1_b.n (∃ n25 : Int, rd h3 (Addr.add (Addr.add (Addr.add a24 (Int.toNat n2 * 7)) 3) 0) = some (Value.int .i64 n25) ∧ ∃ n26 : Int, rd h3 (Addr.add (Addr.add (Addr.add a24 (Int.toNat n2 * 7)) 3) 1) = some (Value.int .i64 n26) ∧ ∃ x27 : Nat, rd h3 (Addr.add (Addr.add (Addr.add a24 (Int.toNat n2 * 7)) 3) 2) = some (Value.float .f64 x27) ∧ ∃ s28 : ByteArray, rd h3 (Addr.add (Addr.add (Addr.add a24 (Int.toNat n2 * 7)) 3) 3) = some (Value.string s28) ∧ S_liverykeep_Value n20 n21 x22 s23 n25 n26 x27 s28 h3 fun (vs29 : List Value) (h30 : Hp) =>
                                        ∃ b31 : Bool, vs29 = [(Value.bool b31)] ∧
                                        J4 [(Value.bool (!b31))] h30))))))))))))))) else
          (Q [(Value.bool true)] h3))) → X1 [(Value.int .i64 n2)] h3) →
    X1 [(Value.int .i64 (0 : Int))] h))
def A_liverykeep_Columns : Ann := (.mk none ⟨[], []⟩ .nil (.mk none ⟨[], []⟩ .nil (.mk none ⟨[], []⟩ (.mk none ⟨[], []⟩ .nil (.mk none ⟨[], []⟩ (.mk none ⟨[0, 1], [(5, (.c (.int .i64)))]⟩ (.mk none ⟨[], []⟩ .nil (.mk none ⟨[], []⟩ (.mk none ⟨[], []⟩ (.mk none ⟨[], []⟩ (.mk (some ⟨[0, 1, 5], [(67, (.c .bool))]⟩) ⟨[], []⟩ .nil .nil) .nil) .nil) .nil)) .nil) .nil)) .nil)))
theorem E_liverykeep_Columns (g0_a : Sl) (g1_b : Sl) (h : Hp) (Q : List Value → Hp → Prop) : cw PP 68 (fun _ => []) (bodyOf Try.f56) A_liverykeep_Columns (finQ PP (Try.f56.results.toList) Q) (argFr [(Value.slice g0_a.a g0_a.n g0_a.c), (Value.slice g1_b.a g1_b.n g1_b.c)]) h = F_liverykeep_Columns g0_a g1_b h Q := by kernel_rfl
theorem O_liverykeep_Columns (g0_a : Sl) (g1_b : Sl) {h : Hp} {Q : List Value → Hp → Prop} (H : F_liverykeep_Columns g0_a g1_b h Q) : S_liverykeep_Columns g0_a g1_b h Q :=
  fn_of_cw (hs := (fun _ => [])) (ann := A_liverykeep_Columns) (args := [(Value.slice g0_a.a g0_a.n g0_a.c), (Value.slice g1_b.a g1_b.n g1_b.c)]) mixedPP Try.func56 (c := bodyOf Try.f56) (by kernel_rfl) (by kernel_rfl) (by kernel_rfl) (Eq.mpr (E_liverykeep_Columns g0_a g1_b h Q) H)
def F_liverykeep_Table (g0_a_0 : ByteArray) (g0_a_1 : Sl) (g0_a_2 : Int) (g1_b_0 : ByteArray) (g1_b_1 : Sl) (g1_b_2 : Int) (h : Hp) (Q : List Value → Hp → Prop) : Prop :=
wth (Array.push h (Obj.cells #[(Value.string g0_a_0), (Value.slice g0_a_1.a g0_a_1.n g0_a_1.c), (Value.int .i64 g0_a_2)] T_api_Table)) fun h1 =>
wth (Array.push h1 (Obj.cells #[(Value.string g1_b_0), (Value.slice g1_b_1.a g1_b_1.n g1_b_1.c), (Value.int .i64 g1_b_2)] T_api_Table)) fun h2 =>
∃ s3 : ByteArray, rd h2 (Addr.add (Addr.mk (Array.size h) 0 none) 0) = some (Value.string s3) ∧
∃ s4 : ByteArray, rd h2 (Addr.add (Addr.mk (Array.size h1) 0 none) 0) = some (Value.string s4) ∧
(if ((ByteArray.toList s3) == (ByteArray.toList s4)) = true then (∃ n5 : Int, rd h2 (Addr.add (Addr.mk (Array.size h) 0 none) 2) = some (Value.int .i64 n5) ∧
    ∃ n6 : Int, rd h2 (Addr.add (Addr.mk (Array.size h1) 0 none) 2) = some (Value.int .i64 n6) ∧
    (if (n5 == n6) = true then (∃ l7 : Sl, rd h2 (Addr.add (Addr.mk (Array.size h) 0 none) 1) = some (Value.slice l7.a l7.n l7.c) ∧
        ∃ l8 : Sl, rd h2 (Addr.add (Addr.mk (Array.size h1) 0 none) 1) = some (Value.slice l8.a l8.n l8.c) ∧
        S_liverykeep_Columns ⟨l7.a, l7.n, l7.c⟩ ⟨l8.a, l8.n, l8.c⟩ h2 fun (vs9 : List Value) (h10 : Hp) =>
        ∃ b11 : Bool, vs9 = [(Value.bool b11)] ∧
        Q [(Value.bool b11)] h10) else
      (Q [(Value.bool false)] h2))) else
  (Q [(Value.bool false)] h2))
def A_liverykeep_Table : Ann := .nil
theorem E_liverykeep_Table (g0_a_0 : ByteArray) (g0_a_1 : Sl) (g0_a_2 : Int) (g1_b_0 : ByteArray) (g1_b_1 : Sl) (g1_b_2 : Int) (h : Hp) (Q : List Value → Hp → Prop) : cw PP 24 (fun _ => []) (bodyOf Try.f42) A_liverykeep_Table (finQ PP (Try.f42.results.toList) Q) (argFr [(Value.agg #[(Value.string g0_a_0), (Value.slice g0_a_1.a g0_a_1.n g0_a_1.c), (Value.int .i64 g0_a_2)]), (Value.agg #[(Value.string g1_b_0), (Value.slice g1_b_1.a g1_b_1.n g1_b_1.c), (Value.int .i64 g1_b_2)])]) h = F_liverykeep_Table g0_a_0 g0_a_1 g0_a_2 g1_b_0 g1_b_1 g1_b_2 h Q := by kernel_rfl
theorem O_liverykeep_Table (g0_a_0 : ByteArray) (g0_a_1 : Sl) (g0_a_2 : Int) (g1_b_0 : ByteArray) (g1_b_1 : Sl) (g1_b_2 : Int) {h : Hp} {Q : List Value → Hp → Prop} (H : F_liverykeep_Table g0_a_0 g0_a_1 g0_a_2 g1_b_0 g1_b_1 g1_b_2 h Q) : S_liverykeep_Table g0_a_0 g0_a_1 g0_a_2 g1_b_0 g1_b_1 g1_b_2 h Q :=
  fn_of_cw (hs := (fun _ => [])) (ann := A_liverykeep_Table) (args := [(Value.agg #[(Value.string g0_a_0), (Value.slice g0_a_1.a g0_a_1.n g0_a_1.c), (Value.int .i64 g0_a_2)]), (Value.agg #[(Value.string g1_b_0), (Value.slice g1_b_1.a g1_b_1.n g1_b_1.c), (Value.int .i64 g1_b_2)])]) mixedPP Try.func42 (c := bodyOf Try.f42) (by kernel_rfl) (by kernel_rfl) (by kernel_rfl) (Eq.mpr (E_liverykeep_Table g0_a_0 g0_a_1 g0_a_2 g1_b_0 g1_b_1 g1_b_2 h Q) H)
def F_liverykeep_Tables (g0_a : Sl) (g1_b : Sl) (h : Hp) (Q : List Value → Hp → Prop) : Prop :=
(if ((g0_a.n : Int) != (g1_b.n : Int)) = true then
  (Q [(Value.bool false)] h) else
  (∀ X1 : List Value → Hp → Prop, (∀ n2 : Int, ∀ h3 : Hp, ((if (decide (n2 < (g0_a.n : Int))) = true then
          (nilW g0_a.a fun a4 => ixOk n2 g0_a.n (∃ s5 : ByteArray, rd h3 (Addr.add (Addr.add a4 (Int.toNat n2 * 3)) 0) = some (Value.string s5) ∧ ∃ l6 : Sl, rd h3 (Addr.add (Addr.add a4 (Int.toNat n2 * 3)) 1) = some (Value.slice l6.a l6.n l6.c) ∧ ∃ n7 : Int, rd h3 (Addr.add (Addr.add a4 (Int.toNat n2 * 3)) 2) = some (Value.int .i64 n7) ∧ nilW g1_b.a fun a8 => ixOk n2 g1_b.n (∃ s9 : ByteArray, rd h3 (Addr.add (Addr.add a8 (Int.toNat n2 * 3)) 0) = some (Value.string s9) ∧ ∃ l10 : Sl, rd h3 (Addr.add (Addr.add a8 (Int.toNat n2 * 3)) 1) = some (Value.slice l10.a l10.n l10.c) ∧ ∃ n11 : Int, rd h3 (Addr.add (Addr.add a8 (Int.toNat n2 * 3)) 2) = some (Value.int .i64 n11) ∧ S_liverykeep_Table s5 ⟨l6.a, l6.n, l6.c⟩ n7 s9 ⟨l10.a, l10.n, l10.c⟩ n11 h3 fun (vs12 : List Value) (h13 : Hp) =>
                ∃ b14 : Bool, vs12 = [(Value.bool b14)] ∧
                (if (!b14) = true then
                  (Q [(Value.bool false)] h13) else
                  (X1 [(Value.int .i64 (IntKind.wrap .i64 (n2 + (1 : Int))))] h13))))) else
          (Q [(Value.bool true)] h3))) → X1 [(Value.int .i64 n2)] h3) →
    X1 [(Value.int .i64 (0 : Int))] h))
def A_liverykeep_Tables : Ann := (.mk none ⟨[], []⟩ .nil (.mk none ⟨[], []⟩ .nil (.mk none ⟨[], []⟩ (.mk none ⟨[], []⟩ .nil (.mk none ⟨[], []⟩ (.mk none ⟨[0, 1], [(5, (.c (.int .i64)))]⟩ .nil .nil) .nil)) .nil)))
theorem E_liverykeep_Tables (g0_a : Sl) (g1_b : Sl) (h : Hp) (Q : List Value → Hp → Prop) : cw PP 27 (fun _ => []) (bodyOf Try.f24) A_liverykeep_Tables (finQ PP (Try.f24.results.toList) Q) (argFr [(Value.slice g0_a.a g0_a.n g0_a.c), (Value.slice g1_b.a g1_b.n g1_b.c)]) h = F_liverykeep_Tables g0_a g1_b h Q := by kernel_rfl
theorem O_liverykeep_Tables (g0_a : Sl) (g1_b : Sl) {h : Hp} {Q : List Value → Hp → Prop} (H : F_liverykeep_Tables g0_a g1_b h Q) : S_liverykeep_Tables g0_a g1_b h Q :=
  fn_of_cw (hs := (fun _ => [])) (ann := A_liverykeep_Tables) (args := [(Value.slice g0_a.a g0_a.n g0_a.c), (Value.slice g1_b.a g1_b.n g1_b.c)]) mixedPP Try.func24 (c := bodyOf Try.f24) (by kernel_rfl) (by kernel_rfl) (by kernel_rfl) (Eq.mpr (E_liverykeep_Tables g0_a g1_b h Q) H)
def F_liverylaw12_NameStays (g0_steps : Sl) (g1_at : Int) (h : Hp) (Q : List Value → Hp → Prop) : Prop :=
S_clog_New  h fun (vs1 : List Value) (h2 : Hp) =>
∃ p3 : Option Addr, vs1 = [(Value.pointer p3)] ∧
S_name_New  h2 fun (vs4 : List Value) (h5 : Hp) =>
∃ p6 : Option Addr, vs4 = [(Value.pointer p6)] ∧
∀ J7 : List Value → Hp → Prop, (∀ b8 : Bool, ∀ h9 : Hp, ((if b8 = true then
      (∀ J10 : List Value → Hp → Prop, (∀ b11 : Bool, ∀ h12 : Hp, (Q [(Value.bool b11)] h12) → J10 [(Value.bool b11)] h12) →
        (if (!(Option.isNone p3)) = true then ((if (!(Option.isNone p6)) = true then (S_liverylaw12_wakes  h9 fun (vs13 : List Value) (h14 : Hp) =>
                ∃ b15 : Bool, vs13 = [(Value.bool b15)] ∧
                J10 [(Value.bool b15)] h14) else
              (J10 [(Value.bool false)] h9))) else
          (J10 [(Value.bool false)] h9))) else
      (∀ J16 : List Value → Hp → Prop, (∀ n17 : Int, ∀ h18 : Hp, (∀ X19 : List Value → Hp → Prop, (∀ n20 : Int, ∀ l21 : Sl, ∀ n22 : Int, ∀ h23 : Hp, ((if (decide (n22 < (g0_steps.n : Int))) = true then
                  (∀ J24 : List Value → Hp → Prop, (∀ n25 : Int, ∀ l26 : Sl, ∀ h27 : Hp, (X19 [(Value.int .i64 n25), (Value.slice l26.a l26.n l26.c), (Value.int .i64 (IntKind.wrap .i64 (n22 + (1 : Int))))] h27) → J24 [(Value.int .i64 n25), (Value.slice l26.a l26.n l26.c)] h27) →
                    ∀ J28 : List Value → Hp → Prop, (∀ n29 : Int, ∀ l30 : Sl, ∀ h31 : Hp, (nilW g0_steps.a fun a32 => ixOk n22 g0_steps.n (∃ n33 : Int, rd h31 (Addr.add (Addr.add a32 (Int.toNat n22 * 5)) 0) = some (Value.int .i64 n33) ∧ ∃ n34 : Int, rd h31 (Addr.add (Addr.add a32 (Int.toNat n22 * 5)) 1) = some (Value.int .i64 n34) ∧ ∃ s35 : ByteArray, rd h31 (Addr.add (Addr.add a32 (Int.toNat n22 * 5)) 2) = some (Value.string s35) ∧ ∃ l36 : Sl, rd h31 (Addr.add (Addr.add a32 (Int.toNat n22 * 5)) 3) = some (Value.slice l36.a l36.n l36.c) ∧ ∃ n37 : Int, rd h31 (Addr.add (Addr.add a32 (Int.toNat n22 * 5)) 4) = some (Value.int .i64 n37) ∧ wth (Array.push h31 (Obj.cells #[(Value.int .i64 (0 : Int)), (Value.int .i64 (0 : Int)), (Value.string (ByteArray.mk #[])), (Value.slice none 0 0), (Value.int .i64 (0 : Int))] T_liverylaw12_Step)) fun h38 =>
                          stOk h38 (Addr.mk (Array.size h31) 0 none) 5 ∧ wth (wrs h38 (Addr.mk (Array.size h31) 0 none) 0 [(Value.int .i64 n33), (Value.int .i64 n34), (Value.string s35), (Value.slice l36.a l36.n l36.c), (Value.int .i64 n37)]) fun h39 =>
                          ∀ J40 : List Value → Hp → Prop, (∀ b41 : Bool, ∀ h42 : Hp, ((if b41 = true then
                                (J24 [(Value.int .i64 n29), (Value.slice l30.a l30.n l30.c)] h42) else
                                (∃ n43 : Int, rd h42 (Addr.add (Addr.mk (Array.size h31) 0 none) 0) = some (Value.int .i64 n43) ∧
                                  ∀ J44 : List Value → Hp → Prop, (∀ h45 : Hp, (∀ J46 : List Value → Hp → Prop, (∀ b47 : Bool, ∀ h48 : Hp, ((if b47 = true then
                                            (Q [(Value.bool false)] h48) else
                                            (J24 [(Value.int .i64 n29), (Value.slice l30.a l30.n l30.c)] h48))) → J46 [(Value.bool b47)] h48) →
                                      (if (n29 != (0 : Int)) = true then (S_name_Names_All p6 p3 n29 h45 fun (vs49 : List Value) (h50 : Hp) =>
                                          ∃ l51 : Sl, vs49 = [(Value.slice l51.a l51.n l51.c)] ∧
                                          S_liverykeep_Tables ⟨l51.a, l51.n, l51.c⟩ ⟨l30.a, l30.n, l30.c⟩ h50 fun (vs52 : List Value) (h53 : Hp) =>
                                          ∃ b54 : Bool, vs52 = [(Value.bool b54)] ∧
                                          J46 [(Value.bool (!b54))] h53) else
                                        (J46 [(Value.bool false)] h45))) → J44 [] h45) →
                                  (if (n43 == (0 : Int)) = true then
                                    (S_clog_Log_Begin p3 false h42 fun (vs55 : List Value) (h56 : Hp) =>
                                      ∃ n57 : Int, ∃ n58 : Int, vs55 = [(Value.int .i64 n57), (Value.int .i64 n58)] ∧
                                      J44 [] h56) else
                                    ((if (n43 == (1 : Int)) = true then
                                        (∃ n59 : Int, rd h42 (Addr.add (Addr.mk (Array.size h31) 0 none) 1) = some (Value.int .i64 n59) ∧
                                          S_clog_Log_Commit p3 n59 h42 fun (vs60 : List Value) (h61 : Hp) =>
                                          ∃ n62 : Int, ∃ n63 : Int, vs60 = [(Value.int .i64 n62), (Value.int .i64 n63)] ∧
                                          J44 [] h61) else
                                        ((if (n43 == (2 : Int)) = true then
                                            (∃ n64 : Int, rd h42 (Addr.add (Addr.mk (Array.size h31) 0 none) 1) = some (Value.int .i64 n64) ∧
                                              S_clog_Log_Abort p3 n64 h42 fun (vs65 : List Value) (h66 : Hp) =>
                                              ∃ n67 : Int, vs65 = [(Value.int .i64 n67)] ∧
                                              J44 [] h66) else
                                            ((if (n43 == (3 : Int)) = true then
                                                (∃ n68 : Int, rd h42 (Addr.add (Addr.mk (Array.size h31) 0 none) 1) = some (Value.int .i64 n68) ∧
                                                  ∃ s69 : ByteArray, rd h42 (Addr.add (Addr.add (Addr.mk (Array.size h31) 0 none) 2) 0) = some (Value.string s69) ∧ ∃ l70 : Sl, rd h42 (Addr.add (Addr.add (Addr.mk (Array.size h31) 0 none) 2) 1) = some (Value.slice l70.a l70.n l70.c) ∧ ∃ n71 : Int, rd h42 (Addr.add (Addr.add (Addr.mk (Array.size h31) 0 none) 2) 2) = some (Value.int .i64 n71) ∧ S_name_Names_Put p6 p3 n68 s69 ⟨l70.a, l70.n, l70.c⟩ n71 h42 fun (vs72 : List Value) (h73 : Hp) =>
                                                  ∃ n74 : Int, vs72 = [(Value.int .i64 n74)] ∧
                                                  J44 [] h73) else
                                                ((if (n43 == (4 : Int)) = true then
                                                    (∃ n75 : Int, rd h42 (Addr.add (Addr.mk (Array.size h31) 0 none) 1) = some (Value.int .i64 n75) ∧
                                                      ∃ s76 : ByteArray, rd h42 (Addr.add (Addr.add (Addr.mk (Array.size h31) 0 none) 2) 0) = some (Value.string s76) ∧
                                                      S_name_Names_Drop p6 p3 n75 s76 h42 fun (vs77 : List Value) (h78 : Hp) =>
                                                      ∃ n79 : Int, vs77 = [(Value.int .i64 n79)] ∧
                                                      J44 [] h78) else
                                                    (J44 [] h42))))))))))))) → J40 [(Value.bool b41)] h42) →
                          (if (n29 != (0 : Int)) = true then (∃ n80 : Int, rd h39 (Addr.add (Addr.mk (Array.size h31) 0 none) 1) = some (Value.int .i64 n80) ∧
                              J40 [(Value.bool (n80 == n29))] h39) else
                            (J40 [(Value.bool false)] h39)))) → J28 [(Value.int .i64 n29), (Value.slice l30.a l30.n l30.c)] h31) →
                    (if (n22 == n17) = true then
                      (S_clog_Log_Begin p3 true h23 fun (vs81 : List Value) (h82 : Hp) =>
                        ∃ n83 : Int, ∃ n84 : Int, vs81 = [(Value.int .i64 n83), (Value.int .i64 n84)] ∧
                        (if (n84 != (0 : Int)) = true then
                          (Q [(Value.bool false)] h82) else
                          (S_name_Names_All p6 p3 n83 h82 fun (vs85 : List Value) (h86 : Hp) =>
                            ∃ l87 : Sl, vs85 = [(Value.slice l87.a l87.n l87.c)] ∧
                            J28 [(Value.int .i64 n83), (Value.slice l87.a l87.n l87.c)] h86))) else
                      (J28 [(Value.int .i64 n20), (Value.slice l21.a l21.n l21.c)] h23))) else
                  (S_liverylaw12_wakes  h23 fun (vs88 : List Value) (h89 : Hp) =>
                    ∃ b90 : Bool, vs88 = [(Value.bool b90)] ∧
                    Q [(Value.bool b90)] h89))) → X19 [(Value.int .i64 n20), (Value.slice l21.a l21.n l21.c), (Value.int .i64 n22)] h23) →
            X19 [(Value.int .i64 (0 : Int)), (Value.slice none 0 0), (Value.int .i64 (0 : Int))] h18) → J16 [(Value.int .i64 n17)] h18) →
        (if (decide ((g0_steps.n : Int) > (0 : Int))) = true then
          (divOk (g0_steps.n : Int) (J16 [(Value.int .i64 (Int.tmod (IntKind.wrap .i64 g1_at) (g0_steps.n : Int)))] h9)) else
          (J16 [(Value.int .i64 (0 : Int))] h9))))) → J7 [(Value.bool b8)] h9) →
(if (Option.isNone p3) = true then (J7 [(Value.bool true)] h5) else
  ((if (Option.isNone p6) = true then (J7 [(Value.bool true)] h5) else
      (S_liverylaw12_Fair ⟨g0_steps.a, g0_steps.n, g0_steps.c⟩ h5 fun (vs91 : List Value) (h92 : Hp) =>
        ∃ b93 : Bool, vs91 = [(Value.bool b93)] ∧
        J7 [(Value.bool (!b93))] h92))))
def A_liverylaw12_NameStays : Ann := (.mk none ⟨[], []⟩ .nil (.mk none ⟨[], []⟩ .nil (.mk none ⟨[], []⟩ (.mk none ⟨[], []⟩ (.mk (some ⟨[0, 1, 5, 6], [(26, (.c .bool))]⟩) ⟨[], []⟩ .nil .nil) (.mk none ⟨[], []⟩ (.mk none ⟨[], []⟩ (.mk (some ⟨[], [(4, (.c .bool))]⟩) ⟨[], []⟩ .nil .nil) .nil) .nil)) (.mk none ⟨[], []⟩ .nil (.mk none ⟨[], []⟩ (.mk none ⟨[], []⟩ .nil (.mk (some ⟨[0, 5, 6, 8], [(7, (.c (.int .i64)))]⟩) ⟨[], []⟩ .nil .nil)) (.mk none ⟨[], []⟩ .nil (.mk none ⟨[], []⟩ (.mk none ⟨[], []⟩ .nil (.mk none ⟨[], []⟩ (.mk none ⟨[0, 5, 6, 7], [(8, (.c (.int .i64))), (9, (.c .sl)), (10, (.c (.int .i64)))]⟩ (.mk none ⟨[], []⟩ .nil (.mk none ⟨[], []⟩ (.mk (some ⟨[0, 5, 6, 7, 10], [(8, (.c (.int .i64))), (9, (.c .sl))]⟩) ⟨[], []⟩ (.mk none ⟨[], []⟩ (.mk none ⟨[], []⟩ .nil (.mk (some ⟨[0, 5, 6, 7, 10], [(8, (.c (.int .i64))), (9, (.c .sl))]⟩) ⟨[], []⟩ .nil .nil)) (.mk none ⟨[], []⟩ .nil (.mk none ⟨[], []⟩ (.mk none ⟨[], []⟩ (.mk (some ⟨[0, 5, 6, 7, 8, 9, 10, 13], [(76, (.c .bool))]⟩) ⟨[], []⟩ .nil .nil) .nil) (.mk none ⟨[], []⟩ (.mk none ⟨[], []⟩ .nil (.mk (some ⟨[0, 5, 6, 7, 8, 9, 10], []⟩) ⟨[], []⟩ .nil .nil)) (.mk none ⟨[], []⟩ (.mk (some ⟨[0, 5, 6, 7, 8, 9, 10], [(124, (.c .bool))]⟩) ⟨[], []⟩ .nil .nil) .nil))))) .nil) .nil)) .nil) .nil)) .nil)))))))
theorem E_liverylaw12_NameStays (g0_steps : Sl) (g1_at : Int) (h : Hp) (Q : List Value → Hp → Prop) : cw PP 126 (fun _ => []) (bodyOf Try.f6) A_liverylaw12_NameStays (finQ PP (Try.f6.results.toList) Q) (argFr [(Value.slice g0_steps.a g0_steps.n g0_steps.c), (Value.int .u8 g1_at)]) h = F_liverylaw12_NameStays g0_steps g1_at h Q := by kernel_rfl
theorem O_liverylaw12_NameStays (g0_steps : Sl) (g1_at : Int) {h : Hp} {Q : List Value → Hp → Prop} (H : F_liverylaw12_NameStays g0_steps g1_at h Q) : S_liverylaw12_NameStays g0_steps g1_at h Q :=
  fn_of_cw (hs := (fun _ => [])) (ann := A_liverylaw12_NameStays) (args := [(Value.slice g0_steps.a g0_steps.n g0_steps.c), (Value.int .u8 g1_at)]) mixedPP Try.func6 (c := bodyOf Try.f6) (by kernel_rfl) (by kernel_rfl) (by kernel_rfl) (Eq.mpr (E_liverylaw12_NameStays g0_steps g1_at h Q) H)
def F_liverylaw12_NameAborts (g0_steps : Sl) (h : Hp) (Q : List Value → Hp → Prop) : Prop :=
S_clog_New  h fun (vs1 : List Value) (h2 : Hp) =>
∃ p3 : Option Addr, vs1 = [(Value.pointer p3)] ∧
S_name_New  h2 fun (vs4 : List Value) (h5 : Hp) =>
∃ p6 : Option Addr, vs4 = [(Value.pointer p6)] ∧
∀ J7 : List Value → Hp → Prop, (∀ b8 : Bool, ∀ h9 : Hp, ((if b8 = true then
      (∀ J10 : List Value → Hp → Prop, (∀ b11 : Bool, ∀ h12 : Hp, (Q [(Value.bool b11)] h12) → J10 [(Value.bool b11)] h12) →
        (if (!(Option.isNone p3)) = true then ((if (!(Option.isNone p6)) = true then (S_liverylaw12_wakes  h9 fun (vs13 : List Value) (h14 : Hp) =>
                ∃ b15 : Bool, vs13 = [(Value.bool b15)] ∧
                J10 [(Value.bool b15)] h14) else
              (J10 [(Value.bool false)] h9))) else
          (J10 [(Value.bool false)] h9))) else
      (S_clog_Log_Begin p3 false h9 fun (vs16 : List Value) (h17 : Hp) =>
        ∃ n18 : Int, ∃ n19 : Int, vs16 = [(Value.int .i64 n18), (Value.int .i64 n19)] ∧
        ∀ J20 : List Value → Hp → Prop, (∀ b21 : Bool, ∀ h22 : Hp, ((if b21 = true then
              (Q [(Value.bool false)] h22) else
              (S_clog_Log_Commit p3 (1 : Int) h22 fun (vs23 : List Value) (h24 : Hp) =>
                ∃ n25 : Int, ∃ n26 : Int, vs23 = [(Value.int .i64 n25), (Value.int .i64 n26)] ∧
                S_clog_Log_Begin p3 false h24 fun (vs27 : List Value) (h28 : Hp) =>
                ∃ n29 : Int, ∃ n30 : Int, vs27 = [(Value.int .i64 n29), (Value.int .i64 n30)] ∧
                ∀ X31 : List Value → Hp → Prop, (∀ n32 : Int, ∀ h33 : Hp, ((if (decide (n32 < (g0_steps.n : Int))) = true then
                      (∀ J34 : List Value → Hp → Prop, (∀ h35 : Hp, (X31 [(Value.int .i64 (IntKind.wrap .i64 (n32 + (1 : Int))))] h35) → J34 [] h35) →
                        nilW g0_steps.a fun a36 => ixOk n32 g0_steps.n (∃ n37 : Int, rd h33 (Addr.add (Addr.add a36 (Int.toNat n32 * 5)) 0) = some (Value.int .i64 n37) ∧
                          (if (n37 == (4 : Int)) = true then
                            (nilW g0_steps.a fun a38 => ixOk n32 g0_steps.n (∃ s39 : ByteArray, rd h33 (Addr.add (Addr.add (Addr.add a38 (Int.toNat n32 * 5)) 2) 0) = some (Value.string s39) ∧
                                S_name_Names_Drop p6 p3 (2 : Int) s39 h33 fun (vs40 : List Value) (h41 : Hp) =>
                                ∃ n42 : Int, vs40 = [(Value.int .i64 n42)] ∧
                                J34 [] h41)) else
                            (nilW g0_steps.a fun a43 => ixOk n32 g0_steps.n (∃ s44 : ByteArray, rd h33 (Addr.add (Addr.add (Addr.add a43 (Int.toNat n32 * 5)) 2) 0) = some (Value.string s44) ∧ ∃ l45 : Sl, rd h33 (Addr.add (Addr.add (Addr.add a43 (Int.toNat n32 * 5)) 2) 1) = some (Value.slice l45.a l45.n l45.c) ∧ ∃ n46 : Int, rd h33 (Addr.add (Addr.add (Addr.add a43 (Int.toNat n32 * 5)) 2) 2) = some (Value.int .i64 n46) ∧ S_name_Names_Put p6 p3 (2 : Int) s44 ⟨l45.a, l45.n, l45.c⟩ n46 h33 fun (vs47 : List Value) (h48 : Hp) =>
                                ∃ n49 : Int, vs47 = [(Value.int .i64 n49)] ∧
                                J34 [] h48))))) else
                      (S_clog_Log_Abort p3 (2 : Int) h33 fun (vs50 : List Value) (h51 : Hp) =>
                        ∃ n52 : Int, vs50 = [(Value.int .i64 n52)] ∧
                        (if (n52 != (0 : Int)) = true then
                          (Q [(Value.bool false)] h51) else
                          (S_clog_Log_Begin p3 false h51 fun (vs53 : List Value) (h54 : Hp) =>
                            ∃ n55 : Int, ∃ n56 : Int, vs53 = [(Value.int .i64 n55), (Value.int .i64 n56)] ∧
                            S_name_Names_All p6 p3 (3 : Int) h54 fun (vs57 : List Value) (h58 : Hp) =>
                            ∃ l59 : Sl, vs57 = [(Value.slice l59.a l59.n l59.c)] ∧
                            S_name_Names_May p6 p3 (3 : Int) (ByteArray.mk #[116]) h58 fun (vs60 : List Value) (h61 : Hp) =>
                            ∃ n62 : Int, ∃ n63 : Int, vs60 = [(Value.int .i64 n62), (Value.int .i64 n63)] ∧
                            S_liverylaw12_tab (ByteArray.mk #[116]) (1 : Int) h61 fun (vs64 : List Value) (h65 : Hp) =>
                            ∃ s66 : ByteArray, ∃ l67 : Sl, ∃ n68 : Int, vs64 = [(Value.agg #[(Value.string s66), (Value.slice l67.a l67.n l67.c), (Value.int .i64 n68)])] ∧
                            S_liverylaw12_tab (ByteArray.mk #[117]) (2 : Int) h65 fun (vs69 : List Value) (h70 : Hp) =>
                            ∃ s71 : ByteArray, ∃ l72 : Sl, ∃ n73 : Int, vs69 = [(Value.agg #[(Value.string s71), (Value.slice l72.a l72.n l72.c), (Value.int .i64 n73)])] ∧
                            wth (Array.push h70 (Obj.cells #[(Value.string s66), (Value.slice l67.a l67.n l67.c), (Value.int .i64 n68), (Value.string s71), (Value.slice l72.a l72.n l72.c), (Value.int .i64 n73)] T_api_Table)) fun h74 =>
                            S_liverykeep_Tables ⟨l59.a, l59.n, l59.c⟩ ⟨(some (Addr.mk (Array.size h70) 0 none)), 2, 2⟩ h74 fun (vs75 : List Value) (h76 : Hp) =>
                            ∃ b77 : Bool, vs75 = [(Value.bool b77)] ∧
                            (if b77 = true then ((if (n62 == (0 : Int)) = true then (S_name_Names_Unseen p6 p3 (3 : Int) (ByteArray.mk #[117]) h76 fun (vs78 : List Value) (h79 : Hp) =>
                                    ∃ l80 : Sl, vs78 = [(Value.slice l80.a l80.n l80.c)] ∧
                                    (if ((l80.n : Int) == (0 : Int)) = true then (S_name_Names_Drop p6 p3 (3 : Int) (ByteArray.mk #[117]) h79 fun (vs81 : List Value) (h82 : Hp) =>
                                        ∃ n83 : Int, vs81 = [(Value.int .i64 n83)] ∧
                                        (if (n83 == (0 : Int)) = true then (S_liverylaw12_tab (ByteArray.mk #[116]) (9 : Int) h82 fun (vs84 : List Value) (h85 : Hp) =>
                                            ∃ s86 : ByteArray, ∃ l87 : Sl, ∃ n88 : Int, vs84 = [(Value.agg #[(Value.string s86), (Value.slice l87.a l87.n l87.c), (Value.int .i64 n88)])] ∧
                                            S_name_Names_Put p6 p3 (3 : Int) s86 ⟨l87.a, l87.n, l87.c⟩ n88 h85 fun (vs89 : List Value) (h90 : Hp) =>
                                            ∃ n91 : Int, vs89 = [(Value.int .i64 n91)] ∧
                                            (if (n91 == (0 : Int)) = true then (S_liverylaw12_wakes  h90 fun (vs92 : List Value) (h93 : Hp) =>
                                                ∃ b94 : Bool, vs92 = [(Value.bool b94)] ∧
                                                Q [(Value.bool b94)] h93) else
                                              (Q [(Value.bool false)] h90))) else
                                          (Q [(Value.bool false)] h82))) else
                                      (Q [(Value.bool false)] h79))) else
                                  (Q [(Value.bool false)] h76))) else
                              (Q [(Value.bool false)] h76))))))) → X31 [(Value.int .i64 n32)] h33) →
                X31 [(Value.int .i64 (0 : Int))] h28))) → J20 [(Value.bool b21)] h22) →
        S_liverylaw12_tab (ByteArray.mk #[116]) (1 : Int) h17 fun (vs95 : List Value) (h96 : Hp) =>
        ∃ s97 : ByteArray, ∃ l98 : Sl, ∃ n99 : Int, vs95 = [(Value.agg #[(Value.string s97), (Value.slice l98.a l98.n l98.c), (Value.int .i64 n99)])] ∧
        S_name_Names_Put p6 p3 (1 : Int) s97 ⟨l98.a, l98.n, l98.c⟩ n99 h96 fun (vs100 : List Value) (h101 : Hp) =>
        ∃ n102 : Int, vs100 = [(Value.int .i64 n102)] ∧
        (if (n102 != (0 : Int)) = true then (J20 [(Value.bool true)] h101) else
          (S_liverylaw12_tab (ByteArray.mk #[117]) (2 : Int) h101 fun (vs103 : List Value) (h104 : Hp) =>
            ∃ s105 : ByteArray, ∃ l106 : Sl, ∃ n107 : Int, vs103 = [(Value.agg #[(Value.string s105), (Value.slice l106.a l106.n l106.c), (Value.int .i64 n107)])] ∧
            S_name_Names_Put p6 p3 (1 : Int) s105 ⟨l106.a, l106.n, l106.c⟩ n107 h104 fun (vs108 : List Value) (h109 : Hp) =>
            ∃ n110 : Int, vs108 = [(Value.int .i64 n110)] ∧
            J20 [(Value.bool (n110 != (0 : Int)))] h109))))) → J7 [(Value.bool b8)] h9) →
(if (Option.isNone p3) = true then (J7 [(Value.bool true)] h5) else
  ((if (Option.isNone p6) = true then (J7 [(Value.bool true)] h5) else
      (S_liverylaw12_Fair ⟨g0_steps.a, g0_steps.n, g0_steps.c⟩ h5 fun (vs111 : List Value) (h112 : Hp) =>
        ∃ b113 : Bool, vs111 = [(Value.bool b113)] ∧
        J7 [(Value.bool (!b113))] h112))))
def A_liverylaw12_NameAborts : Ann := (.mk none ⟨[], []⟩ .nil (.mk none ⟨[], []⟩ .nil (.mk none ⟨[], []⟩ (.mk none ⟨[], []⟩ (.mk (some ⟨[0, 3, 4], [(21, (.c .bool))]⟩) ⟨[], []⟩ .nil .nil) (.mk none ⟨[], []⟩ (.mk none ⟨[], []⟩ (.mk (some ⟨[], [(2, (.c .bool))]⟩) ⟨[], []⟩ .nil .nil) .nil) .nil)) (.mk none ⟨[], []⟩ .nil (.mk none ⟨[], []⟩ (.mk none ⟨[], []⟩ (.mk (some ⟨[0, 3, 4], [(44, (.c .bool))]⟩) ⟨[], []⟩ .nil .nil) .nil) (.mk none ⟨[], []⟩ .nil (.mk none ⟨[], []⟩ .nil (.mk none ⟨[], []⟩ (.mk none ⟨[], []⟩ .nil (.mk none ⟨[], []⟩ (.mk none ⟨[0, 3, 4], [(5, (.c (.int .i64)))]⟩ (.mk none ⟨[], []⟩ .nil (.mk none ⟨[], []⟩ (.mk (some ⟨[0, 3, 4, 5], []⟩) ⟨[], []⟩ .nil .nil) .nil)) .nil) .nil)) .nil))))))))
theorem E_liverylaw12_NameAborts (g0_steps : Sl) (h : Hp) (Q : List Value → Hp → Prop) : cw PP 124 (fun _ => []) (bodyOf Try.f7) A_liverylaw12_NameAborts (finQ PP (Try.f7.results.toList) Q) (argFr [(Value.slice g0_steps.a g0_steps.n g0_steps.c)]) h = F_liverylaw12_NameAborts g0_steps h Q := by kernel_rfl
theorem O_liverylaw12_NameAborts (g0_steps : Sl) {h : Hp} {Q : List Value → Hp → Prop} (H : F_liverylaw12_NameAborts g0_steps h Q) : S_liverylaw12_NameAborts g0_steps h Q :=
  fn_of_cw (hs := (fun _ => [])) (ann := A_liverylaw12_NameAborts) (args := [(Value.slice g0_steps.a g0_steps.n g0_steps.c)]) mixedPP Try.func7 (c := bodyOf Try.f7) (by kernel_rfl) (by kernel_rfl) (by kernel_rfl) (Eq.mpr (E_liverylaw12_NameAborts g0_steps h Q) H)
def F_name_Names_May_1 (g0_x : Int) (g1_x : Addr) (h : Hp) (Q : List Value → Hp → Prop) : Prop :=
∃ p1 : Option Addr, rd h g1_x = some (Value.pointer p1) ∧
S_clog_Log_State p1 g0_x h fun (vs2 : List Value) (h3 : Hp) =>
∃ n4 : Int, vs2 = [(Value.int .i64 n4)] ∧
Q [(Value.bool (n4 == (1 : Int)))] h3
def A_name_Names_May_1 : Ann := .nil
theorem E_name_Names_May_1 (g0_x : Int) (g1_x : Addr) (h : Hp) (Q : List Value → Hp → Prop) : cw PP 8 (fun _ => []) (bodyOf Try.f29) A_name_Names_May_1 (finQ PP (Try.f29.results.toList) Q) (argFr [(Value.int .i64 g0_x), (Value.pointer (some g1_x))]) h = F_name_Names_May_1 g0_x g1_x h Q := by kernel_rfl
theorem O_name_Names_May_1 (g0_x : Int) (g1_x : Addr) {h : Hp} {Q : List Value → Hp → Prop} (H : F_name_Names_May_1 g0_x g1_x h Q) : S_name_Names_May_1 g0_x g1_x h Q :=
  fn_of_cw (hs := (fun _ => [])) (ann := A_name_Names_May_1) (args := [(Value.int .i64 g0_x), (Value.pointer (some g1_x))]) mixedPP Try.func29 (c := bodyOf Try.f29) (by kernel_rfl) (by kernel_rfl) (by kernel_rfl) (Eq.mpr (E_name_Names_May_1 g0_x g1_x h Q) H)
def F_cmp_isNaN_string (g0_x : ByteArray) (h : Hp) (Q : List Value → Hp → Prop) : Prop :=
Q [(Value.bool (!((ByteArray.toList g0_x) == (ByteArray.toList g0_x))))] h
def A_cmp_isNaN_string : Ann := .nil
theorem E_cmp_isNaN_string (g0_x : ByteArray) (h : Hp) (Q : List Value → Hp → Prop) : cw PP 6 (fun _ => []) (bodyOf Try.f54) A_cmp_isNaN_string (finQ PP (Try.f54.results.toList) Q) (argFr [(Value.string g0_x)]) h = F_cmp_isNaN_string g0_x h Q := by kernel_rfl
theorem O_cmp_isNaN_string (g0_x : ByteArray) {h : Hp} {Q : List Value → Hp → Prop} (H : F_cmp_isNaN_string g0_x h Q) : S_cmp_isNaN_string g0_x h Q :=
  fn_of_cw (hs := (fun _ => [])) (ann := A_cmp_isNaN_string) (args := [(Value.string g0_x)]) mixedPP Try.func54 (c := bodyOf Try.f54) (by kernel_rfl) (by kernel_rfl) (by kernel_rfl) (Eq.mpr (E_cmp_isNaN_string g0_x h Q) H)
def F_cmp_Compare_string (g0_x : ByteArray) (g1_y : ByteArray) (h : Hp) (Q : List Value → Hp → Prop) : Prop :=
S_cmp_isNaN_string g0_x h fun (vs1 : List Value) (h2 : Hp) =>
∃ b3 : Bool, vs1 = [(Value.bool b3)] ∧
S_cmp_isNaN_string g1_y h2 fun (vs4 : List Value) (h5 : Hp) =>
∃ b6 : Bool, vs4 = [(Value.bool b6)] ∧
(if b3 = true then
  ((if b6 = true then
      (Q [(Value.int .i64 (0 : Int))] h5) else
      (Q [(Value.int .i64 (-1 : Int))] h5))) else
  ((if b6 = true then
      (Q [(Value.int .i64 (1 : Int))] h5) else
      ((if (Op.bytesLess (ByteArray.toList g0_x) (ByteArray.toList g1_y)) = true then
          (Q [(Value.int .i64 (-1 : Int))] h5) else
          ((if (!(Op.bytesLess (ByteArray.toList g0_x) (ByteArray.toList g1_y) || (ByteArray.toList g0_x) == (ByteArray.toList g1_y))) = true then
              (Q [(Value.int .i64 (1 : Int))] h5) else
              (Q [(Value.int .i64 (0 : Int))] h5))))))))
def A_cmp_Compare_string : Ann := .nil
theorem E_cmp_Compare_string (g0_x : ByteArray) (g1_y : ByteArray) (h : Hp) (Q : List Value → Hp → Prop) : cw PP 20 (fun _ => []) (bodyOf Try.f37) A_cmp_Compare_string (finQ PP (Try.f37.results.toList) Q) (argFr [(Value.string g0_x), (Value.string g1_y)]) h = F_cmp_Compare_string g0_x g1_y h Q := by kernel_rfl
theorem O_cmp_Compare_string (g0_x : ByteArray) (g1_y : ByteArray) {h : Hp} {Q : List Value → Hp → Prop} (H : F_cmp_Compare_string g0_x g1_y h Q) : S_cmp_Compare_string g0_x g1_y h Q :=
  fn_of_cw (hs := (fun _ => [])) (ann := A_cmp_Compare_string) (args := [(Value.string g0_x), (Value.string g1_y)]) mixedPP Try.func37 (c := bodyOf Try.f37) (by kernel_rfl) (by kernel_rfl) (by kernel_rfl) (Eq.mpr (E_cmp_Compare_string g0_x g1_y h Q) H)
def F_name_Names_All_1 (g0_a_0 : ByteArray) (g0_a_1 : Sl) (g0_a_2 : Int) (g1_b_0 : ByteArray) (g1_b_1 : Sl) (g1_b_2 : Int) (h : Hp) (Q : List Value → Hp → Prop) : Prop :=
wth (Array.push h (Obj.cells #[(Value.string g0_a_0), (Value.slice g0_a_1.a g0_a_1.n g0_a_1.c), (Value.int .i64 g0_a_2)] T_api_Table)) fun h1 =>
wth (Array.push h1 (Obj.cells #[(Value.string g1_b_0), (Value.slice g1_b_1.a g1_b_1.n g1_b_1.c), (Value.int .i64 g1_b_2)] T_api_Table)) fun h2 =>
∃ s3 : ByteArray, rd h2 (Addr.add (Addr.mk (Array.size h) 0 none) 0) = some (Value.string s3) ∧
∃ s4 : ByteArray, rd h2 (Addr.add (Addr.mk (Array.size h1) 0 none) 0) = some (Value.string s4) ∧
S_cmp_Compare_string s3 s4 h2 fun (vs5 : List Value) (h6 : Hp) =>
∃ n7 : Int, vs5 = [(Value.int .i64 n7)] ∧
Q [(Value.int .i64 n7)] h6
def A_name_Names_All_1 : Ann := .nil
theorem E_name_Names_All_1 (g0_a_0 : ByteArray) (g0_a_1 : Sl) (g0_a_2 : Int) (g1_b_0 : ByteArray) (g1_b_1 : Sl) (g1_b_2 : Int) (h : Hp) (Q : List Value → Hp → Prop) : cw PP 10 (fun _ => []) (bodyOf Try.f36) A_name_Names_All_1 (finQ PP (Try.f36.results.toList) Q) (argFr [(Value.agg #[(Value.string g0_a_0), (Value.slice g0_a_1.a g0_a_1.n g0_a_1.c), (Value.int .i64 g0_a_2)]), (Value.agg #[(Value.string g1_b_0), (Value.slice g1_b_1.a g1_b_1.n g1_b_1.c), (Value.int .i64 g1_b_2)])]) h = F_name_Names_All_1 g0_a_0 g0_a_1 g0_a_2 g1_b_0 g1_b_1 g1_b_2 h Q := by kernel_rfl
theorem O_name_Names_All_1 (g0_a_0 : ByteArray) (g0_a_1 : Sl) (g0_a_2 : Int) (g1_b_0 : ByteArray) (g1_b_1 : Sl) (g1_b_2 : Int) {h : Hp} {Q : List Value → Hp → Prop} (H : F_name_Names_All_1 g0_a_0 g0_a_1 g0_a_2 g1_b_0 g1_b_1 g1_b_2 h Q) : S_name_Names_All_1 g0_a_0 g0_a_1 g0_a_2 g1_b_0 g1_b_1 g1_b_2 h Q :=
  fn_of_cw (hs := (fun _ => [])) (ann := A_name_Names_All_1) (args := [(Value.agg #[(Value.string g0_a_0), (Value.slice g0_a_1.a g0_a_1.n g0_a_1.c), (Value.int .i64 g0_a_2)]), (Value.agg #[(Value.string g1_b_0), (Value.slice g1_b_1.a g1_b_1.n g1_b_1.c), (Value.int .i64 g1_b_2)])]) mixedPP Try.func36 (c := bodyOf Try.f36) (by kernel_rfl) (by kernel_rfl) (by kernel_rfl) (Eq.mpr (E_name_Names_All_1 g0_a_0 g0_a_1 g0_a_2 g1_b_0 g1_b_1 g1_b_2 h Q) H)
def F_maps_Keys_map_int_int_int_int_1 (g0_yield_f : Nat) (g0_yield_c : Array Value) (g1_x : Addr) (h : Hp) (Q : List Value → Hp → Prop) : Prop :=
∃ r1 : Option Nat, rd h g1_x = some (Value.map r1) ∧
∃ o2 : Obj, IterOf h r1 o2 ∧ wth (Array.push h o2) fun h3 =>
∀ X4 : List Value → Hp → Prop, (∀ h5 : Hp, ((Addr.off (Addr.mk (Array.size h) 0 none) = 0 ∧ ∃ o6 : Obj, h5[Addr.block (Addr.mk (Array.size h) 0 none)]? = some o6 ∧ IterGood h5 o6 ∧
      (IterEnd h5 o6 → Q [] h5) ∧
      ∀ (k7 v8 : Value) (o9 : Obj), IterStep h5 o6 k7 v8 o9 → wth (Array.setIfInBounds h5 (Addr.block (Addr.mk (Array.size h) 0 none)) o9) fun h10 =>
      (Addr.off (Addr.mk (Array.size h) 0 none) = 0 ∧ ∃ (m11 n12 : Nat) (q13 : Array Nat) (n14 : Nat) (es15 : Array MapEntry) (c16 : Nat) (e17 : MapEntry), h10[Addr.block (Addr.mk (Array.size h) 0 none)]? = some (.mapIter (some m11) n12 q13 c16) ∧ Array.back? q13 = some n14 ∧ h10[m11]? = some (.map es15 c16) ∧ Array.find? (fun x => x.born == n14) es15 = some e17 ∧ ∃ n18 : Int, e17.key = (Value.int .i64 n18) ∧ ∃ v19 : Value, e17.val = v19 ∧ Fn PP g0_yield_f ((#[] ++ #[(Value.int .i64 n18)]) ++ g0_yield_c) h10 fun (vs20 : List Value) (h21 : Hp) =>
        ∃ b22 : Bool, vs20 = [(Value.bool b22)] ∧
        (if (!b22) = true then
          (Q [] h21) else
          (X4 [] h21))))) → X4 [] h5) →
X4 [] h3
def A_maps_Keys_map_int_int_int_int_1 : Ann := (.mk none ⟨[], []⟩ .nil (.mk none ⟨[], []⟩ (.mk none ⟨[0, 5], []⟩ .nil .nil) .nil))
theorem E_maps_Keys_map_int_int_int_int_1 (g0_yield_f : Nat) (g0_yield_c : Array Value) (g1_x : Addr) (h : Hp) (Q : List Value → Hp → Prop) : cw PP 14 (fun d => if d = 8 then [(.c (.int .i64)), (.c .any)] else []) (bodyOf Try.f47) A_maps_Keys_map_int_int_int_int_1 (finQ PP (Try.f47.results.toList) Q) (argFr [(Value.func (.func g0_yield_f) #[] g0_yield_c), (Value.pointer (some g1_x))]) h = F_maps_Keys_map_int_int_int_int_1 g0_yield_f g0_yield_c g1_x h Q := by kernel_rfl
theorem O_maps_Keys_map_int_int_int_int_1 (g0_yield_f : Nat) (g0_yield_c : Array Value) (g1_x : Addr) {h : Hp} {Q : List Value → Hp → Prop} (H : F_maps_Keys_map_int_int_int_int_1 g0_yield_f g0_yield_c g1_x h Q) : S_maps_Keys_map_int_int_int_int_1 g0_yield_f g0_yield_c g1_x h Q :=
  fn_of_cw (hs := (fun d => if d = 8 then [(.c (.int .i64)), (.c .any)] else [])) (ann := A_maps_Keys_map_int_int_int_int_1) (args := [(Value.func (.func g0_yield_f) #[] g0_yield_c), (Value.pointer (some g1_x))]) mixedPP Try.func47 (c := bodyOf Try.f47) (by kernel_rfl) (by kernel_rfl) (by kernel_rfl) (Eq.mpr (E_maps_Keys_map_int_int_int_int_1 g0_yield_f g0_yield_c g1_x h Q) H)
def F_name_Names_others_1 (g0_v_0 : Int) (g0_v_1 : Int) (g0_v_2 : ByteArray) (g0_v_3 : Sl) (g0_v_4 : Int) (g1_x : Addr) (g2_x : Addr) (h : Hp) (Q : List Value → Hp → Prop) : Prop :=
wth (Array.push h (Obj.cells #[(Value.int .i64 g0_v_0), (Value.int .i64 g0_v_1), (Value.string g0_v_2), (Value.slice g0_v_3.a g0_v_3.n g0_v_3.c), (Value.int .i64 g0_v_4)] T_name_version)) fun h1 =>
∀ J2 : List Value → Hp → Prop, (∀ b3 : Bool, ∀ h4 : Hp, (∃ p5 : Option Addr, rd h4 g1_x = some (Value.pointer p5) ∧
    ∃ n6 : Int, rd h4 (Addr.add (Addr.mk (Array.size h) 0 none) 0) = some (Value.int .i64 n6) ∧
    S_clog_Log_State p5 n6 h4 fun (vs7 : List Value) (h8 : Hp) =>
    ∃ n9 : Int, vs7 = [(Value.int .i64 n9)] ∧
    (if (n9 != (3 : Int)) = true then (Q [(Value.bool (!b3))] h8) else
      (Q [(Value.bool false)] h8))) → J2 [(Value.bool b3)] h4) →
∃ n10 : Int, rd h1 (Addr.add (Addr.mk (Array.size h) 0 none) 1) = some (Value.int .i64 n10) ∧
(if (n10 != (0 : Int)) = true then (∃ p11 : Option Addr, rd h1 g1_x = some (Value.pointer p11) ∧
    ∃ n12 : Int, rd h1 (Addr.add (Addr.mk (Array.size h) 0 none) 1) = some (Value.int .i64 n12) ∧
    S_clog_Log_State p11 n12 h1 fun (vs13 : List Value) (h14 : Hp) =>
    ∃ n15 : Int, vs13 = [(Value.int .i64 n15)] ∧
    (if (n15 == (2 : Int)) = true then (∃ p16 : Option Addr, rd h14 g1_x = some (Value.pointer p16) ∧
        ∃ n17 : Int, rd h14 g2_x = some (Value.int .i64 n17) ∧
        ∃ n18 : Int, rd h14 (Addr.add (Addr.mk (Array.size h) 0 none) 1) = some (Value.int .i64 n18) ∧
        S_clog_Log_Sees p16 n17 n18 h14 fun (vs19 : List Value) (h20 : Hp) =>
        ∃ b21 : Bool, vs19 = [(Value.bool b21)] ∧
        J2 [(Value.bool b21)] h20) else
      (J2 [(Value.bool false)] h14))) else
  (J2 [(Value.bool false)] h1))
def A_name_Names_others_1 : Ann := (.mk none ⟨[], []⟩ .nil (.mk none ⟨[], []⟩ (.mk (some ⟨[1, 3], [(5, (.c .bool))]⟩) ⟨[], []⟩ .nil .nil) .nil))
theorem E_name_Names_others_1 (g0_v_0 : Int) (g0_v_1 : Int) (g0_v_2 : ByteArray) (g0_v_3 : Sl) (g0_v_4 : Int) (g1_x : Addr) (g2_x : Addr) (h : Hp) (Q : List Value → Hp → Prop) : cw PP 32 (fun _ => []) (bodyOf Try.f51) A_name_Names_others_1 (finQ PP (Try.f51.results.toList) Q) (argFr [(Value.agg #[(Value.int .i64 g0_v_0), (Value.int .i64 g0_v_1), (Value.string g0_v_2), (Value.slice g0_v_3.a g0_v_3.n g0_v_3.c), (Value.int .i64 g0_v_4)]), (Value.pointer (some g1_x)), (Value.pointer (some g2_x))]) h = F_name_Names_others_1 g0_v_0 g0_v_1 g0_v_2 g0_v_3 g0_v_4 g1_x g2_x h Q := by kernel_rfl
theorem O_name_Names_others_1 (g0_v_0 : Int) (g0_v_1 : Int) (g0_v_2 : ByteArray) (g0_v_3 : Sl) (g0_v_4 : Int) (g1_x : Addr) (g2_x : Addr) {h : Hp} {Q : List Value → Hp → Prop} (H : F_name_Names_others_1 g0_v_0 g0_v_1 g0_v_2 g0_v_3 g0_v_4 g1_x g2_x h Q) : S_name_Names_others_1 g0_v_0 g0_v_1 g0_v_2 g0_v_3 g0_v_4 g1_x g2_x h Q :=
  fn_of_cw (hs := (fun _ => [])) (ann := A_name_Names_others_1) (args := [(Value.agg #[(Value.int .i64 g0_v_0), (Value.int .i64 g0_v_1), (Value.string g0_v_2), (Value.slice g0_v_3.a g0_v_3.n g0_v_3.c), (Value.int .i64 g0_v_4)]), (Value.pointer (some g1_x)), (Value.pointer (some g2_x))]) mixedPP Try.func51 (c := bodyOf Try.f51) (by kernel_rfl) (by kernel_rfl) (by kernel_rfl) (Eq.mpr (E_name_Names_others_1 g0_v_0 g0_v_1 g0_v_2 g0_v_3 g0_v_4 g1_x g2_x h Q) H)
def F_row_Find_1 (g0_c_0 : ByteArray) (g0_c_1 : Int) (g0_c_2 : Bool) (g0_c_3 : Int) (g0_c_4 : Int) (g0_c_5 : Nat) (g0_c_6 : ByteArray) (g1_x : Addr) (h : Hp) (Q : List Value → Hp → Prop) : Prop :=
wth (Array.push h (Obj.cells #[(Value.string g0_c_0), (Value.int .i64 g0_c_1), (Value.bool g0_c_2), (Value.int .i64 g0_c_3), (Value.int .i64 g0_c_4), (Value.float .f64 g0_c_5), (Value.string g0_c_6)] T_api_Column)) fun h1 =>
∃ s2 : ByteArray, rd h1 (Addr.add (Addr.mk (Array.size h) 0 none) 0) = some (Value.string s2) ∧
∃ s3 : ByteArray, rd h1 g1_x = some (Value.string s3) ∧
Q [(Value.bool ((ByteArray.toList s2) == (ByteArray.toList s3)))] h1
def A_row_Find_1 : Ann := .nil
theorem E_row_Find_1 (g0_c_0 : ByteArray) (g0_c_1 : Int) (g0_c_2 : Bool) (g0_c_3 : Int) (g0_c_4 : Int) (g0_c_5 : Nat) (g0_c_6 : ByteArray) (g1_x : Addr) (h : Hp) (Q : List Value → Hp → Prop) : cw PP 8 (fun _ => []) (bodyOf Try.f61) A_row_Find_1 (finQ PP (Try.f61.results.toList) Q) (argFr [(Value.agg #[(Value.string g0_c_0), (Value.int .i64 g0_c_1), (Value.bool g0_c_2), (Value.int .i64 g0_c_3), (Value.int .i64 g0_c_4), (Value.float .f64 g0_c_5), (Value.string g0_c_6)]), (Value.pointer (some g1_x))]) h = F_row_Find_1 g0_c_0 g0_c_1 g0_c_2 g0_c_3 g0_c_4 g0_c_5 g0_c_6 g1_x h Q := by kernel_rfl
theorem O_row_Find_1 (g0_c_0 : ByteArray) (g0_c_1 : Int) (g0_c_2 : Bool) (g0_c_3 : Int) (g0_c_4 : Int) (g0_c_5 : Nat) (g0_c_6 : ByteArray) (g1_x : Addr) {h : Hp} {Q : List Value → Hp → Prop} (H : F_row_Find_1 g0_c_0 g0_c_1 g0_c_2 g0_c_3 g0_c_4 g0_c_5 g0_c_6 g1_x h Q) : S_row_Find_1 g0_c_0 g0_c_1 g0_c_2 g0_c_3 g0_c_4 g0_c_5 g0_c_6 g1_x h Q :=
  fn_of_cw (hs := (fun _ => [])) (ann := A_row_Find_1) (args := [(Value.agg #[(Value.string g0_c_0), (Value.int .i64 g0_c_1), (Value.bool g0_c_2), (Value.int .i64 g0_c_3), (Value.int .i64 g0_c_4), (Value.float .f64 g0_c_5), (Value.string g0_c_6)]), (Value.pointer (some g1_x))]) mixedPP Try.func61 (c := bodyOf Try.f61) (by kernel_rfl) (by kernel_rfl) (by kernel_rfl) (Eq.mpr (E_row_Find_1 g0_c_0 g0_c_1 g0_c_2 g0_c_3 g0_c_4 g0_c_5 g0_c_6 g1_x h Q) H)
def F_value_own_bare (g0_v_0 : Int) (g0_v_1 : Int) (g0_v_2 : Nat) (g0_v_3 : ByteArray) (g1_n : Bool) (g2_f : Bool) (g3_s : Bool) (h : Hp) (Q : List Value → Hp → Prop) : Prop :=
wth (Array.push h (Obj.cells #[(Value.int .i64 g0_v_0), (Value.int .i64 g0_v_1), (Value.float .f64 g0_v_2), (Value.string g0_v_3)] T_value_own)) fun h1 =>
(if g1_n = true then ((if g2_f = true then ((if g3_s = true then (Q [(Value.bool true)] h1) else
          (∃ s2 : ByteArray, rd h1 (Addr.add (Addr.mk (Array.size h) 0 none) 3) = some (Value.string s2) ∧
            Q [(Value.bool ((ByteArray.toList s2) == (ByteArray.toList (ByteArray.mk #[]))))] h1))) else
      (∃ x3 : Nat, rd h1 (Addr.add (Addr.mk (Array.size h) 0 none) 2) = some (Value.float .f64 x3) ∧
        S_math_Float64bits x3 h1 fun (vs4 : List Value) (h5 : Hp) =>
        ∃ n6 : Int, vs4 = [(Value.int .u64 n6)] ∧
        (if (n6 == (0 : Int)) = true then ((if g3_s = true then (Q [(Value.bool true)] h5) else
              (∃ s7 : ByteArray, rd h5 (Addr.add (Addr.mk (Array.size h) 0 none) 3) = some (Value.string s7) ∧
                Q [(Value.bool ((ByteArray.toList s7) == (ByteArray.toList (ByteArray.mk #[]))))] h5))) else
          (Q [(Value.bool false)] h5))))) else
  (∃ n8 : Int, rd h1 (Addr.add (Addr.mk (Array.size h) 0 none) 1) = some (Value.int .i64 n8) ∧
    (if (n8 == (0 : Int)) = true then ((if g2_f = true then ((if g3_s = true then (Q [(Value.bool true)] h1) else
              (∃ s9 : ByteArray, rd h1 (Addr.add (Addr.mk (Array.size h) 0 none) 3) = some (Value.string s9) ∧
                Q [(Value.bool ((ByteArray.toList s9) == (ByteArray.toList (ByteArray.mk #[]))))] h1))) else
          (∃ x10 : Nat, rd h1 (Addr.add (Addr.mk (Array.size h) 0 none) 2) = some (Value.float .f64 x10) ∧
            S_math_Float64bits x10 h1 fun (vs11 : List Value) (h12 : Hp) =>
            ∃ n13 : Int, vs11 = [(Value.int .u64 n13)] ∧
            (if (n13 == (0 : Int)) = true then ((if g3_s = true then (Q [(Value.bool true)] h12) else
                  (∃ s14 : ByteArray, rd h12 (Addr.add (Addr.mk (Array.size h) 0 none) 3) = some (Value.string s14) ∧
                    Q [(Value.bool ((ByteArray.toList s14) == (ByteArray.toList (ByteArray.mk #[]))))] h12))) else
              (Q [(Value.bool false)] h12))))) else
      (Q [(Value.bool false)] h1))))
def A_value_own_bare : Ann := .nil
theorem E_value_own_bare (g0_v_0 : Int) (g0_v_1 : Int) (g0_v_2 : Nat) (g0_v_3 : ByteArray) (g1_n : Bool) (g2_f : Bool) (g3_s : Bool) (h : Hp) (Q : List Value → Hp → Prop) : cw PP 32 (fun _ => []) (bodyOf Try.f98) A_value_own_bare (finQ PP (Try.f98.results.toList) Q) (argFr [(Value.agg #[(Value.int .i64 g0_v_0), (Value.int .i64 g0_v_1), (Value.float .f64 g0_v_2), (Value.string g0_v_3)]), (Value.bool g1_n), (Value.bool g2_f), (Value.bool g3_s)]) h = F_value_own_bare g0_v_0 g0_v_1 g0_v_2 g0_v_3 g1_n g2_f g3_s h Q := by kernel_rfl
theorem O_value_own_bare (g0_v_0 : Int) (g0_v_1 : Int) (g0_v_2 : Nat) (g0_v_3 : ByteArray) (g1_n : Bool) (g2_f : Bool) (g3_s : Bool) {h : Hp} {Q : List Value → Hp → Prop} (H : F_value_own_bare g0_v_0 g0_v_1 g0_v_2 g0_v_3 g1_n g2_f g3_s h Q) : S_value_own_bare g0_v_0 g0_v_1 g0_v_2 g0_v_3 g1_n g2_f g3_s h Q :=
  fn_of_cw (hs := (fun _ => [])) (ann := A_value_own_bare) (args := [(Value.agg #[(Value.int .i64 g0_v_0), (Value.int .i64 g0_v_1), (Value.float .f64 g0_v_2), (Value.string g0_v_3)]), (Value.bool g1_n), (Value.bool g2_f), (Value.bool g3_s)]) mixedPP Try.func98 (c := bodyOf Try.f98) (by kernel_rfl) (by kernel_rfl) (by kernel_rfl) (Eq.mpr (E_value_own_bare g0_v_0 g0_v_1 g0_v_2 g0_v_3 g1_n g2_f g3_s h Q) H)
def F_value_own_null (g0_v_0 : Int) (g0_v_1 : Int) (g0_v_2 : Nat) (g0_v_3 : ByteArray) (h : Hp) (Q : List Value → Hp → Prop) : Prop :=
wth (Array.push h (Obj.cells #[(Value.int .i64 g0_v_0), (Value.int .i64 g0_v_1), (Value.float .f64 g0_v_2), (Value.string g0_v_3)] T_value_own)) fun h1 =>
∃ n2 : Int, rd h1 (Addr.add (Addr.mk (Array.size h) 0 none) 0) = some (Value.int .i64 n2) ∧ ∃ n3 : Int, rd h1 (Addr.add (Addr.mk (Array.size h) 0 none) 1) = some (Value.int .i64 n3) ∧ ∃ x4 : Nat, rd h1 (Addr.add (Addr.mk (Array.size h) 0 none) 2) = some (Value.float .f64 x4) ∧ ∃ s5 : ByteArray, rd h1 (Addr.add (Addr.mk (Array.size h) 0 none) 3) = some (Value.string s5) ∧ S_value_own_bare n2 n3 x4 s5 false false false h1 fun (vs6 : List Value) (h7 : Hp) =>
∃ b8 : Bool, vs6 = [(Value.bool b8)] ∧
Q [(Value.bool b8)] h7
def A_value_own_null : Ann := .nil
theorem E_value_own_null (g0_v_0 : Int) (g0_v_1 : Int) (g0_v_2 : Nat) (g0_v_3 : ByteArray) (h : Hp) (Q : List Value → Hp → Prop) : cw PP 5 (fun _ => []) (bodyOf Try.f83) A_value_own_null (finQ PP (Try.f83.results.toList) Q) (argFr [(Value.agg #[(Value.int .i64 g0_v_0), (Value.int .i64 g0_v_1), (Value.float .f64 g0_v_2), (Value.string g0_v_3)])]) h = F_value_own_null g0_v_0 g0_v_1 g0_v_2 g0_v_3 h Q := by kernel_rfl
theorem O_value_own_null (g0_v_0 : Int) (g0_v_1 : Int) (g0_v_2 : Nat) (g0_v_3 : ByteArray) {h : Hp} {Q : List Value → Hp → Prop} (H : F_value_own_null g0_v_0 g0_v_1 g0_v_2 g0_v_3 h Q) : S_value_own_null g0_v_0 g0_v_1 g0_v_2 g0_v_3 h Q :=
  fn_of_cw (hs := (fun _ => [])) (ann := A_value_own_null) (args := [(Value.agg #[(Value.int .i64 g0_v_0), (Value.int .i64 g0_v_1), (Value.float .f64 g0_v_2), (Value.string g0_v_3)])]) mixedPP Try.func83 (c := bodyOf Try.f83) (by kernel_rfl) (by kernel_rfl) (by kernel_rfl) (Eq.mpr (E_value_own_null g0_v_0 g0_v_1 g0_v_2 g0_v_3 h Q) H)
def F_value_own_bool (g0_v_0 : Int) (g0_v_1 : Int) (g0_v_2 : Nat) (g0_v_3 : ByteArray) (h : Hp) (Q : List Value → Hp → Prop) : Prop :=
wth (Array.push h (Obj.cells #[(Value.int .i64 g0_v_0), (Value.int .i64 g0_v_1), (Value.float .f64 g0_v_2), (Value.string g0_v_3)] T_value_own)) fun h1 =>
∃ n2 : Int, rd h1 (Addr.add (Addr.mk (Array.size h) 0 none) 0) = some (Value.int .i64 n2) ∧ ∃ n3 : Int, rd h1 (Addr.add (Addr.mk (Array.size h) 0 none) 1) = some (Value.int .i64 n3) ∧ ∃ x4 : Nat, rd h1 (Addr.add (Addr.mk (Array.size h) 0 none) 2) = some (Value.float .f64 x4) ∧ ∃ s5 : ByteArray, rd h1 (Addr.add (Addr.mk (Array.size h) 0 none) 3) = some (Value.string s5) ∧ S_value_own_bare n2 n3 x4 s5 true false false h1 fun (vs6 : List Value) (h7 : Hp) =>
∃ b8 : Bool, vs6 = [(Value.bool b8)] ∧
(if b8 = true then (∃ n9 : Int, rd h7 (Addr.add (Addr.mk (Array.size h) 0 none) 1) = some (Value.int .i64 n9) ∧
    (if (n9 == (0 : Int)) = true then (Q [(Value.bool true)] h7) else
      (∃ n10 : Int, rd h7 (Addr.add (Addr.mk (Array.size h) 0 none) 1) = some (Value.int .i64 n10) ∧
        Q [(Value.bool (n10 == (1 : Int)))] h7))) else
  (Q [(Value.bool false)] h7))
def A_value_own_bool : Ann := .nil
theorem E_value_own_bool (g0_v_0 : Int) (g0_v_1 : Int) (g0_v_2 : Nat) (g0_v_3 : ByteArray) (h : Hp) (Q : List Value → Hp → Prop) : cw PP 15 (fun _ => []) (bodyOf Try.f84) A_value_own_bool (finQ PP (Try.f84.results.toList) Q) (argFr [(Value.agg #[(Value.int .i64 g0_v_0), (Value.int .i64 g0_v_1), (Value.float .f64 g0_v_2), (Value.string g0_v_3)])]) h = F_value_own_bool g0_v_0 g0_v_1 g0_v_2 g0_v_3 h Q := by kernel_rfl
theorem O_value_own_bool (g0_v_0 : Int) (g0_v_1 : Int) (g0_v_2 : Nat) (g0_v_3 : ByteArray) {h : Hp} {Q : List Value → Hp → Prop} (H : F_value_own_bool g0_v_0 g0_v_1 g0_v_2 g0_v_3 h Q) : S_value_own_bool g0_v_0 g0_v_1 g0_v_2 g0_v_3 h Q :=
  fn_of_cw (hs := (fun _ => [])) (ann := A_value_own_bool) (args := [(Value.agg #[(Value.int .i64 g0_v_0), (Value.int .i64 g0_v_1), (Value.float .f64 g0_v_2), (Value.string g0_v_3)])]) mixedPP Try.func84 (c := bodyOf Try.f84) (by kernel_rfl) (by kernel_rfl) (by kernel_rfl) (Eq.mpr (E_value_own_bool g0_v_0 g0_v_1 g0_v_2 g0_v_3 h Q) H)
def F_value_own_int (g0_v_0 : Int) (g0_v_1 : Int) (g0_v_2 : Nat) (g0_v_3 : ByteArray) (h : Hp) (Q : List Value → Hp → Prop) : Prop :=
wth (Array.push h (Obj.cells #[(Value.int .i64 g0_v_0), (Value.int .i64 g0_v_1), (Value.float .f64 g0_v_2), (Value.string g0_v_3)] T_value_own)) fun h1 =>
∃ n2 : Int, rd h1 (Addr.add (Addr.mk (Array.size h) 0 none) 0) = some (Value.int .i64 n2) ∧ ∃ n3 : Int, rd h1 (Addr.add (Addr.mk (Array.size h) 0 none) 1) = some (Value.int .i64 n3) ∧ ∃ x4 : Nat, rd h1 (Addr.add (Addr.mk (Array.size h) 0 none) 2) = some (Value.float .f64 x4) ∧ ∃ s5 : ByteArray, rd h1 (Addr.add (Addr.mk (Array.size h) 0 none) 3) = some (Value.string s5) ∧ S_value_own_bare n2 n3 x4 s5 true false false h1 fun (vs6 : List Value) (h7 : Hp) =>
∃ b8 : Bool, vs6 = [(Value.bool b8)] ∧
Q [(Value.bool b8)] h7
def A_value_own_int : Ann := .nil
theorem E_value_own_int (g0_v_0 : Int) (g0_v_1 : Int) (g0_v_2 : Nat) (g0_v_3 : ByteArray) (h : Hp) (Q : List Value → Hp → Prop) : cw PP 5 (fun _ => []) (bodyOf Try.f85) A_value_own_int (finQ PP (Try.f85.results.toList) Q) (argFr [(Value.agg #[(Value.int .i64 g0_v_0), (Value.int .i64 g0_v_1), (Value.float .f64 g0_v_2), (Value.string g0_v_3)])]) h = F_value_own_int g0_v_0 g0_v_1 g0_v_2 g0_v_3 h Q := by kernel_rfl
theorem O_value_own_int (g0_v_0 : Int) (g0_v_1 : Int) (g0_v_2 : Nat) (g0_v_3 : ByteArray) {h : Hp} {Q : List Value → Hp → Prop} (H : F_value_own_int g0_v_0 g0_v_1 g0_v_2 g0_v_3 h Q) : S_value_own_int g0_v_0 g0_v_1 g0_v_2 g0_v_3 h Q :=
  fn_of_cw (hs := (fun _ => [])) (ann := A_value_own_int) (args := [(Value.agg #[(Value.int .i64 g0_v_0), (Value.int .i64 g0_v_1), (Value.float .f64 g0_v_2), (Value.string g0_v_3)])]) mixedPP Try.func85 (c := bodyOf Try.f85) (by kernel_rfl) (by kernel_rfl) (by kernel_rfl) (Eq.mpr (E_value_own_int g0_v_0 g0_v_1 g0_v_2 g0_v_3 h Q) H)
def F_float_Canon (g0_f : Nat) (h : Hp) (Q : List Value → Hp → Prop) : Prop :=
(if ((FloatKind.format .f64).order g0_f g0_f != some .eq) = true then
  (S_math_Float64frombits (9221120237041090560 : Int) h fun (vs1 : List Value) (h2 : Hp) =>
    ∃ x3 : Nat, vs1 = [(Value.float .f64 x3)] ∧
    Q [(Value.float .f64 x3)] h2) else
  ((if ((FloatKind.format .f64).order g0_f 0 == some .eq) = true then
      (Q [(Value.float .f64 0)] h) else
      (Q [(Value.float .f64 g0_f)] h))))
def A_float_Canon : Ann := .nil
theorem E_float_Canon (g0_f : Nat) (h : Hp) (Q : List Value → Hp → Prop) : cw PP 12 (fun _ => []) (bodyOf Try.f102) A_float_Canon (finQ PP (Try.f102.results.toList) Q) (argFr [(Value.float .f64 g0_f)]) h = F_float_Canon g0_f h Q := by kernel_rfl
theorem O_float_Canon (g0_f : Nat) {h : Hp} {Q : List Value → Hp → Prop} (H : F_float_Canon g0_f h Q) : S_float_Canon g0_f h Q :=
  fn_of_cw (hs := (fun _ => [])) (ann := A_float_Canon) (args := [(Value.float .f64 g0_f)]) mixedPP Try.func102 (c := bodyOf Try.f102) (by kernel_rfl) (by kernel_rfl) (by kernel_rfl) (Eq.mpr (E_float_Canon g0_f h Q) H)
def F_float_Is (g0_f : Nat) (h : Hp) (Q : List Value → Hp → Prop) : Prop :=
S_math_Float64bits g0_f h fun (vs1 : List Value) (h2 : Hp) =>
∃ n3 : Int, vs1 = [(Value.int .u64 n3)] ∧
S_float_Canon g0_f h2 fun (vs4 : List Value) (h5 : Hp) =>
∃ x6 : Nat, vs4 = [(Value.float .f64 x6)] ∧
S_math_Float64bits x6 h5 fun (vs7 : List Value) (h8 : Hp) =>
∃ n9 : Int, vs7 = [(Value.int .u64 n9)] ∧
Q [(Value.bool (n3 == n9))] h8
def A_float_Is : Ann := .nil
theorem E_float_Is (g0_f : Nat) (h : Hp) (Q : List Value → Hp → Prop) : cw PP 9 (fun _ => []) (bodyOf Try.f99) A_float_Is (finQ PP (Try.f99.results.toList) Q) (argFr [(Value.float .f64 g0_f)]) h = F_float_Is g0_f h Q := by kernel_rfl
theorem O_float_Is (g0_f : Nat) {h : Hp} {Q : List Value → Hp → Prop} (H : F_float_Is g0_f h Q) : S_float_Is g0_f h Q :=
  fn_of_cw (hs := (fun _ => [])) (ann := A_float_Is) (args := [(Value.float .f64 g0_f)]) mixedPP Try.func99 (c := bodyOf Try.f99) (by kernel_rfl) (by kernel_rfl) (by kernel_rfl) (Eq.mpr (E_float_Is g0_f h Q) H)
def F_value_own_float (g0_v_0 : Int) (g0_v_1 : Int) (g0_v_2 : Nat) (g0_v_3 : ByteArray) (h : Hp) (Q : List Value → Hp → Prop) : Prop :=
wth (Array.push h (Obj.cells #[(Value.int .i64 g0_v_0), (Value.int .i64 g0_v_1), (Value.float .f64 g0_v_2), (Value.string g0_v_3)] T_value_own)) fun h1 =>
∃ n2 : Int, rd h1 (Addr.add (Addr.mk (Array.size h) 0 none) 0) = some (Value.int .i64 n2) ∧ ∃ n3 : Int, rd h1 (Addr.add (Addr.mk (Array.size h) 0 none) 1) = some (Value.int .i64 n3) ∧ ∃ x4 : Nat, rd h1 (Addr.add (Addr.mk (Array.size h) 0 none) 2) = some (Value.float .f64 x4) ∧ ∃ s5 : ByteArray, rd h1 (Addr.add (Addr.mk (Array.size h) 0 none) 3) = some (Value.string s5) ∧ S_value_own_bare n2 n3 x4 s5 false true false h1 fun (vs6 : List Value) (h7 : Hp) =>
∃ b8 : Bool, vs6 = [(Value.bool b8)] ∧
(if b8 = true then (∃ x9 : Nat, rd h7 (Addr.add (Addr.mk (Array.size h) 0 none) 2) = some (Value.float .f64 x9) ∧
    S_float_Is x9 h7 fun (vs10 : List Value) (h11 : Hp) =>
    ∃ b12 : Bool, vs10 = [(Value.bool b12)] ∧
    Q [(Value.bool b12)] h11) else
  (Q [(Value.bool false)] h7))
def A_value_own_float : Ann := .nil
theorem E_value_own_float (g0_v_0 : Int) (g0_v_1 : Int) (g0_v_2 : Nat) (g0_v_3 : ByteArray) (h : Hp) (Q : List Value → Hp → Prop) : cw PP 10 (fun _ => []) (bodyOf Try.f86) A_value_own_float (finQ PP (Try.f86.results.toList) Q) (argFr [(Value.agg #[(Value.int .i64 g0_v_0), (Value.int .i64 g0_v_1), (Value.float .f64 g0_v_2), (Value.string g0_v_3)])]) h = F_value_own_float g0_v_0 g0_v_1 g0_v_2 g0_v_3 h Q := by kernel_rfl
theorem O_value_own_float (g0_v_0 : Int) (g0_v_1 : Int) (g0_v_2 : Nat) (g0_v_3 : ByteArray) {h : Hp} {Q : List Value → Hp → Prop} (H : F_value_own_float g0_v_0 g0_v_1 g0_v_2 g0_v_3 h Q) : S_value_own_float g0_v_0 g0_v_1 g0_v_2 g0_v_3 h Q :=
  fn_of_cw (hs := (fun _ => [])) (ann := A_value_own_float) (args := [(Value.agg #[(Value.int .i64 g0_v_0), (Value.int .i64 g0_v_1), (Value.float .f64 g0_v_2), (Value.string g0_v_3)])]) mixedPP Try.func86 (c := bodyOf Try.f86) (by kernel_rfl) (by kernel_rfl) (by kernel_rfl) (Eq.mpr (E_value_own_float g0_v_0 g0_v_1 g0_v_2 g0_v_3 h Q) H)
def F_value_own_text (g0_v_0 : Int) (g0_v_1 : Int) (g0_v_2 : Nat) (g0_v_3 : ByteArray) (h : Hp) (Q : List Value → Hp → Prop) : Prop :=
wth (Array.push h (Obj.cells #[(Value.int .i64 g0_v_0), (Value.int .i64 g0_v_1), (Value.float .f64 g0_v_2), (Value.string g0_v_3)] T_value_own)) fun h1 =>
∃ n2 : Int, rd h1 (Addr.add (Addr.mk (Array.size h) 0 none) 0) = some (Value.int .i64 n2) ∧ ∃ n3 : Int, rd h1 (Addr.add (Addr.mk (Array.size h) 0 none) 1) = some (Value.int .i64 n3) ∧ ∃ x4 : Nat, rd h1 (Addr.add (Addr.mk (Array.size h) 0 none) 2) = some (Value.float .f64 x4) ∧ ∃ s5 : ByteArray, rd h1 (Addr.add (Addr.mk (Array.size h) 0 none) 3) = some (Value.string s5) ∧ S_value_own_bare n2 n3 x4 s5 false false true h1 fun (vs6 : List Value) (h7 : Hp) =>
∃ b8 : Bool, vs6 = [(Value.bool b8)] ∧
(if b8 = true then (∃ s9 : ByteArray, rd h7 (Addr.add (Addr.mk (Array.size h) 0 none) 3) = some (Value.string s9) ∧
    Q [(Value.bool (decide ((ByteArray.size s9 : Int) ≤ (256 : Int))))] h7) else
  (Q [(Value.bool false)] h7))
def A_value_own_text : Ann := .nil
theorem E_value_own_text (g0_v_0 : Int) (g0_v_1 : Int) (g0_v_2 : Nat) (g0_v_3 : ByteArray) (h : Hp) (Q : List Value → Hp → Prop) : cw PP 11 (fun _ => []) (bodyOf Try.f87) A_value_own_text (finQ PP (Try.f87.results.toList) Q) (argFr [(Value.agg #[(Value.int .i64 g0_v_0), (Value.int .i64 g0_v_1), (Value.float .f64 g0_v_2), (Value.string g0_v_3)])]) h = F_value_own_text g0_v_0 g0_v_1 g0_v_2 g0_v_3 h Q := by kernel_rfl
theorem O_value_own_text (g0_v_0 : Int) (g0_v_1 : Int) (g0_v_2 : Nat) (g0_v_3 : ByteArray) {h : Hp} {Q : List Value → Hp → Prop} (H : F_value_own_text g0_v_0 g0_v_1 g0_v_2 g0_v_3 h Q) : S_value_own_text g0_v_0 g0_v_1 g0_v_2 g0_v_3 h Q :=
  fn_of_cw (hs := (fun _ => [])) (ann := A_value_own_text) (args := [(Value.agg #[(Value.int .i64 g0_v_0), (Value.int .i64 g0_v_1), (Value.float .f64 g0_v_2), (Value.string g0_v_3)])]) mixedPP Try.func87 (c := bodyOf Try.f87) (by kernel_rfl) (by kernel_rfl) (by kernel_rfl) (Eq.mpr (E_value_own_text g0_v_0 g0_v_1 g0_v_2 g0_v_3 h Q) H)
end Go.Lift

/- Printed by lift.py: each Go function of this seat as a Prop over the heap, and that the Go code comes to it. -/
import Derived.Test.YtgmbhlfecbpclaaGreatDoorLvL
import Derived.Test.YtgmbhlfecbpclaaGreatDoorProg
set_option linter.unusedSimpArgs false
set_option linter.unusedVariables false
namespace Go.Lift
open Go Go.Proofs
set_option maxRecDepth 100000
noncomputable abbrev PP : Program := Tryz.prog
theorem mixedPP : PP.follows .mixedOrders = true := by kernel_rfl
def bodyOf (f : Func) : Code := f.body.getD .skip
abbrev T_int : TypeId := 3
abbrev T_uint8 : TypeId := 5
abbrev T_string : TypeId := 9
abbrev T_api_Value : TypeId := 24
abbrev T_api_Stmt : TypeId := 28
abbrev T_api_Reply : TypeId := 33
abbrev T_pssi_Ssi : TypeId := 46
abbrev T_api_Table : TypeId := 51
abbrev T_pclog_Log : TypeId := 56
abbrev T_pdefine_ground : TypeId := 59
abbrev T_define_ground : TypeId := 61
abbrev T_siread_Thing : TypeId := 70
abbrev T_api_Tuple : TypeId := 77
abbrev T_api_Column : TypeId := 84
abbrev T_table_Store : TypeId := 90
abbrev T_map_int_int : TypeId := 94
abbrev T_ssi_Ssi : TypeId := 96
abbrev T_name_version : TypeId := 101
abbrev T_name_Names : TypeId := 105
abbrev T_api_Index : TypeId := 116
abbrev T_table_Index : TypeId := 118
abbrev T_table_rel : TypeId := 136
abbrev T_map_int_api_Tuple : TypeId := 141
abbrev T_heap_Rel : TypeId := 143
abbrev T_clog_tx : TypeId := 147
abbrev T_clog_Log : TypeId := 157
abbrev T_ptable_entries : TypeId := 165
abbrev T_table_entries : TypeId := 169
abbrev T_2_int : TypeId := 174
abbrev T_edge_Edges : TypeId := 184
abbrev T_siread_Table : TypeId := 187
abbrev T_lock_Table : TypeId := 204
abbrev T_map_siread_Thing_int : TypeId := 210
abbrev T_leaf_Move : TypeId := 236
abbrev T_value_own : TypeId := 243
abbrev T_slices_xorshift : TypeId := 252
abbrev T_index_Index : TypeId := 263
abbrev T_pleaf_one : TypeId := 281
abbrev T_leaf_one : TypeId := 284
abbrev T_leaf_Leaves : TypeId := 287
abbrev T_strings_Builder : TypeId := 315
abbrev T_utf8_acceptRange : TypeId := 340
/-- main.main -/
def S_main_main (h : Hp) (Q : List Value → Hp → Prop) : Prop := Fn PP 0 #[] h Q
/-- gosem.cut -/
def S_gosem_cut (h : Hp) (Q : List Value → Hp → Prop) : Prop := Fn PP 1 #[] h Q
/-- gosem.cut.init -/
def S_gosem_cut_init (h : Hp) (Q : List Value → Hp → Prop) : Prop := Fn PP 2 #[] h Q
/-- livery/liverykeep.LargeValue -/
def S_liverykeep_LargeValue (g0_v_0 : Int) (g0_v_1 : Int) (g0_v_2 : Nat) (g0_v_3 : ByteArray) (h : Hp) (Q : List Value → Hp → Prop) : Prop := Fn PP 8 #[(Value.agg #[(Value.int .i64 g0_v_0), (Value.int .i64 g0_v_1), (Value.float .f64 g0_v_2), (Value.string g0_v_3)])] h Q
/-- livery/liverykeep.LargeRow -/
def S_liverykeep_LargeRow (g0_l : Sl) (h : Hp) (Q : List Value → Hp → Prop) : Prop := Fn PP 9 #[(Value.slice g0_l.a g0_l.n g0_l.c)] h Q
/-- livery/liverykeep.LargeColumns -/
def S_liverykeep_LargeColumns (g0_l : Sl) (h : Hp) (Q : List Value → Hp → Prop) : Prop := Fn PP 10 #[(Value.slice g0_l.a g0_l.n g0_l.c)] h Q
/-- livery/liverykeep.LargeStmt -/
def S_liverykeep_LargeStmt (g0_s_0 : Int) (g0_s_1 : ByteArray) (g0_s_2 : ByteArray) (g0_s_3 : ByteArray) (g0_s_4 : ByteArray) (g0_s_5 : Int) (g0_s_6 : Int) (g0_s_7 : Nat) (g0_s_8 : ByteArray) (g0_s_9 : Int) (g0_s_10 : Int) (g0_s_11 : Nat) (g0_s_12 : ByteArray) (g0_s_13 : Sl) (g0_s_14 : Sl) (g0_s_15 : Bool) (h : Hp) (Q : List Value → Hp → Prop) : Prop := Fn PP 4 #[(Value.agg #[(Value.int .i64 g0_s_0), (Value.string g0_s_1), (Value.string g0_s_2), (Value.string g0_s_3), (Value.string g0_s_4), (Value.int .i64 g0_s_5), (Value.int .i64 g0_s_6), (Value.float .f64 g0_s_7), (Value.string g0_s_8), (Value.int .i64 g0_s_9), (Value.int .i64 g0_s_10), (Value.float .f64 g0_s_11), (Value.string g0_s_12), (Value.slice g0_s_13.a g0_s_13.n g0_s_13.c), (Value.slice g0_s_14.a g0_s_14.n g0_s_14.c), (Value.bool g0_s_15)])] h Q
/-- (*livery/table.Store).Ssi -/
def S_table_Store_Ssi (g0_s : Option Addr) (h : Hp) (Q : List Value → Hp → Prop) : Prop := Fn PP 12 #[(Value.pointer g0_s)] h Q
/-- (*livery/table.Store).Names -/
def S_table_Store_Names (g0_s : Option Addr) (h : Hp) (Q : List Value → Hp → Prop) : Prop := Fn PP 15 #[(Value.pointer g0_s)] h Q
/-- (*livery/table.Store).Log -/
def S_table_Store_Log (g0_s : Option Addr) (h : Hp) (Q : List Value → Hp → Prop) : Prop := Fn PP 17 #[(Value.pointer g0_s)] h Q
/-- livery/define.told -/
def S_define_told (g0_err : Int) (g1_who : Int) (h : Hp) (Q : List Value → Hp → Prop) : Prop := Fn PP 18 #[(Value.int .i64 g0_err), (Value.int .i64 g1_who)] h Q
/-- (*livery/define.ground).doings -/
def S_define_ground_doings (g0_g : Option Addr) (h : Hp) (Q : List Value → Hp → Prop) : Prop := Fn PP 19 #[(Value.pointer g0_g)] h Q
/-- (*livery/clog.Log).get -/
def S_clog_Log_get (g0_l : Option Addr) (g1_xid : Int) (h : Hp) (Q : List Value → Hp → Prop) : Prop := Fn PP 104 #[(Value.pointer g0_l), (Value.int .i64 g1_xid)] h Q
/-- (*livery/clog.Log).one -/
def S_clog_Log_one (g0_l : Option Addr) (g1_xid : Int) (h : Hp) (Q : List Value → Hp → Prop) : Prop := Fn PP 77 #[(Value.pointer g0_l), (Value.int .i64 g1_xid)] h Q
/-- (*livery/clog.Log).State -/
def S_clog_Log_State (g0_l : Option Addr) (g1_xid : Int) (h : Hp) (Q : List Value → Hp → Prop) : Prop := Fn PP 30 #[(Value.pointer g0_l), (Value.int .i64 g1_xid)] h Q
/-- (*livery/clog.Log).Sees -/
def S_clog_Log_Sees (g0_l : Option Addr) (g1_xid : Int) (g2_other : Int) (h : Hp) (Q : List Value → Hp → Prop) : Prop := Fn PP 60 #[(Value.pointer g0_l), (Value.int .i64 g1_xid), (Value.int .i64 g2_other)] h Q
/-- (livery/name.version).sees -/
def S_name_version_sees (g0_v_0 : Int) (g0_v_1 : Int) (g0_v_2 : ByteArray) (g0_v_3 : Sl) (g0_v_4 : Int) (g1_l : Option Addr) (g2_xid : Int) (h : Hp) (Q : List Value → Hp → Prop) : Prop := Fn PP 85 #[(Value.agg #[(Value.int .i64 g0_v_0), (Value.int .i64 g0_v_1), (Value.string g0_v_2), (Value.slice g0_v_3.a g0_v_3.n g0_v_3.c), (Value.int .i64 g0_v_4)]), (Value.pointer g1_l), (Value.int .i64 g2_xid)] h Q
/-- (*livery/name.Names).at -/
def S_name_Names_at (g0_n : Option Addr) (g1_l : Option Addr) (g2_xid : Int) (g3_name : ByteArray) (h : Hp) (Q : List Value → Hp → Prop) : Prop := Fn PP 38 #[(Value.pointer g0_n), (Value.pointer g1_l), (Value.int .i64 g2_xid), (Value.string g3_name)] h Q
/-- slices.Clone[[]livery/api.Column,livery/api.Column] -/
def S_slices_Clone_sapi_Column_api_Column (g0_s : Sl) (h : Hp) (Q : List Value → Hp → Prop) : Prop := Fn PP 86 #[(Value.slice g0_s.a g0_s.n g0_s.c)] h Q
/-- livery/name.copied -/
def S_name_copied (g0_t_0 : ByteArray) (g0_t_1 : Sl) (g0_t_2 : Int) (h : Hp) (Q : List Value → Hp → Prop) : Prop := Fn PP 39 #[(Value.agg #[(Value.string g0_t_0), (Value.slice g0_t_1.a g0_t_1.n g0_t_1.c), (Value.int .i64 g0_t_2)])] h Q
/-- (*livery/name.Names).See -/
def S_name_Names_See (g0_n : Option Addr) (g1_l : Option Addr) (g2_xid : Int) (g3_name : ByteArray) (h : Hp) (Q : List Value → Hp → Prop) : Prop := Fn PP 16 #[(Value.pointer g0_n), (Value.pointer g1_l), (Value.int .i64 g2_xid), (Value.string g3_name)] h Q
/-- (*livery/ssi.Ssi).runs -/
def S_ssi_Ssi_runs (g0_s : Option Addr) (g1_xid : Int) (h : Hp) (Q : List Value → Hp → Prop) : Prop := Fn PP 63 #[(Value.pointer g0_s), (Value.int .i64 g1_xid)] h Q
/-- (livery/siread.Thing).fine -/
def S_siread_Thing_fine (g0_x_0 : Int) (g0_x_1 : ByteArray) (g0_x_2 : Int) (g0_x_3 : ByteArray) (g0_x_4 : Int) (h : Hp) (Q : List Value → Hp → Prop) : Prop := Fn PP 106 #[(Value.agg #[(Value.int .i64 g0_x_0), (Value.string g0_x_1), (Value.int .i64 g0_x_2), (Value.string g0_x_3), (Value.int .i64 g0_x_4)])] h Q
/-- (livery/siread.Thing).rel -/
def S_siread_Thing_rel (g0_x_0 : Int) (g0_x_1 : ByteArray) (g0_x_2 : Int) (g0_x_3 : ByteArray) (g0_x_4 : Int) (h : Hp) (Q : List Value → Hp → Prop) : Prop := Fn PP 107 #[(Value.agg #[(Value.int .i64 g0_x_0), (Value.string g0_x_1), (Value.int .i64 g0_x_2), (Value.string g0_x_3), (Value.int .i64 g0_x_4)])] h Q
/-- (*livery/siread.Table).count -/
def S_siread_Table_count (g0_t : Option Addr) (g1_owner : Int) (g2_rel : Int) (h : Hp) (Q : List Value → Hp → Prop) : Prop := Fn PP 130 #[(Value.pointer g0_t), (Value.int .i64 g1_owner), (Value.int .i64 g2_rel)] h Q
/-- slices.AppendSeq[[]livery/siread.Thing,livery/siread.Thing] -/
def S_slices_AppendSeq_ssiread_Thing_siread_Thing (g0_s : Sl) (g1_seq_f : Nat) (g1_seq_c : Array Value) (h : Hp) (Q : List Value → Hp → Prop) : Prop := Fn PP 234 #[(Value.slice g0_s.a g0_s.n g0_s.c), (Value.func (.func g1_seq_f) #[] g1_seq_c)] h Q
/-- slices.Collect[livery/siread.Thing] -/
def S_slices_Collect_siread_Thing (g0_seq_f : Nat) (g0_seq_c : Array Value) (h : Hp) (Q : List Value → Hp → Prop) : Prop := Fn PP 216 #[(Value.func (.func g0_seq_f) #[] g0_seq_c)] h Q
/-- math/bits.Len64 -/
def S_math_bits_Len64 (g0_x : Int) (h : Hp) (Q : List Value → Hp → Prop) : Prop := Fn PP 157 #[(Value.int .u64 g0_x)] h Q
/-- math/bits.Len -/
def S_math_bits_Len (g0_x : Int) (h : Hp) (Q : List Value → Hp → Prop) : Prop := Fn PP 116 #[(Value.int .u64 g0_x)] h Q
/-- slices.insertionSortCmpFunc[livery/siread.Thing] -/
def S_slices_insertionSortCmpFunc_siread_Thing (g0_data : Sl) (g1_a : Int) (g2_b : Int) (g3_cmp_f : Nat) (g3_cmp_c : Array Value) (h : Hp) (Q : List Value → Hp → Prop) : Prop := Fn PP 244 #[(Value.slice g0_data.a g0_data.n g0_data.c), (Value.int .i64 g1_a), (Value.int .i64 g2_b), (Value.func (.func g3_cmp_f) #[] g3_cmp_c)] h Q
/-- slices.siftDownCmpFunc[livery/siread.Thing] -/
def S_slices_siftDownCmpFunc_siread_Thing (g0_data : Sl) (g1_lo : Int) (g2_hi : Int) (g3_first : Int) (g4_cmp_f : Nat) (g4_cmp_c : Array Value) (h : Hp) (Q : List Value → Hp → Prop) : Prop := Fn PP 259 #[(Value.slice g0_data.a g0_data.n g0_data.c), (Value.int .i64 g1_lo), (Value.int .i64 g2_hi), (Value.int .i64 g3_first), (Value.func (.func g4_cmp_f) #[] g4_cmp_c)] h Q
/-- slices.heapSortCmpFunc[livery/siread.Thing] -/
def S_slices_heapSortCmpFunc_siread_Thing (g0_data : Sl) (g1_a : Int) (g2_b : Int) (g3_cmp_f : Nat) (g3_cmp_c : Array Value) (h : Hp) (Q : List Value → Hp → Prop) : Prop := Fn PP 245 #[(Value.slice g0_data.a g0_data.n g0_data.c), (Value.int .i64 g1_a), (Value.int .i64 g2_b), (Value.func (.func g3_cmp_f) #[] g3_cmp_c)] h Q
/-- slices.nextPowerOfTwo -/
def S_slices_nextPowerOfTwo (g0_length : Int) (h : Hp) (Q : List Value → Hp → Prop) : Prop := Fn PP 188 #[(Value.int .i64 g0_length)] h Q
/-- (*slices.xorshift).Next -/
def S_slices_xorshift_Next (g0_r : Option Addr) (h : Hp) (Q : List Value → Hp → Prop) : Prop := Fn PP 189 #[(Value.pointer g0_r)] h Q
/-- slices.breakPatternsCmpFunc[livery/siread.Thing] -/
def S_slices_breakPatternsCmpFunc_siread_Thing (g0_data : Sl) (g1_a : Int) (g2_b : Int) (g3_cmp_f : Nat) (g3_cmp_c : Array Value) (h : Hp) (Q : List Value → Hp → Prop) : Prop := Fn PP 246 #[(Value.slice g0_data.a g0_data.n g0_data.c), (Value.int .i64 g1_a), (Value.int .i64 g2_b), (Value.func (.func g3_cmp_f) #[] g3_cmp_c)] h Q
/-- slices.order2CmpFunc[livery/siread.Thing] -/
def S_slices_order2CmpFunc_siread_Thing (g0_data : Sl) (g1_a : Int) (g2_b : Int) (g3_swaps : Option Addr) (g4_cmp_f : Nat) (g4_cmp_c : Array Value) (h : Hp) (Q : List Value → Hp → Prop) : Prop := Fn PP 268 #[(Value.slice g0_data.a g0_data.n g0_data.c), (Value.int .i64 g1_a), (Value.int .i64 g2_b), (Value.pointer g3_swaps), (Value.func (.func g4_cmp_f) #[] g4_cmp_c)] h Q
/-- slices.medianCmpFunc[livery/siread.Thing] -/
def S_slices_medianCmpFunc_siread_Thing (g0_data : Sl) (g1_a : Int) (g2_b : Int) (g3_c : Int) (g4_swaps : Option Addr) (g5_cmp_f : Nat) (g5_cmp_c : Array Value) (h : Hp) (Q : List Value → Hp → Prop) : Prop := Fn PP 261 #[(Value.slice g0_data.a g0_data.n g0_data.c), (Value.int .i64 g1_a), (Value.int .i64 g2_b), (Value.int .i64 g3_c), (Value.pointer g4_swaps), (Value.func (.func g5_cmp_f) #[] g5_cmp_c)] h Q
/-- slices.medianAdjacentCmpFunc[livery/siread.Thing] -/
def S_slices_medianAdjacentCmpFunc_siread_Thing (g0_data : Sl) (g1_a : Int) (g2_swaps : Option Addr) (g3_cmp_f : Nat) (g3_cmp_c : Array Value) (h : Hp) (Q : List Value → Hp → Prop) : Prop := Fn PP 260 #[(Value.slice g0_data.a g0_data.n g0_data.c), (Value.int .i64 g1_a), (Value.pointer g2_swaps), (Value.func (.func g3_cmp_f) #[] g3_cmp_c)] h Q
/-- slices.choosePivotCmpFunc[livery/siread.Thing] -/
def S_slices_choosePivotCmpFunc_siread_Thing (g0_data : Sl) (g1_a : Int) (g2_b : Int) (g3_cmp_f : Nat) (g3_cmp_c : Array Value) (h : Hp) (Q : List Value → Hp → Prop) : Prop := Fn PP 247 #[(Value.slice g0_data.a g0_data.n g0_data.c), (Value.int .i64 g1_a), (Value.int .i64 g2_b), (Value.func (.func g3_cmp_f) #[] g3_cmp_c)] h Q
/-- slices.reverseRangeCmpFunc[livery/siread.Thing] -/
def S_slices_reverseRangeCmpFunc_siread_Thing (g0_data : Sl) (g1_a : Int) (g2_b : Int) (g3_cmp_f : Nat) (g3_cmp_c : Array Value) (h : Hp) (Q : List Value → Hp → Prop) : Prop := Fn PP 248 #[(Value.slice g0_data.a g0_data.n g0_data.c), (Value.int .i64 g1_a), (Value.int .i64 g2_b), (Value.func (.func g3_cmp_f) #[] g3_cmp_c)] h Q
/-- slices.partialInsertionSortCmpFunc[livery/siread.Thing] -/
def S_slices_partialInsertionSortCmpFunc_siread_Thing (g0_data : Sl) (g1_a : Int) (g2_b : Int) (g3_cmp_f : Nat) (g3_cmp_c : Array Value) (h : Hp) (Q : List Value → Hp → Prop) : Prop := Fn PP 249 #[(Value.slice g0_data.a g0_data.n g0_data.c), (Value.int .i64 g1_a), (Value.int .i64 g2_b), (Value.func (.func g3_cmp_f) #[] g3_cmp_c)] h Q
/-- slices.partitionEqualCmpFunc[livery/siread.Thing] -/
def S_slices_partitionEqualCmpFunc_siread_Thing (g0_data : Sl) (g1_a : Int) (g2_b : Int) (g3_pivot : Int) (g4_cmp_f : Nat) (g4_cmp_c : Array Value) (h : Hp) (Q : List Value → Hp → Prop) : Prop := Fn PP 250 #[(Value.slice g0_data.a g0_data.n g0_data.c), (Value.int .i64 g1_a), (Value.int .i64 g2_b), (Value.int .i64 g3_pivot), (Value.func (.func g4_cmp_f) #[] g4_cmp_c)] h Q
/-- slices.partitionCmpFunc[livery/siread.Thing] -/
def S_slices_partitionCmpFunc_siread_Thing (g0_data : Sl) (g1_a : Int) (g2_b : Int) (g3_pivot : Int) (g4_cmp_f : Nat) (g4_cmp_c : Array Value) (h : Hp) (Q : List Value → Hp → Prop) : Prop := Fn PP 251 #[(Value.slice g0_data.a g0_data.n g0_data.c), (Value.int .i64 g1_a), (Value.int .i64 g2_b), (Value.int .i64 g3_pivot), (Value.func (.func g4_cmp_f) #[] g4_cmp_c)] h Q
/-- slices.pdqsortCmpFunc[livery/siread.Thing] -/
def S_slices_pdqsortCmpFunc_siread_Thing (g0_data : Sl) (g1_a : Int) (g2_b : Int) (g3_limit : Int) (g4_cmp_f : Nat) (g4_cmp_c : Array Value) (h : Hp) (Q : List Value → Hp → Prop) : Prop := Fn PP 235 #[(Value.slice g0_data.a g0_data.n g0_data.c), (Value.int .i64 g1_a), (Value.int .i64 g2_b), (Value.int .i64 g3_limit), (Value.func (.func g4_cmp_f) #[] g4_cmp_c)] h Q
/-- slices.SortFunc[[]livery/siread.Thing,livery/siread.Thing] -/
def S_slices_SortFunc_ssiread_Thing_siread_Thing (g0_x : Sl) (g1_cmp_f : Nat) (g1_cmp_c : Array Value) (h : Hp) (Q : List Value → Hp → Prop) : Prop := Fn PP 217 #[(Value.slice g0_x.a g0_x.n g0_x.c), (Value.func (.func g1_cmp_f) #[] g1_cmp_c)] h Q
/-- slices.SortedFunc[livery/siread.Thing] -/
def S_slices_SortedFunc_siread_Thing (g0_seq_f : Nat) (g0_seq_c : Array Value) (g1_cmp_f : Nat) (g1_cmp_c : Array Value) (h : Hp) (Q : List Value → Hp → Prop) : Prop := Fn PP 197 #[(Value.func (.func g0_seq_f) #[] g0_seq_c), (Value.func (.func g1_cmp_f) #[] g1_cmp_c)] h Q
/-- maps.Keys[map[livery/siread.Thing]int,livery/siread.Thing,int] -/
def S_maps_Keys_map_siread_Thing_int_siread_Thing_int (g0_m : Option Nat) (h : Hp) (Q : List Value → Hp → Prop) : Prop := Fn PP 198 #[(Value.map g0_m)] h Q
/-- (*livery/siread.Table).Of -/
def S_siread_Table_Of (g0_t : Option Addr) (g1_xid : Int) (h : Hp) (Q : List Value → Hp → Prop) : Prop := Fn PP 166 #[(Value.pointer g0_t), (Value.int .i64 g1_xid)] h Q
/-- (*livery/siread.Table).lose -/
def S_siread_Table_lose (g0_t : Option Addr) (g1_owner : Int) (g2_such_f : Nat) (g2_such_c : Array Value) (h : Hp) (Q : List Value → Hp → Prop) : Prop := Fn PP 131 #[(Value.pointer g0_t), (Value.int .i64 g1_owner), (Value.func (.func g2_such_f) #[] g2_such_c)] h Q
/-- (*livery/siread.Table).take -/
def S_siread_Table_take (g0_t : Option Addr) (g1_owner : Int) (g2_x_0 : Int) (g2_x_1 : ByteArray) (g2_x_2 : Int) (g2_x_3 : ByteArray) (g2_x_4 : Int) (h : Hp) (Q : List Value → Hp → Prop) : Prop := Fn PP 95 #[(Value.pointer g0_t), (Value.int .i64 g1_owner), (Value.agg #[(Value.int .i64 g2_x_0), (Value.string g2_x_1), (Value.int .i64 g2_x_2), (Value.string g2_x_3), (Value.int .i64 g2_x_4)])] h Q
/-- livery/siread.one -/
def S_siread_one (g0_xid : Int) (h : Hp) (Q : List Value → Hp → Prop) : Prop := Fn PP 135 #[(Value.int .i64 g0_xid)] h Q
/-- (*livery/siread.Table).Take -/
def S_siread_Table_Take (g0_t : Option Addr) (g1_xid : Int) (g2_x_0 : Int) (g2_x_1 : ByteArray) (g2_x_2 : Int) (g2_x_3 : ByteArray) (g2_x_4 : Int) (h : Hp) (Q : List Value → Hp → Prop) : Prop := Fn PP 97 #[(Value.pointer g0_t), (Value.int .i64 g1_xid), (Value.agg #[(Value.int .i64 g2_x_0), (Value.string g2_x_1), (Value.int .i64 g2_x_2), (Value.string g2_x_3), (Value.int .i64 g2_x_4)])] h Q
/-- (*livery/ssi.Ssi).Read -/
def S_ssi_Ssi_Read (g0_s : Option Addr) (g1_xid : Int) (g2_x_0 : Int) (g2_x_1 : ByteArray) (g2_x_2 : Int) (g2_x_3 : ByteArray) (g2_x_4 : Int) (h : Hp) (Q : List Value → Hp → Prop) : Prop := Fn PP 54 #[(Value.pointer g0_s), (Value.int .i64 g1_xid), (Value.agg #[(Value.int .i64 g2_x_0), (Value.string g2_x_1), (Value.int .i64 g2_x_2), (Value.string g2_x_3), (Value.int .i64 g2_x_4)])] h Q
/-- slices.AppendSeq[[]int,int] -/
def S_slices_AppendSeq_sint_int (g0_s : Sl) (g1_seq_f : Nat) (g1_seq_c : Array Value) (h : Hp) (Q : List Value → Hp → Prop) : Prop := Fn PP 146 #[(Value.slice g0_s.a g0_s.n g0_s.c), (Value.func (.func g1_seq_f) #[] g1_seq_c)] h Q
/-- slices.Collect[int] -/
def S_slices_Collect_int (g0_seq_f : Nat) (g0_seq_c : Array Value) (h : Hp) (Q : List Value → Hp → Prop) : Prop := Fn PP 112 #[(Value.func (.func g0_seq_f) #[] g0_seq_c)] h Q
/-- cmp.isNaN[int] -/
def S_cmp_isNaN_int (g0_x : Int) (h : Hp) (Q : List Value → Hp → Prop) : Prop := Fn PP 158 #[(Value.int .i64 g0_x)] h Q
/-- cmp.Less[int] -/
def S_cmp_Less_int (g0_x : Int) (g1_y : Int) (h : Hp) (Q : List Value → Hp → Prop) : Prop := Fn PP 184 #[(Value.int .i64 g0_x), (Value.int .i64 g1_y)] h Q
/-- slices.insertionSortOrdered[int] -/
def S_slices_insertionSortOrdered_int (g0_data : Sl) (g1_a : Int) (g2_b : Int) (h : Hp) (Q : List Value → Hp → Prop) : Prop := Fn PP 178 #[(Value.slice g0_data.a g0_data.n g0_data.c), (Value.int .i64 g1_a), (Value.int .i64 g2_b)] h Q
/-- slices.siftDownOrdered[int] -/
def S_slices_siftDownOrdered_int (g0_data : Sl) (g1_lo : Int) (g2_hi : Int) (g3_first : Int) (h : Hp) (Q : List Value → Hp → Prop) : Prop := Fn PP 205 #[(Value.slice g0_data.a g0_data.n g0_data.c), (Value.int .i64 g1_lo), (Value.int .i64 g2_hi), (Value.int .i64 g3_first)] h Q
/-- slices.heapSortOrdered[int] -/
def S_slices_heapSortOrdered_int (g0_data : Sl) (g1_a : Int) (g2_b : Int) (h : Hp) (Q : List Value → Hp → Prop) : Prop := Fn PP 179 #[(Value.slice g0_data.a g0_data.n g0_data.c), (Value.int .i64 g1_a), (Value.int .i64 g2_b)] h Q
/-- slices.breakPatternsOrdered[int] -/
def S_slices_breakPatternsOrdered_int (g0_data : Sl) (g1_a : Int) (g2_b : Int) (h : Hp) (Q : List Value → Hp → Prop) : Prop := Fn PP 180 #[(Value.slice g0_data.a g0_data.n g0_data.c), (Value.int .i64 g1_a), (Value.int .i64 g2_b)] h Q
/-- slices.order2Ordered[int] -/
def S_slices_order2Ordered_int (g0_data : Sl) (g1_a : Int) (g2_b : Int) (g3_swaps : Option Addr) (h : Hp) (Q : List Value → Hp → Prop) : Prop := Fn PP 223 #[(Value.slice g0_data.a g0_data.n g0_data.c), (Value.int .i64 g1_a), (Value.int .i64 g2_b), (Value.pointer g3_swaps)] h Q
/-- slices.medianOrdered[int] -/
def S_slices_medianOrdered_int (g0_data : Sl) (g1_a : Int) (g2_b : Int) (g3_c : Int) (g4_swaps : Option Addr) (h : Hp) (Q : List Value → Hp → Prop) : Prop := Fn PP 207 #[(Value.slice g0_data.a g0_data.n g0_data.c), (Value.int .i64 g1_a), (Value.int .i64 g2_b), (Value.int .i64 g3_c), (Value.pointer g4_swaps)] h Q
/-- slices.medianAdjacentOrdered[int] -/
def S_slices_medianAdjacentOrdered_int (g0_data : Sl) (g1_a : Int) (g2_swaps : Option Addr) (h : Hp) (Q : List Value → Hp → Prop) : Prop := Fn PP 206 #[(Value.slice g0_data.a g0_data.n g0_data.c), (Value.int .i64 g1_a), (Value.pointer g2_swaps)] h Q
/-- slices.choosePivotOrdered[int] -/
def S_slices_choosePivotOrdered_int (g0_data : Sl) (g1_a : Int) (g2_b : Int) (h : Hp) (Q : List Value → Hp → Prop) : Prop := Fn PP 181 #[(Value.slice g0_data.a g0_data.n g0_data.c), (Value.int .i64 g1_a), (Value.int .i64 g2_b)] h Q
/-- slices.reverseRangeOrdered[int] -/
def S_slices_reverseRangeOrdered_int (g0_data : Sl) (g1_a : Int) (g2_b : Int) (h : Hp) (Q : List Value → Hp → Prop) : Prop := Fn PP 182 #[(Value.slice g0_data.a g0_data.n g0_data.c), (Value.int .i64 g1_a), (Value.int .i64 g2_b)] h Q
/-- slices.partialInsertionSortOrdered[int] -/
def S_slices_partialInsertionSortOrdered_int (g0_data : Sl) (g1_a : Int) (g2_b : Int) (h : Hp) (Q : List Value → Hp → Prop) : Prop := Fn PP 183 #[(Value.slice g0_data.a g0_data.n g0_data.c), (Value.int .i64 g1_a), (Value.int .i64 g2_b)] h Q
/-- slices.partitionEqualOrdered[int] -/
def S_slices_partitionEqualOrdered_int (g0_data : Sl) (g1_a : Int) (g2_b : Int) (g3_pivot : Int) (h : Hp) (Q : List Value → Hp → Prop) : Prop := Fn PP 185 #[(Value.slice g0_data.a g0_data.n g0_data.c), (Value.int .i64 g1_a), (Value.int .i64 g2_b), (Value.int .i64 g3_pivot)] h Q
/-- slices.partitionOrdered[int] -/
def S_slices_partitionOrdered_int (g0_data : Sl) (g1_a : Int) (g2_b : Int) (g3_pivot : Int) (h : Hp) (Q : List Value → Hp → Prop) : Prop := Fn PP 186 #[(Value.slice g0_data.a g0_data.n g0_data.c), (Value.int .i64 g1_a), (Value.int .i64 g2_b), (Value.int .i64 g3_pivot)] h Q
/-- slices.pdqsortOrdered[int] -/
def S_slices_pdqsortOrdered_int (g0_data : Sl) (g1_a : Int) (g2_b : Int) (g3_limit : Int) (h : Hp) (Q : List Value → Hp → Prop) : Prop := Fn PP 147 #[(Value.slice g0_data.a g0_data.n g0_data.c), (Value.int .i64 g1_a), (Value.int .i64 g2_b), (Value.int .i64 g3_limit)] h Q
/-- slices.Sort[[]int,int] -/
def S_slices_Sort_sint_int (g0_x : Sl) (h : Hp) (Q : List Value → Hp → Prop) : Prop := Fn PP 113 #[(Value.slice g0_x.a g0_x.n g0_x.c)] h Q
/-- slices.Sorted[int] -/
def S_slices_Sorted_int (g0_seq_f : Nat) (g0_seq_c : Array Value) (h : Hp) (Q : List Value → Hp → Prop) : Prop := Fn PP 72 #[(Value.func (.func g0_seq_f) #[] g0_seq_c)] h Q
/-- maps.Keys[map[int]int,int,int] -/
def S_maps_Keys_map_int_int_int_int (g0_m : Option Nat) (h : Hp) (Q : List Value → Hp → Prop) : Prop := Fn PP 98 #[(Value.map g0_m)] h Q
/-- (*livery/name.Names).Unseen -/
def S_name_Names_Unseen (g0_n : Option Addr) (g1_l : Option Addr) (g2_xid : Int) (g3_name : ByteArray) (h : Hp) (Q : List Value → Hp → Prop) : Prop := Fn PP 55 #[(Value.pointer g0_n), (Value.pointer g1_l), (Value.int .i64 g2_xid), (Value.string g3_name)] h Q
/-- (*livery/clog.Log).Reads -/
def S_clog_Log_Reads (g0_l : Option Addr) (g1_xid : Int) (h : Hp) (Q : List Value → Hp → Prop) : Prop := Fn PP 36 #[(Value.pointer g0_l), (Value.int .i64 g1_xid)] h Q
/-- (*livery/edge.Edges).none -/
def S_edge_Edges_none (g0_e : Option Addr) (h : Hp) (Q : List Value → Hp → Prop) : Prop := Fn PP 109 #[(Value.pointer g0_e)] h Q
/-- (*livery/clog.Log).Snapshot -/
def S_clog_Log_Snapshot (g0_l : Option Addr) (g1_xid : Int) (h : Hp) (Q : List Value → Hp → Prop) : Prop := Fn PP 110 #[(Value.pointer g0_l), (Value.int .i64 g1_xid)] h Q
/-- (*livery/clog.Log).Csn -/
def S_clog_Log_Csn (g0_l : Option Addr) (g1_xid : Int) (h : Hp) (Q : List Value → Hp → Prop) : Prop := Fn PP 145 #[(Value.pointer g0_l), (Value.int .i64 g1_xid)] h Q
/-- (*livery/edge.Edges).ends -/
def S_edge_Edges_ends (g0_e : Option Addr) (g1_xid : Int) (g2_end : Int) (h : Hp) (Q : List Value → Hp → Prop) : Prop := Fn PP 177 #[(Value.pointer g0_e), (Value.int .i64 g1_xid), (Value.int .i64 g2_end)] h Q
/-- (*livery/edge.Edges).Out -/
def S_edge_Edges_Out (g0_e : Option Addr) (g1_xid : Int) (h : Hp) (Q : List Value → Hp → Prop) : Prop := Fn PP 176 #[(Value.pointer g0_e), (Value.int .i64 g1_xid)] h Q
/-- (*livery/edge.Edges).first -/
def S_edge_Edges_first (g0_e : Option Addr) (g1_p : Int) (h : Hp) (Q : List Value → Hp → Prop) : Prop := Fn PP 143 #[(Value.pointer g0_e), (Value.int .i64 g1_p)] h Q
/-- (*livery/edge.Edges).In -/
def S_edge_Edges_In (g0_e : Option Addr) (g1_xid : Int) (h : Hp) (Q : List Value → Hp → Prop) : Prop := Fn PP 144 #[(Value.pointer g0_e), (Value.int .i64 g1_xid)] h Q
/-- (*livery/edge.Edges).Spoilt -/
def S_edge_Edges_Spoilt (g0_e : Option Addr) (g1_p : Int) (h : Hp) (Q : List Value → Hp → Prop) : Prop := Fn PP 111 #[(Value.pointer g0_e), (Value.int .i64 g1_p)] h Q
/-- (*livery/ssi.Ssi).look -/
def S_ssi_Ssi_look (g0_s : Option Addr) (g1_p : Int) (h : Hp) (Q : List Value → Hp → Prop) : Prop := Fn PP 68 #[(Value.pointer g0_s), (Value.int .i64 g1_p)] h Q
/-- (*livery/clog.Log).Beside -/
def S_clog_Log_Beside (g0_l : Option Addr) (g1_a : Int) (g2_b : Int) (h : Hp) (Q : List Value → Hp → Prop) : Prop := Fn PP 142 #[(Value.pointer g0_l), (Value.int .i64 g1_a), (Value.int .i64 g2_b)] h Q
/-- (*livery/edge.Edges).Add -/
def S_edge_Edges_Add (g0_e : Option Addr) (g1_a : Int) (g2_b : Int) (h : Hp) (Q : List Value → Hp → Prop) : Prop := Fn PP 108 #[(Value.pointer g0_e), (Value.int .i64 g1_a), (Value.int .i64 g2_b)] h Q
/-- (*livery/ssi.Ssi).behind -/
def S_ssi_Ssi_behind (g0_s : Option Addr) (g1_a : Int) (g2_b : Int) (h : Hp) (Q : List Value → Hp → Prop) : Prop := Fn PP 65 #[(Value.pointer g0_s), (Value.int .i64 g1_a), (Value.int .i64 g2_b)] h Q
/-- (*livery/ssi.Ssi).Saw -/
def S_ssi_Ssi_Saw (g0_s : Option Addr) (g1_xid : Int) (g2_writer : Int) (h : Hp) (Q : List Value → Hp → Prop) : Prop := Fn PP 56 #[(Value.pointer g0_s), (Value.int .i64 g1_xid), (Value.int .i64 g2_writer)] h Q
/-- livery/read.Open -/
def S_read_Open (g0_s : Option Addr) (g1_xid : Int) (g2_name : ByteArray) (h : Hp) (Q : List Value → Hp → Prop) : Prop := Fn PP 20 #[(Value.pointer g0_s), (Value.int .i64 g1_xid), (Value.string g2_name)] h Q
/-- slices.IndexFunc[[]livery/api.Column,livery/api.Column] -/
def S_slices_IndexFunc_sapi_Column_api_Column (g0_s : Sl) (g1_f_f : Nat) (g1_f_c : Array Value) (h : Hp) (Q : List Value → Hp → Prop) : Prop := Fn PP 69 #[(Value.slice g0_s.a g0_s.n g0_s.c), (Value.func (.func g1_f_f) #[] g1_f_c)] h Q
/-- livery/row.Find -/
def S_row_Find (g0_l : Sl) (g1_name : ByteArray) (h : Hp) (Q : List Value → Hp → Prop) : Prop := Fn PP 24 #[(Value.slice g0_l.a g0_l.n g0_l.c), (Value.string g1_name)] h Q
/-- (*livery/table.Store).rel -/
def S_table_Store_rel (g0_s : Option Addr) (g1_n : Int) (h : Hp) (Q : List Value → Hp → Prop) : Prop := Fn PP 71 #[(Value.pointer g0_s), (Value.int .i64 g1_n)] h Q
/-- (*livery/table.Store).stands -/
def S_table_Store_stands (g0_s : Option Addr) (g1_x : Option Addr) (h : Hp) (Q : List Value → Hp → Prop) : Prop := Fn PP 138 #[(Value.pointer g0_s), (Value.pointer g1_x)] h Q
/-- slices.insertionSortCmpFunc[*livery/table.entries] -/
def S_slices_insertionSortCmpFunc_ptable_entries (g0_data : Sl) (g1_a : Int) (g2_b : Int) (g3_cmp_f : Nat) (g3_cmp_c : Array Value) (h : Hp) (Q : List Value → Hp → Prop) : Prop := Fn PP 203 #[(Value.slice g0_data.a g0_data.n g0_data.c), (Value.int .i64 g1_a), (Value.int .i64 g2_b), (Value.func (.func g3_cmp_f) #[] g3_cmp_c)] h Q
/-- slices.swapRangeCmpFunc[*livery/table.entries] -/
def S_slices_swapRangeCmpFunc_ptable_entries (g0_data : Sl) (g1_a : Int) (g2_b : Int) (g3_n : Int) (g4_cmp_f : Nat) (g4_cmp_c : Array Value) (h : Hp) (Q : List Value → Hp → Prop) : Prop := Fn PP 237 #[(Value.slice g0_data.a g0_data.n g0_data.c), (Value.int .i64 g1_a), (Value.int .i64 g2_b), (Value.int .i64 g3_n), (Value.func (.func g4_cmp_f) #[] g4_cmp_c)] h Q
/-- slices.rotateCmpFunc[*livery/table.entries] -/
def S_slices_rotateCmpFunc_ptable_entries (g0_data : Sl) (g1_a : Int) (g2_m : Int) (g3_b : Int) (g4_cmp_f : Nat) (g4_cmp_c : Array Value) (h : Hp) (Q : List Value → Hp → Prop) : Prop := Fn PP 222 #[(Value.slice g0_data.a g0_data.n g0_data.c), (Value.int .i64 g1_a), (Value.int .i64 g2_m), (Value.int .i64 g3_b), (Value.func (.func g4_cmp_f) #[] g4_cmp_c)] h Q
/-- slices.symMergeCmpFunc[*livery/table.entries] -/
def S_slices_symMergeCmpFunc_ptable_entries (g0_data : Sl) (g1_a : Int) (g2_m : Int) (g3_b : Int) (g4_cmp_f : Nat) (g4_cmp_c : Array Value) (h : Hp) (Q : List Value → Hp → Prop) : Prop := Fn PP 204 #[(Value.slice g0_data.a g0_data.n g0_data.c), (Value.int .i64 g1_a), (Value.int .i64 g2_m), (Value.int .i64 g3_b), (Value.func (.func g4_cmp_f) #[] g4_cmp_c)] h Q
/-- slices.stableCmpFunc[*livery/table.entries] -/
def S_slices_stableCmpFunc_ptable_entries (g0_data : Sl) (g1_n : Int) (g2_cmp_f : Nat) (g2_cmp_c : Array Value) (h : Hp) (Q : List Value → Hp → Prop) : Prop := Fn PP 174 #[(Value.slice g0_data.a g0_data.n g0_data.c), (Value.int .i64 g1_n), (Value.func (.func g2_cmp_f) #[] g2_cmp_c)] h Q
/-- slices.SortStableFunc[[]*livery/table.entries,*livery/table.entries] -/
def S_slices_SortStableFunc_sptable_entries_ptable_entries (g0_x : Sl) (g1_cmp_f : Nat) (g1_cmp_c : Array Value) (h : Hp) (Q : List Value → Hp → Prop) : Prop := Fn PP 139 #[(Value.slice g0_x.a g0_x.n g0_x.c), (Value.func (.func g1_cmp_f) #[] g1_cmp_c)] h Q
/-- (*livery/table.Store).standing -/
def S_table_Store_standing (g0_s : Option Addr) (g1_n : Int) (h : Hp) (Q : List Value → Hp → Prop) : Prop := Fn PP 103 #[(Value.pointer g0_s), (Value.int .i64 g1_n)] h Q
/-- (*livery/table.Store).Indexes -/
def S_table_Store_Indexes (g0_s : Option Addr) (g1_rel : Int) (h : Hp) (Q : List Value → Hp → Prop) : Prop := Fn PP 59 #[(Value.pointer g0_s), (Value.int .i64 g1_rel)] h Q
/-- slices.IndexFunc[[]livery/table.Index,livery/table.Index] -/
def S_slices_IndexFunc_stable_Index_table_Index (g0_s : Sl) (g1_f_f : Nat) (g1_f_c : Array Value) (h : Hp) (Q : List Value → Hp → Prop) : Prop := Fn PP 99 #[(Value.slice g0_s.a g0_s.n g0_s.c), (Value.func (.func g1_f_f) #[] g1_f_c)] h Q
/-- (*livery/define.ground).standing -/
def S_define_ground_standing (g0_g : Option Addr) (h : Hp) (Q : List Value → Hp → Prop) : Prop := Fn PP 57 #[(Value.pointer g0_g)] h Q
/-- livery/value.Name -/
def S_value_Name (g0_s : ByteArray) (h : Hp) (Q : List Value → Hp → Prop) : Prop := Fn PP 124 #[(Value.string g0_s)] h Q
/-- livery/value.Good -/
def S_value_Good (g0_v_0 : Int) (g0_v_1 : Int) (g0_v_2 : Nat) (g0_v_3 : ByteArray) (h : Hp) (Q : List Value → Hp → Prop) : Prop := Fn PP 137 #[(Value.agg #[(Value.int .i64 g0_v_0), (Value.int .i64 g0_v_1), (Value.float .f64 g0_v_2), (Value.string g0_v_3)])] h Q
/-- livery/row.one -/
def S_row_one (g0_c_0 : ByteArray) (g0_c_1 : Int) (g0_c_2 : Bool) (g0_c_3 : Int) (g0_c_4 : Int) (g0_c_5 : Nat) (g0_c_6 : ByteArray) (h : Hp) (Q : List Value → Hp → Prop) : Prop := Fn PP 102 #[(Value.agg #[(Value.string g0_c_0), (Value.int .i64 g0_c_1), (Value.bool g0_c_2), (Value.int .i64 g0_c_3), (Value.int .i64 g0_c_4), (Value.float .f64 g0_c_5), (Value.string g0_c_6)])] h Q
/-- livery/row.Good -/
def S_row_Good (g0_l : Sl) (h : Hp) (Q : List Value → Hp → Prop) : Prop := Fn PP 101 #[(Value.slice g0_l.a g0_l.n g0_l.c)] h Q
/-- livery/row.Add -/
def S_row_Add (g0_l : Sl) (g1_c_0 : ByteArray) (g1_c_1 : Int) (g1_c_2 : Bool) (g1_c_3 : Int) (g1_c_4 : Int) (g1_c_5 : Nat) (g1_c_6 : ByteArray) (h : Hp) (Q : List Value → Hp → Prop) : Prop := Fn PP 58 #[(Value.slice g0_l.a g0_l.n g0_l.c), (Value.agg #[(Value.string g1_c_0), (Value.int .i64 g1_c_1), (Value.bool g1_c_2), (Value.int .i64 g1_c_3), (Value.int .i64 g1_c_4), (Value.float .f64 g1_c_5), (Value.string g1_c_6)])] h Q
/-- (*livery/define.ground).early -/
def S_define_ground_early (g0_g : Option Addr) (h : Hp) (Q : List Value → Hp → Prop) : Prop := Fn PP 21 #[(Value.pointer g0_g)] h Q
/-- slices.IndexFunc[[]int,int] -/
def S_slices_IndexFunc_sint_int (g0_s : Sl) (g1_f_f : Nat) (g1_f_c : Array Value) (h : Hp) (Q : List Value → Hp → Prop) : Prop := Fn PP 61 #[(Value.slice g0_s.a g0_s.n g0_s.c), (Value.func (.func g1_f_f) #[] g1_f_c)] h Q
/-- (*livery/name.Names).May -/
def S_name_Names_May (g0_n : Option Addr) (g1_l : Option Addr) (g2_xid : Int) (g3_name : ByteArray) (h : Hp) (Q : List Value → Hp → Prop) : Prop := Fn PP 22 #[(Value.pointer g0_n), (Value.pointer g1_l), (Value.int .i64 g2_xid), (Value.string g3_name)] h Q
/-- (*livery/siread.Table).owners -/
def S_siread_Table_owners (g0_t : Option Addr) (g1_such_f : Nat) (g1_such_c : Array Value) (h : Hp) (Q : List Value → Hp → Prop) : Prop := Fn PP 93 #[(Value.pointer g0_t), (Value.func (.func g1_such_f) #[] g1_such_c)] h Q
/-- (*livery/siread.Table).Owners -/
def S_siread_Table_Owners (g0_t : Option Addr) (g1_x_0 : Int) (g1_x_1 : ByteArray) (g1_x_2 : Int) (g1_x_3 : ByteArray) (g1_x_4 : Int) (h : Hp) (Q : List Value → Hp → Prop) : Prop := Fn PP 64 #[(Value.pointer g0_t), (Value.agg #[(Value.int .i64 g1_x_0), (Value.string g1_x_1), (Value.int .i64 g1_x_2), (Value.string g1_x_3), (Value.int .i64 g1_x_4)])] h Q
/-- (*livery/edge.Edges).OldIn -/
def S_edge_Edges_OldIn (g0_e : Option Addr) (g1_b : Int) (g2_csn : Int) (h : Hp) (Q : List Value → Hp → Prop) : Prop := Fn PP 66 #[(Value.pointer g0_e), (Value.int .i64 g1_b), (Value.int .i64 g2_csn)] h Q
/-- (*livery/siread.Table).Old -/
def S_siread_Table_Old (g0_t : Option Addr) (h : Hp) (Q : List Value → Hp → Prop) : Prop := Fn PP 67 #[(Value.pointer g0_t)] h Q
/-- (*livery/ssi.Ssi).Wrote -/
def S_ssi_Ssi_Wrote (g0_s : Option Addr) (g1_xid : Int) (g2_x_0 : Int) (g2_x_1 : ByteArray) (g2_x_2 : Int) (g2_x_3 : ByteArray) (g2_x_4 : Int) (h : Hp) (Q : List Value → Hp → Prop) : Prop := Fn PP 23 #[(Value.pointer g0_s), (Value.int .i64 g1_xid), (Value.agg #[(Value.int .i64 g2_x_0), (Value.string g2_x_1), (Value.int .i64 g2_x_2), (Value.string g2_x_3), (Value.int .i64 g2_x_4)])] h Q
/-- livery/define.Do -/
def S_define_Do (g0_s : Option Addr) (g1_xid : Int) (g2_x_0 : Int) (g2_x_1 : ByteArray) (g2_x_2 : ByteArray) (g2_x_3 : ByteArray) (g2_x_4 : ByteArray) (g2_x_5 : Int) (g2_x_6 : Int) (g2_x_7 : Nat) (g2_x_8 : ByteArray) (g2_x_9 : Int) (g2_x_10 : Int) (g2_x_11 : Nat) (g2_x_12 : ByteArray) (g2_x_13 : Sl) (g2_x_14 : Sl) (g2_x_15 : Bool) (h : Hp) (Q : List Value → Hp → Prop) : Prop := Fn PP 6 #[(Value.pointer g0_s), (Value.int .i64 g1_xid), (Value.agg #[(Value.int .i64 g2_x_0), (Value.string g2_x_1), (Value.string g2_x_2), (Value.string g2_x_3), (Value.string g2_x_4), (Value.int .i64 g2_x_5), (Value.int .i64 g2_x_6), (Value.float .f64 g2_x_7), (Value.string g2_x_8), (Value.int .i64 g2_x_9), (Value.int .i64 g2_x_10), (Value.float .f64 g2_x_11), (Value.string g2_x_12), (Value.slice g2_x_13.a g2_x_13.n g2_x_13.c), (Value.slice g2_x_14.a g2_x_14.n g2_x_14.c), (Value.bool g2_x_15)])] h Q
/-- livery/clog.New -/
def S_clog_New (h : Hp) (Q : List Value → Hp → Prop) : Prop := Fn PP 81 #[] h Q
/-- livery/siread.New -/
def S_siread_New (g0_each : Int) (g1_all : Int) (h : Hp) (Q : List Value → Hp → Prop) : Prop := Fn PP 122 #[(Value.int .i64 g0_each), (Value.int .i64 g1_all)] h Q
/-- livery/edge.New -/
def S_edge_New (g0_l : Option Addr) (h : Hp) (Q : List Value → Hp → Prop) : Prop := Fn PP 123 #[(Value.pointer g0_l)] h Q
/-- livery/ssi.New -/
def S_ssi_New (g0_l : Option Addr) (g1_each : Int) (g2_all : Int) (g3_keep : Int) (h : Hp) (Q : List Value → Hp → Prop) : Prop := Fn PP 82 #[(Value.pointer g0_l), (Value.int .i64 g1_each), (Value.int .i64 g2_all), (Value.int .i64 g3_keep)] h Q
/-- livery/name.New -/
def S_name_New (h : Hp) (Q : List Value → Hp → Prop) : Prop := Fn PP 83 #[] h Q
/-- livery/lock.New -/
def S_lock_New (h : Hp) (Q : List Value → Hp → Prop) : Prop := Fn PP 84 #[] h Q
/-- livery/table.New -/
def S_table_New (g0_each : Int) (g1_all : Int) (g2_keep : Int) (g3_fan : Int) (h : Hp) (Q : List Value → Hp → Prop) : Prop := Fn PP 32 #[(Value.int .i64 g0_each), (Value.int .i64 g1_all), (Value.int .i64 g2_keep), (Value.int .i64 g3_fan)] h Q
/-- livery/liverylaw23.made -/
def S_liverylaw23_made (h : Hp) (Q : List Value → Hp → Prop) : Prop := Fn PP 11 #[] h Q
/-- slices.ContainsFunc[[]int,int] -/
def S_slices_ContainsFunc_sint_int (g0_s : Sl) (g1_f_f : Nat) (g1_f_c : Array Value) (h : Hp) (Q : List Value → Hp → Prop) : Prop := Fn PP 33 #[(Value.slice g0_s.a g0_s.n g0_s.c), (Value.func (.func g1_f_f) #[] g1_f_c)] h Q
/-- (*livery/clog.Log).Running -/
def S_clog_Log_Running (g0_l : Option Addr) (h : Hp) (Q : List Value → Hp → Prop) : Prop := Fn PP 34 #[(Value.pointer g0_l)] h Q
/-- (*livery/clog.Log).Begin -/
def S_clog_Log_Begin (g0_l : Option Addr) (g1_reads : Bool) (h : Hp) (Q : List Value → Hp → Prop) : Prop := Fn PP 37 #[(Value.pointer g0_l), (Value.bool g1_reads)] h Q
/-- (*livery/ssi.Ssi).Begin -/
def S_ssi_Ssi_Begin (g0_s : Option Addr) (g1_reads : Bool) (h : Hp) (Q : List Value → Hp → Prop) : Prop := Fn PP 13 #[(Value.pointer g0_s), (Value.bool g1_reads)] h Q
/-- livery/liverylaw23.create -/
def S_liverylaw23_create (g0_t : ByteArray) (h : Hp) (Q : List Value → Hp → Prop) : Prop := Fn PP 14 #[(Value.string g0_t)] h Q
/-- livery/liverylaw23.wakes -/
def S_liverylaw23_wakes (h : Hp) (Q : List Value → Hp → Prop) : Prop := Fn PP 5 #[] h Q
/-- (*livery/table.Store).Rel -/
def S_table_Store_Rel (g0_s : Option Addr) (g1_n : Int) (h : Hp) (Q : List Value → Hp → Prop) : Prop := Fn PP 25 #[(Value.pointer g0_s), (Value.int .i64 g1_n)] h Q
/-- maps.Keys[map[int]livery/api.Tuple,int,livery/api.Tuple] -/
def S_maps_Keys_map_int_api_Tuple_int_api_Tuple (g0_m : Option Nat) (h : Hp) (Q : List Value → Hp → Prop) : Prop := Fn PP 73 #[(Value.map g0_m)] h Q
/-- (*livery/heap.Rel).All -/
def S_heap_Rel_All (g0_r : Option Addr) (h : Hp) (Q : List Value → Hp → Prop) : Prop := Fn PP 26 #[(Value.pointer g0_r)] h Q
/-- (*livery/heap.Rel).get -/
def S_heap_Rel_get (g0_r : Option Addr) (g1_tid : Int) (h : Hp) (Q : List Value → Hp → Prop) : Prop := Fn PP 74 #[(Value.pointer g0_r), (Value.int .i64 g1_tid)] h Q
/-- slices.Clone[[]livery/api.Value,livery/api.Value] -/
def S_slices_Clone_sapi_Value_api_Value (g0_s : Sl) (h : Hp) (Q : List Value → Hp → Prop) : Prop := Fn PP 75 #[(Value.slice g0_s.a g0_s.n g0_s.c)] h Q
/-- (*livery/heap.Rel).Get -/
def S_heap_Rel_Get (g0_r : Option Addr) (g1_tid : Int) (h : Hp) (Q : List Value → Hp → Prop) : Prop := Fn PP 27 #[(Value.pointer g0_r), (Value.int .i64 g1_tid)] h Q
/-- livery/row.Pad -/
def S_row_Pad (g0_l : Sl) (g1_r : Sl) (h : Hp) (Q : List Value → Hp → Prop) : Prop := Fn PP 28 #[(Value.slice g0_l.a g0_l.n g0_l.c), (Value.slice g1_r.a g1_r.n g1_r.c)] h Q
/-- livery/heap.ended -/
def S_heap_ended (g0_l : Option Addr) (g1_x_0 : Int) (g1_x_1 : Int) (g1_x_2 : Sl) (h : Hp) (Q : List Value → Hp → Prop) : Prop := Fn PP 76 #[(Value.pointer g0_l), (Value.agg #[(Value.int .i64 g1_x_0), (Value.int .i64 g1_x_1), (Value.slice g1_x_2.a g1_x_2.n g1_x_2.c)])] h Q
/-- (*livery/heap.Rel).Sees -/
def S_heap_Rel_Sees (g0_r : Option Addr) (g1_l : Option Addr) (g2_xid : Int) (g3_tid : Int) (h : Hp) (Q : List Value → Hp → Prop) : Prop := Fn PP 29 #[(Value.pointer g0_r), (Value.pointer g1_l), (Value.int .i64 g2_xid), (Value.int .i64 g3_tid)] h Q
/-- slices.insertionSortCmpFunc[livery/api.Value] -/
def S_slices_insertionSortCmpFunc_api_Value (g0_data : Sl) (g1_a : Int) (g2_b : Int) (g3_cmp_f : Nat) (g3_cmp_c : Array Value) (h : Hp) (Q : List Value → Hp → Prop) : Prop := Fn PP 148 #[(Value.slice g0_data.a g0_data.n g0_data.c), (Value.int .i64 g1_a), (Value.int .i64 g2_b), (Value.func (.func g3_cmp_f) #[] g3_cmp_c)] h Q
/-- slices.siftDownCmpFunc[livery/api.Value] -/
def S_slices_siftDownCmpFunc_api_Value (g0_data : Sl) (g1_lo : Int) (g2_hi : Int) (g3_first : Int) (g4_cmp_f : Nat) (g4_cmp_c : Array Value) (h : Hp) (Q : List Value → Hp → Prop) : Prop := Fn PP 187 #[(Value.slice g0_data.a g0_data.n g0_data.c), (Value.int .i64 g1_lo), (Value.int .i64 g2_hi), (Value.int .i64 g3_first), (Value.func (.func g4_cmp_f) #[] g4_cmp_c)] h Q
/-- slices.heapSortCmpFunc[livery/api.Value] -/
def S_slices_heapSortCmpFunc_api_Value (g0_data : Sl) (g1_a : Int) (g2_b : Int) (g3_cmp_f : Nat) (g3_cmp_c : Array Value) (h : Hp) (Q : List Value → Hp → Prop) : Prop := Fn PP 149 #[(Value.slice g0_data.a g0_data.n g0_data.c), (Value.int .i64 g1_a), (Value.int .i64 g2_b), (Value.func (.func g3_cmp_f) #[] g3_cmp_c)] h Q
/-- slices.breakPatternsCmpFunc[livery/api.Value] -/
def S_slices_breakPatternsCmpFunc_api_Value (g0_data : Sl) (g1_a : Int) (g2_b : Int) (g3_cmp_f : Nat) (g3_cmp_c : Array Value) (h : Hp) (Q : List Value → Hp → Prop) : Prop := Fn PP 150 #[(Value.slice g0_data.a g0_data.n g0_data.c), (Value.int .i64 g1_a), (Value.int .i64 g2_b), (Value.func (.func g3_cmp_f) #[] g3_cmp_c)] h Q
/-- slices.order2CmpFunc[livery/api.Value] -/
def S_slices_order2CmpFunc_api_Value (g0_data : Sl) (g1_a : Int) (g2_b : Int) (g3_swaps : Option Addr) (g4_cmp_f : Nat) (g4_cmp_c : Array Value) (h : Hp) (Q : List Value → Hp → Prop) : Prop := Fn PP 208 #[(Value.slice g0_data.a g0_data.n g0_data.c), (Value.int .i64 g1_a), (Value.int .i64 g2_b), (Value.pointer g3_swaps), (Value.func (.func g4_cmp_f) #[] g4_cmp_c)] h Q
/-- slices.medianCmpFunc[livery/api.Value] -/
def S_slices_medianCmpFunc_api_Value (g0_data : Sl) (g1_a : Int) (g2_b : Int) (g3_c : Int) (g4_swaps : Option Addr) (g5_cmp_f : Nat) (g5_cmp_c : Array Value) (h : Hp) (Q : List Value → Hp → Prop) : Prop := Fn PP 191 #[(Value.slice g0_data.a g0_data.n g0_data.c), (Value.int .i64 g1_a), (Value.int .i64 g2_b), (Value.int .i64 g3_c), (Value.pointer g4_swaps), (Value.func (.func g5_cmp_f) #[] g5_cmp_c)] h Q
/-- slices.medianAdjacentCmpFunc[livery/api.Value] -/
def S_slices_medianAdjacentCmpFunc_api_Value (g0_data : Sl) (g1_a : Int) (g2_swaps : Option Addr) (g3_cmp_f : Nat) (g3_cmp_c : Array Value) (h : Hp) (Q : List Value → Hp → Prop) : Prop := Fn PP 190 #[(Value.slice g0_data.a g0_data.n g0_data.c), (Value.int .i64 g1_a), (Value.pointer g2_swaps), (Value.func (.func g3_cmp_f) #[] g3_cmp_c)] h Q
/-- slices.choosePivotCmpFunc[livery/api.Value] -/
def S_slices_choosePivotCmpFunc_api_Value (g0_data : Sl) (g1_a : Int) (g2_b : Int) (g3_cmp_f : Nat) (g3_cmp_c : Array Value) (h : Hp) (Q : List Value → Hp → Prop) : Prop := Fn PP 151 #[(Value.slice g0_data.a g0_data.n g0_data.c), (Value.int .i64 g1_a), (Value.int .i64 g2_b), (Value.func (.func g3_cmp_f) #[] g3_cmp_c)] h Q
/-- slices.reverseRangeCmpFunc[livery/api.Value] -/
def S_slices_reverseRangeCmpFunc_api_Value (g0_data : Sl) (g1_a : Int) (g2_b : Int) (g3_cmp_f : Nat) (g3_cmp_c : Array Value) (h : Hp) (Q : List Value → Hp → Prop) : Prop := Fn PP 152 #[(Value.slice g0_data.a g0_data.n g0_data.c), (Value.int .i64 g1_a), (Value.int .i64 g2_b), (Value.func (.func g3_cmp_f) #[] g3_cmp_c)] h Q
/-- slices.partialInsertionSortCmpFunc[livery/api.Value] -/
def S_slices_partialInsertionSortCmpFunc_api_Value (g0_data : Sl) (g1_a : Int) (g2_b : Int) (g3_cmp_f : Nat) (g3_cmp_c : Array Value) (h : Hp) (Q : List Value → Hp → Prop) : Prop := Fn PP 153 #[(Value.slice g0_data.a g0_data.n g0_data.c), (Value.int .i64 g1_a), (Value.int .i64 g2_b), (Value.func (.func g3_cmp_f) #[] g3_cmp_c)] h Q
/-- slices.partitionEqualCmpFunc[livery/api.Value] -/
def S_slices_partitionEqualCmpFunc_api_Value (g0_data : Sl) (g1_a : Int) (g2_b : Int) (g3_pivot : Int) (g4_cmp_f : Nat) (g4_cmp_c : Array Value) (h : Hp) (Q : List Value → Hp → Prop) : Prop := Fn PP 154 #[(Value.slice g0_data.a g0_data.n g0_data.c), (Value.int .i64 g1_a), (Value.int .i64 g2_b), (Value.int .i64 g3_pivot), (Value.func (.func g4_cmp_f) #[] g4_cmp_c)] h Q
/-- slices.partitionCmpFunc[livery/api.Value] -/
def S_slices_partitionCmpFunc_api_Value (g0_data : Sl) (g1_a : Int) (g2_b : Int) (g3_pivot : Int) (g4_cmp_f : Nat) (g4_cmp_c : Array Value) (h : Hp) (Q : List Value → Hp → Prop) : Prop := Fn PP 155 #[(Value.slice g0_data.a g0_data.n g0_data.c), (Value.int .i64 g1_a), (Value.int .i64 g2_b), (Value.int .i64 g3_pivot), (Value.func (.func g4_cmp_f) #[] g4_cmp_c)] h Q
/-- slices.pdqsortCmpFunc[livery/api.Value] -/
def S_slices_pdqsortCmpFunc_api_Value (g0_data : Sl) (g1_a : Int) (g2_b : Int) (g3_limit : Int) (g4_cmp_f : Nat) (g4_cmp_c : Array Value) (h : Hp) (Q : List Value → Hp → Prop) : Prop := Fn PP 115 #[(Value.slice g0_data.a g0_data.n g0_data.c), (Value.int .i64 g1_a), (Value.int .i64 g2_b), (Value.int .i64 g3_limit), (Value.func (.func g4_cmp_f) #[] g4_cmp_c)] h Q
/-- slices.SortFunc[[]livery/api.Value,livery/api.Value] -/
def S_slices_SortFunc_sapi_Value_api_Value (g0_x : Sl) (g1_cmp_f : Nat) (g1_cmp_c : Array Value) (h : Hp) (Q : List Value → Hp → Prop) : Prop := Fn PP 78 #[(Value.slice g0_x.a g0_x.n g0_x.c), (Value.func (.func g1_cmp_f) #[] g1_cmp_c)] h Q
/-- cmp.Or[int] -/
def S_cmp_Or_int (g0_vals : Sl) (h : Hp) (Q : List Value → Hp → Prop) : Prop := Fn PP 117 #[(Value.slice g0_vals.a g0_vals.n g0_vals.c)] h Q
/-- cmp.Compare[int] -/
def S_cmp_Compare_int (g0_x : Int) (g1_y : Int) (h : Hp) (Q : List Value → Hp → Prop) : Prop := Fn PP 118 #[(Value.int .i64 g0_x), (Value.int .i64 g1_y)] h Q
/-- cmp.isNaN[int64] -/
def S_cmp_isNaN_int64 (g0_x : Int) (h : Hp) (Q : List Value → Hp → Prop) : Prop := Fn PP 159 #[(Value.int .i64 g0_x)] h Q
/-- cmp.Compare[int64] -/
def S_cmp_Compare_int64 (g0_x : Int) (g1_y : Int) (h : Hp) (Q : List Value → Hp → Prop) : Prop := Fn PP 119 #[(Value.int .i64 g0_x), (Value.int .i64 g1_y)] h Q
/-- livery/float.Compare -/
def S_float_Compare (g0_a : Nat) (g1_b : Nat) (h : Hp) (Q : List Value → Hp → Prop) : Prop := Fn PP 120 #[(Value.float .f64 g0_a), (Value.float .f64 g1_b)] h Q
/-- internal/bytealg.abigen_runtime_cmpstring -/
def S_internal_bytealg_abigen_runtime_cmpstring (g0_x : ByteArray) (g1_x : ByteArray) (h : Hp) (Q : List Value → Hp → Prop) : Prop := Fn PP 192 #[(Value.string g0_x), (Value.string g1_x)] h Q
/-- internal/bytealg.CompareString -/
def S_internal_bytealg_CompareString (g0_a : ByteArray) (g1_b : ByteArray) (h : Hp) (Q : List Value → Hp → Prop) : Prop := Fn PP 160 #[(Value.string g0_a), (Value.string g1_b)] h Q
/-- strings.Compare -/
def S_strings_Compare (g0_a : ByteArray) (g1_b : ByteArray) (h : Hp) (Q : List Value → Hp → Prop) : Prop := Fn PP 121 #[(Value.string g0_a), (Value.string g1_b)] h Q
/-- livery/value.Compare -/
def S_value_Compare (g0_a_0 : Int) (g0_a_1 : Int) (g0_a_2 : Nat) (g0_a_3 : ByteArray) (g1_b_0 : Int) (g1_b_1 : Int) (g1_b_2 : Nat) (g1_b_3 : ByteArray) (h : Hp) (Q : List Value → Hp → Prop) : Prop := Fn PP 79 #[(Value.agg #[(Value.int .i64 g0_a_0), (Value.int .i64 g0_a_1), (Value.float .f64 g0_a_2), (Value.string g0_a_3)]), (Value.agg #[(Value.int .i64 g1_b_0), (Value.int .i64 g1_b_1), (Value.float .f64 g1_b_2), (Value.string g1_b_3)])] h Q
/-- livery/value.Same -/
def S_value_Same (g0_a_0 : Int) (g0_a_1 : Int) (g0_a_2 : Nat) (g0_a_3 : ByteArray) (g1_b_0 : Int) (g1_b_1 : Int) (g1_b_2 : Nat) (g1_b_3 : ByteArray) (h : Hp) (Q : List Value → Hp → Prop) : Prop := Fn PP 80 #[(Value.agg #[(Value.int .i64 g0_a_0), (Value.int .i64 g0_a_1), (Value.float .f64 g0_a_2), (Value.string g0_a_3)]), (Value.agg #[(Value.int .i64 g1_b_0), (Value.int .i64 g1_b_1), (Value.float .f64 g1_b_2), (Value.string g1_b_3)])] h Q
/-- livery/define.twice -/
def S_define_twice (g0_l : Sl) (h : Hp) (Q : List Value → Hp → Prop) : Prop := Fn PP 31 #[(Value.slice g0_l.a g0_l.n g0_l.c)] h Q
/-- livery/define.Twice -/
def S_define_Twice (g0_s : Option Addr) (g1_xid : Int) (g2_rel : Int) (g3_cols : Sl) (g4_col : ByteArray) (h : Hp) (Q : List Value → Hp → Prop) : Prop := Fn PP 7 #[(Value.pointer g0_s), (Value.int .i64 g1_xid), (Value.int .i64 g2_rel), (Value.slice g3_cols.a g3_cols.n g3_cols.c), (Value.string g4_col)] h Q
/-- livery/liverylaw23.DefineNone -/
def S_liverylaw23_DefineNone (g0_x_0 : Int) (g0_x_1 : ByteArray) (g0_x_2 : ByteArray) (g0_x_3 : ByteArray) (g0_x_4 : ByteArray) (g0_x_5 : Int) (g0_x_6 : Int) (g0_x_7 : Nat) (g0_x_8 : ByteArray) (g0_x_9 : Int) (g0_x_10 : Int) (g0_x_11 : Nat) (g0_x_12 : ByteArray) (g0_x_13 : Sl) (g0_x_14 : Sl) (g0_x_15 : Bool) (g1_col : ByteArray) (h : Hp) (Q : List Value → Hp → Prop) : Prop := Fn PP 3 #[(Value.agg #[(Value.int .i64 g0_x_0), (Value.string g0_x_1), (Value.string g0_x_2), (Value.string g0_x_3), (Value.string g0_x_4), (Value.int .i64 g0_x_5), (Value.int .i64 g0_x_6), (Value.float .f64 g0_x_7), (Value.string g0_x_8), (Value.int .i64 g0_x_9), (Value.int .i64 g0_x_10), (Value.float .f64 g0_x_11), (Value.string g0_x_12), (Value.slice g0_x_13.a g0_x_13.n g0_x_13.c), (Value.slice g0_x_14.a g0_x_14.n g0_x_14.c), (Value.bool g0_x_15)]), (Value.string g1_col)] h Q
/-- (*livery/ssi.Ssi).Begin$1 -/
def S_ssi_Ssi_Begin_1 (g0_x : Int) (g1_x : Addr) (h : Hp) (Q : List Value → Hp → Prop) : Prop := Fn PP 35 #[(Value.int .i64 g0_x), (Value.pointer (some g1_x))] h Q
/-- livery/heap.New -/
def S_heap_New (h : Hp) (Q : List Value → Hp → Prop) : Prop := Fn PP 87 #[] h Q
/-- (*livery/table.Store).NewRel -/
def S_table_Store_NewRel (g0_s : Option Addr) (h : Hp) (Q : List Value → Hp → Prop) : Prop := Fn PP 41 #[(Value.pointer g0_s)] h Q
/-- slices.IndexFunc[[]livery/name.version,livery/name.version] -/
def S_slices_IndexFunc_sname_version_name_version (g0_s : Sl) (g1_f_f : Nat) (g1_f_c : Array Value) (h : Hp) (Q : List Value → Hp → Prop) : Prop := Fn PP 193 #[(Value.slice g0_s.a g0_s.n g0_s.c), (Value.func (.func g1_f_f) #[] g1_f_c)] h Q
/-- slices.ContainsFunc[[]livery/name.version,livery/name.version] -/
def S_slices_ContainsFunc_sname_version_name_version (g0_s : Sl) (g1_f_f : Nat) (g1_f_c : Array Value) (h : Hp) (Q : List Value → Hp → Prop) : Prop := Fn PP 161 #[(Value.slice g0_s.a g0_s.n g0_s.c), (Value.func (.func g1_f_f) #[] g1_f_c)] h Q
/-- (*livery/name.Names).others -/
def S_name_Names_others (g0_n : Option Addr) (g1_l : Option Addr) (g2_xid : Int) (g3_name : ByteArray) (h : Hp) (Q : List Value → Hp → Prop) : Prop := Fn PP 125 #[(Value.pointer g0_n), (Value.pointer g1_l), (Value.int .i64 g2_xid), (Value.string g3_name)] h Q
/-- (*livery/name.Names).Put -/
def S_name_Names_Put (g0_n : Option Addr) (g1_l : Option Addr) (g2_xid : Int) (g3_t_0 : ByteArray) (g3_t_1 : Sl) (g3_t_2 : Int) (h : Hp) (Q : List Value → Hp → Prop) : Prop := Fn PP 88 #[(Value.pointer g0_n), (Value.pointer g1_l), (Value.int .i64 g2_xid), (Value.agg #[(Value.string g3_t_0), (Value.slice g3_t_1.a g3_t_1.n g3_t_1.c), (Value.int .i64 g3_t_2)])] h Q
/-- (*livery/define.ground).put -/
def S_define_ground_put (g0_g : Option Addr) (g1_t_0 : ByteArray) (g1_t_1 : Sl) (g1_t_2 : Int) (h : Hp) (Q : List Value → Hp → Prop) : Prop := Fn PP 42 #[(Value.pointer g0_g), (Value.agg #[(Value.string g1_t_0), (Value.slice g1_t_1.a g1_t_1.n g1_t_1.c), (Value.int .i64 g1_t_2)])] h Q
/-- (*livery/define.ground).doings$1 -/
def S_define_ground_doings_1 (g0_x : Addr) (h : Hp) (Q : List Value → Hp → Prop) : Prop := Fn PP 40 #[(Value.pointer (some g0_x))] h Q
/-- (*livery/name.Names).Drop -/
def S_name_Names_Drop (g0_n : Option Addr) (g1_l : Option Addr) (g2_xid : Int) (g3_name : ByteArray) (h : Hp) (Q : List Value → Hp → Prop) : Prop := Fn PP 44 #[(Value.pointer g0_n), (Value.pointer g1_l), (Value.int .i64 g2_xid), (Value.string g3_name)] h Q
/-- (*livery/define.ground).doings$2 -/
def S_define_ground_doings_2 (g0_x : Addr) (h : Hp) (Q : List Value → Hp → Prop) : Prop := Fn PP 43 #[(Value.pointer (some g0_x))] h Q
/-- (*livery/define.ground).doings$3 -/
def S_define_ground_doings_3 (g0_x : Addr) (h : Hp) (Q : List Value → Hp → Prop) : Prop := Fn PP 45 #[(Value.pointer (some g0_x))] h Q
/-- (*livery/heap.Rel).Unseen -/
def S_heap_Rel_Unseen (g0_r : Option Addr) (g1_l : Option Addr) (g2_xid : Int) (g3_tid : Int) (h : Hp) (Q : List Value → Hp → Prop) : Prop := Fn PP 89 #[(Value.pointer g0_r), (Value.pointer g1_l), (Value.int .i64 g2_xid), (Value.int .i64 g3_tid)] h Q
/-- slices.IndexFunc[[]*livery/table.entries,*livery/table.entries] -/
def S_slices_IndexFunc_sptable_entries_ptable_entries (g0_s : Sl) (g1_f_f : Nat) (g1_f_c : Array Value) (h : Hp) (Q : List Value → Hp → Prop) : Prop := Fn PP 128 #[(Value.slice g0_s.a g0_s.n g0_s.c), (Value.func (.func g1_f_f) #[] g1_f_c)] h Q
/-- (*livery/table.Store).get -/
def S_table_Store_get (g0_s : Option Addr) (g1_rel : Int) (g2_name : ByteArray) (h : Hp) (Q : List Value → Hp → Prop) : Prop := Fn PP 92 #[(Value.pointer g0_s), (Value.int .i64 g1_rel), (Value.string g2_name)] h Q
/-- livery/leaf.New -/
def S_leaf_New (g0_fan : Int) (h : Hp) (Q : List Value → Hp → Prop) : Prop := Fn PP 194 #[(Value.int .i64 g0_fan)] h Q
/-- livery/index.New -/
def S_index_New (g0_fan : Int) (h : Hp) (Q : List Value → Hp → Prop) : Prop := Fn PP 163 #[(Value.int .i64 g0_fan)] h Q
/-- (*livery/table.Store).add -/
def S_table_Store_add (g0_s : Option Addr) (g1_r : Option Addr) (g2_x_0 : ByteArray) (g2_x_1 : ByteArray) (g2_x_2 : Bool) (g2_x_3 : Int) (g2_x_4 : Int) (g2_x_5 : Int) (h : Hp) (Q : List Value → Hp → Prop) : Prop := Fn PP 126 #[(Value.pointer g0_s), (Value.pointer g1_r), (Value.agg #[(Value.string g2_x_0), (Value.string g2_x_1), (Value.bool g2_x_2), (Value.int .i64 g2_x_3), (Value.int .i64 g2_x_4), (Value.int .i64 g2_x_5)])] h Q
/-- (*livery/table.Store).Make -/
def S_table_Store_Make (g0_s : Option Addr) (g1_xid : Int) (g2_rel : Int) (g3_x_0 : ByteArray) (g3_x_1 : ByteArray) (g3_x_2 : Bool) (g3_x_3 : Int) (g4_cols : Sl) (h : Hp) (Q : List Value → Hp → Prop) : Prop := Fn PP 90 #[(Value.pointer g0_s), (Value.int .i64 g1_xid), (Value.int .i64 g2_rel), (Value.agg #[(Value.string g3_x_0), (Value.string g3_x_1), (Value.bool g3_x_2), (Value.int .i64 g3_x_3)]), (Value.slice g4_cols.a g4_cols.n g4_cols.c)] h Q
/-- strings.Join -/
def S_strings_Join (g0_elems : Sl) (g1_sep : ByteArray) (h : Hp) (Q : List Value → Hp → Prop) : Prop := Fn PP 227 #[(Value.slice g0_elems.a g0_elems.n g0_elems.c), (Value.string g1_sep)] h Q
/-- livery/key.joined -/
def S_key_joined (g0_l : Sl) (h : Hp) (Q : List Value → Hp → Prop) : Prop := Fn PP 210 #[(Value.slice g0_l.a g0_l.n g0_l.c)] h Q
/-- livery/key.eight -/
def S_key_eight (g0_u : Int) (h : Hp) (Q : List Value → Hp → Prop) : Prop := Fn PP 224 #[(Value.int .u64 g0_u)] h Q
/-- math.Float64bits -/
def S_math_Float64bits (g0_x : Nat) (h : Hp) (Q : List Value → Hp → Prop) : Prop := Fn PP 220 #[(Value.float .f64 g0_x)] h Q
/-- math.Float64frombits -/
def S_math_Float64frombits (g0_x : Int) (h : Hp) (Q : List Value → Hp → Prop) : Prop := Fn PP 236 #[(Value.int .u64 g0_x)] h Q
/-- livery/float.Canon -/
def S_float_Canon (g0_f : Nat) (h : Hp) (Q : List Value → Hp → Prop) : Prop := Fn PP 221 #[(Value.float .f64 g0_f)] h Q
/-- livery/float.Bits -/
def S_float_Bits (g0_f : Nat) (h : Hp) (Q : List Value → Hp → Prop) : Prop := Fn PP 225 #[(Value.float .f64 g0_f)] h Q
/-- internal/bytealg.MakeNoZero -/
def S_internal_bytealg_MakeNoZero (g0_x : Int) (h : Hp) (Q : List Value → Hp → Prop) : Prop := Fn PP 267 #[(Value.int .i64 g0_x)] h Q
/-- (*strings.Builder).grow -/
def S_strings_Builder_grow (g0_b : Option Addr) (g1_n : Int) (h : Hp) (Q : List Value → Hp → Prop) : Prop := Fn PP 256 #[(Value.pointer g0_b), (Value.int .i64 g1_n)] h Q
/-- (*strings.Builder).Grow -/
def S_strings_Builder_Grow (g0_b : Option Addr) (g1_n : Int) (h : Hp) (Q : List Value → Hp → Prop) : Prop := Fn PP 239 #[(Value.pointer g0_b), (Value.int .i64 g1_n)] h Q
/-- (*strings.Builder).WriteString -/
def S_strings_Builder_WriteString (g0_b : Option Addr) (g1_s : ByteArray) (h : Hp) (Q : List Value → Hp → Prop) : Prop := Fn PP 240 #[(Value.pointer g0_b), (Value.string g1_s)] h Q
/-- (*strings.Builder).String -/
def S_strings_Builder_String (g0_b : Option Addr) (h : Hp) (Q : List Value → Hp → Prop) : Prop := Fn PP 241 #[(Value.pointer g0_b)] h Q
/-- internal/bytealg.IndexByteString -/
def S_internal_bytealg_IndexByteString (g0_x : ByteArray) (g1_x : Int) (h : Hp) (Q : List Value → Hp → Prop) : Prop := Fn PP 273 #[(Value.string g0_x), (Value.int .u8 g1_x)] h Q
/-- internal/stringslite.IndexByte -/
def S_internal_stringslite_IndexByte (g0_s : ByteArray) (g1_c : Int) (h : Hp) (Q : List Value → Hp → Prop) : Prop := Fn PP 269 #[(Value.string g0_s), (Value.int .u8 g1_c)] h Q
/-- internal/bytealg.IndexString -/
def S_internal_bytealg_IndexString (g0_x : ByteArray) (g1_x : ByteArray) (h : Hp) (Q : List Value → Hp → Prop) : Prop := Fn PP 270 #[(Value.string g0_x), (Value.string g1_x)] h Q
/-- internal/bytealg.Cutover -/
def S_internal_bytealg_Cutover (g0_n : Int) (h : Hp) (Q : List Value → Hp → Prop) : Prop := Fn PP 271 #[(Value.int .i64 g0_n)] h Q
/-- internal/bytealg.hashStr[string] -/
def S_internal_bytealg_hashStr_string (g0_sep : ByteArray) (h : Hp) (Q : List Value → Hp → Prop) : Prop := Fn PP 274 #[(Value.string g0_sep)] h Q
/-- internal/bytealg.IndexRabinKarp[string] -/
def S_internal_bytealg_IndexRabinKarp_string (g0_s : ByteArray) (g1_sep : ByteArray) (h : Hp) (Q : List Value → Hp → Prop) : Prop := Fn PP 272 #[(Value.string g0_s), (Value.string g1_sep)] h Q
/-- internal/stringslite.Index -/
def S_internal_stringslite_Index (g0_s : ByteArray) (g1_substr : ByteArray) (h : Hp) (Q : List Value → Hp → Prop) : Prop := Fn PP 264 #[(Value.string g0_s), (Value.string g1_substr)] h Q
/-- strings.Index -/
def S_strings_Index (g0_s : ByteArray) (g1_substr : ByteArray) (h : Hp) (Q : List Value → Hp → Prop) : Prop := Fn PP 253 #[(Value.string g0_s), (Value.string g1_substr)] h Q
/-- unicode/utf8.RuneCountInString -/
def S_unicode_utf8_RuneCountInString (g0_s : ByteArray) (h : Hp) (Q : List Value → Hp → Prop) : Prop := Fn PP 262 #[(Value.string g0_s)] h Q
/-- internal/bytealg.CountString -/
def S_internal_bytealg_CountString (g0_x : ByteArray) (g1_x : Int) (h : Hp) (Q : List Value → Hp → Prop) : Prop := Fn PP 263 #[(Value.string g0_x), (Value.int .u8 g1_x)] h Q
/-- strings.Count -/
def S_strings_Count (g0_s : ByteArray) (g1_substr : ByteArray) (h : Hp) (Q : List Value → Hp → Prop) : Prop := Fn PP 252 #[(Value.string g0_s), (Value.string g1_substr)] h Q
/-- unicode/utf8.decodeRuneInStringSlow -/
def S_unicode_utf8_decodeRuneInStringSlow (g0_s : ByteArray) (h : Hp) (Q : List Value → Hp → Prop) : Prop := Fn PP 265 #[(Value.string g0_s)] h Q
/-- unicode/utf8.DecodeRuneInString -/
def S_unicode_utf8_DecodeRuneInString (g0_s : ByteArray) (h : Hp) (Q : List Value → Hp → Prop) : Prop := Fn PP 254 #[(Value.string g0_s)] h Q
/-- strings.Replace -/
def S_strings_Replace (g0_s : ByteArray) (g1_old : ByteArray) (g2_new : ByteArray) (g3_n : Int) (h : Hp) (Q : List Value → Hp → Prop) : Prop := Fn PP 238 #[(Value.string g0_s), (Value.string g1_old), (Value.string g2_new), (Value.int .i64 g3_n)] h Q
/-- strings.ReplaceAll -/
def S_strings_ReplaceAll (g0_s : ByteArray) (g1_old : ByteArray) (g2_new : ByteArray) (h : Hp) (Q : List Value → Hp → Prop) : Prop := Fn PP 226 #[(Value.string g0_s), (Value.string g1_old), (Value.string g2_new)] h Q
/-- livery/key.Of -/
def S_key_Of (g0_v_0 : Int) (g0_v_1 : Int) (g0_v_2 : Nat) (g0_v_3 : ByteArray) (h : Hp) (Q : List Value → Hp → Prop) : Prop := Fn PP 209 #[(Value.agg #[(Value.int .i64 g0_v_0), (Value.int .i64 g0_v_1), (Value.float .f64 g0_v_2), (Value.string g0_v_3)])] h Q
/-- livery/key.Entry -/
def S_key_Entry (g0_v_0 : Int) (g0_v_1 : Int) (g0_v_2 : Nat) (g0_v_3 : ByteArray) (g1_n : Int) (h : Hp) (Q : List Value → Hp → Prop) : Prop := Fn PP 195 #[(Value.agg #[(Value.int .i64 g0_v_0), (Value.int .i64 g0_v_1), (Value.float .f64 g0_v_2), (Value.string g0_v_3)]), (Value.int .i64 g1_n)] h Q
/-- (*livery/leaf.Leaves).at -/
def S_leaf_Leaves_at (g0_x : Option Addr) (g1_k : ByteArray) (h : Hp) (Q : List Value → Hp → Prop) : Prop := Fn PP 211 #[(Value.pointer g0_x), (Value.string g1_k)] h Q
/-- cmp.isNaN[string] -/
def S_cmp_isNaN_string (g0_x : ByteArray) (h : Hp) (Q : List Value → Hp → Prop) : Prop := Fn PP 175 #[(Value.string g0_x)] h Q
/-- cmp.Less[string] -/
def S_cmp_Less_string (g0_x : ByteArray) (g1_y : ByteArray) (h : Hp) (Q : List Value → Hp → Prop) : Prop := Fn PP 228 #[(Value.string g0_x), (Value.string g1_y)] h Q
/-- slices.isNaN[string] -/
def S_slices_isNaN_string (g0_x : ByteArray) (h : Hp) (Q : List Value → Hp → Prop) : Prop := Fn PP 229 #[(Value.string g0_x)] h Q
/-- slices.BinarySearch[[]string,string] -/
def S_slices_BinarySearch_sstring_string (g0_x : Sl) (g1_target : ByteArray) (h : Hp) (Q : List Value → Hp → Prop) : Prop := Fn PP 212 #[(Value.slice g0_x.a g0_x.n g0_x.c), (Value.string g1_target)] h Q
/-- slices.overlaps[string] -/
def S_slices_overlaps_string (g0_x : Sl) (g1_x : Sl) (h : Hp) (Q : List Value → Hp → Prop) : Prop := Fn PP 230 #[(Value.slice g0_x.a g0_x.n g0_x.c), (Value.slice g1_x.a g1_x.n g1_x.c)] h Q
/-- slices.Reverse[[]string,string] -/
def S_slices_Reverse_sstring_string (g0_s : Sl) (h : Hp) (Q : List Value → Hp → Prop) : Prop := Fn PP 257 #[(Value.slice g0_s.a g0_s.n g0_s.c)] h Q
/-- slices.rotateLeft[string] -/
def S_slices_rotateLeft_string (g0_s : Sl) (g1_r : Int) (h : Hp) (Q : List Value → Hp → Prop) : Prop := Fn PP 242 #[(Value.slice g0_s.a g0_s.n g0_s.c), (Value.int .i64 g1_r)] h Q
/-- slices.rotateRight[string] -/
def S_slices_rotateRight_string (g0_s : Sl) (g1_r : Int) (h : Hp) (Q : List Value → Hp → Prop) : Prop := Fn PP 231 #[(Value.slice g0_s.a g0_s.n g0_s.c), (Value.int .i64 g1_r)] h Q
/-- slices.Insert[[]string,string] -/
def S_slices_Insert_sstring_string (g0_s : Sl) (g1_i : Int) (g2_v : Sl) (h : Hp) (Q : List Value → Hp → Prop) : Prop := Fn PP 213 #[(Value.slice g0_s.a g0_s.n g0_s.c), (Value.int .i64 g1_i), (Value.slice g2_v.a g2_v.n g2_v.c)] h Q
/-- slices.Clone[[]string,string] -/
def S_slices_Clone_sstring_string (g0_s : Sl) (h : Hp) (Q : List Value → Hp → Prop) : Prop := Fn PP 214 #[(Value.slice g0_s.a g0_s.n g0_s.c)] h Q
/-- slices.overlaps[*livery/leaf.one] -/
def S_slices_overlaps_pleaf_one (g0_x : Sl) (g1_x : Sl) (h : Hp) (Q : List Value → Hp → Prop) : Prop := Fn PP 232 #[(Value.slice g0_x.a g0_x.n g0_x.c), (Value.slice g1_x.a g1_x.n g1_x.c)] h Q
/-- slices.Reverse[[]*livery/leaf.one,*livery/leaf.one] -/
def S_slices_Reverse_spleaf_one_pleaf_one (g0_s : Sl) (h : Hp) (Q : List Value → Hp → Prop) : Prop := Fn PP 258 #[(Value.slice g0_s.a g0_s.n g0_s.c)] h Q
/-- slices.rotateLeft[*livery/leaf.one] -/
def S_slices_rotateLeft_pleaf_one (g0_s : Sl) (g1_r : Int) (h : Hp) (Q : List Value → Hp → Prop) : Prop := Fn PP 243 #[(Value.slice g0_s.a g0_s.n g0_s.c), (Value.int .i64 g1_r)] h Q
/-- slices.rotateRight[*livery/leaf.one] -/
def S_slices_rotateRight_pleaf_one (g0_s : Sl) (g1_r : Int) (h : Hp) (Q : List Value → Hp → Prop) : Prop := Fn PP 233 #[(Value.slice g0_s.a g0_s.n g0_s.c), (Value.int .i64 g1_r)] h Q
/-- slices.Insert[[]*livery/leaf.one,*livery/leaf.one] -/
def S_slices_Insert_spleaf_one_pleaf_one (g0_s : Sl) (g1_i : Int) (g2_v : Sl) (h : Hp) (Q : List Value → Hp → Prop) : Prop := Fn PP 215 #[(Value.slice g0_s.a g0_s.n g0_s.c), (Value.int .i64 g1_i), (Value.slice g2_v.a g2_v.n g2_v.c)] h Q
/-- (*livery/leaf.Leaves).Insert -/
def S_leaf_Leaves_Insert (g0_x : Option Addr) (g1_k : ByteArray) (h : Hp) (Q : List Value → Hp → Prop) : Prop := Fn PP 196 #[(Value.pointer g0_x), (Value.string g1_k)] h Q
/-- (*livery/index.Index).Add -/
def S_index_Index_Add (g0_x : Option Addr) (g1_v_0 : Int) (g1_v_1 : Int) (g1_v_2 : Nat) (g1_v_3 : ByteArray) (g2_tid : Int) (h : Hp) (Q : List Value → Hp → Prop) : Prop := Fn PP 164 #[(Value.pointer g0_x), (Value.agg #[(Value.int .i64 g1_v_0), (Value.int .i64 g1_v_1), (Value.float .f64 g1_v_2), (Value.string g1_v_3)]), (Value.int .i64 g2_tid)] h Q
/-- (*livery/table.entries).of -/
def S_table_entries_of (g0_x : Option Addr) (g1_r : Sl) (g2_cols : Sl) (h : Hp) (Q : List Value → Hp → Prop) : Prop := Fn PP 165 #[(Value.pointer g0_x), (Value.slice g1_r.a g1_r.n g1_r.c), (Value.slice g2_cols.a g2_cols.n g2_cols.c)] h Q
/-- (*livery/table.rel).fill -/
def S_table_rel_fill (g0_r : Option Addr) (g1_x : Option Addr) (g2_cols : Sl) (h : Hp) (Q : List Value → Hp → Prop) : Prop := Fn PP 127 #[(Value.pointer g0_r), (Value.pointer g1_x), (Value.slice g2_cols.a g2_cols.n g2_cols.c)] h Q
/-- (*livery/table.Store).Fill -/
def S_table_Store_Fill (g0_s : Option Addr) (g1_rel : Int) (g2_name : ByteArray) (g3_cols : Sl) (h : Hp) (Q : List Value → Hp → Prop) : Prop := Fn PP 91 #[(Value.pointer g0_s), (Value.int .i64 g1_rel), (Value.string g2_name), (Value.slice g3_cols.a g3_cols.n g3_cols.c)] h Q
/-- (*livery/define.ground).index -/
def S_define_ground_index (g0_g : Option Addr) (h : Hp) (Q : List Value → Hp → Prop) : Prop := Fn PP 46 #[(Value.pointer g0_g)] h Q
/-- (*livery/table.Store).Remove -/
def S_table_Store_Remove (g0_s : Option Addr) (g1_xid : Int) (g2_rel : Int) (g3_name : ByteArray) (h : Hp) (Q : List Value → Hp → Prop) : Prop := Fn PP 48 #[(Value.pointer g0_s), (Value.int .i64 g1_xid), (Value.int .i64 g2_rel), (Value.string g3_name)] h Q
/-- (*livery/ssi.Ssi).Table -/
def S_ssi_Ssi_Table (g0_s : Option Addr) (h : Hp) (Q : List Value → Hp → Prop) : Prop := Fn PP 49 #[(Value.pointer g0_s)] h Q
/-- (*livery/siread.Table).Index -/
def S_siread_Table_Index (g0_t : Option Addr) (g1_rel : Int) (g2_index : ByteArray) (h : Hp) (Q : List Value → Hp → Prop) : Prop := Fn PP 50 #[(Value.pointer g0_t), (Value.int .i64 g1_rel), (Value.string g2_index)] h Q
/-- (*livery/define.ground).doings$4 -/
def S_define_ground_doings_4 (g0_x : Addr) (h : Hp) (Q : List Value → Hp → Prop) : Prop := Fn PP 47 #[(Value.pointer (some g0_x))] h Q
/-- (*livery/clog.Log).Clock -/
def S_clog_Log_Clock (g0_l : Option Addr) (h : Hp) (Q : List Value → Hp → Prop) : Prop := Fn PP 219 #[(Value.pointer g0_l)] h Q
/-- (*livery/clog.Log).Horizon -/
def S_clog_Log_Horizon (g0_l : Option Addr) (h : Hp) (Q : List Value → Hp → Prop) : Prop := Fn PP 200 #[(Value.pointer g0_l)] h Q
/-- livery/heap.over -/
def S_heap_over (g0_l : Option Addr) (g1_x_0 : Int) (g1_x_1 : Int) (g1_x_2 : Sl) (h : Hp) (Q : List Value → Hp → Prop) : Prop := Fn PP 167 #[(Value.pointer g0_l), (Value.agg #[(Value.int .i64 g1_x_0), (Value.int .i64 g1_x_1), (Value.slice g1_x_2.a g1_x_2.n g1_x_2.c)])] h Q
/-- (*livery/heap.Rel).Copy -/
def S_heap_Rel_Copy (g0_r : Option Addr) (g1_l : Option Addr) (h : Hp) (Q : List Value → Hp → Prop) : Prop := Fn PP 133 #[(Value.pointer g0_r), (Value.pointer g1_l)] h Q
/-- (*livery/siread.Table).Rough -/
def S_siread_Table_Rough (g0_t : Option Addr) (g1_rel : Int) (g2_to : Int) (h : Hp) (Q : List Value → Hp → Prop) : Prop := Fn PP 134 #[(Value.pointer g0_t), (Value.int .i64 g1_rel), (Value.int .i64 g2_to)] h Q
/-- (*livery/table.Store).Move -/
def S_table_Store_Move (g0_s : Option Addr) (g1_xid : Int) (g2_from : Int) (g3_cols : Sl) (g4_rows : Bool) (h : Hp) (Q : List Value → Hp → Prop) : Prop := Fn PP 96 #[(Value.pointer g0_s), (Value.int .i64 g1_xid), (Value.int .i64 g2_from), (Value.slice g3_cols.a g3_cols.n g3_cols.c), (Value.bool g4_rows)] h Q
/-- (*livery/define.ground).move -/
def S_define_ground_move (g0_g : Option Addr) (g1_rows : Bool) (h : Hp) (Q : List Value → Hp → Prop) : Prop := Fn PP 52 #[(Value.pointer g0_g), (Value.bool g1_rows)] h Q
/-- (*livery/define.ground).doings$5 -/
def S_define_ground_doings_5 (g0_x : Addr) (h : Hp) (Q : List Value → Hp → Prop) : Prop := Fn PP 51 #[(Value.pointer (some g0_x))] h Q
/-- (*livery/define.ground).doings$6 -/
def S_define_ground_doings_6 (g0_x : Addr) (h : Hp) (Q : List Value → Hp → Prop) : Prop := Fn PP 53 #[(Value.pointer (some g0_x))] h Q
/-- (*livery/name.Names).May$1 -/
def S_name_Names_May_1 (g0_x : Int) (g1_x : Addr) (h : Hp) (Q : List Value → Hp → Prop) : Prop := Fn PP 62 #[(Value.int .i64 g0_x), (Value.pointer (some g1_x))] h Q
/-- livery/row.Find$1 -/
def S_row_Find_1 (g0_c_0 : ByteArray) (g0_c_1 : Int) (g0_c_2 : Bool) (g0_c_3 : Int) (g0_c_4 : Int) (g0_c_5 : Nat) (g0_c_6 : ByteArray) (g1_x : Addr) (h : Hp) (Q : List Value → Hp → Prop) : Prop := Fn PP 70 #[(Value.agg #[(Value.string g0_c_0), (Value.int .i64 g0_c_1), (Value.bool g0_c_2), (Value.int .i64 g0_c_3), (Value.int .i64 g0_c_4), (Value.float .f64 g0_c_5), (Value.string g0_c_6)]), (Value.pointer (some g1_x))] h Q
/-- (*livery/siread.Table).Index$1 -/
def S_siread_Table_Index_1 (g0_y_0 : Int) (g0_y_1 : ByteArray) (g0_y_2 : Int) (g0_y_3 : ByteArray) (g0_y_4 : Int) (g1_x : Addr) (g2_x : Addr) (h : Hp) (Q : List Value → Hp → Prop) : Prop := Fn PP 94 #[(Value.agg #[(Value.int .i64 g0_y_0), (Value.string g0_y_1), (Value.int .i64 g0_y_2), (Value.string g0_y_3), (Value.int .i64 g0_y_4)]), (Value.pointer (some g1_x)), (Value.pointer (some g2_x))] h Q
/-- (*livery/define.ground).standing$1 -/
def S_define_ground_standing_1 (g0_x_0 : ByteArray) (g0_x_1 : ByteArray) (g0_x_2 : Bool) (g0_x_3 : Int) (g0_x_4 : Int) (g0_x_5 : Int) (g1_x : Addr) (h : Hp) (Q : List Value → Hp → Prop) : Prop := Fn PP 100 #[(Value.agg #[(Value.string g0_x_0), (Value.string g0_x_1), (Value.bool g0_x_2), (Value.int .i64 g0_x_3), (Value.int .i64 g0_x_4), (Value.int .i64 g0_x_5)]), (Value.pointer (some g1_x))] h Q
/-- (*livery/siread.Table).Owners$1 -/
def S_siread_Table_Owners_1 (g0_y_0 : Int) (g0_y_1 : ByteArray) (g0_y_2 : Int) (g0_y_3 : ByteArray) (g0_y_4 : Int) (g1_x : Addr) (h : Hp) (Q : List Value → Hp → Prop) : Prop := Fn PP 105 #[(Value.agg #[(Value.int .i64 g0_y_0), (Value.string g0_y_1), (Value.int .i64 g0_y_2), (Value.string g0_y_3), (Value.int .i64 g0_y_4)]), (Value.pointer (some g1_x))] h Q
/-- maps.Keys[map[int]livery/api.Tuple,int,livery/api.Tuple]$1 -/
def S_maps_Keys_map_int_api_Tuple_int_api_Tuple_1 (g0_yield_f : Nat) (g0_yield_c : Array Value) (g1_x : Addr) (h : Hp) (Q : List Value → Hp → Prop) : Prop := Fn PP 114 #[(Value.func (.func g0_yield_f) #[] g0_yield_c), (Value.pointer (some g1_x))] h Q
/-- (*livery/table.Store).get$1 -/
def S_table_Store_get_1 (g0_x : Option Addr) (g1_x : Addr) (h : Hp) (Q : List Value → Hp → Prop) : Prop := Fn PP 129 #[(Value.pointer g0_x), (Value.pointer (some g1_x))] h Q
/-- (*livery/siread.Table).take$1 -/
def S_siread_Table_take_1 (g0_y_0 : Int) (g0_y_1 : ByteArray) (g0_y_2 : Int) (g0_y_3 : ByteArray) (g0_y_4 : Int) (g1_x : Addr) (h : Hp) (Q : List Value → Hp → Prop) : Prop := Fn PP 132 #[(Value.agg #[(Value.int .i64 g0_y_0), (Value.string g0_y_1), (Value.int .i64 g0_y_2), (Value.string g0_y_3), (Value.int .i64 g0_y_4)]), (Value.pointer (some g1_x))] h Q
/-- maps.Keys[map[int]int,int,int]$1 -/
def S_maps_Keys_map_int_int_int_int_1 (g0_yield_f : Nat) (g0_yield_c : Array Value) (g1_x : Addr) (h : Hp) (Q : List Value → Hp → Prop) : Prop := Fn PP 136 #[(Value.func (.func g0_yield_f) #[] g0_yield_c), (Value.pointer (some g1_x))] h Q
/-- cmp.Compare[string] -/
def S_cmp_Compare_string (g0_x : ByteArray) (g1_y : ByteArray) (h : Hp) (Q : List Value → Hp → Prop) : Prop := Fn PP 141 #[(Value.string g0_x), (Value.string g1_y)] h Q
/-- (*livery/table.Store).standing$1 -/
def S_table_Store_standing_1 (g0_a : Option Addr) (g1_b : Option Addr) (h : Hp) (Q : List Value → Hp → Prop) : Prop := Fn PP 140 #[(Value.pointer g0_a), (Value.pointer g1_b)] h Q
/-- math/bits.Len32 -/
def S_math_bits_Len32 (g0_x : Int) (h : Hp) (Q : List Value → Hp → Prop) : Prop := Fn PP 156 #[(Value.int .u32 g0_x)] h Q
/-- (*livery/name.Names).others$1 -/
def S_name_Names_others_1 (g0_v_0 : Int) (g0_v_1 : Int) (g0_v_2 : ByteArray) (g0_v_3 : Sl) (g0_v_4 : Int) (g1_x : Addr) (g2_x : Addr) (h : Hp) (Q : List Value → Hp → Prop) : Prop := Fn PP 162 #[(Value.agg #[(Value.int .i64 g0_v_0), (Value.int .i64 g0_v_1), (Value.string g0_v_2), (Value.slice g0_v_3.a g0_v_3.n g0_v_3.c), (Value.int .i64 g0_v_4)]), (Value.pointer (some g1_x)), (Value.pointer (some g2_x))] h Q
/-- (*livery/siread.Table).Rough$1 -/
def S_siread_Table_Rough_1 (g0_y_0 : Int) (g0_y_1 : ByteArray) (g0_y_2 : Int) (g0_y_3 : ByteArray) (g0_y_4 : Int) (g1_x : Addr) (h : Hp) (Q : List Value → Hp → Prop) : Prop := Fn PP 168 #[(Value.agg #[(Value.int .i64 g0_y_0), (Value.string g0_y_1), (Value.int .i64 g0_y_2), (Value.string g0_y_3), (Value.int .i64 g0_y_4)]), (Value.pointer (some g1_x))] h Q
/-- (livery/value.own).bare -/
def S_value_own_bare (g0_v_0 : Int) (g0_v_1 : Int) (g0_v_2 : Nat) (g0_v_3 : ByteArray) (g1_n : Bool) (g2_f : Bool) (g3_s : Bool) (h : Hp) (Q : List Value → Hp → Prop) : Prop := Fn PP 201 #[(Value.agg #[(Value.int .i64 g0_v_0), (Value.int .i64 g0_v_1), (Value.float .f64 g0_v_2), (Value.string g0_v_3)]), (Value.bool g1_n), (Value.bool g2_f), (Value.bool g3_s)] h Q
/-- (livery/value.own).null -/
def S_value_own_null (g0_v_0 : Int) (g0_v_1 : Int) (g0_v_2 : Nat) (g0_v_3 : ByteArray) (h : Hp) (Q : List Value → Hp → Prop) : Prop := Fn PP 169 #[(Value.agg #[(Value.int .i64 g0_v_0), (Value.int .i64 g0_v_1), (Value.float .f64 g0_v_2), (Value.string g0_v_3)])] h Q
/-- (livery/value.own).bool -/
def S_value_own_bool (g0_v_0 : Int) (g0_v_1 : Int) (g0_v_2 : Nat) (g0_v_3 : ByteArray) (h : Hp) (Q : List Value → Hp → Prop) : Prop := Fn PP 170 #[(Value.agg #[(Value.int .i64 g0_v_0), (Value.int .i64 g0_v_1), (Value.float .f64 g0_v_2), (Value.string g0_v_3)])] h Q
/-- (livery/value.own).int -/
def S_value_own_int (g0_v_0 : Int) (g0_v_1 : Int) (g0_v_2 : Nat) (g0_v_3 : ByteArray) (h : Hp) (Q : List Value → Hp → Prop) : Prop := Fn PP 171 #[(Value.agg #[(Value.int .i64 g0_v_0), (Value.int .i64 g0_v_1), (Value.float .f64 g0_v_2), (Value.string g0_v_3)])] h Q
/-- livery/float.Is -/
def S_float_Is (g0_f : Nat) (h : Hp) (Q : List Value → Hp → Prop) : Prop := Fn PP 202 #[(Value.float .f64 g0_f)] h Q
/-- (livery/value.own).float -/
def S_value_own_float (g0_v_0 : Int) (g0_v_1 : Int) (g0_v_2 : Nat) (g0_v_3 : ByteArray) (h : Hp) (Q : List Value → Hp → Prop) : Prop := Fn PP 172 #[(Value.agg #[(Value.int .i64 g0_v_0), (Value.int .i64 g0_v_1), (Value.float .f64 g0_v_2), (Value.string g0_v_3)])] h Q
/-- (livery/value.own).text -/
def S_value_own_text (g0_v_0 : Int) (g0_v_1 : Int) (g0_v_2 : Nat) (g0_v_3 : ByteArray) (h : Hp) (Q : List Value → Hp → Prop) : Prop := Fn PP 173 #[(Value.agg #[(Value.int .i64 g0_v_0), (Value.int .i64 g0_v_1), (Value.float .f64 g0_v_2), (Value.string g0_v_3)])] h Q
/-- livery/siread.compare -/
def S_siread_compare (g0_a_0 : Int) (g0_a_1 : ByteArray) (g0_a_2 : Int) (g0_a_3 : ByteArray) (g0_a_4 : Int) (g1_b_0 : Int) (g1_b_1 : ByteArray) (g1_b_2 : Int) (g1_b_3 : ByteArray) (g1_b_4 : Int) (h : Hp) (Q : List Value → Hp → Prop) : Prop := Fn PP 199 #[(Value.agg #[(Value.int .i64 g0_a_0), (Value.string g0_a_1), (Value.int .i64 g0_a_2), (Value.string g0_a_3), (Value.int .i64 g0_a_4)]), (Value.agg #[(Value.int .i64 g1_b_0), (Value.string g1_b_1), (Value.int .i64 g1_b_2), (Value.string g1_b_3), (Value.int .i64 g1_b_4)])] h Q
/-- maps.Keys[map[livery/siread.Thing]int,livery/siread.Thing,int]$1 -/
def S_maps_Keys_map_siread_Thing_int_siread_Thing_int_1 (g0_yield_f : Nat) (g0_yield_c : Array Value) (g1_x : Addr) (h : Hp) (Q : List Value → Hp → Prop) : Prop := Fn PP 218 #[(Value.func (.func g0_yield_f) #[] g0_yield_c), (Value.pointer (some g1_x))] h Q
/-- (*strings.Builder).copyCheck -/
def S_strings_Builder_copyCheck (g0_b : Option Addr) (h : Hp) (Q : List Value → Hp → Prop) : Prop := Fn PP 255 #[(Value.pointer g0_b)] h Q
/-- internal/abi.NoEscape -/
def S_internal_abi_NoEscape (g0_x : Option Addr) (h : Hp) (Q : List Value → Hp → Prop) : Prop := Fn PP 266 #[(Value.pointer g0_x)] h Q
/-- (runtime.boundsError).Error -/
def S_runtime_boundsError_Error (g0_x_0 : Int) (g0_x_1 : Int) (g0_x_2 : Bool) (g0_x_3 : Int) (h : Hp) (Q : List Value → Hp → Prop) : Prop := Fn PP 275 #[(Value.agg #[(Value.int .i64 g0_x_0), (Value.int .i64 g0_x_1), (Value.bool g0_x_2), (Value.int .u8 g0_x_3)])] h Q
/-- (runtime.boundsError).RuntimeError -/
def S_runtime_boundsError_RuntimeError (g0_x_0 : Int) (g0_x_1 : Int) (g0_x_2 : Bool) (g0_x_3 : Int) (h : Hp) (Q : List Value → Hp → Prop) : Prop := Fn PP 276 #[(Value.agg #[(Value.int .i64 g0_x_0), (Value.int .i64 g0_x_1), (Value.bool g0_x_2), (Value.int .u8 g0_x_3)])] h Q
/-- (runtime.errorString).Error -/
def S_runtime_errorString_Error (g0_x : ByteArray) (h : Hp) (Q : List Value → Hp → Prop) : Prop := Fn PP 277 #[(Value.string g0_x)] h Q
/-- (runtime.errorString).RuntimeError -/
def S_runtime_errorString_RuntimeError (g0_x : ByteArray) (h : Hp) (Q : List Value → Hp → Prop) : Prop := Fn PP 278 #[(Value.string g0_x)] h Q
/-- (runtime.plainError).Error -/
def S_runtime_plainError_Error (g0_x : ByteArray) (h : Hp) (Q : List Value → Hp → Prop) : Prop := Fn PP 279 #[(Value.string g0_x)] h Q
/-- (runtime.plainError).RuntimeError -/
def S_runtime_plainError_RuntimeError (g0_x : ByteArray) (h : Hp) (Q : List Value → Hp → Prop) : Prop := Fn PP 280 #[(Value.string g0_x)] h Q
/-- (runtime.errorAddressString).Error -/
def S_runtime_errorAddressString_Error (g0_x_0 : ByteArray) (g0_x_1 : Int) (h : Hp) (Q : List Value → Hp → Prop) : Prop := Fn PP 281 #[(Value.agg #[(Value.string g0_x_0), (Value.int .u64 g0_x_1)])] h Q
/-- (runtime.errorAddressString).RuntimeError -/
def S_runtime_errorAddressString_RuntimeError (g0_x_0 : ByteArray) (g0_x_1 : Int) (h : Hp) (Q : List Value → Hp → Prop) : Prop := Fn PP 282 #[(Value.agg #[(Value.string g0_x_0), (Value.int .u64 g0_x_1)])] h Q
/-- (*runtime.TypeAssertionError).Error -/
def S_runtime_TypeAssertionError_Error (g0_x : Option Addr) (h : Hp) (Q : List Value → Hp → Prop) : Prop := Fn PP 283 #[(Value.pointer g0_x)] h Q
/-- (*runtime.TypeAssertionError).RuntimeError -/
def S_runtime_TypeAssertionError_RuntimeError (g0_x : Option Addr) (h : Hp) (Q : List Value → Hp → Prop) : Prop := Fn PP 284 #[(Value.pointer g0_x)] h Q
/-- (*runtime.PanicNilError).Error -/
def S_runtime_PanicNilError_Error (g0_x : Option Addr) (h : Hp) (Q : List Value → Hp → Prop) : Prop := Fn PP 285 #[(Value.pointer g0_x)] h Q
/-- (*runtime.PanicNilError).RuntimeError -/
def S_runtime_PanicNilError_RuntimeError (g0_x : Option Addr) (h : Hp) (Q : List Value → Hp → Prop) : Prop := Fn PP 286 #[(Value.pointer g0_x)] h Q
/-- (*internal/abi.Type).Align -/
def S_internal_abi_Type_Align (g0_x : Option Addr) (h : Hp) (Q : List Value → Hp → Prop) : Prop := Fn PP 287 #[(Value.pointer g0_x)] h Q
/-- (internal/runtime/maps.unhashableTypeError).Error -/
def S_internal_runtime_maps_unhashableTypeError_Error (g0_x_0 : Option Addr) (h : Hp) (Q : List Value → Hp → Prop) : Prop := Fn PP 288 #[(Value.agg #[(Value.pointer g0_x_0)])] h Q
/-- (internal/runtime/maps.unhashableTypeError).RuntimeError -/
def S_internal_runtime_maps_unhashableTypeError_RuntimeError (g0_x_0 : Option Addr) (h : Hp) (Q : List Value → Hp → Prop) : Prop := Fn PP 289 #[(Value.agg #[(Value.pointer g0_x_0)])] h Q
/-- (*livery/table.Store).Locks -/
def S_table_Store_Locks (g0_x : Option Addr) (h : Hp) (Q : List Value → Hp → Prop) : Prop := Fn PP 290 #[(Value.pointer g0_x)] h Q
/-- (livery/api.Errno).Error -/
def S_api_Errno_Error (g0_x : Int) (h : Hp) (Q : List Value → Hp → Prop) : Prop := Fn PP 291 #[(Value.int .i64 g0_x)] h Q
/-- (*livery/ssi.Ssi).clean -/
def S_ssi_Ssi_clean (g0_x : Option Addr) (h : Hp) (Q : List Value → Hp → Prop) : Prop := Fn PP 292 #[(Value.pointer g0_x)] h Q
/-- (*livery/lock.Table).Modes -/
def S_lock_Table_Modes (g0_x : Option Addr) (g1_x : Int) (g2_x : ByteArray) (h : Hp) (Q : List Value → Hp → Prop) : Prop := Fn PP 293 #[(Value.pointer g0_x), (Value.int .i64 g1_x), (Value.string g2_x)] h Q
/-- (*livery/siread.Table).Drop -/
def S_siread_Table_Drop (g0_x : Option Addr) (g1_x : Int) (h : Hp) (Q : List Value → Hp → Prop) : Prop := Fn PP 294 #[(Value.pointer g0_x), (Value.int .i64 g1_x)] h Q
/-- (*livery/edge.Edges).Drop -/
def S_edge_Edges_Drop (g0_x : Option Addr) (g1_x : Int) (h : Hp) (Q : List Value → Hp → Prop) : Prop := Fn PP 295 #[(Value.pointer g0_x), (Value.int .i64 g1_x)] h Q
/-- (*livery/index.Index).Len -/
def S_index_Index_Len (g0_x : Option Addr) (h : Hp) (Q : List Value → Hp → Prop) : Prop := Fn PP 296 #[(Value.pointer g0_x)] h Q
/-- (*livery/leaf.Leaves).Len -/
def S_leaf_Leaves_Len (g0_x : Option Addr) (h : Hp) (Q : List Value → Hp → Prop) : Prop := Fn PP 297 #[(Value.pointer g0_x)] h Q
/-- (*strings.Builder).Reset -/
def S_strings_Builder_Reset (g0_x : Option Addr) (h : Hp) (Q : List Value → Hp → Prop) : Prop := Fn PP 298 #[(Value.pointer g0_x)] h Q
/-- (internal/abi.Kind).String -/
def S_internal_abi_Kind_String (g0_x : Int) (h : Hp) (Q : List Value → Hp → Prop) : Prop := Fn PP 299 #[(Value.int .u8 g0_x)] h Q
/-- (*livery/lock.queue).grant -/
def S_lock_queue_grant (g0_x : Option Addr) (h : Hp) (Q : List Value → Hp → Prop) : Prop := Fn PP 300 #[(Value.pointer g0_x)] h Q
/-- var's door: gosem.cut.vars holds initialisers alone; see the manifest's row cutvarsword (look 11, test files too) -/
def S_var_s_door_gosem_cut_vars_holds_initialisers_alone_see_the_manifest_s_row_cutvarsword_look_11_test_files_too (h : Hp) (Q : List Value → Hp → Prop) : Prop := Fn PP 301 #[] h Q
/-- var's door: the look of gosem.cut.vars went over the folder that the caller named as the repository's root (look 11) -/
def S_var_s_door_the_look_of_gosem_cut_vars_went_over_the_folder_that_the_caller_named_as_the_repository_s_root_look_11 (h : Hp) (Q : List Value → Hp → Prop) : Prop := Fn PP 302 #[] h Q
/-- var's door: unicode/utf8.acceptRanges is laid by its own initialiser, plain data (look 11) -/
def S_var_s_door_unicode_utf8_acceptRanges_is_laid_by_its_own_initialiser_plain_data_look_11 (h : Hp) (Q : List Value → Hp → Prop) : Prop := Fn PP 303 #[] h Q
/-- var's door: unicode/utf8.first is laid by its text alone (pinned 1) -/
def S_var_s_door_unicode_utf8_first_is_laid_by_its_text_alone_pinned_1 (h : Hp) (Q : List Value → Hp → Prop) : Prop := Fn PP 304 #[] h Q
/-- gosem.cut.vars -/
def S_gosem_cut_vars (h : Hp) (Q : List Value → Hp → Prop) : Prop := Fn PP 305 #[] h Q
def F_liverykeep_LargeValue (g0_v_0 : Int) (g0_v_1 : Int) (g0_v_2 : Nat) (g0_v_3 : ByteArray) (h : Hp) (Q : List Value → Hp → Prop) : Prop :=
wth (Array.push h (Obj.cells #[(Value.int .i64 g0_v_0), (Value.int .i64 g0_v_1), (Value.float .f64 g0_v_2), (Value.string g0_v_3)] T_api_Value)) fun h1 =>
∃ s2 : ByteArray, rd h1 (Addr.add (Addr.mk (Array.size h) 0 none) 3) = some (Value.string s2) ∧
Q [(Value.bool (decide ((ByteArray.size s2 : Int) > (2000 : Int))))] h1
def A_liverykeep_LargeValue : Ann := .nil
theorem E_liverykeep_LargeValue (g0_v_0 : Int) (g0_v_1 : Int) (g0_v_2 : Nat) (g0_v_3 : ByteArray) (h : Hp) (Q : List Value → Hp → Prop) : cw PP 7 (fun _ => []) (bodyOf Tryz.f8) A_liverykeep_LargeValue (finQ PP (Tryz.f8.results.toList) Q) (argFr [(Value.agg #[(Value.int .i64 g0_v_0), (Value.int .i64 g0_v_1), (Value.float .f64 g0_v_2), (Value.string g0_v_3)])]) h = F_liverykeep_LargeValue g0_v_0 g0_v_1 g0_v_2 g0_v_3 h Q := by kernel_rfl
theorem O_liverykeep_LargeValue (g0_v_0 : Int) (g0_v_1 : Int) (g0_v_2 : Nat) (g0_v_3 : ByteArray) {h : Hp} {Q : List Value → Hp → Prop} (H : F_liverykeep_LargeValue g0_v_0 g0_v_1 g0_v_2 g0_v_3 h Q) : S_liverykeep_LargeValue g0_v_0 g0_v_1 g0_v_2 g0_v_3 h Q :=
  fn_of_cw (hs := (fun _ => [])) (ann := A_liverykeep_LargeValue) (args := [(Value.agg #[(Value.int .i64 g0_v_0), (Value.int .i64 g0_v_1), (Value.float .f64 g0_v_2), (Value.string g0_v_3)])]) mixedPP Tryz.func8 (c := bodyOf Tryz.f8) (by kernel_rfl) (by kernel_rfl) (by kernel_rfl) (Eq.mpr (E_liverykeep_LargeValue g0_v_0 g0_v_1 g0_v_2 g0_v_3 h Q) H)
def F_liverykeep_LargeRow (g0_l : Sl) (h : Hp) (Q : List Value → Hp → Prop) : Prop :=
(if (decide ((g0_l.n : Int) > (50 : Int))) = true then
  (Q [(Value.bool true)] h) else
  (∀ X1 : List Value → Hp → Prop, (∀ n2 : Int, ∀ h3 : Hp, ((if (decide (n2 < (g0_l.n : Int))) = true then
          (nilW g0_l.a fun a4 => ixOk n2 g0_l.n (∃ n5 : Int, rd h3 (Addr.add (Addr.add a4 (Int.toNat n2 * 4)) 0) = some (Value.int .i64 n5) ∧ ∃ n6 : Int, rd h3 (Addr.add (Addr.add a4 (Int.toNat n2 * 4)) 1) = some (Value.int .i64 n6) ∧ ∃ x7 : Nat, rd h3 (Addr.add (Addr.add a4 (Int.toNat n2 * 4)) 2) = some (Value.float .f64 x7) ∧ ∃ s8 : ByteArray, rd h3 (Addr.add (Addr.add a4 (Int.toNat n2 * 4)) 3) = some (Value.string s8) ∧ S_liverykeep_LargeValue n5 n6 x7 s8 h3 fun (vs9 : List Value) (h10 : Hp) =>
              ∃ b11 : Bool, vs9 = [(Value.bool b11)] ∧
              (if b11 = true then
                (Q [(Value.bool true)] h10) else
                (X1 [(Value.int .i64 (IntKind.wrap .i64 (n2 + (1 : Int))))] h10)))) else
          (Q [(Value.bool false)] h3))) → X1 [(Value.int .i64 n2)] h3) →
    X1 [(Value.int .i64 (0 : Int))] h))
def A_liverykeep_LargeRow : Ann := (.mk none ⟨[], []⟩ .nil (.mk none ⟨[], []⟩ .nil (.mk none ⟨[], []⟩ (.mk none ⟨[], []⟩ .nil (.mk none ⟨[], []⟩ (.mk none ⟨[0], [(3, (.c (.int .i64)))]⟩ .nil .nil) .nil)) .nil)))
theorem E_liverykeep_LargeRow (g0_l : Sl) (h : Hp) (Q : List Value → Hp → Prop) : cw PP 18 (fun _ => []) (bodyOf Tryz.f9) A_liverykeep_LargeRow (finQ PP (Tryz.f9.results.toList) Q) (argFr [(Value.slice g0_l.a g0_l.n g0_l.c)]) h = F_liverykeep_LargeRow g0_l h Q := by kernel_rfl
theorem O_liverykeep_LargeRow (g0_l : Sl) {h : Hp} {Q : List Value → Hp → Prop} (H : F_liverykeep_LargeRow g0_l h Q) : S_liverykeep_LargeRow g0_l h Q :=
  fn_of_cw (hs := (fun _ => [])) (ann := A_liverykeep_LargeRow) (args := [(Value.slice g0_l.a g0_l.n g0_l.c)]) mixedPP Tryz.func9 (c := bodyOf Tryz.f9) (by kernel_rfl) (by kernel_rfl) (by kernel_rfl) (Eq.mpr (E_liverykeep_LargeRow g0_l h Q) H)
def F_liverykeep_LargeColumns (g0_l : Sl) (h : Hp) (Q : List Value → Hp → Prop) : Prop :=
(if (decide ((g0_l.n : Int) > (50 : Int))) = true then
  (Q [(Value.bool true)] h) else
  (∀ X1 : List Value → Hp → Prop, (∀ n2 : Int, ∀ h3 : Hp, ((if (decide (n2 < (g0_l.n : Int))) = true then
          (∀ J4 : List Value → Hp → Prop, (∀ b5 : Bool, ∀ h6 : Hp, ((if b5 = true then
                  (Q [(Value.bool true)] h6) else
                  (X1 [(Value.int .i64 (IntKind.wrap .i64 (n2 + (1 : Int))))] h6))) → J4 [(Value.bool b5)] h6) →
            nilW g0_l.a fun a7 => ixOk n2 g0_l.n (∃ s8 : ByteArray, rd h3 (Addr.add (Addr.add a7 (Int.toNat n2 * 7)) 0) = some (Value.string s8) ∧
              (if (decide ((ByteArray.size s8 : Int) > (1000 : Int))) = true then (J4 [(Value.bool true)] h3) else
                (nilW g0_l.a fun a9 => ixOk n2 g0_l.n (∃ n10 : Int, rd h3 (Addr.add (Addr.add (Addr.add a9 (Int.toNat n2 * 7)) 3) 0) = some (Value.int .i64 n10) ∧ ∃ n11 : Int, rd h3 (Addr.add (Addr.add (Addr.add a9 (Int.toNat n2 * 7)) 3) 1) = some (Value.int .i64 n11) ∧ ∃ x12 : Nat, rd h3 (Addr.add (Addr.add (Addr.add a9 (Int.toNat n2 * 7)) 3) 2) = some (Value.float .f64 x12) ∧ ∃ s13 : ByteArray, rd h3 (Addr.add (Addr.add (Addr.add a9 (Int.toNat n2 * 7)) 3) 3) = some (Value.string s13) ∧ S_liverykeep_LargeValue n10 n11 x12 s13 h3 fun (vs14 : List Value) (h15 : Hp) =>
                    ∃ b16 : Bool, vs14 = [(Value.bool b16)] ∧
                    J4 [(Value.bool b16)] h15))))) else
          (Q [(Value.bool false)] h3))) → X1 [(Value.int .i64 n2)] h3) →
    X1 [(Value.int .i64 (0 : Int))] h))
def A_liverykeep_LargeColumns : Ann := (.mk none ⟨[], []⟩ .nil (.mk none ⟨[], []⟩ .nil (.mk none ⟨[], []⟩ (.mk none ⟨[], []⟩ .nil (.mk none ⟨[], []⟩ (.mk none ⟨[0], [(3, (.c (.int .i64)))]⟩ (.mk none ⟨[], []⟩ .nil (.mk none ⟨[], []⟩ (.mk none ⟨[], []⟩ (.mk none ⟨[], []⟩ (.mk (some ⟨[0, 3], [(27, (.c .bool))]⟩) ⟨[], []⟩ .nil .nil) .nil) .nil) .nil)) .nil) .nil)) .nil)))
theorem E_liverykeep_LargeColumns (g0_l : Sl) (h : Hp) (Q : List Value → Hp → Prop) : cw PP 28 (fun _ => []) (bodyOf Tryz.f10) A_liverykeep_LargeColumns (finQ PP (Tryz.f10.results.toList) Q) (argFr [(Value.slice g0_l.a g0_l.n g0_l.c)]) h = F_liverykeep_LargeColumns g0_l h Q := by kernel_rfl
theorem O_liverykeep_LargeColumns (g0_l : Sl) {h : Hp} {Q : List Value → Hp → Prop} (H : F_liverykeep_LargeColumns g0_l h Q) : S_liverykeep_LargeColumns g0_l h Q :=
  fn_of_cw (hs := (fun _ => [])) (ann := A_liverykeep_LargeColumns) (args := [(Value.slice g0_l.a g0_l.n g0_l.c)]) mixedPP Tryz.func10 (c := bodyOf Tryz.f10) (by kernel_rfl) (by kernel_rfl) (by kernel_rfl) (Eq.mpr (E_liverykeep_LargeColumns g0_l h Q) H)
def F_liverykeep_LargeStmt (g0_s_0 : Int) (g0_s_1 : ByteArray) (g0_s_2 : ByteArray) (g0_s_3 : ByteArray) (g0_s_4 : ByteArray) (g0_s_5 : Int) (g0_s_6 : Int) (g0_s_7 : Nat) (g0_s_8 : ByteArray) (g0_s_9 : Int) (g0_s_10 : Int) (g0_s_11 : Nat) (g0_s_12 : ByteArray) (g0_s_13 : Sl) (g0_s_14 : Sl) (g0_s_15 : Bool) (h : Hp) (Q : List Value → Hp → Prop) : Prop :=
wth (Array.push h (Obj.cells #[(Value.int .i64 g0_s_0), (Value.string g0_s_1), (Value.string g0_s_2), (Value.string g0_s_3), (Value.string g0_s_4), (Value.int .i64 g0_s_5), (Value.int .i64 g0_s_6), (Value.float .f64 g0_s_7), (Value.string g0_s_8), (Value.int .i64 g0_s_9), (Value.int .i64 g0_s_10), (Value.float .f64 g0_s_11), (Value.string g0_s_12), (Value.slice g0_s_13.a g0_s_13.n g0_s_13.c), (Value.slice g0_s_14.a g0_s_14.n g0_s_14.c), (Value.bool g0_s_15)] T_api_Stmt)) fun h1 =>
∃ s2 : ByteArray, rd h1 (Addr.add (Addr.mk (Array.size h) 0 none) 1) = some (Value.string s2) ∧
(if (decide ((ByteArray.size s2 : Int) > (1000 : Int))) = true then (Q [(Value.bool true)] h1) else
  (∃ s3 : ByteArray, rd h1 (Addr.add (Addr.mk (Array.size h) 0 none) 2) = some (Value.string s3) ∧
    (if (decide ((ByteArray.size s3 : Int) > (1000 : Int))) = true then (Q [(Value.bool true)] h1) else
      (∃ s4 : ByteArray, rd h1 (Addr.add (Addr.mk (Array.size h) 0 none) 3) = some (Value.string s4) ∧
        (if (decide ((ByteArray.size s4 : Int) > (1000 : Int))) = true then (Q [(Value.bool true)] h1) else
          (∃ s5 : ByteArray, rd h1 (Addr.add (Addr.mk (Array.size h) 0 none) 4) = some (Value.string s5) ∧
            (if (decide ((ByteArray.size s5 : Int) > (1000 : Int))) = true then (Q [(Value.bool true)] h1) else
              (∃ n6 : Int, rd h1 (Addr.add (Addr.add (Addr.mk (Array.size h) 0 none) 5) 0) = some (Value.int .i64 n6) ∧ ∃ n7 : Int, rd h1 (Addr.add (Addr.add (Addr.mk (Array.size h) 0 none) 5) 1) = some (Value.int .i64 n7) ∧ ∃ x8 : Nat, rd h1 (Addr.add (Addr.add (Addr.mk (Array.size h) 0 none) 5) 2) = some (Value.float .f64 x8) ∧ ∃ s9 : ByteArray, rd h1 (Addr.add (Addr.add (Addr.mk (Array.size h) 0 none) 5) 3) = some (Value.string s9) ∧ S_liverykeep_LargeValue n6 n7 x8 s9 h1 fun (vs10 : List Value) (h11 : Hp) =>
                ∃ b12 : Bool, vs10 = [(Value.bool b12)] ∧
                (if b12 = true then (Q [(Value.bool true)] h11) else
                  (∃ n13 : Int, rd h11 (Addr.add (Addr.add (Addr.mk (Array.size h) 0 none) 9) 0) = some (Value.int .i64 n13) ∧ ∃ n14 : Int, rd h11 (Addr.add (Addr.add (Addr.mk (Array.size h) 0 none) 9) 1) = some (Value.int .i64 n14) ∧ ∃ x15 : Nat, rd h11 (Addr.add (Addr.add (Addr.mk (Array.size h) 0 none) 9) 2) = some (Value.float .f64 x15) ∧ ∃ s16 : ByteArray, rd h11 (Addr.add (Addr.add (Addr.mk (Array.size h) 0 none) 9) 3) = some (Value.string s16) ∧ S_liverykeep_LargeValue n13 n14 x15 s16 h11 fun (vs17 : List Value) (h18 : Hp) =>
                    ∃ b19 : Bool, vs17 = [(Value.bool b19)] ∧
                    (if b19 = true then (Q [(Value.bool true)] h18) else
                      (∃ l20 : Sl, rd h18 (Addr.add (Addr.mk (Array.size h) 0 none) 13) = some (Value.slice l20.a l20.n l20.c) ∧
                        S_liverykeep_LargeRow ⟨l20.a, l20.n, l20.c⟩ h18 fun (vs21 : List Value) (h22 : Hp) =>
                        ∃ b23 : Bool, vs21 = [(Value.bool b23)] ∧
                        (if b23 = true then (Q [(Value.bool true)] h22) else
                          (∃ l24 : Sl, rd h22 (Addr.add (Addr.mk (Array.size h) 0 none) 14) = some (Value.slice l24.a l24.n l24.c) ∧
                            S_liverykeep_LargeColumns ⟨l24.a, l24.n, l24.c⟩ h22 fun (vs25 : List Value) (h26 : Hp) =>
                            ∃ b27 : Bool, vs25 = [(Value.bool b27)] ∧
                            Q [(Value.bool b27)] h26))))))))))))))
def A_liverykeep_LargeStmt : Ann := .nil
theorem E_liverykeep_LargeStmt (g0_s_0 : Int) (g0_s_1 : ByteArray) (g0_s_2 : ByteArray) (g0_s_3 : ByteArray) (g0_s_4 : ByteArray) (g0_s_5 : Int) (g0_s_6 : Int) (g0_s_7 : Nat) (g0_s_8 : ByteArray) (g0_s_9 : Int) (g0_s_10 : Int) (g0_s_11 : Nat) (g0_s_12 : ByteArray) (g0_s_13 : Sl) (g0_s_14 : Sl) (g0_s_15 : Bool) (h : Hp) (Q : List Value → Hp → Prop) : cw PP 45 (fun _ => []) (bodyOf Tryz.f4) A_liverykeep_LargeStmt (finQ PP (Tryz.f4.results.toList) Q) (argFr [(Value.agg #[(Value.int .i64 g0_s_0), (Value.string g0_s_1), (Value.string g0_s_2), (Value.string g0_s_3), (Value.string g0_s_4), (Value.int .i64 g0_s_5), (Value.int .i64 g0_s_6), (Value.float .f64 g0_s_7), (Value.string g0_s_8), (Value.int .i64 g0_s_9), (Value.int .i64 g0_s_10), (Value.float .f64 g0_s_11), (Value.string g0_s_12), (Value.slice g0_s_13.a g0_s_13.n g0_s_13.c), (Value.slice g0_s_14.a g0_s_14.n g0_s_14.c), (Value.bool g0_s_15)])]) h = F_liverykeep_LargeStmt g0_s_0 g0_s_1 g0_s_2 g0_s_3 g0_s_4 g0_s_5 g0_s_6 g0_s_7 g0_s_8 g0_s_9 g0_s_10 g0_s_11 g0_s_12 g0_s_13 g0_s_14 g0_s_15 h Q := by kernel_rfl
theorem O_liverykeep_LargeStmt (g0_s_0 : Int) (g0_s_1 : ByteArray) (g0_s_2 : ByteArray) (g0_s_3 : ByteArray) (g0_s_4 : ByteArray) (g0_s_5 : Int) (g0_s_6 : Int) (g0_s_7 : Nat) (g0_s_8 : ByteArray) (g0_s_9 : Int) (g0_s_10 : Int) (g0_s_11 : Nat) (g0_s_12 : ByteArray) (g0_s_13 : Sl) (g0_s_14 : Sl) (g0_s_15 : Bool) {h : Hp} {Q : List Value → Hp → Prop} (H : F_liverykeep_LargeStmt g0_s_0 g0_s_1 g0_s_2 g0_s_3 g0_s_4 g0_s_5 g0_s_6 g0_s_7 g0_s_8 g0_s_9 g0_s_10 g0_s_11 g0_s_12 g0_s_13 g0_s_14 g0_s_15 h Q) : S_liverykeep_LargeStmt g0_s_0 g0_s_1 g0_s_2 g0_s_3 g0_s_4 g0_s_5 g0_s_6 g0_s_7 g0_s_8 g0_s_9 g0_s_10 g0_s_11 g0_s_12 g0_s_13 g0_s_14 g0_s_15 h Q :=
  fn_of_cw (hs := (fun _ => [])) (ann := A_liverykeep_LargeStmt) (args := [(Value.agg #[(Value.int .i64 g0_s_0), (Value.string g0_s_1), (Value.string g0_s_2), (Value.string g0_s_3), (Value.string g0_s_4), (Value.int .i64 g0_s_5), (Value.int .i64 g0_s_6), (Value.float .f64 g0_s_7), (Value.string g0_s_8), (Value.int .i64 g0_s_9), (Value.int .i64 g0_s_10), (Value.float .f64 g0_s_11), (Value.string g0_s_12), (Value.slice g0_s_13.a g0_s_13.n g0_s_13.c), (Value.slice g0_s_14.a g0_s_14.n g0_s_14.c), (Value.bool g0_s_15)])]) mixedPP Tryz.func4 (c := bodyOf Tryz.f4) (by kernel_rfl) (by kernel_rfl) (by kernel_rfl) (Eq.mpr (E_liverykeep_LargeStmt g0_s_0 g0_s_1 g0_s_2 g0_s_3 g0_s_4 g0_s_5 g0_s_6 g0_s_7 g0_s_8 g0_s_9 g0_s_10 g0_s_11 g0_s_12 g0_s_13 g0_s_14 g0_s_15 h Q) H)
def F_define_told (g0_err : Int) (g1_who : Int) (h : Hp) (Q : List Value → Hp → Prop) : Prop :=
wth (Array.push h (Obj.cells #[(Value.int .i64 (0 : Int)), (Value.int .i64 (0 : Int)), (Value.slice none 0 0)] T_api_Reply)) fun h1 =>
∀ J2 : List Value → Hp → Prop, (∀ n3 : Int, ∀ h4 : Hp, (stOk h4 (Addr.mk (Array.size h) 0 none) 3 ∧ wth (wrs h4 (Addr.mk (Array.size h) 0 none) 0 [(Value.int .i64 g0_err), (Value.int .i64 (0 : Int)), (Value.slice none 0 0)]) fun h5 =>
    ∃ n6 : Int, rd h5 (Addr.add (Addr.mk (Array.size h) 0 none) 0) = some (Value.int .i64 n6) ∧ ∃ n7 : Int, rd h5 (Addr.add (Addr.mk (Array.size h) 0 none) 1) = some (Value.int .i64 n7) ∧ ∃ l8 : Sl, rd h5 (Addr.add (Addr.mk (Array.size h) 0 none) 2) = some (Value.slice l8.a l8.n l8.c) ∧ Q [(Value.agg #[(Value.int .i64 n6), (Value.int .i64 n7), (Value.slice l8.a l8.n l8.c)]), (Value.int .i64 n3)] h5) → J2 [(Value.int .i64 n3)] h4) →
(if (g0_err != (75 : Int)) = true then
  (J2 [(Value.int .i64 (0 : Int))] h1) else
  (J2 [(Value.int .i64 g1_who)] h1))
def A_define_told : Ann := (.mk none ⟨[], []⟩ .nil (.mk none ⟨[], []⟩ (.mk none ⟨[], []⟩ .nil (.mk (some ⟨[0, 4], [(1, (.c (.int .i64)))]⟩) ⟨[], []⟩ .nil .nil)) .nil))
theorem E_define_told (g0_err : Int) (g1_who : Int) (h : Hp) (Q : List Value → Hp → Prop) : cw PP 11 (fun _ => []) (bodyOf Tryz.f18) A_define_told (finQ PP (Tryz.f18.results.toList) Q) (argFr [(Value.int .i64 g0_err), (Value.int .i64 g1_who)]) h = F_define_told g0_err g1_who h Q := by kernel_rfl
theorem O_define_told (g0_err : Int) (g1_who : Int) {h : Hp} {Q : List Value → Hp → Prop} (H : F_define_told g0_err g1_who h Q) : S_define_told g0_err g1_who h Q :=
  fn_of_cw (hs := (fun _ => [])) (ann := A_define_told) (args := [(Value.int .i64 g0_err), (Value.int .i64 g1_who)]) mixedPP Tryz.func18 (c := bodyOf Tryz.f18) (by kernel_rfl) (by kernel_rfl) (by kernel_rfl) (Eq.mpr (E_define_told g0_err g1_who h Q) H)
def F_slices_IndexFunc_sapi_Column_api_Column (g0_s : Sl) (g1_f_f : Nat) (g1_f_c : Array Value) (h : Hp) (Q : List Value → Hp → Prop) : Prop :=
∀ X1 : List Value → Hp → Prop, (∀ n2 : Int, ∀ h3 : Hp, ((if (decide (n2 < (g0_s.n : Int))) = true then
      (nilW g0_s.a fun a4 => ixOk n2 g0_s.n (∃ s5 : ByteArray, rd h3 (Addr.add (Addr.add a4 (Int.toNat n2 * 7)) 0) = some (Value.string s5) ∧ ∃ n6 : Int, rd h3 (Addr.add (Addr.add a4 (Int.toNat n2 * 7)) 1) = some (Value.int .i64 n6) ∧ ∃ b7 : Bool, rd h3 (Addr.add (Addr.add a4 (Int.toNat n2 * 7)) 2) = some (Value.bool b7) ∧ ∃ n8 : Int, rd h3 (Addr.add (Addr.add a4 (Int.toNat n2 * 7)) 3) = some (Value.int .i64 n8) ∧ ∃ n9 : Int, rd h3 (Addr.add (Addr.add a4 (Int.toNat n2 * 7)) 4) = some (Value.int .i64 n9) ∧ ∃ x10 : Nat, rd h3 (Addr.add (Addr.add a4 (Int.toNat n2 * 7)) 5) = some (Value.float .f64 x10) ∧ ∃ s11 : ByteArray, rd h3 (Addr.add (Addr.add a4 (Int.toNat n2 * 7)) 6) = some (Value.string s11) ∧ Fn PP g1_f_f ((#[] ++ #[(Value.agg #[(Value.string s5), (Value.int .i64 n6), (Value.bool b7), (Value.int .i64 n8), (Value.int .i64 n9), (Value.float .f64 x10), (Value.string s11)])]) ++ g1_f_c) h3 fun (vs12 : List Value) (h13 : Hp) =>
          ∃ b14 : Bool, vs12 = [(Value.bool b14)] ∧
          (if b14 = true then
            (Q [(Value.int .i64 n2)] h13) else
            (X1 [(Value.int .i64 (IntKind.wrap .i64 (n2 + (1 : Int))))] h13)))) else
      (Q [(Value.int .i64 (-1 : Int))] h3))) → X1 [(Value.int .i64 n2)] h3) →
X1 [(Value.int .i64 (0 : Int))] h
def A_slices_IndexFunc_sapi_Column_api_Column : Ann := (.mk none ⟨[], []⟩ .nil (.mk none ⟨[], []⟩ (.mk none ⟨[], []⟩ .nil (.mk none ⟨[], []⟩ (.mk none ⟨[0, 1, 7], [(8, (.c (.int .i64)))]⟩ .nil .nil) .nil)) .nil))
theorem E_slices_IndexFunc_sapi_Column_api_Column (g0_s : Sl) (g1_f_f : Nat) (g1_f_c : Array Value) (h : Hp) (Q : List Value → Hp → Prop) : cw PP 19 (fun _ => []) (bodyOf Tryz.f69) A_slices_IndexFunc_sapi_Column_api_Column (finQ PP (Tryz.f69.results.toList) Q) (argFr [(Value.slice g0_s.a g0_s.n g0_s.c), (Value.func (.func g1_f_f) #[] g1_f_c)]) h = F_slices_IndexFunc_sapi_Column_api_Column g0_s g1_f_f g1_f_c h Q := by kernel_rfl
theorem O_slices_IndexFunc_sapi_Column_api_Column (g0_s : Sl) (g1_f_f : Nat) (g1_f_c : Array Value) {h : Hp} {Q : List Value → Hp → Prop} (H : F_slices_IndexFunc_sapi_Column_api_Column g0_s g1_f_f g1_f_c h Q) : S_slices_IndexFunc_sapi_Column_api_Column g0_s g1_f_f g1_f_c h Q :=
  fn_of_cw (hs := (fun _ => [])) (ann := A_slices_IndexFunc_sapi_Column_api_Column) (args := [(Value.slice g0_s.a g0_s.n g0_s.c), (Value.func (.func g1_f_f) #[] g1_f_c)]) mixedPP Tryz.func69 (c := bodyOf Tryz.f69) (by kernel_rfl) (by kernel_rfl) (by kernel_rfl) (Eq.mpr (E_slices_IndexFunc_sapi_Column_api_Column g0_s g1_f_f g1_f_c h Q) H)
def F_row_Find (g0_l : Sl) (g1_name : ByteArray) (h : Hp) (Q : List Value → Hp → Prop) : Prop :=
wth (Array.push h (Obj.cells #[(Value.string g1_name)] T_string)) fun h1 =>
S_slices_IndexFunc_sapi_Column_api_Column ⟨g0_l.a, g0_l.n, g0_l.c⟩ 70 #[(Value.pointer (some (Addr.mk (Array.size h) 0 none)))] h1 fun (vs2 : List Value) (h3 : Hp) =>
∃ n4 : Int, vs2 = [(Value.int .i64 n4)] ∧
Q [(Value.int .i64 n4)] h3
def A_row_Find : Ann := .nil
theorem E_row_Find (g0_l : Sl) (g1_name : ByteArray) (h : Hp) (Q : List Value → Hp → Prop) : cw PP 8 (fun _ => []) (bodyOf Tryz.f24) A_row_Find (finQ PP (Tryz.f24.results.toList) Q) (argFr [(Value.slice g0_l.a g0_l.n g0_l.c), (Value.string g1_name)]) h = F_row_Find g0_l g1_name h Q := by kernel_rfl
theorem O_row_Find (g0_l : Sl) (g1_name : ByteArray) {h : Hp} {Q : List Value → Hp → Prop} (H : F_row_Find g0_l g1_name h Q) : S_row_Find g0_l g1_name h Q :=
  fn_of_cw (hs := (fun _ => [])) (ann := A_row_Find) (args := [(Value.slice g0_l.a g0_l.n g0_l.c), (Value.string g1_name)]) mixedPP Tryz.func24 (c := bodyOf Tryz.f24) (by kernel_rfl) (by kernel_rfl) (by kernel_rfl) (Eq.mpr (E_row_Find g0_l g1_name h Q) H)
def F_define_Do (g0_s : Option Addr) (g1_xid : Int) (g2_x_0 : Int) (g2_x_1 : ByteArray) (g2_x_2 : ByteArray) (g2_x_3 : ByteArray) (g2_x_4 : ByteArray) (g2_x_5 : Int) (g2_x_6 : Int) (g2_x_7 : Nat) (g2_x_8 : ByteArray) (g2_x_9 : Int) (g2_x_10 : Int) (g2_x_11 : Nat) (g2_x_12 : ByteArray) (g2_x_13 : Sl) (g2_x_14 : Sl) (g2_x_15 : Bool) (h : Hp) (Q : List Value → Hp → Prop) : Prop :=
wth (Array.push h (Obj.cells #[(Value.int .i64 g2_x_0), (Value.string g2_x_1), (Value.string g2_x_2), (Value.string g2_x_3), (Value.string g2_x_4), (Value.int .i64 g2_x_5), (Value.int .i64 g2_x_6), (Value.float .f64 g2_x_7), (Value.string g2_x_8), (Value.int .i64 g2_x_9), (Value.int .i64 g2_x_10), (Value.float .f64 g2_x_11), (Value.string g2_x_12), (Value.slice g2_x_13.a g2_x_13.n g2_x_13.c), (Value.slice g2_x_14.a g2_x_14.n g2_x_14.c), (Value.bool g2_x_15)] T_api_Stmt)) fun h1 =>
wth (Array.push h1 (Obj.cells #[(Value.int .i64 (0 : Int)), (Value.int .i64 (0 : Int)), (Value.slice none 0 0)] T_api_Reply)) fun h2 =>
(if (Option.isNone g0_s) = true then
  (S_define_told (1 : Int) (0 : Int) h2 fun (vs3 : List Value) (h4 : Hp) =>
    ∃ n5 : Int, ∃ n6 : Int, ∃ l7 : Sl, ∃ n8 : Int, vs3 = [(Value.agg #[(Value.int .i64 n5), (Value.int .i64 n6), (Value.slice l7.a l7.n l7.c)]), (Value.int .i64 n8)] ∧
    stOk h4 (Addr.mk (Array.size h1) 0 none) 3 ∧ wth (wrs h4 (Addr.mk (Array.size h1) 0 none) 0 [(Value.int .i64 n5), (Value.int .i64 n6), (Value.slice l7.a l7.n l7.c)]) fun h9 =>
    ∃ n10 : Int, rd h9 (Addr.add (Addr.mk (Array.size h1) 0 none) 0) = some (Value.int .i64 n10) ∧ ∃ n11 : Int, rd h9 (Addr.add (Addr.mk (Array.size h1) 0 none) 1) = some (Value.int .i64 n11) ∧ ∃ l12 : Sl, rd h9 (Addr.add (Addr.mk (Array.size h1) 0 none) 2) = some (Value.slice l12.a l12.n l12.c) ∧ Q [(Value.agg #[(Value.int .i64 n10), (Value.int .i64 n11), (Value.slice l12.a l12.n l12.c)]), (Value.int .i64 n8)] h9) else
  (∃ n13 : Int, rd h2 (Addr.add (Addr.mk (Array.size h) 0 none) 0) = some (Value.int .i64 n13) ∧ ∃ s14 : ByteArray, rd h2 (Addr.add (Addr.mk (Array.size h) 0 none) 1) = some (Value.string s14) ∧ ∃ s15 : ByteArray, rd h2 (Addr.add (Addr.mk (Array.size h) 0 none) 2) = some (Value.string s15) ∧ ∃ s16 : ByteArray, rd h2 (Addr.add (Addr.mk (Array.size h) 0 none) 3) = some (Value.string s16) ∧ ∃ s17 : ByteArray, rd h2 (Addr.add (Addr.mk (Array.size h) 0 none) 4) = some (Value.string s17) ∧ ∃ n18 : Int, rd h2 (Addr.add (Addr.mk (Array.size h) 0 none) 5) = some (Value.int .i64 n18) ∧ ∃ n19 : Int, rd h2 (Addr.add (Addr.mk (Array.size h) 0 none) 6) = some (Value.int .i64 n19) ∧ ∃ x20 : Nat, rd h2 (Addr.add (Addr.mk (Array.size h) 0 none) 7) = some (Value.float .f64 x20) ∧ ∃ s21 : ByteArray, rd h2 (Addr.add (Addr.mk (Array.size h) 0 none) 8) = some (Value.string s21) ∧ ∃ n22 : Int, rd h2 (Addr.add (Addr.mk (Array.size h) 0 none) 9) = some (Value.int .i64 n22) ∧ ∃ n23 : Int, rd h2 (Addr.add (Addr.mk (Array.size h) 0 none) 10) = some (Value.int .i64 n23) ∧ ∃ x24 : Nat, rd h2 (Addr.add (Addr.mk (Array.size h) 0 none) 11) = some (Value.float .f64 x24) ∧ ∃ s25 : ByteArray, rd h2 (Addr.add (Addr.mk (Array.size h) 0 none) 12) = some (Value.string s25) ∧ ∃ l26 : Sl, rd h2 (Addr.add (Addr.mk (Array.size h) 0 none) 13) = some (Value.slice l26.a l26.n l26.c) ∧ ∃ l27 : Sl, rd h2 (Addr.add (Addr.mk (Array.size h) 0 none) 14) = some (Value.slice l27.a l27.n l27.c) ∧ ∃ b28 : Bool, rd h2 (Addr.add (Addr.mk (Array.size h) 0 none) 15) = some (Value.bool b28) ∧ wth (Array.push h2 (Obj.cells #[(Value.pointer g0_s), (Value.int .i64 g1_xid), (Value.int .i64 n13), (Value.string s14), (Value.string s15), (Value.string s16), (Value.string s17), (Value.int .i64 n18), (Value.int .i64 n19), (Value.float .f64 x20), (Value.string s21), (Value.int .i64 n22), (Value.int .i64 n23), (Value.float .f64 x24), (Value.string s25), (Value.slice l26.a l26.n l26.c), (Value.slice l27.a l27.n l27.c), (Value.bool b28), (Value.string (ByteArray.mk #[])), (Value.slice none 0 0), (Value.int .i64 (0 : Int)), (Value.slice none 0 0)] T_define_ground)) fun h29 =>
    ∃ n30 : Int, rd h29 (Addr.add (Addr.mk (Array.size h) 0 none) 0) = some (Value.int .i64 n30) ∧
    S_define_ground_doings (some (Addr.mk (Array.size h2) 0 none)) h29 fun (vs31 : List Value) (h32 : Hp) =>
    ∃ r33 : Option Nat, vs31 = [(Value.map r33)] ∧
    rd h32 (Addr.add (Addr.mk (Array.size h) 0 none) 0) = some (Value.int .i64 n30) ∧ ∃ es34 : Array MapEntry, mapAt h32 r33 es34 ∧ KeysLike (Value.int .i64 n30) es34 ∧ ((∃ f35 : Nat, ∃ cs36 : Array Value, mgetD (Value.int .i64 n30) es34 Value.nilFunc = (Value.func (.func f35) #[] cs36) ∧
        ∃ s38 : ByteArray, rd h32 (Addr.add (Addr.mk (Array.size h) 0 none) 1) = some (Value.string s38) ∧
        S_read_Open g0_s g1_xid s38 h32 fun (vs39 : List Value) (h40 : Hp) =>
        ∃ s41 : ByteArray, ∃ l42 : Sl, ∃ n43 : Int, ∃ b44 : Bool, vs39 = [(Value.agg #[(Value.string s41), (Value.slice l42.a l42.n l42.c), (Value.int .i64 n43)]), (Value.bool b44)] ∧
        wth (Array.push h40 (Obj.cells #[(Value.string (ByteArray.mk #[])), (Value.slice none 0 0), (Value.int .i64 (0 : Int))] T_api_Table)) fun h45 =>
        stOk h45 (Addr.mk (Array.size h40) 0 none) 3 ∧ wth (wrs h45 (Addr.mk (Array.size h40) 0 none) 0 [(Value.string s41), (Value.slice l42.a l42.n l42.c), (Value.int .i64 n43)]) fun h46 =>
        ∃ s47 : ByteArray, rd h46 (Addr.add (Addr.mk (Array.size h40) 0 none) 0) = some (Value.string s47) ∧ ∃ l48 : Sl, rd h46 (Addr.add (Addr.mk (Array.size h40) 0 none) 1) = some (Value.slice l48.a l48.n l48.c) ∧ ∃ n49 : Int, rd h46 (Addr.add (Addr.mk (Array.size h40) 0 none) 2) = some (Value.int .i64 n49) ∧ nilW (some (Addr.mk (Array.size h2) 0 none)) fun a50 => stOk h46 (Addr.add a50 18) 3 ∧ wth (wrs h46 (Addr.add a50 18) 0 [(Value.string s47), (Value.slice l48.a l48.n l48.c), (Value.int .i64 n49)]) fun h51 =>
        ∀ J52 : List Value → Hp → Prop, (∀ b53 : Bool, ∀ h54 : Hp, ((if b53 = true then
              (S_define_told (62 : Int) (0 : Int) h54 fun (vs55 : List Value) (h56 : Hp) =>
                ∃ n57 : Int, ∃ n58 : Int, ∃ l59 : Sl, ∃ n60 : Int, vs55 = [(Value.agg #[(Value.int .i64 n57), (Value.int .i64 n58), (Value.slice l59.a l59.n l59.c)]), (Value.int .i64 n60)] ∧
                stOk h56 (Addr.mk (Array.size h1) 0 none) 3 ∧ wth (wrs h56 (Addr.mk (Array.size h1) 0 none) 0 [(Value.int .i64 n57), (Value.int .i64 n58), (Value.slice l59.a l59.n l59.c)]) fun h61 =>
                ∃ n62 : Int, rd h61 (Addr.add (Addr.mk (Array.size h1) 0 none) 0) = some (Value.int .i64 n62) ∧ ∃ n63 : Int, rd h61 (Addr.add (Addr.mk (Array.size h1) 0 none) 1) = some (Value.int .i64 n63) ∧ ∃ l64 : Sl, rd h61 (Addr.add (Addr.mk (Array.size h1) 0 none) 2) = some (Value.slice l64.a l64.n l64.c) ∧ Q [(Value.agg #[(Value.int .i64 n62), (Value.int .i64 n63), (Value.slice l64.a l64.n l64.c)]), (Value.int .i64 n60)] h61) else
              (∀ J65 : List Value → Hp → Prop, (∀ b66 : Bool, ∀ h67 : Hp, ((if b66 = true then
                      (S_define_told (60 : Int) (0 : Int) h67 fun (vs68 : List Value) (h69 : Hp) =>
                        ∃ n70 : Int, ∃ n71 : Int, ∃ l72 : Sl, ∃ n73 : Int, vs68 = [(Value.agg #[(Value.int .i64 n70), (Value.int .i64 n71), (Value.slice l72.a l72.n l72.c)]), (Value.int .i64 n73)] ∧
                        stOk h69 (Addr.mk (Array.size h1) 0 none) 3 ∧ wth (wrs h69 (Addr.mk (Array.size h1) 0 none) 0 [(Value.int .i64 n70), (Value.int .i64 n71), (Value.slice l72.a l72.n l72.c)]) fun h74 =>
                        ∃ n75 : Int, rd h74 (Addr.add (Addr.mk (Array.size h1) 0 none) 0) = some (Value.int .i64 n75) ∧ ∃ n76 : Int, rd h74 (Addr.add (Addr.mk (Array.size h1) 0 none) 1) = some (Value.int .i64 n76) ∧ ∃ l77 : Sl, rd h74 (Addr.add (Addr.mk (Array.size h1) 0 none) 2) = some (Value.slice l77.a l77.n l77.c) ∧ Q [(Value.agg #[(Value.int .i64 n75), (Value.int .i64 n76), (Value.slice l77.a l77.n l77.c)]), (Value.int .i64 n73)] h74) else
                      (S_define_ground_early (some (Addr.mk (Array.size h2) 0 none)) h67 fun (vs78 : List Value) (h79 : Hp) =>
                        ∃ n80 : Int, vs78 = [(Value.int .i64 n80)] ∧
                        (if (n80 != (0 : Int)) = true then
                          (S_define_told n80 (0 : Int) h79 fun (vs81 : List Value) (h82 : Hp) =>
                            ∃ n83 : Int, ∃ n84 : Int, ∃ l85 : Sl, ∃ n86 : Int, vs81 = [(Value.agg #[(Value.int .i64 n83), (Value.int .i64 n84), (Value.slice l85.a l85.n l85.c)]), (Value.int .i64 n86)] ∧
                            stOk h82 (Addr.mk (Array.size h1) 0 none) 3 ∧ wth (wrs h82 (Addr.mk (Array.size h1) 0 none) 0 [(Value.int .i64 n83), (Value.int .i64 n84), (Value.slice l85.a l85.n l85.c)]) fun h87 =>
                            ∃ n88 : Int, rd h87 (Addr.add (Addr.mk (Array.size h1) 0 none) 0) = some (Value.int .i64 n88) ∧ ∃ n89 : Int, rd h87 (Addr.add (Addr.mk (Array.size h1) 0 none) 1) = some (Value.int .i64 n89) ∧ ∃ l90 : Sl, rd h87 (Addr.add (Addr.mk (Array.size h1) 0 none) 2) = some (Value.slice l90.a l90.n l90.c) ∧ Q [(Value.agg #[(Value.int .i64 n88), (Value.int .i64 n89), (Value.slice l90.a l90.n l90.c)]), (Value.int .i64 n86)] h87) else
                          (∃ s91 : ByteArray, rd h79 (Addr.add (Addr.mk (Array.size h) 0 none) 1) = some (Value.string s91) ∧
                            S_table_Store_Names g0_s h79 fun (vs92 : List Value) (h93 : Hp) =>
                            ∃ p94 : Option Addr, vs92 = [(Value.pointer p94)] ∧
                            rd h93 (Addr.add (Addr.mk (Array.size h) 0 none) 1) = some (Value.string s91) ∧ S_table_Store_Log g0_s h93 fun (vs95 : List Value) (h96 : Hp) =>
                            ∃ p97 : Option Addr, vs95 = [(Value.pointer p97)] ∧
                            rd h96 (Addr.add (Addr.mk (Array.size h) 0 none) 1) = some (Value.string s91) ∧ S_name_Names_May p94 p97 g1_xid s91 h96 fun (vs98 : List Value) (h99 : Hp) =>
                            ∃ n100 : Int, ∃ n101 : Int, vs98 = [(Value.int .i64 n100), (Value.int .i64 n101)] ∧
                            (if (n100 != (0 : Int)) = true then
                              (S_define_told n100 n101 h99 fun (vs102 : List Value) (h103 : Hp) =>
                                ∃ n104 : Int, ∃ n105 : Int, ∃ l106 : Sl, ∃ n107 : Int, vs102 = [(Value.agg #[(Value.int .i64 n104), (Value.int .i64 n105), (Value.slice l106.a l106.n l106.c)]), (Value.int .i64 n107)] ∧
                                stOk h103 (Addr.mk (Array.size h1) 0 none) 3 ∧ wth (wrs h103 (Addr.mk (Array.size h1) 0 none) 0 [(Value.int .i64 n104), (Value.int .i64 n105), (Value.slice l106.a l106.n l106.c)]) fun h108 =>
                                ∃ n109 : Int, rd h108 (Addr.add (Addr.mk (Array.size h1) 0 none) 0) = some (Value.int .i64 n109) ∧ ∃ n110 : Int, rd h108 (Addr.add (Addr.mk (Array.size h1) 0 none) 1) = some (Value.int .i64 n110) ∧ ∃ l111 : Sl, rd h108 (Addr.add (Addr.mk (Array.size h1) 0 none) 2) = some (Value.slice l111.a l111.n l111.c) ∧ Q [(Value.agg #[(Value.int .i64 n109), (Value.int .i64 n110), (Value.slice l111.a l111.n l111.c)]), (Value.int .i64 n107)] h108) else
                              (Fn PP f35 ((#[] ++ #[]) ++ cs36) h99 fun (vs112 : List Value) (h113 : Hp) =>
                                ∃ n114 : Int, vs112 = [(Value.int .i64 n114)] ∧
                                (if (n114 != (0 : Int)) = true then
                                  (S_define_told n114 (0 : Int) h113 fun (vs115 : List Value) (h116 : Hp) =>
                                    ∃ n117 : Int, ∃ n118 : Int, ∃ l119 : Sl, ∃ n120 : Int, vs115 = [(Value.agg #[(Value.int .i64 n117), (Value.int .i64 n118), (Value.slice l119.a l119.n l119.c)]), (Value.int .i64 n120)] ∧
                                    stOk h116 (Addr.mk (Array.size h1) 0 none) 3 ∧ wth (wrs h116 (Addr.mk (Array.size h1) 0 none) 0 [(Value.int .i64 n117), (Value.int .i64 n118), (Value.slice l119.a l119.n l119.c)]) fun h121 =>
                                    ∃ n122 : Int, rd h121 (Addr.add (Addr.mk (Array.size h1) 0 none) 0) = some (Value.int .i64 n122) ∧ ∃ n123 : Int, rd h121 (Addr.add (Addr.mk (Array.size h1) 0 none) 1) = some (Value.int .i64 n123) ∧ ∃ l124 : Sl, rd h121 (Addr.add (Addr.mk (Array.size h1) 0 none) 2) = some (Value.slice l124.a l124.n l124.c) ∧ Q [(Value.agg #[(Value.int .i64 n122), (Value.int .i64 n123), (Value.slice l124.a l124.n l124.c)]), (Value.int .i64 n120)] h121) else
                                  (∃ s125 : ByteArray, rd h113 (Addr.add (Addr.mk (Array.size h) 0 none) 1) = some (Value.string s125) ∧
                                    S_table_Store_Ssi g0_s h113 fun (vs126 : List Value) (h127 : Hp) =>
                                    ∃ p128 : Option Addr, vs126 = [(Value.pointer p128)] ∧
                                    rd h127 (Addr.add (Addr.mk (Array.size h) 0 none) 1) = some (Value.string s125) ∧ S_ssi_Ssi_Wrote p128 g1_xid (1 : Int) s125 (0 : Int) (ByteArray.mk #[]) (0 : Int) h127 fun (vs129 : List Value) (h130 : Hp) =>
                                    vs129 = [] ∧
                                    stOk h130 (Addr.mk (Array.size h1) 0 none) 3 ∧ wth (wrs h130 (Addr.mk (Array.size h1) 0 none) 0 [(Value.int .i64 (0 : Int)), (Value.int .i64 (0 : Int)), (Value.slice none 0 0)]) fun h131 =>
                                    ∃ n132 : Int, rd h131 (Addr.add (Addr.mk (Array.size h1) 0 none) 0) = some (Value.int .i64 n132) ∧ ∃ n133 : Int, rd h131 (Addr.add (Addr.mk (Array.size h1) 0 none) 1) = some (Value.int .i64 n133) ∧ ∃ l134 : Sl, rd h131 (Addr.add (Addr.mk (Array.size h1) 0 none) 2) = some (Value.slice l134.a l134.n l134.c) ∧ Q [(Value.agg #[(Value.int .i64 n132), (Value.int .i64 n133), (Value.slice l134.a l134.n l134.c)]), (Value.int .i64 (0 : Int))] h131))))))))) → J65 [(Value.bool b66)] h67) →
                (if (!b44) = true then (∃ n135 : Int, rd h54 (Addr.add (Addr.mk (Array.size h) 0 none) 0) = some (Value.int .i64 n135) ∧
                    J65 [(Value.bool (n135 != (10 : Int)))] h54) else
                  (J65 [(Value.bool false)] h54))))) → J52 [(Value.bool b53)] h54) →
        (if b44 = true then (∃ n136 : Int, rd h51 (Addr.add (Addr.mk (Array.size h) 0 none) 0) = some (Value.int .i64 n136) ∧
            J52 [(Value.bool (n136 == (10 : Int)))] h51) else
          (J52 [(Value.bool false)] h51))) ∨
      (mgetD (Value.int .i64 n30) es34 Value.nilFunc = Value.nilFunc ∧
        S_define_told (11 : Int) (0 : Int) h32 fun (vs138 : List Value) (h139 : Hp) =>
        ∃ n140 : Int, ∃ n141 : Int, ∃ l142 : Sl, ∃ n143 : Int, vs138 = [(Value.agg #[(Value.int .i64 n140), (Value.int .i64 n141), (Value.slice l142.a l142.n l142.c)]), (Value.int .i64 n143)] ∧
        stOk h139 (Addr.mk (Array.size h1) 0 none) 3 ∧ wth (wrs h139 (Addr.mk (Array.size h1) 0 none) 0 [(Value.int .i64 n140), (Value.int .i64 n141), (Value.slice l142.a l142.n l142.c)]) fun h144 =>
        ∃ n145 : Int, rd h144 (Addr.add (Addr.mk (Array.size h1) 0 none) 0) = some (Value.int .i64 n145) ∧ ∃ n146 : Int, rd h144 (Addr.add (Addr.mk (Array.size h1) 0 none) 1) = some (Value.int .i64 n146) ∧ ∃ l147 : Sl, rd h144 (Addr.add (Addr.mk (Array.size h1) 0 none) 2) = some (Value.slice l147.a l147.n l147.c) ∧ Q [(Value.agg #[(Value.int .i64 n145), (Value.int .i64 n146), (Value.slice l147.a l147.n l147.c)]), (Value.int .i64 n143)] h144))))
def A_define_Do : Ann := (.mk none ⟨[], []⟩ .nil (.mk none ⟨[], []⟩ .nil (.mk none ⟨[], []⟩ .nil (.mk none ⟨[], []⟩ .nil (.mk none ⟨[], []⟩ .nil (.mk none ⟨[], []⟩ .nil (.mk none ⟨[], []⟩ .nil (.mk none ⟨[], []⟩ (.mk none ⟨[], []⟩ (.mk none ⟨[], []⟩ (.mk (some ⟨[0, 1, 5, 6, 8, 9, 11], [(48, (.c .bool))]⟩) ⟨[], []⟩ .nil .nil) (.mk none ⟨[], []⟩ .nil (.mk none ⟨[], []⟩ (.mk (some ⟨[0, 1, 5, 6, 8, 9], [(58, (.c .bool))]⟩) ⟨[], []⟩ .nil .nil) .nil))) .nil) .nil))))))))
theorem E_define_Do (g0_s : Option Addr) (g1_xid : Int) (g2_x_0 : Int) (g2_x_1 : ByteArray) (g2_x_2 : ByteArray) (g2_x_3 : ByteArray) (g2_x_4 : ByteArray) (g2_x_5 : Int) (g2_x_6 : Int) (g2_x_7 : Nat) (g2_x_8 : ByteArray) (g2_x_9 : Int) (g2_x_10 : Int) (g2_x_11 : Nat) (g2_x_12 : ByteArray) (g2_x_13 : Sl) (g2_x_14 : Sl) (g2_x_15 : Bool) (h : Hp) (Q : List Value → Hp → Prop) : cw PP 111 (fun _ => []) (bodyOf Tryz.f6) A_define_Do (finQ PP (Tryz.f6.results.toList) Q) (argFr [(Value.pointer g0_s), (Value.int .i64 g1_xid), (Value.agg #[(Value.int .i64 g2_x_0), (Value.string g2_x_1), (Value.string g2_x_2), (Value.string g2_x_3), (Value.string g2_x_4), (Value.int .i64 g2_x_5), (Value.int .i64 g2_x_6), (Value.float .f64 g2_x_7), (Value.string g2_x_8), (Value.int .i64 g2_x_9), (Value.int .i64 g2_x_10), (Value.float .f64 g2_x_11), (Value.string g2_x_12), (Value.slice g2_x_13.a g2_x_13.n g2_x_13.c), (Value.slice g2_x_14.a g2_x_14.n g2_x_14.c), (Value.bool g2_x_15)])]) h = F_define_Do g0_s g1_xid g2_x_0 g2_x_1 g2_x_2 g2_x_3 g2_x_4 g2_x_5 g2_x_6 g2_x_7 g2_x_8 g2_x_9 g2_x_10 g2_x_11 g2_x_12 g2_x_13 g2_x_14 g2_x_15 h Q := by kernel_rfl
theorem O_define_Do (g0_s : Option Addr) (g1_xid : Int) (g2_x_0 : Int) (g2_x_1 : ByteArray) (g2_x_2 : ByteArray) (g2_x_3 : ByteArray) (g2_x_4 : ByteArray) (g2_x_5 : Int) (g2_x_6 : Int) (g2_x_7 : Nat) (g2_x_8 : ByteArray) (g2_x_9 : Int) (g2_x_10 : Int) (g2_x_11 : Nat) (g2_x_12 : ByteArray) (g2_x_13 : Sl) (g2_x_14 : Sl) (g2_x_15 : Bool) {h : Hp} {Q : List Value → Hp → Prop} (H : F_define_Do g0_s g1_xid g2_x_0 g2_x_1 g2_x_2 g2_x_3 g2_x_4 g2_x_5 g2_x_6 g2_x_7 g2_x_8 g2_x_9 g2_x_10 g2_x_11 g2_x_12 g2_x_13 g2_x_14 g2_x_15 h Q) : S_define_Do g0_s g1_xid g2_x_0 g2_x_1 g2_x_2 g2_x_3 g2_x_4 g2_x_5 g2_x_6 g2_x_7 g2_x_8 g2_x_9 g2_x_10 g2_x_11 g2_x_12 g2_x_13 g2_x_14 g2_x_15 h Q :=
  fn_of_cw (hs := (fun _ => [])) (ann := A_define_Do) (args := [(Value.pointer g0_s), (Value.int .i64 g1_xid), (Value.agg #[(Value.int .i64 g2_x_0), (Value.string g2_x_1), (Value.string g2_x_2), (Value.string g2_x_3), (Value.string g2_x_4), (Value.int .i64 g2_x_5), (Value.int .i64 g2_x_6), (Value.float .f64 g2_x_7), (Value.string g2_x_8), (Value.int .i64 g2_x_9), (Value.int .i64 g2_x_10), (Value.float .f64 g2_x_11), (Value.string g2_x_12), (Value.slice g2_x_13.a g2_x_13.n g2_x_13.c), (Value.slice g2_x_14.a g2_x_14.n g2_x_14.c), (Value.bool g2_x_15)])]) mixedPP Tryz.func6 (c := bodyOf Tryz.f6) (by kernel_rfl) (by kernel_rfl) (by kernel_rfl) (Eq.mpr (E_define_Do g0_s g1_xid g2_x_0 g2_x_1 g2_x_2 g2_x_3 g2_x_4 g2_x_5 g2_x_6 g2_x_7 g2_x_8 g2_x_9 g2_x_10 g2_x_11 g2_x_12 g2_x_13 g2_x_14 g2_x_15 h Q) H)
def F_define_Twice (g0_s : Option Addr) (g1_xid : Int) (g2_rel : Int) (g3_cols : Sl) (g4_col : ByteArray) (h : Hp) (Q : List Value → Hp → Prop) : Prop :=
S_row_Find ⟨g3_cols.a, g3_cols.n, g3_cols.c⟩ g4_col h fun (vs1 : List Value) (h2 : Hp) =>
∃ n3 : Int, vs1 = [(Value.int .i64 n3)] ∧
∀ J4 : List Value → Hp → Prop, (∀ b5 : Bool, ∀ h6 : Hp, ((if b5 = true then
      (Q [(Value.bool false)] h6) else
      (S_table_Store_Rel g0_s g2_rel h6 fun (vs7 : List Value) (h8 : Hp) =>
        ∃ p9 : Option Addr, vs7 = [(Value.pointer p9)] ∧
        S_table_Store_Log g0_s h8 fun (vs10 : List Value) (h11 : Hp) =>
        ∃ p12 : Option Addr, vs10 = [(Value.pointer p12)] ∧
        S_heap_Rel_All p9 h11 fun (vs13 : List Value) (h14 : Hp) =>
        ∃ l15 : Sl, vs13 = [(Value.slice l15.a l15.n l15.c)] ∧
        ∀ X16 : List Value → Hp → Prop, (∀ l17 : Sl, ∀ l18 : Sl, ∀ n19 : Int, ∀ h20 : Hp, ((if (decide (n19 < (l15.n : Int))) = true then
              (∀ J21 : List Value → Hp → Prop, (∀ l22 : Sl, ∀ l23 : Sl, ∀ h24 : Hp, (X16 [(Value.slice l22.a l22.n l22.c), (Value.slice l23.a l23.n l23.c), (Value.int .i64 (IntKind.wrap .i64 (n19 + (1 : Int))))] h24) → J21 [(Value.slice l22.a l22.n l22.c), (Value.slice l23.a l23.n l23.c)] h24) →
                nilW l15.a fun a25 => ixOk n19 l15.n (∃ n26 : Int, rd h20 (Addr.add a25 (Int.toNat n19 * 1)) = some (Value.int .i64 n26) ∧
                  S_heap_Rel_Get p9 n26 h20 fun (vs27 : List Value) (h28 : Hp) =>
                  ∃ n29 : Int, ∃ n30 : Int, ∃ l31 : Sl, ∃ b32 : Bool, vs27 = [(Value.agg #[(Value.int .i64 n29), (Value.int .i64 n30), (Value.slice l31.a l31.n l31.c)]), (Value.bool b32)] ∧
                  wth (Array.push h28 (Obj.cells #[(Value.int .i64 (0 : Int)), (Value.int .i64 (0 : Int)), (Value.slice none 0 0)] T_api_Tuple)) fun h33 =>
                  stOk h33 (Addr.mk (Array.size h28) 0 none) 3 ∧ wth (wrs h33 (Addr.mk (Array.size h28) 0 none) 0 [(Value.int .i64 n29), (Value.int .i64 n30), (Value.slice l31.a l31.n l31.c)]) fun h34 =>
                  ∃ l35 : Sl, rd h34 (Addr.add (Addr.mk (Array.size h28) 0 none) 2) = some (Value.slice l35.a l35.n l35.c) ∧
                  S_row_Pad ⟨g3_cols.a, g3_cols.n, g3_cols.c⟩ ⟨l35.a, l35.n, l35.c⟩ h34 fun (vs36 : List Value) (h37 : Hp) =>
                  ∃ l38 : Sl, vs36 = [(Value.slice l38.a l38.n l38.c)] ∧
                  nilW l38.a fun a39 => ixOk n3 l38.n (∃ n40 : Int, rd h37 (Addr.add (Addr.add a39 (Int.toNat n3 * 4)) 0) = some (Value.int .i64 n40) ∧ ∃ n41 : Int, rd h37 (Addr.add (Addr.add a39 (Int.toNat n3 * 4)) 1) = some (Value.int .i64 n41) ∧ ∃ x42 : Nat, rd h37 (Addr.add (Addr.add a39 (Int.toNat n3 * 4)) 2) = some (Value.float .f64 x42) ∧ ∃ s43 : ByteArray, rd h37 (Addr.add (Addr.add a39 (Int.toNat n3 * 4)) 3) = some (Value.string s43) ∧ wth (Array.push h37 (Obj.cells #[(Value.int .i64 (0 : Int)), (Value.int .i64 (0 : Int)), (Value.float .f64 0), (Value.string (ByteArray.mk #[]))] T_api_Value)) fun h44 =>
                    stOk h44 (Addr.mk (Array.size h37) 0 none) 4 ∧ wth (wrs h44 (Addr.mk (Array.size h37) 0 none) 0 [(Value.int .i64 n40), (Value.int .i64 n41), (Value.float .f64 x42), (Value.string s43)]) fun h45 =>
                    ∃ n46 : Int, rd h45 (Addr.add (Addr.mk (Array.size h37) 0 none) 0) = some (Value.int .i64 n46) ∧
                    (if (n46 == (0 : Int)) = true then
                      (J21 [(Value.slice l17.a l17.n l17.c), (Value.slice l18.a l18.n l18.c)] h45) else
                      (S_heap_Rel_Sees p9 p12 g1_xid n26 h45 fun (vs47 : List Value) (h48 : Hp) =>
                        ∃ b49 : Bool, vs47 = [(Value.bool b49)] ∧
                        ∀ J50 : List Value → Hp → Prop, (∀ l51 : Sl, ∀ h52 : Hp, (∀ J53 : List Value → Hp → Prop, (∀ b54 : Bool, ∀ h55 : Hp, ((if b54 = true then
                                  (∃ n56 : Int, rd h55 (Addr.add (Addr.mk (Array.size h37) 0 none) 0) = some (Value.int .i64 n56) ∧ ∃ n57 : Int, rd h55 (Addr.add (Addr.mk (Array.size h37) 0 none) 1) = some (Value.int .i64 n57) ∧ ∃ x58 : Nat, rd h55 (Addr.add (Addr.mk (Array.size h37) 0 none) 2) = some (Value.float .f64 x58) ∧ ∃ s59 : ByteArray, rd h55 (Addr.add (Addr.mk (Array.size h37) 0 none) 3) = some (Value.string s59) ∧ wth (Array.push h55 (Obj.cells #[(Value.int .i64 n56), (Value.int .i64 n57), (Value.float .f64 x58), (Value.string s59)] T_api_Value)) fun h60 =>
                                    ∃ cs63 : List Value, cellsAt h60 (some (Addr.mk (Array.size h55) 0 none)) (1 * 4) cs63 ∧ appS PP T_api_Value 40 4 h60 ⟨l18.a, l18.n, l18.c⟩ 1 cs63 fun (l61 : Sl) (h62 : Hp) =>
                                    J21 [(Value.slice l51.a l51.n l51.c), (Value.slice l61.a l61.n l61.c)] h62) else
                                  (J21 [(Value.slice l51.a l51.n l51.c), (Value.slice l18.a l18.n l18.c)] h55))) → J53 [(Value.bool b54)] h55) →
                            ∃ n64 : Int, rd h52 (Addr.add (Addr.mk (Array.size h28) 0 none) 0) = some (Value.int .i64 n64) ∧
                            S_clog_Log_State p12 n64 h52 fun (vs65 : List Value) (h66 : Hp) =>
                            ∃ n67 : Int, vs65 = [(Value.int .i64 n67)] ∧
                            (if (n67 != (3 : Int)) = true then (∃ n68 : Int, rd h66 (Addr.add (Addr.mk (Array.size h28) 0 none) 1) = some (Value.int .i64 n68) ∧
                                (if (n68 == (0 : Int)) = true then (J53 [(Value.bool true)] h66) else
                                  (∃ n69 : Int, rd h66 (Addr.add (Addr.mk (Array.size h28) 0 none) 1) = some (Value.int .i64 n69) ∧
                                    S_clog_Log_State p12 n69 h66 fun (vs70 : List Value) (h71 : Hp) =>
                                    ∃ n72 : Int, vs70 = [(Value.int .i64 n72)] ∧
                                    J53 [(Value.bool (n72 == (3 : Int)))] h71))) else
                              (J53 [(Value.bool false)] h66))) → J50 [(Value.slice l51.a l51.n l51.c)] h52) →
                        (if b49 = true then
                          (∃ n73 : Int, rd h48 (Addr.add (Addr.mk (Array.size h37) 0 none) 0) = some (Value.int .i64 n73) ∧ ∃ n74 : Int, rd h48 (Addr.add (Addr.mk (Array.size h37) 0 none) 1) = some (Value.int .i64 n74) ∧ ∃ x75 : Nat, rd h48 (Addr.add (Addr.mk (Array.size h37) 0 none) 2) = some (Value.float .f64 x75) ∧ ∃ s76 : ByteArray, rd h48 (Addr.add (Addr.mk (Array.size h37) 0 none) 3) = some (Value.string s76) ∧ wth (Array.push h48 (Obj.cells #[(Value.int .i64 n73), (Value.int .i64 n74), (Value.float .f64 x75), (Value.string s76)] T_api_Value)) fun h77 =>
                            ∃ cs80 : List Value, cellsAt h77 (some (Addr.mk (Array.size h48) 0 none)) (1 * 4) cs80 ∧ appS PP T_api_Value 40 4 h77 ⟨l17.a, l17.n, l17.c⟩ 1 cs80 fun (l78 : Sl) (h79 : Hp) =>
                            J50 [(Value.slice l78.a l78.n l78.c)] h79) else
                          (J50 [(Value.slice l17.a l17.n l17.c)] h48))))))) else
              (S_define_twice ⟨l17.a, l17.n, l17.c⟩ h20 fun (vs81 : List Value) (h82 : Hp) =>
                ∃ b83 : Bool, vs81 = [(Value.bool b83)] ∧
                (if b83 = true then (Q [(Value.bool true)] h82) else
                  (S_define_twice ⟨l18.a, l18.n, l18.c⟩ h82 fun (vs84 : List Value) (h85 : Hp) =>
                    ∃ b86 : Bool, vs84 = [(Value.bool b86)] ∧
                    Q [(Value.bool b86)] h85))))) → X16 [(Value.slice l17.a l17.n l17.c), (Value.slice l18.a l18.n l18.c), (Value.int .i64 n19)] h20) →
        X16 [(Value.slice none 0 0), (Value.slice none 0 0), (Value.int .i64 (0 : Int))] h14))) → J4 [(Value.bool b5)] h6) →
(if (Option.isNone g0_s) = true then (J4 [(Value.bool true)] h2) else
  (S_table_Store_Rel g0_s g2_rel h2 fun (vs87 : List Value) (h88 : Hp) =>
    ∃ p89 : Option Addr, vs87 = [(Value.pointer p89)] ∧
    (if (Option.isNone p89) = true then (J4 [(Value.bool true)] h88) else
      (J4 [(Value.bool (decide (n3 < (0 : Int))))] h88))))
def A_define_Twice : Ann := (.mk none ⟨[], []⟩ .nil (.mk none ⟨[], []⟩ .nil (.mk none ⟨[], []⟩ (.mk none ⟨[], []⟩ (.mk (some ⟨[0, 1, 2, 3, 11], [(35, (.c .bool))]⟩) ⟨[], []⟩ .nil .nil) .nil) (.mk none ⟨[], []⟩ .nil (.mk none ⟨[], []⟩ .nil (.mk none ⟨[], []⟩ (.mk none ⟨[], []⟩ .nil (.mk none ⟨[], []⟩ (.mk none ⟨[1, 3, 11, 12, 13, 42, 43], [(14, (.c .sl)), (15, (.c .sl)), (44, (.c (.int .i64)))]⟩ (.mk none ⟨[], []⟩ .nil (.mk none ⟨[], []⟩ .nil (.mk none ⟨[], []⟩ (.mk (some ⟨[1, 3, 11, 12, 13, 42, 43, 44], [(14, (.c .sl)), (15, (.c .sl))]⟩) ⟨[], []⟩ (.mk none ⟨[], []⟩ .nil (.mk none ⟨[], []⟩ .nil (.mk none ⟨[], []⟩ .nil (.mk none ⟨[], []⟩ .nil (.mk none ⟨[], []⟩ (.mk none ⟨[], []⟩ .nil (.mk (some ⟨[1, 3, 11, 12, 13, 15, 18, 20, 42, 43, 44], [(14, (.c .sl))]⟩) ⟨[], []⟩ .nil .nil)) (.mk none ⟨[], []⟩ (.mk (some ⟨[1, 3, 11, 12, 13, 14, 15, 20, 42, 43, 44], [(89, (.c .bool))]⟩) ⟨[], []⟩ .nil .nil) .nil)))))) .nil) .nil))) .nil) .nil)) .nil))))))
theorem E_define_Twice (g0_s : Option Addr) (g1_xid : Int) (g2_rel : Int) (g3_cols : Sl) (g4_col : ByteArray) (h : Hp) (Q : List Value → Hp → Prop) : cw PP 101 (fun _ => []) (bodyOf Tryz.f7) A_define_Twice (finQ PP (Tryz.f7.results.toList) Q) (argFr [(Value.pointer g0_s), (Value.int .i64 g1_xid), (Value.int .i64 g2_rel), (Value.slice g3_cols.a g3_cols.n g3_cols.c), (Value.string g4_col)]) h = F_define_Twice g0_s g1_xid g2_rel g3_cols g4_col h Q := by kernel_rfl
theorem O_define_Twice (g0_s : Option Addr) (g1_xid : Int) (g2_rel : Int) (g3_cols : Sl) (g4_col : ByteArray) {h : Hp} {Q : List Value → Hp → Prop} (H : F_define_Twice g0_s g1_xid g2_rel g3_cols g4_col h Q) : S_define_Twice g0_s g1_xid g2_rel g3_cols g4_col h Q :=
  fn_of_cw (hs := (fun _ => [])) (ann := A_define_Twice) (args := [(Value.pointer g0_s), (Value.int .i64 g1_xid), (Value.int .i64 g2_rel), (Value.slice g3_cols.a g3_cols.n g3_cols.c), (Value.string g4_col)]) mixedPP Tryz.func7 (c := bodyOf Tryz.f7) (by kernel_rfl) (by kernel_rfl) (by kernel_rfl) (Eq.mpr (E_define_Twice g0_s g1_xid g2_rel g3_cols g4_col h Q) H)
def F_liverylaw23_DefineNone (g0_x_0 : Int) (g0_x_1 : ByteArray) (g0_x_2 : ByteArray) (g0_x_3 : ByteArray) (g0_x_4 : ByteArray) (g0_x_5 : Int) (g0_x_6 : Int) (g0_x_7 : Nat) (g0_x_8 : ByteArray) (g0_x_9 : Int) (g0_x_10 : Int) (g0_x_11 : Nat) (g0_x_12 : ByteArray) (g0_x_13 : Sl) (g0_x_14 : Sl) (g0_x_15 : Bool) (g1_col : ByteArray) (h : Hp) (Q : List Value → Hp → Prop) : Prop :=
wth (Array.push h (Obj.cells #[(Value.int .i64 g0_x_0), (Value.string g0_x_1), (Value.string g0_x_2), (Value.string g0_x_3), (Value.string g0_x_4), (Value.int .i64 g0_x_5), (Value.int .i64 g0_x_6), (Value.float .f64 g0_x_7), (Value.string g0_x_8), (Value.int .i64 g0_x_9), (Value.int .i64 g0_x_10), (Value.float .f64 g0_x_11), (Value.string g0_x_12), (Value.slice g0_x_13.a g0_x_13.n g0_x_13.c), (Value.slice g0_x_14.a g0_x_14.n g0_x_14.c), (Value.bool g0_x_15)] T_api_Stmt)) fun h1 =>
∀ J2 : List Value → Hp → Prop, (∀ b3 : Bool, ∀ h4 : Hp, ((if b3 = true then
      (S_liverylaw23_wakes  h4 fun (vs5 : List Value) (h6 : Hp) =>
        ∃ b7 : Bool, vs5 = [(Value.bool b7)] ∧
        Q [(Value.bool b7)] h6) else
      (∃ n8 : Int, rd h4 (Addr.add (Addr.mk (Array.size h) 0 none) 0) = some (Value.int .i64 n8) ∧ ∃ s9 : ByteArray, rd h4 (Addr.add (Addr.mk (Array.size h) 0 none) 1) = some (Value.string s9) ∧ ∃ s10 : ByteArray, rd h4 (Addr.add (Addr.mk (Array.size h) 0 none) 2) = some (Value.string s10) ∧ ∃ s11 : ByteArray, rd h4 (Addr.add (Addr.mk (Array.size h) 0 none) 3) = some (Value.string s11) ∧ ∃ s12 : ByteArray, rd h4 (Addr.add (Addr.mk (Array.size h) 0 none) 4) = some (Value.string s12) ∧ ∃ n13 : Int, rd h4 (Addr.add (Addr.mk (Array.size h) 0 none) 5) = some (Value.int .i64 n13) ∧ ∃ n14 : Int, rd h4 (Addr.add (Addr.mk (Array.size h) 0 none) 6) = some (Value.int .i64 n14) ∧ ∃ x15 : Nat, rd h4 (Addr.add (Addr.mk (Array.size h) 0 none) 7) = some (Value.float .f64 x15) ∧ ∃ s16 : ByteArray, rd h4 (Addr.add (Addr.mk (Array.size h) 0 none) 8) = some (Value.string s16) ∧ ∃ n17 : Int, rd h4 (Addr.add (Addr.mk (Array.size h) 0 none) 9) = some (Value.int .i64 n17) ∧ ∃ n18 : Int, rd h4 (Addr.add (Addr.mk (Array.size h) 0 none) 10) = some (Value.int .i64 n18) ∧ ∃ x19 : Nat, rd h4 (Addr.add (Addr.mk (Array.size h) 0 none) 11) = some (Value.float .f64 x19) ∧ ∃ s20 : ByteArray, rd h4 (Addr.add (Addr.mk (Array.size h) 0 none) 12) = some (Value.string s20) ∧ ∃ l21 : Sl, rd h4 (Addr.add (Addr.mk (Array.size h) 0 none) 13) = some (Value.slice l21.a l21.n l21.c) ∧ ∃ l22 : Sl, rd h4 (Addr.add (Addr.mk (Array.size h) 0 none) 14) = some (Value.slice l22.a l22.n l22.c) ∧ ∃ b23 : Bool, rd h4 (Addr.add (Addr.mk (Array.size h) 0 none) 15) = some (Value.bool b23) ∧ S_define_Do none (1 : Int) n8 s9 s10 s11 s12 n13 n14 x15 s16 n17 n18 x19 s20 ⟨l21.a, l21.n, l21.c⟩ ⟨l22.a, l22.n, l22.c⟩ b23 h4 fun (vs24 : List Value) (h25 : Hp) =>
        ∃ n26 : Int, ∃ n27 : Int, ∃ l28 : Sl, ∃ n29 : Int, vs24 = [(Value.agg #[(Value.int .i64 n26), (Value.int .i64 n27), (Value.slice l28.a l28.n l28.c)]), (Value.int .i64 n29)] ∧
        wth (Array.push h25 (Obj.cells #[(Value.int .i64 (0 : Int)), (Value.int .i64 (0 : Int)), (Value.slice none 0 0)] T_api_Reply)) fun h30 =>
        stOk h30 (Addr.mk (Array.size h25) 0 none) 3 ∧ wth (wrs h30 (Addr.mk (Array.size h25) 0 none) 0 [(Value.int .i64 n26), (Value.int .i64 n27), (Value.slice l28.a l28.n l28.c)]) fun h31 =>
        ∃ n32 : Int, rd h31 (Addr.add (Addr.mk (Array.size h25) 0 none) 0) = some (Value.int .i64 n32) ∧
        (if (n32 == (1 : Int)) = true then ((if (n29 == (0 : Int)) = true then (∃ l33 : Sl, rd h31 (Addr.add (Addr.mk (Array.size h) 0 none) 14) = some (Value.slice l33.a l33.n l33.c) ∧
                S_define_Twice none (1 : Int) (1 : Int) ⟨l33.a, l33.n, l33.c⟩ g1_col h31 fun (vs34 : List Value) (h35 : Hp) =>
                ∃ b36 : Bool, vs34 = [(Value.bool b36)] ∧
                (if (!b36) = true then (S_liverylaw23_wakes  h35 fun (vs37 : List Value) (h38 : Hp) =>
                    ∃ b39 : Bool, vs37 = [(Value.bool b39)] ∧
                    Q [(Value.bool b39)] h38) else
                  (Q [(Value.bool false)] h35))) else
              (Q [(Value.bool false)] h31))) else
          (Q [(Value.bool false)] h31))))) → J2 [(Value.bool b3)] h4) →
∃ n40 : Int, rd h1 (Addr.add (Addr.mk (Array.size h) 0 none) 0) = some (Value.int .i64 n40) ∧ ∃ s41 : ByteArray, rd h1 (Addr.add (Addr.mk (Array.size h) 0 none) 1) = some (Value.string s41) ∧ ∃ s42 : ByteArray, rd h1 (Addr.add (Addr.mk (Array.size h) 0 none) 2) = some (Value.string s42) ∧ ∃ s43 : ByteArray, rd h1 (Addr.add (Addr.mk (Array.size h) 0 none) 3) = some (Value.string s43) ∧ ∃ s44 : ByteArray, rd h1 (Addr.add (Addr.mk (Array.size h) 0 none) 4) = some (Value.string s44) ∧ ∃ n45 : Int, rd h1 (Addr.add (Addr.mk (Array.size h) 0 none) 5) = some (Value.int .i64 n45) ∧ ∃ n46 : Int, rd h1 (Addr.add (Addr.mk (Array.size h) 0 none) 6) = some (Value.int .i64 n46) ∧ ∃ x47 : Nat, rd h1 (Addr.add (Addr.mk (Array.size h) 0 none) 7) = some (Value.float .f64 x47) ∧ ∃ s48 : ByteArray, rd h1 (Addr.add (Addr.mk (Array.size h) 0 none) 8) = some (Value.string s48) ∧ ∃ n49 : Int, rd h1 (Addr.add (Addr.mk (Array.size h) 0 none) 9) = some (Value.int .i64 n49) ∧ ∃ n50 : Int, rd h1 (Addr.add (Addr.mk (Array.size h) 0 none) 10) = some (Value.int .i64 n50) ∧ ∃ x51 : Nat, rd h1 (Addr.add (Addr.mk (Array.size h) 0 none) 11) = some (Value.float .f64 x51) ∧ ∃ s52 : ByteArray, rd h1 (Addr.add (Addr.mk (Array.size h) 0 none) 12) = some (Value.string s52) ∧ ∃ l53 : Sl, rd h1 (Addr.add (Addr.mk (Array.size h) 0 none) 13) = some (Value.slice l53.a l53.n l53.c) ∧ ∃ l54 : Sl, rd h1 (Addr.add (Addr.mk (Array.size h) 0 none) 14) = some (Value.slice l54.a l54.n l54.c) ∧ ∃ b55 : Bool, rd h1 (Addr.add (Addr.mk (Array.size h) 0 none) 15) = some (Value.bool b55) ∧ S_liverykeep_LargeStmt n40 s41 s42 s43 s44 n45 n46 x47 s48 n49 n50 x51 s52 ⟨l53.a, l53.n, l53.c⟩ ⟨l54.a, l54.n, l54.c⟩ b55 h1 fun (vs56 : List Value) (h57 : Hp) =>
∃ b58 : Bool, vs56 = [(Value.bool b58)] ∧
(if b58 = true then (J2 [(Value.bool true)] h57) else
  (J2 [(Value.bool (decide ((ByteArray.size g1_col : Int) > (1000 : Int))))] h57))
def A_liverylaw23_DefineNone : Ann := (.mk none ⟨[], []⟩ .nil (.mk none ⟨[], []⟩ (.mk none ⟨[], []⟩ (.mk (some ⟨[1, 2], [(13, (.c .bool))]⟩) ⟨[], []⟩ .nil .nil) .nil) .nil))
theorem E_liverylaw23_DefineNone (g0_x_0 : Int) (g0_x_1 : ByteArray) (g0_x_2 : ByteArray) (g0_x_3 : ByteArray) (g0_x_4 : ByteArray) (g0_x_5 : Int) (g0_x_6 : Int) (g0_x_7 : Nat) (g0_x_8 : ByteArray) (g0_x_9 : Int) (g0_x_10 : Int) (g0_x_11 : Nat) (g0_x_12 : ByteArray) (g0_x_13 : Sl) (g0_x_14 : Sl) (g0_x_15 : Bool) (g1_col : ByteArray) (h : Hp) (Q : List Value → Hp → Prop) : cw PP 37 (fun _ => []) (bodyOf Tryz.f3) A_liverylaw23_DefineNone (finQ PP (Tryz.f3.results.toList) Q) (argFr [(Value.agg #[(Value.int .i64 g0_x_0), (Value.string g0_x_1), (Value.string g0_x_2), (Value.string g0_x_3), (Value.string g0_x_4), (Value.int .i64 g0_x_5), (Value.int .i64 g0_x_6), (Value.float .f64 g0_x_7), (Value.string g0_x_8), (Value.int .i64 g0_x_9), (Value.int .i64 g0_x_10), (Value.float .f64 g0_x_11), (Value.string g0_x_12), (Value.slice g0_x_13.a g0_x_13.n g0_x_13.c), (Value.slice g0_x_14.a g0_x_14.n g0_x_14.c), (Value.bool g0_x_15)]), (Value.string g1_col)]) h = F_liverylaw23_DefineNone g0_x_0 g0_x_1 g0_x_2 g0_x_3 g0_x_4 g0_x_5 g0_x_6 g0_x_7 g0_x_8 g0_x_9 g0_x_10 g0_x_11 g0_x_12 g0_x_13 g0_x_14 g0_x_15 g1_col h Q := by kernel_rfl
theorem O_liverylaw23_DefineNone (g0_x_0 : Int) (g0_x_1 : ByteArray) (g0_x_2 : ByteArray) (g0_x_3 : ByteArray) (g0_x_4 : ByteArray) (g0_x_5 : Int) (g0_x_6 : Int) (g0_x_7 : Nat) (g0_x_8 : ByteArray) (g0_x_9 : Int) (g0_x_10 : Int) (g0_x_11 : Nat) (g0_x_12 : ByteArray) (g0_x_13 : Sl) (g0_x_14 : Sl) (g0_x_15 : Bool) (g1_col : ByteArray) {h : Hp} {Q : List Value → Hp → Prop} (H : F_liverylaw23_DefineNone g0_x_0 g0_x_1 g0_x_2 g0_x_3 g0_x_4 g0_x_5 g0_x_6 g0_x_7 g0_x_8 g0_x_9 g0_x_10 g0_x_11 g0_x_12 g0_x_13 g0_x_14 g0_x_15 g1_col h Q) : S_liverylaw23_DefineNone g0_x_0 g0_x_1 g0_x_2 g0_x_3 g0_x_4 g0_x_5 g0_x_6 g0_x_7 g0_x_8 g0_x_9 g0_x_10 g0_x_11 g0_x_12 g0_x_13 g0_x_14 g0_x_15 g1_col h Q :=
  fn_of_cw (hs := (fun _ => [])) (ann := A_liverylaw23_DefineNone) (args := [(Value.agg #[(Value.int .i64 g0_x_0), (Value.string g0_x_1), (Value.string g0_x_2), (Value.string g0_x_3), (Value.string g0_x_4), (Value.int .i64 g0_x_5), (Value.int .i64 g0_x_6), (Value.float .f64 g0_x_7), (Value.string g0_x_8), (Value.int .i64 g0_x_9), (Value.int .i64 g0_x_10), (Value.float .f64 g0_x_11), (Value.string g0_x_12), (Value.slice g0_x_13.a g0_x_13.n g0_x_13.c), (Value.slice g0_x_14.a g0_x_14.n g0_x_14.c), (Value.bool g0_x_15)]), (Value.string g1_col)]) mixedPP Tryz.func3 (c := bodyOf Tryz.f3) (by kernel_rfl) (by kernel_rfl) (by kernel_rfl) (Eq.mpr (E_liverylaw23_DefineNone g0_x_0 g0_x_1 g0_x_2 g0_x_3 g0_x_4 g0_x_5 g0_x_6 g0_x_7 g0_x_8 g0_x_9 g0_x_10 g0_x_11 g0_x_12 g0_x_13 g0_x_14 g0_x_15 g1_col h Q) H)
def F_row_Find_1 (g0_c_0 : ByteArray) (g0_c_1 : Int) (g0_c_2 : Bool) (g0_c_3 : Int) (g0_c_4 : Int) (g0_c_5 : Nat) (g0_c_6 : ByteArray) (g1_x : Addr) (h : Hp) (Q : List Value → Hp → Prop) : Prop :=
wth (Array.push h (Obj.cells #[(Value.string g0_c_0), (Value.int .i64 g0_c_1), (Value.bool g0_c_2), (Value.int .i64 g0_c_3), (Value.int .i64 g0_c_4), (Value.float .f64 g0_c_5), (Value.string g0_c_6)] T_api_Column)) fun h1 =>
∃ s2 : ByteArray, rd h1 (Addr.add (Addr.mk (Array.size h) 0 none) 0) = some (Value.string s2) ∧
∃ s3 : ByteArray, rd h1 g1_x = some (Value.string s3) ∧
Q [(Value.bool ((ByteArray.toList s2) == (ByteArray.toList s3)))] h1
def A_row_Find_1 : Ann := .nil
theorem E_row_Find_1 (g0_c_0 : ByteArray) (g0_c_1 : Int) (g0_c_2 : Bool) (g0_c_3 : Int) (g0_c_4 : Int) (g0_c_5 : Nat) (g0_c_6 : ByteArray) (g1_x : Addr) (h : Hp) (Q : List Value → Hp → Prop) : cw PP 8 (fun _ => []) (bodyOf Tryz.f70) A_row_Find_1 (finQ PP (Tryz.f70.results.toList) Q) (argFr [(Value.agg #[(Value.string g0_c_0), (Value.int .i64 g0_c_1), (Value.bool g0_c_2), (Value.int .i64 g0_c_3), (Value.int .i64 g0_c_4), (Value.float .f64 g0_c_5), (Value.string g0_c_6)]), (Value.pointer (some g1_x))]) h = F_row_Find_1 g0_c_0 g0_c_1 g0_c_2 g0_c_3 g0_c_4 g0_c_5 g0_c_6 g1_x h Q := by kernel_rfl
theorem O_row_Find_1 (g0_c_0 : ByteArray) (g0_c_1 : Int) (g0_c_2 : Bool) (g0_c_3 : Int) (g0_c_4 : Int) (g0_c_5 : Nat) (g0_c_6 : ByteArray) (g1_x : Addr) {h : Hp} {Q : List Value → Hp → Prop} (H : F_row_Find_1 g0_c_0 g0_c_1 g0_c_2 g0_c_3 g0_c_4 g0_c_5 g0_c_6 g1_x h Q) : S_row_Find_1 g0_c_0 g0_c_1 g0_c_2 g0_c_3 g0_c_4 g0_c_5 g0_c_6 g1_x h Q :=
  fn_of_cw (hs := (fun _ => [])) (ann := A_row_Find_1) (args := [(Value.agg #[(Value.string g0_c_0), (Value.int .i64 g0_c_1), (Value.bool g0_c_2), (Value.int .i64 g0_c_3), (Value.int .i64 g0_c_4), (Value.float .f64 g0_c_5), (Value.string g0_c_6)]), (Value.pointer (some g1_x))]) mixedPP Tryz.func70 (c := bodyOf Tryz.f70) (by kernel_rfl) (by kernel_rfl) (by kernel_rfl) (Eq.mpr (E_row_Find_1 g0_c_0 g0_c_1 g0_c_2 g0_c_3 g0_c_4 g0_c_5 g0_c_6 g1_x h Q) H)
end Go.Lift

/- Printed by lift.py: each Go function of this seat as a Prop over the heap, and that the Go code comes to it. -/
import Derived.Test.YtgmbhlfecbpclacGreatDoorLvL
import Derived.Test.YtgmbhlfecbpclacGreatDoorProg
set_option linter.unusedSimpArgs false
set_option linter.unusedVariables false
namespace Go.Lift
open Go Go.Proofs
set_option maxRecDepth 100000
noncomputable abbrev PP : Program := Tryz.prog
theorem mixedPP : PP.follows .mixedOrders = true := by kernel_rfl
def bodyOf (f : Func) : Code := f.body.getD .skip
abbrev T_int : TypeId := 3
abbrev T_uint8 : TypeId := 5
abbrev T_string : TypeId := 9
abbrev T_api_Value : TypeId := 24
abbrev T_sapi_Value : TypeId := 25
abbrev T_api_Stmt : TypeId := 28
abbrev T_api_Reply : TypeId := 33
abbrev T_ptable_Store : TypeId := 42
abbrev T_pssi_Ssi : TypeId := 47
abbrev T_api_Table : TypeId := 59
abbrev T_api_Index : TypeId := 68
abbrev T_table_Index : TypeId := 70
abbrev T_api_Tuple : TypeId := 76
abbrev T_pclog_Log : TypeId := 81
abbrev T_api_Column : TypeId := 84
abbrev T_liveryref19_Store : TypeId := 96
abbrev T_table_Store : TypeId := 112
abbrev T_map_int_int : TypeId := 115
abbrev T_ssi_Ssi : TypeId := 117
abbrev T_siread_Thing : TypeId := 123
abbrev T_read_Hit : TypeId := 136
abbrev T_table_rel : TypeId := 146
abbrev T_ptable_entries : TypeId := 151
abbrev T_table_entries : TypeId := 155
abbrev T_liveryref08_Log : TypeId := 164
abbrev T_liveryref12_Names : TypeId := 169
abbrev T_liveryref06_Table : TypeId := 172
abbrev T_liveryref15_Ssi : TypeId := 176
abbrev T_liveryref08_Tx : TypeId := 178
abbrev T_liveryref09_Rel : TypeId := 184
abbrev T_liveryref19_Rel : TypeId := 187
abbrev T_name_version : TypeId := 191
abbrev T_name_Names : TypeId := 195
abbrev T_liveryref12_Verdict : TypeId := 198
abbrev T_liveryref12_Version : TypeId := 202
abbrev T_liveryref19_Index : TypeId := 211
abbrev T_clog_tx : TypeId := 217
abbrev T_clog_Log : TypeId := 220
abbrev T_edge_Edges : TypeId := 224
abbrev T_2_int : TypeId := 225
abbrev T_leaf_Move : TypeId := 235
abbrev T_plan_Plan : TypeId := 245
abbrev T_map_int_api_Tuple : TypeId := 263
abbrev T_heap_Rel : TypeId := 265
abbrev T_lock_Table : TypeId := 273
abbrev T_liveryref14_Edges : TypeId := 278
abbrev T_sstring : TypeId := 285
abbrev T_liveryref11_Index : TypeId := 297
abbrev T_index_Index : TypeId := 309
abbrev T_value_own : TypeId := 324
abbrev T_siread_Table : TypeId := 332
abbrev T_liveryref13_Table : TypeId := 335
abbrev T_liveryref10_Leaf : TypeId := 342
abbrev T_liveryref10_Leaves : TypeId := 345
abbrev T_liveryref13_Thing : TypeId := 351
abbrev T_liveryref13_Own : TypeId := 353
abbrev T_map_siread_Thing_int : TypeId := 369
abbrev T_pleaf_one : TypeId := 376
abbrev T_leaf_Leaves : TypeId := 379
abbrev T_leaf_one : TypeId := 382
abbrev T_slices_xorshift : TypeId := 414
abbrev T_strings_Builder : TypeId := 432
abbrev T_utf8_acceptRange : TypeId := 474
/-- main.main -/
def S_main_main (h : Hp) (Q : List Value → Hp → Prop) : Prop := Fn PP 0 #[] h Q
/-- gosem.cut -/
def S_gosem_cut (h : Hp) (Q : List Value → Hp → Prop) : Prop := Fn PP 1 #[] h Q
/-- gosem.cut.init -/
def S_gosem_cut_init (h : Hp) (Q : List Value → Hp → Prop) : Prop := Fn PP 2 #[] h Q
/-- livery/liverykeep.LargeValue -/
def S_liverykeep_LargeValue (g0_v_0 : Int) (g0_v_1 : Int) (g0_v_2 : Nat) (g0_v_3 : ByteArray) (h : Hp) (Q : List Value → Hp → Prop) : Prop := Fn PP 8 #[(Value.agg #[(Value.int .i64 g0_v_0), (Value.int .i64 g0_v_1), (Value.float .f64 g0_v_2), (Value.string g0_v_3)])] h Q
/-- livery/liverykeep.LargeRow -/
def S_liverykeep_LargeRow (g0_l : Sl) (h : Hp) (Q : List Value → Hp → Prop) : Prop := Fn PP 9 #[(Value.slice g0_l.a g0_l.n g0_l.c)] h Q
/-- livery/liverykeep.LargeColumns -/
def S_liverykeep_LargeColumns (g0_l : Sl) (h : Hp) (Q : List Value → Hp → Prop) : Prop := Fn PP 10 #[(Value.slice g0_l.a g0_l.n g0_l.c)] h Q
/-- livery/liverykeep.LargeStmt -/
def S_liverykeep_LargeStmt (g0_s_0 : Int) (g0_s_1 : ByteArray) (g0_s_2 : ByteArray) (g0_s_3 : ByteArray) (g0_s_4 : ByteArray) (g0_s_5 : Int) (g0_s_6 : Int) (g0_s_7 : Nat) (g0_s_8 : ByteArray) (g0_s_9 : Int) (g0_s_10 : Int) (g0_s_11 : Nat) (g0_s_12 : ByteArray) (g0_s_13 : Sl) (g0_s_14 : Sl) (g0_s_15 : Bool) (h : Hp) (Q : List Value → Hp → Prop) : Prop := Fn PP 4 #[(Value.agg #[(Value.int .i64 g0_s_0), (Value.string g0_s_1), (Value.string g0_s_2), (Value.string g0_s_3), (Value.string g0_s_4), (Value.int .i64 g0_s_5), (Value.int .i64 g0_s_6), (Value.float .f64 g0_s_7), (Value.string g0_s_8), (Value.int .i64 g0_s_9), (Value.int .i64 g0_s_10), (Value.float .f64 g0_s_11), (Value.string g0_s_12), (Value.slice g0_s_13.a g0_s_13.n g0_s_13.c), (Value.slice g0_s_14.a g0_s_14.n g0_s_14.c), (Value.bool g0_s_15)])] h Q
/-- livery/write.told -/
def S_write_told (g0_err : Int) (g1_who : Int) (h : Hp) (Q : List Value → Hp → Prop) : Prop := Fn PP 19 #[(Value.int .i64 g0_err), (Value.int .i64 g1_who)] h Q
/-- (*livery/table.Store).Ssi -/
def S_table_Store_Ssi (g0_s : Option Addr) (h : Hp) (Q : List Value → Hp → Prop) : Prop := Fn PP 12 #[(Value.pointer g0_s)] h Q
/-- (*livery/table.Store).Log -/
def S_table_Store_Log (g0_s : Option Addr) (h : Hp) (Q : List Value → Hp → Prop) : Prop := Fn PP 30 #[(Value.pointer g0_s)] h Q
/-- (*livery/table.Store).Names -/
def S_table_Store_Names (g0_s : Option Addr) (h : Hp) (Q : List Value → Hp → Prop) : Prop := Fn PP 37 #[(Value.pointer g0_s)] h Q
/-- (*livery/clog.Log).get -/
def S_clog_Log_get (g0_l : Option Addr) (g1_xid : Int) (h : Hp) (Q : List Value → Hp → Prop) : Prop := Fn PP 153 #[(Value.pointer g0_l), (Value.int .i64 g1_xid)] h Q
/-- (*livery/clog.Log).one -/
def S_clog_Log_one (g0_l : Option Addr) (g1_xid : Int) (h : Hp) (Q : List Value → Hp → Prop) : Prop := Fn PP 119 #[(Value.pointer g0_l), (Value.int .i64 g1_xid)] h Q
/-- (*livery/clog.Log).State -/
def S_clog_Log_State (g0_l : Option Addr) (g1_xid : Int) (h : Hp) (Q : List Value → Hp → Prop) : Prop := Fn PP 75 #[(Value.pointer g0_l), (Value.int .i64 g1_xid)] h Q
/-- (*livery/ssi.Ssi).runs -/
def S_ssi_Ssi_runs (g0_s : Option Addr) (g1_xid : Int) (h : Hp) (Q : List Value → Hp → Prop) : Prop := Fn PP 105 #[(Value.pointer g0_s), (Value.int .i64 g1_xid)] h Q
/-- livery/siread.one -/
def S_siread_one (g0_xid : Int) (h : Hp) (Q : List Value → Hp → Prop) : Prop := Fn PP 193 #[(Value.int .i64 g0_xid)] h Q
/-- slices.AppendSeq[[]livery/siread.Thing,livery/siread.Thing] -/
def S_slices_AppendSeq_ssiread_Thing_siread_Thing (g0_s : Sl) (g1_seq_f : Nat) (g1_seq_c : Array Value) (h : Hp) (Q : List Value → Hp → Prop) : Prop := Fn PP 344 #[(Value.slice g0_s.a g0_s.n g0_s.c), (Value.func (.func g1_seq_f) #[] g1_seq_c)] h Q
/-- slices.Collect[livery/siread.Thing] -/
def S_slices_Collect_siread_Thing (g0_seq_f : Nat) (g0_seq_c : Array Value) (h : Hp) (Q : List Value → Hp → Prop) : Prop := Fn PP 330 #[(Value.func (.func g0_seq_f) #[] g0_seq_c)] h Q
/-- math/bits.Len64 -/
def S_math_bits_Len64 (g0_x : Int) (h : Hp) (Q : List Value → Hp → Prop) : Prop := Fn PP 252 #[(Value.int .u64 g0_x)] h Q
/-- math/bits.Len -/
def S_math_bits_Len (g0_x : Int) (h : Hp) (Q : List Value → Hp → Prop) : Prop := Fn PP 192 #[(Value.int .u64 g0_x)] h Q
/-- slices.insertionSortCmpFunc[livery/siread.Thing] -/
def S_slices_insertionSortCmpFunc_siread_Thing (g0_data : Sl) (g1_a : Int) (g2_b : Int) (g3_cmp_f : Nat) (g3_cmp_c : Array Value) (h : Hp) (Q : List Value → Hp → Prop) : Prop := Fn PP 355 #[(Value.slice g0_data.a g0_data.n g0_data.c), (Value.int .i64 g1_a), (Value.int .i64 g2_b), (Value.func (.func g3_cmp_f) #[] g3_cmp_c)] h Q
/-- slices.siftDownCmpFunc[livery/siread.Thing] -/
def S_slices_siftDownCmpFunc_siread_Thing (g0_data : Sl) (g1_lo : Int) (g2_hi : Int) (g3_first : Int) (g4_cmp_f : Nat) (g4_cmp_c : Array Value) (h : Hp) (Q : List Value → Hp → Prop) : Prop := Fn PP 368 #[(Value.slice g0_data.a g0_data.n g0_data.c), (Value.int .i64 g1_lo), (Value.int .i64 g2_hi), (Value.int .i64 g3_first), (Value.func (.func g4_cmp_f) #[] g4_cmp_c)] h Q
/-- slices.heapSortCmpFunc[livery/siread.Thing] -/
def S_slices_heapSortCmpFunc_siread_Thing (g0_data : Sl) (g1_a : Int) (g2_b : Int) (g3_cmp_f : Nat) (g3_cmp_c : Array Value) (h : Hp) (Q : List Value → Hp → Prop) : Prop := Fn PP 356 #[(Value.slice g0_data.a g0_data.n g0_data.c), (Value.int .i64 g1_a), (Value.int .i64 g2_b), (Value.func (.func g3_cmp_f) #[] g3_cmp_c)] h Q
/-- slices.nextPowerOfTwo -/
def S_slices_nextPowerOfTwo (g0_length : Int) (h : Hp) (Q : List Value → Hp → Prop) : Prop := Fn PP 302 #[(Value.int .i64 g0_length)] h Q
/-- (*slices.xorshift).Next -/
def S_slices_xorshift_Next (g0_r : Option Addr) (h : Hp) (Q : List Value → Hp → Prop) : Prop := Fn PP 303 #[(Value.pointer g0_r)] h Q
/-- slices.breakPatternsCmpFunc[livery/siread.Thing] -/
def S_slices_breakPatternsCmpFunc_siread_Thing (g0_data : Sl) (g1_a : Int) (g2_b : Int) (g3_cmp_f : Nat) (g3_cmp_c : Array Value) (h : Hp) (Q : List Value → Hp → Prop) : Prop := Fn PP 357 #[(Value.slice g0_data.a g0_data.n g0_data.c), (Value.int .i64 g1_a), (Value.int .i64 g2_b), (Value.func (.func g3_cmp_f) #[] g3_cmp_c)] h Q
/-- slices.order2CmpFunc[livery/siread.Thing] -/
def S_slices_order2CmpFunc_siread_Thing (g0_data : Sl) (g1_a : Int) (g2_b : Int) (g3_swaps : Option Addr) (g4_cmp_f : Nat) (g4_cmp_c : Array Value) (h : Hp) (Q : List Value → Hp → Prop) : Prop := Fn PP 375 #[(Value.slice g0_data.a g0_data.n g0_data.c), (Value.int .i64 g1_a), (Value.int .i64 g2_b), (Value.pointer g3_swaps), (Value.func (.func g4_cmp_f) #[] g4_cmp_c)] h Q
/-- slices.medianCmpFunc[livery/siread.Thing] -/
def S_slices_medianCmpFunc_siread_Thing (g0_data : Sl) (g1_a : Int) (g2_b : Int) (g3_c : Int) (g4_swaps : Option Addr) (g5_cmp_f : Nat) (g5_cmp_c : Array Value) (h : Hp) (Q : List Value → Hp → Prop) : Prop := Fn PP 370 #[(Value.slice g0_data.a g0_data.n g0_data.c), (Value.int .i64 g1_a), (Value.int .i64 g2_b), (Value.int .i64 g3_c), (Value.pointer g4_swaps), (Value.func (.func g5_cmp_f) #[] g5_cmp_c)] h Q
/-- slices.medianAdjacentCmpFunc[livery/siread.Thing] -/
def S_slices_medianAdjacentCmpFunc_siread_Thing (g0_data : Sl) (g1_a : Int) (g2_swaps : Option Addr) (g3_cmp_f : Nat) (g3_cmp_c : Array Value) (h : Hp) (Q : List Value → Hp → Prop) : Prop := Fn PP 369 #[(Value.slice g0_data.a g0_data.n g0_data.c), (Value.int .i64 g1_a), (Value.pointer g2_swaps), (Value.func (.func g3_cmp_f) #[] g3_cmp_c)] h Q
/-- slices.choosePivotCmpFunc[livery/siread.Thing] -/
def S_slices_choosePivotCmpFunc_siread_Thing (g0_data : Sl) (g1_a : Int) (g2_b : Int) (g3_cmp_f : Nat) (g3_cmp_c : Array Value) (h : Hp) (Q : List Value → Hp → Prop) : Prop := Fn PP 358 #[(Value.slice g0_data.a g0_data.n g0_data.c), (Value.int .i64 g1_a), (Value.int .i64 g2_b), (Value.func (.func g3_cmp_f) #[] g3_cmp_c)] h Q
/-- slices.reverseRangeCmpFunc[livery/siread.Thing] -/
def S_slices_reverseRangeCmpFunc_siread_Thing (g0_data : Sl) (g1_a : Int) (g2_b : Int) (g3_cmp_f : Nat) (g3_cmp_c : Array Value) (h : Hp) (Q : List Value → Hp → Prop) : Prop := Fn PP 359 #[(Value.slice g0_data.a g0_data.n g0_data.c), (Value.int .i64 g1_a), (Value.int .i64 g2_b), (Value.func (.func g3_cmp_f) #[] g3_cmp_c)] h Q
/-- slices.partialInsertionSortCmpFunc[livery/siread.Thing] -/
def S_slices_partialInsertionSortCmpFunc_siread_Thing (g0_data : Sl) (g1_a : Int) (g2_b : Int) (g3_cmp_f : Nat) (g3_cmp_c : Array Value) (h : Hp) (Q : List Value → Hp → Prop) : Prop := Fn PP 360 #[(Value.slice g0_data.a g0_data.n g0_data.c), (Value.int .i64 g1_a), (Value.int .i64 g2_b), (Value.func (.func g3_cmp_f) #[] g3_cmp_c)] h Q
/-- slices.partitionEqualCmpFunc[livery/siread.Thing] -/
def S_slices_partitionEqualCmpFunc_siread_Thing (g0_data : Sl) (g1_a : Int) (g2_b : Int) (g3_pivot : Int) (g4_cmp_f : Nat) (g4_cmp_c : Array Value) (h : Hp) (Q : List Value → Hp → Prop) : Prop := Fn PP 361 #[(Value.slice g0_data.a g0_data.n g0_data.c), (Value.int .i64 g1_a), (Value.int .i64 g2_b), (Value.int .i64 g3_pivot), (Value.func (.func g4_cmp_f) #[] g4_cmp_c)] h Q
/-- slices.partitionCmpFunc[livery/siread.Thing] -/
def S_slices_partitionCmpFunc_siread_Thing (g0_data : Sl) (g1_a : Int) (g2_b : Int) (g3_pivot : Int) (g4_cmp_f : Nat) (g4_cmp_c : Array Value) (h : Hp) (Q : List Value → Hp → Prop) : Prop := Fn PP 362 #[(Value.slice g0_data.a g0_data.n g0_data.c), (Value.int .i64 g1_a), (Value.int .i64 g2_b), (Value.int .i64 g3_pivot), (Value.func (.func g4_cmp_f) #[] g4_cmp_c)] h Q
/-- slices.pdqsortCmpFunc[livery/siread.Thing] -/
def S_slices_pdqsortCmpFunc_siread_Thing (g0_data : Sl) (g1_a : Int) (g2_b : Int) (g3_limit : Int) (g4_cmp_f : Nat) (g4_cmp_c : Array Value) (h : Hp) (Q : List Value → Hp → Prop) : Prop := Fn PP 345 #[(Value.slice g0_data.a g0_data.n g0_data.c), (Value.int .i64 g1_a), (Value.int .i64 g2_b), (Value.int .i64 g3_limit), (Value.func (.func g4_cmp_f) #[] g4_cmp_c)] h Q
/-- slices.SortFunc[[]livery/siread.Thing,livery/siread.Thing] -/
def S_slices_SortFunc_ssiread_Thing_siread_Thing (g0_x : Sl) (g1_cmp_f : Nat) (g1_cmp_c : Array Value) (h : Hp) (Q : List Value → Hp → Prop) : Prop := Fn PP 331 #[(Value.slice g0_x.a g0_x.n g0_x.c), (Value.func (.func g1_cmp_f) #[] g1_cmp_c)] h Q
/-- slices.SortedFunc[livery/siread.Thing] -/
def S_slices_SortedFunc_siread_Thing (g0_seq_f : Nat) (g0_seq_c : Array Value) (g1_cmp_f : Nat) (g1_cmp_c : Array Value) (h : Hp) (Q : List Value → Hp → Prop) : Prop := Fn PP 292 #[(Value.func (.func g0_seq_f) #[] g0_seq_c), (Value.func (.func g1_cmp_f) #[] g1_cmp_c)] h Q
/-- maps.Keys[map[livery/siread.Thing]int,livery/siread.Thing,int] -/
def S_maps_Keys_map_siread_Thing_int_siread_Thing_int (g0_m : Option Nat) (h : Hp) (Q : List Value → Hp → Prop) : Prop := Fn PP 293 #[(Value.map g0_m)] h Q
/-- (*livery/siread.Table).Of -/
def S_siread_Table_Of (g0_t : Option Addr) (g1_xid : Int) (h : Hp) (Q : List Value → Hp → Prop) : Prop := Fn PP 239 #[(Value.pointer g0_t), (Value.int .i64 g1_xid)] h Q
/-- (livery/siread.Thing).fine -/
def S_siread_Thing_fine (g0_x_0 : Int) (g0_x_1 : ByteArray) (g0_x_2 : Int) (g0_x_3 : ByteArray) (g0_x_4 : Int) (h : Hp) (Q : List Value → Hp → Prop) : Prop := Fn PP 253 #[(Value.agg #[(Value.int .i64 g0_x_0), (Value.string g0_x_1), (Value.int .i64 g0_x_2), (Value.string g0_x_3), (Value.int .i64 g0_x_4)])] h Q
/-- (*livery/siread.Table).lose -/
def S_siread_Table_lose (g0_t : Option Addr) (g1_owner : Int) (g2_such_f : Nat) (g2_such_c : Array Value) (h : Hp) (Q : List Value → Hp → Prop) : Prop := Fn PP 234 #[(Value.pointer g0_t), (Value.int .i64 g1_owner), (Value.func (.func g2_such_f) #[] g2_such_c)] h Q
/-- (livery/siread.Thing).rel -/
def S_siread_Thing_rel (g0_x_0 : Int) (g0_x_1 : ByteArray) (g0_x_2 : Int) (g0_x_3 : ByteArray) (g0_x_4 : Int) (h : Hp) (Q : List Value → Hp → Prop) : Prop := Fn PP 254 #[(Value.agg #[(Value.int .i64 g0_x_0), (Value.string g0_x_1), (Value.int .i64 g0_x_2), (Value.string g0_x_3), (Value.int .i64 g0_x_4)])] h Q
/-- (*livery/siread.Table).count -/
def S_siread_Table_count (g0_t : Option Addr) (g1_owner : Int) (g2_rel : Int) (h : Hp) (Q : List Value → Hp → Prop) : Prop := Fn PP 255 #[(Value.pointer g0_t), (Value.int .i64 g1_owner), (Value.int .i64 g2_rel)] h Q
/-- (*livery/siread.Table).take -/
def S_siread_Table_take (g0_t : Option Addr) (g1_owner : Int) (g2_x_0 : Int) (g2_x_1 : ByteArray) (g2_x_2 : Int) (g2_x_3 : ByteArray) (g2_x_4 : Int) (h : Hp) (Q : List Value → Hp → Prop) : Prop := Fn PP 194 #[(Value.pointer g0_t), (Value.int .i64 g1_owner), (Value.agg #[(Value.int .i64 g2_x_0), (Value.string g2_x_1), (Value.int .i64 g2_x_2), (Value.string g2_x_3), (Value.int .i64 g2_x_4)])] h Q
/-- (*livery/siread.Table).Take -/
def S_siread_Table_Take (g0_t : Option Addr) (g1_xid : Int) (g2_x_0 : Int) (g2_x_1 : ByteArray) (g2_x_2 : Int) (g2_x_3 : ByteArray) (g2_x_4 : Int) (h : Hp) (Q : List Value → Hp → Prop) : Prop := Fn PP 122 #[(Value.pointer g0_t), (Value.int .i64 g1_xid), (Value.agg #[(Value.int .i64 g2_x_0), (Value.string g2_x_1), (Value.int .i64 g2_x_2), (Value.string g2_x_3), (Value.int .i64 g2_x_4)])] h Q
/-- (*livery/ssi.Ssi).Read -/
def S_ssi_Ssi_Read (g0_s : Option Addr) (g1_xid : Int) (g2_x_0 : Int) (g2_x_1 : ByteArray) (g2_x_2 : Int) (g2_x_3 : ByteArray) (g2_x_4 : Int) (h : Hp) (Q : List Value → Hp → Prop) : Prop := Fn PP 50 #[(Value.pointer g0_s), (Value.int .i64 g1_xid), (Value.agg #[(Value.int .i64 g2_x_0), (Value.string g2_x_1), (Value.int .i64 g2_x_2), (Value.string g2_x_3), (Value.int .i64 g2_x_4)])] h Q
/-- (*livery/clog.Log).Sees -/
def S_clog_Log_Sees (g0_l : Option Addr) (g1_xid : Int) (g2_other : Int) (h : Hp) (Q : List Value → Hp → Prop) : Prop := Fn PP 76 #[(Value.pointer g0_l), (Value.int .i64 g1_xid), (Value.int .i64 g2_other)] h Q
/-- cmp.isNaN[int] -/
def S_cmp_isNaN_int (g0_x : Int) (h : Hp) (Q : List Value → Hp → Prop) : Prop := Fn PP 218 #[(Value.int .i64 g0_x)] h Q
/-- cmp.Less[int] -/
def S_cmp_Less_int (g0_x : Int) (g1_y : Int) (h : Hp) (Q : List Value → Hp → Prop) : Prop := Fn PP 248 #[(Value.int .i64 g0_x), (Value.int .i64 g1_y)] h Q
/-- slices.insertionSortOrdered[int] -/
def S_slices_insertionSortOrdered_int (g0_data : Sl) (g1_a : Int) (g2_b : Int) (h : Hp) (Q : List Value → Hp → Prop) : Prop := Fn PP 242 #[(Value.slice g0_data.a g0_data.n g0_data.c), (Value.int .i64 g1_a), (Value.int .i64 g2_b)] h Q
/-- slices.siftDownOrdered[int] -/
def S_slices_siftDownOrdered_int (g0_data : Sl) (g1_lo : Int) (g2_hi : Int) (g3_first : Int) (h : Hp) (Q : List Value → Hp → Prop) : Prop := Fn PP 301 #[(Value.slice g0_data.a g0_data.n g0_data.c), (Value.int .i64 g1_lo), (Value.int .i64 g2_hi), (Value.int .i64 g3_first)] h Q
/-- slices.heapSortOrdered[int] -/
def S_slices_heapSortOrdered_int (g0_data : Sl) (g1_a : Int) (g2_b : Int) (h : Hp) (Q : List Value → Hp → Prop) : Prop := Fn PP 243 #[(Value.slice g0_data.a g0_data.n g0_data.c), (Value.int .i64 g1_a), (Value.int .i64 g2_b)] h Q
/-- slices.breakPatternsOrdered[int] -/
def S_slices_breakPatternsOrdered_int (g0_data : Sl) (g1_a : Int) (g2_b : Int) (h : Hp) (Q : List Value → Hp → Prop) : Prop := Fn PP 244 #[(Value.slice g0_data.a g0_data.n g0_data.c), (Value.int .i64 g1_a), (Value.int .i64 g2_b)] h Q
/-- slices.order2Ordered[int] -/
def S_slices_order2Ordered_int (g0_data : Sl) (g1_a : Int) (g2_b : Int) (g3_swaps : Option Addr) (h : Hp) (Q : List Value → Hp → Prop) : Prop := Fn PP 333 #[(Value.slice g0_data.a g0_data.n g0_data.c), (Value.int .i64 g1_a), (Value.int .i64 g2_b), (Value.pointer g3_swaps)] h Q
/-- slices.medianOrdered[int] -/
def S_slices_medianOrdered_int (g0_data : Sl) (g1_a : Int) (g2_b : Int) (g3_c : Int) (g4_swaps : Option Addr) (h : Hp) (Q : List Value → Hp → Prop) : Prop := Fn PP 305 #[(Value.slice g0_data.a g0_data.n g0_data.c), (Value.int .i64 g1_a), (Value.int .i64 g2_b), (Value.int .i64 g3_c), (Value.pointer g4_swaps)] h Q
/-- slices.medianAdjacentOrdered[int] -/
def S_slices_medianAdjacentOrdered_int (g0_data : Sl) (g1_a : Int) (g2_swaps : Option Addr) (h : Hp) (Q : List Value → Hp → Prop) : Prop := Fn PP 304 #[(Value.slice g0_data.a g0_data.n g0_data.c), (Value.int .i64 g1_a), (Value.pointer g2_swaps)] h Q
/-- slices.choosePivotOrdered[int] -/
def S_slices_choosePivotOrdered_int (g0_data : Sl) (g1_a : Int) (g2_b : Int) (h : Hp) (Q : List Value → Hp → Prop) : Prop := Fn PP 245 #[(Value.slice g0_data.a g0_data.n g0_data.c), (Value.int .i64 g1_a), (Value.int .i64 g2_b)] h Q
/-- slices.reverseRangeOrdered[int] -/
def S_slices_reverseRangeOrdered_int (g0_data : Sl) (g1_a : Int) (g2_b : Int) (h : Hp) (Q : List Value → Hp → Prop) : Prop := Fn PP 246 #[(Value.slice g0_data.a g0_data.n g0_data.c), (Value.int .i64 g1_a), (Value.int .i64 g2_b)] h Q
/-- slices.partialInsertionSortOrdered[int] -/
def S_slices_partialInsertionSortOrdered_int (g0_data : Sl) (g1_a : Int) (g2_b : Int) (h : Hp) (Q : List Value → Hp → Prop) : Prop := Fn PP 247 #[(Value.slice g0_data.a g0_data.n g0_data.c), (Value.int .i64 g1_a), (Value.int .i64 g2_b)] h Q
/-- slices.partitionEqualOrdered[int] -/
def S_slices_partitionEqualOrdered_int (g0_data : Sl) (g1_a : Int) (g2_b : Int) (g3_pivot : Int) (h : Hp) (Q : List Value → Hp → Prop) : Prop := Fn PP 249 #[(Value.slice g0_data.a g0_data.n g0_data.c), (Value.int .i64 g1_a), (Value.int .i64 g2_b), (Value.int .i64 g3_pivot)] h Q
/-- slices.partitionOrdered[int] -/
def S_slices_partitionOrdered_int (g0_data : Sl) (g1_a : Int) (g2_b : Int) (g3_pivot : Int) (h : Hp) (Q : List Value → Hp → Prop) : Prop := Fn PP 250 #[(Value.slice g0_data.a g0_data.n g0_data.c), (Value.int .i64 g1_a), (Value.int .i64 g2_b), (Value.int .i64 g3_pivot)] h Q
/-- slices.pdqsortOrdered[int] -/
def S_slices_pdqsortOrdered_int (g0_data : Sl) (g1_a : Int) (g2_b : Int) (g3_limit : Int) (h : Hp) (Q : List Value → Hp → Prop) : Prop := Fn PP 191 #[(Value.slice g0_data.a g0_data.n g0_data.c), (Value.int .i64 g1_a), (Value.int .i64 g2_b), (Value.int .i64 g3_limit)] h Q
/-- slices.Sort[[]int,int] -/
def S_slices_Sort_sint_int (g0_x : Sl) (h : Hp) (Q : List Value → Hp → Prop) : Prop := Fn PP 121 #[(Value.slice g0_x.a g0_x.n g0_x.c)] h Q
/-- slices.AppendSeq[[]int,int] -/
def S_slices_AppendSeq_sint_int (g0_s : Sl) (g1_seq_f : Nat) (g1_seq_c : Array Value) (h : Hp) (Q : List Value → Hp → Prop) : Prop := Fn PP 257 #[(Value.slice g0_s.a g0_s.n g0_s.c), (Value.func (.func g1_seq_f) #[] g1_seq_c)] h Q
/-- slices.Collect[int] -/
def S_slices_Collect_int (g0_seq_f : Nat) (g0_seq_c : Array Value) (h : Hp) (Q : List Value → Hp → Prop) : Prop := Fn PP 195 #[(Value.func (.func g0_seq_f) #[] g0_seq_c)] h Q
/-- slices.Sorted[int] -/
def S_slices_Sorted_int (g0_seq_f : Nat) (g0_seq_c : Array Value) (h : Hp) (Q : List Value → Hp → Prop) : Prop := Fn PP 123 #[(Value.func (.func g0_seq_f) #[] g0_seq_c)] h Q
/-- maps.Keys[map[int]int,int,int] -/
def S_maps_Keys_map_int_int_int_int (g0_m : Option Nat) (h : Hp) (Q : List Value → Hp → Prop) : Prop := Fn PP 124 #[(Value.map g0_m)] h Q
/-- (*livery/name.Names).Unseen -/
def S_name_Names_Unseen (g0_n : Option Addr) (g1_l : Option Addr) (g2_xid : Int) (g3_name : ByteArray) (h : Hp) (Q : List Value → Hp → Prop) : Prop := Fn PP 51 #[(Value.pointer g0_n), (Value.pointer g1_l), (Value.int .i64 g2_xid), (Value.string g3_name)] h Q
/-- (*livery/edge.Edges).none -/
def S_edge_Edges_none (g0_e : Option Addr) (h : Hp) (Q : List Value → Hp → Prop) : Prop := Fn PP 120 #[(Value.pointer g0_e)] h Q
/-- (*livery/clog.Log).Beside -/
def S_clog_Log_Beside (g0_l : Option Addr) (g1_a : Int) (g2_b : Int) (h : Hp) (Q : List Value → Hp → Prop) : Prop := Fn PP 258 #[(Value.pointer g0_l), (Value.int .i64 g1_a), (Value.int .i64 g2_b)] h Q
/-- (*livery/edge.Edges).Add -/
def S_edge_Edges_Add (g0_e : Option Addr) (g1_a : Int) (g2_b : Int) (h : Hp) (Q : List Value → Hp → Prop) : Prop := Fn PP 197 #[(Value.pointer g0_e), (Value.int .i64 g1_a), (Value.int .i64 g2_b)] h Q
/-- (*livery/clog.Log).Reads -/
def S_clog_Log_Reads (g0_l : Option Addr) (g1_xid : Int) (h : Hp) (Q : List Value → Hp → Prop) : Prop := Fn PP 47 #[(Value.pointer g0_l), (Value.int .i64 g1_xid)] h Q
/-- (*livery/edge.Edges).ends -/
def S_edge_Edges_ends (g0_e : Option Addr) (g1_xid : Int) (g2_end : Int) (h : Hp) (Q : List Value → Hp → Prop) : Prop := Fn PP 49 #[(Value.pointer g0_e), (Value.int .i64 g1_xid), (Value.int .i64 g2_end)] h Q
/-- (*livery/edge.Edges).In -/
def S_edge_Edges_In (g0_e : Option Addr) (g1_xid : Int) (h : Hp) (Q : List Value → Hp → Prop) : Prop := Fn PP 177 #[(Value.pointer g0_e), (Value.int .i64 g1_xid)] h Q
/-- (*livery/clog.Log).Csn -/
def S_clog_Log_Csn (g0_l : Option Addr) (g1_xid : Int) (h : Hp) (Q : List Value → Hp → Prop) : Prop := Fn PP 181 #[(Value.pointer g0_l), (Value.int .i64 g1_xid)] h Q
/-- (*livery/clog.Log).Snapshot -/
def S_clog_Log_Snapshot (g0_l : Option Addr) (g1_xid : Int) (h : Hp) (Q : List Value → Hp → Prop) : Prop := Fn PP 267 #[(Value.pointer g0_l), (Value.int .i64 g1_xid)] h Q
/-- (*livery/edge.Edges).Out -/
def S_edge_Edges_Out (g0_e : Option Addr) (g1_xid : Int) (h : Hp) (Q : List Value → Hp → Prop) : Prop := Fn PP 18 #[(Value.pointer g0_e), (Value.int .i64 g1_xid)] h Q
/-- (*livery/edge.Edges).first -/
def S_edge_Edges_first (g0_e : Option Addr) (g1_p : Int) (h : Hp) (Q : List Value → Hp → Prop) : Prop := Fn PP 306 #[(Value.pointer g0_e), (Value.int .i64 g1_p)] h Q
/-- (*livery/edge.Edges).Spoilt -/
def S_edge_Edges_Spoilt (g0_e : Option Addr) (g1_p : Int) (h : Hp) (Q : List Value → Hp → Prop) : Prop := Fn PP 259 #[(Value.pointer g0_e), (Value.int .i64 g1_p)] h Q
/-- (*livery/ssi.Ssi).look -/
def S_ssi_Ssi_look (g0_s : Option Addr) (g1_p : Int) (h : Hp) (Q : List Value → Hp → Prop) : Prop := Fn PP 198 #[(Value.pointer g0_s), (Value.int .i64 g1_p)] h Q
/-- (*livery/ssi.Ssi).behind -/
def S_ssi_Ssi_behind (g0_s : Option Addr) (g1_a : Int) (g2_b : Int) (h : Hp) (Q : List Value → Hp → Prop) : Prop := Fn PP 125 #[(Value.pointer g0_s), (Value.int .i64 g1_a), (Value.int .i64 g2_b)] h Q
/-- (*livery/ssi.Ssi).Saw -/
def S_ssi_Ssi_Saw (g0_s : Option Addr) (g1_xid : Int) (g2_writer : Int) (h : Hp) (Q : List Value → Hp → Prop) : Prop := Fn PP 52 #[(Value.pointer g0_s), (Value.int .i64 g1_xid), (Value.int .i64 g2_writer)] h Q
/-- (livery/name.version).sees -/
def S_name_version_sees (g0_v_0 : Int) (g0_v_1 : Int) (g0_v_2 : ByteArray) (g0_v_3 : Sl) (g0_v_4 : Int) (g1_l : Option Addr) (g2_xid : Int) (h : Hp) (Q : List Value → Hp → Prop) : Prop := Fn PP 158 #[(Value.agg #[(Value.int .i64 g0_v_0), (Value.int .i64 g0_v_1), (Value.string g0_v_2), (Value.slice g0_v_3.a g0_v_3.n g0_v_3.c), (Value.int .i64 g0_v_4)]), (Value.pointer g1_l), (Value.int .i64 g2_xid)] h Q
/-- (*livery/name.Names).at -/
def S_name_Names_at (g0_n : Option Addr) (g1_l : Option Addr) (g2_xid : Int) (g3_name : ByteArray) (h : Hp) (Q : List Value → Hp → Prop) : Prop := Fn PP 89 #[(Value.pointer g0_n), (Value.pointer g1_l), (Value.int .i64 g2_xid), (Value.string g3_name)] h Q
/-- slices.Clone[[]livery/api.Column,livery/api.Column] -/
def S_slices_Clone_sapi_Column_api_Column (g0_s : Sl) (h : Hp) (Q : List Value → Hp → Prop) : Prop := Fn PP 161 #[(Value.slice g0_s.a g0_s.n g0_s.c)] h Q
/-- livery/name.copied -/
def S_name_copied (g0_t_0 : ByteArray) (g0_t_1 : Sl) (g0_t_2 : Int) (h : Hp) (Q : List Value → Hp → Prop) : Prop := Fn PP 91 #[(Value.agg #[(Value.string g0_t_0), (Value.slice g0_t_1.a g0_t_1.n g0_t_1.c), (Value.int .i64 g0_t_2)])] h Q
/-- (*livery/name.Names).See -/
def S_name_Names_See (g0_n : Option Addr) (g1_l : Option Addr) (g2_xid : Int) (g3_name : ByteArray) (h : Hp) (Q : List Value → Hp → Prop) : Prop := Fn PP 53 #[(Value.pointer g0_n), (Value.pointer g1_l), (Value.int .i64 g2_xid), (Value.string g3_name)] h Q
/-- livery/read.Open -/
def S_read_Open (g0_s : Option Addr) (g1_xid : Int) (g2_name : ByteArray) (h : Hp) (Q : List Value → Hp → Prop) : Prop := Fn PP 20 #[(Value.pointer g0_s), (Value.int .i64 g1_xid), (Value.string g2_name)] h Q
/-- (*livery/table.Store).rel -/
def S_table_Store_rel (g0_s : Option Addr) (g1_n : Int) (h : Hp) (Q : List Value → Hp → Prop) : Prop := Fn PP 65 #[(Value.pointer g0_s), (Value.int .i64 g1_n)] h Q
/-- (*livery/table.Store).Rel -/
def S_table_Store_Rel (g0_s : Option Addr) (g1_n : Int) (h : Hp) (Q : List Value → Hp → Prop) : Prop := Fn PP 23 #[(Value.pointer g0_s), (Value.int .i64 g1_n)] h Q
/-- slices.IndexFunc[[]livery/table.Index,livery/table.Index] -/
def S_slices_IndexFunc_stable_Index_table_Index (g0_s : Sl) (g1_f_f : Nat) (g1_f_c : Array Value) (h : Hp) (Q : List Value → Hp → Prop) : Prop := Fn PP 146 #[(Value.slice g0_s.a g0_s.n g0_s.c), (Value.func (.func g1_f_f) #[] g1_f_c)] h Q
/-- slices.DeleteFunc[[]livery/table.Index,livery/table.Index] -/
def S_slices_DeleteFunc_stable_Index_table_Index (g0_s : Sl) (g1_del_f : Nat) (g1_del_c : Array Value) (h : Hp) (Q : List Value → Hp → Prop) : Prop := Fn PP 66 #[(Value.slice g0_s.a g0_s.n g0_s.c), (Value.func (.func g1_del_f) #[] g1_del_c)] h Q
/-- (*livery/table.Store).stands -/
def S_table_Store_stands (g0_s : Option Addr) (g1_x : Option Addr) (h : Hp) (Q : List Value → Hp → Prop) : Prop := Fn PP 167 #[(Value.pointer g0_s), (Value.pointer g1_x)] h Q
/-- slices.insertionSortCmpFunc[*livery/table.entries] -/
def S_slices_insertionSortCmpFunc_ptable_entries (g0_data : Sl) (g1_a : Int) (g2_b : Int) (g3_cmp_f : Nat) (g3_cmp_c : Array Value) (h : Hp) (Q : List Value → Hp → Prop) : Prop := Fn PP 290 #[(Value.slice g0_data.a g0_data.n g0_data.c), (Value.int .i64 g1_a), (Value.int .i64 g2_b), (Value.func (.func g3_cmp_f) #[] g3_cmp_c)] h Q
/-- slices.swapRangeCmpFunc[*livery/table.entries] -/
def S_slices_swapRangeCmpFunc_ptable_entries (g0_data : Sl) (g1_a : Int) (g2_b : Int) (g3_n : Int) (g4_cmp_f : Nat) (g4_cmp_c : Array Value) (h : Hp) (Q : List Value → Hp → Prop) : Prop := Fn PP 343 #[(Value.slice g0_data.a g0_data.n g0_data.c), (Value.int .i64 g1_a), (Value.int .i64 g2_b), (Value.int .i64 g3_n), (Value.func (.func g4_cmp_f) #[] g4_cmp_c)] h Q
/-- slices.rotateCmpFunc[*livery/table.entries] -/
def S_slices_rotateCmpFunc_ptable_entries (g0_data : Sl) (g1_a : Int) (g2_m : Int) (g3_b : Int) (g4_cmp_f : Nat) (g4_cmp_c : Array Value) (h : Hp) (Q : List Value → Hp → Prop) : Prop := Fn PP 329 #[(Value.slice g0_data.a g0_data.n g0_data.c), (Value.int .i64 g1_a), (Value.int .i64 g2_m), (Value.int .i64 g3_b), (Value.func (.func g4_cmp_f) #[] g4_cmp_c)] h Q
/-- slices.symMergeCmpFunc[*livery/table.entries] -/
def S_slices_symMergeCmpFunc_ptable_entries (g0_data : Sl) (g1_a : Int) (g2_m : Int) (g3_b : Int) (g4_cmp_f : Nat) (g4_cmp_c : Array Value) (h : Hp) (Q : List Value → Hp → Prop) : Prop := Fn PP 291 #[(Value.slice g0_data.a g0_data.n g0_data.c), (Value.int .i64 g1_a), (Value.int .i64 g2_m), (Value.int .i64 g3_b), (Value.func (.func g4_cmp_f) #[] g4_cmp_c)] h Q
/-- slices.stableCmpFunc[*livery/table.entries] -/
def S_slices_stableCmpFunc_ptable_entries (g0_data : Sl) (g1_n : Int) (g2_cmp_f : Nat) (g2_cmp_c : Array Value) (h : Hp) (Q : List Value → Hp → Prop) : Prop := Fn PP 231 #[(Value.slice g0_data.a g0_data.n g0_data.c), (Value.int .i64 g1_n), (Value.func (.func g2_cmp_f) #[] g2_cmp_c)] h Q
/-- slices.SortStableFunc[[]*livery/table.entries,*livery/table.entries] -/
def S_slices_SortStableFunc_sptable_entries_ptable_entries (g0_x : Sl) (g1_cmp_f : Nat) (g1_cmp_c : Array Value) (h : Hp) (Q : List Value → Hp → Prop) : Prop := Fn PP 168 #[(Value.slice g0_x.a g0_x.n g0_x.c), (Value.func (.func g1_cmp_f) #[] g1_cmp_c)] h Q
/-- (*livery/table.Store).standing -/
def S_table_Store_standing (g0_s : Option Addr) (g1_n : Int) (h : Hp) (Q : List Value → Hp → Prop) : Prop := Fn PP 98 #[(Value.pointer g0_s), (Value.int .i64 g1_n)] h Q
/-- (*livery/table.Store).Indexes -/
def S_table_Store_Indexes (g0_s : Option Addr) (g1_rel : Int) (h : Hp) (Q : List Value → Hp → Prop) : Prop := Fn PP 67 #[(Value.pointer g0_s), (Value.int .i64 g1_rel)] h Q
/-- livery/write.unique -/
def S_write_unique (g0_s : Option Addr) (g1_xid : Int) (g2_rel : Int) (h : Hp) (Q : List Value → Hp → Prop) : Prop := Fn PP 24 #[(Value.pointer g0_s), (Value.int .i64 g1_xid), (Value.int .i64 g2_rel)] h Q
/-- slices.IndexFunc[[]livery/api.Column,livery/api.Column] -/
def S_slices_IndexFunc_sapi_Column_api_Column (g0_s : Sl) (g1_f_f : Nat) (g1_f_c : Array Value) (h : Hp) (Q : List Value → Hp → Prop) : Prop := Fn PP 69 #[(Value.slice g0_s.a g0_s.n g0_s.c), (Value.func (.func g1_f_f) #[] g1_f_c)] h Q
/-- livery/row.Find -/
def S_row_Find (g0_l : Sl) (g1_name : ByteArray) (h : Hp) (Q : List Value → Hp → Prop) : Prop := Fn PP 25 #[(Value.slice g0_l.a g0_l.n g0_l.c), (Value.string g1_name)] h Q
/-- slices.IndexFunc[[]*livery/table.entries,*livery/table.entries] -/
def S_slices_IndexFunc_sptable_entries_ptable_entries (g0_s : Sl) (g1_f_f : Nat) (g1_f_c : Array Value) (h : Hp) (Q : List Value → Hp → Prop) : Prop := Fn PP 148 #[(Value.slice g0_s.a g0_s.n g0_s.c), (Value.func (.func g1_f_f) #[] g1_f_c)] h Q
/-- (*livery/table.Store).get -/
def S_table_Store_get (g0_s : Option Addr) (g1_rel : Int) (g2_name : ByteArray) (h : Hp) (Q : List Value → Hp → Prop) : Prop := Fn PP 71 #[(Value.pointer g0_s), (Value.int .i64 g1_rel), (Value.string g2_name)] h Q
/-- strings.Join -/
def S_strings_Join (g0_elems : Sl) (g1_sep : ByteArray) (h : Hp) (Q : List Value → Hp → Prop) : Prop := Fn PP 285 #[(Value.slice g0_elems.a g0_elems.n g0_elems.c), (Value.string g1_sep)] h Q
/-- livery/key.joined -/
def S_key_joined (g0_l : Sl) (h : Hp) (Q : List Value → Hp → Prop) : Prop := Fn PP 224 #[(Value.slice g0_l.a g0_l.n g0_l.c)] h Q
/-- livery/value.Good -/
def S_value_Good (g0_v_0 : Int) (g0_v_1 : Int) (g0_v_2 : Nat) (g0_v_3 : ByteArray) (h : Hp) (Q : List Value → Hp → Prop) : Prop := Fn PP 144 #[(Value.agg #[(Value.int .i64 g0_v_0), (Value.int .i64 g0_v_1), (Value.float .f64 g0_v_2), (Value.string g0_v_3)])] h Q
/-- livery/key.eight -/
def S_key_eight (g0_u : Int) (h : Hp) (Q : List Value → Hp → Prop) : Prop := Fn PP 307 #[(Value.int .u64 g0_u)] h Q
/-- math.Float64bits -/
def S_math_Float64bits (g0_x : Nat) (h : Hp) (Q : List Value → Hp → Prop) : Prop := Fn PP 288 #[(Value.float .f64 g0_x)] h Q
/-- math.Float64frombits -/
def S_math_Float64frombits (g0_x : Int) (h : Hp) (Q : List Value → Hp → Prop) : Prop := Fn PP 328 #[(Value.int .u64 g0_x)] h Q
/-- livery/float.Canon -/
def S_float_Canon (g0_f : Nat) (h : Hp) (Q : List Value → Hp → Prop) : Prop := Fn PP 322 #[(Value.float .f64 g0_f)] h Q
/-- livery/float.Bits -/
def S_float_Bits (g0_f : Nat) (h : Hp) (Q : List Value → Hp → Prop) : Prop := Fn PP 308 #[(Value.float .f64 g0_f)] h Q
/-- internal/bytealg.MakeNoZero -/
def S_internal_bytealg_MakeNoZero (g0_x : Int) (h : Hp) (Q : List Value → Hp → Prop) : Prop := Fn PP 352 #[(Value.int .i64 g0_x)] h Q
/-- (*strings.Builder).grow -/
def S_strings_Builder_grow (g0_b : Option Addr) (g1_n : Int) (h : Hp) (Q : List Value → Hp → Prop) : Prop := Fn PP 339 #[(Value.pointer g0_b), (Value.int .i64 g1_n)] h Q
/-- (*strings.Builder).Grow -/
def S_strings_Builder_Grow (g0_b : Option Addr) (g1_n : Int) (h : Hp) (Q : List Value → Hp → Prop) : Prop := Fn PP 323 #[(Value.pointer g0_b), (Value.int .i64 g1_n)] h Q
/-- (*strings.Builder).WriteString -/
def S_strings_Builder_WriteString (g0_b : Option Addr) (g1_s : ByteArray) (h : Hp) (Q : List Value → Hp → Prop) : Prop := Fn PP 324 #[(Value.pointer g0_b), (Value.string g1_s)] h Q
/-- (*strings.Builder).String -/
def S_strings_Builder_String (g0_b : Option Addr) (h : Hp) (Q : List Value → Hp → Prop) : Prop := Fn PP 325 #[(Value.pointer g0_b)] h Q
/-- internal/bytealg.IndexByteString -/
def S_internal_bytealg_IndexByteString (g0_x : ByteArray) (g1_x : Int) (h : Hp) (Q : List Value → Hp → Prop) : Prop := Fn PP 374 #[(Value.string g0_x), (Value.int .u8 g1_x)] h Q
/-- internal/stringslite.IndexByte -/
def S_internal_stringslite_IndexByte (g0_s : ByteArray) (g1_c : Int) (h : Hp) (Q : List Value → Hp → Prop) : Prop := Fn PP 367 #[(Value.string g0_s), (Value.int .u8 g1_c)] h Q
/-- internal/bytealg.IndexString -/
def S_internal_bytealg_IndexString (g0_x : ByteArray) (g1_x : ByteArray) (h : Hp) (Q : List Value → Hp → Prop) : Prop := Fn PP 371 #[(Value.string g0_x), (Value.string g1_x)] h Q
/-- internal/bytealg.Cutover -/
def S_internal_bytealg_Cutover (g0_n : Int) (h : Hp) (Q : List Value → Hp → Prop) : Prop := Fn PP 372 #[(Value.int .i64 g0_n)] h Q
/-- internal/bytealg.hashStr[string] -/
def S_internal_bytealg_hashStr_string (g0_sep : ByteArray) (h : Hp) (Q : List Value → Hp → Prop) : Prop := Fn PP 376 #[(Value.string g0_sep)] h Q
/-- internal/bytealg.IndexRabinKarp[string] -/
def S_internal_bytealg_IndexRabinKarp_string (g0_s : ByteArray) (g1_sep : ByteArray) (h : Hp) (Q : List Value → Hp → Prop) : Prop := Fn PP 373 #[(Value.string g0_s), (Value.string g1_sep)] h Q
/-- internal/stringslite.Index -/
def S_internal_stringslite_Index (g0_s : ByteArray) (g1_substr : ByteArray) (h : Hp) (Q : List Value → Hp → Prop) : Prop := Fn PP 365 #[(Value.string g0_s), (Value.string g1_substr)] h Q
/-- strings.Index -/
def S_strings_Index (g0_s : ByteArray) (g1_substr : ByteArray) (h : Hp) (Q : List Value → Hp → Prop) : Prop := Fn PP 347 #[(Value.string g0_s), (Value.string g1_substr)] h Q
/-- unicode/utf8.RuneCountInString -/
def S_unicode_utf8_RuneCountInString (g0_s : ByteArray) (h : Hp) (Q : List Value → Hp → Prop) : Prop := Fn PP 363 #[(Value.string g0_s)] h Q
/-- internal/bytealg.CountString -/
def S_internal_bytealg_CountString (g0_x : ByteArray) (g1_x : Int) (h : Hp) (Q : List Value → Hp → Prop) : Prop := Fn PP 364 #[(Value.string g0_x), (Value.int .u8 g1_x)] h Q
/-- strings.Count -/
def S_strings_Count (g0_s : ByteArray) (g1_substr : ByteArray) (h : Hp) (Q : List Value → Hp → Prop) : Prop := Fn PP 346 #[(Value.string g0_s), (Value.string g1_substr)] h Q
/-- unicode/utf8.decodeRuneInStringSlow -/
def S_unicode_utf8_decodeRuneInStringSlow (g0_s : ByteArray) (h : Hp) (Q : List Value → Hp → Prop) : Prop := Fn PP 366 #[(Value.string g0_s)] h Q
/-- unicode/utf8.DecodeRuneInString -/
def S_unicode_utf8_DecodeRuneInString (g0_s : ByteArray) (h : Hp) (Q : List Value → Hp → Prop) : Prop := Fn PP 348 #[(Value.string g0_s)] h Q
/-- strings.Replace -/
def S_strings_Replace (g0_s : ByteArray) (g1_old : ByteArray) (g2_new : ByteArray) (g3_n : Int) (h : Hp) (Q : List Value → Hp → Prop) : Prop := Fn PP 334 #[(Value.string g0_s), (Value.string g1_old), (Value.string g2_new), (Value.int .i64 g3_n)] h Q
/-- strings.ReplaceAll -/
def S_strings_ReplaceAll (g0_s : ByteArray) (g1_old : ByteArray) (g2_new : ByteArray) (h : Hp) (Q : List Value → Hp → Prop) : Prop := Fn PP 309 #[(Value.string g0_s), (Value.string g1_old), (Value.string g2_new)] h Q
/-- livery/key.Of -/
def S_key_Of (g0_v_0 : Int) (g0_v_1 : Int) (g0_v_2 : Nat) (g0_v_3 : ByteArray) (h : Hp) (Q : List Value → Hp → Prop) : Prop := Fn PP 260 #[(Value.agg #[(Value.int .i64 g0_v_0), (Value.int .i64 g0_v_1), (Value.float .f64 g0_v_2), (Value.string g0_v_3)])] h Q
/-- livery/key.Entry -/
def S_key_Entry (g0_v_0 : Int) (g0_v_1 : Int) (g0_v_2 : Nat) (g0_v_3 : ByteArray) (g1_n : Int) (h : Hp) (Q : List Value → Hp → Prop) : Prop := Fn PP 199 #[(Value.agg #[(Value.int .i64 g0_v_0), (Value.int .i64 g0_v_1), (Value.float .f64 g0_v_2), (Value.string g0_v_3)]), (Value.int .i64 g1_n)] h Q
/-- livery/key.Least -/
def S_key_Least (g0_v_0 : Int) (g0_v_1 : Int) (g0_v_2 : Nat) (g0_v_3 : ByteArray) (h : Hp) (Q : List Value → Hp → Prop) : Prop := Fn PP 150 #[(Value.agg #[(Value.int .i64 g0_v_0), (Value.int .i64 g0_v_1), (Value.float .f64 g0_v_2), (Value.string g0_v_3)])] h Q
/-- livery/key.After -/
def S_key_After (g0_v_0 : Int) (g0_v_1 : Int) (g0_v_2 : Nat) (g0_v_3 : ByteArray) (h : Hp) (Q : List Value → Hp → Prop) : Prop := Fn PP 151 #[(Value.agg #[(Value.int .i64 g0_v_0), (Value.int .i64 g0_v_1), (Value.float .f64 g0_v_2), (Value.string g0_v_3)])] h Q
/-- (*livery/index.Index).between -/
def S_index_Index_between (g0_x : Option Addr) (g1_from : ByteArray) (g2_to : ByteArray) (h : Hp) (Q : List Value → Hp → Prop) : Prop := Fn PP 152 #[(Value.pointer g0_x), (Value.string g1_from), (Value.string g2_to)] h Q
/-- (*livery/index.Index).Find -/
def S_index_Index_Find (g0_x : Option Addr) (g1_v_0 : Int) (g1_v_1 : Int) (g1_v_2 : Nat) (g1_v_3 : ByteArray) (h : Hp) (Q : List Value → Hp → Prop) : Prop := Fn PP 72 #[(Value.pointer g0_x), (Value.agg #[(Value.int .i64 g1_v_0), (Value.int .i64 g1_v_1), (Value.float .f64 g1_v_2), (Value.string g1_v_3)])] h Q
/-- (*livery/table.Store).Find -/
def S_table_Store_Find (g0_s : Option Addr) (g1_rel : Int) (g2_name : ByteArray) (g3_v_0 : Int) (g3_v_1 : Int) (g3_v_2 : Nat) (g3_v_3 : ByteArray) (h : Hp) (Q : List Value → Hp → Prop) : Prop := Fn PP 26 #[(Value.pointer g0_s), (Value.int .i64 g1_rel), (Value.string g2_name), (Value.agg #[(Value.int .i64 g3_v_0), (Value.int .i64 g3_v_1), (Value.float .f64 g3_v_2), (Value.string g3_v_3)])] h Q
/-- slices.Index[[]int,int] -/
def S_slices_Index_sint_int (g0_s : Sl) (g1_v : Int) (h : Hp) (Q : List Value → Hp → Prop) : Prop := Fn PP 73 #[(Value.slice g0_s.a g0_s.n g0_s.c), (Value.int .i64 g1_v)] h Q
/-- slices.Contains[[]int,int] -/
def S_slices_Contains_sint_int (g0_s : Sl) (g1_v : Int) (h : Hp) (Q : List Value → Hp → Prop) : Prop := Fn PP 27 #[(Value.slice g0_s.a g0_s.n g0_s.c), (Value.int .i64 g1_v)] h Q
/-- slices.Clone[[]livery/api.Value,livery/api.Value] -/
def S_slices_Clone_sapi_Value_api_Value (g0_s : Sl) (h : Hp) (Q : List Value → Hp → Prop) : Prop := Fn PP 61 #[(Value.slice g0_s.a g0_s.n g0_s.c)] h Q
/-- (*livery/heap.Rel).get -/
def S_heap_Rel_get (g0_r : Option Addr) (g1_tid : Int) (h : Hp) (Q : List Value → Hp → Prop) : Prop := Fn PP 74 #[(Value.pointer g0_r), (Value.int .i64 g1_tid)] h Q
/-- (*livery/heap.Rel).Get -/
def S_heap_Rel_Get (g0_r : Option Addr) (g1_tid : Int) (h : Hp) (Q : List Value → Hp → Prop) : Prop := Fn PP 28 #[(Value.pointer g0_r), (Value.int .i64 g1_tid)] h Q
/-- livery/write.bars -/
def S_write_bars (g0_l : Option Addr) (g1_xid : Int) (g2_x_0 : Int) (g2_x_1 : Int) (g2_x_2 : Sl) (h : Hp) (Q : List Value → Hp → Prop) : Prop := Fn PP 29 #[(Value.pointer g0_l), (Value.int .i64 g1_xid), (Value.agg #[(Value.int .i64 g2_x_0), (Value.int .i64 g2_x_1), (Value.slice g2_x_2.a g2_x_2.n g2_x_2.c)])] h Q
/-- livery/write.May -/
def S_write_May (g0_s : Option Addr) (g1_xid : Int) (g2_rel : Int) (g3_cols : Sl) (g4_r : Sl) (g5_but : Sl) (h : Hp) (Q : List Value → Hp → Prop) : Prop := Fn PP 7 #[(Value.pointer g0_s), (Value.int .i64 g1_xid), (Value.int .i64 g2_rel), (Value.slice g3_cols.a g3_cols.n g3_cols.c), (Value.slice g4_r.a g4_r.n g4_r.c), (Value.slice g5_but.a g5_but.n g5_but.c)] h Q
/-- livery/row.Takes -/
def S_row_Takes (g0_c_0 : ByteArray) (g0_c_1 : Int) (g0_c_2 : Bool) (g0_c_3 : Int) (g0_c_4 : Int) (g0_c_5 : Nat) (g0_c_6 : ByteArray) (g1_v_0 : Int) (g1_v_1 : Int) (g1_v_2 : Nat) (g1_v_3 : ByteArray) (h : Hp) (Q : List Value → Hp → Prop) : Prop := Fn PP 59 #[(Value.agg #[(Value.string g0_c_0), (Value.int .i64 g0_c_1), (Value.bool g0_c_2), (Value.int .i64 g0_c_3), (Value.int .i64 g0_c_4), (Value.float .f64 g0_c_5), (Value.string g0_c_6)]), (Value.agg #[(Value.int .i64 g1_v_0), (Value.int .i64 g1_v_1), (Value.float .f64 g1_v_2), (Value.string g1_v_3)])] h Q
/-- livery/row.Pad -/
def S_row_Pad (g0_l : Sl) (g1_r : Sl) (h : Hp) (Q : List Value → Hp → Prop) : Prop := Fn PP 126 #[(Value.slice g0_l.a g0_l.n g0_l.c), (Value.slice g1_r.a g1_r.n g1_r.c)] h Q
/-- livery/row.Fill -/
def S_row_Fill (g0_l : Sl) (g1_r : Sl) (h : Hp) (Q : List Value → Hp → Prop) : Prop := Fn PP 54 #[(Value.slice g0_l.a g0_l.n g0_l.c), (Value.slice g1_r.a g1_r.n g1_r.c)] h Q
/-- slices.IndexFunc[[]int,int] -/
def S_slices_IndexFunc_sint_int (g0_s : Sl) (g1_f_f : Nat) (g1_f_c : Array Value) (h : Hp) (Q : List Value → Hp → Prop) : Prop := Fn PP 118 #[(Value.slice g0_s.a g0_s.n g0_s.c), (Value.func (.func g1_f_f) #[] g1_f_c)] h Q
/-- (*livery/name.Names).May -/
def S_name_Names_May (g0_n : Option Addr) (g1_l : Option Addr) (g2_xid : Int) (g3_name : ByteArray) (h : Hp) (Q : List Value → Hp → Prop) : Prop := Fn PP 55 #[(Value.pointer g0_n), (Value.pointer g1_l), (Value.int .i64 g2_xid), (Value.string g3_name)] h Q
/-- livery/write.may -/
def S_write_may (g0_err : Int) (g1_who : Int) (h : Hp) (Q : List Value → Hp → Prop) : Prop := Fn PP 56 #[(Value.int .i64 g0_err), (Value.int .i64 g1_who)] h Q
/-- (*livery/heap.Rel).Insert -/
def S_heap_Rel_Insert (g0_r : Option Addr) (g1_xid : Int) (g2_row : Sl) (h : Hp) (Q : List Value → Hp → Prop) : Prop := Fn PP 128 #[(Value.pointer g0_r), (Value.int .i64 g1_xid), (Value.slice g2_row.a g2_row.n g2_row.c)] h Q
/-- (*livery/leaf.Leaves).at -/
def S_leaf_Leaves_at (g0_x : Option Addr) (g1_k : ByteArray) (h : Hp) (Q : List Value → Hp → Prop) : Prop := Fn PP 261 #[(Value.pointer g0_x), (Value.string g1_k)] h Q
/-- cmp.isNaN[string] -/
def S_cmp_isNaN_string (g0_x : ByteArray) (h : Hp) (Q : List Value → Hp → Prop) : Prop := Fn PP 232 #[(Value.string g0_x)] h Q
/-- cmp.Less[string] -/
def S_cmp_Less_string (g0_x : ByteArray) (g1_y : ByteArray) (h : Hp) (Q : List Value → Hp → Prop) : Prop := Fn PP 310 #[(Value.string g0_x), (Value.string g1_y)] h Q
/-- slices.isNaN[string] -/
def S_slices_isNaN_string (g0_x : ByteArray) (h : Hp) (Q : List Value → Hp → Prop) : Prop := Fn PP 311 #[(Value.string g0_x)] h Q
/-- slices.BinarySearch[[]string,string] -/
def S_slices_BinarySearch_sstring_string (g0_x : Sl) (g1_target : ByteArray) (h : Hp) (Q : List Value → Hp → Prop) : Prop := Fn PP 262 #[(Value.slice g0_x.a g0_x.n g0_x.c), (Value.string g1_target)] h Q
/-- slices.overlaps[string] -/
def S_slices_overlaps_string (g0_x : Sl) (g1_x : Sl) (h : Hp) (Q : List Value → Hp → Prop) : Prop := Fn PP 312 #[(Value.slice g0_x.a g0_x.n g0_x.c), (Value.slice g1_x.a g1_x.n g1_x.c)] h Q
/-- slices.Reverse[[]string,string] -/
def S_slices_Reverse_sstring_string (g0_s : Sl) (h : Hp) (Q : List Value → Hp → Prop) : Prop := Fn PP 349 #[(Value.slice g0_s.a g0_s.n g0_s.c)] h Q
/-- slices.rotateLeft[string] -/
def S_slices_rotateLeft_string (g0_s : Sl) (g1_r : Int) (h : Hp) (Q : List Value → Hp → Prop) : Prop := Fn PP 335 #[(Value.slice g0_s.a g0_s.n g0_s.c), (Value.int .i64 g1_r)] h Q
/-- slices.rotateRight[string] -/
def S_slices_rotateRight_string (g0_s : Sl) (g1_r : Int) (h : Hp) (Q : List Value → Hp → Prop) : Prop := Fn PP 313 #[(Value.slice g0_s.a g0_s.n g0_s.c), (Value.int .i64 g1_r)] h Q
/-- slices.Insert[[]string,string] -/
def S_slices_Insert_sstring_string (g0_s : Sl) (g1_i : Int) (g2_v : Sl) (h : Hp) (Q : List Value → Hp → Prop) : Prop := Fn PP 263 #[(Value.slice g0_s.a g0_s.n g0_s.c), (Value.int .i64 g1_i), (Value.slice g2_v.a g2_v.n g2_v.c)] h Q
/-- slices.Clone[[]string,string] -/
def S_slices_Clone_sstring_string (g0_s : Sl) (h : Hp) (Q : List Value → Hp → Prop) : Prop := Fn PP 264 #[(Value.slice g0_s.a g0_s.n g0_s.c)] h Q
/-- slices.overlaps[*livery/leaf.one] -/
def S_slices_overlaps_pleaf_one (g0_x : Sl) (g1_x : Sl) (h : Hp) (Q : List Value → Hp → Prop) : Prop := Fn PP 314 #[(Value.slice g0_x.a g0_x.n g0_x.c), (Value.slice g1_x.a g1_x.n g1_x.c)] h Q
/-- slices.Reverse[[]*livery/leaf.one,*livery/leaf.one] -/
def S_slices_Reverse_spleaf_one_pleaf_one (g0_s : Sl) (h : Hp) (Q : List Value → Hp → Prop) : Prop := Fn PP 350 #[(Value.slice g0_s.a g0_s.n g0_s.c)] h Q
/-- slices.rotateLeft[*livery/leaf.one] -/
def S_slices_rotateLeft_pleaf_one (g0_s : Sl) (g1_r : Int) (h : Hp) (Q : List Value → Hp → Prop) : Prop := Fn PP 336 #[(Value.slice g0_s.a g0_s.n g0_s.c), (Value.int .i64 g1_r)] h Q
/-- slices.rotateRight[*livery/leaf.one] -/
def S_slices_rotateRight_pleaf_one (g0_s : Sl) (g1_r : Int) (h : Hp) (Q : List Value → Hp → Prop) : Prop := Fn PP 315 #[(Value.slice g0_s.a g0_s.n g0_s.c), (Value.int .i64 g1_r)] h Q
/-- slices.Insert[[]*livery/leaf.one,*livery/leaf.one] -/
def S_slices_Insert_spleaf_one_pleaf_one (g0_s : Sl) (g1_i : Int) (g2_v : Sl) (h : Hp) (Q : List Value → Hp → Prop) : Prop := Fn PP 265 #[(Value.slice g0_s.a g0_s.n g0_s.c), (Value.int .i64 g1_i), (Value.slice g2_v.a g2_v.n g2_v.c)] h Q
/-- (*livery/leaf.Leaves).Insert -/
def S_leaf_Leaves_Insert (g0_x : Option Addr) (g1_k : ByteArray) (h : Hp) (Q : List Value → Hp → Prop) : Prop := Fn PP 200 #[(Value.pointer g0_x), (Value.string g1_k)] h Q
/-- (*livery/index.Index).Add -/
def S_index_Index_Add (g0_x : Option Addr) (g1_v_0 : Int) (g1_v_1 : Int) (g1_v_2 : Nat) (g1_v_3 : ByteArray) (g2_tid : Int) (h : Hp) (Q : List Value → Hp → Prop) : Prop := Fn PP 129 #[(Value.pointer g0_x), (Value.agg #[(Value.int .i64 g1_v_0), (Value.int .i64 g1_v_1), (Value.float .f64 g1_v_2), (Value.string g1_v_3)]), (Value.int .i64 g2_tid)] h Q
/-- (*livery/table.entries).of -/
def S_table_entries_of (g0_x : Option Addr) (g1_r : Sl) (g2_cols : Sl) (h : Hp) (Q : List Value → Hp → Prop) : Prop := Fn PP 130 #[(Value.pointer g0_x), (Value.slice g1_r.a g1_r.n g1_r.c), (Value.slice g2_cols.a g2_cols.n g2_cols.c)] h Q
/-- (*livery/ssi.Ssi).Table -/
def S_ssi_Ssi_Table (g0_s : Option Addr) (h : Hp) (Q : List Value → Hp → Prop) : Prop := Fn PP 131 #[(Value.pointer g0_s)] h Q
/-- (*livery/siread.Table).owners -/
def S_siread_Table_owners (g0_t : Option Addr) (g1_such_f : Nat) (g1_such_c : Array Value) (h : Hp) (Q : List Value → Hp → Prop) : Prop := Fn PP 201 #[(Value.pointer g0_t), (Value.func (.func g1_such_f) #[] g1_such_c)] h Q
/-- (*livery/siread.Table).Copy -/
def S_siread_Table_Copy (g0_t : Option Addr) (g1_from_0 : Int) (g1_from_1 : ByteArray) (g1_from_2 : Int) (g1_from_3 : ByteArray) (g1_from_4 : Int) (g2_to_0 : Int) (g2_to_1 : ByteArray) (g2_to_2 : Int) (g2_to_3 : ByteArray) (g2_to_4 : Int) (h : Hp) (Q : List Value → Hp → Prop) : Prop := Fn PP 132 #[(Value.pointer g0_t), (Value.agg #[(Value.int .i64 g1_from_0), (Value.string g1_from_1), (Value.int .i64 g1_from_2), (Value.string g1_from_3), (Value.int .i64 g1_from_4)]), (Value.agg #[(Value.int .i64 g2_to_0), (Value.string g2_to_1), (Value.int .i64 g2_to_2), (Value.string g2_to_3), (Value.int .i64 g2_to_4)])] h Q
/-- livery/table.thing -/
def S_table_thing (g0_rel : Int) (g1_x : Option Addr) (g2_at : Int) (h : Hp) (Q : List Value → Hp → Prop) : Prop := Fn PP 133 #[(Value.int .i64 g0_rel), (Value.pointer g1_x), (Value.int .i64 g2_at)] h Q
/-- (*livery/siread.Table).Owners -/
def S_siread_Table_Owners (g0_t : Option Addr) (g1_x_0 : Int) (g1_x_1 : ByteArray) (g1_x_2 : Int) (g1_x_3 : ByteArray) (g1_x_4 : Int) (h : Hp) (Q : List Value → Hp → Prop) : Prop := Fn PP 203 #[(Value.pointer g0_t), (Value.agg #[(Value.int .i64 g1_x_0), (Value.string g1_x_1), (Value.int .i64 g1_x_2), (Value.string g1_x_3), (Value.int .i64 g1_x_4)])] h Q
/-- (*livery/edge.Edges).OldIn -/
def S_edge_Edges_OldIn (g0_e : Option Addr) (g1_b : Int) (g2_csn : Int) (h : Hp) (Q : List Value → Hp → Prop) : Prop := Fn PP 204 #[(Value.pointer g0_e), (Value.int .i64 g1_b), (Value.int .i64 g2_csn)] h Q
/-- (*livery/siread.Table).Old -/
def S_siread_Table_Old (g0_t : Option Addr) (h : Hp) (Q : List Value → Hp → Prop) : Prop := Fn PP 205 #[(Value.pointer g0_t)] h Q
/-- (*livery/ssi.Ssi).Wrote -/
def S_ssi_Ssi_Wrote (g0_s : Option Addr) (g1_xid : Int) (g2_x_0 : Int) (g2_x_1 : ByteArray) (g2_x_2 : Int) (g2_x_3 : ByteArray) (g2_x_4 : Int) (h : Hp) (Q : List Value → Hp → Prop) : Prop := Fn PP 134 #[(Value.pointer g0_s), (Value.int .i64 g1_xid), (Value.agg #[(Value.int .i64 g2_x_0), (Value.string g2_x_1), (Value.int .i64 g2_x_2), (Value.string g2_x_3), (Value.int .i64 g2_x_4)])] h Q
/-- (*livery/table.Store).Put -/
def S_table_Store_Put (g0_s : Option Addr) (g1_xid : Int) (g2_n : Int) (g3_r : Sl) (g4_cols : Sl) (h : Hp) (Q : List Value → Hp → Prop) : Prop := Fn PP 57 #[(Value.pointer g0_s), (Value.int .i64 g1_xid), (Value.int .i64 g2_n), (Value.slice g3_r.a g3_r.n g3_r.c), (Value.slice g4_cols.a g4_cols.n g4_cols.c)] h Q
/-- livery/write.insert -/
def S_write_insert (g0_s : Option Addr) (g1_xid : Int) (g2_t_0 : ByteArray) (g2_t_1 : Sl) (g2_t_2 : Int) (g3_x_0 : Int) (g3_x_1 : ByteArray) (g3_x_2 : ByteArray) (g3_x_3 : ByteArray) (g3_x_4 : ByteArray) (g3_x_5 : Int) (g3_x_6 : Int) (g3_x_7 : Nat) (g3_x_8 : ByteArray) (g3_x_9 : Int) (g3_x_10 : Int) (g3_x_11 : Nat) (g3_x_12 : ByteArray) (g3_x_13 : Sl) (g3_x_14 : Sl) (g3_x_15 : Bool) (h : Hp) (Q : List Value → Hp → Prop) : Prop := Fn PP 21 #[(Value.pointer g0_s), (Value.int .i64 g1_xid), (Value.agg #[(Value.string g2_t_0), (Value.slice g2_t_1.a g2_t_1.n g2_t_1.c), (Value.int .i64 g2_t_2)]), (Value.agg #[(Value.int .i64 g3_x_0), (Value.string g3_x_1), (Value.string g3_x_2), (Value.string g3_x_3), (Value.string g3_x_4), (Value.int .i64 g3_x_5), (Value.int .i64 g3_x_6), (Value.float .f64 g3_x_7), (Value.string g3_x_8), (Value.int .i64 g3_x_9), (Value.int .i64 g3_x_10), (Value.float .f64 g3_x_11), (Value.string g3_x_12), (Value.slice g3_x_13.a g3_x_13.n g3_x_13.c), (Value.slice g3_x_14.a g3_x_14.n g3_x_14.c), (Value.bool g3_x_15)])] h Q
/-- (*livery/table.Store).Usable -/
def S_table_Store_Usable (g0_s : Option Addr) (g1_xid : Int) (g2_rel : Int) (h : Hp) (Q : List Value → Hp → Prop) : Prop := Fn PP 135 #[(Value.pointer g0_s), (Value.int .i64 g1_xid), (Value.int .i64 g2_rel)] h Q
/-- slices.IndexFunc[[]livery/api.Index,livery/api.Index] -/
def S_slices_IndexFunc_sapi_Index_api_Index (g0_s : Sl) (g1_f_f : Nat) (g1_f_c : Array Value) (h : Hp) (Q : List Value → Hp → Prop) : Prop := Fn PP 268 #[(Value.slice g0_s.a g0_s.n g0_s.c), (Value.func (.func g1_f_f) #[] g1_f_c)] h Q
/-- slices.DeleteFunc[[]livery/api.Index,livery/api.Index] -/
def S_slices_DeleteFunc_sapi_Index_api_Index (g0_s : Sl) (g1_del_f : Nat) (g1_del_c : Array Value) (h : Hp) (Q : List Value → Hp → Prop) : Prop := Fn PP 207 #[(Value.slice g0_s.a g0_s.n g0_s.c), (Value.func (.func g1_del_f) #[] g1_del_c)] h Q
/-- slices.Clone[[]livery/api.Index,livery/api.Index] -/
def S_slices_Clone_sapi_Index_api_Index (g0_s : Sl) (h : Hp) (Q : List Value → Hp → Prop) : Prop := Fn PP 208 #[(Value.slice g0_s.a g0_s.n g0_s.c)] h Q
/-- slices.MinFunc[[]livery/api.Index,livery/api.Index] -/
def S_slices_MinFunc_sapi_Index_api_Index (g0_x : Sl) (g1_cmp_f : Nat) (g1_cmp_c : Array Value) (h : Hp) (Q : List Value → Hp → Prop) : Prop := Fn PP 210 #[(Value.slice g0_x.a g0_x.n g0_x.c), (Value.func (.func g1_cmp_f) #[] g1_cmp_c)] h Q
/-- livery/plan.Of -/
def S_plan_Of (g0_s_0 : Int) (g0_s_1 : ByteArray) (g0_s_2 : ByteArray) (g0_s_3 : ByteArray) (g0_s_4 : ByteArray) (g0_s_5 : Int) (g0_s_6 : Int) (g0_s_7 : Nat) (g0_s_8 : ByteArray) (g0_s_9 : Int) (g0_s_10 : Int) (g0_s_11 : Nat) (g0_s_12 : ByteArray) (g0_s_13 : Sl) (g0_s_14 : Sl) (g0_s_15 : Bool) (g1_cols : Sl) (g2_l : Sl) (h : Hp) (Q : List Value → Hp → Prop) : Prop := Fn PP 136 #[(Value.agg #[(Value.int .i64 g0_s_0), (Value.string g0_s_1), (Value.string g0_s_2), (Value.string g0_s_3), (Value.string g0_s_4), (Value.int .i64 g0_s_5), (Value.int .i64 g0_s_6), (Value.float .f64 g0_s_7), (Value.string g0_s_8), (Value.int .i64 g0_s_9), (Value.int .i64 g0_s_10), (Value.float .f64 g0_s_11), (Value.string g0_s_12), (Value.slice g0_s_13.a g0_s_13.n g0_s_13.c), (Value.slice g0_s_14.a g0_s_14.n g0_s_14.c), (Value.bool g0_s_15)]), (Value.slice g1_cols.a g1_cols.n g1_cols.c), (Value.slice g2_l.a g2_l.n g2_l.c)] h Q
/-- maps.Keys[map[int]livery/api.Tuple,int,livery/api.Tuple] -/
def S_maps_Keys_map_int_api_Tuple_int_api_Tuple (g0_m : Option Nat) (h : Hp) (Q : List Value → Hp → Prop) : Prop := Fn PP 270 #[(Value.map g0_m)] h Q
/-- (*livery/heap.Rel).All -/
def S_heap_Rel_All (g0_r : Option Addr) (h : Hp) (Q : List Value → Hp → Prop) : Prop := Fn PP 213 #[(Value.pointer g0_r)] h Q
/-- (*livery/index.Index).Range -/
def S_index_Index_Range (g0_x : Option Addr) (g1_v_0 : Int) (g1_v_1 : Int) (g1_v_2 : Nat) (g1_v_3 : ByteArray) (g2_w_0 : Int) (g2_w_1 : Int) (g2_w_2 : Nat) (g2_w_3 : ByteArray) (h : Hp) (Q : List Value → Hp → Prop) : Prop := Fn PP 271 #[(Value.pointer g0_x), (Value.agg #[(Value.int .i64 g1_v_0), (Value.int .i64 g1_v_1), (Value.float .f64 g1_v_2), (Value.string g1_v_3)]), (Value.agg #[(Value.int .i64 g2_w_0), (Value.int .i64 g2_w_1), (Value.float .f64 g2_w_2), (Value.string g2_w_3)])] h Q
/-- (*livery/table.Store).Range -/
def S_table_Store_Range (g0_s : Option Addr) (g1_rel : Int) (g2_name : ByteArray) (g3_v_0 : Int) (g3_v_1 : Int) (g3_v_2 : Nat) (g3_v_3 : ByteArray) (g4_w_0 : Int) (g4_w_1 : Int) (g4_w_2 : Nat) (g4_w_3 : ByteArray) (h : Hp) (Q : List Value → Hp → Prop) : Prop := Fn PP 214 #[(Value.pointer g0_s), (Value.int .i64 g1_rel), (Value.string g2_name), (Value.agg #[(Value.int .i64 g3_v_0), (Value.int .i64 g3_v_1), (Value.float .f64 g3_v_2), (Value.string g3_v_3)]), (Value.agg #[(Value.int .i64 g4_w_0), (Value.int .i64 g4_w_1), (Value.float .f64 g4_w_2), (Value.string g4_w_3)])] h Q
/-- livery/read.found -/
def S_read_found (g0_s : Option Addr) (g1_xid : Int) (g2_t_0 : ByteArray) (g2_t_1 : Sl) (g2_t_2 : Int) (g3_x_0 : Int) (g3_x_1 : ByteArray) (g3_x_2 : ByteArray) (g3_x_3 : ByteArray) (g3_x_4 : ByteArray) (g3_x_5 : Int) (g3_x_6 : Int) (g3_x_7 : Nat) (g3_x_8 : ByteArray) (g3_x_9 : Int) (g3_x_10 : Int) (g3_x_11 : Nat) (g3_x_12 : ByteArray) (g3_x_13 : Sl) (g3_x_14 : Sl) (g3_x_15 : Bool) (g4_p_0 : Int) (g4_p_1 : ByteArray) (h : Hp) (Q : List Value → Hp → Prop) : Prop := Fn PP 137 #[(Value.pointer g0_s), (Value.int .i64 g1_xid), (Value.agg #[(Value.string g2_t_0), (Value.slice g2_t_1.a g2_t_1.n g2_t_1.c), (Value.int .i64 g2_t_2)]), (Value.agg #[(Value.int .i64 g3_x_0), (Value.string g3_x_1), (Value.string g3_x_2), (Value.string g3_x_3), (Value.string g3_x_4), (Value.int .i64 g3_x_5), (Value.int .i64 g3_x_6), (Value.float .f64 g3_x_7), (Value.string g3_x_8), (Value.int .i64 g3_x_9), (Value.int .i64 g3_x_10), (Value.float .f64 g3_x_11), (Value.string g3_x_12), (Value.slice g3_x_13.a g3_x_13.n g3_x_13.c), (Value.slice g3_x_14.a g3_x_14.n g3_x_14.c), (Value.bool g3_x_15)]), (Value.agg #[(Value.int .i64 g4_p_0), (Value.string g4_p_1)])] h Q
/-- livery/heap.ended -/
def S_heap_ended (g0_l : Option Addr) (g1_x_0 : Int) (g1_x_1 : Int) (g1_x_2 : Sl) (h : Hp) (Q : List Value → Hp → Prop) : Prop := Fn PP 145 #[(Value.pointer g0_l), (Value.agg #[(Value.int .i64 g1_x_0), (Value.int .i64 g1_x_1), (Value.slice g1_x_2.a g1_x_2.n g1_x_2.c)])] h Q
/-- (*livery/heap.Rel).Unseen -/
def S_heap_Rel_Unseen (g0_r : Option Addr) (g1_l : Option Addr) (g2_xid : Int) (g3_tid : Int) (h : Hp) (Q : List Value → Hp → Prop) : Prop := Fn PP 138 #[(Value.pointer g0_r), (Value.pointer g1_l), (Value.int .i64 g2_xid), (Value.int .i64 g3_tid)] h Q
/-- (*livery/heap.Rel).Sees -/
def S_heap_Rel_Sees (g0_r : Option Addr) (g1_l : Option Addr) (g2_xid : Int) (g3_tid : Int) (h : Hp) (Q : List Value → Hp → Prop) : Prop := Fn PP 139 #[(Value.pointer g0_r), (Value.pointer g1_l), (Value.int .i64 g2_xid), (Value.int .i64 g3_tid)] h Q
/-- cmp.Compare[int] -/
def S_cmp_Compare_int (g0_x : Int) (g1_y : Int) (h : Hp) (Q : List Value → Hp → Prop) : Prop := Fn PP 143 #[(Value.int .i64 g0_x), (Value.int .i64 g1_y)] h Q
/-- internal/bytealg.abigen_runtime_cmpstring -/
def S_internal_bytealg_abigen_runtime_cmpstring (g0_x : ByteArray) (g1_x : ByteArray) (h : Hp) (Q : List Value → Hp → Prop) : Prop := Fn PP 316 #[(Value.string g0_x), (Value.string g1_x)] h Q
/-- internal/bytealg.CompareString -/
def S_internal_bytealg_CompareString (g0_a : ByteArray) (g1_b : ByteArray) (h : Hp) (Q : List Value → Hp → Prop) : Prop := Fn PP 269 #[(Value.string g0_a), (Value.string g1_b)] h Q
/-- strings.Compare -/
def S_strings_Compare (g0_a : ByteArray) (g1_b : ByteArray) (h : Hp) (Q : List Value → Hp → Prop) : Prop := Fn PP 212 #[(Value.string g0_a), (Value.string g1_b)] h Q
/-- cmp.Or[int] -/
def S_cmp_Or_int (g0_vals : Sl) (h : Hp) (Q : List Value → Hp → Prop) : Prop := Fn PP 272 #[(Value.slice g0_vals.a g0_vals.n g0_vals.c)] h Q
/-- cmp.isNaN[int64] -/
def S_cmp_isNaN_int64 (g0_x : Int) (h : Hp) (Q : List Value → Hp → Prop) : Prop := Fn PP 318 #[(Value.int .i64 g0_x)] h Q
/-- cmp.Compare[int64] -/
def S_cmp_Compare_int64 (g0_x : Int) (g1_y : Int) (h : Hp) (Q : List Value → Hp → Prop) : Prop := Fn PP 273 #[(Value.int .i64 g0_x), (Value.int .i64 g1_y)] h Q
/-- livery/float.Compare -/
def S_float_Compare (g0_a : Nat) (g1_b : Nat) (h : Hp) (Q : List Value → Hp → Prop) : Prop := Fn PP 274 #[(Value.float .f64 g0_a), (Value.float .f64 g1_b)] h Q
/-- livery/value.Compare -/
def S_value_Compare (g0_a_0 : Int) (g0_a_1 : Int) (g0_a_2 : Nat) (g0_a_3 : ByteArray) (g1_b_0 : Int) (g1_b_1 : Int) (g1_b_2 : Nat) (g1_b_3 : ByteArray) (h : Hp) (Q : List Value → Hp → Prop) : Prop := Fn PP 215 #[(Value.agg #[(Value.int .i64 g0_a_0), (Value.int .i64 g0_a_1), (Value.float .f64 g0_a_2), (Value.string g0_a_3)]), (Value.agg #[(Value.int .i64 g1_b_0), (Value.int .i64 g1_b_1), (Value.float .f64 g1_b_2), (Value.string g1_b_3)])] h Q
/-- livery/value.Same -/
def S_value_Same (g0_a_0 : Int) (g0_a_1 : Int) (g0_a_2 : Nat) (g0_a_3 : ByteArray) (g1_b_0 : Int) (g1_b_1 : Int) (g1_b_2 : Nat) (g1_b_3 : ByteArray) (h : Hp) (Q : List Value → Hp → Prop) : Prop := Fn PP 216 #[(Value.agg #[(Value.int .i64 g0_a_0), (Value.int .i64 g0_a_1), (Value.float .f64 g0_a_2), (Value.string g0_a_3)]), (Value.agg #[(Value.int .i64 g1_b_0), (Value.int .i64 g1_b_1), (Value.float .f64 g1_b_2), (Value.string g1_b_3)])] h Q
/-- livery/read.means -/
def S_read_means (g0_x_0 : Int) (g0_x_1 : ByteArray) (g0_x_2 : ByteArray) (g0_x_3 : ByteArray) (g0_x_4 : ByteArray) (g0_x_5 : Int) (g0_x_6 : Int) (g0_x_7 : Nat) (g0_x_8 : ByteArray) (g0_x_9 : Int) (g0_x_10 : Int) (g0_x_11 : Nat) (g0_x_12 : ByteArray) (g0_x_13 : Sl) (g0_x_14 : Sl) (g0_x_15 : Bool) (g1_t_0 : ByteArray) (g1_t_1 : Sl) (g1_t_2 : Int) (g2_r : Sl) (h : Hp) (Q : List Value → Hp → Prop) : Prop := Fn PP 140 #[(Value.agg #[(Value.int .i64 g0_x_0), (Value.string g0_x_1), (Value.string g0_x_2), (Value.string g0_x_3), (Value.string g0_x_4), (Value.int .i64 g0_x_5), (Value.int .i64 g0_x_6), (Value.float .f64 g0_x_7), (Value.string g0_x_8), (Value.int .i64 g0_x_9), (Value.int .i64 g0_x_10), (Value.float .f64 g0_x_11), (Value.string g0_x_12), (Value.slice g0_x_13.a g0_x_13.n g0_x_13.c), (Value.slice g0_x_14.a g0_x_14.n g0_x_14.c), (Value.bool g0_x_15)]), (Value.agg #[(Value.string g1_t_0), (Value.slice g1_t_1.a g1_t_1.n g1_t_1.c), (Value.int .i64 g1_t_2)]), (Value.slice g2_r.a g2_r.n g2_r.c)] h Q
/-- slices.insertionSortCmpFunc[livery/read.Hit] -/
def S_slices_insertionSortCmpFunc_read_Hit (g0_data : Sl) (g1_a : Int) (g2_b : Int) (g3_cmp_f : Nat) (g3_cmp_c : Array Value) (h : Hp) (Q : List Value → Hp → Prop) : Prop := Fn PP 275 #[(Value.slice g0_data.a g0_data.n g0_data.c), (Value.int .i64 g1_a), (Value.int .i64 g2_b), (Value.func (.func g3_cmp_f) #[] g3_cmp_c)] h Q
/-- slices.siftDownCmpFunc[livery/read.Hit] -/
def S_slices_siftDownCmpFunc_read_Hit (g0_data : Sl) (g1_lo : Int) (g2_hi : Int) (g3_first : Int) (g4_cmp_f : Nat) (g4_cmp_c : Array Value) (h : Hp) (Q : List Value → Hp → Prop) : Prop := Fn PP 319 #[(Value.slice g0_data.a g0_data.n g0_data.c), (Value.int .i64 g1_lo), (Value.int .i64 g2_hi), (Value.int .i64 g3_first), (Value.func (.func g4_cmp_f) #[] g4_cmp_c)] h Q
/-- slices.heapSortCmpFunc[livery/read.Hit] -/
def S_slices_heapSortCmpFunc_read_Hit (g0_data : Sl) (g1_a : Int) (g2_b : Int) (g3_cmp_f : Nat) (g3_cmp_c : Array Value) (h : Hp) (Q : List Value → Hp → Prop) : Prop := Fn PP 276 #[(Value.slice g0_data.a g0_data.n g0_data.c), (Value.int .i64 g1_a), (Value.int .i64 g2_b), (Value.func (.func g3_cmp_f) #[] g3_cmp_c)] h Q
/-- slices.breakPatternsCmpFunc[livery/read.Hit] -/
def S_slices_breakPatternsCmpFunc_read_Hit (g0_data : Sl) (g1_a : Int) (g2_b : Int) (g3_cmp_f : Nat) (g3_cmp_c : Array Value) (h : Hp) (Q : List Value → Hp → Prop) : Prop := Fn PP 277 #[(Value.slice g0_data.a g0_data.n g0_data.c), (Value.int .i64 g1_a), (Value.int .i64 g2_b), (Value.func (.func g3_cmp_f) #[] g3_cmp_c)] h Q
/-- slices.order2CmpFunc[livery/read.Hit] -/
def S_slices_order2CmpFunc_read_Hit (g0_data : Sl) (g1_a : Int) (g2_b : Int) (g3_swaps : Option Addr) (g4_cmp_f : Nat) (g4_cmp_c : Array Value) (h : Hp) (Q : List Value → Hp → Prop) : Prop := Fn PP 337 #[(Value.slice g0_data.a g0_data.n g0_data.c), (Value.int .i64 g1_a), (Value.int .i64 g2_b), (Value.pointer g3_swaps), (Value.func (.func g4_cmp_f) #[] g4_cmp_c)] h Q
/-- slices.medianCmpFunc[livery/read.Hit] -/
def S_slices_medianCmpFunc_read_Hit (g0_data : Sl) (g1_a : Int) (g2_b : Int) (g3_c : Int) (g4_swaps : Option Addr) (g5_cmp_f : Nat) (g5_cmp_c : Array Value) (h : Hp) (Q : List Value → Hp → Prop) : Prop := Fn PP 321 #[(Value.slice g0_data.a g0_data.n g0_data.c), (Value.int .i64 g1_a), (Value.int .i64 g2_b), (Value.int .i64 g3_c), (Value.pointer g4_swaps), (Value.func (.func g5_cmp_f) #[] g5_cmp_c)] h Q
/-- slices.medianAdjacentCmpFunc[livery/read.Hit] -/
def S_slices_medianAdjacentCmpFunc_read_Hit (g0_data : Sl) (g1_a : Int) (g2_swaps : Option Addr) (g3_cmp_f : Nat) (g3_cmp_c : Array Value) (h : Hp) (Q : List Value → Hp → Prop) : Prop := Fn PP 320 #[(Value.slice g0_data.a g0_data.n g0_data.c), (Value.int .i64 g1_a), (Value.pointer g2_swaps), (Value.func (.func g3_cmp_f) #[] g3_cmp_c)] h Q
/-- slices.choosePivotCmpFunc[livery/read.Hit] -/
def S_slices_choosePivotCmpFunc_read_Hit (g0_data : Sl) (g1_a : Int) (g2_b : Int) (g3_cmp_f : Nat) (g3_cmp_c : Array Value) (h : Hp) (Q : List Value → Hp → Prop) : Prop := Fn PP 278 #[(Value.slice g0_data.a g0_data.n g0_data.c), (Value.int .i64 g1_a), (Value.int .i64 g2_b), (Value.func (.func g3_cmp_f) #[] g3_cmp_c)] h Q
/-- slices.reverseRangeCmpFunc[livery/read.Hit] -/
def S_slices_reverseRangeCmpFunc_read_Hit (g0_data : Sl) (g1_a : Int) (g2_b : Int) (g3_cmp_f : Nat) (g3_cmp_c : Array Value) (h : Hp) (Q : List Value → Hp → Prop) : Prop := Fn PP 279 #[(Value.slice g0_data.a g0_data.n g0_data.c), (Value.int .i64 g1_a), (Value.int .i64 g2_b), (Value.func (.func g3_cmp_f) #[] g3_cmp_c)] h Q
/-- slices.partialInsertionSortCmpFunc[livery/read.Hit] -/
def S_slices_partialInsertionSortCmpFunc_read_Hit (g0_data : Sl) (g1_a : Int) (g2_b : Int) (g3_cmp_f : Nat) (g3_cmp_c : Array Value) (h : Hp) (Q : List Value → Hp → Prop) : Prop := Fn PP 280 #[(Value.slice g0_data.a g0_data.n g0_data.c), (Value.int .i64 g1_a), (Value.int .i64 g2_b), (Value.func (.func g3_cmp_f) #[] g3_cmp_c)] h Q
/-- slices.partitionEqualCmpFunc[livery/read.Hit] -/
def S_slices_partitionEqualCmpFunc_read_Hit (g0_data : Sl) (g1_a : Int) (g2_b : Int) (g3_pivot : Int) (g4_cmp_f : Nat) (g4_cmp_c : Array Value) (h : Hp) (Q : List Value → Hp → Prop) : Prop := Fn PP 281 #[(Value.slice g0_data.a g0_data.n g0_data.c), (Value.int .i64 g1_a), (Value.int .i64 g2_b), (Value.int .i64 g3_pivot), (Value.func (.func g4_cmp_f) #[] g4_cmp_c)] h Q
/-- slices.partitionCmpFunc[livery/read.Hit] -/
def S_slices_partitionCmpFunc_read_Hit (g0_data : Sl) (g1_a : Int) (g2_b : Int) (g3_pivot : Int) (g4_cmp_f : Nat) (g4_cmp_c : Array Value) (h : Hp) (Q : List Value → Hp → Prop) : Prop := Fn PP 282 #[(Value.slice g0_data.a g0_data.n g0_data.c), (Value.int .i64 g1_a), (Value.int .i64 g2_b), (Value.int .i64 g3_pivot), (Value.func (.func g4_cmp_f) #[] g4_cmp_c)] h Q
/-- slices.pdqsortCmpFunc[livery/read.Hit] -/
def S_slices_pdqsortCmpFunc_read_Hit (g0_data : Sl) (g1_a : Int) (g2_b : Int) (g3_limit : Int) (g4_cmp_f : Nat) (g4_cmp_c : Array Value) (h : Hp) (Q : List Value → Hp → Prop) : Prop := Fn PP 217 #[(Value.slice g0_data.a g0_data.n g0_data.c), (Value.int .i64 g1_a), (Value.int .i64 g2_b), (Value.int .i64 g3_limit), (Value.func (.func g4_cmp_f) #[] g4_cmp_c)] h Q
/-- slices.SortFunc[[]livery/read.Hit,livery/read.Hit] -/
def S_slices_SortFunc_sread_Hit_read_Hit (g0_x : Sl) (g1_cmp_f : Nat) (g1_cmp_c : Array Value) (h : Hp) (Q : List Value → Hp → Prop) : Prop := Fn PP 141 #[(Value.slice g0_x.a g0_x.n g0_x.c), (Value.func (.func g1_cmp_f) #[] g1_cmp_c)] h Q
/-- livery/read.Hits -/
def S_read_Hits (g0_s : Option Addr) (g1_xid : Int) (g2_t_0 : ByteArray) (g2_t_1 : Sl) (g2_t_2 : Int) (g3_x_0 : Int) (g3_x_1 : ByteArray) (g3_x_2 : ByteArray) (g3_x_3 : ByteArray) (g3_x_4 : ByteArray) (g3_x_5 : Int) (g3_x_6 : Int) (g3_x_7 : Nat) (g3_x_8 : ByteArray) (g3_x_9 : Int) (g3_x_10 : Int) (g3_x_11 : Nat) (g3_x_12 : ByteArray) (g3_x_13 : Sl) (g3_x_14 : Sl) (g3_x_15 : Bool) (h : Hp) (Q : List Value → Hp → Prop) : Prop := Fn PP 58 #[(Value.pointer g0_s), (Value.int .i64 g1_xid), (Value.agg #[(Value.string g2_t_0), (Value.slice g2_t_1.a g2_t_1.n g2_t_1.c), (Value.int .i64 g2_t_2)]), (Value.agg #[(Value.int .i64 g3_x_0), (Value.string g3_x_1), (Value.string g3_x_2), (Value.string g3_x_3), (Value.string g3_x_4), (Value.int .i64 g3_x_5), (Value.int .i64 g3_x_6), (Value.float .f64 g3_x_7), (Value.string g3_x_8), (Value.int .i64 g3_x_9), (Value.int .i64 g3_x_10), (Value.float .f64 g3_x_11), (Value.string g3_x_12), (Value.slice g3_x_13.a g3_x_13.n g3_x_13.c), (Value.slice g3_x_14.a g3_x_14.n g3_x_14.c), (Value.bool g3_x_15)])] h Q
/-- (*livery/heap.Rel).May -/
def S_heap_Rel_May (g0_r : Option Addr) (g1_l : Option Addr) (g2_xid : Int) (g3_tid : Int) (h : Hp) (Q : List Value → Hp → Prop) : Prop := Fn PP 60 #[(Value.pointer g0_r), (Value.pointer g1_l), (Value.int .i64 g2_xid), (Value.int .i64 g3_tid)] h Q
/-- slices.ContainsFunc[[]livery/table.Index,livery/table.Index] -/
def S_slices_ContainsFunc_stable_Index_table_Index (g0_s : Sl) (g1_f_f : Nat) (g1_f_c : Array Value) (h : Hp) (Q : List Value → Hp → Prop) : Prop := Fn PP 62 #[(Value.slice g0_s.a g0_s.n g0_s.c), (Value.func (.func g1_f_f) #[] g1_f_c)] h Q
/-- (*livery/heap.Rel).Delete -/
def S_heap_Rel_Delete (g0_r : Option Addr) (g1_xid : Int) (g2_tid : Int) (h : Hp) (Q : List Value → Hp → Prop) : Prop := Fn PP 147 #[(Value.pointer g0_r), (Value.int .i64 g1_xid), (Value.int .i64 g2_tid)] h Q
/-- (*livery/table.Store).End -/
def S_table_Store_End (g0_s : Option Addr) (g1_xid : Int) (g2_rel : Int) (g3_tid : Int) (h : Hp) (Q : List Value → Hp → Prop) : Prop := Fn PP 64 #[(Value.pointer g0_s), (Value.int .i64 g1_xid), (Value.int .i64 g2_rel), (Value.int .i64 g3_tid)] h Q
/-- livery/write.change -/
def S_write_change (g0_s : Option Addr) (g1_xid : Int) (g2_t_0 : ByteArray) (g2_t_1 : Sl) (g2_t_2 : Int) (g3_x_0 : Int) (g3_x_1 : ByteArray) (g3_x_2 : ByteArray) (g3_x_3 : ByteArray) (g3_x_4 : ByteArray) (g3_x_5 : Int) (g3_x_6 : Int) (g3_x_7 : Nat) (g3_x_8 : ByteArray) (g3_x_9 : Int) (g3_x_10 : Int) (g3_x_11 : Nat) (g3_x_12 : ByteArray) (g3_x_13 : Sl) (g3_x_14 : Sl) (g3_x_15 : Bool) (h : Hp) (Q : List Value → Hp → Prop) : Prop := Fn PP 22 #[(Value.pointer g0_s), (Value.int .i64 g1_xid), (Value.agg #[(Value.string g2_t_0), (Value.slice g2_t_1.a g2_t_1.n g2_t_1.c), (Value.int .i64 g2_t_2)]), (Value.agg #[(Value.int .i64 g3_x_0), (Value.string g3_x_1), (Value.string g3_x_2), (Value.string g3_x_3), (Value.string g3_x_4), (Value.int .i64 g3_x_5), (Value.int .i64 g3_x_6), (Value.float .f64 g3_x_7), (Value.string g3_x_8), (Value.int .i64 g3_x_9), (Value.int .i64 g3_x_10), (Value.float .f64 g3_x_11), (Value.string g3_x_12), (Value.slice g3_x_13.a g3_x_13.n g3_x_13.c), (Value.slice g3_x_14.a g3_x_14.n g3_x_14.c), (Value.bool g3_x_15)])] h Q
/-- livery/write.Do -/
def S_write_Do (g0_s : Option Addr) (g1_xid : Int) (g2_x_0 : Int) (g2_x_1 : ByteArray) (g2_x_2 : ByteArray) (g2_x_3 : ByteArray) (g2_x_4 : ByteArray) (g2_x_5 : Int) (g2_x_6 : Int) (g2_x_7 : Nat) (g2_x_8 : ByteArray) (g2_x_9 : Int) (g2_x_10 : Int) (g2_x_11 : Nat) (g2_x_12 : ByteArray) (g2_x_13 : Sl) (g2_x_14 : Sl) (g2_x_15 : Bool) (h : Hp) (Q : List Value → Hp → Prop) : Prop := Fn PP 6 #[(Value.pointer g0_s), (Value.int .i64 g1_xid), (Value.agg #[(Value.int .i64 g2_x_0), (Value.string g2_x_1), (Value.string g2_x_2), (Value.string g2_x_3), (Value.string g2_x_4), (Value.int .i64 g2_x_5), (Value.int .i64 g2_x_6), (Value.float .f64 g2_x_7), (Value.string g2_x_8), (Value.int .i64 g2_x_9), (Value.int .i64 g2_x_10), (Value.float .f64 g2_x_11), (Value.string g2_x_12), (Value.slice g2_x_13.a g2_x_13.n g2_x_13.c), (Value.slice g2_x_14.a g2_x_14.n g2_x_14.c), (Value.bool g2_x_15)])] h Q
/-- slices.ContainsFunc[[]int,int] -/
def S_slices_ContainsFunc_sint_int (g0_s : Sl) (g1_f_f : Nat) (g1_f_c : Array Value) (h : Hp) (Q : List Value → Hp → Prop) : Prop := Fn PP 44 #[(Value.slice g0_s.a g0_s.n g0_s.c), (Value.func (.func g1_f_f) #[] g1_f_c)] h Q
/-- (*livery/clog.Log).Running -/
def S_clog_Log_Running (g0_l : Option Addr) (h : Hp) (Q : List Value → Hp → Prop) : Prop := Fn PP 45 #[(Value.pointer g0_l)] h Q
/-- (*livery/clog.Log).Begin -/
def S_clog_Log_Begin (g0_l : Option Addr) (g1_reads : Bool) (h : Hp) (Q : List Value → Hp → Prop) : Prop := Fn PP 48 #[(Value.pointer g0_l), (Value.bool g1_reads)] h Q
/-- (*livery/ssi.Ssi).Begin -/
def S_ssi_Ssi_Begin (g0_s : Option Addr) (g1_reads : Bool) (h : Hp) (Q : List Value → Hp → Prop) : Prop := Fn PP 13 #[(Value.pointer g0_s), (Value.bool g1_reads)] h Q
/-- livery/clog.New -/
def S_clog_New (h : Hp) (Q : List Value → Hp → Prop) : Prop := Fn PP 77 #[] h Q
/-- livery/siread.New -/
def S_siread_New (g0_each : Int) (g1_all : Int) (h : Hp) (Q : List Value → Hp → Prop) : Prop := Fn PP 154 #[(Value.int .i64 g0_each), (Value.int .i64 g1_all)] h Q
/-- livery/edge.New -/
def S_edge_New (g0_l : Option Addr) (h : Hp) (Q : List Value → Hp → Prop) : Prop := Fn PP 155 #[(Value.pointer g0_l)] h Q
/-- livery/ssi.New -/
def S_ssi_New (g0_l : Option Addr) (g1_each : Int) (g2_all : Int) (g3_keep : Int) (h : Hp) (Q : List Value → Hp → Prop) : Prop := Fn PP 78 #[(Value.pointer g0_l), (Value.int .i64 g1_each), (Value.int .i64 g2_all), (Value.int .i64 g3_keep)] h Q
/-- livery/name.New -/
def S_name_New (h : Hp) (Q : List Value → Hp → Prop) : Prop := Fn PP 79 #[] h Q
/-- livery/lock.New -/
def S_lock_New (h : Hp) (Q : List Value → Hp → Prop) : Prop := Fn PP 80 #[] h Q
/-- livery/table.New -/
def S_table_New (g0_each : Int) (g1_all : Int) (g2_keep : Int) (g3_fan : Int) (h : Hp) (Q : List Value → Hp → Prop) : Prop := Fn PP 31 #[(Value.int .i64 g0_each), (Value.int .i64 g1_all), (Value.int .i64 g2_keep), (Value.int .i64 g3_fan)] h Q
/-- livery/liveryref13.New -/
def S_liveryref13_New (g0_each : Int) (g1_all : Int) (h : Hp) (Q : List Value → Hp → Prop) : Prop := Fn PP 156 #[(Value.int .i64 g0_each), (Value.int .i64 g1_all)] h Q
/-- livery/liveryref15.New -/
def S_liveryref15_New (g0_l : Option Addr) (g1_each : Int) (g2_all : Int) (g3_keep : Int) (h : Hp) (Q : List Value → Hp → Prop) : Prop := Fn PP 81 #[(Value.pointer g0_l), (Value.int .i64 g1_each), (Value.int .i64 g2_all), (Value.int .i64 g3_keep)] h Q
/-- livery/liveryref19.New -/
def S_liveryref19_New (g0_each : Int) (g1_all : Int) (g2_keep : Int) (g3_fan : Int) (h : Hp) (Q : List Value → Hp → Prop) : Prop := Fn PP 32 #[(Value.int .i64 g0_each), (Value.int .i64 g1_all), (Value.int .i64 g2_keep), (Value.int .i64 g3_fan)] h Q
/-- (*livery/liveryref08.Log).Running -/
def S_liveryref08_Log_Running (g0_l : Option Addr) (h : Hp) (Q : List Value → Hp → Prop) : Prop := Fn PP 82 #[(Value.pointer g0_l)] h Q
/-- (*livery/liveryref08.Log).Get -/
def S_liveryref08_Log_Get (g0_l : Option Addr) (g1_xid : Int) (h : Hp) (Q : List Value → Hp → Prop) : Prop := Fn PP 83 #[(Value.pointer g0_l), (Value.int .i64 g1_xid)] h Q
/-- (*livery/liveryref08.Log).Begin -/
def S_liveryref08_Log_Begin (g0_l : Option Addr) (g1_reads : Bool) (h : Hp) (Q : List Value → Hp → Prop) : Prop := Fn PP 84 #[(Value.pointer g0_l), (Value.bool g1_reads)] h Q
/-- (*livery/liveryref15.Ssi).Begin -/
def S_liveryref15_Ssi_Begin (g0_s : Option Addr) (g1_reads : Bool) (h : Hp) (Q : List Value → Hp → Prop) : Prop := Fn PP 33 #[(Value.pointer g0_s), (Value.bool g1_reads)] h Q
/-- livery/heap.New -/
def S_heap_New (h : Hp) (Q : List Value → Hp → Prop) : Prop := Fn PP 85 #[] h Q
/-- (*livery/table.Store).NewRel -/
def S_table_Store_NewRel (g0_s : Option Addr) (h : Hp) (Q : List Value → Hp → Prop) : Prop := Fn PP 34 #[(Value.pointer g0_s)] h Q
/-- (*livery/liveryref19.Store).NewRel -/
def S_liveryref19_Store_NewRel (g0_s : Option Addr) (h : Hp) (Q : List Value → Hp → Prop) : Prop := Fn PP 35 #[(Value.pointer g0_s)] h Q
/-- livery/liverylaw21.num -/
def S_liverylaw21_num (g0_n : Int) (h : Hp) (Q : List Value → Hp → Prop) : Prop := Fn PP 86 #[(Value.int .i64 g0_n)] h Q
/-- livery/liverylaw21.cols -/
def S_liverylaw21_cols (h : Hp) (Q : List Value → Hp → Prop) : Prop := Fn PP 36 #[] h Q
/-- livery/value.Name -/
def S_value_Name (g0_s : ByteArray) (h : Hp) (Q : List Value → Hp → Prop) : Prop := Fn PP 87 #[(Value.string g0_s)] h Q
/-- livery/row.one -/
def S_row_one (g0_c_0 : ByteArray) (g0_c_1 : Int) (g0_c_2 : Bool) (g0_c_3 : Int) (g0_c_4 : Int) (g0_c_5 : Nat) (g0_c_6 : ByteArray) (h : Hp) (Q : List Value → Hp → Prop) : Prop := Fn PP 157 #[(Value.agg #[(Value.string g0_c_0), (Value.int .i64 g0_c_1), (Value.bool g0_c_2), (Value.int .i64 g0_c_3), (Value.int .i64 g0_c_4), (Value.float .f64 g0_c_5), (Value.string g0_c_6)])] h Q
/-- livery/row.Good -/
def S_row_Good (g0_l : Sl) (h : Hp) (Q : List Value → Hp → Prop) : Prop := Fn PP 88 #[(Value.slice g0_l.a g0_l.n g0_l.c)] h Q
/-- slices.IndexFunc[[]livery/name.version,livery/name.version] -/
def S_slices_IndexFunc_sname_version_name_version (g0_s : Sl) (g1_f_f : Nat) (g1_f_c : Array Value) (h : Hp) (Q : List Value → Hp → Prop) : Prop := Fn PP 227 #[(Value.slice g0_s.a g0_s.n g0_s.c), (Value.func (.func g1_f_f) #[] g1_f_c)] h Q
/-- slices.ContainsFunc[[]livery/name.version,livery/name.version] -/
def S_slices_ContainsFunc_sname_version_name_version (g0_s : Sl) (g1_f_f : Nat) (g1_f_c : Array Value) (h : Hp) (Q : List Value → Hp → Prop) : Prop := Fn PP 159 #[(Value.slice g0_s.a g0_s.n g0_s.c), (Value.func (.func g1_f_f) #[] g1_f_c)] h Q
/-- (*livery/name.Names).others -/
def S_name_Names_others (g0_n : Option Addr) (g1_l : Option Addr) (g2_xid : Int) (g3_name : ByteArray) (h : Hp) (Q : List Value → Hp → Prop) : Prop := Fn PP 90 #[(Value.pointer g0_n), (Value.pointer g1_l), (Value.int .i64 g2_xid), (Value.string g3_name)] h Q
/-- (*livery/name.Names).Put -/
def S_name_Names_Put (g0_n : Option Addr) (g1_l : Option Addr) (g2_xid : Int) (g3_t_0 : ByteArray) (g3_t_1 : Sl) (g3_t_2 : Int) (h : Hp) (Q : List Value → Hp → Prop) : Prop := Fn PP 38 #[(Value.pointer g0_n), (Value.pointer g1_l), (Value.int .i64 g2_xid), (Value.agg #[(Value.string g3_t_0), (Value.slice g3_t_1.a g3_t_1.n g3_t_1.c), (Value.int .i64 g3_t_2)])] h Q
/-- livery/liveryref02.Name -/
def S_liveryref02_Name (g0_s : ByteArray) (h : Hp) (Q : List Value → Hp → Prop) : Prop := Fn PP 92 #[(Value.string g0_s)] h Q
/-- livery/liveryref04.Find -/
def S_liveryref04_Find (g0_l : Sl) (g1_name : ByteArray) (h : Hp) (Q : List Value → Hp → Prop) : Prop := Fn PP 103 #[(Value.slice g0_l.a g0_l.n g0_l.c), (Value.string g1_name)] h Q
/-- livery/liveryref02.plain -/
def S_liveryref02_plain (g0_f : Nat) (h : Hp) (Q : List Value → Hp → Prop) : Prop := Fn PP 228 #[(Value.float .f64 g0_f)] h Q
/-- math.IsNaN -/
def S_math_IsNaN (g0_f : Nat) (h : Hp) (Q : List Value → Hp → Prop) : Prop := Fn PP 327 #[(Value.float .f64 g0_f)] h Q
/-- livery/liveryref01.Canon -/
def S_liveryref01_Canon (g0_f : Nat) (h : Hp) (Q : List Value → Hp → Prop) : Prop := Fn PP 289 #[(Value.float .f64 g0_f)] h Q
/-- livery/liveryref01.Is -/
def S_liveryref01_Is (g0_f : Nat) (h : Hp) (Q : List Value → Hp → Prop) : Prop := Fn PP 229 #[(Value.float .f64 g0_f)] h Q
/-- livery/liveryref02.Good -/
def S_liveryref02_Good (g0_v_0 : Int) (g0_v_1 : Int) (g0_v_2 : Nat) (g0_v_3 : ByteArray) (h : Hp) (Q : List Value → Hp → Prop) : Prop := Fn PP 162 #[(Value.agg #[(Value.int .i64 g0_v_0), (Value.int .i64 g0_v_1), (Value.float .f64 g0_v_2), (Value.string g0_v_3)])] h Q
/-- livery/liveryref04.Good -/
def S_liveryref04_Good (g0_l : Sl) (h : Hp) (Q : List Value → Hp → Prop) : Prop := Fn PP 93 #[(Value.slice g0_l.a g0_l.n g0_l.c)] h Q
/-- (*livery/liveryref08.Log).Sees -/
def S_liveryref08_Log_Sees (g0_l : Option Addr) (g1_xid : Int) (g2_other : Int) (h : Hp) (Q : List Value → Hp → Prop) : Prop := Fn PP 165 #[(Value.pointer g0_l), (Value.int .i64 g1_xid), (Value.int .i64 g2_other)] h Q
/-- livery/liveryref12.aborted -/
def S_liveryref12_aborted (g0_l : Option Addr) (g1_xid : Int) (h : Hp) (Q : List Value → Hp → Prop) : Prop := Fn PP 166 #[(Value.pointer g0_l), (Value.int .i64 g1_xid)] h Q
/-- livery/liveryref12.put -/
def S_liveryref12_put (g0_l : Sl) (g1_n : Int) (h : Hp) (Q : List Value → Hp → Prop) : Prop := Fn PP 230 #[(Value.slice g0_l.a g0_l.n g0_l.c), (Value.int .i64 g1_n)] h Q
/-- (*livery/liveryref12.Names).Unseen -/
def S_liveryref12_Names_Unseen (g0_n : Option Addr) (g1_l : Option Addr) (g2_xid : Int) (g3_name : ByteArray) (h : Hp) (Q : List Value → Hp → Prop) : Prop := Fn PP 163 #[(Value.pointer g0_n), (Value.pointer g1_l), (Value.int .i64 g2_xid), (Value.string g3_name)] h Q
/-- (*livery/liveryref12.Names).May -/
def S_liveryref12_Names_May (g0_n : Option Addr) (g1_l : Option Addr) (g2_xid : Int) (g3_name : ByteArray) (h : Hp) (Q : List Value → Hp → Prop) : Prop := Fn PP 94 #[(Value.pointer g0_n), (Value.pointer g1_l), (Value.int .i64 g2_xid), (Value.string g3_name)] h Q
/-- livery/liveryref12.sees -/
def S_liveryref12_sees (g0_l : Option Addr) (g1_xid : Int) (g2_v_0 : Int) (g2_v_1 : Int) (g2_v_2 : ByteArray) (g2_v_3 : Sl) (g2_v_4 : Int) (h : Hp) (Q : List Value → Hp → Prop) : Prop := Fn PP 164 #[(Value.pointer g0_l), (Value.int .i64 g1_xid), (Value.agg #[(Value.int .i64 g2_v_0), (Value.int .i64 g2_v_1), (Value.string g2_v_2), (Value.slice g2_v_3.a g2_v_3.n g2_v_3.c), (Value.int .i64 g2_v_4)])] h Q
/-- (*livery/liveryref12.Names).find -/
def S_liveryref12_Names_find (g0_n : Option Addr) (g1_l : Option Addr) (g2_xid : Int) (g3_name : ByteArray) (h : Hp) (Q : List Value → Hp → Prop) : Prop := Fn PP 95 #[(Value.pointer g0_n), (Value.pointer g1_l), (Value.int .i64 g2_xid), (Value.string g3_name)] h Q
/-- (*livery/liveryref12.Names).others -/
def S_liveryref12_Names_others (g0_n : Option Addr) (g1_l : Option Addr) (g2_xid : Int) (g3_name : ByteArray) (h : Hp) (Q : List Value → Hp → Prop) : Prop := Fn PP 96 #[(Value.pointer g0_n), (Value.pointer g1_l), (Value.int .i64 g2_xid), (Value.string g3_name)] h Q
/-- livery/liveryref12.copied -/
def S_liveryref12_copied (g0_t_0 : ByteArray) (g0_t_1 : Sl) (g0_t_2 : Int) (h : Hp) (Q : List Value → Hp → Prop) : Prop := Fn PP 97 #[(Value.agg #[(Value.string g0_t_0), (Value.slice g0_t_1.a g0_t_1.n g0_t_1.c), (Value.int .i64 g0_t_2)])] h Q
/-- (*livery/liveryref12.Names).Put -/
def S_liveryref12_Names_Put (g0_n : Option Addr) (g1_l : Option Addr) (g2_xid : Int) (g3_t_0 : ByteArray) (g3_t_1 : Sl) (g3_t_2 : Int) (h : Hp) (Q : List Value → Hp → Prop) : Prop := Fn PP 39 #[(Value.pointer g0_n), (Value.pointer g1_l), (Value.int .i64 g2_xid), (Value.agg #[(Value.string g3_t_0), (Value.slice g3_t_1.a g3_t_1.n g3_t_1.c), (Value.int .i64 g3_t_2)])] h Q
/-- livery/leaf.New -/
def S_leaf_New (g0_fan : Int) (h : Hp) (Q : List Value → Hp → Prop) : Prop := Fn PP 233 #[(Value.int .i64 g0_fan)] h Q
/-- livery/index.New -/
def S_index_New (g0_fan : Int) (h : Hp) (Q : List Value → Hp → Prop) : Prop := Fn PP 171 #[(Value.int .i64 g0_fan)] h Q
/-- (*livery/table.Store).add -/
def S_table_Store_add (g0_s : Option Addr) (g1_r : Option Addr) (g2_x_0 : ByteArray) (g2_x_1 : ByteArray) (g2_x_2 : Bool) (g2_x_3 : Int) (g2_x_4 : Int) (g2_x_5 : Int) (h : Hp) (Q : List Value → Hp → Prop) : Prop := Fn PP 99 #[(Value.pointer g0_s), (Value.pointer g1_r), (Value.agg #[(Value.string g2_x_0), (Value.string g2_x_1), (Value.bool g2_x_2), (Value.int .i64 g2_x_3), (Value.int .i64 g2_x_4), (Value.int .i64 g2_x_5)])] h Q
/-- (*livery/table.Store).Make -/
def S_table_Store_Make (g0_s : Option Addr) (g1_xid : Int) (g2_rel : Int) (g3_x_0 : ByteArray) (g3_x_1 : ByteArray) (g3_x_2 : Bool) (g3_x_3 : Int) (g4_cols : Sl) (h : Hp) (Q : List Value → Hp → Prop) : Prop := Fn PP 40 #[(Value.pointer g0_s), (Value.int .i64 g1_xid), (Value.int .i64 g2_rel), (Value.agg #[(Value.string g3_x_0), (Value.string g3_x_1), (Value.bool g3_x_2), (Value.int .i64 g3_x_3)]), (Value.slice g4_cols.a g4_cols.n g4_cols.c)] h Q
/-- (*livery/liveryref19.Store).There -/
def S_liveryref19_Store_There (g0_s : Option Addr) (g1_rel : Int) (h : Hp) (Q : List Value → Hp → Prop) : Prop := Fn PP 100 #[(Value.pointer g0_s), (Value.int .i64 g1_rel)] h Q
/-- (*livery/liveryref19.Store).stands -/
def S_liveryref19_Store_stands (g0_s : Option Addr) (g1_x_0 : ByteArray) (g1_x_1 : ByteArray) (g1_x_2 : Bool) (g1_x_3 : Int) (g1_x_4 : Int) (g1_x_5 : Int) (g1_x_6 : Option Addr) (h : Hp) (Q : List Value → Hp → Prop) : Prop := Fn PP 172 #[(Value.pointer g0_s), (Value.agg #[(Value.string g1_x_0), (Value.string g1_x_1), (Value.bool g1_x_2), (Value.int .i64 g1_x_3), (Value.int .i64 g1_x_4), (Value.int .i64 g1_x_5), (Value.pointer g1_x_6)])] h Q
/-- (*livery/liveryref19.Store).Standing -/
def S_liveryref19_Store_Standing (g0_s : Option Addr) (g1_rel : Int) (h : Hp) (Q : List Value → Hp → Prop) : Prop := Fn PP 102 #[(Value.pointer g0_s), (Value.int .i64 g1_rel)] h Q
/-- (*livery/liveryref19.Store).find -/
def S_liveryref19_Store_find (g0_s : Option Addr) (g1_rel : Int) (g2_name : ByteArray) (h : Hp) (Q : List Value → Hp → Prop) : Prop := Fn PP 101 #[(Value.pointer g0_s), (Value.int .i64 g1_rel), (Value.string g2_name)] h Q
/-- livery/liveryref10.New -/
def S_liveryref10_New (g0_fan : Int) (h : Hp) (Q : List Value → Hp → Prop) : Prop := Fn PP 173 #[(Value.int .i64 g0_fan)] h Q
/-- livery/liveryref11.New -/
def S_liveryref11_New (g0_fan : Int) (h : Hp) (Q : List Value → Hp → Prop) : Prop := Fn PP 104 #[(Value.int .i64 g0_fan)] h Q
/-- (*livery/liveryref19.Store).Make -/
def S_liveryref19_Store_Make (g0_s : Option Addr) (g1_xid : Int) (g2_rel : Int) (g3_x_0 : ByteArray) (g3_x_1 : ByteArray) (g3_x_2 : Bool) (g3_x_3 : Int) (g4_cols : Sl) (h : Hp) (Q : List Value → Hp → Prop) : Prop := Fn PP 41 #[(Value.pointer g0_s), (Value.int .i64 g1_xid), (Value.int .i64 g2_rel), (Value.agg #[(Value.string g3_x_0), (Value.string g3_x_1), (Value.bool g3_x_2), (Value.int .i64 g3_x_3)]), (Value.slice g4_cols.a g4_cols.n g4_cols.c)] h Q
/-- (*livery/ssi.Ssi).Doomed -/
def S_ssi_Ssi_Doomed (g0_s : Option Addr) (g1_xid : Int) (h : Hp) (Q : List Value → Hp → Prop) : Prop := Fn PP 106 #[(Value.pointer g0_s), (Value.int .i64 g1_xid)] h Q
/-- (*livery/siread.Table).Drop -/
def S_siread_Table_Drop (g0_t : Option Addr) (g1_xid : Int) (h : Hp) (Q : List Value → Hp → Prop) : Prop := Fn PP 175 #[(Value.pointer g0_t), (Value.int .i64 g1_xid)] h Q
/-- slices.DeleteFunc[[]int,int] -/
def S_slices_DeleteFunc_sint_int (g0_s : Sl) (g1_del_f : Nat) (g1_del_c : Array Value) (h : Hp) (Q : List Value → Hp → Prop) : Prop := Fn PP 179 #[(Value.slice g0_s.a g0_s.n g0_s.c), (Value.func (.func g1_del_f) #[] g1_del_c)] h Q
/-- (*livery/siread.Table).Fold -/
def S_siread_Table_Fold (g0_t : Option Addr) (g1_xid : Int) (g2_csn : Int) (h : Hp) (Q : List Value → Hp → Prop) : Prop := Fn PP 183 #[(Value.pointer g0_t), (Value.int .i64 g1_xid), (Value.int .i64 g2_csn)] h Q
/-- (*livery/ssi.Ssi).clean -/
def S_ssi_Ssi_clean (g0_s : Option Addr) (h : Hp) (Q : List Value → Hp → Prop) : Prop := Fn PP 110 #[(Value.pointer g0_s)] h Q
/-- (*livery/clog.Log).ends -/
def S_clog_Log_ends (g0_l : Option Addr) (g1_xid : Int) (h : Hp) (Q : List Value → Hp → Prop) : Prop := Fn PP 178 #[(Value.pointer g0_l), (Value.int .i64 g1_xid)] h Q
/-- (*livery/clog.Log).Abort -/
def S_clog_Log_Abort (g0_l : Option Addr) (g1_xid : Int) (h : Hp) (Q : List Value → Hp → Prop) : Prop := Fn PP 174 #[(Value.pointer g0_l), (Value.int .i64 g1_xid)] h Q
/-- maps.DeleteFunc[map[[2]int]int,[2]int,int] -/
def S_maps_DeleteFunc_map_2_int_int_2_int_int (g0_m : Option Nat) (g1_del_f : Nat) (g1_del_c : Array Value) (h : Hp) (Q : List Value → Hp → Prop) : Prop := Fn PP 236 #[(Value.map g0_m), (Value.func (.func g1_del_f) #[] g1_del_c)] h Q
/-- (*livery/edge.Edges).Drop -/
def S_edge_Edges_Drop (g0_e : Option Addr) (g1_xid : Int) (h : Hp) (Q : List Value → Hp → Prop) : Prop := Fn PP 176 #[(Value.pointer g0_e), (Value.int .i64 g1_xid)] h Q
/-- (*livery/ssi.Ssi).Abort -/
def S_ssi_Ssi_Abort (g0_s : Option Addr) (g1_xid : Int) (h : Hp) (Q : List Value → Hp → Prop) : Prop := Fn PP 107 #[(Value.pointer g0_s), (Value.int .i64 g1_xid)] h Q
/-- (*livery/edge.Edges).Ahead -/
def S_edge_Edges_Ahead (g0_e : Option Addr) (g1_t3 : Int) (h : Hp) (Q : List Value → Hp → Prop) : Prop := Fn PP 108 #[(Value.pointer g0_e), (Value.int .i64 g1_t3)] h Q
/-- (*livery/clog.Log).Commit -/
def S_clog_Log_Commit (g0_l : Option Addr) (g1_xid : Int) (h : Hp) (Q : List Value → Hp → Prop) : Prop := Fn PP 109 #[(Value.pointer g0_l), (Value.int .i64 g1_xid)] h Q
/-- (*livery/ssi.Ssi).Commit -/
def S_ssi_Ssi_Commit (g0_s : Option Addr) (g1_xid : Int) (h : Hp) (Q : List Value → Hp → Prop) : Prop := Fn PP 42 #[(Value.pointer g0_s), (Value.int .i64 g1_xid)] h Q
/-- (*livery/liveryref15.Ssi).runs -/
def S_liveryref15_Ssi_runs (g0_s : Option Addr) (g1_xid : Int) (h : Hp) (Q : List Value → Hp → Prop) : Prop := Fn PP 111 #[(Value.pointer g0_s), (Value.int .i64 g1_xid)] h Q
/-- livery/liveryref15.has -/
def S_liveryref15_has (g0_l : Sl) (g1_n : Int) (h : Hp) (Q : List Value → Hp → Prop) : Prop := Fn PP 184 #[(Value.slice g0_l.a g0_l.n g0_l.c), (Value.int .i64 g1_n)] h Q
/-- (*livery/liveryref15.Ssi).IsDoomed -/
def S_liveryref15_Ssi_IsDoomed (g0_s : Option Addr) (g1_xid : Int) (h : Hp) (Q : List Value → Hp → Prop) : Prop := Fn PP 112 #[(Value.pointer g0_s), (Value.int .i64 g1_xid)] h Q
/-- (*livery/liveryref13.Table).Drop -/
def S_liveryref13_Table_Drop (g0_t : Option Addr) (g1_xid : Int) (h : Hp) (Q : List Value → Hp → Prop) : Prop := Fn PP 186 #[(Value.pointer g0_t), (Value.int .i64 g1_xid)] h Q
/-- livery/liveryref13.ahead -/
def S_liveryref13_ahead (g0_a_0 : Int) (g0_a_1 : ByteArray) (g0_a_2 : Int) (g0_a_3 : ByteArray) (g0_a_4 : Int) (g1_b_0 : Int) (g1_b_1 : ByteArray) (g1_b_2 : Int) (g1_b_3 : ByteArray) (g1_b_4 : Int) (h : Hp) (Q : List Value → Hp → Prop) : Prop := Fn PP 295 #[(Value.agg #[(Value.int .i64 g0_a_0), (Value.string g0_a_1), (Value.int .i64 g0_a_2), (Value.string g0_a_3), (Value.int .i64 g0_a_4)]), (Value.agg #[(Value.int .i64 g1_b_0), (Value.string g1_b_1), (Value.int .i64 g1_b_2), (Value.string g1_b_3), (Value.int .i64 g1_b_4)])] h Q
/-- (*livery/liveryref13.Table).Of -/
def S_liveryref13_Table_Of (g0_t : Option Addr) (g1_xid : Int) (h : Hp) (Q : List Value → Hp → Prop) : Prop := Fn PP 240 #[(Value.pointer g0_t), (Value.int .i64 g1_xid)] h Q
/-- livery/liveryref13.kind -/
def S_liveryref13_kind (g0_x_0 : Int) (g0_x_1 : ByteArray) (g0_x_2 : Int) (g0_x_3 : ByteArray) (g0_x_4 : Int) (h : Hp) (Q : List Value → Hp → Prop) : Prop := Fn PP 296 #[(Value.agg #[(Value.int .i64 g0_x_0), (Value.string g0_x_1), (Value.int .i64 g0_x_2), (Value.string g0_x_3), (Value.int .i64 g0_x_4)])] h Q
/-- (*livery/liveryref13.Table).Has -/
def S_liveryref13_Table_Has (g0_t : Option Addr) (g1_owner : Int) (g2_x_0 : Int) (g2_x_1 : ByteArray) (g2_x_2 : Int) (g2_x_3 : ByteArray) (g2_x_4 : Int) (h : Hp) (Q : List Value → Hp → Prop) : Prop := Fn PP 297 #[(Value.pointer g0_t), (Value.int .i64 g1_owner), (Value.agg #[(Value.int .i64 g2_x_0), (Value.string g2_x_1), (Value.int .i64 g2_x_2), (Value.string g2_x_3), (Value.int .i64 g2_x_4)])] h Q
/-- livery/liveryref13.fine -/
def S_liveryref13_fine (g0_x_0 : Int) (g0_x_1 : ByteArray) (g0_x_2 : Int) (g0_x_3 : ByteArray) (g0_x_4 : Int) (h : Hp) (Q : List Value → Hp → Prop) : Prop := Fn PP 298 #[(Value.agg #[(Value.int .i64 g0_x_0), (Value.string g0_x_1), (Value.int .i64 g0_x_2), (Value.string g0_x_3), (Value.int .i64 g0_x_4)])] h Q
/-- livery/liveryref13.rel -/
def S_liveryref13_rel (g0_x_0 : Int) (g0_x_1 : ByteArray) (g0_x_2 : Int) (g0_x_3 : ByteArray) (g0_x_4 : Int) (h : Hp) (Q : List Value → Hp → Prop) : Prop := Fn PP 299 #[(Value.agg #[(Value.int .i64 g0_x_0), (Value.string g0_x_1), (Value.int .i64 g0_x_2), (Value.string g0_x_3), (Value.int .i64 g0_x_4)])] h Q
/-- (*livery/liveryref13.Table).Fine -/
def S_liveryref13_Table_Fine (g0_t : Option Addr) (h : Hp) (Q : List Value → Hp → Prop) : Prop := Fn PP 300 #[(Value.pointer g0_t)] h Q
/-- (*livery/liveryref13.Table).take -/
def S_liveryref13_Table_take (g0_t : Option Addr) (g1_owner : Int) (g2_x_0 : Int) (g2_x_1 : ByteArray) (g2_x_2 : Int) (g2_x_3 : ByteArray) (g2_x_4 : Int) (h : Hp) (Q : List Value → Hp → Prop) : Prop := Fn PP 241 #[(Value.pointer g0_t), (Value.int .i64 g1_owner), (Value.agg #[(Value.int .i64 g2_x_0), (Value.string g2_x_1), (Value.int .i64 g2_x_2), (Value.string g2_x_3), (Value.int .i64 g2_x_4)])] h Q
/-- (*livery/liveryref13.Table).Fold -/
def S_liveryref13_Table_Fold (g0_t : Option Addr) (g1_xid : Int) (g2_csn : Int) (h : Hp) (Q : List Value → Hp → Prop) : Prop := Fn PP 190 #[(Value.pointer g0_t), (Value.int .i64 g1_xid), (Value.int .i64 g2_csn)] h Q
/-- (*livery/liveryref15.Ssi).clean -/
def S_liveryref15_Ssi_clean (g0_s : Option Addr) (h : Hp) (Q : List Value → Hp → Prop) : Prop := Fn PP 117 #[(Value.pointer g0_s)] h Q
/-- (*livery/liveryref08.Log).Abort -/
def S_liveryref08_Log_Abort (g0_l : Option Addr) (g1_xid : Int) (h : Hp) (Q : List Value → Hp → Prop) : Prop := Fn PP 185 #[(Value.pointer g0_l), (Value.int .i64 g1_xid)] h Q
/-- (*livery/liveryref14.Edges).Drop -/
def S_liveryref14_Edges_Drop (g0_e : Option Addr) (g1_xid : Int) (h : Hp) (Q : List Value → Hp → Prop) : Prop := Fn PP 187 #[(Value.pointer g0_e), (Value.int .i64 g1_xid)] h Q
/-- (*livery/liveryref15.Ssi).Abort -/
def S_liveryref15_Ssi_Abort (g0_s : Option Addr) (g1_xid : Int) (h : Hp) (Q : List Value → Hp → Prop) : Prop := Fn PP 113 #[(Value.pointer g0_s), (Value.int .i64 g1_xid)] h Q
/-- (*livery/liveryref14.Edges).In -/
def S_liveryref14_Edges_In (g0_e : Option Addr) (g1_xid : Int) (h : Hp) (Q : List Value → Hp → Prop) : Prop := Fn PP 188 #[(Value.pointer g0_e), (Value.int .i64 g1_xid)] h Q
/-- livery/liveryref14.put -/
def S_liveryref14_put (g0_l : Sl) (g1_n : Int) (h : Hp) (Q : List Value → Hp → Prop) : Prop := Fn PP 189 #[(Value.slice g0_l.a g0_l.n g0_l.c), (Value.int .i64 g1_n)] h Q
/-- (*livery/liveryref14.Edges).Ahead -/
def S_liveryref14_Edges_Ahead (g0_e : Option Addr) (g1_t3 : Int) (h : Hp) (Q : List Value → Hp → Prop) : Prop := Fn PP 114 #[(Value.pointer g0_e), (Value.int .i64 g1_t3)] h Q
/-- (*livery/liveryref15.Ssi).doom -/
def S_liveryref15_Ssi_doom (g0_s : Option Addr) (g1_xid : Int) (h : Hp) (Q : List Value → Hp → Prop) : Prop := Fn PP 115 #[(Value.pointer g0_s), (Value.int .i64 g1_xid)] h Q
/-- (*livery/liveryref08.Log).Commit -/
def S_liveryref08_Log_Commit (g0_l : Option Addr) (g1_xid : Int) (h : Hp) (Q : List Value → Hp → Prop) : Prop := Fn PP 116 #[(Value.pointer g0_l), (Value.int .i64 g1_xid)] h Q
/-- (*livery/liveryref15.Ssi).Commit -/
def S_liveryref15_Ssi_Commit (g0_s : Option Addr) (g1_xid : Int) (h : Hp) (Q : List Value → Hp → Prop) : Prop := Fn PP 43 #[(Value.pointer g0_s), (Value.int .i64 g1_xid)] h Q
/-- livery/liverylaw21.Made -/
def S_liverylaw21_Made (g0_each : Int) (g1_all : Int) (g2_keep : Int) (g3_fan : Int) (g4_indexed : Bool) (h : Hp) (Q : List Value → Hp → Prop) : Prop := Fn PP 11 #[(Value.int .i64 g0_each), (Value.int .i64 g1_all), (Value.int .i64 g2_keep), (Value.int .i64 g3_fan), (Value.bool g4_indexed)] h Q
/-- livery/liverylaw22.num -/
def S_liverylaw22_num (g0_n : Int) (h : Hp) (Q : List Value → Hp → Prop) : Prop := Fn PP 15 #[(Value.int .i64 g0_n)] h Q
/-- livery/liverylaw22.insert -/
def S_liverylaw22_insert (g0_a : Int) (g1_b : Int) (h : Hp) (Q : List Value → Hp → Prop) : Prop := Fn PP 14 #[(Value.int .i64 g0_a), (Value.int .i64 g1_b)] h Q
/-- livery/liverykeep.Ints -/
def S_liverykeep_Ints (g0_a : Sl) (g1_b : Sl) (h : Hp) (Q : List Value → Hp → Prop) : Prop := Fn PP 16 #[(Value.slice g0_a.a g0_a.n g0_a.c), (Value.slice g1_b.a g1_b.n g1_b.c)] h Q
/-- (*livery/ssi.Ssi).Edges -/
def S_ssi_Ssi_Edges (g0_s : Option Addr) (h : Hp) (Q : List Value → Hp → Prop) : Prop := Fn PP 17 #[(Value.pointer g0_s)] h Q
/-- livery/liverylaw22.wakes -/
def S_liverylaw22_wakes (h : Hp) (Q : List Value → Hp → Prop) : Prop := Fn PP 5 #[] h Q
/-- livery/liverylaw22.WriteNone -/
def S_liverylaw22_WriteNone (g0_x_0 : Int) (g0_x_1 : ByteArray) (g0_x_2 : ByteArray) (g0_x_3 : ByteArray) (g0_x_4 : ByteArray) (g0_x_5 : Int) (g0_x_6 : Int) (g0_x_7 : Nat) (g0_x_8 : ByteArray) (g0_x_9 : Int) (g0_x_10 : Int) (g0_x_11 : Nat) (g0_x_12 : ByteArray) (g0_x_13 : Sl) (g0_x_14 : Sl) (g0_x_15 : Bool) (h : Hp) (Q : List Value → Hp → Prop) : Prop := Fn PP 3 #[(Value.agg #[(Value.int .i64 g0_x_0), (Value.string g0_x_1), (Value.string g0_x_2), (Value.string g0_x_3), (Value.string g0_x_4), (Value.int .i64 g0_x_5), (Value.int .i64 g0_x_6), (Value.float .f64 g0_x_7), (Value.string g0_x_8), (Value.int .i64 g0_x_9), (Value.int .i64 g0_x_10), (Value.float .f64 g0_x_11), (Value.string g0_x_12), (Value.slice g0_x_13.a g0_x_13.n g0_x_13.c), (Value.slice g0_x_14.a g0_x_14.n g0_x_14.c), (Value.bool g0_x_15)])] h Q
/-- (*livery/ssi.Ssi).Begin$1 -/
def S_ssi_Ssi_Begin_1 (g0_x : Int) (g1_x : Addr) (h : Hp) (Q : List Value → Hp → Prop) : Prop := Fn PP 46 #[(Value.int .i64 g0_x), (Value.pointer (some g1_x))] h Q
/-- livery/write.change$1 -/
def S_write_change_1 (g0_y_0 : ByteArray) (g0_y_1 : ByteArray) (g0_y_2 : Bool) (g0_y_3 : Int) (g0_y_4 : Int) (g0_y_5 : Int) (g1_x : Addr) (h : Hp) (Q : List Value → Hp → Prop) : Prop := Fn PP 63 #[(Value.agg #[(Value.string g0_y_0), (Value.string g0_y_1), (Value.bool g0_y_2), (Value.int .i64 g0_y_3), (Value.int .i64 g0_y_4), (Value.int .i64 g0_y_5)]), (Value.pointer (some g1_x))] h Q
/-- livery/write.unique$1 -/
def S_write_unique_1 (g0_x_0 : ByteArray) (g0_x_1 : ByteArray) (g0_x_2 : Bool) (g0_x_3 : Int) (g0_x_4 : Int) (g0_x_5 : Int) (g1_x : Addr) (h : Hp) (Q : List Value → Hp → Prop) : Prop := Fn PP 68 #[(Value.agg #[(Value.string g0_x_0), (Value.string g0_x_1), (Value.bool g0_x_2), (Value.int .i64 g0_x_3), (Value.int .i64 g0_x_4), (Value.int .i64 g0_x_5)]), (Value.pointer (some g1_x))] h Q
/-- livery/row.Find$1 -/
def S_row_Find_1 (g0_c_0 : ByteArray) (g0_c_1 : Int) (g0_c_2 : Bool) (g0_c_3 : Int) (g0_c_4 : Int) (g0_c_5 : Nat) (g0_c_6 : ByteArray) (g1_x : Addr) (h : Hp) (Q : List Value → Hp → Prop) : Prop := Fn PP 70 #[(Value.agg #[(Value.string g0_c_0), (Value.int .i64 g0_c_1), (Value.bool g0_c_2), (Value.int .i64 g0_c_3), (Value.int .i64 g0_c_4), (Value.float .f64 g0_c_5), (Value.string g0_c_6)]), (Value.pointer (some g1_x))] h Q
/-- (*livery/name.Names).May$1 -/
def S_name_Names_May_1 (g0_x : Int) (g1_x : Addr) (h : Hp) (Q : List Value → Hp → Prop) : Prop := Fn PP 127 #[(Value.int .i64 g0_x), (Value.pointer (some g1_x))] h Q
/-- livery/read.Hits$1 -/
def S_read_Hits_1 (g0_a_0 : Int) (g0_a_1 : Sl) (g1_b_0 : Int) (g1_b_1 : Sl) (h : Hp) (Q : List Value → Hp → Prop) : Prop := Fn PP 142 #[(Value.agg #[(Value.int .i64 g0_a_0), (Value.slice g0_a_1.a g0_a_1.n g0_a_1.c)]), (Value.agg #[(Value.int .i64 g1_b_0), (Value.slice g1_b_1.a g1_b_1.n g1_b_1.c)])] h Q
/-- (*livery/table.Store).get$1 -/
def S_table_Store_get_1 (g0_x : Option Addr) (g1_x : Addr) (h : Hp) (Q : List Value → Hp → Prop) : Prop := Fn PP 149 #[(Value.pointer g0_x), (Value.pointer (some g1_x))] h Q
/-- (*livery/name.Names).others$1 -/
def S_name_Names_others_1 (g0_v_0 : Int) (g0_v_1 : Int) (g0_v_2 : ByteArray) (g0_v_3 : Sl) (g0_v_4 : Int) (g1_x : Addr) (g2_x : Addr) (h : Hp) (Q : List Value → Hp → Prop) : Prop := Fn PP 160 #[(Value.agg #[(Value.int .i64 g0_v_0), (Value.int .i64 g0_v_1), (Value.string g0_v_2), (Value.slice g0_v_3.a g0_v_3.n g0_v_3.c), (Value.int .i64 g0_v_4)]), (Value.pointer (some g1_x)), (Value.pointer (some g2_x))] h Q
/-- cmp.Compare[string] -/
def S_cmp_Compare_string (g0_x : ByteArray) (g1_y : ByteArray) (h : Hp) (Q : List Value → Hp → Prop) : Prop := Fn PP 170 #[(Value.string g0_x), (Value.string g1_y)] h Q
/-- (*livery/table.Store).standing$1 -/
def S_table_Store_standing_1 (g0_a : Option Addr) (g1_b : Option Addr) (h : Hp) (Q : List Value → Hp → Prop) : Prop := Fn PP 169 #[(Value.pointer g0_a), (Value.pointer g1_b)] h Q
/-- (*livery/clog.Log).Clock -/
def S_clog_Log_Clock (g0_l : Option Addr) (h : Hp) (Q : List Value → Hp → Prop) : Prop := Fn PP 238 #[(Value.pointer g0_l)] h Q
/-- (*livery/clog.Log).Horizon -/
def S_clog_Log_Horizon (g0_l : Option Addr) (h : Hp) (Q : List Value → Hp → Prop) : Prop := Fn PP 182 #[(Value.pointer g0_l)] h Q
/-- (*livery/ssi.Ssi).clean$1 -/
def S_ssi_Ssi_clean_1 (g0_x : Int) (g1_x : Addr) (h : Hp) (Q : List Value → Hp → Prop) : Prop := Fn PP 180 #[(Value.int .i64 g0_x), (Value.pointer (some g1_x))] h Q
/-- maps.Keys[map[int]int,int,int]$1 -/
def S_maps_Keys_map_int_int_int_int_1 (g0_yield_f : Nat) (g0_yield_c : Array Value) (g1_x : Addr) (h : Hp) (Q : List Value → Hp → Prop) : Prop := Fn PP 196 #[(Value.func (.func g0_yield_f) #[] g0_yield_c), (Value.pointer (some g1_x))] h Q
/-- (*livery/siread.Table).Copy$1 -/
def S_siread_Table_Copy_1 (g0_y_0 : Int) (g0_y_1 : ByteArray) (g0_y_2 : Int) (g0_y_3 : ByteArray) (g0_y_4 : Int) (g1_x : Addr) (h : Hp) (Q : List Value → Hp → Prop) : Prop := Fn PP 202 #[(Value.agg #[(Value.int .i64 g0_y_0), (Value.string g0_y_1), (Value.int .i64 g0_y_2), (Value.string g0_y_3), (Value.int .i64 g0_y_4)]), (Value.pointer (some g1_x))] h Q
/-- (*livery/table.Store).Usable$1 -/
def S_table_Store_Usable_1 (g0_x_0 : ByteArray) (g0_x_1 : ByteArray) (g0_x_2 : Bool) (g0_x_3 : Int) (g0_x_4 : Int) (g0_x_5 : Int) (g1_x : Addr) (g2_x : Addr) (h : Hp) (Q : List Value → Hp → Prop) : Prop := Fn PP 206 #[(Value.agg #[(Value.string g0_x_0), (Value.string g0_x_1), (Value.bool g0_x_2), (Value.int .i64 g0_x_3), (Value.int .i64 g0_x_4), (Value.int .i64 g0_x_5)]), (Value.pointer (some g1_x)), (Value.pointer (some g2_x))] h Q
/-- livery/plan.Of$1 -/
def S_plan_Of_1 (g0_x_0 : ByteArray) (g0_x_1 : ByteArray) (g0_x_2 : Bool) (g0_x_3 : Int) (g1_x : Addr) (h : Hp) (Q : List Value → Hp → Prop) : Prop := Fn PP 209 #[(Value.agg #[(Value.string g0_x_0), (Value.string g0_x_1), (Value.bool g0_x_2), (Value.int .i64 g0_x_3)]), (Value.pointer (some g1_x))] h Q
/-- livery/plan.Of$2 -/
def S_plan_Of_2 (g0_a_0 : ByteArray) (g0_a_1 : ByteArray) (g0_a_2 : Bool) (g0_a_3 : Int) (g1_b_0 : ByteArray) (g1_b_1 : ByteArray) (g1_b_2 : Bool) (g1_b_3 : Int) (h : Hp) (Q : List Value → Hp → Prop) : Prop := Fn PP 211 #[(Value.agg #[(Value.string g0_a_0), (Value.string g0_a_1), (Value.bool g0_a_2), (Value.int .i64 g0_a_3)]), (Value.agg #[(Value.string g1_b_0), (Value.string g1_b_1), (Value.bool g1_b_2), (Value.int .i64 g1_b_3)])] h Q
/-- (livery/value.own).bare -/
def S_value_own_bare (g0_v_0 : Int) (g0_v_1 : Int) (g0_v_2 : Nat) (g0_v_3 : ByteArray) (g1_n : Bool) (g2_f : Bool) (g3_s : Bool) (h : Hp) (Q : List Value → Hp → Prop) : Prop := Fn PP 283 #[(Value.agg #[(Value.int .i64 g0_v_0), (Value.int .i64 g0_v_1), (Value.float .f64 g0_v_2), (Value.string g0_v_3)]), (Value.bool g1_n), (Value.bool g2_f), (Value.bool g3_s)] h Q
/-- (livery/value.own).null -/
def S_value_own_null (g0_v_0 : Int) (g0_v_1 : Int) (g0_v_2 : Nat) (g0_v_3 : ByteArray) (h : Hp) (Q : List Value → Hp → Prop) : Prop := Fn PP 219 #[(Value.agg #[(Value.int .i64 g0_v_0), (Value.int .i64 g0_v_1), (Value.float .f64 g0_v_2), (Value.string g0_v_3)])] h Q
/-- (livery/value.own).bool -/
def S_value_own_bool (g0_v_0 : Int) (g0_v_1 : Int) (g0_v_2 : Nat) (g0_v_3 : ByteArray) (h : Hp) (Q : List Value → Hp → Prop) : Prop := Fn PP 220 #[(Value.agg #[(Value.int .i64 g0_v_0), (Value.int .i64 g0_v_1), (Value.float .f64 g0_v_2), (Value.string g0_v_3)])] h Q
/-- (livery/value.own).int -/
def S_value_own_int (g0_v_0 : Int) (g0_v_1 : Int) (g0_v_2 : Nat) (g0_v_3 : ByteArray) (h : Hp) (Q : List Value → Hp → Prop) : Prop := Fn PP 221 #[(Value.agg #[(Value.int .i64 g0_v_0), (Value.int .i64 g0_v_1), (Value.float .f64 g0_v_2), (Value.string g0_v_3)])] h Q
/-- livery/float.Is -/
def S_float_Is (g0_f : Nat) (h : Hp) (Q : List Value → Hp → Prop) : Prop := Fn PP 284 #[(Value.float .f64 g0_f)] h Q
/-- (livery/value.own).float -/
def S_value_own_float (g0_v_0 : Int) (g0_v_1 : Int) (g0_v_2 : Nat) (g0_v_3 : ByteArray) (h : Hp) (Q : List Value → Hp → Prop) : Prop := Fn PP 222 #[(Value.agg #[(Value.int .i64 g0_v_0), (Value.int .i64 g0_v_1), (Value.float .f64 g0_v_2), (Value.string g0_v_3)])] h Q
/-- (livery/value.own).text -/
def S_value_own_text (g0_v_0 : Int) (g0_v_1 : Int) (g0_v_2 : Nat) (g0_v_3 : ByteArray) (h : Hp) (Q : List Value → Hp → Prop) : Prop := Fn PP 223 #[(Value.agg #[(Value.int .i64 g0_v_0), (Value.int .i64 g0_v_1), (Value.float .f64 g0_v_2), (Value.string g0_v_3)])] h Q
/-- (*livery/leaf.Leaves).Range -/
def S_leaf_Leaves_Range (g0_x : Option Addr) (g1_from : ByteArray) (g2_to : ByteArray) (h : Hp) (Q : List Value → Hp → Prop) : Prop := Fn PP 225 #[(Value.pointer g0_x), (Value.string g1_from), (Value.string g2_to)] h Q
/-- livery/index.entries -/
def S_index_entries (g0_keys : Sl) (h : Hp) (Q : List Value → Hp → Prop) : Prop := Fn PP 226 #[(Value.slice g0_keys.a g0_keys.n g0_keys.c)] h Q
/-- (*livery/siread.Table).Drop$1 -/
def S_siread_Table_Drop_1 (g0_x_0 : Int) (g0_x_1 : ByteArray) (g0_x_2 : Int) (g0_x_3 : ByteArray) (g0_x_4 : Int) (h : Hp) (Q : List Value → Hp → Prop) : Prop := Fn PP 235 #[(Value.agg #[(Value.int .i64 g0_x_0), (Value.string g0_x_1), (Value.int .i64 g0_x_2), (Value.string g0_x_3), (Value.int .i64 g0_x_4)])] h Q
/-- (*livery/edge.Edges).Drop$1 -/
def S_edge_Edges_Drop_1 (g0_x_0 : Int) (g0_x_1 : Int) (g1_x : Int) (g2_x : Addr) (h : Hp) (Q : List Value → Hp → Prop) : Prop := Fn PP 237 #[(Value.agg #[(Value.int .i64 g0_x_0), (Value.int .i64 g0_x_1)]), (Value.int .i64 g1_x), (Value.pointer (some g2_x))] h Q
/-- math/bits.Len32 -/
def S_math_bits_Len32 (g0_x : Int) (h : Hp) (Q : List Value → Hp → Prop) : Prop := Fn PP 251 #[(Value.int .u32 g0_x)] h Q
/-- (*livery/siread.Table).take$1 -/
def S_siread_Table_take_1 (g0_y_0 : Int) (g0_y_1 : ByteArray) (g0_y_2 : Int) (g0_y_3 : ByteArray) (g0_y_4 : Int) (g1_x : Addr) (h : Hp) (Q : List Value → Hp → Prop) : Prop := Fn PP 256 #[(Value.agg #[(Value.int .i64 g0_y_0), (Value.string g0_y_1), (Value.int .i64 g0_y_2), (Value.string g0_y_3), (Value.int .i64 g0_y_4)]), (Value.pointer (some g1_x))] h Q
/-- (*livery/siread.Table).Owners$1 -/
def S_siread_Table_Owners_1 (g0_y_0 : Int) (g0_y_1 : ByteArray) (g0_y_2 : Int) (g0_y_3 : ByteArray) (g0_y_4 : Int) (g1_x : Addr) (h : Hp) (Q : List Value → Hp → Prop) : Prop := Fn PP 266 #[(Value.agg #[(Value.int .i64 g0_y_0), (Value.string g0_y_1), (Value.int .i64 g0_y_2), (Value.string g0_y_3), (Value.int .i64 g0_y_4)]), (Value.pointer (some g1_x))] h Q
/-- livery/key.wide -/
def S_key_wide (g0_s : ByteArray) (h : Hp) (Q : List Value → Hp → Prop) : Prop := Fn PP 340 #[(Value.string g0_s)] h Q
/-- livery/float.From -/
def S_float_From (g0_u : Int) (h : Hp) (Q : List Value → Hp → Prop) : Prop := Fn PP 341 #[(Value.int .u64 g0_u)] h Q
/-- strings.IndexByte -/
def S_strings_IndexByte (g0_s : ByteArray) (g1_c : Int) (h : Hp) (Q : List Value → Hp → Prop) : Prop := Fn PP 353 #[(Value.string g0_s), (Value.int .u8 g1_c)] h Q
/-- (*strings.Builder).WriteByte -/
def S_strings_Builder_WriteByte (g0_b : Option Addr) (g1_c : Int) (h : Hp) (Q : List Value → Hp → Prop) : Prop := Fn PP 354 #[(Value.pointer g0_b), (Value.int .u8 g1_c)] h Q
/-- livery/key.text -/
def S_key_text (g0_s : ByteArray) (h : Hp) (Q : List Value → Hp → Prop) : Prop := Fn PP 342 #[(Value.string g0_s)] h Q
/-- livery/key.first -/
def S_key_first (g0_k : ByteArray) (h : Hp) (Q : List Value → Hp → Prop) : Prop := Fn PP 326 #[(Value.string g0_k)] h Q
/-- livery/key.Split -/
def S_key_Split (g0_e : ByteArray) (h : Hp) (Q : List Value → Hp → Prop) : Prop := Fn PP 287 #[(Value.string g0_e)] h Q
/-- livery/index.entries$1 -/
def S_index_entries_1 (g0_yield_f : Nat) (g0_yield_c : Array Value) (g1_x : Addr) (h : Hp) (Q : List Value → Hp → Prop) : Prop := Fn PP 286 #[(Value.func (.func g0_yield_f) #[] g0_yield_c), (Value.pointer (some g1_x))] h Q
/-- livery/siread.compare -/
def S_siread_compare (g0_a_0 : Int) (g0_a_1 : ByteArray) (g0_a_2 : Int) (g0_a_3 : ByteArray) (g0_a_4 : Int) (g1_b_0 : Int) (g1_b_1 : ByteArray) (g1_b_2 : Int) (g1_b_3 : ByteArray) (g1_b_4 : Int) (h : Hp) (Q : List Value → Hp → Prop) : Prop := Fn PP 294 #[(Value.agg #[(Value.int .i64 g0_a_0), (Value.string g0_a_1), (Value.int .i64 g0_a_2), (Value.string g0_a_3), (Value.int .i64 g0_a_4)]), (Value.agg #[(Value.int .i64 g1_b_0), (Value.string g1_b_1), (Value.int .i64 g1_b_2), (Value.string g1_b_3), (Value.int .i64 g1_b_4)])] h Q
/-- maps.Keys[map[int]livery/api.Tuple,int,livery/api.Tuple]$1 -/
def S_maps_Keys_map_int_api_Tuple_int_api_Tuple_1 (g0_yield_f : Nat) (g0_yield_c : Array Value) (g1_x : Addr) (h : Hp) (Q : List Value → Hp → Prop) : Prop := Fn PP 317 #[(Value.func (.func g0_yield_f) #[] g0_yield_c), (Value.pointer (some g1_x))] h Q
/-- maps.Keys[map[livery/siread.Thing]int,livery/siread.Thing,int]$1 -/
def S_maps_Keys_map_siread_Thing_int_siread_Thing_int_1 (g0_yield_f : Nat) (g0_yield_c : Array Value) (g1_x : Addr) (h : Hp) (Q : List Value → Hp → Prop) : Prop := Fn PP 332 #[(Value.func (.func g0_yield_f) #[] g0_yield_c), (Value.pointer (some g1_x))] h Q
/-- (*strings.Builder).copyCheck -/
def S_strings_Builder_copyCheck (g0_b : Option Addr) (h : Hp) (Q : List Value → Hp → Prop) : Prop := Fn PP 338 #[(Value.pointer g0_b)] h Q
/-- internal/abi.NoEscape -/
def S_internal_abi_NoEscape (g0_x : Option Addr) (h : Hp) (Q : List Value → Hp → Prop) : Prop := Fn PP 351 #[(Value.pointer g0_x)] h Q
/-- (runtime.boundsError).Error -/
def S_runtime_boundsError_Error (g0_x_0 : Int) (g0_x_1 : Int) (g0_x_2 : Bool) (g0_x_3 : Int) (h : Hp) (Q : List Value → Hp → Prop) : Prop := Fn PP 377 #[(Value.agg #[(Value.int .i64 g0_x_0), (Value.int .i64 g0_x_1), (Value.bool g0_x_2), (Value.int .u8 g0_x_3)])] h Q
/-- (runtime.boundsError).RuntimeError -/
def S_runtime_boundsError_RuntimeError (g0_x_0 : Int) (g0_x_1 : Int) (g0_x_2 : Bool) (g0_x_3 : Int) (h : Hp) (Q : List Value → Hp → Prop) : Prop := Fn PP 378 #[(Value.agg #[(Value.int .i64 g0_x_0), (Value.int .i64 g0_x_1), (Value.bool g0_x_2), (Value.int .u8 g0_x_3)])] h Q
/-- (runtime.errorString).Error -/
def S_runtime_errorString_Error (g0_x : ByteArray) (h : Hp) (Q : List Value → Hp → Prop) : Prop := Fn PP 379 #[(Value.string g0_x)] h Q
/-- (runtime.errorString).RuntimeError -/
def S_runtime_errorString_RuntimeError (g0_x : ByteArray) (h : Hp) (Q : List Value → Hp → Prop) : Prop := Fn PP 380 #[(Value.string g0_x)] h Q
/-- (runtime.plainError).Error -/
def S_runtime_plainError_Error (g0_x : ByteArray) (h : Hp) (Q : List Value → Hp → Prop) : Prop := Fn PP 381 #[(Value.string g0_x)] h Q
/-- (runtime.plainError).RuntimeError -/
def S_runtime_plainError_RuntimeError (g0_x : ByteArray) (h : Hp) (Q : List Value → Hp → Prop) : Prop := Fn PP 382 #[(Value.string g0_x)] h Q
/-- (runtime.errorAddressString).Error -/
def S_runtime_errorAddressString_Error (g0_x_0 : ByteArray) (g0_x_1 : Int) (h : Hp) (Q : List Value → Hp → Prop) : Prop := Fn PP 383 #[(Value.agg #[(Value.string g0_x_0), (Value.int .u64 g0_x_1)])] h Q
/-- (runtime.errorAddressString).RuntimeError -/
def S_runtime_errorAddressString_RuntimeError (g0_x_0 : ByteArray) (g0_x_1 : Int) (h : Hp) (Q : List Value → Hp → Prop) : Prop := Fn PP 384 #[(Value.agg #[(Value.string g0_x_0), (Value.int .u64 g0_x_1)])] h Q
/-- (*runtime.TypeAssertionError).Error -/
def S_runtime_TypeAssertionError_Error (g0_x : Option Addr) (h : Hp) (Q : List Value → Hp → Prop) : Prop := Fn PP 385 #[(Value.pointer g0_x)] h Q
/-- (*runtime.TypeAssertionError).RuntimeError -/
def S_runtime_TypeAssertionError_RuntimeError (g0_x : Option Addr) (h : Hp) (Q : List Value → Hp → Prop) : Prop := Fn PP 386 #[(Value.pointer g0_x)] h Q
/-- (*runtime.PanicNilError).Error -/
def S_runtime_PanicNilError_Error (g0_x : Option Addr) (h : Hp) (Q : List Value → Hp → Prop) : Prop := Fn PP 387 #[(Value.pointer g0_x)] h Q
/-- (*runtime.PanicNilError).RuntimeError -/
def S_runtime_PanicNilError_RuntimeError (g0_x : Option Addr) (h : Hp) (Q : List Value → Hp → Prop) : Prop := Fn PP 388 #[(Value.pointer g0_x)] h Q
/-- (*internal/abi.Type).Align -/
def S_internal_abi_Type_Align (g0_x : Option Addr) (h : Hp) (Q : List Value → Hp → Prop) : Prop := Fn PP 389 #[(Value.pointer g0_x)] h Q
/-- (internal/runtime/maps.unhashableTypeError).Error -/
def S_internal_runtime_maps_unhashableTypeError_Error (g0_x_0 : Option Addr) (h : Hp) (Q : List Value → Hp → Prop) : Prop := Fn PP 390 #[(Value.agg #[(Value.pointer g0_x_0)])] h Q
/-- (internal/runtime/maps.unhashableTypeError).RuntimeError -/
def S_internal_runtime_maps_unhashableTypeError_RuntimeError (g0_x_0 : Option Addr) (h : Hp) (Q : List Value → Hp → Prop) : Prop := Fn PP 391 #[(Value.agg #[(Value.pointer g0_x_0)])] h Q
/-- (livery/api.Errno).Error -/
def S_api_Errno_Error (g0_x : Int) (h : Hp) (Q : List Value → Hp → Prop) : Prop := Fn PP 392 #[(Value.int .i64 g0_x)] h Q
/-- (*livery/table.Store).Locks -/
def S_table_Store_Locks (g0_x : Option Addr) (h : Hp) (Q : List Value → Hp → Prop) : Prop := Fn PP 393 #[(Value.pointer g0_x)] h Q
/-- (*livery/liveryref08.Log).Horizon -/
def S_liveryref08_Log_Horizon (g0_x : Option Addr) (h : Hp) (Q : List Value → Hp → Prop) : Prop := Fn PP 394 #[(Value.pointer g0_x)] h Q
/-- (*livery/liveryref12.Names).Drop -/
def S_liveryref12_Names_Drop (g0_x : Option Addr) (g1_x : Option Addr) (g2_x : Int) (g3_x : ByteArray) (h : Hp) (Q : List Value → Hp → Prop) : Prop := Fn PP 395 #[(Value.pointer g0_x), (Value.pointer g1_x), (Value.int .i64 g2_x), (Value.string g3_x)] h Q
/-- (*livery/liveryref06.Table).Find -/
def S_liveryref06_Table_Find (g0_x : Option Addr) (g1_x : Int) (h : Hp) (Q : List Value → Hp → Prop) : Prop := Fn PP 396 #[(Value.pointer g0_x), (Value.int .i64 g1_x)] h Q
/-- (*livery/lock.Table).Modes -/
def S_lock_Table_Modes (g0_x : Option Addr) (g1_x : Int) (g2_x : ByteArray) (h : Hp) (Q : List Value → Hp → Prop) : Prop := Fn PP 397 #[(Value.pointer g0_x), (Value.int .i64 g1_x), (Value.string g2_x)] h Q
/-- (*livery/table.rel).fill -/
def S_table_rel_fill (g0_x : Option Addr) (g1_x : Option Addr) (g2_x : Sl) (h : Hp) (Q : List Value → Hp → Prop) : Prop := Fn PP 398 #[(Value.pointer g0_x), (Value.pointer g1_x), (Value.slice g2_x.a g2_x.n g2_x.c)] h Q
/-- (*livery/index.Index).Len -/
def S_index_Index_Len (g0_x : Option Addr) (h : Hp) (Q : List Value → Hp → Prop) : Prop := Fn PP 399 #[(Value.pointer g0_x)] h Q
/-- (*livery/liveryref09.Rel).Find -/
def S_liveryref09_Rel_Find (g0_x : Option Addr) (g1_x : Int) (h : Hp) (Q : List Value → Hp → Prop) : Prop := Fn PP 400 #[(Value.pointer g0_x), (Value.int .i64 g1_x)] h Q
/-- (*livery/liveryref11.Index).Has -/
def S_liveryref11_Index_Has (g0_x : Option Addr) (g1_x_0 : Int) (g1_x_1 : Int) (g1_x_2 : Nat) (g1_x_3 : ByteArray) (g2_x : Int) (h : Hp) (Q : List Value → Hp → Prop) : Prop := Fn PP 401 #[(Value.pointer g0_x), (Value.agg #[(Value.int .i64 g1_x_0), (Value.int .i64 g1_x_1), (Value.float .f64 g1_x_2), (Value.string g1_x_3)]), (Value.int .i64 g2_x)] h Q
/-- (*livery/liveryref10.Leaves).Len -/
def S_liveryref10_Leaves_Len (g0_x : Option Addr) (h : Hp) (Q : List Value → Hp → Prop) : Prop := Fn PP 402 #[(Value.pointer g0_x)] h Q
/-- (*livery/leaf.Leaves).Len -/
def S_leaf_Leaves_Len (g0_x : Option Addr) (h : Hp) (Q : List Value → Hp → Prop) : Prop := Fn PP 403 #[(Value.pointer g0_x)] h Q
/-- (*strings.Builder).Reset -/
def S_strings_Builder_Reset (g0_x : Option Addr) (h : Hp) (Q : List Value → Hp → Prop) : Prop := Fn PP 404 #[(Value.pointer g0_x)] h Q
/-- (internal/abi.Kind).String -/
def S_internal_abi_Kind_String (g0_x : Int) (h : Hp) (Q : List Value → Hp → Prop) : Prop := Fn PP 405 #[(Value.int .u8 g0_x)] h Q
/-- (*livery/lock.queue).grant -/
def S_lock_queue_grant (g0_x : Option Addr) (h : Hp) (Q : List Value → Hp → Prop) : Prop := Fn PP 406 #[(Value.pointer g0_x)] h Q
/-- var's door: gosem.cut.vars holds initialisers alone; see the manifest's row cutvarsword (look 11, test files too) -/
def S_var_s_door_gosem_cut_vars_holds_initialisers_alone_see_the_manifest_s_row_cutvarsword_look_11_test_files_too (h : Hp) (Q : List Value → Hp → Prop) : Prop := Fn PP 407 #[] h Q
/-- var's door: the look of gosem.cut.vars went over the folder that the caller named as the repository's root (look 11) -/
def S_var_s_door_the_look_of_gosem_cut_vars_went_over_the_folder_that_the_caller_named_as_the_repository_s_root_look_11 (h : Hp) (Q : List Value → Hp → Prop) : Prop := Fn PP 408 #[] h Q
/-- var's door: unicode/utf8.acceptRanges is laid by its own initialiser, plain data (look 11) -/
def S_var_s_door_unicode_utf8_acceptRanges_is_laid_by_its_own_initialiser_plain_data_look_11 (h : Hp) (Q : List Value → Hp → Prop) : Prop := Fn PP 409 #[] h Q
/-- var's door: unicode/utf8.first is laid by its text alone (pinned 1) -/
def S_var_s_door_unicode_utf8_first_is_laid_by_its_text_alone_pinned_1 (h : Hp) (Q : List Value → Hp → Prop) : Prop := Fn PP 410 #[] h Q
/-- gosem.cut.vars -/
def S_gosem_cut_vars (h : Hp) (Q : List Value → Hp → Prop) : Prop := Fn PP 411 #[] h Q
def F_liverykeep_LargeValue (g0_v_0 : Int) (g0_v_1 : Int) (g0_v_2 : Nat) (g0_v_3 : ByteArray) (h : Hp) (Q : List Value → Hp → Prop) : Prop :=
wth (Array.push h (Obj.cells #[(Value.int .i64 g0_v_0), (Value.int .i64 g0_v_1), (Value.float .f64 g0_v_2), (Value.string g0_v_3)] T_api_Value)) fun h1 =>
∃ s2 : ByteArray, rd h1 (Addr.add (Addr.mk (Array.size h) 0 none) 3) = some (Value.string s2) ∧
Q [(Value.bool (decide ((ByteArray.size s2 : Int) > (2000 : Int))))] h1
def A_liverykeep_LargeValue : Ann := .nil
theorem E_liverykeep_LargeValue (g0_v_0 : Int) (g0_v_1 : Int) (g0_v_2 : Nat) (g0_v_3 : ByteArray) (h : Hp) (Q : List Value → Hp → Prop) : cw PP 7 (fun _ => []) (bodyOf Tryz.f8) A_liverykeep_LargeValue (finQ PP (Tryz.f8.results.toList) Q) (argFr [(Value.agg #[(Value.int .i64 g0_v_0), (Value.int .i64 g0_v_1), (Value.float .f64 g0_v_2), (Value.string g0_v_3)])]) h = F_liverykeep_LargeValue g0_v_0 g0_v_1 g0_v_2 g0_v_3 h Q := by kernel_rfl
theorem O_liverykeep_LargeValue (g0_v_0 : Int) (g0_v_1 : Int) (g0_v_2 : Nat) (g0_v_3 : ByteArray) {h : Hp} {Q : List Value → Hp → Prop} (H : F_liverykeep_LargeValue g0_v_0 g0_v_1 g0_v_2 g0_v_3 h Q) : S_liverykeep_LargeValue g0_v_0 g0_v_1 g0_v_2 g0_v_3 h Q :=
  fn_of_cw (hs := (fun _ => [])) (ann := A_liverykeep_LargeValue) (args := [(Value.agg #[(Value.int .i64 g0_v_0), (Value.int .i64 g0_v_1), (Value.float .f64 g0_v_2), (Value.string g0_v_3)])]) mixedPP Tryz.func8 (c := bodyOf Tryz.f8) (by kernel_rfl) (by kernel_rfl) (by kernel_rfl) (Eq.mpr (E_liverykeep_LargeValue g0_v_0 g0_v_1 g0_v_2 g0_v_3 h Q) H)
def F_liverykeep_LargeRow (g0_l : Sl) (h : Hp) (Q : List Value → Hp → Prop) : Prop :=
(if (decide ((g0_l.n : Int) > (50 : Int))) = true then
  (Q [(Value.bool true)] h) else
  (∀ X1 : List Value → Hp → Prop, (∀ n2 : Int, ∀ h3 : Hp, ((if (decide (n2 < (g0_l.n : Int))) = true then
          (nilW g0_l.a fun a4 => ixOk n2 g0_l.n (∃ n5 : Int, rd h3 (Addr.add (Addr.add a4 (Int.toNat n2 * 4)) 0) = some (Value.int .i64 n5) ∧ ∃ n6 : Int, rd h3 (Addr.add (Addr.add a4 (Int.toNat n2 * 4)) 1) = some (Value.int .i64 n6) ∧ ∃ x7 : Nat, rd h3 (Addr.add (Addr.add a4 (Int.toNat n2 * 4)) 2) = some (Value.float .f64 x7) ∧ ∃ s8 : ByteArray, rd h3 (Addr.add (Addr.add a4 (Int.toNat n2 * 4)) 3) = some (Value.string s8) ∧ S_liverykeep_LargeValue n5 n6 x7 s8 h3 fun (vs9 : List Value) (h10 : Hp) =>
              ∃ b11 : Bool, vs9 = [(Value.bool b11)] ∧
              (if b11 = true then
                (Q [(Value.bool true)] h10) else
                (X1 [(Value.int .i64 (IntKind.wrap .i64 (n2 + (1 : Int))))] h10)))) else
          (Q [(Value.bool false)] h3))) → X1 [(Value.int .i64 n2)] h3) →
    X1 [(Value.int .i64 (0 : Int))] h))
def A_liverykeep_LargeRow : Ann := (.mk none ⟨[], []⟩ .nil (.mk none ⟨[], []⟩ .nil (.mk none ⟨[], []⟩ (.mk none ⟨[], []⟩ .nil (.mk none ⟨[], []⟩ (.mk none ⟨[0], [(3, (.c (.int .i64)))]⟩ .nil .nil) .nil)) .nil)))
theorem E_liverykeep_LargeRow (g0_l : Sl) (h : Hp) (Q : List Value → Hp → Prop) : cw PP 18 (fun _ => []) (bodyOf Tryz.f9) A_liverykeep_LargeRow (finQ PP (Tryz.f9.results.toList) Q) (argFr [(Value.slice g0_l.a g0_l.n g0_l.c)]) h = F_liverykeep_LargeRow g0_l h Q := by kernel_rfl
theorem O_liverykeep_LargeRow (g0_l : Sl) {h : Hp} {Q : List Value → Hp → Prop} (H : F_liverykeep_LargeRow g0_l h Q) : S_liverykeep_LargeRow g0_l h Q :=
  fn_of_cw (hs := (fun _ => [])) (ann := A_liverykeep_LargeRow) (args := [(Value.slice g0_l.a g0_l.n g0_l.c)]) mixedPP Tryz.func9 (c := bodyOf Tryz.f9) (by kernel_rfl) (by kernel_rfl) (by kernel_rfl) (Eq.mpr (E_liverykeep_LargeRow g0_l h Q) H)
def F_liverykeep_LargeColumns (g0_l : Sl) (h : Hp) (Q : List Value → Hp → Prop) : Prop :=
(if (decide ((g0_l.n : Int) > (50 : Int))) = true then
  (Q [(Value.bool true)] h) else
  (∀ X1 : List Value → Hp → Prop, (∀ n2 : Int, ∀ h3 : Hp, ((if (decide (n2 < (g0_l.n : Int))) = true then
          (∀ J4 : List Value → Hp → Prop, (∀ b5 : Bool, ∀ h6 : Hp, ((if b5 = true then
                  (Q [(Value.bool true)] h6) else
                  (X1 [(Value.int .i64 (IntKind.wrap .i64 (n2 + (1 : Int))))] h6))) → J4 [(Value.bool b5)] h6) →
            nilW g0_l.a fun a7 => ixOk n2 g0_l.n (∃ s8 : ByteArray, rd h3 (Addr.add (Addr.add a7 (Int.toNat n2 * 7)) 0) = some (Value.string s8) ∧
              (if (decide ((ByteArray.size s8 : Int) > (1000 : Int))) = true then (J4 [(Value.bool true)] h3) else
                (nilW g0_l.a fun a9 => ixOk n2 g0_l.n (∃ n10 : Int, rd h3 (Addr.add (Addr.add (Addr.add a9 (Int.toNat n2 * 7)) 3) 0) = some (Value.int .i64 n10) ∧ ∃ n11 : Int, rd h3 (Addr.add (Addr.add (Addr.add a9 (Int.toNat n2 * 7)) 3) 1) = some (Value.int .i64 n11) ∧ ∃ x12 : Nat, rd h3 (Addr.add (Addr.add (Addr.add a9 (Int.toNat n2 * 7)) 3) 2) = some (Value.float .f64 x12) ∧ ∃ s13 : ByteArray, rd h3 (Addr.add (Addr.add (Addr.add a9 (Int.toNat n2 * 7)) 3) 3) = some (Value.string s13) ∧ S_liverykeep_LargeValue n10 n11 x12 s13 h3 fun (vs14 : List Value) (h15 : Hp) =>
                    ∃ b16 : Bool, vs14 = [(Value.bool b16)] ∧
                    J4 [(Value.bool b16)] h15))))) else
          (Q [(Value.bool false)] h3))) → X1 [(Value.int .i64 n2)] h3) →
    X1 [(Value.int .i64 (0 : Int))] h))
def A_liverykeep_LargeColumns : Ann := (.mk none ⟨[], []⟩ .nil (.mk none ⟨[], []⟩ .nil (.mk none ⟨[], []⟩ (.mk none ⟨[], []⟩ .nil (.mk none ⟨[], []⟩ (.mk none ⟨[0], [(3, (.c (.int .i64)))]⟩ (.mk none ⟨[], []⟩ .nil (.mk none ⟨[], []⟩ (.mk none ⟨[], []⟩ (.mk none ⟨[], []⟩ (.mk (some ⟨[0, 3], [(27, (.c .bool))]⟩) ⟨[], []⟩ .nil .nil) .nil) .nil) .nil)) .nil) .nil)) .nil)))
theorem E_liverykeep_LargeColumns (g0_l : Sl) (h : Hp) (Q : List Value → Hp → Prop) : cw PP 28 (fun _ => []) (bodyOf Tryz.f10) A_liverykeep_LargeColumns (finQ PP (Tryz.f10.results.toList) Q) (argFr [(Value.slice g0_l.a g0_l.n g0_l.c)]) h = F_liverykeep_LargeColumns g0_l h Q := by kernel_rfl
theorem O_liverykeep_LargeColumns (g0_l : Sl) {h : Hp} {Q : List Value → Hp → Prop} (H : F_liverykeep_LargeColumns g0_l h Q) : S_liverykeep_LargeColumns g0_l h Q :=
  fn_of_cw (hs := (fun _ => [])) (ann := A_liverykeep_LargeColumns) (args := [(Value.slice g0_l.a g0_l.n g0_l.c)]) mixedPP Tryz.func10 (c := bodyOf Tryz.f10) (by kernel_rfl) (by kernel_rfl) (by kernel_rfl) (Eq.mpr (E_liverykeep_LargeColumns g0_l h Q) H)
def F_liverykeep_LargeStmt (g0_s_0 : Int) (g0_s_1 : ByteArray) (g0_s_2 : ByteArray) (g0_s_3 : ByteArray) (g0_s_4 : ByteArray) (g0_s_5 : Int) (g0_s_6 : Int) (g0_s_7 : Nat) (g0_s_8 : ByteArray) (g0_s_9 : Int) (g0_s_10 : Int) (g0_s_11 : Nat) (g0_s_12 : ByteArray) (g0_s_13 : Sl) (g0_s_14 : Sl) (g0_s_15 : Bool) (h : Hp) (Q : List Value → Hp → Prop) : Prop :=
wth (Array.push h (Obj.cells #[(Value.int .i64 g0_s_0), (Value.string g0_s_1), (Value.string g0_s_2), (Value.string g0_s_3), (Value.string g0_s_4), (Value.int .i64 g0_s_5), (Value.int .i64 g0_s_6), (Value.float .f64 g0_s_7), (Value.string g0_s_8), (Value.int .i64 g0_s_9), (Value.int .i64 g0_s_10), (Value.float .f64 g0_s_11), (Value.string g0_s_12), (Value.slice g0_s_13.a g0_s_13.n g0_s_13.c), (Value.slice g0_s_14.a g0_s_14.n g0_s_14.c), (Value.bool g0_s_15)] T_api_Stmt)) fun h1 =>
∃ s2 : ByteArray, rd h1 (Addr.add (Addr.mk (Array.size h) 0 none) 1) = some (Value.string s2) ∧
(if (decide ((ByteArray.size s2 : Int) > (1000 : Int))) = true then (Q [(Value.bool true)] h1) else
  (∃ s3 : ByteArray, rd h1 (Addr.add (Addr.mk (Array.size h) 0 none) 2) = some (Value.string s3) ∧
    (if (decide ((ByteArray.size s3 : Int) > (1000 : Int))) = true then (Q [(Value.bool true)] h1) else
      (∃ s4 : ByteArray, rd h1 (Addr.add (Addr.mk (Array.size h) 0 none) 3) = some (Value.string s4) ∧
        (if (decide ((ByteArray.size s4 : Int) > (1000 : Int))) = true then (Q [(Value.bool true)] h1) else
          (∃ s5 : ByteArray, rd h1 (Addr.add (Addr.mk (Array.size h) 0 none) 4) = some (Value.string s5) ∧
            (if (decide ((ByteArray.size s5 : Int) > (1000 : Int))) = true then (Q [(Value.bool true)] h1) else
              (∃ n6 : Int, rd h1 (Addr.add (Addr.add (Addr.mk (Array.size h) 0 none) 5) 0) = some (Value.int .i64 n6) ∧ ∃ n7 : Int, rd h1 (Addr.add (Addr.add (Addr.mk (Array.size h) 0 none) 5) 1) = some (Value.int .i64 n7) ∧ ∃ x8 : Nat, rd h1 (Addr.add (Addr.add (Addr.mk (Array.size h) 0 none) 5) 2) = some (Value.float .f64 x8) ∧ ∃ s9 : ByteArray, rd h1 (Addr.add (Addr.add (Addr.mk (Array.size h) 0 none) 5) 3) = some (Value.string s9) ∧ S_liverykeep_LargeValue n6 n7 x8 s9 h1 fun (vs10 : List Value) (h11 : Hp) =>
                ∃ b12 : Bool, vs10 = [(Value.bool b12)] ∧
                (if b12 = true then (Q [(Value.bool true)] h11) else
                  (∃ n13 : Int, rd h11 (Addr.add (Addr.add (Addr.mk (Array.size h) 0 none) 9) 0) = some (Value.int .i64 n13) ∧ ∃ n14 : Int, rd h11 (Addr.add (Addr.add (Addr.mk (Array.size h) 0 none) 9) 1) = some (Value.int .i64 n14) ∧ ∃ x15 : Nat, rd h11 (Addr.add (Addr.add (Addr.mk (Array.size h) 0 none) 9) 2) = some (Value.float .f64 x15) ∧ ∃ s16 : ByteArray, rd h11 (Addr.add (Addr.add (Addr.mk (Array.size h) 0 none) 9) 3) = some (Value.string s16) ∧ S_liverykeep_LargeValue n13 n14 x15 s16 h11 fun (vs17 : List Value) (h18 : Hp) =>
                    ∃ b19 : Bool, vs17 = [(Value.bool b19)] ∧
                    (if b19 = true then (Q [(Value.bool true)] h18) else
                      (∃ l20 : Sl, rd h18 (Addr.add (Addr.mk (Array.size h) 0 none) 13) = some (Value.slice l20.a l20.n l20.c) ∧
                        S_liverykeep_LargeRow ⟨l20.a, l20.n, l20.c⟩ h18 fun (vs21 : List Value) (h22 : Hp) =>
                        ∃ b23 : Bool, vs21 = [(Value.bool b23)] ∧
                        (if b23 = true then (Q [(Value.bool true)] h22) else
                          (∃ l24 : Sl, rd h22 (Addr.add (Addr.mk (Array.size h) 0 none) 14) = some (Value.slice l24.a l24.n l24.c) ∧
                            S_liverykeep_LargeColumns ⟨l24.a, l24.n, l24.c⟩ h22 fun (vs25 : List Value) (h26 : Hp) =>
                            ∃ b27 : Bool, vs25 = [(Value.bool b27)] ∧
                            Q [(Value.bool b27)] h26))))))))))))))
def A_liverykeep_LargeStmt : Ann := .nil
theorem E_liverykeep_LargeStmt (g0_s_0 : Int) (g0_s_1 : ByteArray) (g0_s_2 : ByteArray) (g0_s_3 : ByteArray) (g0_s_4 : ByteArray) (g0_s_5 : Int) (g0_s_6 : Int) (g0_s_7 : Nat) (g0_s_8 : ByteArray) (g0_s_9 : Int) (g0_s_10 : Int) (g0_s_11 : Nat) (g0_s_12 : ByteArray) (g0_s_13 : Sl) (g0_s_14 : Sl) (g0_s_15 : Bool) (h : Hp) (Q : List Value → Hp → Prop) : cw PP 45 (fun _ => []) (bodyOf Tryz.f4) A_liverykeep_LargeStmt (finQ PP (Tryz.f4.results.toList) Q) (argFr [(Value.agg #[(Value.int .i64 g0_s_0), (Value.string g0_s_1), (Value.string g0_s_2), (Value.string g0_s_3), (Value.string g0_s_4), (Value.int .i64 g0_s_5), (Value.int .i64 g0_s_6), (Value.float .f64 g0_s_7), (Value.string g0_s_8), (Value.int .i64 g0_s_9), (Value.int .i64 g0_s_10), (Value.float .f64 g0_s_11), (Value.string g0_s_12), (Value.slice g0_s_13.a g0_s_13.n g0_s_13.c), (Value.slice g0_s_14.a g0_s_14.n g0_s_14.c), (Value.bool g0_s_15)])]) h = F_liverykeep_LargeStmt g0_s_0 g0_s_1 g0_s_2 g0_s_3 g0_s_4 g0_s_5 g0_s_6 g0_s_7 g0_s_8 g0_s_9 g0_s_10 g0_s_11 g0_s_12 g0_s_13 g0_s_14 g0_s_15 h Q := by kernel_rfl
theorem O_liverykeep_LargeStmt (g0_s_0 : Int) (g0_s_1 : ByteArray) (g0_s_2 : ByteArray) (g0_s_3 : ByteArray) (g0_s_4 : ByteArray) (g0_s_5 : Int) (g0_s_6 : Int) (g0_s_7 : Nat) (g0_s_8 : ByteArray) (g0_s_9 : Int) (g0_s_10 : Int) (g0_s_11 : Nat) (g0_s_12 : ByteArray) (g0_s_13 : Sl) (g0_s_14 : Sl) (g0_s_15 : Bool) {h : Hp} {Q : List Value → Hp → Prop} (H : F_liverykeep_LargeStmt g0_s_0 g0_s_1 g0_s_2 g0_s_3 g0_s_4 g0_s_5 g0_s_6 g0_s_7 g0_s_8 g0_s_9 g0_s_10 g0_s_11 g0_s_12 g0_s_13 g0_s_14 g0_s_15 h Q) : S_liverykeep_LargeStmt g0_s_0 g0_s_1 g0_s_2 g0_s_3 g0_s_4 g0_s_5 g0_s_6 g0_s_7 g0_s_8 g0_s_9 g0_s_10 g0_s_11 g0_s_12 g0_s_13 g0_s_14 g0_s_15 h Q :=
  fn_of_cw (hs := (fun _ => [])) (ann := A_liverykeep_LargeStmt) (args := [(Value.agg #[(Value.int .i64 g0_s_0), (Value.string g0_s_1), (Value.string g0_s_2), (Value.string g0_s_3), (Value.string g0_s_4), (Value.int .i64 g0_s_5), (Value.int .i64 g0_s_6), (Value.float .f64 g0_s_7), (Value.string g0_s_8), (Value.int .i64 g0_s_9), (Value.int .i64 g0_s_10), (Value.float .f64 g0_s_11), (Value.string g0_s_12), (Value.slice g0_s_13.a g0_s_13.n g0_s_13.c), (Value.slice g0_s_14.a g0_s_14.n g0_s_14.c), (Value.bool g0_s_15)])]) mixedPP Tryz.func4 (c := bodyOf Tryz.f4) (by kernel_rfl) (by kernel_rfl) (by kernel_rfl) (Eq.mpr (E_liverykeep_LargeStmt g0_s_0 g0_s_1 g0_s_2 g0_s_3 g0_s_4 g0_s_5 g0_s_6 g0_s_7 g0_s_8 g0_s_9 g0_s_10 g0_s_11 g0_s_12 g0_s_13 g0_s_14 g0_s_15 h Q) H)
def F_write_told (g0_err : Int) (g1_who : Int) (h : Hp) (Q : List Value → Hp → Prop) : Prop :=
wth (Array.push h (Obj.cells #[(Value.int .i64 (0 : Int)), (Value.int .i64 (0 : Int)), (Value.slice none 0 0)] T_api_Reply)) fun h1 =>
stOk h1 (Addr.mk (Array.size h) 0 none) 3 ∧ wth (wrs h1 (Addr.mk (Array.size h) 0 none) 0 [(Value.int .i64 g0_err), (Value.int .i64 (0 : Int)), (Value.slice none 0 0)]) fun h2 =>
∃ n3 : Int, rd h2 (Addr.add (Addr.mk (Array.size h) 0 none) 0) = some (Value.int .i64 n3) ∧ ∃ n4 : Int, rd h2 (Addr.add (Addr.mk (Array.size h) 0 none) 1) = some (Value.int .i64 n4) ∧ ∃ l5 : Sl, rd h2 (Addr.add (Addr.mk (Array.size h) 0 none) 2) = some (Value.slice l5.a l5.n l5.c) ∧ Q [(Value.agg #[(Value.int .i64 n3), (Value.int .i64 n4), (Value.slice l5.a l5.n l5.c)]), (Value.int .i64 g1_who)] h2
def A_write_told : Ann := .nil
theorem E_write_told (g0_err : Int) (g1_who : Int) (h : Hp) (Q : List Value → Hp → Prop) : cw PP 9 (fun _ => []) (bodyOf Tryz.f19) A_write_told (finQ PP (Tryz.f19.results.toList) Q) (argFr [(Value.int .i64 g0_err), (Value.int .i64 g1_who)]) h = F_write_told g0_err g1_who h Q := by kernel_rfl
theorem O_write_told (g0_err : Int) (g1_who : Int) {h : Hp} {Q : List Value → Hp → Prop} (H : F_write_told g0_err g1_who h Q) : S_write_told g0_err g1_who h Q :=
  fn_of_cw (hs := (fun _ => [])) (ann := A_write_told) (args := [(Value.int .i64 g0_err), (Value.int .i64 g1_who)]) mixedPP Tryz.func19 (c := bodyOf Tryz.f19) (by kernel_rfl) (by kernel_rfl) (by kernel_rfl) (Eq.mpr (E_write_told g0_err g1_who h Q) H)
def F_write_May (g0_s : Option Addr) (g1_xid : Int) (g2_rel : Int) (g3_cols : Sl) (g4_r : Sl) (g5_but : Sl) (h : Hp) (Q : List Value → Hp → Prop) : Prop :=
∀ J1 : List Value → Hp → Prop, (∀ b2 : Bool, ∀ h3 : Hp, ((if b2 = true then
      (Q [(Value.int .i64 (1 : Int)), (Value.int .i64 (0 : Int))] h3) else
      (S_write_unique g0_s g1_xid g2_rel h3 fun (vs4 : List Value) (h5 : Hp) =>
        ∃ l6 : Sl, vs4 = [(Value.slice l6.a l6.n l6.c)] ∧
        ∀ X7 : List Value → Hp → Prop, (∀ n8 : Int, ∀ h9 : Hp, ((if (decide (n8 < (l6.n : Int))) = true then
              (∀ J10 : List Value → Hp → Prop, (∀ h11 : Hp, (X7 [(Value.int .i64 (IntKind.wrap .i64 (n8 + (1 : Int))))] h11) → J10 [] h11) →
                nilW l6.a fun a12 => ixOk n8 l6.n (∃ s13 : ByteArray, rd h9 (Addr.add (Addr.add a12 (Int.toNat n8 * 6)) 0) = some (Value.string s13) ∧ ∃ s14 : ByteArray, rd h9 (Addr.add (Addr.add a12 (Int.toNat n8 * 6)) 1) = some (Value.string s14) ∧ ∃ b15 : Bool, rd h9 (Addr.add (Addr.add a12 (Int.toNat n8 * 6)) 2) = some (Value.bool b15) ∧ ∃ n16 : Int, rd h9 (Addr.add (Addr.add a12 (Int.toNat n8 * 6)) 3) = some (Value.int .i64 n16) ∧ ∃ n17 : Int, rd h9 (Addr.add (Addr.add a12 (Int.toNat n8 * 6)) 4) = some (Value.int .i64 n17) ∧ ∃ n18 : Int, rd h9 (Addr.add (Addr.add a12 (Int.toNat n8 * 6)) 5) = some (Value.int .i64 n18) ∧ wth (Array.push h9 (Obj.cells #[(Value.string (ByteArray.mk #[])), (Value.string (ByteArray.mk #[])), (Value.bool false), (Value.int .i64 (0 : Int)), (Value.int .i64 (0 : Int)), (Value.int .i64 (0 : Int))] T_table_Index)) fun h19 =>
                  stOk h19 (Addr.mk (Array.size h9) 0 none) 6 ∧ wth (wrs h19 (Addr.mk (Array.size h9) 0 none) 0 [(Value.string s13), (Value.string s14), (Value.bool b15), (Value.int .i64 n16), (Value.int .i64 n17), (Value.int .i64 n18)]) fun h20 =>
                  ∃ s21 : ByteArray, rd h20 (Addr.add (Addr.add (Addr.mk (Array.size h9) 0 none) 0) 1) = some (Value.string s21) ∧
                  S_row_Find ⟨g3_cols.a, g3_cols.n, g3_cols.c⟩ s21 h20 fun (vs22 : List Value) (h23 : Hp) =>
                  ∃ n24 : Int, vs22 = [(Value.int .i64 n24)] ∧
                  ∀ J25 : List Value → Hp → Prop, (∀ b26 : Bool, ∀ h27 : Hp, ((if b26 = true then
                        (J10 [] h27) else
                        (∃ s28 : ByteArray, rd h27 (Addr.add (Addr.add (Addr.mk (Array.size h9) 0 none) 0) 0) = some (Value.string s28) ∧
                          nilW g4_r.a fun a29 => ixOk n24 g4_r.n (∃ n30 : Int, rd h27 (Addr.add (Addr.add a29 (Int.toNat n24 * 4)) 0) = some (Value.int .i64 n30) ∧ ∃ n31 : Int, rd h27 (Addr.add (Addr.add a29 (Int.toNat n24 * 4)) 1) = some (Value.int .i64 n31) ∧ ∃ x32 : Nat, rd h27 (Addr.add (Addr.add a29 (Int.toNat n24 * 4)) 2) = some (Value.float .f64 x32) ∧ ∃ s33 : ByteArray, rd h27 (Addr.add (Addr.add a29 (Int.toNat n24 * 4)) 3) = some (Value.string s33) ∧ S_table_Store_Find g0_s g2_rel s28 n30 n31 x32 s33 h27 fun (vs34 : List Value) (h35 : Hp) =>
                            ∃ l36 : Sl, ∃ l37 : Sl, vs34 = [(Value.slice l36.a l36.n l36.c), (Value.slice l37.a l37.n l37.c)] ∧
                            ∀ X38 : List Value → Hp → Prop, (∀ n39 : Int, ∀ h40 : Hp, ((if (decide (n39 < (l36.n : Int))) = true then
                                  (∀ J41 : List Value → Hp → Prop, (∀ h42 : Hp, (X38 [(Value.int .i64 (IntKind.wrap .i64 (n39 + (1 : Int))))] h42) → J41 [] h42) →
                                    nilW l36.a fun a43 => ixOk n39 l36.n (∃ n44 : Int, rd h40 (Addr.add a43 (Int.toNat n39 * 1)) = some (Value.int .i64 n44) ∧
                                      S_slices_Contains_sint_int ⟨g5_but.a, g5_but.n, g5_but.c⟩ n44 h40 fun (vs45 : List Value) (h46 : Hp) =>
                                      ∃ b47 : Bool, vs45 = [(Value.bool b47)] ∧
                                      (if b47 = true then
                                        (J41 [] h46) else
                                        (S_table_Store_Rel g0_s g2_rel h46 fun (vs48 : List Value) (h49 : Hp) =>
                                          ∃ p50 : Option Addr, vs48 = [(Value.pointer p50)] ∧
                                          S_heap_Rel_Get p50 n44 h49 fun (vs51 : List Value) (h52 : Hp) =>
                                          ∃ n53 : Int, ∃ n54 : Int, ∃ l55 : Sl, ∃ b56 : Bool, vs51 = [(Value.agg #[(Value.int .i64 n53), (Value.int .i64 n54), (Value.slice l55.a l55.n l55.c)]), (Value.bool b56)] ∧
                                          wth (Array.push h52 (Obj.cells #[(Value.int .i64 (0 : Int)), (Value.int .i64 (0 : Int)), (Value.slice none 0 0)] T_api_Tuple)) fun h57 =>
                                          stOk h57 (Addr.mk (Array.size h52) 0 none) 3 ∧ wth (wrs h57 (Addr.mk (Array.size h52) 0 none) 0 [(Value.int .i64 n53), (Value.int .i64 n54), (Value.slice l55.a l55.n l55.c)]) fun h58 =>
                                          ∃ n59 : Int, rd h58 (Addr.add (Addr.mk (Array.size h52) 0 none) 0) = some (Value.int .i64 n59) ∧ ∃ n60 : Int, rd h58 (Addr.add (Addr.mk (Array.size h52) 0 none) 1) = some (Value.int .i64 n60) ∧ ∃ l61 : Sl, rd h58 (Addr.add (Addr.mk (Array.size h52) 0 none) 2) = some (Value.slice l61.a l61.n l61.c) ∧ S_table_Store_Log g0_s h58 fun (vs62 : List Value) (h63 : Hp) =>
                                          ∃ p64 : Option Addr, vs62 = [(Value.pointer p64)] ∧
                                          rd h63 (Addr.add (Addr.mk (Array.size h52) 0 none) 0) = some (Value.int .i64 n59) ∧ rd h63 (Addr.add (Addr.mk (Array.size h52) 0 none) 1) = some (Value.int .i64 n60) ∧ rd h63 (Addr.add (Addr.mk (Array.size h52) 0 none) 2) = some (Value.slice l61.a l61.n l61.c) ∧ S_write_bars p64 g1_xid n59 n60 ⟨l61.a, l61.n, l61.c⟩ h63 fun (vs65 : List Value) (h66 : Hp) =>
                                          ∃ n67 : Int, ∃ n68 : Int, ∃ b69 : Bool, vs65 = [(Value.int .i64 n67), (Value.int .i64 n68), (Value.bool b69)] ∧
                                          (if b69 = true then
                                            (Q [(Value.int .i64 n67), (Value.int .i64 n68)] h66) else
                                            (J41 [] h66)))))) else
                                  (J10 [] h40))) → X38 [(Value.int .i64 n39)] h40) →
                            X38 [(Value.int .i64 (0 : Int))] h35)))) → J25 [(Value.bool b26)] h27) →
                  (if (decide (n24 < (0 : Int))) = true then (J25 [(Value.bool true)] h23) else
                    ((if (decide (n24 ≥ (g4_r.n : Int))) = true then (J25 [(Value.bool true)] h23) else
                        (nilW g4_r.a fun a70 => ixOk n24 g4_r.n (∃ n71 : Int, rd h23 (Addr.add (Addr.add a70 (Int.toNat n24 * 4)) 0) = some (Value.int .i64 n71) ∧
                            J25 [(Value.bool (n71 == (0 : Int)))] h23))))))) else
              (Q [(Value.int .i64 (0 : Int)), (Value.int .i64 (0 : Int))] h9))) → X7 [(Value.int .i64 n8)] h9) →
        X7 [(Value.int .i64 (0 : Int))] h5))) → J1 [(Value.bool b2)] h3) →
(if (Option.isNone g0_s) = true then (J1 [(Value.bool true)] h) else
  (S_table_Store_Rel g0_s g2_rel h fun (vs72 : List Value) (h73 : Hp) =>
    ∃ p74 : Option Addr, vs72 = [(Value.pointer p74)] ∧
    J1 [(Value.bool (Option.isNone p74))] h73))
def A_write_May : Ann := (.mk none ⟨[], []⟩ .nil (.mk none ⟨[], []⟩ (.mk none ⟨[], []⟩ (.mk (some ⟨[0, 1, 2, 3, 4, 5], [(33, (.c .bool))]⟩) ⟨[], []⟩ .nil .nil) .nil) (.mk none ⟨[], []⟩ (.mk none ⟨[], []⟩ .nil (.mk none ⟨[], []⟩ (.mk none ⟨[0, 1, 2, 3, 4, 5, 37, 38], [(39, (.c (.int .i64)))]⟩ (.mk none ⟨[], []⟩ .nil (.mk none ⟨[], []⟩ .nil (.mk none ⟨[], []⟩ (.mk (some ⟨[0, 1, 2, 3, 4, 5, 37, 38, 39], []⟩) ⟨[], []⟩ (.mk none ⟨[], []⟩ .nil (.mk none ⟨[], []⟩ (.mk none ⟨[], []⟩ .nil (.mk none ⟨[], []⟩ (.mk none ⟨[], []⟩ (.mk (some ⟨[0, 1, 2, 3, 4, 5, 15, 16, 37, 38, 39], [(63, (.c .bool))]⟩) ⟨[], []⟩ .nil .nil) .nil) (.mk none ⟨[], []⟩ .nil (.mk none ⟨[], []⟩ .nil (.mk none ⟨[], []⟩ .nil (.mk none ⟨[], []⟩ (.mk none ⟨[0, 1, 2, 3, 4, 5, 37, 38, 39, 77, 78], [(79, (.c (.int .i64)))]⟩ (.mk none ⟨[], []⟩ .nil (.mk none ⟨[], []⟩ .nil (.mk none ⟨[], []⟩ (.mk (some ⟨[0, 1, 2, 3, 4, 5, 37, 38, 39, 77, 78, 79], []⟩) ⟨[], []⟩ .nil .nil) .nil))) .nil) .nil)))))) .nil)) .nil) .nil))) .nil) .nil)) .nil)))
theorem E_write_May (g0_s : Option Addr) (g1_xid : Int) (g2_rel : Int) (g3_cols : Sl) (g4_r : Sl) (g5_but : Sl) (h : Hp) (Q : List Value → Hp → Prop) : cw PP 108 (fun _ => []) (bodyOf Tryz.f7) A_write_May (finQ PP (Tryz.f7.results.toList) Q) (argFr [(Value.pointer g0_s), (Value.int .i64 g1_xid), (Value.int .i64 g2_rel), (Value.slice g3_cols.a g3_cols.n g3_cols.c), (Value.slice g4_r.a g4_r.n g4_r.c), (Value.slice g5_but.a g5_but.n g5_but.c)]) h = F_write_May g0_s g1_xid g2_rel g3_cols g4_r g5_but h Q := by kernel_rfl
theorem O_write_May (g0_s : Option Addr) (g1_xid : Int) (g2_rel : Int) (g3_cols : Sl) (g4_r : Sl) (g5_but : Sl) {h : Hp} {Q : List Value → Hp → Prop} (H : F_write_May g0_s g1_xid g2_rel g3_cols g4_r g5_but h Q) : S_write_May g0_s g1_xid g2_rel g3_cols g4_r g5_but h Q :=
  fn_of_cw (hs := (fun _ => [])) (ann := A_write_May) (args := [(Value.pointer g0_s), (Value.int .i64 g1_xid), (Value.int .i64 g2_rel), (Value.slice g3_cols.a g3_cols.n g3_cols.c), (Value.slice g4_r.a g4_r.n g4_r.c), (Value.slice g5_but.a g5_but.n g5_but.c)]) mixedPP Tryz.func7 (c := bodyOf Tryz.f7) (by kernel_rfl) (by kernel_rfl) (by kernel_rfl) (Eq.mpr (E_write_May g0_s g1_xid g2_rel g3_cols g4_r g5_but h Q) H)
def F_write_Do (g0_s : Option Addr) (g1_xid : Int) (g2_x_0 : Int) (g2_x_1 : ByteArray) (g2_x_2 : ByteArray) (g2_x_3 : ByteArray) (g2_x_4 : ByteArray) (g2_x_5 : Int) (g2_x_6 : Int) (g2_x_7 : Nat) (g2_x_8 : ByteArray) (g2_x_9 : Int) (g2_x_10 : Int) (g2_x_11 : Nat) (g2_x_12 : ByteArray) (g2_x_13 : Sl) (g2_x_14 : Sl) (g2_x_15 : Bool) (h : Hp) (Q : List Value → Hp → Prop) : Prop :=
wth (Array.push h (Obj.cells #[(Value.int .i64 g2_x_0), (Value.string g2_x_1), (Value.string g2_x_2), (Value.string g2_x_3), (Value.string g2_x_4), (Value.int .i64 g2_x_5), (Value.int .i64 g2_x_6), (Value.float .f64 g2_x_7), (Value.string g2_x_8), (Value.int .i64 g2_x_9), (Value.int .i64 g2_x_10), (Value.float .f64 g2_x_11), (Value.string g2_x_12), (Value.slice g2_x_13.a g2_x_13.n g2_x_13.c), (Value.slice g2_x_14.a g2_x_14.n g2_x_14.c), (Value.bool g2_x_15)] T_api_Stmt)) fun h1 =>
wth (Array.push h1 (Obj.cells #[(Value.int .i64 (0 : Int)), (Value.int .i64 (0 : Int)), (Value.slice none 0 0)] T_api_Reply)) fun h2 =>
(if (Option.isNone g0_s) = true then
  (S_write_told (1 : Int) (0 : Int) h2 fun (vs3 : List Value) (h4 : Hp) =>
    ∃ n5 : Int, ∃ n6 : Int, ∃ l7 : Sl, ∃ n8 : Int, vs3 = [(Value.agg #[(Value.int .i64 n5), (Value.int .i64 n6), (Value.slice l7.a l7.n l7.c)]), (Value.int .i64 n8)] ∧
    stOk h4 (Addr.mk (Array.size h1) 0 none) 3 ∧ wth (wrs h4 (Addr.mk (Array.size h1) 0 none) 0 [(Value.int .i64 n5), (Value.int .i64 n6), (Value.slice l7.a l7.n l7.c)]) fun h9 =>
    ∃ n10 : Int, rd h9 (Addr.add (Addr.mk (Array.size h1) 0 none) 0) = some (Value.int .i64 n10) ∧ ∃ n11 : Int, rd h9 (Addr.add (Addr.mk (Array.size h1) 0 none) 1) = some (Value.int .i64 n11) ∧ ∃ l12 : Sl, rd h9 (Addr.add (Addr.mk (Array.size h1) 0 none) 2) = some (Value.slice l12.a l12.n l12.c) ∧ Q [(Value.agg #[(Value.int .i64 n10), (Value.int .i64 n11), (Value.slice l12.a l12.n l12.c)]), (Value.int .i64 n8)] h9) else
  (∀ J13 : List Value → Hp → Prop, (∀ b14 : Bool, ∀ h15 : Hp, ((if b14 = true then
          (S_write_told (11 : Int) (0 : Int) h15 fun (vs16 : List Value) (h17 : Hp) =>
            ∃ n18 : Int, ∃ n19 : Int, ∃ l20 : Sl, ∃ n21 : Int, vs16 = [(Value.agg #[(Value.int .i64 n18), (Value.int .i64 n19), (Value.slice l20.a l20.n l20.c)]), (Value.int .i64 n21)] ∧
            stOk h17 (Addr.mk (Array.size h1) 0 none) 3 ∧ wth (wrs h17 (Addr.mk (Array.size h1) 0 none) 0 [(Value.int .i64 n18), (Value.int .i64 n19), (Value.slice l20.a l20.n l20.c)]) fun h22 =>
            ∃ n23 : Int, rd h22 (Addr.add (Addr.mk (Array.size h1) 0 none) 0) = some (Value.int .i64 n23) ∧ ∃ n24 : Int, rd h22 (Addr.add (Addr.mk (Array.size h1) 0 none) 1) = some (Value.int .i64 n24) ∧ ∃ l25 : Sl, rd h22 (Addr.add (Addr.mk (Array.size h1) 0 none) 2) = some (Value.slice l25.a l25.n l25.c) ∧ Q [(Value.agg #[(Value.int .i64 n23), (Value.int .i64 n24), (Value.slice l25.a l25.n l25.c)]), (Value.int .i64 n21)] h22) else
          (∃ s26 : ByteArray, rd h15 (Addr.add (Addr.mk (Array.size h) 0 none) 1) = some (Value.string s26) ∧
            S_read_Open g0_s g1_xid s26 h15 fun (vs27 : List Value) (h28 : Hp) =>
            ∃ s29 : ByteArray, ∃ l30 : Sl, ∃ n31 : Int, ∃ b32 : Bool, vs27 = [(Value.agg #[(Value.string s29), (Value.slice l30.a l30.n l30.c), (Value.int .i64 n31)]), (Value.bool b32)] ∧
            wth (Array.push h28 (Obj.cells #[(Value.string (ByteArray.mk #[])), (Value.slice none 0 0), (Value.int .i64 (0 : Int))] T_api_Table)) fun h33 =>
            stOk h33 (Addr.mk (Array.size h28) 0 none) 3 ∧ wth (wrs h33 (Addr.mk (Array.size h28) 0 none) 0 [(Value.string s29), (Value.slice l30.a l30.n l30.c), (Value.int .i64 n31)]) fun h34 =>
            (if (!b32) = true then
              (S_write_told (60 : Int) (0 : Int) h34 fun (vs35 : List Value) (h36 : Hp) =>
                ∃ n37 : Int, ∃ n38 : Int, ∃ l39 : Sl, ∃ n40 : Int, vs35 = [(Value.agg #[(Value.int .i64 n37), (Value.int .i64 n38), (Value.slice l39.a l39.n l39.c)]), (Value.int .i64 n40)] ∧
                stOk h36 (Addr.mk (Array.size h1) 0 none) 3 ∧ wth (wrs h36 (Addr.mk (Array.size h1) 0 none) 0 [(Value.int .i64 n37), (Value.int .i64 n38), (Value.slice l39.a l39.n l39.c)]) fun h41 =>
                ∃ n42 : Int, rd h41 (Addr.add (Addr.mk (Array.size h1) 0 none) 0) = some (Value.int .i64 n42) ∧ ∃ n43 : Int, rd h41 (Addr.add (Addr.mk (Array.size h1) 0 none) 1) = some (Value.int .i64 n43) ∧ ∃ l44 : Sl, rd h41 (Addr.add (Addr.mk (Array.size h1) 0 none) 2) = some (Value.slice l44.a l44.n l44.c) ∧ Q [(Value.agg #[(Value.int .i64 n42), (Value.int .i64 n43), (Value.slice l44.a l44.n l44.c)]), (Value.int .i64 n40)] h41) else
              (∃ n45 : Int, rd h34 (Addr.add (Addr.mk (Array.size h) 0 none) 0) = some (Value.int .i64 n45) ∧
                (if (n45 == (4 : Int)) = true then
                  (∃ s46 : ByteArray, rd h34 (Addr.add (Addr.mk (Array.size h28) 0 none) 0) = some (Value.string s46) ∧ ∃ l47 : Sl, rd h34 (Addr.add (Addr.mk (Array.size h28) 0 none) 1) = some (Value.slice l47.a l47.n l47.c) ∧ ∃ n48 : Int, rd h34 (Addr.add (Addr.mk (Array.size h28) 0 none) 2) = some (Value.int .i64 n48) ∧ ∃ n49 : Int, rd h34 (Addr.add (Addr.mk (Array.size h) 0 none) 0) = some (Value.int .i64 n49) ∧ ∃ s50 : ByteArray, rd h34 (Addr.add (Addr.mk (Array.size h) 0 none) 1) = some (Value.string s50) ∧ ∃ s51 : ByteArray, rd h34 (Addr.add (Addr.mk (Array.size h) 0 none) 2) = some (Value.string s51) ∧ ∃ s52 : ByteArray, rd h34 (Addr.add (Addr.mk (Array.size h) 0 none) 3) = some (Value.string s52) ∧ ∃ s53 : ByteArray, rd h34 (Addr.add (Addr.mk (Array.size h) 0 none) 4) = some (Value.string s53) ∧ ∃ n54 : Int, rd h34 (Addr.add (Addr.mk (Array.size h) 0 none) 5) = some (Value.int .i64 n54) ∧ ∃ n55 : Int, rd h34 (Addr.add (Addr.mk (Array.size h) 0 none) 6) = some (Value.int .i64 n55) ∧ ∃ x56 : Nat, rd h34 (Addr.add (Addr.mk (Array.size h) 0 none) 7) = some (Value.float .f64 x56) ∧ ∃ s57 : ByteArray, rd h34 (Addr.add (Addr.mk (Array.size h) 0 none) 8) = some (Value.string s57) ∧ ∃ n58 : Int, rd h34 (Addr.add (Addr.mk (Array.size h) 0 none) 9) = some (Value.int .i64 n58) ∧ ∃ n59 : Int, rd h34 (Addr.add (Addr.mk (Array.size h) 0 none) 10) = some (Value.int .i64 n59) ∧ ∃ x60 : Nat, rd h34 (Addr.add (Addr.mk (Array.size h) 0 none) 11) = some (Value.float .f64 x60) ∧ ∃ s61 : ByteArray, rd h34 (Addr.add (Addr.mk (Array.size h) 0 none) 12) = some (Value.string s61) ∧ ∃ l62 : Sl, rd h34 (Addr.add (Addr.mk (Array.size h) 0 none) 13) = some (Value.slice l62.a l62.n l62.c) ∧ ∃ l63 : Sl, rd h34 (Addr.add (Addr.mk (Array.size h) 0 none) 14) = some (Value.slice l63.a l63.n l63.c) ∧ ∃ b64 : Bool, rd h34 (Addr.add (Addr.mk (Array.size h) 0 none) 15) = some (Value.bool b64) ∧ S_write_insert g0_s g1_xid s46 ⟨l47.a, l47.n, l47.c⟩ n48 n49 s50 s51 s52 s53 n54 n55 x56 s57 n58 n59 x60 s61 ⟨l62.a, l62.n, l62.c⟩ ⟨l63.a, l63.n, l63.c⟩ b64 h34 fun (vs65 : List Value) (h66 : Hp) =>
                    ∃ n67 : Int, ∃ n68 : Int, ∃ l69 : Sl, ∃ n70 : Int, vs65 = [(Value.agg #[(Value.int .i64 n67), (Value.int .i64 n68), (Value.slice l69.a l69.n l69.c)]), (Value.int .i64 n70)] ∧
                    stOk h66 (Addr.mk (Array.size h1) 0 none) 3 ∧ wth (wrs h66 (Addr.mk (Array.size h1) 0 none) 0 [(Value.int .i64 n67), (Value.int .i64 n68), (Value.slice l69.a l69.n l69.c)]) fun h71 =>
                    ∃ n72 : Int, rd h71 (Addr.add (Addr.mk (Array.size h1) 0 none) 0) = some (Value.int .i64 n72) ∧ ∃ n73 : Int, rd h71 (Addr.add (Addr.mk (Array.size h1) 0 none) 1) = some (Value.int .i64 n73) ∧ ∃ l74 : Sl, rd h71 (Addr.add (Addr.mk (Array.size h1) 0 none) 2) = some (Value.slice l74.a l74.n l74.c) ∧ Q [(Value.agg #[(Value.int .i64 n72), (Value.int .i64 n73), (Value.slice l74.a l74.n l74.c)]), (Value.int .i64 n70)] h71) else
                  (∃ s75 : ByteArray, rd h34 (Addr.add (Addr.mk (Array.size h28) 0 none) 0) = some (Value.string s75) ∧ ∃ l76 : Sl, rd h34 (Addr.add (Addr.mk (Array.size h28) 0 none) 1) = some (Value.slice l76.a l76.n l76.c) ∧ ∃ n77 : Int, rd h34 (Addr.add (Addr.mk (Array.size h28) 0 none) 2) = some (Value.int .i64 n77) ∧ ∃ n78 : Int, rd h34 (Addr.add (Addr.mk (Array.size h) 0 none) 0) = some (Value.int .i64 n78) ∧ ∃ s79 : ByteArray, rd h34 (Addr.add (Addr.mk (Array.size h) 0 none) 1) = some (Value.string s79) ∧ ∃ s80 : ByteArray, rd h34 (Addr.add (Addr.mk (Array.size h) 0 none) 2) = some (Value.string s80) ∧ ∃ s81 : ByteArray, rd h34 (Addr.add (Addr.mk (Array.size h) 0 none) 3) = some (Value.string s81) ∧ ∃ s82 : ByteArray, rd h34 (Addr.add (Addr.mk (Array.size h) 0 none) 4) = some (Value.string s82) ∧ ∃ n83 : Int, rd h34 (Addr.add (Addr.mk (Array.size h) 0 none) 5) = some (Value.int .i64 n83) ∧ ∃ n84 : Int, rd h34 (Addr.add (Addr.mk (Array.size h) 0 none) 6) = some (Value.int .i64 n84) ∧ ∃ x85 : Nat, rd h34 (Addr.add (Addr.mk (Array.size h) 0 none) 7) = some (Value.float .f64 x85) ∧ ∃ s86 : ByteArray, rd h34 (Addr.add (Addr.mk (Array.size h) 0 none) 8) = some (Value.string s86) ∧ ∃ n87 : Int, rd h34 (Addr.add (Addr.mk (Array.size h) 0 none) 9) = some (Value.int .i64 n87) ∧ ∃ n88 : Int, rd h34 (Addr.add (Addr.mk (Array.size h) 0 none) 10) = some (Value.int .i64 n88) ∧ ∃ x89 : Nat, rd h34 (Addr.add (Addr.mk (Array.size h) 0 none) 11) = some (Value.float .f64 x89) ∧ ∃ s90 : ByteArray, rd h34 (Addr.add (Addr.mk (Array.size h) 0 none) 12) = some (Value.string s90) ∧ ∃ l91 : Sl, rd h34 (Addr.add (Addr.mk (Array.size h) 0 none) 13) = some (Value.slice l91.a l91.n l91.c) ∧ ∃ l92 : Sl, rd h34 (Addr.add (Addr.mk (Array.size h) 0 none) 14) = some (Value.slice l92.a l92.n l92.c) ∧ ∃ b93 : Bool, rd h34 (Addr.add (Addr.mk (Array.size h) 0 none) 15) = some (Value.bool b93) ∧ S_write_change g0_s g1_xid s75 ⟨l76.a, l76.n, l76.c⟩ n77 n78 s79 s80 s81 s82 n83 n84 x85 s86 n87 n88 x89 s90 ⟨l91.a, l91.n, l91.c⟩ ⟨l92.a, l92.n, l92.c⟩ b93 h34 fun (vs94 : List Value) (h95 : Hp) =>
                    ∃ n96 : Int, ∃ n97 : Int, ∃ l98 : Sl, ∃ n99 : Int, vs94 = [(Value.agg #[(Value.int .i64 n96), (Value.int .i64 n97), (Value.slice l98.a l98.n l98.c)]), (Value.int .i64 n99)] ∧
                    stOk h95 (Addr.mk (Array.size h1) 0 none) 3 ∧ wth (wrs h95 (Addr.mk (Array.size h1) 0 none) 0 [(Value.int .i64 n96), (Value.int .i64 n97), (Value.slice l98.a l98.n l98.c)]) fun h100 =>
                    ∃ n101 : Int, rd h100 (Addr.add (Addr.mk (Array.size h1) 0 none) 0) = some (Value.int .i64 n101) ∧ ∃ n102 : Int, rd h100 (Addr.add (Addr.mk (Array.size h1) 0 none) 1) = some (Value.int .i64 n102) ∧ ∃ l103 : Sl, rd h100 (Addr.add (Addr.mk (Array.size h1) 0 none) 2) = some (Value.slice l103.a l103.n l103.c) ∧ Q [(Value.agg #[(Value.int .i64 n101), (Value.int .i64 n102), (Value.slice l103.a l103.n l103.c)]), (Value.int .i64 n99)] h100))))))) → J13 [(Value.bool b14)] h15) →
    ∃ n104 : Int, rd h2 (Addr.add (Addr.mk (Array.size h) 0 none) 0) = some (Value.int .i64 n104) ∧
    (if (n104 != (4 : Int)) = true then (∃ n105 : Int, rd h2 (Addr.add (Addr.mk (Array.size h) 0 none) 0) = some (Value.int .i64 n105) ∧
        (if (n105 != (5 : Int)) = true then (∃ n106 : Int, rd h2 (Addr.add (Addr.mk (Array.size h) 0 none) 0) = some (Value.int .i64 n106) ∧
            J13 [(Value.bool (n106 != (6 : Int)))] h2) else
          (J13 [(Value.bool false)] h2))) else
      (J13 [(Value.bool false)] h2))))
def A_write_Do : Ann := (.mk none ⟨[], []⟩ .nil (.mk none ⟨[], []⟩ (.mk none ⟨[], []⟩ (.mk none ⟨[], []⟩ .nil (.mk none ⟨[], []⟩ .nil (.mk none ⟨[], []⟩ (.mk (some ⟨[0, 1, 5, 6], [(16, (.c .bool))]⟩) ⟨[], []⟩ .nil .nil) .nil))) .nil) .nil))
theorem E_write_Do (g0_s : Option Addr) (g1_xid : Int) (g2_x_0 : Int) (g2_x_1 : ByteArray) (g2_x_2 : ByteArray) (g2_x_3 : ByteArray) (g2_x_4 : ByteArray) (g2_x_5 : Int) (g2_x_6 : Int) (g2_x_7 : Nat) (g2_x_8 : ByteArray) (g2_x_9 : Int) (g2_x_10 : Int) (g2_x_11 : Nat) (g2_x_12 : ByteArray) (g2_x_13 : Sl) (g2_x_14 : Sl) (g2_x_15 : Bool) (h : Hp) (Q : List Value → Hp → Prop) : cw PP 65 (fun _ => []) (bodyOf Tryz.f6) A_write_Do (finQ PP (Tryz.f6.results.toList) Q) (argFr [(Value.pointer g0_s), (Value.int .i64 g1_xid), (Value.agg #[(Value.int .i64 g2_x_0), (Value.string g2_x_1), (Value.string g2_x_2), (Value.string g2_x_3), (Value.string g2_x_4), (Value.int .i64 g2_x_5), (Value.int .i64 g2_x_6), (Value.float .f64 g2_x_7), (Value.string g2_x_8), (Value.int .i64 g2_x_9), (Value.int .i64 g2_x_10), (Value.float .f64 g2_x_11), (Value.string g2_x_12), (Value.slice g2_x_13.a g2_x_13.n g2_x_13.c), (Value.slice g2_x_14.a g2_x_14.n g2_x_14.c), (Value.bool g2_x_15)])]) h = F_write_Do g0_s g1_xid g2_x_0 g2_x_1 g2_x_2 g2_x_3 g2_x_4 g2_x_5 g2_x_6 g2_x_7 g2_x_8 g2_x_9 g2_x_10 g2_x_11 g2_x_12 g2_x_13 g2_x_14 g2_x_15 h Q := by kernel_rfl
theorem O_write_Do (g0_s : Option Addr) (g1_xid : Int) (g2_x_0 : Int) (g2_x_1 : ByteArray) (g2_x_2 : ByteArray) (g2_x_3 : ByteArray) (g2_x_4 : ByteArray) (g2_x_5 : Int) (g2_x_6 : Int) (g2_x_7 : Nat) (g2_x_8 : ByteArray) (g2_x_9 : Int) (g2_x_10 : Int) (g2_x_11 : Nat) (g2_x_12 : ByteArray) (g2_x_13 : Sl) (g2_x_14 : Sl) (g2_x_15 : Bool) {h : Hp} {Q : List Value → Hp → Prop} (H : F_write_Do g0_s g1_xid g2_x_0 g2_x_1 g2_x_2 g2_x_3 g2_x_4 g2_x_5 g2_x_6 g2_x_7 g2_x_8 g2_x_9 g2_x_10 g2_x_11 g2_x_12 g2_x_13 g2_x_14 g2_x_15 h Q) : S_write_Do g0_s g1_xid g2_x_0 g2_x_1 g2_x_2 g2_x_3 g2_x_4 g2_x_5 g2_x_6 g2_x_7 g2_x_8 g2_x_9 g2_x_10 g2_x_11 g2_x_12 g2_x_13 g2_x_14 g2_x_15 h Q :=
  fn_of_cw (hs := (fun _ => [])) (ann := A_write_Do) (args := [(Value.pointer g0_s), (Value.int .i64 g1_xid), (Value.agg #[(Value.int .i64 g2_x_0), (Value.string g2_x_1), (Value.string g2_x_2), (Value.string g2_x_3), (Value.string g2_x_4), (Value.int .i64 g2_x_5), (Value.int .i64 g2_x_6), (Value.float .f64 g2_x_7), (Value.string g2_x_8), (Value.int .i64 g2_x_9), (Value.int .i64 g2_x_10), (Value.float .f64 g2_x_11), (Value.string g2_x_12), (Value.slice g2_x_13.a g2_x_13.n g2_x_13.c), (Value.slice g2_x_14.a g2_x_14.n g2_x_14.c), (Value.bool g2_x_15)])]) mixedPP Tryz.func6 (c := bodyOf Tryz.f6) (by kernel_rfl) (by kernel_rfl) (by kernel_rfl) (Eq.mpr (E_write_Do g0_s g1_xid g2_x_0 g2_x_1 g2_x_2 g2_x_3 g2_x_4 g2_x_5 g2_x_6 g2_x_7 g2_x_8 g2_x_9 g2_x_10 g2_x_11 g2_x_12 g2_x_13 g2_x_14 g2_x_15 h Q) H)
def F_liverylaw22_WriteNone (g0_x_0 : Int) (g0_x_1 : ByteArray) (g0_x_2 : ByteArray) (g0_x_3 : ByteArray) (g0_x_4 : ByteArray) (g0_x_5 : Int) (g0_x_6 : Int) (g0_x_7 : Nat) (g0_x_8 : ByteArray) (g0_x_9 : Int) (g0_x_10 : Int) (g0_x_11 : Nat) (g0_x_12 : ByteArray) (g0_x_13 : Sl) (g0_x_14 : Sl) (g0_x_15 : Bool) (h : Hp) (Q : List Value → Hp → Prop) : Prop :=
wth (Array.push h (Obj.cells #[(Value.int .i64 g0_x_0), (Value.string g0_x_1), (Value.string g0_x_2), (Value.string g0_x_3), (Value.string g0_x_4), (Value.int .i64 g0_x_5), (Value.int .i64 g0_x_6), (Value.float .f64 g0_x_7), (Value.string g0_x_8), (Value.int .i64 g0_x_9), (Value.int .i64 g0_x_10), (Value.float .f64 g0_x_11), (Value.string g0_x_12), (Value.slice g0_x_13.a g0_x_13.n g0_x_13.c), (Value.slice g0_x_14.a g0_x_14.n g0_x_14.c), (Value.bool g0_x_15)] T_api_Stmt)) fun h1 =>
∃ n2 : Int, rd h1 (Addr.add (Addr.mk (Array.size h) 0 none) 0) = some (Value.int .i64 n2) ∧ ∃ s3 : ByteArray, rd h1 (Addr.add (Addr.mk (Array.size h) 0 none) 1) = some (Value.string s3) ∧ ∃ s4 : ByteArray, rd h1 (Addr.add (Addr.mk (Array.size h) 0 none) 2) = some (Value.string s4) ∧ ∃ s5 : ByteArray, rd h1 (Addr.add (Addr.mk (Array.size h) 0 none) 3) = some (Value.string s5) ∧ ∃ s6 : ByteArray, rd h1 (Addr.add (Addr.mk (Array.size h) 0 none) 4) = some (Value.string s6) ∧ ∃ n7 : Int, rd h1 (Addr.add (Addr.mk (Array.size h) 0 none) 5) = some (Value.int .i64 n7) ∧ ∃ n8 : Int, rd h1 (Addr.add (Addr.mk (Array.size h) 0 none) 6) = some (Value.int .i64 n8) ∧ ∃ x9 : Nat, rd h1 (Addr.add (Addr.mk (Array.size h) 0 none) 7) = some (Value.float .f64 x9) ∧ ∃ s10 : ByteArray, rd h1 (Addr.add (Addr.mk (Array.size h) 0 none) 8) = some (Value.string s10) ∧ ∃ n11 : Int, rd h1 (Addr.add (Addr.mk (Array.size h) 0 none) 9) = some (Value.int .i64 n11) ∧ ∃ n12 : Int, rd h1 (Addr.add (Addr.mk (Array.size h) 0 none) 10) = some (Value.int .i64 n12) ∧ ∃ x13 : Nat, rd h1 (Addr.add (Addr.mk (Array.size h) 0 none) 11) = some (Value.float .f64 x13) ∧ ∃ s14 : ByteArray, rd h1 (Addr.add (Addr.mk (Array.size h) 0 none) 12) = some (Value.string s14) ∧ ∃ l15 : Sl, rd h1 (Addr.add (Addr.mk (Array.size h) 0 none) 13) = some (Value.slice l15.a l15.n l15.c) ∧ ∃ l16 : Sl, rd h1 (Addr.add (Addr.mk (Array.size h) 0 none) 14) = some (Value.slice l16.a l16.n l16.c) ∧ ∃ b17 : Bool, rd h1 (Addr.add (Addr.mk (Array.size h) 0 none) 15) = some (Value.bool b17) ∧ S_liverykeep_LargeStmt n2 s3 s4 s5 s6 n7 n8 x9 s10 n11 n12 x13 s14 ⟨l15.a, l15.n, l15.c⟩ ⟨l16.a, l16.n, l16.c⟩ b17 h1 fun (vs18 : List Value) (h19 : Hp) =>
∃ b20 : Bool, vs18 = [(Value.bool b20)] ∧
(if b20 = true then
  (S_liverylaw22_wakes  h19 fun (vs21 : List Value) (h22 : Hp) =>
    ∃ b23 : Bool, vs21 = [(Value.bool b23)] ∧
    Q [(Value.bool b23)] h22) else
  (∃ n24 : Int, rd h19 (Addr.add (Addr.mk (Array.size h) 0 none) 0) = some (Value.int .i64 n24) ∧ ∃ s25 : ByteArray, rd h19 (Addr.add (Addr.mk (Array.size h) 0 none) 1) = some (Value.string s25) ∧ ∃ s26 : ByteArray, rd h19 (Addr.add (Addr.mk (Array.size h) 0 none) 2) = some (Value.string s26) ∧ ∃ s27 : ByteArray, rd h19 (Addr.add (Addr.mk (Array.size h) 0 none) 3) = some (Value.string s27) ∧ ∃ s28 : ByteArray, rd h19 (Addr.add (Addr.mk (Array.size h) 0 none) 4) = some (Value.string s28) ∧ ∃ n29 : Int, rd h19 (Addr.add (Addr.mk (Array.size h) 0 none) 5) = some (Value.int .i64 n29) ∧ ∃ n30 : Int, rd h19 (Addr.add (Addr.mk (Array.size h) 0 none) 6) = some (Value.int .i64 n30) ∧ ∃ x31 : Nat, rd h19 (Addr.add (Addr.mk (Array.size h) 0 none) 7) = some (Value.float .f64 x31) ∧ ∃ s32 : ByteArray, rd h19 (Addr.add (Addr.mk (Array.size h) 0 none) 8) = some (Value.string s32) ∧ ∃ n33 : Int, rd h19 (Addr.add (Addr.mk (Array.size h) 0 none) 9) = some (Value.int .i64 n33) ∧ ∃ n34 : Int, rd h19 (Addr.add (Addr.mk (Array.size h) 0 none) 10) = some (Value.int .i64 n34) ∧ ∃ x35 : Nat, rd h19 (Addr.add (Addr.mk (Array.size h) 0 none) 11) = some (Value.float .f64 x35) ∧ ∃ s36 : ByteArray, rd h19 (Addr.add (Addr.mk (Array.size h) 0 none) 12) = some (Value.string s36) ∧ ∃ l37 : Sl, rd h19 (Addr.add (Addr.mk (Array.size h) 0 none) 13) = some (Value.slice l37.a l37.n l37.c) ∧ ∃ l38 : Sl, rd h19 (Addr.add (Addr.mk (Array.size h) 0 none) 14) = some (Value.slice l38.a l38.n l38.c) ∧ ∃ b39 : Bool, rd h19 (Addr.add (Addr.mk (Array.size h) 0 none) 15) = some (Value.bool b39) ∧ S_write_Do none (1 : Int) n24 s25 s26 s27 s28 n29 n30 x31 s32 n33 n34 x35 s36 ⟨l37.a, l37.n, l37.c⟩ ⟨l38.a, l38.n, l38.c⟩ b39 h19 fun (vs40 : List Value) (h41 : Hp) =>
    ∃ n42 : Int, ∃ n43 : Int, ∃ l44 : Sl, ∃ n45 : Int, vs40 = [(Value.agg #[(Value.int .i64 n42), (Value.int .i64 n43), (Value.slice l44.a l44.n l44.c)]), (Value.int .i64 n45)] ∧
    wth (Array.push h41 (Obj.cells #[(Value.int .i64 (0 : Int)), (Value.int .i64 (0 : Int)), (Value.slice none 0 0)] T_api_Reply)) fun h46 =>
    stOk h46 (Addr.mk (Array.size h41) 0 none) 3 ∧ wth (wrs h46 (Addr.mk (Array.size h41) 0 none) 0 [(Value.int .i64 n42), (Value.int .i64 n43), (Value.slice l44.a l44.n l44.c)]) fun h47 =>
    ∃ l48 : Sl, rd h47 (Addr.add (Addr.mk (Array.size h) 0 none) 14) = some (Value.slice l48.a l48.n l48.c) ∧
    ∃ l49 : Sl, rd h47 (Addr.add (Addr.mk (Array.size h) 0 none) 13) = some (Value.slice l49.a l49.n l49.c) ∧
    S_write_May none (1 : Int) (1 : Int) ⟨l48.a, l48.n, l48.c⟩ ⟨l49.a, l49.n, l49.c⟩ ⟨none, 0, 0⟩ h47 fun (vs50 : List Value) (h51 : Hp) =>
    ∃ n52 : Int, ∃ n53 : Int, vs50 = [(Value.int .i64 n52), (Value.int .i64 n53)] ∧
    ∃ n54 : Int, rd h51 (Addr.add (Addr.mk (Array.size h41) 0 none) 0) = some (Value.int .i64 n54) ∧
    (if (n54 == (1 : Int)) = true then ((if (n45 == (0 : Int)) = true then ((if (n52 == (1 : Int)) = true then ((if (n53 == (0 : Int)) = true then (S_liverylaw22_wakes  h51 fun (vs55 : List Value) (h56 : Hp) =>
                    ∃ b57 : Bool, vs55 = [(Value.bool b57)] ∧
                    Q [(Value.bool b57)] h56) else
                  (Q [(Value.bool false)] h51))) else
              (Q [(Value.bool false)] h51))) else
          (Q [(Value.bool false)] h51))) else
      (Q [(Value.bool false)] h51))))
def A_liverylaw22_WriteNone : Ann := .nil
theorem E_liverylaw22_WriteNone (g0_x_0 : Int) (g0_x_1 : ByteArray) (g0_x_2 : ByteArray) (g0_x_3 : ByteArray) (g0_x_4 : ByteArray) (g0_x_5 : Int) (g0_x_6 : Int) (g0_x_7 : Nat) (g0_x_8 : ByteArray) (g0_x_9 : Int) (g0_x_10 : Int) (g0_x_11 : Nat) (g0_x_12 : ByteArray) (g0_x_13 : Sl) (g0_x_14 : Sl) (g0_x_15 : Bool) (h : Hp) (Q : List Value → Hp → Prop) : cw PP 41 (fun _ => []) (bodyOf Tryz.f3) A_liverylaw22_WriteNone (finQ PP (Tryz.f3.results.toList) Q) (argFr [(Value.agg #[(Value.int .i64 g0_x_0), (Value.string g0_x_1), (Value.string g0_x_2), (Value.string g0_x_3), (Value.string g0_x_4), (Value.int .i64 g0_x_5), (Value.int .i64 g0_x_6), (Value.float .f64 g0_x_7), (Value.string g0_x_8), (Value.int .i64 g0_x_9), (Value.int .i64 g0_x_10), (Value.float .f64 g0_x_11), (Value.string g0_x_12), (Value.slice g0_x_13.a g0_x_13.n g0_x_13.c), (Value.slice g0_x_14.a g0_x_14.n g0_x_14.c), (Value.bool g0_x_15)])]) h = F_liverylaw22_WriteNone g0_x_0 g0_x_1 g0_x_2 g0_x_3 g0_x_4 g0_x_5 g0_x_6 g0_x_7 g0_x_8 g0_x_9 g0_x_10 g0_x_11 g0_x_12 g0_x_13 g0_x_14 g0_x_15 h Q := by kernel_rfl
theorem O_liverylaw22_WriteNone (g0_x_0 : Int) (g0_x_1 : ByteArray) (g0_x_2 : ByteArray) (g0_x_3 : ByteArray) (g0_x_4 : ByteArray) (g0_x_5 : Int) (g0_x_6 : Int) (g0_x_7 : Nat) (g0_x_8 : ByteArray) (g0_x_9 : Int) (g0_x_10 : Int) (g0_x_11 : Nat) (g0_x_12 : ByteArray) (g0_x_13 : Sl) (g0_x_14 : Sl) (g0_x_15 : Bool) {h : Hp} {Q : List Value → Hp → Prop} (H : F_liverylaw22_WriteNone g0_x_0 g0_x_1 g0_x_2 g0_x_3 g0_x_4 g0_x_5 g0_x_6 g0_x_7 g0_x_8 g0_x_9 g0_x_10 g0_x_11 g0_x_12 g0_x_13 g0_x_14 g0_x_15 h Q) : S_liverylaw22_WriteNone g0_x_0 g0_x_1 g0_x_2 g0_x_3 g0_x_4 g0_x_5 g0_x_6 g0_x_7 g0_x_8 g0_x_9 g0_x_10 g0_x_11 g0_x_12 g0_x_13 g0_x_14 g0_x_15 h Q :=
  fn_of_cw (hs := (fun _ => [])) (ann := A_liverylaw22_WriteNone) (args := [(Value.agg #[(Value.int .i64 g0_x_0), (Value.string g0_x_1), (Value.string g0_x_2), (Value.string g0_x_3), (Value.string g0_x_4), (Value.int .i64 g0_x_5), (Value.int .i64 g0_x_6), (Value.float .f64 g0_x_7), (Value.string g0_x_8), (Value.int .i64 g0_x_9), (Value.int .i64 g0_x_10), (Value.float .f64 g0_x_11), (Value.string g0_x_12), (Value.slice g0_x_13.a g0_x_13.n g0_x_13.c), (Value.slice g0_x_14.a g0_x_14.n g0_x_14.c), (Value.bool g0_x_15)])]) mixedPP Tryz.func3 (c := bodyOf Tryz.f3) (by kernel_rfl) (by kernel_rfl) (by kernel_rfl) (Eq.mpr (E_liverylaw22_WriteNone g0_x_0 g0_x_1 g0_x_2 g0_x_3 g0_x_4 g0_x_5 g0_x_6 g0_x_7 g0_x_8 g0_x_9 g0_x_10 g0_x_11 g0_x_12 g0_x_13 g0_x_14 g0_x_15 h Q) H)
end Go.Lift

/- Printed by lift.py: each Go function of this seat as a Prop over the heap, and that the Go code comes to it. -/
import Derived.Test.YtgdiihffjogdiaaGreatDoorLvL
import Derived.Test.YtgdiihffjogdiaaGreatDoorProg
set_option linter.unusedSimpArgs false
set_option linter.unusedVariables false
namespace Go.Lift
open Go Go.Proofs
set_option maxRecDepth 100000
noncomputable abbrev PP : Program := Tryz.prog
theorem mixedPP : PP.follows .mixedOrders = true := by kernel_rfl
def bodyOf (f : Func) : Code := f.body.getD .skip
abbrev T_int : TypeId := 3
abbrev T_uint8 : TypeId := 5
abbrev T_string : TypeId := 9
abbrev T_api_Value : TypeId := 25
abbrev T_ptable_Store : TypeId := 26
abbrev T_api_Column : TypeId := 34
abbrev T_pssi_Ssi : TypeId := 38
abbrev T_api_Index : TypeId := 43
abbrev T_siread_Thing : TypeId := 46
abbrev T_liverylaw19_Step : TypeId := 48
abbrev T_table_Index : TypeId := 64
abbrev T_api_Tuple : TypeId := 68
abbrev T_table_Store : TypeId := 97
abbrev T_ssi_Ssi : TypeId := 106
abbrev T_table_rel : TypeId := 112
abbrev T_ptable_entries : TypeId := 115
abbrev T_table_entries : TypeId := 122
abbrev T_leaf_Move : TypeId := 130
abbrev T_map_int_api_Tuple : TypeId := 140
abbrev T_heap_Rel : TypeId := 142
abbrev T_clog_tx : TypeId := 155
abbrev T_clog_Log : TypeId := 158
abbrev T_name_Names : TypeId := 164
abbrev T_lock_Table : TypeId := 167
abbrev T_index_Index : TypeId := 189
abbrev T_edge_Edges : TypeId := 200
abbrev T_2_int : TypeId := 205
abbrev T_siread_Table : TypeId := 210
abbrev T_map_siread_Thing_int : TypeId := 216
abbrev T_pleaf_one : TypeId := 224
abbrev T_leaf_Leaves : TypeId := 227
abbrev T_sstring : TypeId := 230
abbrev T_leaf_one : TypeId := 232
abbrev T_value_own : TypeId := 276
abbrev T_strings_Builder : TypeId := 281
abbrev T_slices_xorshift : TypeId := 287
abbrev T_utf8_acceptRange : TypeId := 327
/-- main.main -/
def S_main_main (h : Hp) (Q : List Value → Hp → Prop) : Prop := Fn PP 0 #[] h Q
/-- gosem.cut -/
def S_gosem_cut (h : Hp) (Q : List Value → Hp → Prop) : Prop := Fn PP 1 #[] h Q
/-- gosem.cut.init -/
def S_gosem_cut_init (h : Hp) (Q : List Value → Hp → Prop) : Prop := Fn PP 2 #[] h Q
/-- livery/clog.New -/
def S_clog_New (h : Hp) (Q : List Value → Hp → Prop) : Prop := Fn PP 41 #[] h Q
/-- livery/siread.New -/
def S_siread_New (g0_each : Int) (g1_all : Int) (h : Hp) (Q : List Value → Hp → Prop) : Prop := Fn PP 94 #[(Value.int .i64 g0_each), (Value.int .i64 g1_all)] h Q
/-- livery/edge.New -/
def S_edge_New (g0_l : Option Addr) (h : Hp) (Q : List Value → Hp → Prop) : Prop := Fn PP 95 #[(Value.pointer g0_l)] h Q
/-- livery/ssi.New -/
def S_ssi_New (g0_l : Option Addr) (g1_each : Int) (g2_all : Int) (g3_keep : Int) (h : Hp) (Q : List Value → Hp → Prop) : Prop := Fn PP 42 #[(Value.pointer g0_l), (Value.int .i64 g1_each), (Value.int .i64 g2_all), (Value.int .i64 g3_keep)] h Q
/-- livery/name.New -/
def S_name_New (h : Hp) (Q : List Value → Hp → Prop) : Prop := Fn PP 43 #[] h Q
/-- livery/lock.New -/
def S_lock_New (h : Hp) (Q : List Value → Hp → Prop) : Prop := Fn PP 44 #[] h Q
/-- livery/table.New -/
def S_table_New (g0_each : Int) (g1_all : Int) (g2_keep : Int) (g3_fan : Int) (h : Hp) (Q : List Value → Hp → Prop) : Prop := Fn PP 6 #[(Value.int .i64 g0_each), (Value.int .i64 g1_all), (Value.int .i64 g2_keep), (Value.int .i64 g3_fan)] h Q
/-- livery/liverykeep.LargeValue -/
def S_liverykeep_LargeValue (g0_v_0 : Int) (g0_v_1 : Int) (g0_v_2 : Nat) (g0_v_3 : ByteArray) (h : Hp) (Q : List Value → Hp → Prop) : Prop := Fn PP 45 #[(Value.agg #[(Value.int .i64 g0_v_0), (Value.int .i64 g0_v_1), (Value.float .f64 g0_v_2), (Value.string g0_v_3)])] h Q
/-- livery/liverykeep.LargeRow -/
def S_liverykeep_LargeRow (g0_l : Sl) (h : Hp) (Q : List Value → Hp → Prop) : Prop := Fn PP 46 #[(Value.slice g0_l.a g0_l.n g0_l.c)] h Q
/-- livery/liverykeep.LargeColumns -/
def S_liverykeep_LargeColumns (g0_l : Sl) (h : Hp) (Q : List Value → Hp → Prop) : Prop := Fn PP 47 #[(Value.slice g0_l.a g0_l.n g0_l.c)] h Q
/-- livery/liverylaw19.Fair -/
def S_liverylaw19_Fair (g0_l : Sl) (h : Hp) (Q : List Value → Hp → Prop) : Prop := Fn PP 7 #[(Value.slice g0_l.a g0_l.n g0_l.c)] h Q
/-- math.Float64bits -/
def S_math_Float64bits (g0_x : Nat) (h : Hp) (Q : List Value → Hp → Prop) : Prop := Fn PP 96 #[(Value.float .f64 g0_x)] h Q
/-- livery/liveryref02.plain -/
def S_liveryref02_plain (g0_f : Nat) (h : Hp) (Q : List Value → Hp → Prop) : Prop := Fn PP 48 #[(Value.float .f64 g0_f)] h Q
/-- math.IsNaN -/
def S_math_IsNaN (g0_f : Nat) (h : Hp) (Q : List Value → Hp → Prop) : Prop := Fn PP 142 #[(Value.float .f64 g0_f)] h Q
/-- math.Float64frombits -/
def S_math_Float64frombits (g0_x : Int) (h : Hp) (Q : List Value → Hp → Prop) : Prop := Fn PP 143 #[(Value.int .u64 g0_x)] h Q
/-- livery/liveryref01.Canon -/
def S_liveryref01_Canon (g0_f : Nat) (h : Hp) (Q : List Value → Hp → Prop) : Prop := Fn PP 97 #[(Value.float .f64 g0_f)] h Q
/-- livery/liveryref01.Is -/
def S_liveryref01_Is (g0_f : Nat) (h : Hp) (Q : List Value → Hp → Prop) : Prop := Fn PP 49 #[(Value.float .f64 g0_f)] h Q
/-- livery/liveryref02.Good -/
def S_liveryref02_Good (g0_v_0 : Int) (g0_v_1 : Int) (g0_v_2 : Nat) (g0_v_3 : ByteArray) (h : Hp) (Q : List Value → Hp → Prop) : Prop := Fn PP 8 #[(Value.agg #[(Value.int .i64 g0_v_0), (Value.int .i64 g0_v_1), (Value.float .f64 g0_v_2), (Value.string g0_v_3)])] h Q
/-- livery/liverylaw19.num -/
def S_liverylaw19_num (g0_n : Int) (h : Hp) (Q : List Value → Hp → Prop) : Prop := Fn PP 10 #[(Value.int .i64 g0_n)] h Q
/-- (*livery/table.Store).Ssi -/
def S_table_Store_Ssi (g0_s : Option Addr) (h : Hp) (Q : List Value → Hp → Prop) : Prop := Fn PP 11 #[(Value.pointer g0_s)] h Q
/-- slices.IndexFunc[[]int,int] -/
def S_slices_IndexFunc_sint_int (g0_s : Sl) (g1_f_f : Nat) (g1_f_c : Array Value) (h : Hp) (Q : List Value → Hp → Prop) : Prop := Fn PP 98 #[(Value.slice g0_s.a g0_s.n g0_s.c), (Value.func (.func g1_f_f) #[] g1_f_c)] h Q
/-- slices.ContainsFunc[[]int,int] -/
def S_slices_ContainsFunc_sint_int (g0_s : Sl) (g1_f_f : Nat) (g1_f_c : Array Value) (h : Hp) (Q : List Value → Hp → Prop) : Prop := Fn PP 51 #[(Value.slice g0_s.a g0_s.n g0_s.c), (Value.func (.func g1_f_f) #[] g1_f_c)] h Q
/-- (*livery/clog.Log).Running -/
def S_clog_Log_Running (g0_l : Option Addr) (h : Hp) (Q : List Value → Hp → Prop) : Prop := Fn PP 52 #[(Value.pointer g0_l)] h Q
/-- (*livery/clog.Log).Begin -/
def S_clog_Log_Begin (g0_l : Option Addr) (g1_reads : Bool) (h : Hp) (Q : List Value → Hp → Prop) : Prop := Fn PP 55 #[(Value.pointer g0_l), (Value.bool g1_reads)] h Q
/-- (*livery/ssi.Ssi).Begin -/
def S_ssi_Ssi_Begin (g0_s : Option Addr) (g1_reads : Bool) (h : Hp) (Q : List Value → Hp → Prop) : Prop := Fn PP 12 #[(Value.pointer g0_s), (Value.bool g1_reads)] h Q
/-- livery/heap.New -/
def S_heap_New (h : Hp) (Q : List Value → Hp → Prop) : Prop := Fn PP 56 #[] h Q
/-- (*livery/table.Store).NewRel -/
def S_table_Store_NewRel (g0_s : Option Addr) (h : Hp) (Q : List Value → Hp → Prop) : Prop := Fn PP 13 #[(Value.pointer g0_s)] h Q
/-- (*livery/table.Store).rel -/
def S_table_Store_rel (g0_s : Option Addr) (g1_n : Int) (h : Hp) (Q : List Value → Hp → Prop) : Prop := Fn PP 57 #[(Value.pointer g0_s), (Value.int .i64 g1_n)] h Q
/-- (*livery/clog.Log).get -/
def S_clog_Log_get (g0_l : Option Addr) (g1_xid : Int) (h : Hp) (Q : List Value → Hp → Prop) : Prop := Fn PP 141 #[(Value.pointer g0_l), (Value.int .i64 g1_xid)] h Q
/-- (*livery/clog.Log).one -/
def S_clog_Log_one (g0_l : Option Addr) (g1_xid : Int) (h : Hp) (Q : List Value → Hp → Prop) : Prop := Fn PP 99 #[(Value.pointer g0_l), (Value.int .i64 g1_xid)] h Q
/-- (*livery/clog.Log).State -/
def S_clog_Log_State (g0_l : Option Addr) (g1_xid : Int) (h : Hp) (Q : List Value → Hp → Prop) : Prop := Fn PP 58 #[(Value.pointer g0_l), (Value.int .i64 g1_xid)] h Q
/-- (*livery/table.Store).stands -/
def S_table_Store_stands (g0_s : Option Addr) (g1_x : Option Addr) (h : Hp) (Q : List Value → Hp → Prop) : Prop := Fn PP 102 #[(Value.pointer g0_s), (Value.pointer g1_x)] h Q
/-- slices.insertionSortCmpFunc[*livery/table.entries] -/
def S_slices_insertionSortCmpFunc_ptable_entries (g0_data : Sl) (g1_a : Int) (g2_b : Int) (g3_cmp_f : Nat) (g3_cmp_c : Array Value) (h : Hp) (Q : List Value → Hp → Prop) : Prop := Fn PP 173 #[(Value.slice g0_data.a g0_data.n g0_data.c), (Value.int .i64 g1_a), (Value.int .i64 g2_b), (Value.func (.func g3_cmp_f) #[] g3_cmp_c)] h Q
/-- slices.swapRangeCmpFunc[*livery/table.entries] -/
def S_slices_swapRangeCmpFunc_ptable_entries (g0_data : Sl) (g1_a : Int) (g2_b : Int) (g3_n : Int) (g4_cmp_f : Nat) (g4_cmp_c : Array Value) (h : Hp) (Q : List Value → Hp → Prop) : Prop := Fn PP 229 #[(Value.slice g0_data.a g0_data.n g0_data.c), (Value.int .i64 g1_a), (Value.int .i64 g2_b), (Value.int .i64 g3_n), (Value.func (.func g4_cmp_f) #[] g4_cmp_c)] h Q
/-- slices.rotateCmpFunc[*livery/table.entries] -/
def S_slices_rotateCmpFunc_ptable_entries (g0_data : Sl) (g1_a : Int) (g2_m : Int) (g3_b : Int) (g4_cmp_f : Nat) (g4_cmp_c : Array Value) (h : Hp) (Q : List Value → Hp → Prop) : Prop := Fn PP 204 #[(Value.slice g0_data.a g0_data.n g0_data.c), (Value.int .i64 g1_a), (Value.int .i64 g2_m), (Value.int .i64 g3_b), (Value.func (.func g4_cmp_f) #[] g4_cmp_c)] h Q
/-- slices.symMergeCmpFunc[*livery/table.entries] -/
def S_slices_symMergeCmpFunc_ptable_entries (g0_data : Sl) (g1_a : Int) (g2_m : Int) (g3_b : Int) (g4_cmp_f : Nat) (g4_cmp_c : Array Value) (h : Hp) (Q : List Value → Hp → Prop) : Prop := Fn PP 174 #[(Value.slice g0_data.a g0_data.n g0_data.c), (Value.int .i64 g1_a), (Value.int .i64 g2_m), (Value.int .i64 g3_b), (Value.func (.func g4_cmp_f) #[] g4_cmp_c)] h Q
/-- slices.stableCmpFunc[*livery/table.entries] -/
def S_slices_stableCmpFunc_ptable_entries (g0_data : Sl) (g1_n : Int) (g2_cmp_f : Nat) (g2_cmp_c : Array Value) (h : Hp) (Q : List Value → Hp → Prop) : Prop := Fn PP 144 #[(Value.slice g0_data.a g0_data.n g0_data.c), (Value.int .i64 g1_n), (Value.func (.func g2_cmp_f) #[] g2_cmp_c)] h Q
/-- slices.SortStableFunc[[]*livery/table.entries,*livery/table.entries] -/
def S_slices_SortStableFunc_sptable_entries_ptable_entries (g0_x : Sl) (g1_cmp_f : Nat) (g1_cmp_c : Array Value) (h : Hp) (Q : List Value → Hp → Prop) : Prop := Fn PP 103 #[(Value.slice g0_x.a g0_x.n g0_x.c), (Value.func (.func g1_cmp_f) #[] g1_cmp_c)] h Q
/-- (*livery/table.Store).standing -/
def S_table_Store_standing (g0_s : Option Addr) (g1_n : Int) (h : Hp) (Q : List Value → Hp → Prop) : Prop := Fn PP 60 #[(Value.pointer g0_s), (Value.int .i64 g1_n)] h Q
/-- slices.IndexFunc[[]*livery/table.entries,*livery/table.entries] -/
def S_slices_IndexFunc_sptable_entries_ptable_entries (g0_s : Sl) (g1_f_f : Nat) (g1_f_c : Array Value) (h : Hp) (Q : List Value → Hp → Prop) : Prop := Fn PP 100 #[(Value.slice g0_s.a g0_s.n g0_s.c), (Value.func (.func g1_f_f) #[] g1_f_c)] h Q
/-- (*livery/table.Store).get -/
def S_table_Store_get (g0_s : Option Addr) (g1_rel : Int) (g2_name : ByteArray) (h : Hp) (Q : List Value → Hp → Prop) : Prop := Fn PP 59 #[(Value.pointer g0_s), (Value.int .i64 g1_rel), (Value.string g2_name)] h Q
/-- slices.IndexFunc[[]livery/api.Column,livery/api.Column] -/
def S_slices_IndexFunc_sapi_Column_api_Column (g0_s : Sl) (g1_f_f : Nat) (g1_f_c : Array Value) (h : Hp) (Q : List Value → Hp → Prop) : Prop := Fn PP 106 #[(Value.slice g0_s.a g0_s.n g0_s.c), (Value.func (.func g1_f_f) #[] g1_f_c)] h Q
/-- livery/row.Find -/
def S_row_Find (g0_l : Sl) (g1_name : ByteArray) (h : Hp) (Q : List Value → Hp → Prop) : Prop := Fn PP 61 #[(Value.slice g0_l.a g0_l.n g0_l.c), (Value.string g1_name)] h Q
/-- livery/leaf.New -/
def S_leaf_New (g0_fan : Int) (h : Hp) (Q : List Value → Hp → Prop) : Prop := Fn PP 146 #[(Value.int .i64 g0_fan)] h Q
/-- livery/index.New -/
def S_index_New (g0_fan : Int) (h : Hp) (Q : List Value → Hp → Prop) : Prop := Fn PP 108 #[(Value.int .i64 g0_fan)] h Q
/-- (*livery/table.Store).add -/
def S_table_Store_add (g0_s : Option Addr) (g1_r : Option Addr) (g2_x_0 : ByteArray) (g2_x_1 : ByteArray) (g2_x_2 : Bool) (g2_x_3 : Int) (g2_x_4 : Int) (g2_x_5 : Int) (h : Hp) (Q : List Value → Hp → Prop) : Prop := Fn PP 62 #[(Value.pointer g0_s), (Value.pointer g1_r), (Value.agg #[(Value.string g2_x_0), (Value.string g2_x_1), (Value.bool g2_x_2), (Value.int .i64 g2_x_3), (Value.int .i64 g2_x_4), (Value.int .i64 g2_x_5)])] h Q
/-- (*livery/table.Store).Make -/
def S_table_Store_Make (g0_s : Option Addr) (g1_xid : Int) (g2_rel : Int) (g3_x_0 : ByteArray) (g3_x_1 : ByteArray) (g3_x_2 : Bool) (g3_x_3 : Int) (g4_cols : Sl) (h : Hp) (Q : List Value → Hp → Prop) : Prop := Fn PP 14 #[(Value.pointer g0_s), (Value.int .i64 g1_xid), (Value.int .i64 g2_rel), (Value.agg #[(Value.string g3_x_0), (Value.string g3_x_1), (Value.bool g3_x_2), (Value.int .i64 g3_x_3)]), (Value.slice g4_cols.a g4_cols.n g4_cols.c)] h Q
/-- (*livery/ssi.Ssi).Table -/
def S_ssi_Ssi_Table (g0_s : Option Addr) (h : Hp) (Q : List Value → Hp → Prop) : Prop := Fn PP 65 #[(Value.pointer g0_s)] h Q
/-- slices.Clone[[]livery/api.Value,livery/api.Value] -/
def S_slices_Clone_sapi_Value_api_Value (g0_s : Sl) (h : Hp) (Q : List Value → Hp → Prop) : Prop := Fn PP 79 #[(Value.slice g0_s.a g0_s.n g0_s.c)] h Q
/-- (*livery/heap.Rel).Insert -/
def S_heap_Rel_Insert (g0_r : Option Addr) (g1_xid : Int) (g2_row : Sl) (h : Hp) (Q : List Value → Hp → Prop) : Prop := Fn PP 69 #[(Value.pointer g0_r), (Value.int .i64 g1_xid), (Value.slice g2_row.a g2_row.n g2_row.c)] h Q
/-- strings.Join -/
def S_strings_Join (g0_elems : Sl) (g1_sep : ByteArray) (h : Hp) (Q : List Value → Hp → Prop) : Prop := Fn PP 179 #[(Value.slice g0_elems.a g0_elems.n g0_elems.c), (Value.string g1_sep)] h Q
/-- livery/key.joined -/
def S_key_joined (g0_l : Sl) (h : Hp) (Q : List Value → Hp → Prop) : Prop := Fn PP 153 #[(Value.slice g0_l.a g0_l.n g0_l.c)] h Q
/-- livery/value.Good -/
def S_value_Good (g0_v_0 : Int) (g0_v_1 : Int) (g0_v_2 : Nat) (g0_v_3 : ByteArray) (h : Hp) (Q : List Value → Hp → Prop) : Prop := Fn PP 175 #[(Value.agg #[(Value.int .i64 g0_v_0), (Value.int .i64 g0_v_1), (Value.float .f64 g0_v_2), (Value.string g0_v_3)])] h Q
/-- livery/key.eight -/
def S_key_eight (g0_u : Int) (h : Hp) (Q : List Value → Hp → Prop) : Prop := Fn PP 176 #[(Value.int .u64 g0_u)] h Q
/-- livery/float.Canon -/
def S_float_Canon (g0_f : Nat) (h : Hp) (Q : List Value → Hp → Prop) : Prop := Fn PP 210 #[(Value.float .f64 g0_f)] h Q
/-- livery/float.Bits -/
def S_float_Bits (g0_f : Nat) (h : Hp) (Q : List Value → Hp → Prop) : Prop := Fn PP 177 #[(Value.float .f64 g0_f)] h Q
/-- internal/bytealg.MakeNoZero -/
def S_internal_bytealg_MakeNoZero (g0_x : Int) (h : Hp) (Q : List Value → Hp → Prop) : Prop := Fn PP 250 #[(Value.int .i64 g0_x)] h Q
/-- (*strings.Builder).grow -/
def S_strings_Builder_grow (g0_b : Option Addr) (g1_n : Int) (h : Hp) (Q : List Value → Hp → Prop) : Prop := Fn PP 236 #[(Value.pointer g0_b), (Value.int .i64 g1_n)] h Q
/-- (*strings.Builder).Grow -/
def S_strings_Builder_Grow (g0_b : Option Addr) (g1_n : Int) (h : Hp) (Q : List Value → Hp → Prop) : Prop := Fn PP 212 #[(Value.pointer g0_b), (Value.int .i64 g1_n)] h Q
/-- (*strings.Builder).WriteString -/
def S_strings_Builder_WriteString (g0_b : Option Addr) (g1_s : ByteArray) (h : Hp) (Q : List Value → Hp → Prop) : Prop := Fn PP 213 #[(Value.pointer g0_b), (Value.string g1_s)] h Q
/-- (*strings.Builder).String -/
def S_strings_Builder_String (g0_b : Option Addr) (h : Hp) (Q : List Value → Hp → Prop) : Prop := Fn PP 214 #[(Value.pointer g0_b)] h Q
/-- internal/bytealg.IndexByteString -/
def S_internal_bytealg_IndexByteString (g0_x : ByteArray) (g1_x : Int) (h : Hp) (Q : List Value → Hp → Prop) : Prop := Fn PP 268 #[(Value.string g0_x), (Value.int .u8 g1_x)] h Q
/-- internal/stringslite.IndexByte -/
def S_internal_stringslite_IndexByte (g0_s : ByteArray) (g1_c : Int) (h : Hp) (Q : List Value → Hp → Prop) : Prop := Fn PP 261 #[(Value.string g0_s), (Value.int .u8 g1_c)] h Q
/-- internal/bytealg.IndexString -/
def S_internal_bytealg_IndexString (g0_x : ByteArray) (g1_x : ByteArray) (h : Hp) (Q : List Value → Hp → Prop) : Prop := Fn PP 262 #[(Value.string g0_x), (Value.string g1_x)] h Q
/-- internal/bytealg.Cutover -/
def S_internal_bytealg_Cutover (g0_n : Int) (h : Hp) (Q : List Value → Hp → Prop) : Prop := Fn PP 263 #[(Value.int .i64 g0_n)] h Q
/-- internal/bytealg.hashStr[string] -/
def S_internal_bytealg_hashStr_string (g0_sep : ByteArray) (h : Hp) (Q : List Value → Hp → Prop) : Prop := Fn PP 269 #[(Value.string g0_sep)] h Q
/-- internal/bytealg.IndexRabinKarp[string] -/
def S_internal_bytealg_IndexRabinKarp_string (g0_s : ByteArray) (g1_sep : ByteArray) (h : Hp) (Q : List Value → Hp → Prop) : Prop := Fn PP 264 #[(Value.string g0_s), (Value.string g1_sep)] h Q
/-- internal/stringslite.Index -/
def S_internal_stringslite_Index (g0_s : ByteArray) (g1_substr : ByteArray) (h : Hp) (Q : List Value → Hp → Prop) : Prop := Fn PP 247 #[(Value.string g0_s), (Value.string g1_substr)] h Q
/-- strings.Index -/
def S_strings_Index (g0_s : ByteArray) (g1_substr : ByteArray) (h : Hp) (Q : List Value → Hp → Prop) : Prop := Fn PP 233 #[(Value.string g0_s), (Value.string g1_substr)] h Q
/-- unicode/utf8.RuneCountInString -/
def S_unicode_utf8_RuneCountInString (g0_s : ByteArray) (h : Hp) (Q : List Value → Hp → Prop) : Prop := Fn PP 245 #[(Value.string g0_s)] h Q
/-- internal/bytealg.CountString -/
def S_internal_bytealg_CountString (g0_x : ByteArray) (g1_x : Int) (h : Hp) (Q : List Value → Hp → Prop) : Prop := Fn PP 246 #[(Value.string g0_x), (Value.int .u8 g1_x)] h Q
/-- strings.Count -/
def S_strings_Count (g0_s : ByteArray) (g1_substr : ByteArray) (h : Hp) (Q : List Value → Hp → Prop) : Prop := Fn PP 232 #[(Value.string g0_s), (Value.string g1_substr)] h Q
/-- unicode/utf8.decodeRuneInStringSlow -/
def S_unicode_utf8_decodeRuneInStringSlow (g0_s : ByteArray) (h : Hp) (Q : List Value → Hp → Prop) : Prop := Fn PP 248 #[(Value.string g0_s)] h Q
/-- unicode/utf8.DecodeRuneInString -/
def S_unicode_utf8_DecodeRuneInString (g0_s : ByteArray) (h : Hp) (Q : List Value → Hp → Prop) : Prop := Fn PP 234 #[(Value.string g0_s)] h Q
/-- strings.Replace -/
def S_strings_Replace (g0_s : ByteArray) (g1_old : ByteArray) (g2_new : ByteArray) (g3_n : Int) (h : Hp) (Q : List Value → Hp → Prop) : Prop := Fn PP 211 #[(Value.string g0_s), (Value.string g1_old), (Value.string g2_new), (Value.int .i64 g3_n)] h Q
/-- strings.ReplaceAll -/
def S_strings_ReplaceAll (g0_s : ByteArray) (g1_old : ByteArray) (g2_new : ByteArray) (h : Hp) (Q : List Value → Hp → Prop) : Prop := Fn PP 178 #[(Value.string g0_s), (Value.string g1_old), (Value.string g2_new)] h Q
/-- livery/key.Of -/
def S_key_Of (g0_v_0 : Int) (g0_v_1 : Int) (g0_v_2 : Nat) (g0_v_3 : ByteArray) (h : Hp) (Q : List Value → Hp → Prop) : Prop := Fn PP 152 #[(Value.agg #[(Value.int .i64 g0_v_0), (Value.int .i64 g0_v_1), (Value.float .f64 g0_v_2), (Value.string g0_v_3)])] h Q
/-- livery/key.Entry -/
def S_key_Entry (g0_v_0 : Int) (g0_v_1 : Int) (g0_v_2 : Nat) (g0_v_3 : ByteArray) (g1_n : Int) (h : Hp) (Q : List Value → Hp → Prop) : Prop := Fn PP 113 #[(Value.agg #[(Value.int .i64 g0_v_0), (Value.int .i64 g0_v_1), (Value.float .f64 g0_v_2), (Value.string g0_v_3)]), (Value.int .i64 g1_n)] h Q
/-- (*livery/leaf.Leaves).at -/
def S_leaf_Leaves_at (g0_x : Option Addr) (g1_k : ByteArray) (h : Hp) (Q : List Value → Hp → Prop) : Prop := Fn PP 154 #[(Value.pointer g0_x), (Value.string g1_k)] h Q
/-- cmp.isNaN[string] -/
def S_cmp_isNaN_string (g0_x : ByteArray) (h : Hp) (Q : List Value → Hp → Prop) : Prop := Fn PP 145 #[(Value.string g0_x)] h Q
/-- cmp.Less[string] -/
def S_cmp_Less_string (g0_x : ByteArray) (g1_y : ByteArray) (h : Hp) (Q : List Value → Hp → Prop) : Prop := Fn PP 180 #[(Value.string g0_x), (Value.string g1_y)] h Q
/-- slices.isNaN[string] -/
def S_slices_isNaN_string (g0_x : ByteArray) (h : Hp) (Q : List Value → Hp → Prop) : Prop := Fn PP 181 #[(Value.string g0_x)] h Q
/-- slices.BinarySearch[[]string,string] -/
def S_slices_BinarySearch_sstring_string (g0_x : Sl) (g1_target : ByteArray) (h : Hp) (Q : List Value → Hp → Prop) : Prop := Fn PP 155 #[(Value.slice g0_x.a g0_x.n g0_x.c), (Value.string g1_target)] h Q
/-- slices.overlaps[string] -/
def S_slices_overlaps_string (g0_x : Sl) (g1_x : Sl) (h : Hp) (Q : List Value → Hp → Prop) : Prop := Fn PP 182 #[(Value.slice g0_x.a g0_x.n g0_x.c), (Value.slice g1_x.a g1_x.n g1_x.c)] h Q
/-- slices.Reverse[[]string,string] -/
def S_slices_Reverse_sstring_string (g0_s : Sl) (h : Hp) (Q : List Value → Hp → Prop) : Prop := Fn PP 237 #[(Value.slice g0_s.a g0_s.n g0_s.c)] h Q
/-- slices.rotateLeft[string] -/
def S_slices_rotateLeft_string (g0_s : Sl) (g1_r : Int) (h : Hp) (Q : List Value → Hp → Prop) : Prop := Fn PP 215 #[(Value.slice g0_s.a g0_s.n g0_s.c), (Value.int .i64 g1_r)] h Q
/-- slices.rotateRight[string] -/
def S_slices_rotateRight_string (g0_s : Sl) (g1_r : Int) (h : Hp) (Q : List Value → Hp → Prop) : Prop := Fn PP 183 #[(Value.slice g0_s.a g0_s.n g0_s.c), (Value.int .i64 g1_r)] h Q
/-- slices.Insert[[]string,string] -/
def S_slices_Insert_sstring_string (g0_s : Sl) (g1_i : Int) (g2_v : Sl) (h : Hp) (Q : List Value → Hp → Prop) : Prop := Fn PP 156 #[(Value.slice g0_s.a g0_s.n g0_s.c), (Value.int .i64 g1_i), (Value.slice g2_v.a g2_v.n g2_v.c)] h Q
/-- slices.Clone[[]string,string] -/
def S_slices_Clone_sstring_string (g0_s : Sl) (h : Hp) (Q : List Value → Hp → Prop) : Prop := Fn PP 157 #[(Value.slice g0_s.a g0_s.n g0_s.c)] h Q
/-- slices.overlaps[*livery/leaf.one] -/
def S_slices_overlaps_pleaf_one (g0_x : Sl) (g1_x : Sl) (h : Hp) (Q : List Value → Hp → Prop) : Prop := Fn PP 184 #[(Value.slice g0_x.a g0_x.n g0_x.c), (Value.slice g1_x.a g1_x.n g1_x.c)] h Q
/-- slices.Reverse[[]*livery/leaf.one,*livery/leaf.one] -/
def S_slices_Reverse_spleaf_one_pleaf_one (g0_s : Sl) (h : Hp) (Q : List Value → Hp → Prop) : Prop := Fn PP 238 #[(Value.slice g0_s.a g0_s.n g0_s.c)] h Q
/-- slices.rotateLeft[*livery/leaf.one] -/
def S_slices_rotateLeft_pleaf_one (g0_s : Sl) (g1_r : Int) (h : Hp) (Q : List Value → Hp → Prop) : Prop := Fn PP 216 #[(Value.slice g0_s.a g0_s.n g0_s.c), (Value.int .i64 g1_r)] h Q
/-- slices.rotateRight[*livery/leaf.one] -/
def S_slices_rotateRight_pleaf_one (g0_s : Sl) (g1_r : Int) (h : Hp) (Q : List Value → Hp → Prop) : Prop := Fn PP 185 #[(Value.slice g0_s.a g0_s.n g0_s.c), (Value.int .i64 g1_r)] h Q
/-- slices.Insert[[]*livery/leaf.one,*livery/leaf.one] -/
def S_slices_Insert_spleaf_one_pleaf_one (g0_s : Sl) (g1_i : Int) (g2_v : Sl) (h : Hp) (Q : List Value → Hp → Prop) : Prop := Fn PP 158 #[(Value.slice g0_s.a g0_s.n g0_s.c), (Value.int .i64 g1_i), (Value.slice g2_v.a g2_v.n g2_v.c)] h Q
/-- (*livery/leaf.Leaves).Insert -/
def S_leaf_Leaves_Insert (g0_x : Option Addr) (g1_k : ByteArray) (h : Hp) (Q : List Value → Hp → Prop) : Prop := Fn PP 114 #[(Value.pointer g0_x), (Value.string g1_k)] h Q
/-- (*livery/index.Index).Add -/
def S_index_Index_Add (g0_x : Option Addr) (g1_v_0 : Int) (g1_v_1 : Int) (g1_v_2 : Nat) (g1_v_3 : ByteArray) (g2_tid : Int) (h : Hp) (Q : List Value → Hp → Prop) : Prop := Fn PP 70 #[(Value.pointer g0_x), (Value.agg #[(Value.int .i64 g1_v_0), (Value.int .i64 g1_v_1), (Value.float .f64 g1_v_2), (Value.string g1_v_3)]), (Value.int .i64 g2_tid)] h Q
/-- livery/row.Pad -/
def S_row_Pad (g0_l : Sl) (g1_r : Sl) (h : Hp) (Q : List Value → Hp → Prop) : Prop := Fn PP 115 #[(Value.slice g0_l.a g0_l.n g0_l.c), (Value.slice g1_r.a g1_r.n g1_r.c)] h Q
/-- (*livery/table.entries).of -/
def S_table_entries_of (g0_x : Option Addr) (g1_r : Sl) (g2_cols : Sl) (h : Hp) (Q : List Value → Hp → Prop) : Prop := Fn PP 71 #[(Value.pointer g0_x), (Value.slice g1_r.a g1_r.n g1_r.c), (Value.slice g2_cols.a g2_cols.n g2_cols.c)] h Q
/-- cmp.isNaN[int] -/
def S_cmp_isNaN_int (g0_x : Int) (h : Hp) (Q : List Value → Hp → Prop) : Prop := Fn PP 222 #[(Value.int .i64 g0_x)] h Q
/-- cmp.Less[int] -/
def S_cmp_Less_int (g0_x : Int) (g1_y : Int) (h : Hp) (Q : List Value → Hp → Prop) : Prop := Fn PP 194 #[(Value.int .i64 g0_x), (Value.int .i64 g1_y)] h Q
/-- slices.insertionSortOrdered[int] -/
def S_slices_insertionSortOrdered_int (g0_data : Sl) (g1_a : Int) (g2_b : Int) (h : Hp) (Q : List Value → Hp → Prop) : Prop := Fn PP 188 #[(Value.slice g0_data.a g0_data.n g0_data.c), (Value.int .i64 g1_a), (Value.int .i64 g2_b)] h Q
/-- slices.siftDownOrdered[int] -/
def S_slices_siftDownOrdered_int (g0_data : Sl) (g1_lo : Int) (g2_hi : Int) (g3_first : Int) (h : Hp) (Q : List Value → Hp → Prop) : Prop := Fn PP 217 #[(Value.slice g0_data.a g0_data.n g0_data.c), (Value.int .i64 g1_lo), (Value.int .i64 g2_hi), (Value.int .i64 g3_first)] h Q
/-- slices.heapSortOrdered[int] -/
def S_slices_heapSortOrdered_int (g0_data : Sl) (g1_a : Int) (g2_b : Int) (h : Hp) (Q : List Value → Hp → Prop) : Prop := Fn PP 189 #[(Value.slice g0_data.a g0_data.n g0_data.c), (Value.int .i64 g1_a), (Value.int .i64 g2_b)] h Q
/-- math/bits.Len64 -/
def S_math_bits_Len64 (g0_x : Int) (h : Hp) (Q : List Value → Hp → Prop) : Prop := Fn PP 198 #[(Value.int .u64 g0_x)] h Q
/-- math/bits.Len -/
def S_math_bits_Len (g0_x : Int) (h : Hp) (Q : List Value → Hp → Prop) : Prop := Fn PP 165 #[(Value.int .u64 g0_x)] h Q
/-- slices.nextPowerOfTwo -/
def S_slices_nextPowerOfTwo (g0_length : Int) (h : Hp) (Q : List Value → Hp → Prop) : Prop := Fn PP 218 #[(Value.int .i64 g0_length)] h Q
/-- (*slices.xorshift).Next -/
def S_slices_xorshift_Next (g0_r : Option Addr) (h : Hp) (Q : List Value → Hp → Prop) : Prop := Fn PP 219 #[(Value.pointer g0_r)] h Q
/-- slices.breakPatternsOrdered[int] -/
def S_slices_breakPatternsOrdered_int (g0_data : Sl) (g1_a : Int) (g2_b : Int) (h : Hp) (Q : List Value → Hp → Prop) : Prop := Fn PP 190 #[(Value.slice g0_data.a g0_data.n g0_data.c), (Value.int .i64 g1_a), (Value.int .i64 g2_b)] h Q
/-- slices.order2Ordered[int] -/
def S_slices_order2Ordered_int (g0_data : Sl) (g1_a : Int) (g2_b : Int) (g3_swaps : Option Addr) (h : Hp) (Q : List Value → Hp → Prop) : Prop := Fn PP 239 #[(Value.slice g0_data.a g0_data.n g0_data.c), (Value.int .i64 g1_a), (Value.int .i64 g2_b), (Value.pointer g3_swaps)] h Q
/-- slices.medianOrdered[int] -/
def S_slices_medianOrdered_int (g0_data : Sl) (g1_a : Int) (g2_b : Int) (g3_c : Int) (g4_swaps : Option Addr) (h : Hp) (Q : List Value → Hp → Prop) : Prop := Fn PP 221 #[(Value.slice g0_data.a g0_data.n g0_data.c), (Value.int .i64 g1_a), (Value.int .i64 g2_b), (Value.int .i64 g3_c), (Value.pointer g4_swaps)] h Q
/-- slices.medianAdjacentOrdered[int] -/
def S_slices_medianAdjacentOrdered_int (g0_data : Sl) (g1_a : Int) (g2_swaps : Option Addr) (h : Hp) (Q : List Value → Hp → Prop) : Prop := Fn PP 220 #[(Value.slice g0_data.a g0_data.n g0_data.c), (Value.int .i64 g1_a), (Value.pointer g2_swaps)] h Q
/-- slices.choosePivotOrdered[int] -/
def S_slices_choosePivotOrdered_int (g0_data : Sl) (g1_a : Int) (g2_b : Int) (h : Hp) (Q : List Value → Hp → Prop) : Prop := Fn PP 191 #[(Value.slice g0_data.a g0_data.n g0_data.c), (Value.int .i64 g1_a), (Value.int .i64 g2_b)] h Q
/-- slices.reverseRangeOrdered[int] -/
def S_slices_reverseRangeOrdered_int (g0_data : Sl) (g1_a : Int) (g2_b : Int) (h : Hp) (Q : List Value → Hp → Prop) : Prop := Fn PP 192 #[(Value.slice g0_data.a g0_data.n g0_data.c), (Value.int .i64 g1_a), (Value.int .i64 g2_b)] h Q
/-- slices.partialInsertionSortOrdered[int] -/
def S_slices_partialInsertionSortOrdered_int (g0_data : Sl) (g1_a : Int) (g2_b : Int) (h : Hp) (Q : List Value → Hp → Prop) : Prop := Fn PP 193 #[(Value.slice g0_data.a g0_data.n g0_data.c), (Value.int .i64 g1_a), (Value.int .i64 g2_b)] h Q
/-- slices.partitionEqualOrdered[int] -/
def S_slices_partitionEqualOrdered_int (g0_data : Sl) (g1_a : Int) (g2_b : Int) (g3_pivot : Int) (h : Hp) (Q : List Value → Hp → Prop) : Prop := Fn PP 195 #[(Value.slice g0_data.a g0_data.n g0_data.c), (Value.int .i64 g1_a), (Value.int .i64 g2_b), (Value.int .i64 g3_pivot)] h Q
/-- slices.partitionOrdered[int] -/
def S_slices_partitionOrdered_int (g0_data : Sl) (g1_a : Int) (g2_b : Int) (g3_pivot : Int) (h : Hp) (Q : List Value → Hp → Prop) : Prop := Fn PP 196 #[(Value.slice g0_data.a g0_data.n g0_data.c), (Value.int .i64 g1_a), (Value.int .i64 g2_b), (Value.int .i64 g3_pivot)] h Q
/-- slices.pdqsortOrdered[int] -/
def S_slices_pdqsortOrdered_int (g0_data : Sl) (g1_a : Int) (g2_b : Int) (g3_limit : Int) (h : Hp) (Q : List Value → Hp → Prop) : Prop := Fn PP 164 #[(Value.slice g0_data.a g0_data.n g0_data.c), (Value.int .i64 g1_a), (Value.int .i64 g2_b), (Value.int .i64 g3_limit)] h Q
/-- slices.Sort[[]int,int] -/
def S_slices_Sort_sint_int (g0_x : Sl) (h : Hp) (Q : List Value → Hp → Prop) : Prop := Fn PP 123 #[(Value.slice g0_x.a g0_x.n g0_x.c)] h Q
/-- (*livery/siread.Table).owners -/
def S_siread_Table_owners (g0_t : Option Addr) (g1_such_f : Nat) (g1_such_c : Array Value) (h : Hp) (Q : List Value → Hp → Prop) : Prop := Fn PP 110 #[(Value.pointer g0_t), (Value.func (.func g1_such_f) #[] g1_such_c)] h Q
/-- (livery/siread.Thing).fine -/
def S_siread_Thing_fine (g0_x_0 : Int) (g0_x_1 : ByteArray) (g0_x_2 : Int) (g0_x_3 : ByteArray) (g0_x_4 : Int) (h : Hp) (Q : List Value → Hp → Prop) : Prop := Fn PP 147 #[(Value.agg #[(Value.int .i64 g0_x_0), (Value.string g0_x_1), (Value.int .i64 g0_x_2), (Value.string g0_x_3), (Value.int .i64 g0_x_4)])] h Q
/-- (livery/siread.Thing).rel -/
def S_siread_Thing_rel (g0_x_0 : Int) (g0_x_1 : ByteArray) (g0_x_2 : Int) (g0_x_3 : ByteArray) (g0_x_4 : Int) (h : Hp) (Q : List Value → Hp → Prop) : Prop := Fn PP 148 #[(Value.agg #[(Value.int .i64 g0_x_0), (Value.string g0_x_1), (Value.int .i64 g0_x_2), (Value.string g0_x_3), (Value.int .i64 g0_x_4)])] h Q
/-- (*livery/siread.Table).count -/
def S_siread_Table_count (g0_t : Option Addr) (g1_owner : Int) (g2_rel : Int) (h : Hp) (Q : List Value → Hp → Prop) : Prop := Fn PP 149 #[(Value.pointer g0_t), (Value.int .i64 g1_owner), (Value.int .i64 g2_rel)] h Q
/-- slices.AppendSeq[[]livery/siread.Thing,livery/siread.Thing] -/
def S_slices_AppendSeq_ssiread_Thing_siread_Thing (g0_s : Sl) (g1_seq_f : Nat) (g1_seq_c : Array Value) (h : Hp) (Q : List Value → Hp → Prop) : Prop := Fn PP 243 #[(Value.slice g0_s.a g0_s.n g0_s.c), (Value.func (.func g1_seq_f) #[] g1_seq_c)] h Q
/-- slices.Collect[livery/siread.Thing] -/
def S_slices_Collect_siread_Thing (g0_seq_f : Nat) (g0_seq_c : Array Value) (h : Hp) (Q : List Value → Hp → Prop) : Prop := Fn PP 224 #[(Value.func (.func g0_seq_f) #[] g0_seq_c)] h Q
/-- slices.insertionSortCmpFunc[livery/siread.Thing] -/
def S_slices_insertionSortCmpFunc_siread_Thing (g0_data : Sl) (g1_a : Int) (g2_b : Int) (g3_cmp_f : Nat) (g3_cmp_c : Array Value) (h : Hp) (Q : List Value → Hp → Prop) : Prop := Fn PP 253 #[(Value.slice g0_data.a g0_data.n g0_data.c), (Value.int .i64 g1_a), (Value.int .i64 g2_b), (Value.func (.func g3_cmp_f) #[] g3_cmp_c)] h Q
/-- slices.siftDownCmpFunc[livery/siread.Thing] -/
def S_slices_siftDownCmpFunc_siread_Thing (g0_data : Sl) (g1_lo : Int) (g2_hi : Int) (g3_first : Int) (g4_cmp_f : Nat) (g4_cmp_c : Array Value) (h : Hp) (Q : List Value → Hp → Prop) : Prop := Fn PP 265 #[(Value.slice g0_data.a g0_data.n g0_data.c), (Value.int .i64 g1_lo), (Value.int .i64 g2_hi), (Value.int .i64 g3_first), (Value.func (.func g4_cmp_f) #[] g4_cmp_c)] h Q
/-- slices.heapSortCmpFunc[livery/siread.Thing] -/
def S_slices_heapSortCmpFunc_siread_Thing (g0_data : Sl) (g1_a : Int) (g2_b : Int) (g3_cmp_f : Nat) (g3_cmp_c : Array Value) (h : Hp) (Q : List Value → Hp → Prop) : Prop := Fn PP 254 #[(Value.slice g0_data.a g0_data.n g0_data.c), (Value.int .i64 g1_a), (Value.int .i64 g2_b), (Value.func (.func g3_cmp_f) #[] g3_cmp_c)] h Q
/-- slices.breakPatternsCmpFunc[livery/siread.Thing] -/
def S_slices_breakPatternsCmpFunc_siread_Thing (g0_data : Sl) (g1_a : Int) (g2_b : Int) (g3_cmp_f : Nat) (g3_cmp_c : Array Value) (h : Hp) (Q : List Value → Hp → Prop) : Prop := Fn PP 255 #[(Value.slice g0_data.a g0_data.n g0_data.c), (Value.int .i64 g1_a), (Value.int .i64 g2_b), (Value.func (.func g3_cmp_f) #[] g3_cmp_c)] h Q
/-- slices.order2CmpFunc[livery/siread.Thing] -/
def S_slices_order2CmpFunc_siread_Thing (g0_data : Sl) (g1_a : Int) (g2_b : Int) (g3_swaps : Option Addr) (g4_cmp_f : Nat) (g4_cmp_c : Array Value) (h : Hp) (Q : List Value → Hp → Prop) : Prop := Fn PP 270 #[(Value.slice g0_data.a g0_data.n g0_data.c), (Value.int .i64 g1_a), (Value.int .i64 g2_b), (Value.pointer g3_swaps), (Value.func (.func g4_cmp_f) #[] g4_cmp_c)] h Q
/-- slices.medianCmpFunc[livery/siread.Thing] -/
def S_slices_medianCmpFunc_siread_Thing (g0_data : Sl) (g1_a : Int) (g2_b : Int) (g3_c : Int) (g4_swaps : Option Addr) (g5_cmp_f : Nat) (g5_cmp_c : Array Value) (h : Hp) (Q : List Value → Hp → Prop) : Prop := Fn PP 267 #[(Value.slice g0_data.a g0_data.n g0_data.c), (Value.int .i64 g1_a), (Value.int .i64 g2_b), (Value.int .i64 g3_c), (Value.pointer g4_swaps), (Value.func (.func g5_cmp_f) #[] g5_cmp_c)] h Q
/-- slices.medianAdjacentCmpFunc[livery/siread.Thing] -/
def S_slices_medianAdjacentCmpFunc_siread_Thing (g0_data : Sl) (g1_a : Int) (g2_swaps : Option Addr) (g3_cmp_f : Nat) (g3_cmp_c : Array Value) (h : Hp) (Q : List Value → Hp → Prop) : Prop := Fn PP 266 #[(Value.slice g0_data.a g0_data.n g0_data.c), (Value.int .i64 g1_a), (Value.pointer g2_swaps), (Value.func (.func g3_cmp_f) #[] g3_cmp_c)] h Q
/-- slices.choosePivotCmpFunc[livery/siread.Thing] -/
def S_slices_choosePivotCmpFunc_siread_Thing (g0_data : Sl) (g1_a : Int) (g2_b : Int) (g3_cmp_f : Nat) (g3_cmp_c : Array Value) (h : Hp) (Q : List Value → Hp → Prop) : Prop := Fn PP 256 #[(Value.slice g0_data.a g0_data.n g0_data.c), (Value.int .i64 g1_a), (Value.int .i64 g2_b), (Value.func (.func g3_cmp_f) #[] g3_cmp_c)] h Q
/-- slices.reverseRangeCmpFunc[livery/siread.Thing] -/
def S_slices_reverseRangeCmpFunc_siread_Thing (g0_data : Sl) (g1_a : Int) (g2_b : Int) (g3_cmp_f : Nat) (g3_cmp_c : Array Value) (h : Hp) (Q : List Value → Hp → Prop) : Prop := Fn PP 257 #[(Value.slice g0_data.a g0_data.n g0_data.c), (Value.int .i64 g1_a), (Value.int .i64 g2_b), (Value.func (.func g3_cmp_f) #[] g3_cmp_c)] h Q
/-- slices.partialInsertionSortCmpFunc[livery/siread.Thing] -/
def S_slices_partialInsertionSortCmpFunc_siread_Thing (g0_data : Sl) (g1_a : Int) (g2_b : Int) (g3_cmp_f : Nat) (g3_cmp_c : Array Value) (h : Hp) (Q : List Value → Hp → Prop) : Prop := Fn PP 258 #[(Value.slice g0_data.a g0_data.n g0_data.c), (Value.int .i64 g1_a), (Value.int .i64 g2_b), (Value.func (.func g3_cmp_f) #[] g3_cmp_c)] h Q
/-- slices.partitionEqualCmpFunc[livery/siread.Thing] -/
def S_slices_partitionEqualCmpFunc_siread_Thing (g0_data : Sl) (g1_a : Int) (g2_b : Int) (g3_pivot : Int) (g4_cmp_f : Nat) (g4_cmp_c : Array Value) (h : Hp) (Q : List Value → Hp → Prop) : Prop := Fn PP 259 #[(Value.slice g0_data.a g0_data.n g0_data.c), (Value.int .i64 g1_a), (Value.int .i64 g2_b), (Value.int .i64 g3_pivot), (Value.func (.func g4_cmp_f) #[] g4_cmp_c)] h Q
/-- slices.partitionCmpFunc[livery/siread.Thing] -/
def S_slices_partitionCmpFunc_siread_Thing (g0_data : Sl) (g1_a : Int) (g2_b : Int) (g3_pivot : Int) (g4_cmp_f : Nat) (g4_cmp_c : Array Value) (h : Hp) (Q : List Value → Hp → Prop) : Prop := Fn PP 260 #[(Value.slice g0_data.a g0_data.n g0_data.c), (Value.int .i64 g1_a), (Value.int .i64 g2_b), (Value.int .i64 g3_pivot), (Value.func (.func g4_cmp_f) #[] g4_cmp_c)] h Q
/-- slices.pdqsortCmpFunc[livery/siread.Thing] -/
def S_slices_pdqsortCmpFunc_siread_Thing (g0_data : Sl) (g1_a : Int) (g2_b : Int) (g3_limit : Int) (g4_cmp_f : Nat) (g4_cmp_c : Array Value) (h : Hp) (Q : List Value → Hp → Prop) : Prop := Fn PP 244 #[(Value.slice g0_data.a g0_data.n g0_data.c), (Value.int .i64 g1_a), (Value.int .i64 g2_b), (Value.int .i64 g3_limit), (Value.func (.func g4_cmp_f) #[] g4_cmp_c)] h Q
/-- slices.SortFunc[[]livery/siread.Thing,livery/siread.Thing] -/
def S_slices_SortFunc_ssiread_Thing_siread_Thing (g0_x : Sl) (g1_cmp_f : Nat) (g1_cmp_c : Array Value) (h : Hp) (Q : List Value → Hp → Prop) : Prop := Fn PP 225 #[(Value.slice g0_x.a g0_x.n g0_x.c), (Value.func (.func g1_cmp_f) #[] g1_cmp_c)] h Q
/-- slices.SortedFunc[livery/siread.Thing] -/
def S_slices_SortedFunc_siread_Thing (g0_seq_f : Nat) (g0_seq_c : Array Value) (g1_cmp_f : Nat) (g1_cmp_c : Array Value) (h : Hp) (Q : List Value → Hp → Prop) : Prop := Fn PP 201 #[(Value.func (.func g0_seq_f) #[] g0_seq_c), (Value.func (.func g1_cmp_f) #[] g1_cmp_c)] h Q
/-- maps.Keys[map[livery/siread.Thing]int,livery/siread.Thing,int] -/
def S_maps_Keys_map_siread_Thing_int_siread_Thing_int (g0_m : Option Nat) (h : Hp) (Q : List Value → Hp → Prop) : Prop := Fn PP 202 #[(Value.map g0_m)] h Q
/-- (*livery/siread.Table).Of -/
def S_siread_Table_Of (g0_t : Option Addr) (g1_xid : Int) (h : Hp) (Q : List Value → Hp → Prop) : Prop := Fn PP 172 #[(Value.pointer g0_t), (Value.int .i64 g1_xid)] h Q
/-- (*livery/siread.Table).lose -/
def S_siread_Table_lose (g0_t : Option Addr) (g1_owner : Int) (g2_such_f : Nat) (g2_such_c : Array Value) (h : Hp) (Q : List Value → Hp → Prop) : Prop := Fn PP 150 #[(Value.pointer g0_t), (Value.int .i64 g1_owner), (Value.func (.func g2_such_f) #[] g2_such_c)] h Q
/-- (*livery/siread.Table).take -/
def S_siread_Table_take (g0_t : Option Addr) (g1_owner : Int) (g2_x_0 : Int) (g2_x_1 : ByteArray) (g2_x_2 : Int) (g2_x_3 : ByteArray) (g2_x_4 : Int) (h : Hp) (Q : List Value → Hp → Prop) : Prop := Fn PP 112 #[(Value.pointer g0_t), (Value.int .i64 g1_owner), (Value.agg #[(Value.int .i64 g2_x_0), (Value.string g2_x_1), (Value.int .i64 g2_x_2), (Value.string g2_x_3), (Value.int .i64 g2_x_4)])] h Q
/-- (*livery/siread.Table).Copy -/
def S_siread_Table_Copy (g0_t : Option Addr) (g1_from_0 : Int) (g1_from_1 : ByteArray) (g1_from_2 : Int) (g1_from_3 : ByteArray) (g1_from_4 : Int) (g2_to_0 : Int) (g2_to_1 : ByteArray) (g2_to_2 : Int) (g2_to_3 : ByteArray) (g2_to_4 : Int) (h : Hp) (Q : List Value → Hp → Prop) : Prop := Fn PP 72 #[(Value.pointer g0_t), (Value.agg #[(Value.int .i64 g1_from_0), (Value.string g1_from_1), (Value.int .i64 g1_from_2), (Value.string g1_from_3), (Value.int .i64 g1_from_4)]), (Value.agg #[(Value.int .i64 g2_to_0), (Value.string g2_to_1), (Value.int .i64 g2_to_2), (Value.string g2_to_3), (Value.int .i64 g2_to_4)])] h Q
/-- livery/table.thing -/
def S_table_thing (g0_rel : Int) (g1_x : Option Addr) (g2_at : Int) (h : Hp) (Q : List Value → Hp → Prop) : Prop := Fn PP 73 #[(Value.int .i64 g0_rel), (Value.pointer g1_x), (Value.int .i64 g2_at)] h Q
/-- (*livery/ssi.Ssi).runs -/
def S_ssi_Ssi_runs (g0_s : Option Addr) (g1_xid : Int) (h : Hp) (Q : List Value → Hp → Prop) : Prop := Fn PP 81 #[(Value.pointer g0_s), (Value.int .i64 g1_xid)] h Q
/-- (*livery/siread.Table).Owners -/
def S_siread_Table_Owners (g0_t : Option Addr) (g1_x_0 : Int) (g1_x_1 : ByteArray) (g1_x_2 : Int) (g1_x_3 : ByteArray) (g1_x_4 : Int) (h : Hp) (Q : List Value → Hp → Prop) : Prop := Fn PP 117 #[(Value.pointer g0_t), (Value.agg #[(Value.int .i64 g1_x_0), (Value.string g1_x_1), (Value.int .i64 g1_x_2), (Value.string g1_x_3), (Value.int .i64 g1_x_4)])] h Q
/-- (*livery/edge.Edges).none -/
def S_edge_Edges_none (g0_e : Option Addr) (h : Hp) (Q : List Value → Hp → Prop) : Prop := Fn PP 139 #[(Value.pointer g0_e)] h Q
/-- (*livery/edge.Edges).ends -/
def S_edge_Edges_ends (g0_e : Option Addr) (g1_xid : Int) (g2_end : Int) (h : Hp) (Q : List Value → Hp → Prop) : Prop := Fn PP 88 #[(Value.pointer g0_e), (Value.int .i64 g1_xid), (Value.int .i64 g2_end)] h Q
/-- (*livery/edge.Edges).In -/
def S_edge_Edges_In (g0_e : Option Addr) (g1_xid : Int) (h : Hp) (Q : List Value → Hp → Prop) : Prop := Fn PP 33 #[(Value.pointer g0_e), (Value.int .i64 g1_xid)] h Q
/-- (*livery/clog.Log).Reads -/
def S_clog_Log_Reads (g0_l : Option Addr) (g1_xid : Int) (h : Hp) (Q : List Value → Hp → Prop) : Prop := Fn PP 54 #[(Value.pointer g0_l), (Value.int .i64 g1_xid)] h Q
/-- (*livery/clog.Log).Csn -/
def S_clog_Log_Csn (g0_l : Option Addr) (g1_xid : Int) (h : Hp) (Q : List Value → Hp → Prop) : Prop := Fn PP 135 #[(Value.pointer g0_l), (Value.int .i64 g1_xid)] h Q
/-- (*livery/clog.Log).Snapshot -/
def S_clog_Log_Snapshot (g0_l : Option Addr) (g1_xid : Int) (h : Hp) (Q : List Value → Hp → Prop) : Prop := Fn PP 161 #[(Value.pointer g0_l), (Value.int .i64 g1_xid)] h Q
/-- (*livery/edge.Edges).Out -/
def S_edge_Edges_Out (g0_e : Option Addr) (g1_xid : Int) (h : Hp) (Q : List Value → Hp → Prop) : Prop := Fn PP 32 #[(Value.pointer g0_e), (Value.int .i64 g1_xid)] h Q
/-- (*livery/edge.Edges).first -/
def S_edge_Edges_first (g0_e : Option Addr) (g1_p : Int) (h : Hp) (Q : List Value → Hp → Prop) : Prop := Fn PP 187 #[(Value.pointer g0_e), (Value.int .i64 g1_p)] h Q
/-- (*livery/edge.Edges).Spoilt -/
def S_edge_Edges_Spoilt (g0_e : Option Addr) (g1_p : Int) (h : Hp) (Q : List Value → Hp → Prop) : Prop := Fn PP 162 #[(Value.pointer g0_e), (Value.int .i64 g1_p)] h Q
/-- (*livery/ssi.Ssi).look -/
def S_ssi_Ssi_look (g0_s : Option Addr) (g1_p : Int) (h : Hp) (Q : List Value → Hp → Prop) : Prop := Fn PP 121 #[(Value.pointer g0_s), (Value.int .i64 g1_p)] h Q
/-- (*livery/clog.Log).Sees -/
def S_clog_Log_Sees (g0_l : Option Addr) (g1_xid : Int) (g2_other : Int) (h : Hp) (Q : List Value → Hp → Prop) : Prop := Fn PP 92 #[(Value.pointer g0_l), (Value.int .i64 g1_xid), (Value.int .i64 g2_other)] h Q
/-- (*livery/clog.Log).Beside -/
def S_clog_Log_Beside (g0_l : Option Addr) (g1_a : Int) (g2_b : Int) (h : Hp) (Q : List Value → Hp → Prop) : Prop := Fn PP 186 #[(Value.pointer g0_l), (Value.int .i64 g1_a), (Value.int .i64 g2_b)] h Q
/-- (*livery/edge.Edges).Add -/
def S_edge_Edges_Add (g0_e : Option Addr) (g1_a : Int) (g2_b : Int) (h : Hp) (Q : List Value → Hp → Prop) : Prop := Fn PP 160 #[(Value.pointer g0_e), (Value.int .i64 g1_a), (Value.int .i64 g2_b)] h Q
/-- (*livery/ssi.Ssi).behind -/
def S_ssi_Ssi_behind (g0_s : Option Addr) (g1_a : Int) (g2_b : Int) (h : Hp) (Q : List Value → Hp → Prop) : Prop := Fn PP 118 #[(Value.pointer g0_s), (Value.int .i64 g1_a), (Value.int .i64 g2_b)] h Q
/-- (*livery/edge.Edges).OldIn -/
def S_edge_Edges_OldIn (g0_e : Option Addr) (g1_b : Int) (g2_csn : Int) (h : Hp) (Q : List Value → Hp → Prop) : Prop := Fn PP 119 #[(Value.pointer g0_e), (Value.int .i64 g1_b), (Value.int .i64 g2_csn)] h Q
/-- (*livery/siread.Table).Old -/
def S_siread_Table_Old (g0_t : Option Addr) (h : Hp) (Q : List Value → Hp → Prop) : Prop := Fn PP 120 #[(Value.pointer g0_t)] h Q
/-- (*livery/ssi.Ssi).Wrote -/
def S_ssi_Ssi_Wrote (g0_s : Option Addr) (g1_xid : Int) (g2_x_0 : Int) (g2_x_1 : ByteArray) (g2_x_2 : Int) (g2_x_3 : ByteArray) (g2_x_4 : Int) (h : Hp) (Q : List Value → Hp → Prop) : Prop := Fn PP 74 #[(Value.pointer g0_s), (Value.int .i64 g1_xid), (Value.agg #[(Value.int .i64 g2_x_0), (Value.string g2_x_1), (Value.int .i64 g2_x_2), (Value.string g2_x_3), (Value.int .i64 g2_x_4)])] h Q
/-- (*livery/table.Store).Put -/
def S_table_Store_Put (g0_s : Option Addr) (g1_xid : Int) (g2_n : Int) (g3_r : Sl) (g4_cols : Sl) (h : Hp) (Q : List Value → Hp → Prop) : Prop := Fn PP 19 #[(Value.pointer g0_s), (Value.int .i64 g1_xid), (Value.int .i64 g2_n), (Value.slice g3_r.a g3_r.n g3_r.c), (Value.slice g4_cols.a g4_cols.n g4_cols.c)] h Q
/-- livery/key.Least -/
def S_key_Least (g0_v_0 : Int) (g0_v_1 : Int) (g0_v_2 : Nat) (g0_v_3 : ByteArray) (h : Hp) (Q : List Value → Hp → Prop) : Prop := Fn PP 125 #[(Value.agg #[(Value.int .i64 g0_v_0), (Value.int .i64 g0_v_1), (Value.float .f64 g0_v_2), (Value.string g0_v_3)])] h Q
/-- livery/key.After -/
def S_key_After (g0_v_0 : Int) (g0_v_1 : Int) (g0_v_2 : Nat) (g0_v_3 : ByteArray) (h : Hp) (Q : List Value → Hp → Prop) : Prop := Fn PP 126 #[(Value.agg #[(Value.int .i64 g0_v_0), (Value.int .i64 g0_v_1), (Value.float .f64 g0_v_2), (Value.string g0_v_3)])] h Q
/-- (*livery/index.Index).between -/
def S_index_Index_between (g0_x : Option Addr) (g1_from : ByteArray) (g2_to : ByteArray) (h : Hp) (Q : List Value → Hp → Prop) : Prop := Fn PP 127 #[(Value.pointer g0_x), (Value.string g1_from), (Value.string g2_to)] h Q
/-- (*livery/index.Index).Find -/
def S_index_Index_Find (g0_x : Option Addr) (g1_v_0 : Int) (g1_v_1 : Int) (g1_v_2 : Nat) (g1_v_3 : ByteArray) (h : Hp) (Q : List Value → Hp → Prop) : Prop := Fn PP 77 #[(Value.pointer g0_x), (Value.agg #[(Value.int .i64 g1_v_0), (Value.int .i64 g1_v_1), (Value.float .f64 g1_v_2), (Value.string g1_v_3)])] h Q
/-- (*livery/table.Store).Find -/
def S_table_Store_Find (g0_s : Option Addr) (g1_rel : Int) (g2_name : ByteArray) (g3_v_0 : Int) (g3_v_1 : Int) (g3_v_2 : Nat) (g3_v_3 : ByteArray) (h : Hp) (Q : List Value → Hp → Prop) : Prop := Fn PP 24 #[(Value.pointer g0_s), (Value.int .i64 g1_rel), (Value.string g2_name), (Value.agg #[(Value.int .i64 g3_v_0), (Value.int .i64 g3_v_1), (Value.float .f64 g3_v_2), (Value.string g3_v_3)])] h Q
/-- livery/liverylaw19.one -/
def S_liverylaw19_one (h : Hp) (Q : List Value → Hp → Prop) : Prop := Fn PP 28 #[] h Q
/-- (*livery/table.Store).Indexes -/
def S_table_Store_Indexes (g0_s : Option Addr) (g1_rel : Int) (h : Hp) (Q : List Value → Hp → Prop) : Prop := Fn PP 22 #[(Value.pointer g0_s), (Value.int .i64 g1_rel)] h Q
/-- slices.IndexFunc[[]livery/table.Index,livery/table.Index] -/
def S_slices_IndexFunc_stable_Index_table_Index (g0_s : Sl) (g1_f_f : Nat) (g1_f_c : Array Value) (h : Hp) (Q : List Value → Hp → Prop) : Prop := Fn PP 140 #[(Value.slice g0_s.a g0_s.n g0_s.c), (Value.func (.func g1_f_f) #[] g1_f_c)] h Q
/-- slices.DeleteFunc[[]livery/table.Index,livery/table.Index] -/
def S_slices_DeleteFunc_stable_Index_table_Index (g0_s : Sl) (g1_del_f : Nat) (g1_del_c : Array Value) (h : Hp) (Q : List Value → Hp → Prop) : Prop := Fn PP 90 #[(Value.slice g0_s.a g0_s.n g0_s.c), (Value.func (.func g1_del_f) #[] g1_del_c)] h Q
/-- (*livery/table.Store).Usable -/
def S_table_Store_Usable (g0_s : Option Addr) (g1_xid : Int) (g2_rel : Int) (h : Hp) (Q : List Value → Hp → Prop) : Prop := Fn PP 38 #[(Value.pointer g0_s), (Value.int .i64 g1_xid), (Value.int .i64 g2_rel)] h Q
/-- livery/liverykeep.Ints -/
def S_liverykeep_Ints (g0_a : Sl) (g1_b : Sl) (h : Hp) (Q : List Value → Hp → Prop) : Prop := Fn PP 50 #[(Value.slice g0_a.a g0_a.n g0_a.c), (Value.slice g1_b.a g1_b.n g1_b.c)] h Q
/-- livery/liverylaw19.wakes -/
def S_liverylaw19_wakes (h : Hp) (Q : List Value → Hp → Prop) : Prop := Fn PP 9 #[] h Q
/-- slices.AppendSeq[[]int,int] -/
def S_slices_AppendSeq_sint_int (g0_s : Sl) (g1_seq_f : Nat) (g1_seq_c : Array Value) (h : Hp) (Q : List Value → Hp → Prop) : Prop := Fn PP 163 #[(Value.slice g0_s.a g0_s.n g0_s.c), (Value.func (.func g1_seq_f) #[] g1_seq_c)] h Q
/-- slices.Collect[int] -/
def S_slices_Collect_int (g0_seq_f : Nat) (g0_seq_c : Array Value) (h : Hp) (Q : List Value → Hp → Prop) : Prop := Fn PP 122 #[(Value.func (.func g0_seq_f) #[] g0_seq_c)] h Q
/-- slices.Sorted[int] -/
def S_slices_Sorted_int (g0_seq_f : Nat) (g0_seq_c : Array Value) (h : Hp) (Q : List Value → Hp → Prop) : Prop := Fn PP 75 #[(Value.func (.func g0_seq_f) #[] g0_seq_c)] h Q
/-- maps.Keys[map[int]livery/api.Tuple,int,livery/api.Tuple] -/
def S_maps_Keys_map_int_api_Tuple_int_api_Tuple (g0_m : Option Nat) (h : Hp) (Q : List Value → Hp → Prop) : Prop := Fn PP 76 #[(Value.map g0_m)] h Q
/-- (*livery/heap.Rel).All -/
def S_heap_Rel_All (g0_r : Option Addr) (h : Hp) (Q : List Value → Hp → Prop) : Prop := Fn PP 21 #[(Value.pointer g0_r)] h Q
/-- (*livery/heap.Rel).get -/
def S_heap_Rel_get (g0_r : Option Addr) (g1_tid : Int) (h : Hp) (Q : List Value → Hp → Prop) : Prop := Fn PP 78 #[(Value.pointer g0_r), (Value.int .i64 g1_tid)] h Q
/-- (*livery/heap.Rel).Get -/
def S_heap_Rel_Get (g0_r : Option Addr) (g1_tid : Int) (h : Hp) (Q : List Value → Hp → Prop) : Prop := Fn PP 25 #[(Value.pointer g0_r), (Value.int .i64 g1_tid)] h Q
/-- (*livery/table.rel).fill -/
def S_table_rel_fill (g0_r : Option Addr) (g1_x : Option Addr) (g2_cols : Sl) (h : Hp) (Q : List Value → Hp → Prop) : Prop := Fn PP 63 #[(Value.pointer g0_r), (Value.pointer g1_x), (Value.slice g2_cols.a g2_cols.n g2_cols.c)] h Q
/-- (*livery/table.Store).Fill -/
def S_table_Store_Fill (g0_s : Option Addr) (g1_rel : Int) (g2_name : ByteArray) (g3_cols : Sl) (h : Hp) (Q : List Value → Hp → Prop) : Prop := Fn PP 15 #[(Value.pointer g0_s), (Value.int .i64 g1_rel), (Value.string g2_name), (Value.slice g3_cols.a g3_cols.n g3_cols.c)] h Q
/-- (*livery/table.Store).Remove -/
def S_table_Store_Remove (g0_s : Option Addr) (g1_xid : Int) (g2_rel : Int) (g3_name : ByteArray) (h : Hp) (Q : List Value → Hp → Prop) : Prop := Fn PP 16 #[(Value.pointer g0_s), (Value.int .i64 g1_xid), (Value.int .i64 g2_rel), (Value.string g3_name)] h Q
/-- (*livery/clog.Log).Clock -/
def S_clog_Log_Clock (g0_l : Option Addr) (h : Hp) (Q : List Value → Hp → Prop) : Prop := Fn PP 171 #[(Value.pointer g0_l)] h Q
/-- (*livery/clog.Log).Horizon -/
def S_clog_Log_Horizon (g0_l : Option Addr) (h : Hp) (Q : List Value → Hp → Prop) : Prop := Fn PP 136 #[(Value.pointer g0_l)] h Q
/-- livery/heap.over -/
def S_heap_over (g0_l : Option Addr) (g1_x_0 : Int) (g1_x_1 : Int) (g1_x_2 : Sl) (h : Hp) (Q : List Value → Hp → Prop) : Prop := Fn PP 109 #[(Value.pointer g0_l), (Value.agg #[(Value.int .i64 g1_x_0), (Value.int .i64 g1_x_1), (Value.slice g1_x_2.a g1_x_2.n g1_x_2.c)])] h Q
/-- (*livery/heap.Rel).Copy -/
def S_heap_Rel_Copy (g0_r : Option Addr) (g1_l : Option Addr) (h : Hp) (Q : List Value → Hp → Prop) : Prop := Fn PP 64 #[(Value.pointer g0_r), (Value.pointer g1_l)] h Q
/-- (*livery/siread.Table).Rough -/
def S_siread_Table_Rough (g0_t : Option Addr) (g1_rel : Int) (g2_to : Int) (h : Hp) (Q : List Value → Hp → Prop) : Prop := Fn PP 66 #[(Value.pointer g0_t), (Value.int .i64 g1_rel), (Value.int .i64 g2_to)] h Q
/-- (*livery/table.Store).Move -/
def S_table_Store_Move (g0_s : Option Addr) (g1_xid : Int) (g2_from : Int) (g3_cols : Sl) (g4_rows : Bool) (h : Hp) (Q : List Value → Hp → Prop) : Prop := Fn PP 17 #[(Value.pointer g0_s), (Value.int .i64 g1_xid), (Value.int .i64 g2_from), (Value.slice g3_cols.a g3_cols.n g3_cols.c), (Value.bool g4_rows)] h Q
/-- livery/liveryref04.Pad -/
def S_liveryref04_Pad (g0_l : Sl) (g1_r : Sl) (h : Hp) (Q : List Value → Hp → Prop) : Prop := Fn PP 67 #[(Value.slice g0_l.a g0_l.n g0_l.c), (Value.slice g1_r.a g1_r.n g1_r.c)] h Q
/-- livery/liveryref04.Takes -/
def S_liveryref04_Takes (g0_c_0 : ByteArray) (g0_c_1 : Int) (g0_c_2 : Bool) (g0_c_3 : Int) (g0_c_4 : Int) (g0_c_5 : Nat) (g0_c_6 : ByteArray) (g1_v_0 : Int) (g1_v_1 : Int) (g1_v_2 : Nat) (g1_v_3 : ByteArray) (h : Hp) (Q : List Value → Hp → Prop) : Prop := Fn PP 68 #[(Value.agg #[(Value.string g0_c_0), (Value.int .i64 g0_c_1), (Value.bool g0_c_2), (Value.int .i64 g0_c_3), (Value.int .i64 g0_c_4), (Value.float .f64 g0_c_5), (Value.string g0_c_6)]), (Value.agg #[(Value.int .i64 g1_v_0), (Value.int .i64 g1_v_1), (Value.float .f64 g1_v_2), (Value.string g1_v_3)])] h Q
/-- livery/liveryref04.Fill -/
def S_liveryref04_Fill (g0_l : Sl) (g1_r : Sl) (h : Hp) (Q : List Value → Hp → Prop) : Prop := Fn PP 18 #[(Value.slice g0_l.a g0_l.n g0_l.c), (Value.slice g1_r.a g1_r.n g1_r.c)] h Q
/-- (*livery/table.Store).Rel -/
def S_table_Store_Rel (g0_s : Option Addr) (g1_n : Int) (h : Hp) (Q : List Value → Hp → Prop) : Prop := Fn PP 20 #[(Value.pointer g0_s), (Value.int .i64 g1_n)] h Q
/-- livery/liveryref04.Find -/
def S_liveryref04_Find (g0_l : Sl) (g1_name : ByteArray) (h : Hp) (Q : List Value → Hp → Prop) : Prop := Fn PP 23 #[(Value.slice g0_l.a g0_l.n g0_l.c), (Value.string g1_name)] h Q
/-- livery/liveryref01.rank -/
def S_liveryref01_rank (g0_f : Nat) (h : Hp) (Q : List Value → Hp → Prop) : Prop := Fn PP 128 #[(Value.float .f64 g0_f)] h Q
/-- livery/liveryref01.Compare -/
def S_liveryref01_Compare (g0_a : Nat) (g1_b : Nat) (h : Hp) (Q : List Value → Hp → Prop) : Prop := Fn PP 80 #[(Value.float .f64 g0_a), (Value.float .f64 g1_b)] h Q
/-- livery/liveryref02.Compare -/
def S_liveryref02_Compare (g0_a_0 : Int) (g0_a_1 : Int) (g0_a_2 : Nat) (g0_a_3 : ByteArray) (g1_b_0 : Int) (g1_b_1 : Int) (g1_b_2 : Nat) (g1_b_3 : ByteArray) (h : Hp) (Q : List Value → Hp → Prop) : Prop := Fn PP 26 #[(Value.agg #[(Value.int .i64 g0_a_0), (Value.int .i64 g0_a_1), (Value.float .f64 g0_a_2), (Value.string g0_a_3)]), (Value.agg #[(Value.int .i64 g1_b_0), (Value.int .i64 g1_b_1), (Value.float .f64 g1_b_2), (Value.string g1_b_3)])] h Q
/-- livery/liverykeep.Has -/
def S_liverykeep_Has (g0_l : Sl) (g1_n : Int) (h : Hp) (Q : List Value → Hp → Prop) : Prop := Fn PP 27 #[(Value.slice g0_l.a g0_l.n g0_l.c), (Value.int .i64 g1_n)] h Q
/-- livery/liverylaw19.TableEntries -/
def S_liverylaw19_TableEntries (g0_l : Sl) (g1_v_0 : Int) (g1_v_1 : Int) (g1_v_2 : Nat) (g1_v_3 : ByteArray) (h : Hp) (Q : List Value → Hp → Prop) : Prop := Fn PP 3 #[(Value.slice g0_l.a g0_l.n g0_l.c), (Value.agg #[(Value.int .i64 g1_v_0), (Value.int .i64 g1_v_1), (Value.float .f64 g1_v_2), (Value.string g1_v_3)])] h Q
/-- (*livery/ssi.Ssi).Doomed -/
def S_ssi_Ssi_Doomed (g0_s : Option Addr) (g1_xid : Int) (h : Hp) (Q : List Value → Hp → Prop) : Prop := Fn PP 82 #[(Value.pointer g0_s), (Value.int .i64 g1_xid)] h Q
/-- (*livery/siread.Table).Drop -/
def S_siread_Table_Drop (g0_t : Option Addr) (g1_xid : Int) (h : Hp) (Q : List Value → Hp → Prop) : Prop := Fn PP 130 #[(Value.pointer g0_t), (Value.int .i64 g1_xid)] h Q
/-- slices.DeleteFunc[[]int,int] -/
def S_slices_DeleteFunc_sint_int (g0_s : Sl) (g1_del_f : Nat) (g1_del_c : Array Value) (h : Hp) (Q : List Value → Hp → Prop) : Prop := Fn PP 133 #[(Value.slice g0_s.a g0_s.n g0_s.c), (Value.func (.func g1_del_f) #[] g1_del_c)] h Q
/-- livery/siread.one -/
def S_siread_one (g0_xid : Int) (h : Hp) (Q : List Value → Hp → Prop) : Prop := Fn PP 138 #[(Value.int .i64 g0_xid)] h Q
/-- (*livery/siread.Table).Fold -/
def S_siread_Table_Fold (g0_t : Option Addr) (g1_xid : Int) (g2_csn : Int) (h : Hp) (Q : List Value → Hp → Prop) : Prop := Fn PP 137 #[(Value.pointer g0_t), (Value.int .i64 g1_xid), (Value.int .i64 g2_csn)] h Q
/-- (*livery/ssi.Ssi).clean -/
def S_ssi_Ssi_clean (g0_s : Option Addr) (h : Hp) (Q : List Value → Hp → Prop) : Prop := Fn PP 86 #[(Value.pointer g0_s)] h Q
/-- (*livery/clog.Log).ends -/
def S_clog_Log_ends (g0_l : Option Addr) (g1_xid : Int) (h : Hp) (Q : List Value → Hp → Prop) : Prop := Fn PP 132 #[(Value.pointer g0_l), (Value.int .i64 g1_xid)] h Q
/-- (*livery/clog.Log).Abort -/
def S_clog_Log_Abort (g0_l : Option Addr) (g1_xid : Int) (h : Hp) (Q : List Value → Hp → Prop) : Prop := Fn PP 129 #[(Value.pointer g0_l), (Value.int .i64 g1_xid)] h Q
/-- maps.DeleteFunc[map[[2]int]int,[2]int,int] -/
def S_maps_DeleteFunc_map_2_int_int_2_int_int (g0_m : Option Nat) (g1_del_f : Nat) (g1_del_c : Array Value) (h : Hp) (Q : List Value → Hp → Prop) : Prop := Fn PP 169 #[(Value.map g0_m), (Value.func (.func g1_del_f) #[] g1_del_c)] h Q
/-- (*livery/edge.Edges).Drop -/
def S_edge_Edges_Drop (g0_e : Option Addr) (g1_xid : Int) (h : Hp) (Q : List Value → Hp → Prop) : Prop := Fn PP 131 #[(Value.pointer g0_e), (Value.int .i64 g1_xid)] h Q
/-- (*livery/ssi.Ssi).Abort -/
def S_ssi_Ssi_Abort (g0_s : Option Addr) (g1_xid : Int) (h : Hp) (Q : List Value → Hp → Prop) : Prop := Fn PP 83 #[(Value.pointer g0_s), (Value.int .i64 g1_xid)] h Q
/-- (*livery/edge.Edges).Ahead -/
def S_edge_Edges_Ahead (g0_e : Option Addr) (g1_t3 : Int) (h : Hp) (Q : List Value → Hp → Prop) : Prop := Fn PP 84 #[(Value.pointer g0_e), (Value.int .i64 g1_t3)] h Q
/-- (*livery/clog.Log).Commit -/
def S_clog_Log_Commit (g0_l : Option Addr) (g1_xid : Int) (h : Hp) (Q : List Value → Hp → Prop) : Prop := Fn PP 85 #[(Value.pointer g0_l), (Value.int .i64 g1_xid)] h Q
/-- (*livery/ssi.Ssi).Commit -/
def S_ssi_Ssi_Commit (g0_s : Option Addr) (g1_xid : Int) (h : Hp) (Q : List Value → Hp → Prop) : Prop := Fn PP 29 #[(Value.pointer g0_s), (Value.int .i64 g1_xid)] h Q
/-- (*livery/siread.Table).Take -/
def S_siread_Table_Take (g0_t : Option Addr) (g1_xid : Int) (g2_x_0 : Int) (g2_x_1 : ByteArray) (g2_x_2 : Int) (g2_x_3 : ByteArray) (g2_x_4 : Int) (h : Hp) (Q : List Value → Hp → Prop) : Prop := Fn PP 87 #[(Value.pointer g0_t), (Value.int .i64 g1_xid), (Value.agg #[(Value.int .i64 g2_x_0), (Value.string g2_x_1), (Value.int .i64 g2_x_2), (Value.string g2_x_3), (Value.int .i64 g2_x_4)])] h Q
/-- (*livery/ssi.Ssi).Read -/
def S_ssi_Ssi_Read (g0_s : Option Addr) (g1_xid : Int) (g2_x_0 : Int) (g2_x_1 : ByteArray) (g2_x_2 : Int) (g2_x_3 : ByteArray) (g2_x_4 : Int) (h : Hp) (Q : List Value → Hp → Prop) : Prop := Fn PP 30 #[(Value.pointer g0_s), (Value.int .i64 g1_xid), (Value.agg #[(Value.int .i64 g2_x_0), (Value.string g2_x_1), (Value.int .i64 g2_x_2), (Value.string g2_x_3), (Value.int .i64 g2_x_4)])] h Q
/-- (*livery/ssi.Ssi).Edges -/
def S_ssi_Ssi_Edges (g0_s : Option Addr) (h : Hp) (Q : List Value → Hp → Prop) : Prop := Fn PP 31 #[(Value.pointer g0_s)] h Q
/-- livery/liverylaw19.TableReaders -/
def S_liverylaw19_TableReaders (g0_v : Int) (g1_w : Int) (g2_whole : Bool) (h : Hp) (Q : List Value → Hp → Prop) : Prop := Fn PP 4 #[(Value.int .i8 g0_v), (Value.int .i8 g1_w), (Value.bool g2_whole)] h Q
/-- (*livery/index.Index).Range -/
def S_index_Index_Range (g0_x : Option Addr) (g1_v_0 : Int) (g1_v_1 : Int) (g1_v_2 : Nat) (g1_v_3 : ByteArray) (g2_w_0 : Int) (g2_w_1 : Int) (g2_w_2 : Nat) (g2_w_3 : ByteArray) (h : Hp) (Q : List Value → Hp → Prop) : Prop := Fn PP 89 #[(Value.pointer g0_x), (Value.agg #[(Value.int .i64 g1_v_0), (Value.int .i64 g1_v_1), (Value.float .f64 g1_v_2), (Value.string g1_v_3)]), (Value.agg #[(Value.int .i64 g2_w_0), (Value.int .i64 g2_w_1), (Value.float .f64 g2_w_2), (Value.string g2_w_3)])] h Q
/-- (*livery/table.Store).Range -/
def S_table_Store_Range (g0_s : Option Addr) (g1_rel : Int) (g2_name : ByteArray) (g3_v_0 : Int) (g3_v_1 : Int) (g3_v_2 : Nat) (g3_v_3 : ByteArray) (g4_w_0 : Int) (g4_w_1 : Int) (g4_w_2 : Nat) (g4_w_3 : ByteArray) (h : Hp) (Q : List Value → Hp → Prop) : Prop := Fn PP 34 #[(Value.pointer g0_s), (Value.int .i64 g1_rel), (Value.string g2_name), (Value.agg #[(Value.int .i64 g3_v_0), (Value.int .i64 g3_v_1), (Value.float .f64 g3_v_2), (Value.string g3_v_3)]), (Value.agg #[(Value.int .i64 g4_w_0), (Value.int .i64 g4_w_1), (Value.float .f64 g4_w_2), (Value.string g4_w_3)])] h Q
/-- (*livery/table.Store).Log -/
def S_table_Store_Log (g0_s : Option Addr) (h : Hp) (Q : List Value → Hp → Prop) : Prop := Fn PP 35 #[(Value.pointer g0_s)] h Q
/-- (*livery/table.Store).Names -/
def S_table_Store_Names (g0_s : Option Addr) (h : Hp) (Q : List Value → Hp → Prop) : Prop := Fn PP 36 #[(Value.pointer g0_s)] h Q
/-- (*livery/table.Store).Locks -/
def S_table_Store_Locks (g0_s : Option Addr) (h : Hp) (Q : List Value → Hp → Prop) : Prop := Fn PP 37 #[(Value.pointer g0_s)] h Q
/-- (*livery/table.Store).Set -/
def S_table_Store_Set (g0_s : Option Addr) (g1_rel : Int) (g2_name : ByteArray) (g3_state : Int) (g4_maker : Int) (h : Hp) (Q : List Value → Hp → Prop) : Prop := Fn PP 39 #[(Value.pointer g0_s), (Value.int .i64 g1_rel), (Value.string g2_name), (Value.int .i64 g3_state), (Value.int .i64 g4_maker)] h Q
/-- (*livery/heap.Rel).Delete -/
def S_heap_Rel_Delete (g0_r : Option Addr) (g1_xid : Int) (g2_tid : Int) (h : Hp) (Q : List Value → Hp → Prop) : Prop := Fn PP 93 #[(Value.pointer g0_r), (Value.int .i64 g1_xid), (Value.int .i64 g2_tid)] h Q
/-- (*livery/table.Store).End -/
def S_table_Store_End (g0_s : Option Addr) (g1_xid : Int) (g2_rel : Int) (g3_tid : Int) (h : Hp) (Q : List Value → Hp → Prop) : Prop := Fn PP 40 #[(Value.pointer g0_s), (Value.int .i64 g1_xid), (Value.int .i64 g2_rel), (Value.int .i64 g3_tid)] h Q
/-- livery/liverylaw19.TableNone -/
def S_liverylaw19_TableNone (g0_x_0 : Int) (g0_x_1 : Int) (g0_x_2 : Int) (g0_x_3 : Int) (g0_x_4 : ByteArray) (g0_x_5 : ByteArray) (g0_x_6 : Bool) (g0_x_7 : Int) (g0_x_8 : Int) (g0_x_9 : Int) (g0_x_10 : Nat) (g0_x_11 : ByteArray) (g0_x_12 : Int) (g0_x_13 : Int) (g0_x_14 : Nat) (g0_x_15 : ByteArray) (g0_x_16 : Sl) (g0_x_17 : Sl) (g0_x_18 : Int) (g0_x_19 : ByteArray) (g0_x_20 : Int) (g0_x_21 : ByteArray) (g0_x_22 : Int) (g0_x_23 : Bool) (h : Hp) (Q : List Value → Hp → Prop) : Prop := Fn PP 5 #[(Value.agg #[(Value.int .i64 g0_x_0), (Value.int .i64 g0_x_1), (Value.int .i64 g0_x_2), (Value.int .i64 g0_x_3), (Value.string g0_x_4), (Value.string g0_x_5), (Value.bool g0_x_6), (Value.int .i64 g0_x_7), (Value.int .i64 g0_x_8), (Value.int .i64 g0_x_9), (Value.float .f64 g0_x_10), (Value.string g0_x_11), (Value.int .i64 g0_x_12), (Value.int .i64 g0_x_13), (Value.float .f64 g0_x_14), (Value.string g0_x_15), (Value.slice g0_x_16.a g0_x_16.n g0_x_16.c), (Value.slice g0_x_17.a g0_x_17.n g0_x_17.c), (Value.int .i64 g0_x_18), (Value.string g0_x_19), (Value.int .i64 g0_x_20), (Value.string g0_x_21), (Value.int .i64 g0_x_22), (Value.bool g0_x_23)])] h Q
/-- (*livery/ssi.Ssi).Begin$1 -/
def S_ssi_Ssi_Begin_1 (g0_x : Int) (g1_x : Addr) (h : Hp) (Q : List Value → Hp → Prop) : Prop := Fn PP 53 #[(Value.int .i64 g0_x), (Value.pointer (some g1_x))] h Q
/-- (*livery/table.Store).Usable$1 -/
def S_table_Store_Usable_1 (g0_x_0 : ByteArray) (g0_x_1 : ByteArray) (g0_x_2 : Bool) (g0_x_3 : Int) (g0_x_4 : Int) (g0_x_5 : Int) (g1_x : Addr) (g2_x : Addr) (h : Hp) (Q : List Value → Hp → Prop) : Prop := Fn PP 91 #[(Value.agg #[(Value.string g0_x_0), (Value.string g0_x_1), (Value.bool g0_x_2), (Value.int .i64 g0_x_3), (Value.int .i64 g0_x_4), (Value.int .i64 g0_x_5)]), (Value.pointer (some g1_x)), (Value.pointer (some g2_x))] h Q
/-- (*livery/table.Store).get$1 -/
def S_table_Store_get_1 (g0_x : Option Addr) (g1_x : Addr) (h : Hp) (Q : List Value → Hp → Prop) : Prop := Fn PP 101 #[(Value.pointer g0_x), (Value.pointer (some g1_x))] h Q
/-- cmp.Compare[string] -/
def S_cmp_Compare_string (g0_x : ByteArray) (g1_y : ByteArray) (h : Hp) (Q : List Value → Hp → Prop) : Prop := Fn PP 105 #[(Value.string g0_x), (Value.string g1_y)] h Q
/-- (*livery/table.Store).standing$1 -/
def S_table_Store_standing_1 (g0_a : Option Addr) (g1_b : Option Addr) (h : Hp) (Q : List Value → Hp → Prop) : Prop := Fn PP 104 #[(Value.pointer g0_a), (Value.pointer g1_b)] h Q
/-- livery/row.Find$1 -/
def S_row_Find_1 (g0_c_0 : ByteArray) (g0_c_1 : Int) (g0_c_2 : Bool) (g0_c_3 : Int) (g0_c_4 : Int) (g0_c_5 : Nat) (g0_c_6 : ByteArray) (g1_x : Addr) (h : Hp) (Q : List Value → Hp → Prop) : Prop := Fn PP 107 #[(Value.agg #[(Value.string g0_c_0), (Value.int .i64 g0_c_1), (Value.bool g0_c_2), (Value.int .i64 g0_c_3), (Value.int .i64 g0_c_4), (Value.float .f64 g0_c_5), (Value.string g0_c_6)]), (Value.pointer (some g1_x))] h Q
/-- (*livery/siread.Table).Rough$1 -/
def S_siread_Table_Rough_1 (g0_y_0 : Int) (g0_y_1 : ByteArray) (g0_y_2 : Int) (g0_y_3 : ByteArray) (g0_y_4 : Int) (g1_x : Addr) (h : Hp) (Q : List Value → Hp → Prop) : Prop := Fn PP 111 #[(Value.agg #[(Value.int .i64 g0_y_0), (Value.string g0_y_1), (Value.int .i64 g0_y_2), (Value.string g0_y_3), (Value.int .i64 g0_y_4)]), (Value.pointer (some g1_x))] h Q
/-- (*livery/siread.Table).Copy$1 -/
def S_siread_Table_Copy_1 (g0_y_0 : Int) (g0_y_1 : ByteArray) (g0_y_2 : Int) (g0_y_3 : ByteArray) (g0_y_4 : Int) (g1_x : Addr) (h : Hp) (Q : List Value → Hp → Prop) : Prop := Fn PP 116 #[(Value.agg #[(Value.int .i64 g0_y_0), (Value.string g0_y_1), (Value.int .i64 g0_y_2), (Value.string g0_y_3), (Value.int .i64 g0_y_4)]), (Value.pointer (some g1_x))] h Q
/-- maps.Keys[map[int]livery/api.Tuple,int,livery/api.Tuple]$1 -/
def S_maps_Keys_map_int_api_Tuple_int_api_Tuple_1 (g0_yield_f : Nat) (g0_yield_c : Array Value) (g1_x : Addr) (h : Hp) (Q : List Value → Hp → Prop) : Prop := Fn PP 124 #[(Value.func (.func g0_yield_f) #[] g0_yield_c), (Value.pointer (some g1_x))] h Q
/-- (*livery/ssi.Ssi).clean$1 -/
def S_ssi_Ssi_clean_1 (g0_x : Int) (g1_x : Addr) (h : Hp) (Q : List Value → Hp → Prop) : Prop := Fn PP 134 #[(Value.int .i64 g0_x), (Value.pointer (some g1_x))] h Q
/-- (*livery/siread.Table).take$1 -/
def S_siread_Table_take_1 (g0_y_0 : Int) (g0_y_1 : ByteArray) (g0_y_2 : Int) (g0_y_3 : ByteArray) (g0_y_4 : Int) (g1_x : Addr) (h : Hp) (Q : List Value → Hp → Prop) : Prop := Fn PP 151 #[(Value.agg #[(Value.int .i64 g0_y_0), (Value.string g0_y_1), (Value.int .i64 g0_y_2), (Value.string g0_y_3), (Value.int .i64 g0_y_4)]), (Value.pointer (some g1_x))] h Q
/-- (*livery/siread.Table).Owners$1 -/
def S_siread_Table_Owners_1 (g0_y_0 : Int) (g0_y_1 : ByteArray) (g0_y_2 : Int) (g0_y_3 : ByteArray) (g0_y_4 : Int) (g1_x : Addr) (h : Hp) (Q : List Value → Hp → Prop) : Prop := Fn PP 159 #[(Value.agg #[(Value.int .i64 g0_y_0), (Value.string g0_y_1), (Value.int .i64 g0_y_2), (Value.string g0_y_3), (Value.int .i64 g0_y_4)]), (Value.pointer (some g1_x))] h Q
/-- (*livery/leaf.Leaves).Range -/
def S_leaf_Leaves_Range (g0_x : Option Addr) (g1_from : ByteArray) (g2_to : ByteArray) (h : Hp) (Q : List Value → Hp → Prop) : Prop := Fn PP 166 #[(Value.pointer g0_x), (Value.string g1_from), (Value.string g2_to)] h Q
/-- livery/index.entries -/
def S_index_entries (g0_keys : Sl) (h : Hp) (Q : List Value → Hp → Prop) : Prop := Fn PP 167 #[(Value.slice g0_keys.a g0_keys.n g0_keys.c)] h Q
/-- (*livery/siread.Table).Drop$1 -/
def S_siread_Table_Drop_1 (g0_x_0 : Int) (g0_x_1 : ByteArray) (g0_x_2 : Int) (g0_x_3 : ByteArray) (g0_x_4 : Int) (h : Hp) (Q : List Value → Hp → Prop) : Prop := Fn PP 168 #[(Value.agg #[(Value.int .i64 g0_x_0), (Value.string g0_x_1), (Value.int .i64 g0_x_2), (Value.string g0_x_3), (Value.int .i64 g0_x_4)])] h Q
/-- (*livery/edge.Edges).Drop$1 -/
def S_edge_Edges_Drop_1 (g0_x_0 : Int) (g0_x_1 : Int) (g1_x : Int) (g2_x : Addr) (h : Hp) (Q : List Value → Hp → Prop) : Prop := Fn PP 170 #[(Value.agg #[(Value.int .i64 g0_x_0), (Value.int .i64 g0_x_1)]), (Value.int .i64 g1_x), (Value.pointer (some g2_x))] h Q
/-- math/bits.Len32 -/
def S_math_bits_Len32 (g0_x : Int) (h : Hp) (Q : List Value → Hp → Prop) : Prop := Fn PP 197 #[(Value.int .u32 g0_x)] h Q
/-- livery/key.wide -/
def S_key_wide (g0_s : ByteArray) (h : Hp) (Q : List Value → Hp → Prop) : Prop := Fn PP 240 #[(Value.string g0_s)] h Q
/-- livery/float.Is -/
def S_float_Is (g0_f : Nat) (h : Hp) (Q : List Value → Hp → Prop) : Prop := Fn PP 231 #[(Value.float .f64 g0_f)] h Q
/-- livery/float.From -/
def S_float_From (g0_u : Int) (h : Hp) (Q : List Value → Hp → Prop) : Prop := Fn PP 241 #[(Value.int .u64 g0_u)] h Q
/-- strings.IndexByte -/
def S_strings_IndexByte (g0_s : ByteArray) (g1_c : Int) (h : Hp) (Q : List Value → Hp → Prop) : Prop := Fn PP 251 #[(Value.string g0_s), (Value.int .u8 g1_c)] h Q
/-- (*strings.Builder).WriteByte -/
def S_strings_Builder_WriteByte (g0_b : Option Addr) (g1_c : Int) (h : Hp) (Q : List Value → Hp → Prop) : Prop := Fn PP 252 #[(Value.pointer g0_b), (Value.int .u8 g1_c)] h Q
/-- livery/key.text -/
def S_key_text (g0_s : ByteArray) (h : Hp) (Q : List Value → Hp → Prop) : Prop := Fn PP 242 #[(Value.string g0_s)] h Q
/-- livery/key.first -/
def S_key_first (g0_k : ByteArray) (h : Hp) (Q : List Value → Hp → Prop) : Prop := Fn PP 223 #[(Value.string g0_k)] h Q
/-- livery/key.Split -/
def S_key_Split (g0_e : ByteArray) (h : Hp) (Q : List Value → Hp → Prop) : Prop := Fn PP 200 #[(Value.string g0_e)] h Q
/-- livery/index.entries$1 -/
def S_index_entries_1 (g0_yield_f : Nat) (g0_yield_c : Array Value) (g1_x : Addr) (h : Hp) (Q : List Value → Hp → Prop) : Prop := Fn PP 199 #[(Value.func (.func g0_yield_f) #[] g0_yield_c), (Value.pointer (some g1_x))] h Q
/-- cmp.Or[int] -/
def S_cmp_Or_int (g0_vals : Sl) (h : Hp) (Q : List Value → Hp → Prop) : Prop := Fn PP 227 #[(Value.slice g0_vals.a g0_vals.n g0_vals.c)] h Q
/-- cmp.Compare[int] -/
def S_cmp_Compare_int (g0_x : Int) (g1_y : Int) (h : Hp) (Q : List Value → Hp → Prop) : Prop := Fn PP 228 #[(Value.int .i64 g0_x), (Value.int .i64 g1_y)] h Q
/-- livery/siread.compare -/
def S_siread_compare (g0_a_0 : Int) (g0_a_1 : ByteArray) (g0_a_2 : Int) (g0_a_3 : ByteArray) (g0_a_4 : Int) (g1_b_0 : Int) (g1_b_1 : ByteArray) (g1_b_2 : Int) (g1_b_3 : ByteArray) (g1_b_4 : Int) (h : Hp) (Q : List Value → Hp → Prop) : Prop := Fn PP 203 #[(Value.agg #[(Value.int .i64 g0_a_0), (Value.string g0_a_1), (Value.int .i64 g0_a_2), (Value.string g0_a_3), (Value.int .i64 g0_a_4)]), (Value.agg #[(Value.int .i64 g1_b_0), (Value.string g1_b_1), (Value.int .i64 g1_b_2), (Value.string g1_b_3), (Value.int .i64 g1_b_4)])] h Q
/-- (livery/value.own).bare -/
def S_value_own_bare (g0_v_0 : Int) (g0_v_1 : Int) (g0_v_2 : Nat) (g0_v_3 : ByteArray) (g1_n : Bool) (g2_f : Bool) (g3_s : Bool) (h : Hp) (Q : List Value → Hp → Prop) : Prop := Fn PP 230 #[(Value.agg #[(Value.int .i64 g0_v_0), (Value.int .i64 g0_v_1), (Value.float .f64 g0_v_2), (Value.string g0_v_3)]), (Value.bool g1_n), (Value.bool g2_f), (Value.bool g3_s)] h Q
/-- (livery/value.own).null -/
def S_value_own_null (g0_v_0 : Int) (g0_v_1 : Int) (g0_v_2 : Nat) (g0_v_3 : ByteArray) (h : Hp) (Q : List Value → Hp → Prop) : Prop := Fn PP 205 #[(Value.agg #[(Value.int .i64 g0_v_0), (Value.int .i64 g0_v_1), (Value.float .f64 g0_v_2), (Value.string g0_v_3)])] h Q
/-- (livery/value.own).bool -/
def S_value_own_bool (g0_v_0 : Int) (g0_v_1 : Int) (g0_v_2 : Nat) (g0_v_3 : ByteArray) (h : Hp) (Q : List Value → Hp → Prop) : Prop := Fn PP 206 #[(Value.agg #[(Value.int .i64 g0_v_0), (Value.int .i64 g0_v_1), (Value.float .f64 g0_v_2), (Value.string g0_v_3)])] h Q
/-- (livery/value.own).int -/
def S_value_own_int (g0_v_0 : Int) (g0_v_1 : Int) (g0_v_2 : Nat) (g0_v_3 : ByteArray) (h : Hp) (Q : List Value → Hp → Prop) : Prop := Fn PP 207 #[(Value.agg #[(Value.int .i64 g0_v_0), (Value.int .i64 g0_v_1), (Value.float .f64 g0_v_2), (Value.string g0_v_3)])] h Q
/-- (livery/value.own).float -/
def S_value_own_float (g0_v_0 : Int) (g0_v_1 : Int) (g0_v_2 : Nat) (g0_v_3 : ByteArray) (h : Hp) (Q : List Value → Hp → Prop) : Prop := Fn PP 208 #[(Value.agg #[(Value.int .i64 g0_v_0), (Value.int .i64 g0_v_1), (Value.float .f64 g0_v_2), (Value.string g0_v_3)])] h Q
/-- (livery/value.own).text -/
def S_value_own_text (g0_v_0 : Int) (g0_v_1 : Int) (g0_v_2 : Nat) (g0_v_3 : ByteArray) (h : Hp) (Q : List Value → Hp → Prop) : Prop := Fn PP 209 #[(Value.agg #[(Value.int .i64 g0_v_0), (Value.int .i64 g0_v_1), (Value.float .f64 g0_v_2), (Value.string g0_v_3)])] h Q
/-- maps.Keys[map[livery/siread.Thing]int,livery/siread.Thing,int]$1 -/
def S_maps_Keys_map_siread_Thing_int_siread_Thing_int_1 (g0_yield_f : Nat) (g0_yield_c : Array Value) (g1_x : Addr) (h : Hp) (Q : List Value → Hp → Prop) : Prop := Fn PP 226 #[(Value.func (.func g0_yield_f) #[] g0_yield_c), (Value.pointer (some g1_x))] h Q
/-- (*strings.Builder).copyCheck -/
def S_strings_Builder_copyCheck (g0_b : Option Addr) (h : Hp) (Q : List Value → Hp → Prop) : Prop := Fn PP 235 #[(Value.pointer g0_b)] h Q
/-- internal/abi.NoEscape -/
def S_internal_abi_NoEscape (g0_x : Option Addr) (h : Hp) (Q : List Value → Hp → Prop) : Prop := Fn PP 249 #[(Value.pointer g0_x)] h Q
/-- (runtime.boundsError).Error -/
def S_runtime_boundsError_Error (g0_x_0 : Int) (g0_x_1 : Int) (g0_x_2 : Bool) (g0_x_3 : Int) (h : Hp) (Q : List Value → Hp → Prop) : Prop := Fn PP 271 #[(Value.agg #[(Value.int .i64 g0_x_0), (Value.int .i64 g0_x_1), (Value.bool g0_x_2), (Value.int .u8 g0_x_3)])] h Q
/-- (runtime.boundsError).RuntimeError -/
def S_runtime_boundsError_RuntimeError (g0_x_0 : Int) (g0_x_1 : Int) (g0_x_2 : Bool) (g0_x_3 : Int) (h : Hp) (Q : List Value → Hp → Prop) : Prop := Fn PP 272 #[(Value.agg #[(Value.int .i64 g0_x_0), (Value.int .i64 g0_x_1), (Value.bool g0_x_2), (Value.int .u8 g0_x_3)])] h Q
/-- (runtime.errorString).Error -/
def S_runtime_errorString_Error (g0_x : ByteArray) (h : Hp) (Q : List Value → Hp → Prop) : Prop := Fn PP 273 #[(Value.string g0_x)] h Q
/-- (runtime.errorString).RuntimeError -/
def S_runtime_errorString_RuntimeError (g0_x : ByteArray) (h : Hp) (Q : List Value → Hp → Prop) : Prop := Fn PP 274 #[(Value.string g0_x)] h Q
/-- (runtime.plainError).Error -/
def S_runtime_plainError_Error (g0_x : ByteArray) (h : Hp) (Q : List Value → Hp → Prop) : Prop := Fn PP 275 #[(Value.string g0_x)] h Q
/-- (runtime.plainError).RuntimeError -/
def S_runtime_plainError_RuntimeError (g0_x : ByteArray) (h : Hp) (Q : List Value → Hp → Prop) : Prop := Fn PP 276 #[(Value.string g0_x)] h Q
/-- (runtime.errorAddressString).Error -/
def S_runtime_errorAddressString_Error (g0_x_0 : ByteArray) (g0_x_1 : Int) (h : Hp) (Q : List Value → Hp → Prop) : Prop := Fn PP 277 #[(Value.agg #[(Value.string g0_x_0), (Value.int .u64 g0_x_1)])] h Q
/-- (runtime.errorAddressString).RuntimeError -/
def S_runtime_errorAddressString_RuntimeError (g0_x_0 : ByteArray) (g0_x_1 : Int) (h : Hp) (Q : List Value → Hp → Prop) : Prop := Fn PP 278 #[(Value.agg #[(Value.string g0_x_0), (Value.int .u64 g0_x_1)])] h Q
/-- (*runtime.TypeAssertionError).Error -/
def S_runtime_TypeAssertionError_Error (g0_x : Option Addr) (h : Hp) (Q : List Value → Hp → Prop) : Prop := Fn PP 279 #[(Value.pointer g0_x)] h Q
/-- (*runtime.TypeAssertionError).RuntimeError -/
def S_runtime_TypeAssertionError_RuntimeError (g0_x : Option Addr) (h : Hp) (Q : List Value → Hp → Prop) : Prop := Fn PP 280 #[(Value.pointer g0_x)] h Q
/-- (*runtime.PanicNilError).Error -/
def S_runtime_PanicNilError_Error (g0_x : Option Addr) (h : Hp) (Q : List Value → Hp → Prop) : Prop := Fn PP 281 #[(Value.pointer g0_x)] h Q
/-- (*runtime.PanicNilError).RuntimeError -/
def S_runtime_PanicNilError_RuntimeError (g0_x : Option Addr) (h : Hp) (Q : List Value → Hp → Prop) : Prop := Fn PP 282 #[(Value.pointer g0_x)] h Q
/-- (*internal/abi.Type).Align -/
def S_internal_abi_Type_Align (g0_x : Option Addr) (h : Hp) (Q : List Value → Hp → Prop) : Prop := Fn PP 283 #[(Value.pointer g0_x)] h Q
/-- (internal/runtime/maps.unhashableTypeError).Error -/
def S_internal_runtime_maps_unhashableTypeError_Error (g0_x_0 : Option Addr) (h : Hp) (Q : List Value → Hp → Prop) : Prop := Fn PP 284 #[(Value.agg #[(Value.pointer g0_x_0)])] h Q
/-- (internal/runtime/maps.unhashableTypeError).RuntimeError -/
def S_internal_runtime_maps_unhashableTypeError_RuntimeError (g0_x_0 : Option Addr) (h : Hp) (Q : List Value → Hp → Prop) : Prop := Fn PP 285 #[(Value.agg #[(Value.pointer g0_x_0)])] h Q
/-- (livery/api.Errno).Error -/
def S_api_Errno_Error (g0_x : Int) (h : Hp) (Q : List Value → Hp → Prop) : Prop := Fn PP 286 #[(Value.int .i64 g0_x)] h Q
/-- (*livery/name.Names).at -/
def S_name_Names_at (g0_x : Option Addr) (g1_x : Option Addr) (g2_x : Int) (g3_x : ByteArray) (h : Hp) (Q : List Value → Hp → Prop) : Prop := Fn PP 287 #[(Value.pointer g0_x), (Value.pointer g1_x), (Value.int .i64 g2_x), (Value.string g3_x)] h Q
/-- (*livery/lock.Table).Modes -/
def S_lock_Table_Modes (g0_x : Option Addr) (g1_x : Int) (g2_x : ByteArray) (h : Hp) (Q : List Value → Hp → Prop) : Prop := Fn PP 288 #[(Value.pointer g0_x), (Value.int .i64 g1_x), (Value.string g2_x)] h Q
/-- (*livery/index.Index).Len -/
def S_index_Index_Len (g0_x : Option Addr) (h : Hp) (Q : List Value → Hp → Prop) : Prop := Fn PP 289 #[(Value.pointer g0_x)] h Q
/-- (*livery/leaf.Leaves).Len -/
def S_leaf_Leaves_Len (g0_x : Option Addr) (h : Hp) (Q : List Value → Hp → Prop) : Prop := Fn PP 290 #[(Value.pointer g0_x)] h Q
/-- (*strings.Builder).Reset -/
def S_strings_Builder_Reset (g0_x : Option Addr) (h : Hp) (Q : List Value → Hp → Prop) : Prop := Fn PP 291 #[(Value.pointer g0_x)] h Q
/-- (internal/abi.Kind).String -/
def S_internal_abi_Kind_String (g0_x : Int) (h : Hp) (Q : List Value → Hp → Prop) : Prop := Fn PP 292 #[(Value.int .u8 g0_x)] h Q
/-- (*livery/lock.queue).grant -/
def S_lock_queue_grant (g0_x : Option Addr) (h : Hp) (Q : List Value → Hp → Prop) : Prop := Fn PP 293 #[(Value.pointer g0_x)] h Q
/-- (livery/name.version).sees -/
def S_name_version_sees (g0_x_0 : Int) (g0_x_1 : Int) (g0_x_2 : ByteArray) (g0_x_3 : Sl) (g0_x_4 : Int) (g1_x : Option Addr) (g2_x : Int) (h : Hp) (Q : List Value → Hp → Prop) : Prop := Fn PP 294 #[(Value.agg #[(Value.int .i64 g0_x_0), (Value.int .i64 g0_x_1), (Value.string g0_x_2), (Value.slice g0_x_3.a g0_x_3.n g0_x_3.c), (Value.int .i64 g0_x_4)]), (Value.pointer g1_x), (Value.int .i64 g2_x)] h Q
/-- var's door: gosem.cut.vars holds initialisers alone; see the manifest's row cutvarsword (look 11, test files too) -/
def S_var_s_door_gosem_cut_vars_holds_initialisers_alone_see_the_manifest_s_row_cutvarsword_look_11_test_files_too (h : Hp) (Q : List Value → Hp → Prop) : Prop := Fn PP 295 #[] h Q
/-- var's door: the look of gosem.cut.vars went over the folder that the caller named as the repository's root (look 11) -/
def S_var_s_door_the_look_of_gosem_cut_vars_went_over_the_folder_that_the_caller_named_as_the_repository_s_root_look_11 (h : Hp) (Q : List Value → Hp → Prop) : Prop := Fn PP 296 #[] h Q
/-- var's door: unicode/utf8.acceptRanges is laid by its own initialiser, plain data (look 11) -/
def S_var_s_door_unicode_utf8_acceptRanges_is_laid_by_its_own_initialiser_plain_data_look_11 (h : Hp) (Q : List Value → Hp → Prop) : Prop := Fn PP 297 #[] h Q
/-- var's door: unicode/utf8.first is laid by its text alone (pinned 1) -/
def S_var_s_door_unicode_utf8_first_is_laid_by_its_text_alone_pinned_1 (h : Hp) (Q : List Value → Hp → Prop) : Prop := Fn PP 298 #[] h Q
/-- gosem.cut.vars -/
def S_gosem_cut_vars (h : Hp) (Q : List Value → Hp → Prop) : Prop := Fn PP 299 #[] h Q
def F_liverykeep_LargeValue (g0_v_0 : Int) (g0_v_1 : Int) (g0_v_2 : Nat) (g0_v_3 : ByteArray) (h : Hp) (Q : List Value → Hp → Prop) : Prop :=
wth (Array.push h (Obj.cells #[(Value.int .i64 g0_v_0), (Value.int .i64 g0_v_1), (Value.float .f64 g0_v_2), (Value.string g0_v_3)] T_api_Value)) fun h1 =>
∃ s2 : ByteArray, rd h1 (Addr.add (Addr.mk (Array.size h) 0 none) 3) = some (Value.string s2) ∧
Q [(Value.bool (decide ((ByteArray.size s2 : Int) > (2000 : Int))))] h1
def A_liverykeep_LargeValue : Ann := .nil
theorem E_liverykeep_LargeValue (g0_v_0 : Int) (g0_v_1 : Int) (g0_v_2 : Nat) (g0_v_3 : ByteArray) (h : Hp) (Q : List Value → Hp → Prop) : cw PP 7 (fun _ => []) (bodyOf Tryz.f45) A_liverykeep_LargeValue (finQ PP (Tryz.f45.results.toList) Q) (argFr [(Value.agg #[(Value.int .i64 g0_v_0), (Value.int .i64 g0_v_1), (Value.float .f64 g0_v_2), (Value.string g0_v_3)])]) h = F_liverykeep_LargeValue g0_v_0 g0_v_1 g0_v_2 g0_v_3 h Q := by kernel_rfl
theorem O_liverykeep_LargeValue (g0_v_0 : Int) (g0_v_1 : Int) (g0_v_2 : Nat) (g0_v_3 : ByteArray) {h : Hp} {Q : List Value → Hp → Prop} (H : F_liverykeep_LargeValue g0_v_0 g0_v_1 g0_v_2 g0_v_3 h Q) : S_liverykeep_LargeValue g0_v_0 g0_v_1 g0_v_2 g0_v_3 h Q :=
  fn_of_cw (hs := (fun _ => [])) (ann := A_liverykeep_LargeValue) (args := [(Value.agg #[(Value.int .i64 g0_v_0), (Value.int .i64 g0_v_1), (Value.float .f64 g0_v_2), (Value.string g0_v_3)])]) mixedPP Tryz.func45 (c := bodyOf Tryz.f45) (by kernel_rfl) (by kernel_rfl) (by kernel_rfl) (Eq.mpr (E_liverykeep_LargeValue g0_v_0 g0_v_1 g0_v_2 g0_v_3 h Q) H)
def F_liverykeep_LargeRow (g0_l : Sl) (h : Hp) (Q : List Value → Hp → Prop) : Prop :=
(if (decide ((g0_l.n : Int) > (50 : Int))) = true then
  (Q [(Value.bool true)] h) else
  (∀ X1 : List Value → Hp → Prop, (∀ n2 : Int, ∀ h3 : Hp, ((if (decide (n2 < (g0_l.n : Int))) = true then
          (nilW g0_l.a fun a4 => ixOk n2 g0_l.n (∃ n5 : Int, rd h3 (Addr.add (Addr.add a4 (Int.toNat n2 * 4)) 0) = some (Value.int .i64 n5) ∧ ∃ n6 : Int, rd h3 (Addr.add (Addr.add a4 (Int.toNat n2 * 4)) 1) = some (Value.int .i64 n6) ∧ ∃ x7 : Nat, rd h3 (Addr.add (Addr.add a4 (Int.toNat n2 * 4)) 2) = some (Value.float .f64 x7) ∧ ∃ s8 : ByteArray, rd h3 (Addr.add (Addr.add a4 (Int.toNat n2 * 4)) 3) = some (Value.string s8) ∧ S_liverykeep_LargeValue n5 n6 x7 s8 h3 fun (vs9 : List Value) (h10 : Hp) =>
              ∃ b11 : Bool, vs9 = [(Value.bool b11)] ∧
              (if b11 = true then
                (Q [(Value.bool true)] h10) else
                (X1 [(Value.int .i64 (IntKind.wrap .i64 (n2 + (1 : Int))))] h10)))) else
          (Q [(Value.bool false)] h3))) → X1 [(Value.int .i64 n2)] h3) →
    X1 [(Value.int .i64 (0 : Int))] h))
def A_liverykeep_LargeRow : Ann := (.mk none ⟨[], []⟩ .nil (.mk none ⟨[], []⟩ .nil (.mk none ⟨[], []⟩ (.mk none ⟨[], []⟩ .nil (.mk none ⟨[], []⟩ (.mk none ⟨[0], [(3, (.c (.int .i64)))]⟩ .nil .nil) .nil)) .nil)))
theorem E_liverykeep_LargeRow (g0_l : Sl) (h : Hp) (Q : List Value → Hp → Prop) : cw PP 18 (fun _ => []) (bodyOf Tryz.f46) A_liverykeep_LargeRow (finQ PP (Tryz.f46.results.toList) Q) (argFr [(Value.slice g0_l.a g0_l.n g0_l.c)]) h = F_liverykeep_LargeRow g0_l h Q := by kernel_rfl
theorem O_liverykeep_LargeRow (g0_l : Sl) {h : Hp} {Q : List Value → Hp → Prop} (H : F_liverykeep_LargeRow g0_l h Q) : S_liverykeep_LargeRow g0_l h Q :=
  fn_of_cw (hs := (fun _ => [])) (ann := A_liverykeep_LargeRow) (args := [(Value.slice g0_l.a g0_l.n g0_l.c)]) mixedPP Tryz.func46 (c := bodyOf Tryz.f46) (by kernel_rfl) (by kernel_rfl) (by kernel_rfl) (Eq.mpr (E_liverykeep_LargeRow g0_l h Q) H)
def F_liverykeep_LargeColumns (g0_l : Sl) (h : Hp) (Q : List Value → Hp → Prop) : Prop :=
(if (decide ((g0_l.n : Int) > (50 : Int))) = true then
  (Q [(Value.bool true)] h) else
  (∀ X1 : List Value → Hp → Prop, (∀ n2 : Int, ∀ h3 : Hp, ((if (decide (n2 < (g0_l.n : Int))) = true then
          (∀ J4 : List Value → Hp → Prop, (∀ b5 : Bool, ∀ h6 : Hp, ((if b5 = true then
                  (Q [(Value.bool true)] h6) else
                  (X1 [(Value.int .i64 (IntKind.wrap .i64 (n2 + (1 : Int))))] h6))) → J4 [(Value.bool b5)] h6) →
            nilW g0_l.a fun a7 => ixOk n2 g0_l.n (∃ s8 : ByteArray, rd h3 (Addr.add (Addr.add a7 (Int.toNat n2 * 7)) 0) = some (Value.string s8) ∧
              (if (decide ((ByteArray.size s8 : Int) > (1000 : Int))) = true then (J4 [(Value.bool true)] h3) else
                (nilW g0_l.a fun a9 => ixOk n2 g0_l.n (∃ n10 : Int, rd h3 (Addr.add (Addr.add (Addr.add a9 (Int.toNat n2 * 7)) 3) 0) = some (Value.int .i64 n10) ∧ ∃ n11 : Int, rd h3 (Addr.add (Addr.add (Addr.add a9 (Int.toNat n2 * 7)) 3) 1) = some (Value.int .i64 n11) ∧ ∃ x12 : Nat, rd h3 (Addr.add (Addr.add (Addr.add a9 (Int.toNat n2 * 7)) 3) 2) = some (Value.float .f64 x12) ∧ ∃ s13 : ByteArray, rd h3 (Addr.add (Addr.add (Addr.add a9 (Int.toNat n2 * 7)) 3) 3) = some (Value.string s13) ∧ S_liverykeep_LargeValue n10 n11 x12 s13 h3 fun (vs14 : List Value) (h15 : Hp) =>
                    ∃ b16 : Bool, vs14 = [(Value.bool b16)] ∧
                    J4 [(Value.bool b16)] h15))))) else
          (Q [(Value.bool false)] h3))) → X1 [(Value.int .i64 n2)] h3) →
    X1 [(Value.int .i64 (0 : Int))] h))
def A_liverykeep_LargeColumns : Ann := (.mk none ⟨[], []⟩ .nil (.mk none ⟨[], []⟩ .nil (.mk none ⟨[], []⟩ (.mk none ⟨[], []⟩ .nil (.mk none ⟨[], []⟩ (.mk none ⟨[0], [(3, (.c (.int .i64)))]⟩ (.mk none ⟨[], []⟩ .nil (.mk none ⟨[], []⟩ (.mk none ⟨[], []⟩ (.mk none ⟨[], []⟩ (.mk (some ⟨[0, 3], [(27, (.c .bool))]⟩) ⟨[], []⟩ .nil .nil) .nil) .nil) .nil)) .nil) .nil)) .nil)))
theorem E_liverykeep_LargeColumns (g0_l : Sl) (h : Hp) (Q : List Value → Hp → Prop) : cw PP 28 (fun _ => []) (bodyOf Tryz.f47) A_liverykeep_LargeColumns (finQ PP (Tryz.f47.results.toList) Q) (argFr [(Value.slice g0_l.a g0_l.n g0_l.c)]) h = F_liverykeep_LargeColumns g0_l h Q := by kernel_rfl
theorem O_liverykeep_LargeColumns (g0_l : Sl) {h : Hp} {Q : List Value → Hp → Prop} (H : F_liverykeep_LargeColumns g0_l h Q) : S_liverykeep_LargeColumns g0_l h Q :=
  fn_of_cw (hs := (fun _ => [])) (ann := A_liverykeep_LargeColumns) (args := [(Value.slice g0_l.a g0_l.n g0_l.c)]) mixedPP Tryz.func47 (c := bodyOf Tryz.f47) (by kernel_rfl) (by kernel_rfl) (by kernel_rfl) (Eq.mpr (E_liverykeep_LargeColumns g0_l h Q) H)
def F_liverylaw19_Fair (g0_l : Sl) (h : Hp) (Q : List Value → Hp → Prop) : Prop :=
∀ X1 : List Value → Hp → Prop, (∀ n2 : Int, ∀ h3 : Hp, ((if (decide (n2 < (g0_l.n : Int))) = true then
      (nilW g0_l.a fun a4 => ixOk n2 g0_l.n (∃ n5 : Int, rd h3 (Addr.add (Addr.add a4 (Int.toNat n2 * 24)) 0) = some (Value.int .i64 n5) ∧ ∃ n6 : Int, rd h3 (Addr.add (Addr.add a4 (Int.toNat n2 * 24)) 1) = some (Value.int .i64 n6) ∧ ∃ n7 : Int, rd h3 (Addr.add (Addr.add a4 (Int.toNat n2 * 24)) 2) = some (Value.int .i64 n7) ∧ ∃ n8 : Int, rd h3 (Addr.add (Addr.add a4 (Int.toNat n2 * 24)) 3) = some (Value.int .i64 n8) ∧ ∃ s9 : ByteArray, rd h3 (Addr.add (Addr.add a4 (Int.toNat n2 * 24)) 4) = some (Value.string s9) ∧ ∃ s10 : ByteArray, rd h3 (Addr.add (Addr.add a4 (Int.toNat n2 * 24)) 5) = some (Value.string s10) ∧ ∃ b11 : Bool, rd h3 (Addr.add (Addr.add a4 (Int.toNat n2 * 24)) 6) = some (Value.bool b11) ∧ ∃ n12 : Int, rd h3 (Addr.add (Addr.add a4 (Int.toNat n2 * 24)) 7) = some (Value.int .i64 n12) ∧ ∃ n13 : Int, rd h3 (Addr.add (Addr.add a4 (Int.toNat n2 * 24)) 8) = some (Value.int .i64 n13) ∧ ∃ n14 : Int, rd h3 (Addr.add (Addr.add a4 (Int.toNat n2 * 24)) 9) = some (Value.int .i64 n14) ∧ ∃ x15 : Nat, rd h3 (Addr.add (Addr.add a4 (Int.toNat n2 * 24)) 10) = some (Value.float .f64 x15) ∧ ∃ s16 : ByteArray, rd h3 (Addr.add (Addr.add a4 (Int.toNat n2 * 24)) 11) = some (Value.string s16) ∧ ∃ n17 : Int, rd h3 (Addr.add (Addr.add a4 (Int.toNat n2 * 24)) 12) = some (Value.int .i64 n17) ∧ ∃ n18 : Int, rd h3 (Addr.add (Addr.add a4 (Int.toNat n2 * 24)) 13) = some (Value.int .i64 n18) ∧ ∃ x19 : Nat, rd h3 (Addr.add (Addr.add a4 (Int.toNat n2 * 24)) 14) = some (Value.float .f64 x19) ∧ ∃ s20 : ByteArray, rd h3 (Addr.add (Addr.add a4 (Int.toNat n2 * 24)) 15) = some (Value.string s20) ∧ ∃ l21 : Sl, rd h3 (Addr.add (Addr.add a4 (Int.toNat n2 * 24)) 16) = some (Value.slice l21.a l21.n l21.c) ∧ ∃ l22 : Sl, rd h3 (Addr.add (Addr.add a4 (Int.toNat n2 * 24)) 17) = some (Value.slice l22.a l22.n l22.c) ∧ ∃ n23 : Int, rd h3 (Addr.add (Addr.add a4 (Int.toNat n2 * 24)) 18) = some (Value.int .i64 n23) ∧ ∃ s24 : ByteArray, rd h3 (Addr.add (Addr.add a4 (Int.toNat n2 * 24)) 19) = some (Value.string s24) ∧ ∃ n25 : Int, rd h3 (Addr.add (Addr.add a4 (Int.toNat n2 * 24)) 20) = some (Value.int .i64 n25) ∧ ∃ s26 : ByteArray, rd h3 (Addr.add (Addr.add a4 (Int.toNat n2 * 24)) 21) = some (Value.string s26) ∧ ∃ n27 : Int, rd h3 (Addr.add (Addr.add a4 (Int.toNat n2 * 24)) 22) = some (Value.int .i64 n27) ∧ ∃ b28 : Bool, rd h3 (Addr.add (Addr.add a4 (Int.toNat n2 * 24)) 23) = some (Value.bool b28) ∧ wth (Array.push h3 (Obj.cells #[(Value.int .i64 (0 : Int)), (Value.int .i64 (0 : Int)), (Value.int .i64 (0 : Int)), (Value.int .i64 (0 : Int)), (Value.string (ByteArray.mk #[])), (Value.string (ByteArray.mk #[])), (Value.bool false), (Value.int .i64 (0 : Int)), (Value.int .i64 (0 : Int)), (Value.int .i64 (0 : Int)), (Value.float .f64 0), (Value.string (ByteArray.mk #[])), (Value.int .i64 (0 : Int)), (Value.int .i64 (0 : Int)), (Value.float .f64 0), (Value.string (ByteArray.mk #[])), (Value.slice none 0 0), (Value.slice none 0 0), (Value.int .i64 (0 : Int)), (Value.string (ByteArray.mk #[])), (Value.int .i64 (0 : Int)), (Value.string (ByteArray.mk #[])), (Value.int .i64 (0 : Int)), (Value.bool false)] T_liverylaw19_Step)) fun h29 =>
          stOk h29 (Addr.mk (Array.size h3) 0 none) 24 ∧ wth (wrs h29 (Addr.mk (Array.size h3) 0 none) 0 [(Value.int .i64 n5), (Value.int .i64 n6), (Value.int .i64 n7), (Value.int .i64 n8), (Value.string s9), (Value.string s10), (Value.bool b11), (Value.int .i64 n12), (Value.int .i64 n13), (Value.int .i64 n14), (Value.float .f64 x15), (Value.string s16), (Value.int .i64 n17), (Value.int .i64 n18), (Value.float .f64 x19), (Value.string s20), (Value.slice l21.a l21.n l21.c), (Value.slice l22.a l22.n l22.c), (Value.int .i64 n23), (Value.string s24), (Value.int .i64 n25), (Value.string s26), (Value.int .i64 n27), (Value.bool b28)]) fun h30 =>
          ∀ J31 : List Value → Hp → Prop, (∀ b32 : Bool, ∀ h33 : Hp, ((if b32 = true then
                (Q [(Value.bool false)] h33) else
                (X1 [(Value.int .i64 (IntKind.wrap .i64 (n2 + (1 : Int))))] h33))) → J31 [(Value.bool b32)] h33) →
          ∃ s34 : ByteArray, rd h30 (Addr.add (Addr.add (Addr.mk (Array.size h3) 0 none) 4) 0) = some (Value.string s34) ∧
          (if (decide ((ByteArray.size s34 : Int) > (100 : Int))) = true then (J31 [(Value.bool true)] h30) else
            (∃ s35 : ByteArray, rd h30 (Addr.add (Addr.add (Addr.mk (Array.size h3) 0 none) 4) 1) = some (Value.string s35) ∧
              (if (decide ((ByteArray.size s35 : Int) > (100 : Int))) = true then (J31 [(Value.bool true)] h30) else
                (∃ n36 : Int, rd h30 (Addr.add (Addr.add (Addr.mk (Array.size h3) 0 none) 8) 0) = some (Value.int .i64 n36) ∧ ∃ n37 : Int, rd h30 (Addr.add (Addr.add (Addr.mk (Array.size h3) 0 none) 8) 1) = some (Value.int .i64 n37) ∧ ∃ x38 : Nat, rd h30 (Addr.add (Addr.add (Addr.mk (Array.size h3) 0 none) 8) 2) = some (Value.float .f64 x38) ∧ ∃ s39 : ByteArray, rd h30 (Addr.add (Addr.add (Addr.mk (Array.size h3) 0 none) 8) 3) = some (Value.string s39) ∧ S_liverykeep_LargeValue n36 n37 x38 s39 h30 fun (vs40 : List Value) (h41 : Hp) =>
                  ∃ b42 : Bool, vs40 = [(Value.bool b42)] ∧
                  (if b42 = true then (J31 [(Value.bool true)] h41) else
                    (∃ n43 : Int, rd h41 (Addr.add (Addr.add (Addr.mk (Array.size h3) 0 none) 12) 0) = some (Value.int .i64 n43) ∧ ∃ n44 : Int, rd h41 (Addr.add (Addr.add (Addr.mk (Array.size h3) 0 none) 12) 1) = some (Value.int .i64 n44) ∧ ∃ x45 : Nat, rd h41 (Addr.add (Addr.add (Addr.mk (Array.size h3) 0 none) 12) 2) = some (Value.float .f64 x45) ∧ ∃ s46 : ByteArray, rd h41 (Addr.add (Addr.add (Addr.mk (Array.size h3) 0 none) 12) 3) = some (Value.string s46) ∧ S_liverykeep_LargeValue n43 n44 x45 s46 h41 fun (vs47 : List Value) (h48 : Hp) =>
                      ∃ b49 : Bool, vs47 = [(Value.bool b49)] ∧
                      (if b49 = true then (J31 [(Value.bool true)] h48) else
                        (∃ l50 : Sl, rd h48 (Addr.add (Addr.mk (Array.size h3) 0 none) 16) = some (Value.slice l50.a l50.n l50.c) ∧
                          S_liverykeep_LargeRow ⟨l50.a, l50.n, l50.c⟩ h48 fun (vs51 : List Value) (h52 : Hp) =>
                          ∃ b53 : Bool, vs51 = [(Value.bool b53)] ∧
                          (if b53 = true then (J31 [(Value.bool true)] h52) else
                            (∃ l54 : Sl, rd h52 (Addr.add (Addr.mk (Array.size h3) 0 none) 17) = some (Value.slice l54.a l54.n l54.c) ∧
                              S_liverykeep_LargeColumns ⟨l54.a, l54.n, l54.c⟩ h52 fun (vs55 : List Value) (h56 : Hp) =>
                              ∃ b57 : Bool, vs55 = [(Value.bool b57)] ∧
                              (if b57 = true then (J31 [(Value.bool true)] h56) else
                                (∃ s58 : ByteArray, rd h56 (Addr.add (Addr.add (Addr.mk (Array.size h3) 0 none) 18) 1) = some (Value.string s58) ∧
                                  (if (decide ((ByteArray.size s58 : Int) > (100 : Int))) = true then (J31 [(Value.bool true)] h56) else
                                    (∃ s59 : ByteArray, rd h56 (Addr.add (Addr.add (Addr.mk (Array.size h3) 0 none) 18) 3) = some (Value.string s59) ∧
                                      J31 [(Value.bool (decide ((ByteArray.size s59 : Int) > (100 : Int))))] h56)))))))))))))))) else
      (Q [(Value.bool (decide ((g0_l.n : Int) ≤ (120 : Int))))] h3))) → X1 [(Value.int .i64 n2)] h3) →
X1 [(Value.int .i64 (0 : Int))] h
def A_liverylaw19_Fair : Ann := (.mk none ⟨[], []⟩ .nil (.mk none ⟨[], []⟩ (.mk none ⟨[], []⟩ .nil (.mk none ⟨[], []⟩ (.mk none ⟨[0], [(3, (.c (.int .i64)))]⟩ (.mk none ⟨[], []⟩ .nil (.mk none ⟨[], []⟩ (.mk none ⟨[], []⟩ (.mk none ⟨[], []⟩ .nil (.mk none ⟨[], []⟩ (.mk (some ⟨[0, 3], [(60, (.c .bool))]⟩) ⟨[], []⟩ .nil .nil) .nil)) .nil) .nil)) .nil) .nil)) .nil))
theorem E_liverylaw19_Fair (g0_l : Sl) (h : Hp) (Q : List Value → Hp → Prop) : cw PP 64 (fun _ => []) (bodyOf Tryz.f7) A_liverylaw19_Fair (finQ PP (Tryz.f7.results.toList) Q) (argFr [(Value.slice g0_l.a g0_l.n g0_l.c)]) h = F_liverylaw19_Fair g0_l h Q := by kernel_rfl
theorem O_liverylaw19_Fair (g0_l : Sl) {h : Hp} {Q : List Value → Hp → Prop} (H : F_liverylaw19_Fair g0_l h Q) : S_liverylaw19_Fair g0_l h Q :=
  fn_of_cw (hs := (fun _ => [])) (ann := A_liverylaw19_Fair) (args := [(Value.slice g0_l.a g0_l.n g0_l.c)]) mixedPP Tryz.func7 (c := bodyOf Tryz.f7) (by kernel_rfl) (by kernel_rfl) (by kernel_rfl) (Eq.mpr (E_liverylaw19_Fair g0_l h Q) H)
def F_table_Store_Ssi (g0_s : Option Addr) (h : Hp) (Q : List Value → Hp → Prop) : Prop :=
(if (Option.isNone g0_s) = true then
  (Q [(Value.pointer none)] h) else
  (nilW g0_s fun a1 => ∃ p2 : Option Addr, rd h (Addr.add a1 3) = some (Value.pointer p2) ∧
    Q [(Value.pointer p2)] h))
def A_table_Store_Ssi : Ann := .nil
theorem E_table_Store_Ssi (g0_s : Option Addr) (h : Hp) (Q : List Value → Hp → Prop) : cw PP 9 (fun _ => []) (bodyOf Tryz.f11) A_table_Store_Ssi (finQ PP (Tryz.f11.results.toList) Q) (argFr [(Value.pointer g0_s)]) h = F_table_Store_Ssi g0_s h Q := by kernel_rfl
theorem O_table_Store_Ssi (g0_s : Option Addr) {h : Hp} {Q : List Value → Hp → Prop} (H : F_table_Store_Ssi g0_s h Q) : S_table_Store_Ssi g0_s h Q :=
  fn_of_cw (hs := (fun _ => [])) (ann := A_table_Store_Ssi) (args := [(Value.pointer g0_s)]) mixedPP Tryz.func11 (c := bodyOf Tryz.f11) (by kernel_rfl) (by kernel_rfl) (by kernel_rfl) (Eq.mpr (E_table_Store_Ssi g0_s h Q) H)
def F_table_Store_NewRel (g0_s : Option Addr) (h : Hp) (Q : List Value → Hp → Prop) : Prop :=
(if (Option.isNone g0_s) = true then
  (Q [(Value.int .i64 (0 : Int)), (Value.int .i64 (1 : Int))] h) else
  (nilW g0_s fun a1 => ∃ r2 : Option Nat, rd h (Addr.add a1 4) = some (Value.map r2) ∧
    ∃ es3 : Array MapEntry, mapAt h r2 es3 ∧
    (if (decide ((Array.size es3 : Int) ≥ (100 : Int))) = true then
      (Q [(Value.int .i64 (0 : Int)), (Value.int .i64 (74 : Int))] h) else
      (nilW g0_s fun a4 => ∃ r5 : Option Nat, rd h (Addr.add a4 4) = some (Value.map r5) ∧
        ∃ es6 : Array MapEntry, mapAt h r5 es6 ∧
        nilW g0_s fun a7 => ∃ r8 : Option Nat, rd h (Addr.add a7 4) = some (Value.map r8) ∧
        S_heap_New  h fun (vs9 : List Value) (h10 : Hp) =>
        ∃ p11 : Option Addr, vs9 = [(Value.pointer p11)] ∧
        rd h10 (Addr.add a7 4) = some (Value.map r8) ∧ wth (Array.push h10 (Obj.cells #[(Value.pointer p11), (Value.slice none 0 0)] T_table_rel)) fun h12 =>
        rd h12 (Addr.add a7 4) = some (Value.map r8) ∧ ∃ (m13 : Nat) (es14 : Array MapEntry) (c15 : Nat), r8 = some m13 ∧ h12[m13]? = some (.map es14 c15) ∧ KeysLike (Value.int .i64 (IntKind.wrap .i64 ((Array.size es6 : Int) + (1 : Int)))) es14 ∧ wth (Array.setIfInBounds h12 m13 (mput (Value.int .i64 (IntKind.wrap .i64 ((Array.size es6 : Int) + (1 : Int)))) (Value.pointer (some (Addr.mk (Array.size h10) 0 none))) es14 c15)) fun h16 =>
        Q [(Value.int .i64 (IntKind.wrap .i64 ((Array.size es6 : Int) + (1 : Int)))), (Value.int .i64 (0 : Int))] h16))))
def A_table_Store_NewRel : Ann := .nil
theorem E_table_Store_NewRel (g0_s : Option Addr) (h : Hp) (Q : List Value → Hp → Prop) : cw PP 30 (fun _ => []) (bodyOf Tryz.f13) A_table_Store_NewRel (finQ PP (Tryz.f13.results.toList) Q) (argFr [(Value.pointer g0_s)]) h = F_table_Store_NewRel g0_s h Q := by kernel_rfl
theorem O_table_Store_NewRel (g0_s : Option Addr) {h : Hp} {Q : List Value → Hp → Prop} (H : F_table_Store_NewRel g0_s h Q) : S_table_Store_NewRel g0_s h Q :=
  fn_of_cw (hs := (fun _ => [])) (ann := A_table_Store_NewRel) (args := [(Value.pointer g0_s)]) mixedPP Tryz.func13 (c := bodyOf Tryz.f13) (by kernel_rfl) (by kernel_rfl) (by kernel_rfl) (Eq.mpr (E_table_Store_NewRel g0_s h Q) H)
def F_table_Store_rel (g0_s : Option Addr) (g1_n : Int) (h : Hp) (Q : List Value → Hp → Prop) : Prop :=
(if (Option.isNone g0_s) = true then
  (Q [(Value.pointer none)] h) else
  (nilW g0_s fun a1 => ∃ r2 : Option Nat, rd h (Addr.add a1 4) = some (Value.map r2) ∧
    ∃ es3 : Array MapEntry, mapAt h r2 es3 ∧ KeysLike (Value.int .i64 g1_n) es3 ∧ ∃ p4 : Option Addr, mgetD (Value.int .i64 g1_n) es3 (Value.pointer none) = (Value.pointer p4) ∧
    Q [(Value.pointer p4)] h))
def A_table_Store_rel : Ann := .nil
theorem E_table_Store_rel (g0_s : Option Addr) (g1_n : Int) (h : Hp) (Q : List Value → Hp → Prop) : cw PP 13 (fun _ => []) (bodyOf Tryz.f57) A_table_Store_rel (finQ PP (Tryz.f57.results.toList) Q) (argFr [(Value.pointer g0_s), (Value.int .i64 g1_n)]) h = F_table_Store_rel g0_s g1_n h Q := by kernel_rfl
theorem O_table_Store_rel (g0_s : Option Addr) (g1_n : Int) {h : Hp} {Q : List Value → Hp → Prop} (H : F_table_Store_rel g0_s g1_n h Q) : S_table_Store_rel g0_s g1_n h Q :=
  fn_of_cw (hs := (fun _ => [])) (ann := A_table_Store_rel) (args := [(Value.pointer g0_s), (Value.int .i64 g1_n)]) mixedPP Tryz.func57 (c := bodyOf Tryz.f57) (by kernel_rfl) (by kernel_rfl) (by kernel_rfl) (Eq.mpr (E_table_Store_rel g0_s g1_n h Q) H)
def F_table_Store_standing (g0_s : Option Addr) (g1_n : Int) (h : Hp) (Q : List Value → Hp → Prop) : Prop :=
S_table_Store_rel g0_s g1_n h fun (vs1 : List Value) (h2 : Hp) =>
∃ p3 : Option Addr, vs1 = [(Value.pointer p3)] ∧
(if (Option.isNone p3) = true then
  (Q [(Value.slice none 0 0)] h2) else
  (nilW p3 fun a4 => ∃ l5 : Sl, rd h2 (Addr.add a4 1) = some (Value.slice l5.a l5.n l5.c) ∧
    ∀ X6 : List Value → Hp → Prop, (∀ l7 : Sl, ∀ n8 : Int, ∀ h9 : Hp, ((if (decide (n8 < (l5.n : Int))) = true then
          (∀ J10 : List Value → Hp → Prop, (∀ l11 : Sl, ∀ h12 : Hp, (X6 [(Value.slice l11.a l11.n l11.c), (Value.int .i64 (IntKind.wrap .i64 (n8 + (1 : Int))))] h12) → J10 [(Value.slice l11.a l11.n l11.c)] h12) →
            nilW l5.a fun a13 => ixOk n8 l5.n (∃ p14 : Option Addr, rd h9 (Addr.add a13 (Int.toNat n8 * 1)) = some (Value.pointer p14) ∧
              S_table_Store_stands g0_s p14 h9 fun (vs15 : List Value) (h16 : Hp) =>
              ∃ b17 : Bool, vs15 = [(Value.bool b17)] ∧
              (if (!b17) = true then
                (J10 [(Value.slice l7.a l7.n l7.c)] h16) else
                (wth (Array.push h16 (Obj.cells #[(Value.pointer p14)] T_ptable_entries)) fun h18 =>
                  ∃ cs21 : List Value, cellsAt h18 (some (Addr.mk (Array.size h16) 0 none)) (1 * 1) cs21 ∧ appS PP T_ptable_entries 8 1 h18 ⟨l7.a, l7.n, l7.c⟩ 1 cs21 fun (l19 : Sl) (h20 : Hp) =>
                  J10 [(Value.slice l19.a l19.n l19.c)] h20)))) else
          (S_slices_SortStableFunc_sptable_entries_ptable_entries ⟨l7.a, l7.n, l7.c⟩ 104 #[] h9 fun (vs22 : List Value) (h23 : Hp) =>
            vs22 = [] ∧
            Q [(Value.slice l7.a l7.n l7.c)] h23))) → X6 [(Value.slice l7.a l7.n l7.c), (Value.int .i64 n8)] h9) →
    X6 [(Value.slice none 0 0), (Value.int .i64 (0 : Int))] h2))
def A_table_Store_standing : Ann := (.mk none ⟨[], []⟩ .nil (.mk none ⟨[], []⟩ (.mk none ⟨[], []⟩ .nil (.mk none ⟨[], []⟩ .nil (.mk none ⟨[], []⟩ .nil (.mk none ⟨[], []⟩ .nil (.mk none ⟨[], []⟩ (.mk none ⟨[], []⟩ .nil (.mk none ⟨[], []⟩ (.mk none ⟨[0, 17, 18], [(6, (.c .sl)), (19, (.c (.int .i64)))]⟩ (.mk none ⟨[], []⟩ .nil (.mk none ⟨[], []⟩ .nil (.mk none ⟨[], []⟩ (.mk (some ⟨[0, 17, 18, 19], [(6, (.c .sl))]⟩) ⟨[], []⟩ .nil .nil) .nil))) .nil) .nil)) .nil))))) .nil))
theorem E_table_Store_standing (g0_s : Option Addr) (g1_n : Int) (h : Hp) (Q : List Value → Hp → Prop) : cw PP 35 (fun _ => []) (bodyOf Tryz.f60) A_table_Store_standing (finQ PP (Tryz.f60.results.toList) Q) (argFr [(Value.pointer g0_s), (Value.int .i64 g1_n)]) h = F_table_Store_standing g0_s g1_n h Q := by kernel_rfl
theorem O_table_Store_standing (g0_s : Option Addr) (g1_n : Int) {h : Hp} {Q : List Value → Hp → Prop} (H : F_table_Store_standing g0_s g1_n h Q) : S_table_Store_standing g0_s g1_n h Q :=
  fn_of_cw (hs := (fun _ => [])) (ann := A_table_Store_standing) (args := [(Value.pointer g0_s), (Value.int .i64 g1_n)]) mixedPP Tryz.func60 (c := bodyOf Tryz.f60) (by kernel_rfl) (by kernel_rfl) (by kernel_rfl) (Eq.mpr (E_table_Store_standing g0_s g1_n h Q) H)
def F_slices_IndexFunc_sptable_entries_ptable_entries (g0_s : Sl) (g1_f_f : Nat) (g1_f_c : Array Value) (h : Hp) (Q : List Value → Hp → Prop) : Prop :=
∀ X1 : List Value → Hp → Prop, (∀ n2 : Int, ∀ h3 : Hp, ((if (decide (n2 < (g0_s.n : Int))) = true then
      (nilW g0_s.a fun a4 => ixOk n2 g0_s.n (∃ p5 : Option Addr, rd h3 (Addr.add a4 (Int.toNat n2 * 1)) = some (Value.pointer p5) ∧
          Fn PP g1_f_f ((#[] ++ #[(Value.pointer p5)]) ++ g1_f_c) h3 fun (vs6 : List Value) (h7 : Hp) =>
          ∃ b8 : Bool, vs6 = [(Value.bool b8)] ∧
          (if b8 = true then
            (Q [(Value.int .i64 n2)] h7) else
            (X1 [(Value.int .i64 (IntKind.wrap .i64 (n2 + (1 : Int))))] h7)))) else
      (Q [(Value.int .i64 (-1 : Int))] h3))) → X1 [(Value.int .i64 n2)] h3) →
X1 [(Value.int .i64 (0 : Int))] h
def A_slices_IndexFunc_sptable_entries_ptable_entries : Ann := (.mk none ⟨[], []⟩ .nil (.mk none ⟨[], []⟩ (.mk none ⟨[], []⟩ .nil (.mk none ⟨[], []⟩ (.mk none ⟨[0, 1, 7], [(8, (.c (.int .i64)))]⟩ .nil .nil) .nil)) .nil))
theorem E_slices_IndexFunc_sptable_entries_ptable_entries (g0_s : Sl) (g1_f_f : Nat) (g1_f_c : Array Value) (h : Hp) (Q : List Value → Hp → Prop) : cw PP 19 (fun _ => []) (bodyOf Tryz.f100) A_slices_IndexFunc_sptable_entries_ptable_entries (finQ PP (Tryz.f100.results.toList) Q) (argFr [(Value.slice g0_s.a g0_s.n g0_s.c), (Value.func (.func g1_f_f) #[] g1_f_c)]) h = F_slices_IndexFunc_sptable_entries_ptable_entries g0_s g1_f_f g1_f_c h Q := by kernel_rfl
theorem O_slices_IndexFunc_sptable_entries_ptable_entries (g0_s : Sl) (g1_f_f : Nat) (g1_f_c : Array Value) {h : Hp} {Q : List Value → Hp → Prop} (H : F_slices_IndexFunc_sptable_entries_ptable_entries g0_s g1_f_f g1_f_c h Q) : S_slices_IndexFunc_sptable_entries_ptable_entries g0_s g1_f_f g1_f_c h Q :=
  fn_of_cw (hs := (fun _ => [])) (ann := A_slices_IndexFunc_sptable_entries_ptable_entries) (args := [(Value.slice g0_s.a g0_s.n g0_s.c), (Value.func (.func g1_f_f) #[] g1_f_c)]) mixedPP Tryz.func100 (c := bodyOf Tryz.f100) (by kernel_rfl) (by kernel_rfl) (by kernel_rfl) (Eq.mpr (E_slices_IndexFunc_sptable_entries_ptable_entries g0_s g1_f_f g1_f_c h Q) H)
def F_table_Store_get (g0_s : Option Addr) (g1_rel : Int) (g2_name : ByteArray) (h : Hp) (Q : List Value → Hp → Prop) : Prop :=
wth (Array.push h (Obj.cells #[(Value.string g2_name)] T_string)) fun h1 =>
S_table_Store_standing g0_s g1_rel h1 fun (vs2 : List Value) (h3 : Hp) =>
∃ l4 : Sl, vs2 = [(Value.slice l4.a l4.n l4.c)] ∧
S_slices_IndexFunc_sptable_entries_ptable_entries ⟨l4.a, l4.n, l4.c⟩ 101 #[(Value.pointer (some (Addr.mk (Array.size h) 0 none)))] h3 fun (vs5 : List Value) (h6 : Hp) =>
∃ n7 : Int, vs5 = [(Value.int .i64 n7)] ∧
(if (decide (n7 ≥ (0 : Int))) = true then
  (nilW l4.a fun a8 => ixOk n7 l4.n (∃ p9 : Option Addr, rd h6 (Addr.add a8 (Int.toNat n7 * 1)) = some (Value.pointer p9) ∧
      Q [(Value.pointer p9)] h6)) else
  (Q [(Value.pointer none)] h6))
def A_table_Store_get : Ann := .nil
theorem E_table_Store_get (g0_s : Option Addr) (g1_rel : Int) (g2_name : ByteArray) (h : Hp) (Q : List Value → Hp → Prop) : cw PP 21 (fun _ => []) (bodyOf Tryz.f59) A_table_Store_get (finQ PP (Tryz.f59.results.toList) Q) (argFr [(Value.pointer g0_s), (Value.int .i64 g1_rel), (Value.string g2_name)]) h = F_table_Store_get g0_s g1_rel g2_name h Q := by kernel_rfl
theorem O_table_Store_get (g0_s : Option Addr) (g1_rel : Int) (g2_name : ByteArray) {h : Hp} {Q : List Value → Hp → Prop} (H : F_table_Store_get g0_s g1_rel g2_name h Q) : S_table_Store_get g0_s g1_rel g2_name h Q :=
  fn_of_cw (hs := (fun _ => [])) (ann := A_table_Store_get) (args := [(Value.pointer g0_s), (Value.int .i64 g1_rel), (Value.string g2_name)]) mixedPP Tryz.func59 (c := bodyOf Tryz.f59) (by kernel_rfl) (by kernel_rfl) (by kernel_rfl) (Eq.mpr (E_table_Store_get g0_s g1_rel g2_name h Q) H)
def F_table_Store_Make (g0_s : Option Addr) (g1_xid : Int) (g2_rel : Int) (g3_x_0 : ByteArray) (g3_x_1 : ByteArray) (g3_x_2 : Bool) (g3_x_3 : Int) (g4_cols : Sl) (h : Hp) (Q : List Value → Hp → Prop) : Prop :=
wth (Array.push h (Obj.cells #[(Value.string g3_x_0), (Value.string g3_x_1), (Value.bool g3_x_2), (Value.int .i64 g3_x_3)] T_api_Index)) fun h1 =>
S_table_Store_rel g0_s g2_rel h1 fun (vs2 : List Value) (h3 : Hp) =>
∃ p4 : Option Addr, vs2 = [(Value.pointer p4)] ∧
∀ J5 : List Value → Hp → Prop, (∀ b6 : Bool, ∀ h7 : Hp, ((if b6 = true then
      (Q [(Value.int .i64 (1 : Int))] h7) else
      (∃ s8 : ByteArray, rd h7 (Addr.add (Addr.mk (Array.size h) 0 none) 0) = some (Value.string s8) ∧
        S_table_Store_get g0_s g2_rel s8 h7 fun (vs9 : List Value) (h10 : Hp) =>
        ∃ p11 : Option Addr, vs9 = [(Value.pointer p11)] ∧
        (if (!(Option.isNone p11)) = true then
          (Q [(Value.int .i64 (63 : Int))] h10) else
          (S_table_Store_standing g0_s g2_rel h10 fun (vs12 : List Value) (h13 : Hp) =>
            ∃ l14 : Sl, vs12 = [(Value.slice l14.a l14.n l14.c)] ∧
            (if (decide ((l14.n : Int) ≥ (4 : Int))) = true then
              (Q [(Value.int .i64 (3 : Int))] h13) else
              (∃ s15 : ByteArray, rd h13 (Addr.add (Addr.mk (Array.size h) 0 none) 1) = some (Value.string s15) ∧
                S_row_Find ⟨g4_cols.a, g4_cols.n, g4_cols.c⟩ s15 h13 fun (vs16 : List Value) (h17 : Hp) =>
                ∃ n18 : Int, vs16 = [(Value.int .i64 n18)] ∧
                (if (decide (n18 < (0 : Int))) = true then
                  (Q [(Value.int .i64 (61 : Int))] h17) else
                  (∃ s19 : ByteArray, rd h17 (Addr.add (Addr.mk (Array.size h) 0 none) 0) = some (Value.string s19) ∧ ∃ s20 : ByteArray, rd h17 (Addr.add (Addr.mk (Array.size h) 0 none) 1) = some (Value.string s20) ∧ ∃ b21 : Bool, rd h17 (Addr.add (Addr.mk (Array.size h) 0 none) 2) = some (Value.bool b21) ∧ ∃ n22 : Int, rd h17 (Addr.add (Addr.mk (Array.size h) 0 none) 3) = some (Value.int .i64 n22) ∧ S_table_Store_add g0_s p4 s19 s20 b21 n22 g1_xid (0 : Int) h17 fun (vs23 : List Value) (h24 : Hp) =>
                    ∃ n25 : Int, vs23 = [(Value.int .i64 n25)] ∧
                    Q [(Value.int .i64 n25)] h24))))))))) → J5 [(Value.bool b6)] h7) →
(if (Option.isNone p4) = true then (J5 [(Value.bool true)] h3) else
  (nilW g0_s fun a26 => ∃ p27 : Option Addr, rd h3 (Addr.add a26 0) = some (Value.pointer p27) ∧
    S_clog_Log_State p27 g1_xid h3 fun (vs28 : List Value) (h29 : Hp) =>
    ∃ n30 : Int, vs28 = [(Value.int .i64 n30)] ∧
    J5 [(Value.bool (n30 != (1 : Int)))] h29))
def A_table_Store_Make : Ann := (.mk none ⟨[], []⟩ .nil (.mk none ⟨[], []⟩ .nil (.mk none ⟨[], []⟩ (.mk none ⟨[], []⟩ (.mk none ⟨[], []⟩ (.mk (some ⟨[0, 1, 2, 4, 8, 11], [(15, (.c .bool))]⟩) ⟨[], []⟩ .nil .nil) .nil) .nil) .nil)))
theorem E_table_Store_Make (g0_s : Option Addr) (g1_xid : Int) (g2_rel : Int) (g3_x_0 : ByteArray) (g3_x_1 : ByteArray) (g3_x_2 : Bool) (g3_x_3 : Int) (g4_cols : Sl) (h : Hp) (Q : List Value → Hp → Prop) : cw PP 52 (fun _ => []) (bodyOf Tryz.f14) A_table_Store_Make (finQ PP (Tryz.f14.results.toList) Q) (argFr [(Value.pointer g0_s), (Value.int .i64 g1_xid), (Value.int .i64 g2_rel), (Value.agg #[(Value.string g3_x_0), (Value.string g3_x_1), (Value.bool g3_x_2), (Value.int .i64 g3_x_3)]), (Value.slice g4_cols.a g4_cols.n g4_cols.c)]) h = F_table_Store_Make g0_s g1_xid g2_rel g3_x_0 g3_x_1 g3_x_2 g3_x_3 g4_cols h Q := by kernel_rfl
theorem O_table_Store_Make (g0_s : Option Addr) (g1_xid : Int) (g2_rel : Int) (g3_x_0 : ByteArray) (g3_x_1 : ByteArray) (g3_x_2 : Bool) (g3_x_3 : Int) (g4_cols : Sl) {h : Hp} {Q : List Value → Hp → Prop} (H : F_table_Store_Make g0_s g1_xid g2_rel g3_x_0 g3_x_1 g3_x_2 g3_x_3 g4_cols h Q) : S_table_Store_Make g0_s g1_xid g2_rel g3_x_0 g3_x_1 g3_x_2 g3_x_3 g4_cols h Q :=
  fn_of_cw (hs := (fun _ => [])) (ann := A_table_Store_Make) (args := [(Value.pointer g0_s), (Value.int .i64 g1_xid), (Value.int .i64 g2_rel), (Value.agg #[(Value.string g3_x_0), (Value.string g3_x_1), (Value.bool g3_x_2), (Value.int .i64 g3_x_3)]), (Value.slice g4_cols.a g4_cols.n g4_cols.c)]) mixedPP Tryz.func14 (c := bodyOf Tryz.f14) (by kernel_rfl) (by kernel_rfl) (by kernel_rfl) (Eq.mpr (E_table_Store_Make g0_s g1_xid g2_rel g3_x_0 g3_x_1 g3_x_2 g3_x_3 g4_cols h Q) H)
def F_table_Store_Put (g0_s : Option Addr) (g1_xid : Int) (g2_n : Int) (g3_r : Sl) (g4_cols : Sl) (h : Hp) (Q : List Value → Hp → Prop) : Prop :=
S_table_Store_rel g0_s g2_n h fun (vs1 : List Value) (h2 : Hp) =>
∃ p3 : Option Addr, vs1 = [(Value.pointer p3)] ∧
(if (Option.isNone p3) = true then
  (Q [(Value.int .i64 (0 : Int)), (Value.int .i64 (1 : Int))] h2) else
  (nilW p3 fun a4 => ∃ p5 : Option Addr, rd h2 (Addr.add a4 0) = some (Value.pointer p5) ∧
    S_heap_Rel_Insert p5 g1_xid ⟨g3_r.a, g3_r.n, g3_r.c⟩ h2 fun (vs6 : List Value) (h7 : Hp) =>
    ∃ n8 : Int, ∃ n9 : Int, vs6 = [(Value.int .i64 n8), (Value.int .i64 n9)] ∧
    (if (n9 != (0 : Int)) = true then
      (Q [(Value.int .i64 (0 : Int)), (Value.int .i64 n9)] h7) else
      (S_table_Store_standing g0_s g2_n h7 fun (vs10 : List Value) (h11 : Hp) =>
        ∃ l12 : Sl, vs10 = [(Value.slice l12.a l12.n l12.c)] ∧
        ∀ X13 : List Value → Hp → Prop, (∀ n14 : Int, ∀ h15 : Hp, ((if (decide (n14 < (l12.n : Int))) = true then
              (∀ J16 : List Value → Hp → Prop, (∀ h17 : Hp, (X13 [(Value.int .i64 (IntKind.wrap .i64 (n14 + (1 : Int))))] h17) → J16 [] h17) →
                nilW l12.a fun a18 => ixOk n14 l12.n (∃ p19 : Option Addr, rd h15 (Addr.add a18 (Int.toNat n14 * 1)) = some (Value.pointer p19) ∧
                  ∀ J20 : List Value → Hp → Prop, (∀ n21 : Int, ∀ a22 : Addr, ∀ n23 : Int, ∀ h24 : Hp, ((if (n23 != (0 : Int)) = true then
                        (J16 [] h24) else
                        (∃ n25 : Int, rd h24 (Addr.add a22 0) = some (Value.int .i64 n25) ∧ ∃ n26 : Int, rd h24 (Addr.add a22 1) = some (Value.int .i64 n26) ∧ ∀ J27 : List Value → Hp → Prop, (∀ h28 : Hp, (nilW g0_s fun a29 => ∃ p30 : Option Addr, rd h28 (Addr.add a29 3) = some (Value.pointer p30) ∧
                              S_table_thing g2_n p19 n21 h28 fun (vs31 : List Value) (h32 : Hp) =>
                              ∃ n33 : Int, ∃ s34 : ByteArray, ∃ n35 : Int, ∃ s36 : ByteArray, ∃ n37 : Int, vs31 = [(Value.agg #[(Value.int .i64 n33), (Value.string s34), (Value.int .i64 n35), (Value.string s36), (Value.int .i64 n37)])] ∧
                              rd h32 (Addr.add a29 3) = some (Value.pointer p30) ∧ S_ssi_Ssi_Wrote p30 g1_xid n33 s34 n35 s36 n37 h32 fun (vs38 : List Value) (h39 : Hp) =>
                              vs38 = [] ∧
                              J16 [] h39) → J27 [] h28) →
                          (if (!(n25 == (0 : Int) && (n26 == (0 : Int) && true))) = true then
                            (nilW g0_s fun a40 => ∃ p41 : Option Addr, rd h24 (Addr.add a40 3) = some (Value.pointer p41) ∧
                              ∃ n42 : Int, rd h24 (Addr.add a22 0) = some (Value.int .i64 n42) ∧
                              ∃ n43 : Int, rd h24 (Addr.add a22 1) = some (Value.int .i64 n43) ∧
                              S_ssi_Ssi_Table p41 h24 fun (vs44 : List Value) (h45 : Hp) =>
                              ∃ p46 : Option Addr, vs44 = [(Value.pointer p46)] ∧
                              rd h45 (Addr.add a22 1) = some (Value.int .i64 n43) ∧ rd h45 (Addr.add a22 0) = some (Value.int .i64 n42) ∧ S_table_thing g2_n p19 n42 h45 fun (vs47 : List Value) (h48 : Hp) =>
                              ∃ n49 : Int, ∃ s50 : ByteArray, ∃ n51 : Int, ∃ s52 : ByteArray, ∃ n53 : Int, vs47 = [(Value.agg #[(Value.int .i64 n49), (Value.string s50), (Value.int .i64 n51), (Value.string s52), (Value.int .i64 n53)])] ∧
                              rd h48 (Addr.add a22 1) = some (Value.int .i64 n43) ∧ S_table_thing g2_n p19 n43 h48 fun (vs54 : List Value) (h55 : Hp) =>
                              ∃ n56 : Int, ∃ s57 : ByteArray, ∃ n58 : Int, ∃ s59 : ByteArray, ∃ n60 : Int, vs54 = [(Value.agg #[(Value.int .i64 n56), (Value.string s57), (Value.int .i64 n58), (Value.string s59), (Value.int .i64 n60)])] ∧
                              S_siread_Table_Copy p46 n49 s50 n51 s52 n53 n56 s57 n58 s59 n60 h55 fun (vs61 : List Value) (h62 : Hp) =>
                              vs61 = [] ∧
                              J27 [] h62) else
                            (J27 [] h24))))) → J20 [(Value.int .i64 n21), (Value.pointer (some a22)), (Value.int .i64 n23)] h24) →
                  nilW p19 fun a63 => ∃ p64 : Option Addr, rd h15 (Addr.add a63 6) = some (Value.pointer p64) ∧
                  (S_table_entries_of p19 ⟨g3_r.a, g3_r.n, g3_r.c⟩ ⟨g4_cols.a, g4_cols.n, g4_cols.c⟩ h15 fun (vs65 : List Value) (h66 : Hp) =>
                    ∃ n67 : Int, ∃ n68 : Int, ∃ x69 : Nat, ∃ s70 : ByteArray, vs65 = [(Value.agg #[(Value.int .i64 n67), (Value.int .i64 n68), (Value.float .f64 x69), (Value.string s70)])] ∧
                    rd h66 (Addr.add a63 6) = some (Value.pointer p64) ∧ (S_index_Index_Add p64 n67 n68 x69 s70 n8 h66 fun (vs71 : List Value) (h72 : Hp) =>
                      ∃ n73 : Int, ∃ n74 : Int, ∃ n75 : Int, ∃ n76 : Int, vs71 = [(Value.int .i64 n73), (Value.agg #[(Value.int .i64 n74), (Value.int .i64 n75)]), (Value.int .i64 n76)] ∧
                      wth (Array.push h72 (Obj.cells #[(Value.int .i64 (0 : Int)), (Value.int .i64 (0 : Int))] T_leaf_Move)) fun h77 =>
                      stOk h77 (Addr.mk (Array.size h72) 0 none) 2 ∧ wth (wrs h77 (Addr.mk (Array.size h72) 0 none) 0 [(Value.int .i64 n74), (Value.int .i64 n75)]) fun h78 =>
                      J20 [(Value.int .i64 n73), (Value.pointer (some (Addr.mk (Array.size h72) 0 none))), (Value.int .i64 n76)] h78) ∧
                    (wth (Array.push h66 (Obj.cells #[(Value.int .i64 (0 : Int)), (Value.int .i64 (0 : Int))] T_leaf_Move)) fun h79 =>
                      rd h79 (Addr.add a63 6) = some (Value.pointer p64) ∧ S_index_Index_Add p64 n67 n68 x69 s70 n8 h79 fun (vs80 : List Value) (h81 : Hp) =>
                      ∃ n82 : Int, ∃ n83 : Int, ∃ n84 : Int, ∃ n85 : Int, vs80 = [(Value.int .i64 n82), (Value.agg #[(Value.int .i64 n83), (Value.int .i64 n84)]), (Value.int .i64 n85)] ∧
                      stOk h81 (Addr.mk (Array.size h66) 0 none) 2 ∧ wth (wrs h81 (Addr.mk (Array.size h66) 0 none) 0 [(Value.int .i64 n83), (Value.int .i64 n84)]) fun h86 =>
                      J20 [(Value.int .i64 n82), (Value.pointer (some (Addr.mk (Array.size h66) 0 none))), (Value.int .i64 n85)] h86)) ∧
                  (wth (Array.push h15 (Obj.cells #[(Value.int .i64 (0 : Int)), (Value.int .i64 (0 : Int))] T_leaf_Move)) fun h87 =>
                    rd h87 (Addr.add a63 6) = some (Value.pointer p64) ∧ S_table_entries_of p19 ⟨g3_r.a, g3_r.n, g3_r.c⟩ ⟨g4_cols.a, g4_cols.n, g4_cols.c⟩ h87 fun (vs88 : List Value) (h89 : Hp) =>
                    ∃ n90 : Int, ∃ n91 : Int, ∃ x92 : Nat, ∃ s93 : ByteArray, vs88 = [(Value.agg #[(Value.int .i64 n90), (Value.int .i64 n91), (Value.float .f64 x92), (Value.string s93)])] ∧
                    rd h89 (Addr.add a63 6) = some (Value.pointer p64) ∧ S_index_Index_Add p64 n90 n91 x92 s93 n8 h89 fun (vs94 : List Value) (h95 : Hp) =>
                    ∃ n96 : Int, ∃ n97 : Int, ∃ n98 : Int, ∃ n99 : Int, vs94 = [(Value.int .i64 n96), (Value.agg #[(Value.int .i64 n97), (Value.int .i64 n98)]), (Value.int .i64 n99)] ∧
                    stOk h95 (Addr.mk (Array.size h15) 0 none) 2 ∧ wth (wrs h95 (Addr.mk (Array.size h15) 0 none) 0 [(Value.int .i64 n97), (Value.int .i64 n98)]) fun h100 =>
                    J20 [(Value.int .i64 n96), (Value.pointer (some (Addr.mk (Array.size h15) 0 none))), (Value.int .i64 n99)] h100))) else
              (nilW g0_s fun a101 => ∃ p102 : Option Addr, rd h15 (Addr.add a101 3) = some (Value.pointer p102) ∧
                S_ssi_Ssi_Wrote p102 g1_xid (2 : Int) (ByteArray.mk #[]) g2_n (ByteArray.mk #[]) (0 : Int) h15 fun (vs103 : List Value) (h104 : Hp) =>
                vs103 = [] ∧
                Q [(Value.int .i64 n8), (Value.int .i64 (0 : Int))] h104))) → X13 [(Value.int .i64 n14)] h15) →
        X13 [(Value.int .i64 (0 : Int))] h11))))
def A_table_Store_Put : Ann := (.mk none ⟨[], []⟩ .nil (.mk none ⟨[], []⟩ (.mk none ⟨[], []⟩ .nil (.mk none ⟨[], []⟩ .nil (.mk none ⟨[], []⟩ .nil (.mk none ⟨[], []⟩ .nil (.mk none ⟨[], []⟩ .nil (.mk none ⟨[], []⟩ (.mk none ⟨[], []⟩ .nil (.mk none ⟨[], []⟩ (.mk none ⟨[0, 1, 2, 3, 4, 13, 40, 41], [(42, (.c (.int .i64)))]⟩ (.mk none ⟨[], []⟩ .nil (.mk none ⟨[], []⟩ .nil (.mk none ⟨[], []⟩ (.mk (some ⟨[0, 1, 2, 3, 4, 13, 40, 41, 42], []⟩) ⟨[], []⟩ (.mk none ⟨[], []⟩ .nil (.mk none ⟨[], []⟩ (.mk (some ⟨[0, 1, 2, 3, 4, 13, 16, 40, 41, 42], [(17, (.c (.int .i64))), (18, (.c .adr)), (19, (.c (.int .i64)))]⟩) ⟨[], []⟩ .nil .nil) (.mk none ⟨[], []⟩ .nil (.mk none ⟨[], []⟩ (.mk none ⟨[], []⟩ .nil (.mk (some ⟨[0, 1, 2, 3, 4, 13, 16, 17, 40, 41, 42], []⟩) ⟨[], []⟩ .nil .nil)) .nil)))) .nil) .nil))) .nil) .nil)) .nil)))))) .nil))
theorem E_table_Store_Put (g0_s : Option Addr) (g1_xid : Int) (g2_n : Int) (g3_r : Sl) (g4_cols : Sl) (h : Hp) (Q : List Value → Hp → Prop) : cw PP 101 (fun _ => []) (bodyOf Tryz.f19) A_table_Store_Put (finQ PP (Tryz.f19.results.toList) Q) (argFr [(Value.pointer g0_s), (Value.int .i64 g1_xid), (Value.int .i64 g2_n), (Value.slice g3_r.a g3_r.n g3_r.c), (Value.slice g4_cols.a g4_cols.n g4_cols.c)]) h = F_table_Store_Put g0_s g1_xid g2_n g3_r g4_cols h Q := by kernel_rfl
theorem O_table_Store_Put (g0_s : Option Addr) (g1_xid : Int) (g2_n : Int) (g3_r : Sl) (g4_cols : Sl) {h : Hp} {Q : List Value → Hp → Prop} (H : F_table_Store_Put g0_s g1_xid g2_n g3_r g4_cols h Q) : S_table_Store_Put g0_s g1_xid g2_n g3_r g4_cols h Q :=
  fn_of_cw (hs := (fun _ => [])) (ann := A_table_Store_Put) (args := [(Value.pointer g0_s), (Value.int .i64 g1_xid), (Value.int .i64 g2_n), (Value.slice g3_r.a g3_r.n g3_r.c), (Value.slice g4_cols.a g4_cols.n g4_cols.c)]) mixedPP Tryz.func19 (c := bodyOf Tryz.f19) (by kernel_rfl) (by kernel_rfl) (by kernel_rfl) (Eq.mpr (E_table_Store_Put g0_s g1_xid g2_n g3_r g4_cols h Q) H)
def F_table_Store_Find (g0_s : Option Addr) (g1_rel : Int) (g2_name : ByteArray) (g3_v_0 : Int) (g3_v_1 : Int) (g3_v_2 : Nat) (g3_v_3 : ByteArray) (h : Hp) (Q : List Value → Hp → Prop) : Prop :=
wth (Array.push h (Obj.cells #[(Value.int .i64 g3_v_0), (Value.int .i64 g3_v_1), (Value.float .f64 g3_v_2), (Value.string g3_v_3)] T_api_Value)) fun h1 =>
S_table_Store_get g0_s g1_rel g2_name h1 fun (vs2 : List Value) (h3 : Hp) =>
∃ p4 : Option Addr, vs2 = [(Value.pointer p4)] ∧
(if (Option.isNone p4) = true then
  (Q [(Value.slice none 0 0), (Value.slice none 0 0)] h3) else
  (nilW p4 fun a5 => ∃ p6 : Option Addr, rd h3 (Addr.add a5 6) = some (Value.pointer p6) ∧
    ∃ n7 : Int, rd h3 (Addr.add (Addr.mk (Array.size h) 0 none) 0) = some (Value.int .i64 n7) ∧ ∃ n8 : Int, rd h3 (Addr.add (Addr.mk (Array.size h) 0 none) 1) = some (Value.int .i64 n8) ∧ ∃ x9 : Nat, rd h3 (Addr.add (Addr.mk (Array.size h) 0 none) 2) = some (Value.float .f64 x9) ∧ ∃ s10 : ByteArray, rd h3 (Addr.add (Addr.mk (Array.size h) 0 none) 3) = some (Value.string s10) ∧ S_index_Index_Find p6 n7 n8 x9 s10 h3 fun (vs11 : List Value) (h12 : Hp) =>
    ∃ l13 : Sl, ∃ l14 : Sl, vs11 = [(Value.slice l13.a l13.n l13.c), (Value.slice l14.a l14.n l14.c)] ∧
    Q [(Value.slice l13.a l13.n l13.c), (Value.slice l14.a l14.n l14.c)] h12))
def A_table_Store_Find : Ann := .nil
theorem E_table_Store_Find (g0_s : Option Addr) (g1_rel : Int) (g2_name : ByteArray) (g3_v_0 : Int) (g3_v_1 : Int) (g3_v_2 : Nat) (g3_v_3 : ByteArray) (h : Hp) (Q : List Value → Hp → Prop) : cw PP 25 (fun _ => []) (bodyOf Tryz.f24) A_table_Store_Find (finQ PP (Tryz.f24.results.toList) Q) (argFr [(Value.pointer g0_s), (Value.int .i64 g1_rel), (Value.string g2_name), (Value.agg #[(Value.int .i64 g3_v_0), (Value.int .i64 g3_v_1), (Value.float .f64 g3_v_2), (Value.string g3_v_3)])]) h = F_table_Store_Find g0_s g1_rel g2_name g3_v_0 g3_v_1 g3_v_2 g3_v_3 h Q := by kernel_rfl
theorem O_table_Store_Find (g0_s : Option Addr) (g1_rel : Int) (g2_name : ByteArray) (g3_v_0 : Int) (g3_v_1 : Int) (g3_v_2 : Nat) (g3_v_3 : ByteArray) {h : Hp} {Q : List Value → Hp → Prop} (H : F_table_Store_Find g0_s g1_rel g2_name g3_v_0 g3_v_1 g3_v_2 g3_v_3 h Q) : S_table_Store_Find g0_s g1_rel g2_name g3_v_0 g3_v_1 g3_v_2 g3_v_3 h Q :=
  fn_of_cw (hs := (fun _ => [])) (ann := A_table_Store_Find) (args := [(Value.pointer g0_s), (Value.int .i64 g1_rel), (Value.string g2_name), (Value.agg #[(Value.int .i64 g3_v_0), (Value.int .i64 g3_v_1), (Value.float .f64 g3_v_2), (Value.string g3_v_3)])]) mixedPP Tryz.func24 (c := bodyOf Tryz.f24) (by kernel_rfl) (by kernel_rfl) (by kernel_rfl) (Eq.mpr (E_table_Store_Find g0_s g1_rel g2_name g3_v_0 g3_v_1 g3_v_2 g3_v_3 h Q) H)
def F_table_Store_Indexes (g0_s : Option Addr) (g1_rel : Int) (h : Hp) (Q : List Value → Hp → Prop) : Prop :=
S_table_Store_standing g0_s g1_rel h fun (vs1 : List Value) (h2 : Hp) =>
∃ l3 : Sl, vs1 = [(Value.slice l3.a l3.n l3.c)] ∧
∀ X4 : List Value → Hp → Prop, (∀ l5 : Sl, ∀ n6 : Int, ∀ h7 : Hp, ((if (decide (n6 < (l3.n : Int))) = true then
      (nilW l3.a fun a8 => ixOk n6 l3.n (∃ p9 : Option Addr, rd h7 (Addr.add a8 (Int.toNat n6 * 1)) = some (Value.pointer p9) ∧
          nilW p9 fun a10 => ∃ s11 : ByteArray, rd h7 (Addr.add (Addr.add a10 0) 0) = some (Value.string s11) ∧ ∃ s12 : ByteArray, rd h7 (Addr.add (Addr.add a10 0) 1) = some (Value.string s12) ∧ ∃ b13 : Bool, rd h7 (Addr.add (Addr.add a10 0) 2) = some (Value.bool b13) ∧ ∃ n14 : Int, rd h7 (Addr.add (Addr.add a10 0) 3) = some (Value.int .i64 n14) ∧ ∃ n15 : Int, rd h7 (Addr.add (Addr.add a10 0) 4) = some (Value.int .i64 n15) ∧ ∃ n16 : Int, rd h7 (Addr.add (Addr.add a10 0) 5) = some (Value.int .i64 n16) ∧ wth (Array.push h7 (Obj.cells #[(Value.string s11), (Value.string s12), (Value.bool b13), (Value.int .i64 n14), (Value.int .i64 n15), (Value.int .i64 n16)] T_table_Index)) fun h17 =>
          ∃ cs20 : List Value, cellsAt h17 (some (Addr.mk (Array.size h7) 0 none)) (1 * 6) cs20 ∧ appS PP T_table_Index 64 6 h17 ⟨l5.a, l5.n, l5.c⟩ 1 cs20 fun (l18 : Sl) (h19 : Hp) =>
          X4 [(Value.slice l18.a l18.n l18.c), (Value.int .i64 (IntKind.wrap .i64 (n6 + (1 : Int))))] h19)) else
      (Q [(Value.slice l5.a l5.n l5.c)] h7))) → X4 [(Value.slice l5.a l5.n l5.c), (Value.int .i64 n6)] h7) →
X4 [(Value.slice none 0 0), (Value.int .i64 (0 : Int))] h2
def A_table_Store_Indexes : Ann := (.mk none ⟨[], []⟩ .nil (.mk none ⟨[], []⟩ .nil (.mk none ⟨[], []⟩ (.mk none ⟨[], []⟩ .nil (.mk none ⟨[], []⟩ (.mk none ⟨[10, 11], [(5, (.c .sl)), (12, (.c (.int .i64)))]⟩ .nil .nil) .nil)) .nil)))
theorem E_table_Store_Indexes (g0_s : Option Addr) (g1_rel : Int) (h : Hp) (Q : List Value → Hp → Prop) : cw PP 25 (fun _ => []) (bodyOf Tryz.f22) A_table_Store_Indexes (finQ PP (Tryz.f22.results.toList) Q) (argFr [(Value.pointer g0_s), (Value.int .i64 g1_rel)]) h = F_table_Store_Indexes g0_s g1_rel h Q := by kernel_rfl
theorem O_table_Store_Indexes (g0_s : Option Addr) (g1_rel : Int) {h : Hp} {Q : List Value → Hp → Prop} (H : F_table_Store_Indexes g0_s g1_rel h Q) : S_table_Store_Indexes g0_s g1_rel h Q :=
  fn_of_cw (hs := (fun _ => [])) (ann := A_table_Store_Indexes) (args := [(Value.pointer g0_s), (Value.int .i64 g1_rel)]) mixedPP Tryz.func22 (c := bodyOf Tryz.f22) (by kernel_rfl) (by kernel_rfl) (by kernel_rfl) (Eq.mpr (E_table_Store_Indexes g0_s g1_rel h Q) H)
def F_slices_IndexFunc_stable_Index_table_Index (g0_s : Sl) (g1_f_f : Nat) (g1_f_c : Array Value) (h : Hp) (Q : List Value → Hp → Prop) : Prop :=
∀ X1 : List Value → Hp → Prop, (∀ n2 : Int, ∀ h3 : Hp, ((if (decide (n2 < (g0_s.n : Int))) = true then
      (nilW g0_s.a fun a4 => ixOk n2 g0_s.n (∃ s5 : ByteArray, rd h3 (Addr.add (Addr.add a4 (Int.toNat n2 * 6)) 0) = some (Value.string s5) ∧ ∃ s6 : ByteArray, rd h3 (Addr.add (Addr.add a4 (Int.toNat n2 * 6)) 1) = some (Value.string s6) ∧ ∃ b7 : Bool, rd h3 (Addr.add (Addr.add a4 (Int.toNat n2 * 6)) 2) = some (Value.bool b7) ∧ ∃ n8 : Int, rd h3 (Addr.add (Addr.add a4 (Int.toNat n2 * 6)) 3) = some (Value.int .i64 n8) ∧ ∃ n9 : Int, rd h3 (Addr.add (Addr.add a4 (Int.toNat n2 * 6)) 4) = some (Value.int .i64 n9) ∧ ∃ n10 : Int, rd h3 (Addr.add (Addr.add a4 (Int.toNat n2 * 6)) 5) = some (Value.int .i64 n10) ∧ Fn PP g1_f_f ((#[] ++ #[(Value.agg #[(Value.string s5), (Value.string s6), (Value.bool b7), (Value.int .i64 n8), (Value.int .i64 n9), (Value.int .i64 n10)])]) ++ g1_f_c) h3 fun (vs11 : List Value) (h12 : Hp) =>
          ∃ b13 : Bool, vs11 = [(Value.bool b13)] ∧
          (if b13 = true then
            (Q [(Value.int .i64 n2)] h12) else
            (X1 [(Value.int .i64 (IntKind.wrap .i64 (n2 + (1 : Int))))] h12)))) else
      (Q [(Value.int .i64 (-1 : Int))] h3))) → X1 [(Value.int .i64 n2)] h3) →
X1 [(Value.int .i64 (0 : Int))] h
def A_slices_IndexFunc_stable_Index_table_Index : Ann := (.mk none ⟨[], []⟩ .nil (.mk none ⟨[], []⟩ (.mk none ⟨[], []⟩ .nil (.mk none ⟨[], []⟩ (.mk none ⟨[0, 1, 7], [(8, (.c (.int .i64)))]⟩ .nil .nil) .nil)) .nil))
theorem E_slices_IndexFunc_stable_Index_table_Index (g0_s : Sl) (g1_f_f : Nat) (g1_f_c : Array Value) (h : Hp) (Q : List Value → Hp → Prop) : cw PP 19 (fun _ => []) (bodyOf Tryz.f140) A_slices_IndexFunc_stable_Index_table_Index (finQ PP (Tryz.f140.results.toList) Q) (argFr [(Value.slice g0_s.a g0_s.n g0_s.c), (Value.func (.func g1_f_f) #[] g1_f_c)]) h = F_slices_IndexFunc_stable_Index_table_Index g0_s g1_f_f g1_f_c h Q := by kernel_rfl
theorem O_slices_IndexFunc_stable_Index_table_Index (g0_s : Sl) (g1_f_f : Nat) (g1_f_c : Array Value) {h : Hp} {Q : List Value → Hp → Prop} (H : F_slices_IndexFunc_stable_Index_table_Index g0_s g1_f_f g1_f_c h Q) : S_slices_IndexFunc_stable_Index_table_Index g0_s g1_f_f g1_f_c h Q :=
  fn_of_cw (hs := (fun _ => [])) (ann := A_slices_IndexFunc_stable_Index_table_Index) (args := [(Value.slice g0_s.a g0_s.n g0_s.c), (Value.func (.func g1_f_f) #[] g1_f_c)]) mixedPP Tryz.func140 (c := bodyOf Tryz.f140) (by kernel_rfl) (by kernel_rfl) (by kernel_rfl) (Eq.mpr (E_slices_IndexFunc_stable_Index_table_Index g0_s g1_f_f g1_f_c h Q) H)
def F_slices_DeleteFunc_stable_Index_table_Index (g0_s : Sl) (g1_del_f : Nat) (g1_del_c : Array Value) (h : Hp) (Q : List Value → Hp → Prop) : Prop :=
S_slices_IndexFunc_stable_Index_table_Index ⟨g0_s.a, g0_s.n, g0_s.c⟩ g1_del_f g1_del_c h fun (vs1 : List Value) (h2 : Hp) =>
∃ n3 : Int, vs1 = [(Value.int .i64 n3)] ∧
(if (n3 == (-1 : Int)) = true then
  (Q [(Value.slice g0_s.a g0_s.n g0_s.c)] h2) else
  (∀ X4 : List Value → Hp → Prop, (∀ n5 : Int, ∀ n6 : Int, ∀ h7 : Hp, ((if (decide (n6 < (g0_s.n : Int))) = true then
          (∀ J8 : List Value → Hp → Prop, (∀ n9 : Int, ∀ h10 : Hp, (X4 [(Value.int .i64 n9), (Value.int .i64 (IntKind.wrap .i64 (n6 + (1 : Int))))] h10) → J8 [(Value.int .i64 n9)] h10) →
            nilW g0_s.a fun a11 => ixOk n6 g0_s.n (∃ s12 : ByteArray, rd h7 (Addr.add (Addr.add a11 (Int.toNat n6 * 6)) 0) = some (Value.string s12) ∧ ∃ s13 : ByteArray, rd h7 (Addr.add (Addr.add a11 (Int.toNat n6 * 6)) 1) = some (Value.string s13) ∧ ∃ b14 : Bool, rd h7 (Addr.add (Addr.add a11 (Int.toNat n6 * 6)) 2) = some (Value.bool b14) ∧ ∃ n15 : Int, rd h7 (Addr.add (Addr.add a11 (Int.toNat n6 * 6)) 3) = some (Value.int .i64 n15) ∧ ∃ n16 : Int, rd h7 (Addr.add (Addr.add a11 (Int.toNat n6 * 6)) 4) = some (Value.int .i64 n16) ∧ ∃ n17 : Int, rd h7 (Addr.add (Addr.add a11 (Int.toNat n6 * 6)) 5) = some (Value.int .i64 n17) ∧ wth (Array.push h7 (Obj.cells #[(Value.string (ByteArray.mk #[])), (Value.string (ByteArray.mk #[])), (Value.bool false), (Value.int .i64 (0 : Int)), (Value.int .i64 (0 : Int)), (Value.int .i64 (0 : Int))] T_table_Index)) fun h18 =>
              stOk h18 (Addr.mk (Array.size h7) 0 none) 6 ∧ wth (wrs h18 (Addr.mk (Array.size h7) 0 none) 0 [(Value.string s12), (Value.string s13), (Value.bool b14), (Value.int .i64 n15), (Value.int .i64 n16), (Value.int .i64 n17)]) fun h19 =>
              ∃ s20 : ByteArray, rd h19 (Addr.add (Addr.mk (Array.size h7) 0 none) 0) = some (Value.string s20) ∧ ∃ s21 : ByteArray, rd h19 (Addr.add (Addr.mk (Array.size h7) 0 none) 1) = some (Value.string s21) ∧ ∃ b22 : Bool, rd h19 (Addr.add (Addr.mk (Array.size h7) 0 none) 2) = some (Value.bool b22) ∧ ∃ n23 : Int, rd h19 (Addr.add (Addr.mk (Array.size h7) 0 none) 3) = some (Value.int .i64 n23) ∧ ∃ n24 : Int, rd h19 (Addr.add (Addr.mk (Array.size h7) 0 none) 4) = some (Value.int .i64 n24) ∧ ∃ n25 : Int, rd h19 (Addr.add (Addr.mk (Array.size h7) 0 none) 5) = some (Value.int .i64 n25) ∧ Fn PP g1_del_f ((#[] ++ #[(Value.agg #[(Value.string s20), (Value.string s21), (Value.bool b22), (Value.int .i64 n23), (Value.int .i64 n24), (Value.int .i64 n25)])]) ++ g1_del_c) h19 fun (vs26 : List Value) (h27 : Hp) =>
              ∃ b28 : Bool, vs26 = [(Value.bool b28)] ∧
              (if (!b28) = true then
                (∃ s29 : ByteArray, rd h27 (Addr.add (Addr.mk (Array.size h7) 0 none) 0) = some (Value.string s29) ∧ ∃ s30 : ByteArray, rd h27 (Addr.add (Addr.mk (Array.size h7) 0 none) 1) = some (Value.string s30) ∧ ∃ b31 : Bool, rd h27 (Addr.add (Addr.mk (Array.size h7) 0 none) 2) = some (Value.bool b31) ∧ ∃ n32 : Int, rd h27 (Addr.add (Addr.mk (Array.size h7) 0 none) 3) = some (Value.int .i64 n32) ∧ ∃ n33 : Int, rd h27 (Addr.add (Addr.mk (Array.size h7) 0 none) 4) = some (Value.int .i64 n33) ∧ ∃ n34 : Int, rd h27 (Addr.add (Addr.mk (Array.size h7) 0 none) 5) = some (Value.int .i64 n34) ∧ nilW g0_s.a fun a35 => ixOk n5 g0_s.n (stOk h27 (Addr.add a35 (Int.toNat n5 * 6)) 6 ∧ wth (wrs h27 (Addr.add a35 (Int.toNat n5 * 6)) 0 [(Value.string s29), (Value.string s30), (Value.bool b31), (Value.int .i64 n32), (Value.int .i64 n33), (Value.int .i64 n34)]) fun h36 =>
                    J8 [(Value.int .i64 (IntKind.wrap .i64 (n5 + (1 : Int))))] h36)) else
                (J8 [(Value.int .i64 n5)] h27)))) else
          ((0 ≤ n5 ∧ n5 ≤ (g0_s.n : Nat)) ∧ (List.all (Array.toList (zc PP T_table_Index)) oneCell = true ∧ ∀ a : Addr, (slAd g0_s.a (Int.toNat n5) g0_s.c 6) = some a → stOk h7 a ((g0_s.n - (Int.toNat n5)) * Array.size (zc PP T_table_Index))) ∧ wth (cpHp h7 (if (g0_s.n - (Int.toNat n5)) = 0 then none else (slAd g0_s.a (Int.toNat n5) g0_s.c 6)) (Array.toList (Builtin.zeroCells (zc PP T_table_Index) (g0_s.n - (Int.toNat n5))))) fun h37 =>
            (0 ≤ n5 ∧ n5 ≤ (g0_s.c : Nat)) ∧ Q [(Value.slice (slAd g0_s.a 0 g0_s.c 6) ((Int.toNat n5) - 0) (g0_s.c - 0))] h37))) → X4 [(Value.int .i64 n5), (Value.int .i64 n6)] h7) →
    X4 [(Value.int .i64 n3), (Value.int .i64 (IntKind.wrap .i64 (n3 + (1 : Int))))] h2))
def A_slices_DeleteFunc_stable_Index_table_Index : Ann := (.mk none ⟨[], []⟩ .nil (.mk none ⟨[], []⟩ .nil (.mk none ⟨[], []⟩ .nil (.mk none ⟨[], []⟩ (.mk none ⟨[], []⟩ .nil (.mk none ⟨[], []⟩ (.mk none ⟨[0, 1], [(5, (.c (.int .i64))), (6, (.c (.int .i64)))]⟩ (.mk none ⟨[], []⟩ .nil (.mk none ⟨[], []⟩ (.mk (some ⟨[0, 1, 6], [(5, (.c (.int .i64)))]⟩) ⟨[], []⟩ .nil .nil) .nil)) .nil) .nil)) .nil))))
theorem E_slices_DeleteFunc_stable_Index_table_Index (g0_s : Sl) (g1_del_f : Nat) (g1_del_c : Array Value) (h : Hp) (Q : List Value → Hp → Prop) : cw PP 42 (fun _ => []) (bodyOf Tryz.f90) A_slices_DeleteFunc_stable_Index_table_Index (finQ PP (Tryz.f90.results.toList) Q) (argFr [(Value.slice g0_s.a g0_s.n g0_s.c), (Value.func (.func g1_del_f) #[] g1_del_c)]) h = F_slices_DeleteFunc_stable_Index_table_Index g0_s g1_del_f g1_del_c h Q := by kernel_rfl
theorem O_slices_DeleteFunc_stable_Index_table_Index (g0_s : Sl) (g1_del_f : Nat) (g1_del_c : Array Value) {h : Hp} {Q : List Value → Hp → Prop} (H : F_slices_DeleteFunc_stable_Index_table_Index g0_s g1_del_f g1_del_c h Q) : S_slices_DeleteFunc_stable_Index_table_Index g0_s g1_del_f g1_del_c h Q :=
  fn_of_cw (hs := (fun _ => [])) (ann := A_slices_DeleteFunc_stable_Index_table_Index) (args := [(Value.slice g0_s.a g0_s.n g0_s.c), (Value.func (.func g1_del_f) #[] g1_del_c)]) mixedPP Tryz.func90 (c := bodyOf Tryz.f90) (by kernel_rfl) (by kernel_rfl) (by kernel_rfl) (Eq.mpr (E_slices_DeleteFunc_stable_Index_table_Index g0_s g1_del_f g1_del_c h Q) H)
def F_table_Store_Usable (g0_s : Option Addr) (g1_xid : Int) (g2_rel : Int) (h : Hp) (Q : List Value → Hp → Prop) : Prop :=
wth (Array.push h (Obj.cells #[(Value.pointer g0_s)] T_ptable_Store)) fun h1 =>
wth (Array.push h1 (Obj.cells #[(Value.int .i64 g1_xid)] T_int)) fun h2 =>
∃ p3 : Option Addr, rd h2 (Addr.mk (Array.size h) 0 none) = some (Value.pointer p3) ∧
S_table_Store_Indexes p3 g2_rel h2 fun (vs4 : List Value) (h5 : Hp) =>
∃ l6 : Sl, vs4 = [(Value.slice l6.a l6.n l6.c)] ∧
S_slices_DeleteFunc_stable_Index_table_Index ⟨l6.a, l6.n, l6.c⟩ 91 #[(Value.pointer (some (Addr.mk (Array.size h) 0 none))), (Value.pointer (some (Addr.mk (Array.size h1) 0 none)))] h5 fun (vs7 : List Value) (h8 : Hp) =>
∃ l9 : Sl, vs7 = [(Value.slice l9.a l9.n l9.c)] ∧
Q [(Value.slice l9.a l9.n l9.c)] h8
def A_table_Store_Usable : Ann := .nil
theorem E_table_Store_Usable (g0_s : Option Addr) (g1_xid : Int) (g2_rel : Int) (h : Hp) (Q : List Value → Hp → Prop) : cw PP 12 (fun _ => []) (bodyOf Tryz.f38) A_table_Store_Usable (finQ PP (Tryz.f38.results.toList) Q) (argFr [(Value.pointer g0_s), (Value.int .i64 g1_xid), (Value.int .i64 g2_rel)]) h = F_table_Store_Usable g0_s g1_xid g2_rel h Q := by kernel_rfl
theorem O_table_Store_Usable (g0_s : Option Addr) (g1_xid : Int) (g2_rel : Int) {h : Hp} {Q : List Value → Hp → Prop} (H : F_table_Store_Usable g0_s g1_xid g2_rel h Q) : S_table_Store_Usable g0_s g1_xid g2_rel h Q :=
  fn_of_cw (hs := (fun _ => [])) (ann := A_table_Store_Usable) (args := [(Value.pointer g0_s), (Value.int .i64 g1_xid), (Value.int .i64 g2_rel)]) mixedPP Tryz.func38 (c := bodyOf Tryz.f38) (by kernel_rfl) (by kernel_rfl) (by kernel_rfl) (Eq.mpr (E_table_Store_Usable g0_s g1_xid g2_rel h Q) H)
def F_table_Store_Fill (g0_s : Option Addr) (g1_rel : Int) (g2_name : ByteArray) (g3_cols : Sl) (h : Hp) (Q : List Value → Hp → Prop) : Prop :=
(if (Option.isNone g0_s) = true then
  (Q [(Value.int .i64 (1 : Int))] h) else
  (S_table_Store_get g0_s g1_rel g2_name h fun (vs1 : List Value) (h2 : Hp) =>
    ∃ p3 : Option Addr, vs1 = [(Value.pointer p3)] ∧
    (if (Option.isNone p3) = true then
      (Q [(Value.int .i64 (63 : Int))] h2) else
      (S_table_Store_rel g0_s g1_rel h2 fun (vs4 : List Value) (h5 : Hp) =>
        ∃ p6 : Option Addr, vs4 = [(Value.pointer p6)] ∧
        S_table_rel_fill p6 p3 ⟨g3_cols.a, g3_cols.n, g3_cols.c⟩ h5 fun (vs7 : List Value) (h8 : Hp) =>
        vs7 = [] ∧
        Q [(Value.int .i64 (0 : Int))] h8))))
def A_table_Store_Fill : Ann := .nil
theorem E_table_Store_Fill (g0_s : Option Addr) (g1_rel : Int) (g2_name : ByteArray) (g3_cols : Sl) (h : Hp) (Q : List Value → Hp → Prop) : cw PP 24 (fun _ => []) (bodyOf Tryz.f15) A_table_Store_Fill (finQ PP (Tryz.f15.results.toList) Q) (argFr [(Value.pointer g0_s), (Value.int .i64 g1_rel), (Value.string g2_name), (Value.slice g3_cols.a g3_cols.n g3_cols.c)]) h = F_table_Store_Fill g0_s g1_rel g2_name g3_cols h Q := by kernel_rfl
theorem O_table_Store_Fill (g0_s : Option Addr) (g1_rel : Int) (g2_name : ByteArray) (g3_cols : Sl) {h : Hp} {Q : List Value → Hp → Prop} (H : F_table_Store_Fill g0_s g1_rel g2_name g3_cols h Q) : S_table_Store_Fill g0_s g1_rel g2_name g3_cols h Q :=
  fn_of_cw (hs := (fun _ => [])) (ann := A_table_Store_Fill) (args := [(Value.pointer g0_s), (Value.int .i64 g1_rel), (Value.string g2_name), (Value.slice g3_cols.a g3_cols.n g3_cols.c)]) mixedPP Tryz.func15 (c := bodyOf Tryz.f15) (by kernel_rfl) (by kernel_rfl) (by kernel_rfl) (Eq.mpr (E_table_Store_Fill g0_s g1_rel g2_name g3_cols h Q) H)
def F_table_Store_Remove (g0_s : Option Addr) (g1_xid : Int) (g2_rel : Int) (g3_name : ByteArray) (h : Hp) (Q : List Value → Hp → Prop) : Prop :=
(if (Option.isNone g0_s) = true then
  (Q [(Value.int .i64 (1 : Int))] h) else
  (S_table_Store_get g0_s g2_rel g3_name h fun (vs1 : List Value) (h2 : Hp) =>
    ∃ p3 : Option Addr, vs1 = [(Value.pointer p3)] ∧
    (if (Option.isNone p3) = true then
      (Q [(Value.int .i64 (63 : Int))] h2) else
      (nilW p3 fun a4 => stOk h2 (Addr.add (Addr.add a4 0) 5) 1 ∧ wth (wrs h2 (Addr.add (Addr.add a4 0) 5) 0 [(Value.int .i64 g1_xid)]) fun h5 =>
        Q [(Value.int .i64 (0 : Int))] h5))))
def A_table_Store_Remove : Ann := .nil
theorem E_table_Store_Remove (g0_s : Option Addr) (g1_xid : Int) (g2_rel : Int) (g3_name : ByteArray) (h : Hp) (Q : List Value → Hp → Prop) : cw PP 23 (fun _ => []) (bodyOf Tryz.f16) A_table_Store_Remove (finQ PP (Tryz.f16.results.toList) Q) (argFr [(Value.pointer g0_s), (Value.int .i64 g1_xid), (Value.int .i64 g2_rel), (Value.string g3_name)]) h = F_table_Store_Remove g0_s g1_xid g2_rel g3_name h Q := by kernel_rfl
theorem O_table_Store_Remove (g0_s : Option Addr) (g1_xid : Int) (g2_rel : Int) (g3_name : ByteArray) {h : Hp} {Q : List Value → Hp → Prop} (H : F_table_Store_Remove g0_s g1_xid g2_rel g3_name h Q) : S_table_Store_Remove g0_s g1_xid g2_rel g3_name h Q :=
  fn_of_cw (hs := (fun _ => [])) (ann := A_table_Store_Remove) (args := [(Value.pointer g0_s), (Value.int .i64 g1_xid), (Value.int .i64 g2_rel), (Value.string g3_name)]) mixedPP Tryz.func16 (c := bodyOf Tryz.f16) (by kernel_rfl) (by kernel_rfl) (by kernel_rfl) (Eq.mpr (E_table_Store_Remove g0_s g1_xid g2_rel g3_name h Q) H)
def F_table_Store_Move (g0_s : Option Addr) (g1_xid : Int) (g2_from : Int) (g3_cols : Sl) (g4_rows : Bool) (h : Hp) (Q : List Value → Hp → Prop) : Prop :=
S_table_Store_rel g0_s g2_from h fun (vs1 : List Value) (h2 : Hp) =>
∃ p3 : Option Addr, vs1 = [(Value.pointer p3)] ∧
(if (Option.isNone p3) = true then
  (Q [(Value.int .i64 (0 : Int)), (Value.int .i64 (1 : Int))] h2) else
  (S_table_Store_NewRel g0_s h2 fun (vs4 : List Value) (h5 : Hp) =>
    ∃ n6 : Int, ∃ n7 : Int, vs4 = [(Value.int .i64 n6), (Value.int .i64 n7)] ∧
    (if (n7 != (0 : Int)) = true then
      (Q [(Value.int .i64 (0 : Int)), (Value.int .i64 n7)] h5) else
      (S_table_Store_rel g0_s n6 h5 fun (vs8 : List Value) (h9 : Hp) =>
        ∃ p10 : Option Addr, vs8 = [(Value.pointer p10)] ∧
        ∀ J11 : List Value → Hp → Prop, (∀ h12 : Hp, (S_table_Store_standing g0_s g2_from h12 fun (vs13 : List Value) (h14 : Hp) =>
            ∃ l15 : Sl, vs13 = [(Value.slice l15.a l15.n l15.c)] ∧
            ∀ X16 : List Value → Hp → Prop, (∀ n17 : Int, ∀ h18 : Hp, ((if (decide (n17 < (l15.n : Int))) = true then
                  (nilW l15.a fun a19 => ixOk n17 l15.n (∃ p20 : Option Addr, rd h18 (Addr.add a19 (Int.toNat n17 * 1)) = some (Value.pointer p20) ∧
                      nilW p20 fun a21 => ∃ s22 : ByteArray, rd h18 (Addr.add (Addr.add a21 0) 0) = some (Value.string s22) ∧ ∃ s23 : ByteArray, rd h18 (Addr.add (Addr.add a21 0) 1) = some (Value.string s23) ∧ ∃ b24 : Bool, rd h18 (Addr.add (Addr.add a21 0) 2) = some (Value.bool b24) ∧ ∃ n25 : Int, rd h18 (Addr.add (Addr.add a21 0) 3) = some (Value.int .i64 n25) ∧ ∃ n26 : Int, rd h18 (Addr.add (Addr.add a21 0) 4) = some (Value.int .i64 n26) ∧ ∃ n27 : Int, rd h18 (Addr.add (Addr.add a21 0) 5) = some (Value.int .i64 n27) ∧ S_table_Store_add g0_s p10 s22 s23 b24 n25 n26 n27 h18 fun (vs28 : List Value) (h29 : Hp) =>
                      ∃ n30 : Int, vs28 = [(Value.int .i64 n30)] ∧
                      nilW p10 fun a31 => ∃ l32 : Sl, rd h29 (Addr.add a31 1) = some (Value.slice l32.a l32.n l32.c) ∧
                      nilW p10 fun a33 => ∃ l34 : Sl, rd h29 (Addr.add a33 1) = some (Value.slice l34.a l34.n l34.c) ∧
                      nilW l32.a fun a35 => ixOk (IntKind.wrap .i64 ((l34.n : Int) - (1 : Int))) l32.n (∃ p36 : Option Addr, rd h29 (Addr.add a35 (Int.toNat (IntKind.wrap .i64 ((l34.n : Int) - (1 : Int))) * 1)) = some (Value.pointer p36) ∧
                        S_table_rel_fill p10 p36 ⟨g3_cols.a, g3_cols.n, g3_cols.c⟩ h29 fun (vs37 : List Value) (h38 : Hp) =>
                        vs37 = [] ∧
                        X16 [(Value.int .i64 (IntKind.wrap .i64 (n17 + (1 : Int))))] h38))) else
                  (nilW g0_s fun a39 => ∃ p40 : Option Addr, rd h18 (Addr.add a39 3) = some (Value.pointer p40) ∧
                    S_ssi_Ssi_Table p40 h18 fun (vs41 : List Value) (h42 : Hp) =>
                    ∃ p43 : Option Addr, vs41 = [(Value.pointer p43)] ∧
                    S_siread_Table_Rough p43 g2_from n6 h42 fun (vs44 : List Value) (h45 : Hp) =>
                    vs44 = [] ∧
                    Q [(Value.int .i64 n6), (Value.int .i64 (0 : Int))] h45))) → X16 [(Value.int .i64 n17)] h18) →
            X16 [(Value.int .i64 (0 : Int))] h14) → J11 [] h12) →
        (if g4_rows = true then
          (nilW p3 fun a46 => ∃ p47 : Option Addr, rd h9 (Addr.add a46 0) = some (Value.pointer p47) ∧
            nilW g0_s fun a48 => ∃ p49 : Option Addr, rd h9 (Addr.add a48 0) = some (Value.pointer p49) ∧
            S_heap_Rel_Copy p47 p49 h9 fun (vs50 : List Value) (h51 : Hp) =>
            ∃ p52 : Option Addr, vs50 = [(Value.pointer p52)] ∧
            nilW p10 fun a53 => stOk h51 (Addr.add a53 0) 1 ∧ wth (wrs h51 (Addr.add a53 0) 0 [(Value.pointer p52)]) fun h54 =>
            J11 [] h54) else
          (J11 [] h9))))))
def A_table_Store_Move : Ann := (.mk none ⟨[], []⟩ .nil (.mk none ⟨[], []⟩ .nil (.mk none ⟨[], []⟩ .nil (.mk none ⟨[], []⟩ .nil (.mk none ⟨[], []⟩ .nil (.mk none ⟨[], []⟩ .nil (.mk none ⟨[], []⟩ (.mk none ⟨[], []⟩ .nil (.mk (some ⟨[0, 2, 3, 13, 15], []⟩) ⟨[], []⟩ .nil .nil)) (.mk none ⟨[], []⟩ (.mk none ⟨[], []⟩ .nil (.mk none ⟨[], []⟩ (.mk none ⟨[0, 2, 3, 13, 15, 49, 50], [(51, (.c (.int .i64)))]⟩ .nil .nil) .nil)) .nil))))))))
theorem E_table_Store_Move (g0_s : Option Addr) (g1_xid : Int) (g2_from : Int) (g3_cols : Sl) (g4_rows : Bool) (h : Hp) (Q : List Value → Hp → Prop) : cw PP 87 (fun _ => []) (bodyOf Tryz.f17) A_table_Store_Move (finQ PP (Tryz.f17.results.toList) Q) (argFr [(Value.pointer g0_s), (Value.int .i64 g1_xid), (Value.int .i64 g2_from), (Value.slice g3_cols.a g3_cols.n g3_cols.c), (Value.bool g4_rows)]) h = F_table_Store_Move g0_s g1_xid g2_from g3_cols g4_rows h Q := by kernel_rfl
theorem O_table_Store_Move (g0_s : Option Addr) (g1_xid : Int) (g2_from : Int) (g3_cols : Sl) (g4_rows : Bool) {h : Hp} {Q : List Value → Hp → Prop} (H : F_table_Store_Move g0_s g1_xid g2_from g3_cols g4_rows h Q) : S_table_Store_Move g0_s g1_xid g2_from g3_cols g4_rows h Q :=
  fn_of_cw (hs := (fun _ => [])) (ann := A_table_Store_Move) (args := [(Value.pointer g0_s), (Value.int .i64 g1_xid), (Value.int .i64 g2_from), (Value.slice g3_cols.a g3_cols.n g3_cols.c), (Value.bool g4_rows)]) mixedPP Tryz.func17 (c := bodyOf Tryz.f17) (by kernel_rfl) (by kernel_rfl) (by kernel_rfl) (Eq.mpr (E_table_Store_Move g0_s g1_xid g2_from g3_cols g4_rows h Q) H)
def F_table_Store_Rel (g0_s : Option Addr) (g1_n : Int) (h : Hp) (Q : List Value → Hp → Prop) : Prop :=
S_table_Store_rel g0_s g1_n h fun (vs1 : List Value) (h2 : Hp) =>
∃ p3 : Option Addr, vs1 = [(Value.pointer p3)] ∧
(if (Option.isNone p3) = true then
  (Q [(Value.pointer none)] h2) else
  (nilW p3 fun a4 => ∃ p5 : Option Addr, rd h2 (Addr.add a4 0) = some (Value.pointer p5) ∧
    Q [(Value.pointer p5)] h2))
def A_table_Store_Rel : Ann := .nil
theorem E_table_Store_Rel (g0_s : Option Addr) (g1_n : Int) (h : Hp) (Q : List Value → Hp → Prop) : cw PP 15 (fun _ => []) (bodyOf Tryz.f20) A_table_Store_Rel (finQ PP (Tryz.f20.results.toList) Q) (argFr [(Value.pointer g0_s), (Value.int .i64 g1_n)]) h = F_table_Store_Rel g0_s g1_n h Q := by kernel_rfl
theorem O_table_Store_Rel (g0_s : Option Addr) (g1_n : Int) {h : Hp} {Q : List Value → Hp → Prop} (H : F_table_Store_Rel g0_s g1_n h Q) : S_table_Store_Rel g0_s g1_n h Q :=
  fn_of_cw (hs := (fun _ => [])) (ann := A_table_Store_Rel) (args := [(Value.pointer g0_s), (Value.int .i64 g1_n)]) mixedPP Tryz.func20 (c := bodyOf Tryz.f20) (by kernel_rfl) (by kernel_rfl) (by kernel_rfl) (Eq.mpr (E_table_Store_Rel g0_s g1_n h Q) H)
def F_table_Store_Range (g0_s : Option Addr) (g1_rel : Int) (g2_name : ByteArray) (g3_v_0 : Int) (g3_v_1 : Int) (g3_v_2 : Nat) (g3_v_3 : ByteArray) (g4_w_0 : Int) (g4_w_1 : Int) (g4_w_2 : Nat) (g4_w_3 : ByteArray) (h : Hp) (Q : List Value → Hp → Prop) : Prop :=
wth (Array.push h (Obj.cells #[(Value.int .i64 g3_v_0), (Value.int .i64 g3_v_1), (Value.float .f64 g3_v_2), (Value.string g3_v_3)] T_api_Value)) fun h1 =>
wth (Array.push h1 (Obj.cells #[(Value.int .i64 g4_w_0), (Value.int .i64 g4_w_1), (Value.float .f64 g4_w_2), (Value.string g4_w_3)] T_api_Value)) fun h2 =>
S_table_Store_get g0_s g1_rel g2_name h2 fun (vs3 : List Value) (h4 : Hp) =>
∃ p5 : Option Addr, vs3 = [(Value.pointer p5)] ∧
(if (Option.isNone p5) = true then
  (Q [(Value.slice none 0 0), (Value.slice none 0 0)] h4) else
  (nilW p5 fun a6 => ∃ p7 : Option Addr, rd h4 (Addr.add a6 6) = some (Value.pointer p7) ∧
    ∃ n8 : Int, rd h4 (Addr.add (Addr.mk (Array.size h) 0 none) 0) = some (Value.int .i64 n8) ∧ ∃ n9 : Int, rd h4 (Addr.add (Addr.mk (Array.size h) 0 none) 1) = some (Value.int .i64 n9) ∧ ∃ x10 : Nat, rd h4 (Addr.add (Addr.mk (Array.size h) 0 none) 2) = some (Value.float .f64 x10) ∧ ∃ s11 : ByteArray, rd h4 (Addr.add (Addr.mk (Array.size h) 0 none) 3) = some (Value.string s11) ∧ ∃ n12 : Int, rd h4 (Addr.add (Addr.mk (Array.size h1) 0 none) 0) = some (Value.int .i64 n12) ∧ ∃ n13 : Int, rd h4 (Addr.add (Addr.mk (Array.size h1) 0 none) 1) = some (Value.int .i64 n13) ∧ ∃ x14 : Nat, rd h4 (Addr.add (Addr.mk (Array.size h1) 0 none) 2) = some (Value.float .f64 x14) ∧ ∃ s15 : ByteArray, rd h4 (Addr.add (Addr.mk (Array.size h1) 0 none) 3) = some (Value.string s15) ∧ S_index_Index_Range p7 n8 n9 x10 s11 n12 n13 x14 s15 h4 fun (vs16 : List Value) (h17 : Hp) =>
    ∃ l18 : Sl, ∃ l19 : Sl, vs16 = [(Value.slice l18.a l18.n l18.c), (Value.slice l19.a l19.n l19.c)] ∧
    Q [(Value.slice l18.a l18.n l18.c), (Value.slice l19.a l19.n l19.c)] h17))
def A_table_Store_Range : Ann := .nil
theorem E_table_Store_Range (g0_s : Option Addr) (g1_rel : Int) (g2_name : ByteArray) (g3_v_0 : Int) (g3_v_1 : Int) (g3_v_2 : Nat) (g3_v_3 : ByteArray) (g4_w_0 : Int) (g4_w_1 : Int) (g4_w_2 : Nat) (g4_w_3 : ByteArray) (h : Hp) (Q : List Value → Hp → Prop) : cw PP 28 (fun _ => []) (bodyOf Tryz.f34) A_table_Store_Range (finQ PP (Tryz.f34.results.toList) Q) (argFr [(Value.pointer g0_s), (Value.int .i64 g1_rel), (Value.string g2_name), (Value.agg #[(Value.int .i64 g3_v_0), (Value.int .i64 g3_v_1), (Value.float .f64 g3_v_2), (Value.string g3_v_3)]), (Value.agg #[(Value.int .i64 g4_w_0), (Value.int .i64 g4_w_1), (Value.float .f64 g4_w_2), (Value.string g4_w_3)])]) h = F_table_Store_Range g0_s g1_rel g2_name g3_v_0 g3_v_1 g3_v_2 g3_v_3 g4_w_0 g4_w_1 g4_w_2 g4_w_3 h Q := by kernel_rfl
theorem O_table_Store_Range (g0_s : Option Addr) (g1_rel : Int) (g2_name : ByteArray) (g3_v_0 : Int) (g3_v_1 : Int) (g3_v_2 : Nat) (g3_v_3 : ByteArray) (g4_w_0 : Int) (g4_w_1 : Int) (g4_w_2 : Nat) (g4_w_3 : ByteArray) {h : Hp} {Q : List Value → Hp → Prop} (H : F_table_Store_Range g0_s g1_rel g2_name g3_v_0 g3_v_1 g3_v_2 g3_v_3 g4_w_0 g4_w_1 g4_w_2 g4_w_3 h Q) : S_table_Store_Range g0_s g1_rel g2_name g3_v_0 g3_v_1 g3_v_2 g3_v_3 g4_w_0 g4_w_1 g4_w_2 g4_w_3 h Q :=
  fn_of_cw (hs := (fun _ => [])) (ann := A_table_Store_Range) (args := [(Value.pointer g0_s), (Value.int .i64 g1_rel), (Value.string g2_name), (Value.agg #[(Value.int .i64 g3_v_0), (Value.int .i64 g3_v_1), (Value.float .f64 g3_v_2), (Value.string g3_v_3)]), (Value.agg #[(Value.int .i64 g4_w_0), (Value.int .i64 g4_w_1), (Value.float .f64 g4_w_2), (Value.string g4_w_3)])]) mixedPP Tryz.func34 (c := bodyOf Tryz.f34) (by kernel_rfl) (by kernel_rfl) (by kernel_rfl) (Eq.mpr (E_table_Store_Range g0_s g1_rel g2_name g3_v_0 g3_v_1 g3_v_2 g3_v_3 g4_w_0 g4_w_1 g4_w_2 g4_w_3 h Q) H)
def F_table_Store_Log (g0_s : Option Addr) (h : Hp) (Q : List Value → Hp → Prop) : Prop :=
(if (Option.isNone g0_s) = true then
  (Q [(Value.pointer none)] h) else
  (nilW g0_s fun a1 => ∃ p2 : Option Addr, rd h (Addr.add a1 0) = some (Value.pointer p2) ∧
    Q [(Value.pointer p2)] h))
def A_table_Store_Log : Ann := .nil
theorem E_table_Store_Log (g0_s : Option Addr) (h : Hp) (Q : List Value → Hp → Prop) : cw PP 9 (fun _ => []) (bodyOf Tryz.f35) A_table_Store_Log (finQ PP (Tryz.f35.results.toList) Q) (argFr [(Value.pointer g0_s)]) h = F_table_Store_Log g0_s h Q := by kernel_rfl
theorem O_table_Store_Log (g0_s : Option Addr) {h : Hp} {Q : List Value → Hp → Prop} (H : F_table_Store_Log g0_s h Q) : S_table_Store_Log g0_s h Q :=
  fn_of_cw (hs := (fun _ => [])) (ann := A_table_Store_Log) (args := [(Value.pointer g0_s)]) mixedPP Tryz.func35 (c := bodyOf Tryz.f35) (by kernel_rfl) (by kernel_rfl) (by kernel_rfl) (Eq.mpr (E_table_Store_Log g0_s h Q) H)
def F_table_Store_Names (g0_s : Option Addr) (h : Hp) (Q : List Value → Hp → Prop) : Prop :=
(if (Option.isNone g0_s) = true then
  (Q [(Value.pointer none)] h) else
  (nilW g0_s fun a1 => ∃ p2 : Option Addr, rd h (Addr.add a1 1) = some (Value.pointer p2) ∧
    Q [(Value.pointer p2)] h))
def A_table_Store_Names : Ann := .nil
theorem E_table_Store_Names (g0_s : Option Addr) (h : Hp) (Q : List Value → Hp → Prop) : cw PP 9 (fun _ => []) (bodyOf Tryz.f36) A_table_Store_Names (finQ PP (Tryz.f36.results.toList) Q) (argFr [(Value.pointer g0_s)]) h = F_table_Store_Names g0_s h Q := by kernel_rfl
theorem O_table_Store_Names (g0_s : Option Addr) {h : Hp} {Q : List Value → Hp → Prop} (H : F_table_Store_Names g0_s h Q) : S_table_Store_Names g0_s h Q :=
  fn_of_cw (hs := (fun _ => [])) (ann := A_table_Store_Names) (args := [(Value.pointer g0_s)]) mixedPP Tryz.func36 (c := bodyOf Tryz.f36) (by kernel_rfl) (by kernel_rfl) (by kernel_rfl) (Eq.mpr (E_table_Store_Names g0_s h Q) H)
def F_table_Store_Locks (g0_s : Option Addr) (h : Hp) (Q : List Value → Hp → Prop) : Prop :=
(if (Option.isNone g0_s) = true then
  (Q [(Value.pointer none)] h) else
  (nilW g0_s fun a1 => ∃ p2 : Option Addr, rd h (Addr.add a1 2) = some (Value.pointer p2) ∧
    Q [(Value.pointer p2)] h))
def A_table_Store_Locks : Ann := .nil
theorem E_table_Store_Locks (g0_s : Option Addr) (h : Hp) (Q : List Value → Hp → Prop) : cw PP 9 (fun _ => []) (bodyOf Tryz.f37) A_table_Store_Locks (finQ PP (Tryz.f37.results.toList) Q) (argFr [(Value.pointer g0_s)]) h = F_table_Store_Locks g0_s h Q := by kernel_rfl
theorem O_table_Store_Locks (g0_s : Option Addr) {h : Hp} {Q : List Value → Hp → Prop} (H : F_table_Store_Locks g0_s h Q) : S_table_Store_Locks g0_s h Q :=
  fn_of_cw (hs := (fun _ => [])) (ann := A_table_Store_Locks) (args := [(Value.pointer g0_s)]) mixedPP Tryz.func37 (c := bodyOf Tryz.f37) (by kernel_rfl) (by kernel_rfl) (by kernel_rfl) (Eq.mpr (E_table_Store_Locks g0_s h Q) H)
def F_table_Store_Set (g0_s : Option Addr) (g1_rel : Int) (g2_name : ByteArray) (g3_state : Int) (g4_maker : Int) (h : Hp) (Q : List Value → Hp → Prop) : Prop :=
(if (Option.isNone g0_s) = true then
  (Q [(Value.int .i64 (1 : Int))] h) else
  (S_table_Store_get g0_s g1_rel g2_name h fun (vs1 : List Value) (h2 : Hp) =>
    ∃ p3 : Option Addr, vs1 = [(Value.pointer p3)] ∧
    (if (Option.isNone p3) = true then
      (Q [(Value.int .i64 (63 : Int))] h2) else
      (nilW p3 fun a4 => stOk h2 (Addr.add (Addr.add (Addr.add a4 0) 0) 3) 1 ∧ wth (wrs h2 (Addr.add (Addr.add (Addr.add a4 0) 0) 3) 0 [(Value.int .i64 g3_state)]) fun h5 =>
        ∀ J6 : List Value → Hp → Prop, (∀ h7 : Hp, (Q [(Value.int .i64 (0 : Int))] h7) → J6 [] h7) →
        (if (decide (g4_maker > (0 : Int))) = true then
          (nilW p3 fun a8 => stOk h5 (Addr.add (Addr.add a8 0) 4) 1 ∧ wth (wrs h5 (Addr.add (Addr.add a8 0) 4) 0 [(Value.int .i64 g4_maker)]) fun h9 =>
            J6 [] h9) else
          (J6 [] h5))))))
def A_table_Store_Set : Ann := (.mk none ⟨[], []⟩ .nil (.mk none ⟨[], []⟩ .nil (.mk none ⟨[], []⟩ .nil (.mk none ⟨[], []⟩ .nil (.mk none ⟨[], []⟩ .nil (.mk none ⟨[], []⟩ (.mk none ⟨[], []⟩ .nil (.mk (some ⟨[], []⟩) ⟨[], []⟩ .nil .nil)) .nil))))))
theorem E_table_Store_Set (g0_s : Option Addr) (g1_rel : Int) (g2_name : ByteArray) (g3_state : Int) (g4_maker : Int) (h : Hp) (Q : List Value → Hp → Prop) : cw PP 33 (fun _ => []) (bodyOf Tryz.f39) A_table_Store_Set (finQ PP (Tryz.f39.results.toList) Q) (argFr [(Value.pointer g0_s), (Value.int .i64 g1_rel), (Value.string g2_name), (Value.int .i64 g3_state), (Value.int .i64 g4_maker)]) h = F_table_Store_Set g0_s g1_rel g2_name g3_state g4_maker h Q := by kernel_rfl
theorem O_table_Store_Set (g0_s : Option Addr) (g1_rel : Int) (g2_name : ByteArray) (g3_state : Int) (g4_maker : Int) {h : Hp} {Q : List Value → Hp → Prop} (H : F_table_Store_Set g0_s g1_rel g2_name g3_state g4_maker h Q) : S_table_Store_Set g0_s g1_rel g2_name g3_state g4_maker h Q :=
  fn_of_cw (hs := (fun _ => [])) (ann := A_table_Store_Set) (args := [(Value.pointer g0_s), (Value.int .i64 g1_rel), (Value.string g2_name), (Value.int .i64 g3_state), (Value.int .i64 g4_maker)]) mixedPP Tryz.func39 (c := bodyOf Tryz.f39) (by kernel_rfl) (by kernel_rfl) (by kernel_rfl) (Eq.mpr (E_table_Store_Set g0_s g1_rel g2_name g3_state g4_maker h Q) H)
def F_table_Store_End (g0_s : Option Addr) (g1_xid : Int) (g2_rel : Int) (g3_tid : Int) (h : Hp) (Q : List Value → Hp → Prop) : Prop :=
S_table_Store_rel g0_s g2_rel h fun (vs1 : List Value) (h2 : Hp) =>
∃ p3 : Option Addr, vs1 = [(Value.pointer p3)] ∧
(if (Option.isNone p3) = true then
  (Q [(Value.int .i64 (1 : Int))] h2) else
  (nilW p3 fun a4 => ∃ p5 : Option Addr, rd h2 (Addr.add a4 0) = some (Value.pointer p5) ∧
    S_heap_Rel_Delete p5 g1_xid g3_tid h2 fun (vs6 : List Value) (h7 : Hp) =>
    ∃ n8 : Int, vs6 = [(Value.int .i64 n8)] ∧
    (if (n8 != (0 : Int)) = true then
      (Q [(Value.int .i64 n8)] h7) else
      (nilW g0_s fun a9 => ∃ p10 : Option Addr, rd h7 (Addr.add a9 3) = some (Value.pointer p10) ∧
        S_ssi_Ssi_Wrote p10 g1_xid (4 : Int) (ByteArray.mk #[]) g2_rel (ByteArray.mk #[]) g3_tid h7 fun (vs11 : List Value) (h12 : Hp) =>
        vs11 = [] ∧
        nilW g0_s fun a13 => ∃ p14 : Option Addr, rd h12 (Addr.add a13 3) = some (Value.pointer p14) ∧
        S_ssi_Ssi_Wrote p14 g1_xid (2 : Int) (ByteArray.mk #[]) g2_rel (ByteArray.mk #[]) (0 : Int) h12 fun (vs15 : List Value) (h16 : Hp) =>
        vs15 = [] ∧
        Q [(Value.int .i64 (0 : Int))] h16))))
def A_table_Store_End : Ann := .nil
theorem E_table_Store_End (g0_s : Option Addr) (g1_xid : Int) (g2_rel : Int) (g3_tid : Int) (h : Hp) (Q : List Value → Hp → Prop) : cw PP 43 (fun _ => []) (bodyOf Tryz.f40) A_table_Store_End (finQ PP (Tryz.f40.results.toList) Q) (argFr [(Value.pointer g0_s), (Value.int .i64 g1_xid), (Value.int .i64 g2_rel), (Value.int .i64 g3_tid)]) h = F_table_Store_End g0_s g1_xid g2_rel g3_tid h Q := by kernel_rfl
theorem O_table_Store_End (g0_s : Option Addr) (g1_xid : Int) (g2_rel : Int) (g3_tid : Int) {h : Hp} {Q : List Value → Hp → Prop} (H : F_table_Store_End g0_s g1_xid g2_rel g3_tid h Q) : S_table_Store_End g0_s g1_xid g2_rel g3_tid h Q :=
  fn_of_cw (hs := (fun _ => [])) (ann := A_table_Store_End) (args := [(Value.pointer g0_s), (Value.int .i64 g1_xid), (Value.int .i64 g2_rel), (Value.int .i64 g3_tid)]) mixedPP Tryz.func40 (c := bodyOf Tryz.f40) (by kernel_rfl) (by kernel_rfl) (by kernel_rfl) (Eq.mpr (E_table_Store_End g0_s g1_xid g2_rel g3_tid h Q) H)
def F_liverylaw19_TableNone (g0_x_0 : Int) (g0_x_1 : Int) (g0_x_2 : Int) (g0_x_3 : Int) (g0_x_4 : ByteArray) (g0_x_5 : ByteArray) (g0_x_6 : Bool) (g0_x_7 : Int) (g0_x_8 : Int) (g0_x_9 : Int) (g0_x_10 : Nat) (g0_x_11 : ByteArray) (g0_x_12 : Int) (g0_x_13 : Int) (g0_x_14 : Nat) (g0_x_15 : ByteArray) (g0_x_16 : Sl) (g0_x_17 : Sl) (g0_x_18 : Int) (g0_x_19 : ByteArray) (g0_x_20 : Int) (g0_x_21 : ByteArray) (g0_x_22 : Int) (g0_x_23 : Bool) (h : Hp) (Q : List Value → Hp → Prop) : Prop :=
wth (Array.push h (Obj.cells #[(Value.int .i64 g0_x_0), (Value.int .i64 g0_x_1), (Value.int .i64 g0_x_2), (Value.int .i64 g0_x_3), (Value.string g0_x_4), (Value.string g0_x_5), (Value.bool g0_x_6), (Value.int .i64 g0_x_7), (Value.int .i64 g0_x_8), (Value.int .i64 g0_x_9), (Value.float .f64 g0_x_10), (Value.string g0_x_11), (Value.int .i64 g0_x_12), (Value.int .i64 g0_x_13), (Value.float .f64 g0_x_14), (Value.string g0_x_15), (Value.slice g0_x_16.a g0_x_16.n g0_x_16.c), (Value.slice g0_x_17.a g0_x_17.n g0_x_17.c), (Value.int .i64 g0_x_18), (Value.string g0_x_19), (Value.int .i64 g0_x_20), (Value.string g0_x_21), (Value.int .i64 g0_x_22), (Value.bool g0_x_23)] T_liverylaw19_Step)) fun h1 =>
∃ n2 : Int, rd h1 (Addr.add (Addr.mk (Array.size h) 0 none) 0) = some (Value.int .i64 n2) ∧ ∃ n3 : Int, rd h1 (Addr.add (Addr.mk (Array.size h) 0 none) 1) = some (Value.int .i64 n3) ∧ ∃ n4 : Int, rd h1 (Addr.add (Addr.mk (Array.size h) 0 none) 2) = some (Value.int .i64 n4) ∧ ∃ n5 : Int, rd h1 (Addr.add (Addr.mk (Array.size h) 0 none) 3) = some (Value.int .i64 n5) ∧ ∃ s6 : ByteArray, rd h1 (Addr.add (Addr.mk (Array.size h) 0 none) 4) = some (Value.string s6) ∧ ∃ s7 : ByteArray, rd h1 (Addr.add (Addr.mk (Array.size h) 0 none) 5) = some (Value.string s7) ∧ ∃ b8 : Bool, rd h1 (Addr.add (Addr.mk (Array.size h) 0 none) 6) = some (Value.bool b8) ∧ ∃ n9 : Int, rd h1 (Addr.add (Addr.mk (Array.size h) 0 none) 7) = some (Value.int .i64 n9) ∧ ∃ n10 : Int, rd h1 (Addr.add (Addr.mk (Array.size h) 0 none) 8) = some (Value.int .i64 n10) ∧ ∃ n11 : Int, rd h1 (Addr.add (Addr.mk (Array.size h) 0 none) 9) = some (Value.int .i64 n11) ∧ ∃ x12 : Nat, rd h1 (Addr.add (Addr.mk (Array.size h) 0 none) 10) = some (Value.float .f64 x12) ∧ ∃ s13 : ByteArray, rd h1 (Addr.add (Addr.mk (Array.size h) 0 none) 11) = some (Value.string s13) ∧ ∃ n14 : Int, rd h1 (Addr.add (Addr.mk (Array.size h) 0 none) 12) = some (Value.int .i64 n14) ∧ ∃ n15 : Int, rd h1 (Addr.add (Addr.mk (Array.size h) 0 none) 13) = some (Value.int .i64 n15) ∧ ∃ x16 : Nat, rd h1 (Addr.add (Addr.mk (Array.size h) 0 none) 14) = some (Value.float .f64 x16) ∧ ∃ s17 : ByteArray, rd h1 (Addr.add (Addr.mk (Array.size h) 0 none) 15) = some (Value.string s17) ∧ ∃ l18 : Sl, rd h1 (Addr.add (Addr.mk (Array.size h) 0 none) 16) = some (Value.slice l18.a l18.n l18.c) ∧ ∃ l19 : Sl, rd h1 (Addr.add (Addr.mk (Array.size h) 0 none) 17) = some (Value.slice l19.a l19.n l19.c) ∧ ∃ n20 : Int, rd h1 (Addr.add (Addr.mk (Array.size h) 0 none) 18) = some (Value.int .i64 n20) ∧ ∃ s21 : ByteArray, rd h1 (Addr.add (Addr.mk (Array.size h) 0 none) 19) = some (Value.string s21) ∧ ∃ n22 : Int, rd h1 (Addr.add (Addr.mk (Array.size h) 0 none) 20) = some (Value.int .i64 n22) ∧ ∃ s23 : ByteArray, rd h1 (Addr.add (Addr.mk (Array.size h) 0 none) 21) = some (Value.string s23) ∧ ∃ n24 : Int, rd h1 (Addr.add (Addr.mk (Array.size h) 0 none) 22) = some (Value.int .i64 n24) ∧ ∃ b25 : Bool, rd h1 (Addr.add (Addr.mk (Array.size h) 0 none) 23) = some (Value.bool b25) ∧ wth (Array.push h1 (Obj.cells #[(Value.int .i64 n2), (Value.int .i64 n3), (Value.int .i64 n4), (Value.int .i64 n5), (Value.string s6), (Value.string s7), (Value.bool b8), (Value.int .i64 n9), (Value.int .i64 n10), (Value.int .i64 n11), (Value.float .f64 x12), (Value.string s13), (Value.int .i64 n14), (Value.int .i64 n15), (Value.float .f64 x16), (Value.string s17), (Value.slice l18.a l18.n l18.c), (Value.slice l19.a l19.n l19.c), (Value.int .i64 n20), (Value.string s21), (Value.int .i64 n22), (Value.string s23), (Value.int .i64 n24), (Value.bool b25)] T_liverylaw19_Step)) fun h26 =>
S_liverylaw19_Fair ⟨(some (Addr.mk (Array.size h1) 0 none)), 1, 1⟩ h26 fun (vs27 : List Value) (h28 : Hp) =>
∃ b29 : Bool, vs27 = [(Value.bool b29)] ∧
(if (!b29) = true then
  (S_liverylaw19_wakes  h28 fun (vs30 : List Value) (h31 : Hp) =>
    ∃ b32 : Bool, vs30 = [(Value.bool b32)] ∧
    Q [(Value.bool b32)] h31) else
  (S_table_Store_NewRel none h28 fun (vs33 : List Value) (h34 : Hp) =>
    ∃ n35 : Int, ∃ n36 : Int, vs33 = [(Value.int .i64 n35), (Value.int .i64 n36)] ∧
    ∃ n37 : Int, rd h34 (Addr.add (Addr.mk (Array.size h) 0 none) 1) = some (Value.int .i64 n37) ∧
    ∃ n38 : Int, rd h34 (Addr.add (Addr.mk (Array.size h) 0 none) 2) = some (Value.int .i64 n38) ∧
    ∃ l39 : Sl, rd h34 (Addr.add (Addr.mk (Array.size h) 0 none) 16) = some (Value.slice l39.a l39.n l39.c) ∧
    ∃ l40 : Sl, rd h34 (Addr.add (Addr.mk (Array.size h) 0 none) 17) = some (Value.slice l40.a l40.n l40.c) ∧
    S_table_Store_Put none n37 n38 ⟨l39.a, l39.n, l39.c⟩ ⟨l40.a, l40.n, l40.c⟩ h34 fun (vs41 : List Value) (h42 : Hp) =>
    ∃ n43 : Int, ∃ n44 : Int, vs41 = [(Value.int .i64 n43), (Value.int .i64 n44)] ∧
    ∃ n45 : Int, rd h42 (Addr.add (Addr.mk (Array.size h) 0 none) 1) = some (Value.int .i64 n45) ∧
    ∃ n46 : Int, rd h42 (Addr.add (Addr.mk (Array.size h) 0 none) 2) = some (Value.int .i64 n46) ∧
    ∃ l47 : Sl, rd h42 (Addr.add (Addr.mk (Array.size h) 0 none) 17) = some (Value.slice l47.a l47.n l47.c) ∧
    ∃ b48 : Bool, rd h42 (Addr.add (Addr.mk (Array.size h) 0 none) 23) = some (Value.bool b48) ∧
    S_table_Store_Move none n45 n46 ⟨l47.a, l47.n, l47.c⟩ b48 h42 fun (vs49 : List Value) (h50 : Hp) =>
    ∃ n51 : Int, ∃ n52 : Int, vs49 = [(Value.int .i64 n51), (Value.int .i64 n52)] ∧
    ∃ n53 : Int, rd h50 (Addr.add (Addr.mk (Array.size h) 0 none) 2) = some (Value.int .i64 n53) ∧
    ∃ s54 : ByteArray, rd h50 (Addr.add (Addr.add (Addr.mk (Array.size h) 0 none) 4) 0) = some (Value.string s54) ∧
    ∃ n55 : Int, rd h50 (Addr.add (Addr.add (Addr.mk (Array.size h) 0 none) 8) 0) = some (Value.int .i64 n55) ∧ ∃ n56 : Int, rd h50 (Addr.add (Addr.add (Addr.mk (Array.size h) 0 none) 8) 1) = some (Value.int .i64 n56) ∧ ∃ x57 : Nat, rd h50 (Addr.add (Addr.add (Addr.mk (Array.size h) 0 none) 8) 2) = some (Value.float .f64 x57) ∧ ∃ s58 : ByteArray, rd h50 (Addr.add (Addr.add (Addr.mk (Array.size h) 0 none) 8) 3) = some (Value.string s58) ∧ S_table_Store_Find none n53 s54 n55 n56 x57 s58 h50 fun (vs59 : List Value) (h60 : Hp) =>
    ∃ l61 : Sl, ∃ l62 : Sl, vs59 = [(Value.slice l61.a l61.n l61.c), (Value.slice l62.a l62.n l62.c)] ∧
    ∃ n63 : Int, rd h60 (Addr.add (Addr.mk (Array.size h) 0 none) 2) = some (Value.int .i64 n63) ∧
    ∃ s64 : ByteArray, rd h60 (Addr.add (Addr.add (Addr.mk (Array.size h) 0 none) 4) 0) = some (Value.string s64) ∧
    ∃ n65 : Int, rd h60 (Addr.add (Addr.add (Addr.mk (Array.size h) 0 none) 8) 0) = some (Value.int .i64 n65) ∧ ∃ n66 : Int, rd h60 (Addr.add (Addr.add (Addr.mk (Array.size h) 0 none) 8) 1) = some (Value.int .i64 n66) ∧ ∃ x67 : Nat, rd h60 (Addr.add (Addr.add (Addr.mk (Array.size h) 0 none) 8) 2) = some (Value.float .f64 x67) ∧ ∃ s68 : ByteArray, rd h60 (Addr.add (Addr.add (Addr.mk (Array.size h) 0 none) 8) 3) = some (Value.string s68) ∧ ∃ n69 : Int, rd h60 (Addr.add (Addr.add (Addr.mk (Array.size h) 0 none) 12) 0) = some (Value.int .i64 n69) ∧ ∃ n70 : Int, rd h60 (Addr.add (Addr.add (Addr.mk (Array.size h) 0 none) 12) 1) = some (Value.int .i64 n70) ∧ ∃ x71 : Nat, rd h60 (Addr.add (Addr.add (Addr.mk (Array.size h) 0 none) 12) 2) = some (Value.float .f64 x71) ∧ ∃ s72 : ByteArray, rd h60 (Addr.add (Addr.add (Addr.mk (Array.size h) 0 none) 12) 3) = some (Value.string s72) ∧ S_table_Store_Range none n63 s64 n65 n66 x67 s68 n69 n70 x71 s72 h60 fun (vs73 : List Value) (h74 : Hp) =>
    ∃ l75 : Sl, ∃ l76 : Sl, vs73 = [(Value.slice l75.a l75.n l75.c), (Value.slice l76.a l76.n l76.c)] ∧
    ∀ J77 : List Value → Hp → Prop, (∀ b78 : Bool, ∀ h79 : Hp, ((if b78 = true then
          (Q [(Value.bool false)] h79) else
          (S_table_Store_Log none h79 fun (vs80 : List Value) (h81 : Hp) =>
            ∃ p82 : Option Addr, vs80 = [(Value.pointer p82)] ∧
            (if (Option.isNone p82) = true then (S_table_Store_Names none h81 fun (vs83 : List Value) (h84 : Hp) =>
                ∃ p85 : Option Addr, vs83 = [(Value.pointer p85)] ∧
                (if (Option.isNone p85) = true then (S_table_Store_Locks none h84 fun (vs86 : List Value) (h87 : Hp) =>
                    ∃ p88 : Option Addr, vs86 = [(Value.pointer p88)] ∧
                    (if (Option.isNone p88) = true then (S_table_Store_Ssi none h87 fun (vs89 : List Value) (h90 : Hp) =>
                        ∃ p91 : Option Addr, vs89 = [(Value.pointer p91)] ∧
                        (if (Option.isNone p91) = true then (∃ n92 : Int, rd h90 (Addr.add (Addr.mk (Array.size h) 0 none) 2) = some (Value.int .i64 n92) ∧
                            S_table_Store_Rel none n92 h90 fun (vs93 : List Value) (h94 : Hp) =>
                            ∃ p95 : Option Addr, vs93 = [(Value.pointer p95)] ∧
                            (if (Option.isNone p95) = true then (∃ n96 : Int, rd h94 (Addr.add (Addr.mk (Array.size h) 0 none) 2) = some (Value.int .i64 n96) ∧
                                S_table_Store_Indexes none n96 h94 fun (vs97 : List Value) (h98 : Hp) =>
                                ∃ l99 : Sl, vs97 = [(Value.slice l99.a l99.n l99.c)] ∧
                                (if ((l99.n : Int) == (0 : Int)) = true then (∃ n100 : Int, rd h98 (Addr.add (Addr.mk (Array.size h) 0 none) 1) = some (Value.int .i64 n100) ∧
                                    ∃ n101 : Int, rd h98 (Addr.add (Addr.mk (Array.size h) 0 none) 2) = some (Value.int .i64 n101) ∧
                                    S_table_Store_Usable none n100 n101 h98 fun (vs102 : List Value) (h103 : Hp) =>
                                    ∃ l104 : Sl, vs102 = [(Value.slice l104.a l104.n l104.c)] ∧
                                    (if ((l104.n : Int) == (0 : Int)) = true then (∃ n105 : Int, rd h103 (Addr.add (Addr.mk (Array.size h) 0 none) 1) = some (Value.int .i64 n105) ∧
                                        ∃ n106 : Int, rd h103 (Addr.add (Addr.mk (Array.size h) 0 none) 2) = some (Value.int .i64 n106) ∧
                                        ∃ s107 : ByteArray, rd h103 (Addr.add (Addr.add (Addr.mk (Array.size h) 0 none) 4) 0) = some (Value.string s107) ∧ ∃ s108 : ByteArray, rd h103 (Addr.add (Addr.add (Addr.mk (Array.size h) 0 none) 4) 1) = some (Value.string s108) ∧ ∃ b109 : Bool, rd h103 (Addr.add (Addr.add (Addr.mk (Array.size h) 0 none) 4) 2) = some (Value.bool b109) ∧ ∃ n110 : Int, rd h103 (Addr.add (Addr.add (Addr.mk (Array.size h) 0 none) 4) 3) = some (Value.int .i64 n110) ∧ ∃ l111 : Sl, rd h103 (Addr.add (Addr.mk (Array.size h) 0 none) 17) = some (Value.slice l111.a l111.n l111.c) ∧
                                        S_table_Store_Make none n105 n106 s107 s108 b109 n110 ⟨l111.a, l111.n, l111.c⟩ h103 fun (vs112 : List Value) (h113 : Hp) =>
                                        ∃ n114 : Int, vs112 = [(Value.int .i64 n114)] ∧
                                        (if (n114 == (1 : Int)) = true then (∃ n115 : Int, rd h113 (Addr.add (Addr.mk (Array.size h) 0 none) 2) = some (Value.int .i64 n115) ∧
                                            S_table_Store_Set none n115 (ByteArray.mk #[105]) (1 : Int) (0 : Int) h113 fun (vs116 : List Value) (h117 : Hp) =>
                                            ∃ n118 : Int, vs116 = [(Value.int .i64 n118)] ∧
                                            (if (n118 == (1 : Int)) = true then (∃ n119 : Int, rd h117 (Addr.add (Addr.mk (Array.size h) 0 none) 1) = some (Value.int .i64 n119) ∧
                                                ∃ n120 : Int, rd h117 (Addr.add (Addr.mk (Array.size h) 0 none) 2) = some (Value.int .i64 n120) ∧
                                                S_table_Store_Remove none n119 n120 (ByteArray.mk #[105]) h117 fun (vs121 : List Value) (h122 : Hp) =>
                                                ∃ n123 : Int, vs121 = [(Value.int .i64 n123)] ∧
                                                (if (n123 == (1 : Int)) = true then (∃ n124 : Int, rd h122 (Addr.add (Addr.mk (Array.size h) 0 none) 2) = some (Value.int .i64 n124) ∧
                                                    ∃ l125 : Sl, rd h122 (Addr.add (Addr.mk (Array.size h) 0 none) 17) = some (Value.slice l125.a l125.n l125.c) ∧
                                                    S_table_Store_Fill none n124 (ByteArray.mk #[105]) ⟨l125.a, l125.n, l125.c⟩ h122 fun (vs126 : List Value) (h127 : Hp) =>
                                                    ∃ n128 : Int, vs126 = [(Value.int .i64 n128)] ∧
                                                    (if (n128 == (1 : Int)) = true then (∃ n129 : Int, rd h127 (Addr.add (Addr.mk (Array.size h) 0 none) 1) = some (Value.int .i64 n129) ∧
                                                        ∃ n130 : Int, rd h127 (Addr.add (Addr.mk (Array.size h) 0 none) 2) = some (Value.int .i64 n130) ∧
                                                        ∃ n131 : Int, rd h127 (Addr.add (Addr.mk (Array.size h) 0 none) 3) = some (Value.int .i64 n131) ∧
                                                        S_table_Store_End none n129 n130 n131 h127 fun (vs132 : List Value) (h133 : Hp) =>
                                                        ∃ n134 : Int, vs132 = [(Value.int .i64 n134)] ∧
                                                        (if (n134 == (1 : Int)) = true then (S_liverylaw19_wakes  h133 fun (vs135 : List Value) (h136 : Hp) =>
                                                            ∃ b137 : Bool, vs135 = [(Value.bool b137)] ∧
                                                            Q [(Value.bool b137)] h136) else
                                                          (Q [(Value.bool false)] h133))) else
                                                      (Q [(Value.bool false)] h127))) else
                                                  (Q [(Value.bool false)] h122))) else
                                              (Q [(Value.bool false)] h117))) else
                                          (Q [(Value.bool false)] h113))) else
                                      (Q [(Value.bool false)] h103))) else
                                  (Q [(Value.bool false)] h98))) else
                              (Q [(Value.bool false)] h94))) else
                          (Q [(Value.bool false)] h90))) else
                      (Q [(Value.bool false)] h87))) else
                  (Q [(Value.bool false)] h84))) else
              (Q [(Value.bool false)] h81))))) → J77 [(Value.bool b78)] h79) →
    (if (n35 != (0 : Int)) = true then (J77 [(Value.bool true)] h74) else
      ((if (n36 != (1 : Int)) = true then (J77 [(Value.bool true)] h74) else
          ((if (n43 != (0 : Int)) = true then (J77 [(Value.bool true)] h74) else
              ((if (n44 != (1 : Int)) = true then (J77 [(Value.bool true)] h74) else
                  ((if (n51 != (0 : Int)) = true then (J77 [(Value.bool true)] h74) else
                      ((if (n52 != (1 : Int)) = true then (J77 [(Value.bool true)] h74) else
                          (J77 [(Value.bool ((IntKind.wrap .i64 ((IntKind.wrap .i64 ((IntKind.wrap .i64 ((l61.n : Int) + (l62.n : Int))) + (l75.n : Int))) + (l76.n : Int))) != (0 : Int)))] h74))))))))))))))
def A_liverylaw19_TableNone : Ann := (.mk none ⟨[], []⟩ .nil (.mk none ⟨[], []⟩ .nil (.mk none ⟨[], []⟩ .nil (.mk none ⟨[], []⟩ .nil (.mk none ⟨[], []⟩ .nil (.mk none ⟨[], []⟩ .nil (.mk none ⟨[], []⟩ .nil (.mk none ⟨[], []⟩ .nil (.mk none ⟨[], []⟩ (.mk none ⟨[], []⟩ (.mk (some ⟨[1, 3], [(111, (.c .bool))]⟩) ⟨[], []⟩ .nil .nil) .nil) .nil)))))))))
theorem E_liverylaw19_TableNone (g0_x_0 : Int) (g0_x_1 : Int) (g0_x_2 : Int) (g0_x_3 : Int) (g0_x_4 : ByteArray) (g0_x_5 : ByteArray) (g0_x_6 : Bool) (g0_x_7 : Int) (g0_x_8 : Int) (g0_x_9 : Int) (g0_x_10 : Nat) (g0_x_11 : ByteArray) (g0_x_12 : Int) (g0_x_13 : Int) (g0_x_14 : Nat) (g0_x_15 : ByteArray) (g0_x_16 : Sl) (g0_x_17 : Sl) (g0_x_18 : Int) (g0_x_19 : ByteArray) (g0_x_20 : Int) (g0_x_21 : ByteArray) (g0_x_22 : Int) (g0_x_23 : Bool) (h : Hp) (Q : List Value → Hp → Prop) : cw PP 207 (fun _ => []) (bodyOf Tryz.f5) A_liverylaw19_TableNone (finQ PP (Tryz.f5.results.toList) Q) (argFr [(Value.agg #[(Value.int .i64 g0_x_0), (Value.int .i64 g0_x_1), (Value.int .i64 g0_x_2), (Value.int .i64 g0_x_3), (Value.string g0_x_4), (Value.string g0_x_5), (Value.bool g0_x_6), (Value.int .i64 g0_x_7), (Value.int .i64 g0_x_8), (Value.int .i64 g0_x_9), (Value.float .f64 g0_x_10), (Value.string g0_x_11), (Value.int .i64 g0_x_12), (Value.int .i64 g0_x_13), (Value.float .f64 g0_x_14), (Value.string g0_x_15), (Value.slice g0_x_16.a g0_x_16.n g0_x_16.c), (Value.slice g0_x_17.a g0_x_17.n g0_x_17.c), (Value.int .i64 g0_x_18), (Value.string g0_x_19), (Value.int .i64 g0_x_20), (Value.string g0_x_21), (Value.int .i64 g0_x_22), (Value.bool g0_x_23)])]) h = F_liverylaw19_TableNone g0_x_0 g0_x_1 g0_x_2 g0_x_3 g0_x_4 g0_x_5 g0_x_6 g0_x_7 g0_x_8 g0_x_9 g0_x_10 g0_x_11 g0_x_12 g0_x_13 g0_x_14 g0_x_15 g0_x_16 g0_x_17 g0_x_18 g0_x_19 g0_x_20 g0_x_21 g0_x_22 g0_x_23 h Q := by kernel_rfl
theorem O_liverylaw19_TableNone (g0_x_0 : Int) (g0_x_1 : Int) (g0_x_2 : Int) (g0_x_3 : Int) (g0_x_4 : ByteArray) (g0_x_5 : ByteArray) (g0_x_6 : Bool) (g0_x_7 : Int) (g0_x_8 : Int) (g0_x_9 : Int) (g0_x_10 : Nat) (g0_x_11 : ByteArray) (g0_x_12 : Int) (g0_x_13 : Int) (g0_x_14 : Nat) (g0_x_15 : ByteArray) (g0_x_16 : Sl) (g0_x_17 : Sl) (g0_x_18 : Int) (g0_x_19 : ByteArray) (g0_x_20 : Int) (g0_x_21 : ByteArray) (g0_x_22 : Int) (g0_x_23 : Bool) {h : Hp} {Q : List Value → Hp → Prop} (H : F_liverylaw19_TableNone g0_x_0 g0_x_1 g0_x_2 g0_x_3 g0_x_4 g0_x_5 g0_x_6 g0_x_7 g0_x_8 g0_x_9 g0_x_10 g0_x_11 g0_x_12 g0_x_13 g0_x_14 g0_x_15 g0_x_16 g0_x_17 g0_x_18 g0_x_19 g0_x_20 g0_x_21 g0_x_22 g0_x_23 h Q) : S_liverylaw19_TableNone g0_x_0 g0_x_1 g0_x_2 g0_x_3 g0_x_4 g0_x_5 g0_x_6 g0_x_7 g0_x_8 g0_x_9 g0_x_10 g0_x_11 g0_x_12 g0_x_13 g0_x_14 g0_x_15 g0_x_16 g0_x_17 g0_x_18 g0_x_19 g0_x_20 g0_x_21 g0_x_22 g0_x_23 h Q :=
  fn_of_cw (hs := (fun _ => [])) (ann := A_liverylaw19_TableNone) (args := [(Value.agg #[(Value.int .i64 g0_x_0), (Value.int .i64 g0_x_1), (Value.int .i64 g0_x_2), (Value.int .i64 g0_x_3), (Value.string g0_x_4), (Value.string g0_x_5), (Value.bool g0_x_6), (Value.int .i64 g0_x_7), (Value.int .i64 g0_x_8), (Value.int .i64 g0_x_9), (Value.float .f64 g0_x_10), (Value.string g0_x_11), (Value.int .i64 g0_x_12), (Value.int .i64 g0_x_13), (Value.float .f64 g0_x_14), (Value.string g0_x_15), (Value.slice g0_x_16.a g0_x_16.n g0_x_16.c), (Value.slice g0_x_17.a g0_x_17.n g0_x_17.c), (Value.int .i64 g0_x_18), (Value.string g0_x_19), (Value.int .i64 g0_x_20), (Value.string g0_x_21), (Value.int .i64 g0_x_22), (Value.bool g0_x_23)])]) mixedPP Tryz.func5 (c := bodyOf Tryz.f5) (by kernel_rfl) (by kernel_rfl) (by kernel_rfl) (Eq.mpr (E_liverylaw19_TableNone g0_x_0 g0_x_1 g0_x_2 g0_x_3 g0_x_4 g0_x_5 g0_x_6 g0_x_7 g0_x_8 g0_x_9 g0_x_10 g0_x_11 g0_x_12 g0_x_13 g0_x_14 g0_x_15 g0_x_16 g0_x_17 g0_x_18 g0_x_19 g0_x_20 g0_x_21 g0_x_22 g0_x_23 h Q) H)
end Go.Lift

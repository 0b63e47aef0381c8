/- Printed by lift.py: each Go function of this seat as a Prop over the heap, and that the Go code comes to it. -/
import Derived.Test.YtdgkfjbmlfmimaaGreatLvL
import Derived.Test.YtdgkfjbmlfmimaaGreatProg
set_option linter.unusedSimpArgs false
set_option linter.unusedVariables false
namespace Go.Lift
open Go Go.Proofs
set_option maxRecDepth 100000
noncomputable abbrev PP : Program := Tryz.prog
theorem mixedPP : PP.follows .mixedOrders = true := by kernel_rfl
def bodyOf (f : Func) : Code := f.body.getD .skip
abbrev T_int : TypeId := 3
abbrev T_siread_Thing : TypeId := 23
abbrev T_pssi_Ssi : TypeId := 25
abbrev T_3_uint8 : TypeId := 37
abbrev T_liverylaw15_Step : TypeId := 41
abbrev T_21_21_bool : TypeId := 45
abbrev T_2_int : TypeId := 51
abbrev T_3_int : TypeId := 70
abbrev T_liveryref08_Log : TypeId := 74
abbrev T_liveryref13_Thing : TypeId := 81
abbrev T_ssi_Ssi : TypeId := 89
abbrev T_clog_tx : TypeId := 95
abbrev T_map_2_int_int : TypeId := 103
abbrev T_edge_Edges : TypeId := 105
abbrev T_map_siread_Thing_int : TypeId := 115
abbrev T_siread_Table : TypeId := 118
abbrev T_clog_Log : TypeId := 123
abbrev T_liveryref14_Edges : TypeId := 129
abbrev T_liveryref15_Ssi : TypeId := 131
abbrev T_liveryref08_Tx : TypeId := 133
abbrev T_liveryref13_Table : TypeId := 140
abbrev T_liveryref13_Own : TypeId := 168
abbrev T_liveryref14_Verdict : TypeId := 172
abbrev T_slices_xorshift : TypeId := 206
/-- main.main -/
def S_main_main (h : Hp) (Q : List Value → Hp → Prop) : Prop := Fn PP 0 #[] h Q
/-- gosem.cut -/
def S_gosem_cut (h : Hp) (Q : List Value → Hp → Prop) : Prop := Fn PP 1 #[] h Q
/-- gosem.cut.init -/
def S_gosem_cut_init (h : Hp) (Q : List Value → Hp → Prop) : Prop := Fn PP 2 #[] h Q
/-- livery/siread.New -/
def S_siread_New (g0_each : Int) (g1_all : Int) (h : Hp) (Q : List Value → Hp → Prop) : Prop := Fn PP 74 #[(Value.int .i64 g0_each), (Value.int .i64 g1_all)] h Q
/-- livery/edge.New -/
def S_edge_New (g0_l : Option Addr) (h : Hp) (Q : List Value → Hp → Prop) : Prop := Fn PP 75 #[(Value.pointer g0_l)] h Q
/-- livery/ssi.New -/
def S_ssi_New (g0_l : Option Addr) (g1_each : Int) (g2_all : Int) (g3_keep : Int) (h : Hp) (Q : List Value → Hp → Prop) : Prop := Fn PP 25 #[(Value.pointer g0_l), (Value.int .i64 g1_each), (Value.int .i64 g2_all), (Value.int .i64 g3_keep)] h Q
/-- (*livery/ssi.Ssi).Log -/
def S_ssi_Ssi_Log (g0_s : Option Addr) (h : Hp) (Q : List Value → Hp → Prop) : Prop := Fn PP 29 #[(Value.pointer g0_s)] h Q
/-- livery/clog.New -/
def S_clog_New (h : Hp) (Q : List Value → Hp → Prop) : Prop := Fn PP 39 #[] h Q
/-- livery/liverylaw15.Made -/
def S_liverylaw15_Made (g0_each : Int) (g1_all : Int) (g2_keep : Int) (h : Hp) (Q : List Value → Hp → Prop) : Prop := Fn PP 11 #[(Value.int .i64 g0_each), (Value.int .i64 g1_all), (Value.int .i64 g2_keep)] h Q
/-- (*livery/clog.Log).Running -/
def S_clog_Log_Running (g0_l : Option Addr) (h : Hp) (Q : List Value → Hp → Prop) : Prop := Fn PP 38 #[(Value.pointer g0_l)] h Q
/-- slices.IndexFunc[[]int,int] -/
def S_slices_IndexFunc_sint_int (g0_s : Sl) (g1_f_f : Nat) (g1_f_c : Array Value) (h : Hp) (Q : List Value → Hp → Prop) : Prop := Fn PP 103 #[(Value.slice g0_s.a g0_s.n g0_s.c), (Value.func (.func g1_f_f) #[] g1_f_c)] h Q
/-- slices.ContainsFunc[[]int,int] -/
def S_slices_ContainsFunc_sint_int (g0_s : Sl) (g1_f_f : Nat) (g1_f_c : Array Value) (h : Hp) (Q : List Value → Hp → Prop) : Prop := Fn PP 51 #[(Value.slice g0_s.a g0_s.n g0_s.c), (Value.func (.func g1_f_f) #[] g1_f_c)] h Q
/-- (*livery/clog.Log).Begin -/
def S_clog_Log_Begin (g0_l : Option Addr) (g1_reads : Bool) (h : Hp) (Q : List Value → Hp → Prop) : Prop := Fn PP 53 #[(Value.pointer g0_l), (Value.bool g1_reads)] h Q
/-- (*livery/ssi.Ssi).Begin -/
def S_ssi_Ssi_Begin (g0_s : Option Addr) (g1_reads : Bool) (h : Hp) (Q : List Value → Hp → Prop) : Prop := Fn PP 13 #[(Value.pointer g0_s), (Value.bool g1_reads)] h Q
/-- (*livery/clog.Log).get -/
def S_clog_Log_get (g0_l : Option Addr) (g1_xid : Int) (h : Hp) (Q : List Value → Hp → Prop) : Prop := Fn PP 67 #[(Value.pointer g0_l), (Value.int .i64 g1_xid)] h Q
/-- (*livery/clog.Log).one -/
def S_clog_Log_one (g0_l : Option Addr) (g1_xid : Int) (h : Hp) (Q : List Value → Hp → Prop) : Prop := Fn PP 63 #[(Value.pointer g0_l), (Value.int .i64 g1_xid)] h Q
/-- (*livery/clog.Log).State -/
def S_clog_Log_State (g0_l : Option Addr) (g1_xid : Int) (h : Hp) (Q : List Value → Hp → Prop) : Prop := Fn PP 17 #[(Value.pointer g0_l), (Value.int .i64 g1_xid)] h Q
/-- (*livery/ssi.Ssi).runs -/
def S_ssi_Ssi_runs (g0_s : Option Addr) (g1_xid : Int) (h : Hp) (Q : List Value → Hp → Prop) : Prop := Fn PP 54 #[(Value.pointer g0_s), (Value.int .i64 g1_xid)] h Q
/-- livery/siread.one -/
def S_siread_one (g0_xid : Int) (h : Hp) (Q : List Value → Hp → Prop) : Prop := Fn PP 104 #[(Value.int .i64 g0_xid)] h Q
/-- (livery/siread.Thing).fine -/
def S_siread_Thing_fine (g0_x_0 : Int) (g0_x_1 : ByteArray) (g0_x_2 : Int) (g0_x_3 : ByteArray) (g0_x_4 : Int) (h : Hp) (Q : List Value → Hp → Prop) : Prop := Fn PP 108 #[(Value.agg #[(Value.int .i64 g0_x_0), (Value.string g0_x_1), (Value.int .i64 g0_x_2), (Value.string g0_x_3), (Value.int .i64 g0_x_4)])] h Q
/-- (livery/siread.Thing).rel -/
def S_siread_Thing_rel (g0_x_0 : Int) (g0_x_1 : ByteArray) (g0_x_2 : Int) (g0_x_3 : ByteArray) (g0_x_4 : Int) (h : Hp) (Q : List Value → Hp → Prop) : Prop := Fn PP 109 #[(Value.agg #[(Value.int .i64 g0_x_0), (Value.string g0_x_1), (Value.int .i64 g0_x_2), (Value.string g0_x_3), (Value.int .i64 g0_x_4)])] h Q
/-- slices.AppendSeq[[]livery/siread.Thing,livery/siread.Thing] -/
def S_slices_AppendSeq_ssiread_Thing_siread_Thing (g0_s : Sl) (g1_seq_f : Nat) (g1_seq_c : Array Value) (h : Hp) (Q : List Value → Hp → Prop) : Prop := Fn PP 156 #[(Value.slice g0_s.a g0_s.n g0_s.c), (Value.func (.func g1_seq_f) #[] g1_seq_c)] h Q
/-- slices.Collect[livery/siread.Thing] -/
def S_slices_Collect_siread_Thing (g0_seq_f : Nat) (g0_seq_c : Array Value) (h : Hp) (Q : List Value → Hp → Prop) : Prop := Fn PP 126 #[(Value.func (.func g0_seq_f) #[] g0_seq_c)] h Q
/-- math/bits.Len64 -/
def S_math_bits_Len64 (g0_x : Int) (h : Hp) (Q : List Value → Hp → Prop) : Prop := Fn PP 173 #[(Value.int .u64 g0_x)] h Q
/-- math/bits.Len -/
def S_math_bits_Len (g0_x : Int) (h : Hp) (Q : List Value → Hp → Prop) : Prop := Fn PP 155 #[(Value.int .u64 g0_x)] h Q
/-- slices.insertionSortCmpFunc[livery/siread.Thing] -/
def S_slices_insertionSortCmpFunc_siread_Thing (g0_data : Sl) (g1_a : Int) (g2_b : Int) (g3_cmp_f : Nat) (g3_cmp_c : Array Value) (h : Hp) (Q : List Value → Hp → Prop) : Prop := Fn PP 174 #[(Value.slice g0_data.a g0_data.n g0_data.c), (Value.int .i64 g1_a), (Value.int .i64 g2_b), (Value.func (.func g3_cmp_f) #[] g3_cmp_c)] h Q
/-- slices.siftDownCmpFunc[livery/siread.Thing] -/
def S_slices_siftDownCmpFunc_siread_Thing (g0_data : Sl) (g1_lo : Int) (g2_hi : Int) (g3_first : Int) (g4_cmp_f : Nat) (g4_cmp_c : Array Value) (h : Hp) (Q : List Value → Hp → Prop) : Prop := Fn PP 197 #[(Value.slice g0_data.a g0_data.n g0_data.c), (Value.int .i64 g1_lo), (Value.int .i64 g2_hi), (Value.int .i64 g3_first), (Value.func (.func g4_cmp_f) #[] g4_cmp_c)] h Q
/-- slices.heapSortCmpFunc[livery/siread.Thing] -/
def S_slices_heapSortCmpFunc_siread_Thing (g0_data : Sl) (g1_a : Int) (g2_b : Int) (g3_cmp_f : Nat) (g3_cmp_c : Array Value) (h : Hp) (Q : List Value → Hp → Prop) : Prop := Fn PP 175 #[(Value.slice g0_data.a g0_data.n g0_data.c), (Value.int .i64 g1_a), (Value.int .i64 g2_b), (Value.func (.func g3_cmp_f) #[] g3_cmp_c)] h Q
/-- slices.nextPowerOfTwo -/
def S_slices_nextPowerOfTwo (g0_length : Int) (h : Hp) (Q : List Value → Hp → Prop) : Prop := Fn PP 193 #[(Value.int .i64 g0_length)] h Q
/-- (*slices.xorshift).Next -/
def S_slices_xorshift_Next (g0_r : Option Addr) (h : Hp) (Q : List Value → Hp → Prop) : Prop := Fn PP 194 #[(Value.pointer g0_r)] h Q
/-- slices.breakPatternsCmpFunc[livery/siread.Thing] -/
def S_slices_breakPatternsCmpFunc_siread_Thing (g0_data : Sl) (g1_a : Int) (g2_b : Int) (g3_cmp_f : Nat) (g3_cmp_c : Array Value) (h : Hp) (Q : List Value → Hp → Prop) : Prop := Fn PP 176 #[(Value.slice g0_data.a g0_data.n g0_data.c), (Value.int .i64 g1_a), (Value.int .i64 g2_b), (Value.func (.func g3_cmp_f) #[] g3_cmp_c)] h Q
/-- slices.order2CmpFunc[livery/siread.Thing] -/
def S_slices_order2CmpFunc_siread_Thing (g0_data : Sl) (g1_a : Int) (g2_b : Int) (g3_swaps : Option Addr) (g4_cmp_f : Nat) (g4_cmp_c : Array Value) (h : Hp) (Q : List Value → Hp → Prop) : Prop := Fn PP 204 #[(Value.slice g0_data.a g0_data.n g0_data.c), (Value.int .i64 g1_a), (Value.int .i64 g2_b), (Value.pointer g3_swaps), (Value.func (.func g4_cmp_f) #[] g4_cmp_c)] h Q
/-- slices.medianCmpFunc[livery/siread.Thing] -/
def S_slices_medianCmpFunc_siread_Thing (g0_data : Sl) (g1_a : Int) (g2_b : Int) (g3_c : Int) (g4_swaps : Option Addr) (g5_cmp_f : Nat) (g5_cmp_c : Array Value) (h : Hp) (Q : List Value → Hp → Prop) : Prop := Fn PP 199 #[(Value.slice g0_data.a g0_data.n g0_data.c), (Value.int .i64 g1_a), (Value.int .i64 g2_b), (Value.int .i64 g3_c), (Value.pointer g4_swaps), (Value.func (.func g5_cmp_f) #[] g5_cmp_c)] h Q
/-- slices.medianAdjacentCmpFunc[livery/siread.Thing] -/
def S_slices_medianAdjacentCmpFunc_siread_Thing (g0_data : Sl) (g1_a : Int) (g2_swaps : Option Addr) (g3_cmp_f : Nat) (g3_cmp_c : Array Value) (h : Hp) (Q : List Value → Hp → Prop) : Prop := Fn PP 198 #[(Value.slice g0_data.a g0_data.n g0_data.c), (Value.int .i64 g1_a), (Value.pointer g2_swaps), (Value.func (.func g3_cmp_f) #[] g3_cmp_c)] h Q
/-- slices.choosePivotCmpFunc[livery/siread.Thing] -/
def S_slices_choosePivotCmpFunc_siread_Thing (g0_data : Sl) (g1_a : Int) (g2_b : Int) (g3_cmp_f : Nat) (g3_cmp_c : Array Value) (h : Hp) (Q : List Value → Hp → Prop) : Prop := Fn PP 177 #[(Value.slice g0_data.a g0_data.n g0_data.c), (Value.int .i64 g1_a), (Value.int .i64 g2_b), (Value.func (.func g3_cmp_f) #[] g3_cmp_c)] h Q
/-- slices.reverseRangeCmpFunc[livery/siread.Thing] -/
def S_slices_reverseRangeCmpFunc_siread_Thing (g0_data : Sl) (g1_a : Int) (g2_b : Int) (g3_cmp_f : Nat) (g3_cmp_c : Array Value) (h : Hp) (Q : List Value → Hp → Prop) : Prop := Fn PP 178 #[(Value.slice g0_data.a g0_data.n g0_data.c), (Value.int .i64 g1_a), (Value.int .i64 g2_b), (Value.func (.func g3_cmp_f) #[] g3_cmp_c)] h Q
/-- slices.partialInsertionSortCmpFunc[livery/siread.Thing] -/
def S_slices_partialInsertionSortCmpFunc_siread_Thing (g0_data : Sl) (g1_a : Int) (g2_b : Int) (g3_cmp_f : Nat) (g3_cmp_c : Array Value) (h : Hp) (Q : List Value → Hp → Prop) : Prop := Fn PP 179 #[(Value.slice g0_data.a g0_data.n g0_data.c), (Value.int .i64 g1_a), (Value.int .i64 g2_b), (Value.func (.func g3_cmp_f) #[] g3_cmp_c)] h Q
/-- slices.partitionEqualCmpFunc[livery/siread.Thing] -/
def S_slices_partitionEqualCmpFunc_siread_Thing (g0_data : Sl) (g1_a : Int) (g2_b : Int) (g3_pivot : Int) (g4_cmp_f : Nat) (g4_cmp_c : Array Value) (h : Hp) (Q : List Value → Hp → Prop) : Prop := Fn PP 180 #[(Value.slice g0_data.a g0_data.n g0_data.c), (Value.int .i64 g1_a), (Value.int .i64 g2_b), (Value.int .i64 g3_pivot), (Value.func (.func g4_cmp_f) #[] g4_cmp_c)] h Q
/-- slices.partitionCmpFunc[livery/siread.Thing] -/
def S_slices_partitionCmpFunc_siread_Thing (g0_data : Sl) (g1_a : Int) (g2_b : Int) (g3_pivot : Int) (g4_cmp_f : Nat) (g4_cmp_c : Array Value) (h : Hp) (Q : List Value → Hp → Prop) : Prop := Fn PP 181 #[(Value.slice g0_data.a g0_data.n g0_data.c), (Value.int .i64 g1_a), (Value.int .i64 g2_b), (Value.int .i64 g3_pivot), (Value.func (.func g4_cmp_f) #[] g4_cmp_c)] h Q
/-- slices.pdqsortCmpFunc[livery/siread.Thing] -/
def S_slices_pdqsortCmpFunc_siread_Thing (g0_data : Sl) (g1_a : Int) (g2_b : Int) (g3_limit : Int) (g4_cmp_f : Nat) (g4_cmp_c : Array Value) (h : Hp) (Q : List Value → Hp → Prop) : Prop := Fn PP 157 #[(Value.slice g0_data.a g0_data.n g0_data.c), (Value.int .i64 g1_a), (Value.int .i64 g2_b), (Value.int .i64 g3_limit), (Value.func (.func g4_cmp_f) #[] g4_cmp_c)] h Q
/-- slices.SortFunc[[]livery/siread.Thing,livery/siread.Thing] -/
def S_slices_SortFunc_ssiread_Thing_siread_Thing (g0_x : Sl) (g1_cmp_f : Nat) (g1_cmp_c : Array Value) (h : Hp) (Q : List Value → Hp → Prop) : Prop := Fn PP 127 #[(Value.slice g0_x.a g0_x.n g0_x.c), (Value.func (.func g1_cmp_f) #[] g1_cmp_c)] h Q
/-- slices.SortedFunc[livery/siread.Thing] -/
def S_slices_SortedFunc_siread_Thing (g0_seq_f : Nat) (g0_seq_c : Array Value) (g1_cmp_f : Nat) (g1_cmp_c : Array Value) (h : Hp) (Q : List Value → Hp → Prop) : Prop := Fn PP 76 #[(Value.func (.func g0_seq_f) #[] g0_seq_c), (Value.func (.func g1_cmp_f) #[] g1_cmp_c)] h Q
/-- maps.Keys[map[livery/siread.Thing]int,livery/siread.Thing,int] -/
def S_maps_Keys_map_siread_Thing_int_siread_Thing_int (g0_m : Option Nat) (h : Hp) (Q : List Value → Hp → Prop) : Prop := Fn PP 77 #[(Value.map g0_m)] h Q
/-- (*livery/siread.Table).Of -/
def S_siread_Table_Of (g0_t : Option Addr) (g1_xid : Int) (h : Hp) (Q : List Value → Hp → Prop) : Prop := Fn PP 30 #[(Value.pointer g0_t), (Value.int .i64 g1_xid)] h Q
/-- (*livery/siread.Table).lose -/
def S_siread_Table_lose (g0_t : Option Addr) (g1_owner : Int) (g2_such_f : Nat) (g2_such_c : Array Value) (h : Hp) (Q : List Value → Hp → Prop) : Prop := Fn PP 118 #[(Value.pointer g0_t), (Value.int .i64 g1_owner), (Value.func (.func g2_such_f) #[] g2_such_c)] h Q
/-- (*livery/siread.Table).count -/
def S_siread_Table_count (g0_t : Option Addr) (g1_owner : Int) (g2_rel : Int) (h : Hp) (Q : List Value → Hp → Prop) : Prop := Fn PP 149 #[(Value.pointer g0_t), (Value.int .i64 g1_owner), (Value.int .i64 g2_rel)] h Q
/-- (*livery/siread.Table).take -/
def S_siread_Table_take (g0_t : Option Addr) (g1_owner : Int) (g2_x_0 : Int) (g2_x_1 : ByteArray) (g2_x_2 : Int) (g2_x_3 : ByteArray) (g2_x_4 : Int) (h : Hp) (Q : List Value → Hp → Prop) : Prop := Fn PP 105 #[(Value.pointer g0_t), (Value.int .i64 g1_owner), (Value.agg #[(Value.int .i64 g2_x_0), (Value.string g2_x_1), (Value.int .i64 g2_x_2), (Value.string g2_x_3), (Value.int .i64 g2_x_4)])] h Q
/-- (*livery/siread.Table).Take -/
def S_siread_Table_Take (g0_t : Option Addr) (g1_xid : Int) (g2_x_0 : Int) (g2_x_1 : ByteArray) (g2_x_2 : Int) (g2_x_3 : ByteArray) (g2_x_4 : Int) (h : Hp) (Q : List Value → Hp → Prop) : Prop := Fn PP 55 #[(Value.pointer g0_t), (Value.int .i64 g1_xid), (Value.agg #[(Value.int .i64 g2_x_0), (Value.string g2_x_1), (Value.int .i64 g2_x_2), (Value.string g2_x_3), (Value.int .i64 g2_x_4)])] h Q
/-- (*livery/ssi.Ssi).Read -/
def S_ssi_Ssi_Read (g0_s : Option Addr) (g1_xid : Int) (g2_x_0 : Int) (g2_x_1 : ByteArray) (g2_x_2 : Int) (g2_x_3 : ByteArray) (g2_x_4 : Int) (h : Hp) (Q : List Value → Hp → Prop) : Prop := Fn PP 14 #[(Value.pointer g0_s), (Value.int .i64 g1_xid), (Value.agg #[(Value.int .i64 g2_x_0), (Value.string g2_x_1), (Value.int .i64 g2_x_2), (Value.string g2_x_3), (Value.int .i64 g2_x_4)])] h Q
/-- (*livery/siread.Table).Old -/
def S_siread_Table_Old (g0_t : Option Addr) (h : Hp) (Q : List Value → Hp → Prop) : Prop := Fn PP 37 #[(Value.pointer g0_t)] h Q
/-- cmp.isNaN[int] -/
def S_cmp_isNaN_int (g0_x : Int) (h : Hp) (Q : List Value → Hp → Prop) : Prop := Fn PP 125 #[(Value.int .i64 g0_x)] h Q
/-- cmp.Less[int] -/
def S_cmp_Less_int (g0_x : Int) (g1_y : Int) (h : Hp) (Q : List Value → Hp → Prop) : Prop := Fn PP 188 #[(Value.int .i64 g0_x), (Value.int .i64 g1_y)] h Q
/-- slices.insertionSortOrdered[int] -/
def S_slices_insertionSortOrdered_int (g0_data : Sl) (g1_a : Int) (g2_b : Int) (h : Hp) (Q : List Value → Hp → Prop) : Prop := Fn PP 182 #[(Value.slice g0_data.a g0_data.n g0_data.c), (Value.int .i64 g1_a), (Value.int .i64 g2_b)] h Q
/-- slices.siftDownOrdered[int] -/
def S_slices_siftDownOrdered_int (g0_data : Sl) (g1_lo : Int) (g2_hi : Int) (g3_first : Int) (h : Hp) (Q : List Value → Hp → Prop) : Prop := Fn PP 200 #[(Value.slice g0_data.a g0_data.n g0_data.c), (Value.int .i64 g1_lo), (Value.int .i64 g2_hi), (Value.int .i64 g3_first)] h Q
/-- slices.heapSortOrdered[int] -/
def S_slices_heapSortOrdered_int (g0_data : Sl) (g1_a : Int) (g2_b : Int) (h : Hp) (Q : List Value → Hp → Prop) : Prop := Fn PP 183 #[(Value.slice g0_data.a g0_data.n g0_data.c), (Value.int .i64 g1_a), (Value.int .i64 g2_b)] h Q
/-- slices.breakPatternsOrdered[int] -/
def S_slices_breakPatternsOrdered_int (g0_data : Sl) (g1_a : Int) (g2_b : Int) (h : Hp) (Q : List Value → Hp → Prop) : Prop := Fn PP 184 #[(Value.slice g0_data.a g0_data.n g0_data.c), (Value.int .i64 g1_a), (Value.int .i64 g2_b)] h Q
/-- slices.order2Ordered[int] -/
def S_slices_order2Ordered_int (g0_data : Sl) (g1_a : Int) (g2_b : Int) (g3_swaps : Option Addr) (h : Hp) (Q : List Value → Hp → Prop) : Prop := Fn PP 205 #[(Value.slice g0_data.a g0_data.n g0_data.c), (Value.int .i64 g1_a), (Value.int .i64 g2_b), (Value.pointer g3_swaps)] h Q
/-- slices.medianOrdered[int] -/
def S_slices_medianOrdered_int (g0_data : Sl) (g1_a : Int) (g2_b : Int) (g3_c : Int) (g4_swaps : Option Addr) (h : Hp) (Q : List Value → Hp → Prop) : Prop := Fn PP 202 #[(Value.slice g0_data.a g0_data.n g0_data.c), (Value.int .i64 g1_a), (Value.int .i64 g2_b), (Value.int .i64 g3_c), (Value.pointer g4_swaps)] h Q
/-- slices.medianAdjacentOrdered[int] -/
def S_slices_medianAdjacentOrdered_int (g0_data : Sl) (g1_a : Int) (g2_swaps : Option Addr) (h : Hp) (Q : List Value → Hp → Prop) : Prop := Fn PP 201 #[(Value.slice g0_data.a g0_data.n g0_data.c), (Value.int .i64 g1_a), (Value.pointer g2_swaps)] h Q
/-- slices.choosePivotOrdered[int] -/
def S_slices_choosePivotOrdered_int (g0_data : Sl) (g1_a : Int) (g2_b : Int) (h : Hp) (Q : List Value → Hp → Prop) : Prop := Fn PP 185 #[(Value.slice g0_data.a g0_data.n g0_data.c), (Value.int .i64 g1_a), (Value.int .i64 g2_b)] h Q
/-- slices.reverseRangeOrdered[int] -/
def S_slices_reverseRangeOrdered_int (g0_data : Sl) (g1_a : Int) (g2_b : Int) (h : Hp) (Q : List Value → Hp → Prop) : Prop := Fn PP 186 #[(Value.slice g0_data.a g0_data.n g0_data.c), (Value.int .i64 g1_a), (Value.int .i64 g2_b)] h Q
/-- slices.partialInsertionSortOrdered[int] -/
def S_slices_partialInsertionSortOrdered_int (g0_data : Sl) (g1_a : Int) (g2_b : Int) (h : Hp) (Q : List Value → Hp → Prop) : Prop := Fn PP 187 #[(Value.slice g0_data.a g0_data.n g0_data.c), (Value.int .i64 g1_a), (Value.int .i64 g2_b)] h Q
/-- slices.partitionEqualOrdered[int] -/
def S_slices_partitionEqualOrdered_int (g0_data : Sl) (g1_a : Int) (g2_b : Int) (g3_pivot : Int) (h : Hp) (Q : List Value → Hp → Prop) : Prop := Fn PP 189 #[(Value.slice g0_data.a g0_data.n g0_data.c), (Value.int .i64 g1_a), (Value.int .i64 g2_b), (Value.int .i64 g3_pivot)] h Q
/-- slices.partitionOrdered[int] -/
def S_slices_partitionOrdered_int (g0_data : Sl) (g1_a : Int) (g2_b : Int) (g3_pivot : Int) (h : Hp) (Q : List Value → Hp → Prop) : Prop := Fn PP 190 #[(Value.slice g0_data.a g0_data.n g0_data.c), (Value.int .i64 g1_a), (Value.int .i64 g2_b), (Value.int .i64 g3_pivot)] h Q
/-- slices.pdqsortOrdered[int] -/
def S_slices_pdqsortOrdered_int (g0_data : Sl) (g1_a : Int) (g2_b : Int) (g3_limit : Int) (h : Hp) (Q : List Value → Hp → Prop) : Prop := Fn PP 159 #[(Value.slice g0_data.a g0_data.n g0_data.c), (Value.int .i64 g1_a), (Value.int .i64 g2_b), (Value.int .i64 g3_limit)] h Q
/-- slices.Sort[[]int,int] -/
def S_slices_Sort_sint_int (g0_x : Sl) (h : Hp) (Q : List Value → Hp → Prop) : Prop := Fn PP 130 #[(Value.slice g0_x.a g0_x.n g0_x.c)] h Q
/-- (*livery/siread.Table).owners -/
def S_siread_Table_owners (g0_t : Option Addr) (g1_such_f : Nat) (g1_such_c : Array Value) (h : Hp) (Q : List Value → Hp → Prop) : Prop := Fn PP 106 #[(Value.pointer g0_t), (Value.func (.func g1_such_f) #[] g1_such_c)] h Q
/-- (*livery/siread.Table).Owners -/
def S_siread_Table_Owners (g0_t : Option Addr) (g1_x_0 : Int) (g1_x_1 : ByteArray) (g1_x_2 : Int) (g1_x_3 : ByteArray) (g1_x_4 : Int) (h : Hp) (Q : List Value → Hp → Prop) : Prop := Fn PP 56 #[(Value.pointer g0_t), (Value.agg #[(Value.int .i64 g1_x_0), (Value.string g1_x_1), (Value.int .i64 g1_x_2), (Value.string g1_x_3), (Value.int .i64 g1_x_4)])] h Q
/-- (*livery/clog.Log).Reads -/
def S_clog_Log_Reads (g0_l : Option Addr) (g1_xid : Int) (h : Hp) (Q : List Value → Hp → Prop) : Prop := Fn PP 20 #[(Value.pointer g0_l), (Value.int .i64 g1_xid)] h Q
/-- (*livery/edge.Edges).none -/
def S_edge_Edges_none (g0_e : Option Addr) (h : Hp) (Q : List Value → Hp → Prop) : Prop := Fn PP 68 #[(Value.pointer g0_e)] h Q
/-- (*livery/edge.Edges).ends -/
def S_edge_Edges_ends (g0_e : Option Addr) (g1_xid : Int) (g2_end : Int) (h : Hp) (Q : List Value → Hp → Prop) : Prop := Fn PP 79 #[(Value.pointer g0_e), (Value.int .i64 g1_xid), (Value.int .i64 g2_end)] h Q
/-- (*livery/edge.Edges).In -/
def S_edge_Edges_In (g0_e : Option Addr) (g1_xid : Int) (h : Hp) (Q : List Value → Hp → Prop) : Prop := Fn PP 32 #[(Value.pointer g0_e), (Value.int .i64 g1_xid)] h Q
/-- (*livery/clog.Log).Csn -/
def S_clog_Log_Csn (g0_l : Option Addr) (g1_xid : Int) (h : Hp) (Q : List Value → Hp → Prop) : Prop := Fn PP 50 #[(Value.pointer g0_l), (Value.int .i64 g1_xid)] h Q
/-- (*livery/clog.Log).Snapshot -/
def S_clog_Log_Snapshot (g0_l : Option Addr) (g1_xid : Int) (h : Hp) (Q : List Value → Hp → Prop) : Prop := Fn PP 111 #[(Value.pointer g0_l), (Value.int .i64 g1_xid)] h Q
/-- (*livery/edge.Edges).Out -/
def S_edge_Edges_Out (g0_e : Option Addr) (g1_xid : Int) (h : Hp) (Q : List Value → Hp → Prop) : Prop := Fn PP 31 #[(Value.pointer g0_e), (Value.int .i64 g1_xid)] h Q
/-- (*livery/edge.Edges).first -/
def S_edge_Edges_first (g0_e : Option Addr) (g1_p : Int) (h : Hp) (Q : List Value → Hp → Prop) : Prop := Fn PP 152 #[(Value.pointer g0_e), (Value.int .i64 g1_p)] h Q
/-- (*livery/edge.Edges).Spoilt -/
def S_edge_Edges_Spoilt (g0_e : Option Addr) (g1_p : Int) (h : Hp) (Q : List Value → Hp → Prop) : Prop := Fn PP 112 #[(Value.pointer g0_e), (Value.int .i64 g1_p)] h Q
/-- (*livery/ssi.Ssi).look -/
def S_ssi_Ssi_look (g0_s : Option Addr) (g1_p : Int) (h : Hp) (Q : List Value → Hp → Prop) : Prop := Fn PP 59 #[(Value.pointer g0_s), (Value.int .i64 g1_p)] h Q
/-- (*livery/clog.Log).Sees -/
def S_clog_Log_Sees (g0_l : Option Addr) (g1_xid : Int) (g2_other : Int) (h : Hp) (Q : List Value → Hp → Prop) : Prop := Fn PP 22 #[(Value.pointer g0_l), (Value.int .i64 g1_xid), (Value.int .i64 g2_other)] h Q
/-- (*livery/clog.Log).Beside -/
def S_clog_Log_Beside (g0_l : Option Addr) (g1_a : Int) (g2_b : Int) (h : Hp) (Q : List Value → Hp → Prop) : Prop := Fn PP 151 #[(Value.pointer g0_l), (Value.int .i64 g1_a), (Value.int .i64 g2_b)] h Q
/-- (*livery/edge.Edges).Add -/
def S_edge_Edges_Add (g0_e : Option Addr) (g1_a : Int) (g2_b : Int) (h : Hp) (Q : List Value → Hp → Prop) : Prop := Fn PP 110 #[(Value.pointer g0_e), (Value.int .i64 g1_a), (Value.int .i64 g2_b)] h Q
/-- (*livery/ssi.Ssi).behind -/
def S_ssi_Ssi_behind (g0_s : Option Addr) (g1_a : Int) (g2_b : Int) (h : Hp) (Q : List Value → Hp → Prop) : Prop := Fn PP 57 #[(Value.pointer g0_s), (Value.int .i64 g1_a), (Value.int .i64 g2_b)] h Q
/-- (*livery/edge.Edges).OldIn -/
def S_edge_Edges_OldIn (g0_e : Option Addr) (g1_b : Int) (g2_csn : Int) (h : Hp) (Q : List Value → Hp → Prop) : Prop := Fn PP 58 #[(Value.pointer g0_e), (Value.int .i64 g1_b), (Value.int .i64 g2_csn)] h Q
/-- (*livery/ssi.Ssi).Wrote -/
def S_ssi_Ssi_Wrote (g0_s : Option Addr) (g1_xid : Int) (g2_x_0 : Int) (g2_x_1 : ByteArray) (g2_x_2 : Int) (g2_x_3 : ByteArray) (g2_x_4 : Int) (h : Hp) (Q : List Value → Hp → Prop) : Prop := Fn PP 15 #[(Value.pointer g0_s), (Value.int .i64 g1_xid), (Value.agg #[(Value.int .i64 g2_x_0), (Value.string g2_x_1), (Value.int .i64 g2_x_2), (Value.string g2_x_3), (Value.int .i64 g2_x_4)])] h Q
/-- (*livery/siread.Table).Drop -/
def S_siread_Table_Drop (g0_t : Option Addr) (g1_xid : Int) (h : Hp) (Q : List Value → Hp → Prop) : Prop := Fn PP 65 #[(Value.pointer g0_t), (Value.int .i64 g1_xid)] h Q
/-- slices.DeleteFunc[[]int,int] -/
def S_slices_DeleteFunc_sint_int (g0_s : Sl) (g1_del_f : Nat) (g1_del_c : Array Value) (h : Hp) (Q : List Value → Hp → Prop) : Prop := Fn PP 114 #[(Value.slice g0_s.a g0_s.n g0_s.c), (Value.func (.func g1_del_f) #[] g1_del_c)] h Q
/-- (*livery/siread.Table).Fold -/
def S_siread_Table_Fold (g0_t : Option Addr) (g1_xid : Int) (g2_csn : Int) (h : Hp) (Q : List Value → Hp → Prop) : Prop := Fn PP 117 #[(Value.pointer g0_t), (Value.int .i64 g1_xid), (Value.int .i64 g2_csn)] h Q
/-- (*livery/ssi.Ssi).clean -/
def S_ssi_Ssi_clean (g0_s : Option Addr) (h : Hp) (Q : List Value → Hp → Prop) : Prop := Fn PP 62 #[(Value.pointer g0_s)] h Q
/-- (*livery/clog.Log).ends -/
def S_clog_Log_ends (g0_l : Option Addr) (g1_xid : Int) (h : Hp) (Q : List Value → Hp → Prop) : Prop := Fn PP 113 #[(Value.pointer g0_l), (Value.int .i64 g1_xid)] h Q
/-- (*livery/clog.Log).Abort -/
def S_clog_Log_Abort (g0_l : Option Addr) (g1_xid : Int) (h : Hp) (Q : List Value → Hp → Prop) : Prop := Fn PP 64 #[(Value.pointer g0_l), (Value.int .i64 g1_xid)] h Q
/-- maps.DeleteFunc[map[[2]int]int,[2]int,int] -/
def S_maps_DeleteFunc_map_2_int_int_2_int_int (g0_m : Option Nat) (g1_del_f : Nat) (g1_del_c : Array Value) (h : Hp) (Q : List Value → Hp → Prop) : Prop := Fn PP 120 #[(Value.map g0_m), (Value.func (.func g1_del_f) #[] g1_del_c)] h Q
/-- (*livery/edge.Edges).Drop -/
def S_edge_Edges_Drop (g0_e : Option Addr) (g1_xid : Int) (h : Hp) (Q : List Value → Hp → Prop) : Prop := Fn PP 66 #[(Value.pointer g0_e), (Value.int .i64 g1_xid)] h Q
/-- (*livery/ssi.Ssi).Abort -/
def S_ssi_Ssi_Abort (g0_s : Option Addr) (g1_xid : Int) (h : Hp) (Q : List Value → Hp → Prop) : Prop := Fn PP 19 #[(Value.pointer g0_s), (Value.int .i64 g1_xid)] h Q
/-- (*livery/ssi.Ssi).Doomed -/
def S_ssi_Ssi_Doomed (g0_s : Option Addr) (g1_xid : Int) (h : Hp) (Q : List Value → Hp → Prop) : Prop := Fn PP 26 #[(Value.pointer g0_s), (Value.int .i64 g1_xid)] h Q
/-- (*livery/edge.Edges).Ahead -/
def S_edge_Edges_Ahead (g0_e : Option Addr) (g1_t3 : Int) (h : Hp) (Q : List Value → Hp → Prop) : Prop := Fn PP 60 #[(Value.pointer g0_e), (Value.int .i64 g1_t3)] h Q
/-- (*livery/clog.Log).Commit -/
def S_clog_Log_Commit (g0_l : Option Addr) (g1_xid : Int) (h : Hp) (Q : List Value → Hp → Prop) : Prop := Fn PP 61 #[(Value.pointer g0_l), (Value.int .i64 g1_xid)] h Q
/-- (*livery/ssi.Ssi).Commit -/
def S_ssi_Ssi_Commit (g0_s : Option Addr) (g1_xid : Int) (h : Hp) (Q : List Value → Hp → Prop) : Prop := Fn PP 16 #[(Value.pointer g0_s), (Value.int .i64 g1_xid)] h Q
/-- livery/liverylaw15.row -/
def S_liverylaw15_row (g0_n : Int) (h : Hp) (Q : List Value → Hp → Prop) : Prop := Fn PP 49 #[(Value.int .i64 g0_n)] h Q
/-- livery/liverylaw15.wakes -/
def S_liverylaw15_wakes (h : Hp) (Q : List Value → Hp → Prop) : Prop := Fn PP 10 #[] h Q
/-- livery/liverykeep.Mod -/
def S_liverykeep_Mod (g0_k : Int) (g1_n : Int) (h : Hp) (Q : List Value → Hp → Prop) : Prop := Fn PP 12 #[(Value.int .i64 g0_k), (Value.int .i64 g1_n)] h Q
/-- livery/liverylaw15.SsiSkew -/
def S_liverylaw15_SsiSkew (g0_x_0 : Int) (g0_x_1 : ByteArray) (g0_x_2 : Int) (g0_x_3 : ByteArray) (g0_x_4 : Int) (g1_y_0 : Int) (g1_y_1 : ByteArray) (g1_y_2 : Int) (g1_y_3 : ByteArray) (g1_y_4 : Int) (g2_others : Int) (h : Hp) (Q : List Value → Hp → Prop) : Prop := Fn PP 3 #[(Value.agg #[(Value.int .i64 g0_x_0), (Value.string g0_x_1), (Value.int .i64 g0_x_2), (Value.string g0_x_3), (Value.int .i64 g0_x_4)]), (Value.agg #[(Value.int .i64 g1_y_0), (Value.string g1_y_1), (Value.int .i64 g1_y_2), (Value.string g1_y_3), (Value.int .i64 g1_y_4)]), (Value.int .u8 g2_others)] h Q
/-- livery/liverylaw15.Fair -/
def S_liverylaw15_Fair (g0_l : Sl) (h : Hp) (Q : List Value → Hp → Prop) : Prop := Fn PP 18 #[(Value.slice g0_l.a g0_l.n g0_l.c)] h Q
/-- (*livery/ssi.Ssi).Saw -/
def S_ssi_Ssi_Saw (g0_s : Option Addr) (g1_xid : Int) (g2_writer : Int) (h : Hp) (Q : List Value → Hp → Prop) : Prop := Fn PP 21 #[(Value.pointer g0_s), (Value.int .i64 g1_xid), (Value.int .i64 g2_writer)] h Q
/-- (*livery/ssi.Ssi).Edges -/
def S_ssi_Ssi_Edges (g0_s : Option Addr) (h : Hp) (Q : List Value → Hp → Prop) : Prop := Fn PP 23 #[(Value.pointer g0_s)] h Q
/-- slices.AppendSeq[[][2]int,[2]int] -/
def S_slices_AppendSeq_s_2_int_2_int (g0_s : Sl) (g1_seq_f : Nat) (g1_seq_c : Array Value) (h : Hp) (Q : List Value → Hp → Prop) : Prop := Fn PP 153 #[(Value.slice g0_s.a g0_s.n g0_s.c), (Value.func (.func g1_seq_f) #[] g1_seq_c)] h Q
/-- slices.Collect[[2]int] -/
def S_slices_Collect_2_int (g0_seq_f : Nat) (g0_seq_c : Array Value) (h : Hp) (Q : List Value → Hp → Prop) : Prop := Fn PP 122 #[(Value.func (.func g0_seq_f) #[] g0_seq_c)] h Q
/-- slices.insertionSortCmpFunc[[2]int] -/
def S_slices_insertionSortCmpFunc_2_int (g0_data : Sl) (g1_a : Int) (g2_b : Int) (g3_cmp_f : Nat) (g3_cmp_c : Array Value) (h : Hp) (Q : List Value → Hp → Prop) : Prop := Fn PP 164 #[(Value.slice g0_data.a g0_data.n g0_data.c), (Value.int .i64 g1_a), (Value.int .i64 g2_b), (Value.func (.func g3_cmp_f) #[] g3_cmp_c)] h Q
/-- slices.siftDownCmpFunc[[2]int] -/
def S_slices_siftDownCmpFunc_2_int (g0_data : Sl) (g1_lo : Int) (g2_hi : Int) (g3_first : Int) (g4_cmp_f : Nat) (g4_cmp_c : Array Value) (h : Hp) (Q : List Value → Hp → Prop) : Prop := Fn PP 192 #[(Value.slice g0_data.a g0_data.n g0_data.c), (Value.int .i64 g1_lo), (Value.int .i64 g2_hi), (Value.int .i64 g3_first), (Value.func (.func g4_cmp_f) #[] g4_cmp_c)] h Q
/-- slices.heapSortCmpFunc[[2]int] -/
def S_slices_heapSortCmpFunc_2_int (g0_data : Sl) (g1_a : Int) (g2_b : Int) (g3_cmp_f : Nat) (g3_cmp_c : Array Value) (h : Hp) (Q : List Value → Hp → Prop) : Prop := Fn PP 165 #[(Value.slice g0_data.a g0_data.n g0_data.c), (Value.int .i64 g1_a), (Value.int .i64 g2_b), (Value.func (.func g3_cmp_f) #[] g3_cmp_c)] h Q
/-- slices.breakPatternsCmpFunc[[2]int] -/
def S_slices_breakPatternsCmpFunc_2_int (g0_data : Sl) (g1_a : Int) (g2_b : Int) (g3_cmp_f : Nat) (g3_cmp_c : Array Value) (h : Hp) (Q : List Value → Hp → Prop) : Prop := Fn PP 166 #[(Value.slice g0_data.a g0_data.n g0_data.c), (Value.int .i64 g1_a), (Value.int .i64 g2_b), (Value.func (.func g3_cmp_f) #[] g3_cmp_c)] h Q
/-- slices.order2CmpFunc[[2]int] -/
def S_slices_order2CmpFunc_2_int (g0_data : Sl) (g1_a : Int) (g2_b : Int) (g3_swaps : Option Addr) (g4_cmp_f : Nat) (g4_cmp_c : Array Value) (h : Hp) (Q : List Value → Hp → Prop) : Prop := Fn PP 203 #[(Value.slice g0_data.a g0_data.n g0_data.c), (Value.int .i64 g1_a), (Value.int .i64 g2_b), (Value.pointer g3_swaps), (Value.func (.func g4_cmp_f) #[] g4_cmp_c)] h Q
/-- slices.medianCmpFunc[[2]int] -/
def S_slices_medianCmpFunc_2_int (g0_data : Sl) (g1_a : Int) (g2_b : Int) (g3_c : Int) (g4_swaps : Option Addr) (g5_cmp_f : Nat) (g5_cmp_c : Array Value) (h : Hp) (Q : List Value → Hp → Prop) : Prop := Fn PP 196 #[(Value.slice g0_data.a g0_data.n g0_data.c), (Value.int .i64 g1_a), (Value.int .i64 g2_b), (Value.int .i64 g3_c), (Value.pointer g4_swaps), (Value.func (.func g5_cmp_f) #[] g5_cmp_c)] h Q
/-- slices.medianAdjacentCmpFunc[[2]int] -/
def S_slices_medianAdjacentCmpFunc_2_int (g0_data : Sl) (g1_a : Int) (g2_swaps : Option Addr) (g3_cmp_f : Nat) (g3_cmp_c : Array Value) (h : Hp) (Q : List Value → Hp → Prop) : Prop := Fn PP 195 #[(Value.slice g0_data.a g0_data.n g0_data.c), (Value.int .i64 g1_a), (Value.pointer g2_swaps), (Value.func (.func g3_cmp_f) #[] g3_cmp_c)] h Q
/-- slices.choosePivotCmpFunc[[2]int] -/
def S_slices_choosePivotCmpFunc_2_int (g0_data : Sl) (g1_a : Int) (g2_b : Int) (g3_cmp_f : Nat) (g3_cmp_c : Array Value) (h : Hp) (Q : List Value → Hp → Prop) : Prop := Fn PP 167 #[(Value.slice g0_data.a g0_data.n g0_data.c), (Value.int .i64 g1_a), (Value.int .i64 g2_b), (Value.func (.func g3_cmp_f) #[] g3_cmp_c)] h Q
/-- slices.reverseRangeCmpFunc[[2]int] -/
def S_slices_reverseRangeCmpFunc_2_int (g0_data : Sl) (g1_a : Int) (g2_b : Int) (g3_cmp_f : Nat) (g3_cmp_c : Array Value) (h : Hp) (Q : List Value → Hp → Prop) : Prop := Fn PP 168 #[(Value.slice g0_data.a g0_data.n g0_data.c), (Value.int .i64 g1_a), (Value.int .i64 g2_b), (Value.func (.func g3_cmp_f) #[] g3_cmp_c)] h Q
/-- slices.partialInsertionSortCmpFunc[[2]int] -/
def S_slices_partialInsertionSortCmpFunc_2_int (g0_data : Sl) (g1_a : Int) (g2_b : Int) (g3_cmp_f : Nat) (g3_cmp_c : Array Value) (h : Hp) (Q : List Value → Hp → Prop) : Prop := Fn PP 169 #[(Value.slice g0_data.a g0_data.n g0_data.c), (Value.int .i64 g1_a), (Value.int .i64 g2_b), (Value.func (.func g3_cmp_f) #[] g3_cmp_c)] h Q
/-- slices.partitionEqualCmpFunc[[2]int] -/
def S_slices_partitionEqualCmpFunc_2_int (g0_data : Sl) (g1_a : Int) (g2_b : Int) (g3_pivot : Int) (g4_cmp_f : Nat) (g4_cmp_c : Array Value) (h : Hp) (Q : List Value → Hp → Prop) : Prop := Fn PP 170 #[(Value.slice g0_data.a g0_data.n g0_data.c), (Value.int .i64 g1_a), (Value.int .i64 g2_b), (Value.int .i64 g3_pivot), (Value.func (.func g4_cmp_f) #[] g4_cmp_c)] h Q
/-- slices.partitionCmpFunc[[2]int] -/
def S_slices_partitionCmpFunc_2_int (g0_data : Sl) (g1_a : Int) (g2_b : Int) (g3_pivot : Int) (g4_cmp_f : Nat) (g4_cmp_c : Array Value) (h : Hp) (Q : List Value → Hp → Prop) : Prop := Fn PP 171 #[(Value.slice g0_data.a g0_data.n g0_data.c), (Value.int .i64 g1_a), (Value.int .i64 g2_b), (Value.int .i64 g3_pivot), (Value.func (.func g4_cmp_f) #[] g4_cmp_c)] h Q
/-- slices.pdqsortCmpFunc[[2]int] -/
def S_slices_pdqsortCmpFunc_2_int (g0_data : Sl) (g1_a : Int) (g2_b : Int) (g3_limit : Int) (g4_cmp_f : Nat) (g4_cmp_c : Array Value) (h : Hp) (Q : List Value → Hp → Prop) : Prop := Fn PP 154 #[(Value.slice g0_data.a g0_data.n g0_data.c), (Value.int .i64 g1_a), (Value.int .i64 g2_b), (Value.int .i64 g3_limit), (Value.func (.func g4_cmp_f) #[] g4_cmp_c)] h Q
/-- slices.SortFunc[[][2]int,[2]int] -/
def S_slices_SortFunc_s_2_int_2_int (g0_x : Sl) (g1_cmp_f : Nat) (g1_cmp_c : Array Value) (h : Hp) (Q : List Value → Hp → Prop) : Prop := Fn PP 123 #[(Value.slice g0_x.a g0_x.n g0_x.c), (Value.func (.func g1_cmp_f) #[] g1_cmp_c)] h Q
/-- slices.SortedFunc[[2]int] -/
def S_slices_SortedFunc_2_int (g0_seq_f : Nat) (g0_seq_c : Array Value) (g1_cmp_f : Nat) (g1_cmp_c : Array Value) (h : Hp) (Q : List Value → Hp → Prop) : Prop := Fn PP 69 #[(Value.func (.func g0_seq_f) #[] g0_seq_c), (Value.func (.func g1_cmp_f) #[] g1_cmp_c)] h Q
/-- maps.Keys[map[[2]int]int,[2]int,int] -/
def S_maps_Keys_map_2_int_int_2_int_int (g0_m : Option Nat) (h : Hp) (Q : List Value → Hp → Prop) : Prop := Fn PP 70 #[(Value.map g0_m)] h Q
/-- (*livery/edge.Edges).All -/
def S_edge_Edges_All (g0_e : Option Addr) (h : Hp) (Q : List Value → Hp → Prop) : Prop := Fn PP 24 #[(Value.pointer g0_e)] h Q
/-- livery/liverylaw15.SsiCircles -/
def S_liverylaw15_SsiCircles (g0_n_0 : Int) (g0_n_1 : Int) (g0_n_2 : Int) (g1_steps : Sl) (h : Hp) (Q : List Value → Hp → Prop) : Prop := Fn PP 4 #[(Value.agg #[(Value.int .u8 g0_n_0), (Value.int .u8 g0_n_1), (Value.int .u8 g0_n_2)]), (Value.slice g1_steps.a g1_steps.n g1_steps.c)] h Q
/-- (*livery/ssi.Ssi).Safe -/
def S_ssi_Ssi_Safe (g0_s : Option Addr) (g1_xid : Int) (h : Hp) (Q : List Value → Hp → Prop) : Prop := Fn PP 27 #[(Value.pointer g0_s), (Value.int .i64 g1_xid)] h Q
/-- (*livery/ssi.Ssi).Table -/
def S_ssi_Ssi_Table (g0_s : Option Addr) (h : Hp) (Q : List Value → Hp → Prop) : Prop := Fn PP 28 #[(Value.pointer g0_s)] h Q
/-- livery/liverylaw15.SsiNone -/
def S_liverylaw15_SsiNone (g0_x_0 : Int) (g0_x_1 : Int) (g0_x_2 : Int) (g0_x_3 : Bool) (g0_x_4 : Int) (g0_x_5 : ByteArray) (g0_x_6 : Int) (g0_x_7 : ByteArray) (g0_x_8 : Int) (h : Hp) (Q : List Value → Hp → Prop) : Prop := Fn PP 5 #[(Value.agg #[(Value.int .i64 g0_x_0), (Value.int .i64 g0_x_1), (Value.int .i64 g0_x_2), (Value.bool g0_x_3), (Value.int .i64 g0_x_4), (Value.string g0_x_5), (Value.int .i64 g0_x_6), (Value.string g0_x_7), (Value.int .i64 g0_x_8)])] h Q
/-- livery/liverylaw15.SsiSafe -/
def S_liverylaw15_SsiSafe (g0_steps : Sl) (g1_others : Int) (h : Hp) (Q : List Value → Hp → Prop) : Prop := Fn PP 6 #[(Value.slice g0_steps.a g0_steps.n g0_steps.c), (Value.int .u8 g1_others)] h Q
/-- (*livery/siread.Table).Has -/
def S_siread_Table_Has (g0_t : Option Addr) (g1_xid : Int) (g2_x_0 : Int) (g2_x_1 : ByteArray) (g2_x_2 : Int) (g2_x_3 : ByteArray) (g2_x_4 : Int) (h : Hp) (Q : List Value → Hp → Prop) : Prop := Fn PP 33 #[(Value.pointer g0_t), (Value.int .i64 g1_xid), (Value.agg #[(Value.int .i64 g2_x_0), (Value.string g2_x_1), (Value.int .i64 g2_x_2), (Value.string g2_x_3), (Value.int .i64 g2_x_4)])] h Q
/-- livery/liverykeep.Ints -/
def S_liverykeep_Ints (g0_a : Sl) (g1_b : Sl) (h : Hp) (Q : List Value → Hp → Prop) : Prop := Fn PP 34 #[(Value.slice g0_a.a g0_a.n g0_a.c), (Value.slice g1_b.a g1_b.n g1_b.c)] h Q
/-- livery/liverylaw15.boolInt -/
def S_liverylaw15_boolInt (g0_b : Bool) (h : Hp) (Q : List Value → Hp → Prop) : Prop := Fn PP 35 #[(Value.bool g0_b)] h Q
/-- livery/liverylaw15.SsiLate -/
def S_liverylaw15_SsiLate (g0_x_0 : Int) (g0_x_1 : ByteArray) (g0_x_2 : Int) (g0_x_3 : ByteArray) (g0_x_4 : Int) (g1_commit : Bool) (h : Hp) (Q : List Value → Hp → Prop) : Prop := Fn PP 7 #[(Value.agg #[(Value.int .i64 g0_x_0), (Value.string g0_x_1), (Value.int .i64 g0_x_2), (Value.string g0_x_3), (Value.int .i64 g0_x_4)]), (Value.bool g1_commit)] h Q
/-- (*livery/siread.Table).Fine -/
def S_siread_Table_Fine (g0_t : Option Addr) (h : Hp) (Q : List Value → Hp → Prop) : Prop := Fn PP 36 #[(Value.pointer g0_t)] h Q
/-- livery/liverylaw15.SsiAlone -/
def S_liverylaw15_SsiAlone (g0_n_0 : Int) (g0_n_1 : Int) (g0_n_2 : Int) (g1_steps : Sl) (h : Hp) (Q : List Value → Hp → Prop) : Prop := Fn PP 8 #[(Value.agg #[(Value.int .u8 g0_n_0), (Value.int .u8 g0_n_1), (Value.int .u8 g0_n_2)]), (Value.slice g1_steps.a g1_steps.n g1_steps.c)] h Q
/-- livery/liveryref13.New -/
def S_liveryref13_New (g0_each : Int) (g1_all : Int) (h : Hp) (Q : List Value → Hp → Prop) : Prop := Fn PP 80 #[(Value.int .i64 g0_each), (Value.int .i64 g1_all)] h Q
/-- livery/liveryref15.New -/
def S_liveryref15_New (g0_l : Option Addr) (g1_each : Int) (g2_all : Int) (g3_keep : Int) (h : Hp) (Q : List Value → Hp → Prop) : Prop := Fn PP 40 #[(Value.pointer g0_l), (Value.int .i64 g1_each), (Value.int .i64 g2_all), (Value.int .i64 g3_keep)] h Q
/-- (*livery/liveryref08.Log).Running -/
def S_liveryref08_Log_Running (g0_l : Option Addr) (h : Hp) (Q : List Value → Hp → Prop) : Prop := Fn PP 81 #[(Value.pointer g0_l)] h Q
/-- (*livery/liveryref08.Log).Get -/
def S_liveryref08_Log_Get (g0_l : Option Addr) (g1_xid : Int) (h : Hp) (Q : List Value → Hp → Prop) : Prop := Fn PP 82 #[(Value.pointer g0_l), (Value.int .i64 g1_xid)] h Q
/-- (*livery/liveryref08.Log).Begin -/
def S_liveryref08_Log_Begin (g0_l : Option Addr) (g1_reads : Bool) (h : Hp) (Q : List Value → Hp → Prop) : Prop := Fn PP 83 #[(Value.pointer g0_l), (Value.bool g1_reads)] h Q
/-- (*livery/liveryref15.Ssi).Begin -/
def S_liveryref15_Ssi_Begin (g0_s : Option Addr) (g1_reads : Bool) (h : Hp) (Q : List Value → Hp → Prop) : Prop := Fn PP 41 #[(Value.pointer g0_s), (Value.bool g1_reads)] h Q
/-- (*livery/liveryref15.Ssi).runs -/
def S_liveryref15_Ssi_runs (g0_s : Option Addr) (g1_xid : Int) (h : Hp) (Q : List Value → Hp → Prop) : Prop := Fn PP 84 #[(Value.pointer g0_s), (Value.int .i64 g1_xid)] h Q
/-- (*livery/liveryref13.Table).Drop -/
def S_liveryref13_Table_Drop (g0_t : Option Addr) (g1_xid : Int) (h : Hp) (Q : List Value → Hp → Prop) : Prop := Fn PP 91 #[(Value.pointer g0_t), (Value.int .i64 g1_xid)] h Q
/-- livery/liveryref13.ahead -/
def S_liveryref13_ahead (g0_a_0 : Int) (g0_a_1 : ByteArray) (g0_a_2 : Int) (g0_a_3 : ByteArray) (g0_a_4 : Int) (g1_b_0 : Int) (g1_b_1 : ByteArray) (g1_b_2 : Int) (g1_b_3 : ByteArray) (g1_b_4 : Int) (h : Hp) (Q : List Value → Hp → Prop) : Prop := Fn PP 143 #[(Value.agg #[(Value.int .i64 g0_a_0), (Value.string g0_a_1), (Value.int .i64 g0_a_2), (Value.string g0_a_3), (Value.int .i64 g0_a_4)]), (Value.agg #[(Value.int .i64 g1_b_0), (Value.string g1_b_1), (Value.int .i64 g1_b_2), (Value.string g1_b_3), (Value.int .i64 g1_b_4)])] h Q
/-- (*livery/liveryref13.Table).Of -/
def S_liveryref13_Table_Of (g0_t : Option Addr) (g1_xid : Int) (h : Hp) (Q : List Value → Hp → Prop) : Prop := Fn PP 99 #[(Value.pointer g0_t), (Value.int .i64 g1_xid)] h Q
/-- livery/liveryref13.kind -/
def S_liveryref13_kind (g0_x_0 : Int) (g0_x_1 : ByteArray) (g0_x_2 : Int) (g0_x_3 : ByteArray) (g0_x_4 : Int) (h : Hp) (Q : List Value → Hp → Prop) : Prop := Fn PP 135 #[(Value.agg #[(Value.int .i64 g0_x_0), (Value.string g0_x_1), (Value.int .i64 g0_x_2), (Value.string g0_x_3), (Value.int .i64 g0_x_4)])] h Q
/-- livery/liveryref13.fine -/
def S_liveryref13_fine (g0_x_0 : Int) (g0_x_1 : ByteArray) (g0_x_2 : Int) (g0_x_3 : ByteArray) (g0_x_4 : Int) (h : Hp) (Q : List Value → Hp → Prop) : Prop := Fn PP 137 #[(Value.agg #[(Value.int .i64 g0_x_0), (Value.string g0_x_1), (Value.int .i64 g0_x_2), (Value.string g0_x_3), (Value.int .i64 g0_x_4)])] h Q
/-- livery/liveryref13.rel -/
def S_liveryref13_rel (g0_x_0 : Int) (g0_x_1 : ByteArray) (g0_x_2 : Int) (g0_x_3 : ByteArray) (g0_x_4 : Int) (h : Hp) (Q : List Value → Hp → Prop) : Prop := Fn PP 138 #[(Value.agg #[(Value.int .i64 g0_x_0), (Value.string g0_x_1), (Value.int .i64 g0_x_2), (Value.string g0_x_3), (Value.int .i64 g0_x_4)])] h Q
/-- (*livery/liveryref13.Table).Fine -/
def S_liveryref13_Table_Fine (g0_t : Option Addr) (h : Hp) (Q : List Value → Hp → Prop) : Prop := Fn PP 146 #[(Value.pointer g0_t)] h Q
/-- (*livery/liveryref13.Table).Has -/
def S_liveryref13_Table_Has (g0_t : Option Addr) (g1_owner : Int) (g2_x_0 : Int) (g2_x_1 : ByteArray) (g2_x_2 : Int) (g2_x_3 : ByteArray) (g2_x_4 : Int) (h : Hp) (Q : List Value → Hp → Prop) : Prop := Fn PP 160 #[(Value.pointer g0_t), (Value.int .i64 g1_owner), (Value.agg #[(Value.int .i64 g2_x_0), (Value.string g2_x_1), (Value.int .i64 g2_x_2), (Value.string g2_x_3), (Value.int .i64 g2_x_4)])] h Q
/-- (*livery/liveryref13.Table).take -/
def S_liveryref13_Table_take (g0_t : Option Addr) (g1_owner : Int) (g2_x_0 : Int) (g2_x_1 : ByteArray) (g2_x_2 : Int) (g2_x_3 : ByteArray) (g2_x_4 : Int) (h : Hp) (Q : List Value → Hp → Prop) : Prop := Fn PP 136 #[(Value.pointer g0_t), (Value.int .i64 g1_owner), (Value.agg #[(Value.int .i64 g2_x_0), (Value.string g2_x_1), (Value.int .i64 g2_x_2), (Value.string g2_x_3), (Value.int .i64 g2_x_4)])] h Q
/-- (*livery/liveryref13.Table).Fold -/
def S_liveryref13_Table_Fold (g0_t : Option Addr) (g1_xid : Int) (g2_csn : Int) (h : Hp) (Q : List Value → Hp → Prop) : Prop := Fn PP 134 #[(Value.pointer g0_t), (Value.int .i64 g1_xid), (Value.int .i64 g2_csn)] h Q
/-- (*livery/liveryref15.Ssi).clean -/
def S_liveryref15_Ssi_clean (g0_s : Option Addr) (h : Hp) (Q : List Value → Hp → Prop) : Prop := Fn PP 89 #[(Value.pointer g0_s)] h Q
/-- (*livery/liveryref08.Log).Abort -/
def S_liveryref08_Log_Abort (g0_l : Option Addr) (g1_xid : Int) (h : Hp) (Q : List Value → Hp → Prop) : Prop := Fn PP 90 #[(Value.pointer g0_l), (Value.int .i64 g1_xid)] h Q
/-- (*livery/liveryref14.Edges).Drop -/
def S_liveryref14_Edges_Drop (g0_e : Option Addr) (g1_xid : Int) (h : Hp) (Q : List Value → Hp → Prop) : Prop := Fn PP 92 #[(Value.pointer g0_e), (Value.int .i64 g1_xid)] h Q
/-- (*livery/liveryref15.Ssi).Abort -/
def S_liveryref15_Ssi_Abort (g0_s : Option Addr) (g1_xid : Int) (h : Hp) (Q : List Value → Hp → Prop) : Prop := Fn PP 43 #[(Value.pointer g0_s), (Value.int .i64 g1_xid)] h Q
/-- livery/liveryref15.has -/
def S_liveryref15_has (g0_l : Sl) (g1_n : Int) (h : Hp) (Q : List Value → Hp → Prop) : Prop := Fn PP 131 #[(Value.slice g0_l.a g0_l.n g0_l.c), (Value.int .i64 g1_n)] h Q
/-- (*livery/liveryref15.Ssi).IsDoomed -/
def S_liveryref15_Ssi_IsDoomed (g0_s : Option Addr) (g1_xid : Int) (h : Hp) (Q : List Value → Hp → Prop) : Prop := Fn PP 85 #[(Value.pointer g0_s), (Value.int .i64 g1_xid)] h Q
/-- (*livery/liveryref14.Edges).In -/
def S_liveryref14_Edges_In (g0_e : Option Addr) (g1_xid : Int) (h : Hp) (Q : List Value → Hp → Prop) : Prop := Fn PP 132 #[(Value.pointer g0_e), (Value.int .i64 g1_xid)] h Q
/-- livery/liveryref14.put -/
def S_liveryref14_put (g0_l : Sl) (g1_n : Int) (h : Hp) (Q : List Value → Hp → Prop) : Prop := Fn PP 133 #[(Value.slice g0_l.a g0_l.n g0_l.c), (Value.int .i64 g1_n)] h Q
/-- (*livery/liveryref14.Edges).Ahead -/
def S_liveryref14_Edges_Ahead (g0_e : Option Addr) (g1_t3 : Int) (h : Hp) (Q : List Value → Hp → Prop) : Prop := Fn PP 86 #[(Value.pointer g0_e), (Value.int .i64 g1_t3)] h Q
/-- (*livery/liveryref15.Ssi).doom -/
def S_liveryref15_Ssi_doom (g0_s : Option Addr) (g1_xid : Int) (h : Hp) (Q : List Value → Hp → Prop) : Prop := Fn PP 87 #[(Value.pointer g0_s), (Value.int .i64 g1_xid)] h Q
/-- (*livery/liveryref08.Log).Commit -/
def S_liveryref08_Log_Commit (g0_l : Option Addr) (g1_xid : Int) (h : Hp) (Q : List Value → Hp → Prop) : Prop := Fn PP 88 #[(Value.pointer g0_l), (Value.int .i64 g1_xid)] h Q
/-- (*livery/liveryref15.Ssi).Commit -/
def S_liveryref15_Ssi_Commit (g0_s : Option Addr) (g1_xid : Int) (h : Hp) (Q : List Value → Hp → Prop) : Prop := Fn PP 42 #[(Value.pointer g0_s), (Value.int .i64 g1_xid)] h Q
/-- (*livery/liveryref15.Ssi).Safe -/
def S_liveryref15_Ssi_Safe (g0_s : Option Addr) (g1_xid : Int) (h : Hp) (Q : List Value → Hp → Prop) : Prop := Fn PP 93 #[(Value.pointer g0_s), (Value.int .i64 g1_xid)] h Q
/-- (*livery/liveryref13.Table).Take -/
def S_liveryref13_Table_Take (g0_t : Option Addr) (g1_xid : Int) (g2_x_0 : Int) (g2_x_1 : ByteArray) (g2_x_2 : Int) (g2_x_3 : ByteArray) (g2_x_4 : Int) (h : Hp) (Q : List Value → Hp → Prop) : Prop := Fn PP 94 #[(Value.pointer g0_t), (Value.int .i64 g1_xid), (Value.agg #[(Value.int .i64 g2_x_0), (Value.string g2_x_1), (Value.int .i64 g2_x_2), (Value.string g2_x_3), (Value.int .i64 g2_x_4)])] h Q
/-- (*livery/liveryref15.Ssi).Read -/
def S_liveryref15_Ssi_Read (g0_s : Option Addr) (g1_xid : Int) (g2_x_0 : Int) (g2_x_1 : ByteArray) (g2_x_2 : Int) (g2_x_3 : ByteArray) (g2_x_4 : Int) (h : Hp) (Q : List Value → Hp → Prop) : Prop := Fn PP 44 #[(Value.pointer g0_s), (Value.int .i64 g1_xid), (Value.agg #[(Value.int .i64 g2_x_0), (Value.string g2_x_1), (Value.int .i64 g2_x_2), (Value.string g2_x_3), (Value.int .i64 g2_x_4)])] h Q
/-- livery/liverylaw13.Own -/
def S_liverylaw13_Own (g0_x_0 : Int) (g0_x_1 : ByteArray) (g0_x_2 : Int) (g0_x_3 : ByteArray) (g0_x_4 : Int) (h : Hp) (Q : List Value → Hp → Prop) : Prop := Fn PP 45 #[(Value.agg #[(Value.int .i64 g0_x_0), (Value.string g0_x_1), (Value.int .i64 g0_x_2), (Value.string g0_x_3), (Value.int .i64 g0_x_4)])] h Q
/-- livery/liveryref13.put -/
def S_liveryref13_put (g0_l : Sl) (g1_n : Int) (h : Hp) (Q : List Value → Hp → Prop) : Prop := Fn PP 139 #[(Value.slice g0_l.a g0_l.n g0_l.c), (Value.int .i64 g1_n)] h Q
/-- (*livery/liveryref13.Table).Owners -/
def S_liveryref13_Table_Owners (g0_t : Option Addr) (g1_x_0 : Int) (g1_x_1 : ByteArray) (g1_x_2 : Int) (g1_x_3 : ByteArray) (g1_x_4 : Int) (h : Hp) (Q : List Value → Hp → Prop) : Prop := Fn PP 95 #[(Value.pointer g0_t), (Value.agg #[(Value.int .i64 g1_x_0), (Value.string g1_x_1), (Value.int .i64 g1_x_2), (Value.string g1_x_3), (Value.int .i64 g1_x_4)])] h Q
/-- (*livery/liveryref14.Edges).Old -/
def S_liveryref14_Edges_Old (g0_e : Option Addr) (g1_xid : Int) (h : Hp) (Q : List Value → Hp → Prop) : Prop := Fn PP 140 #[(Value.pointer g0_e), (Value.int .i64 g1_xid)] h Q
/-- (*livery/liveryref14.Edges).OldIn -/
def S_liveryref14_Edges_OldIn (g0_e : Option Addr) (g1_b : Int) (g2_csn : Int) (h : Hp) (Q : List Value → Hp → Prop) : Prop := Fn PP 96 #[(Value.pointer g0_e), (Value.int .i64 g1_b), (Value.int .i64 g2_csn)] h Q
/-- (*livery/liveryref14.Edges).Out -/
def S_liveryref14_Edges_Out (g0_e : Option Addr) (g1_xid : Int) (h : Hp) (Q : List Value → Hp → Prop) : Prop := Fn PP 147 #[(Value.pointer g0_e), (Value.int .i64 g1_xid)] h Q
/-- (*livery/liveryref14.Edges).Spoilt -/
def S_liveryref14_Edges_Spoilt (g0_e : Option Addr) (g1_p : Int) (h : Hp) (Q : List Value → Hp → Prop) : Prop := Fn PP 141 #[(Value.pointer g0_e), (Value.int .i64 g1_p)] h Q
/-- (*livery/liveryref15.Ssi).pivot -/
def S_liveryref15_Ssi_pivot (g0_s : Option Addr) (g1_p : Int) (h : Hp) (Q : List Value → Hp → Prop) : Prop := Fn PP 97 #[(Value.pointer g0_s), (Value.int .i64 g1_p)] h Q
/-- (*livery/liveryref08.Log).Sees -/
def S_liveryref08_Log_Sees (g0_l : Option Addr) (g1_xid : Int) (g2_other : Int) (h : Hp) (Q : List Value → Hp → Prop) : Prop := Fn PP 191 #[(Value.pointer g0_l), (Value.int .i64 g1_xid), (Value.int .i64 g2_other)] h Q
/-- (*livery/liveryref08.Log).Beside -/
def S_liveryref08_Log_Beside (g0_l : Option Addr) (g1_a : Int) (g2_b : Int) (h : Hp) (Q : List Value → Hp → Prop) : Prop := Fn PP 161 #[(Value.pointer g0_l), (Value.int .i64 g1_a), (Value.int .i64 g2_b)] h Q
/-- (*livery/liveryref14.Edges).at -/
def S_liveryref14_Edges_at (g0_e : Option Addr) (g1_a : Int) (g2_b : Int) (h : Hp) (Q : List Value → Hp → Prop) : Prop := Fn PP 163 #[(Value.pointer g0_e), (Value.int .i64 g1_a), (Value.int .i64 g2_b)] h Q
/-- (*livery/liveryref14.Edges).Has -/
def S_liveryref14_Edges_Has (g0_e : Option Addr) (g1_a : Int) (g2_b : Int) (h : Hp) (Q : List Value → Hp → Prop) : Prop := Fn PP 162 #[(Value.pointer g0_e), (Value.int .i64 g1_a), (Value.int .i64 g2_b)] h Q
/-- (*livery/liveryref14.Edges).Add -/
def S_liveryref14_Edges_Add (g0_e : Option Addr) (g1_a : Int) (g2_b : Int) (h : Hp) (Q : List Value → Hp → Prop) : Prop := Fn PP 142 #[(Value.pointer g0_e), (Value.int .i64 g1_a), (Value.int .i64 g2_b)] h Q
/-- (*livery/liveryref15.Ssi).edge -/
def S_liveryref15_Ssi_edge (g0_s : Option Addr) (g1_a : Int) (g2_b : Int) (h : Hp) (Q : List Value → Hp → Prop) : Prop := Fn PP 98 #[(Value.pointer g0_s), (Value.int .i64 g1_a), (Value.int .i64 g2_b)] h Q
/-- (*livery/liveryref15.Ssi).Wrote -/
def S_liveryref15_Ssi_Wrote (g0_s : Option Addr) (g1_xid : Int) (g2_x_0 : Int) (g2_x_1 : ByteArray) (g2_x_2 : Int) (g2_x_3 : ByteArray) (g2_x_4 : Int) (h : Hp) (Q : List Value → Hp → Prop) : Prop := Fn PP 46 #[(Value.pointer g0_s), (Value.int .i64 g1_xid), (Value.agg #[(Value.int .i64 g2_x_0), (Value.string g2_x_1), (Value.int .i64 g2_x_2), (Value.string g2_x_3), (Value.int .i64 g2_x_4)])] h Q
/-- (*livery/liveryref15.Ssi).Saw -/
def S_liveryref15_Ssi_Saw (g0_s : Option Addr) (g1_xid : Int) (g2_writer : Int) (h : Hp) (Q : List Value → Hp → Prop) : Prop := Fn PP 47 #[(Value.pointer g0_s), (Value.int .i64 g1_xid), (Value.int .i64 g2_writer)] h Q
/-- (*livery/clog.Log).Clock -/
def S_clog_Log_Clock (g0_l : Option Addr) (h : Hp) (Q : List Value → Hp → Prop) : Prop := Fn PP 145 #[(Value.pointer g0_l)] h Q
/-- (*livery/clog.Log).Horizon -/
def S_clog_Log_Horizon (g0_l : Option Addr) (h : Hp) (Q : List Value → Hp → Prop) : Prop := Fn PP 116 #[(Value.pointer g0_l)] h Q
/-- (*livery/liveryref08.Log).Horizon -/
def S_liveryref08_Log_Horizon (g0_l : Option Addr) (h : Hp) (Q : List Value → Hp → Prop) : Prop := Fn PP 144 #[(Value.pointer g0_l)] h Q
/-- livery/liverylaw08.Same -/
def S_liverylaw08_Same (g0_l : Option Addr) (g1_q : Option Addr) (h : Hp) (Q : List Value → Hp → Prop) : Prop := Fn PP 100 #[(Value.pointer g0_l), (Value.pointer g1_q)] h Q
/-- livery/liverylaw13.Same -/
def S_liverylaw13_Same (g0_t : Option Addr) (g1_q : Option Addr) (h : Hp) (Q : List Value → Hp → Prop) : Prop := Fn PP 101 #[(Value.pointer g0_t), (Value.pointer g1_q)] h Q
/-- (*livery/edge.Edges).Old -/
def S_edge_Edges_Old (g0_e : Option Addr) (g1_xid : Int) (h : Hp) (Q : List Value → Hp → Prop) : Prop := Fn PP 148 #[(Value.pointer g0_e), (Value.int .i64 g1_xid)] h Q
/-- livery/liverylaw14.Same -/
def S_liverylaw14_Same (g0_e : Option Addr) (g1_q : Option Addr) (h : Hp) (Q : List Value → Hp → Prop) : Prop := Fn PP 102 #[(Value.pointer g0_e), (Value.pointer g1_q)] h Q
/-- livery/liverylaw15.Same -/
def S_liverylaw15_Same (g0_s : Option Addr) (g1_q : Option Addr) (h : Hp) (Q : List Value → Hp → Prop) : Prop := Fn PP 48 #[(Value.pointer g0_s), (Value.pointer g1_q)] h Q
/-- livery/liverylaw15.SsiPlays -/
def S_liverylaw15_SsiPlays (g0_n_0 : Int) (g0_n_1 : Int) (g0_n_2 : Int) (g1_steps : Sl) (h : Hp) (Q : List Value → Hp → Prop) : Prop := Fn PP 9 #[(Value.agg #[(Value.int .i64 g0_n_0), (Value.int .i64 g0_n_1), (Value.int .i64 g0_n_2)]), (Value.slice g1_steps.a g1_steps.n g1_steps.c)] h Q
/-- (*livery/ssi.Ssi).Begin$1 -/
def S_ssi_Ssi_Begin_1 (g0_x : Int) (g1_x : Addr) (h : Hp) (Q : List Value → Hp → Prop) : Prop := Fn PP 52 #[(Value.int .i64 g0_x), (Value.pointer (some g1_x))] h Q
/-- cmp.Or[int] -/
def S_cmp_Or_int (g0_vals : Sl) (h : Hp) (Q : List Value → Hp → Prop) : Prop := Fn PP 72 #[(Value.slice g0_vals.a g0_vals.n g0_vals.c)] h Q
/-- cmp.Compare[int] -/
def S_cmp_Compare_int (g0_x : Int) (g1_y : Int) (h : Hp) (Q : List Value → Hp → Prop) : Prop := Fn PP 73 #[(Value.int .i64 g0_x), (Value.int .i64 g1_y)] h Q
/-- (*livery/edge.Edges).All$1 -/
def S_edge_Edges_All_1 (g0_a_0 : Int) (g0_a_1 : Int) (g1_b_0 : Int) (g1_b_1 : Int) (h : Hp) (Q : List Value → Hp → Prop) : Prop := Fn PP 71 #[(Value.agg #[(Value.int .i64 g0_a_0), (Value.int .i64 g0_a_1)]), (Value.agg #[(Value.int .i64 g1_b_0), (Value.int .i64 g1_b_1)])] h Q
/-- cmp.isNaN[string] -/
def S_cmp_isNaN_string (g0_x : ByteArray) (h : Hp) (Q : List Value → Hp → Prop) : Prop := Fn PP 158 #[(Value.string g0_x)] h Q
/-- cmp.Compare[string] -/
def S_cmp_Compare_string (g0_x : ByteArray) (g1_y : ByteArray) (h : Hp) (Q : List Value → Hp → Prop) : Prop := Fn PP 129 #[(Value.string g0_x), (Value.string g1_y)] h Q
/-- livery/siread.compare -/
def S_siread_compare (g0_a_0 : Int) (g0_a_1 : ByteArray) (g0_a_2 : Int) (g0_a_3 : ByteArray) (g0_a_4 : Int) (g1_b_0 : Int) (g1_b_1 : ByteArray) (g1_b_2 : Int) (g1_b_3 : ByteArray) (g1_b_4 : Int) (h : Hp) (Q : List Value → Hp → Prop) : Prop := Fn PP 78 #[(Value.agg #[(Value.int .i64 g0_a_0), (Value.string g0_a_1), (Value.int .i64 g0_a_2), (Value.string g0_a_3), (Value.int .i64 g0_a_4)]), (Value.agg #[(Value.int .i64 g1_b_0), (Value.string g1_b_1), (Value.int .i64 g1_b_2), (Value.string g1_b_3), (Value.int .i64 g1_b_4)])] h Q
/-- (*livery/siread.Table).Owners$1 -/
def S_siread_Table_Owners_1 (g0_y_0 : Int) (g0_y_1 : ByteArray) (g0_y_2 : Int) (g0_y_3 : ByteArray) (g0_y_4 : Int) (g1_x : Addr) (h : Hp) (Q : List Value → Hp → Prop) : Prop := Fn PP 107 #[(Value.agg #[(Value.int .i64 g0_y_0), (Value.string g0_y_1), (Value.int .i64 g0_y_2), (Value.string g0_y_3), (Value.int .i64 g0_y_4)]), (Value.pointer (some g1_x))] h Q
/-- (*livery/ssi.Ssi).clean$1 -/
def S_ssi_Ssi_clean_1 (g0_x : Int) (g1_x : Addr) (h : Hp) (Q : List Value → Hp → Prop) : Prop := Fn PP 115 #[(Value.int .i64 g0_x), (Value.pointer (some g1_x))] h Q
/-- (*livery/siread.Table).Drop$1 -/
def S_siread_Table_Drop_1 (g0_x_0 : Int) (g0_x_1 : ByteArray) (g0_x_2 : Int) (g0_x_3 : ByteArray) (g0_x_4 : Int) (h : Hp) (Q : List Value → Hp → Prop) : Prop := Fn PP 119 #[(Value.agg #[(Value.int .i64 g0_x_0), (Value.string g0_x_1), (Value.int .i64 g0_x_2), (Value.string g0_x_3), (Value.int .i64 g0_x_4)])] h Q
/-- (*livery/edge.Edges).Drop$1 -/
def S_edge_Edges_Drop_1 (g0_x_0 : Int) (g0_x_1 : Int) (g1_x : Int) (g2_x : Addr) (h : Hp) (Q : List Value → Hp → Prop) : Prop := Fn PP 121 #[(Value.agg #[(Value.int .i64 g0_x_0), (Value.int .i64 g0_x_1)]), (Value.int .i64 g1_x), (Value.pointer (some g2_x))] h Q
/-- maps.Keys[map[[2]int]int,[2]int,int]$1 -/
def S_maps_Keys_map_2_int_int_2_int_int_1 (g0_yield_f : Nat) (g0_yield_c : Array Value) (g1_x : Addr) (h : Hp) (Q : List Value → Hp → Prop) : Prop := Fn PP 124 #[(Value.func (.func g0_yield_f) #[] g0_yield_c), (Value.pointer (some g1_x))] h Q
/-- maps.Keys[map[livery/siread.Thing]int,livery/siread.Thing,int]$1 -/
def S_maps_Keys_map_siread_Thing_int_siread_Thing_int_1 (g0_yield_f : Nat) (g0_yield_c : Array Value) (g1_x : Addr) (h : Hp) (Q : List Value → Hp → Prop) : Prop := Fn PP 128 #[(Value.func (.func g0_yield_f) #[] g0_yield_c), (Value.pointer (some g1_x))] h Q
/-- (*livery/siread.Table).take$1 -/
def S_siread_Table_take_1 (g0_y_0 : Int) (g0_y_1 : ByteArray) (g0_y_2 : Int) (g0_y_3 : ByteArray) (g0_y_4 : Int) (g1_x : Addr) (h : Hp) (Q : List Value → Hp → Prop) : Prop := Fn PP 150 #[(Value.agg #[(Value.int .i64 g0_y_0), (Value.string g0_y_1), (Value.int .i64 g0_y_2), (Value.string g0_y_3), (Value.int .i64 g0_y_4)]), (Value.pointer (some g1_x))] h Q
/-- math/bits.Len32 -/
def S_math_bits_Len32 (g0_x : Int) (h : Hp) (Q : List Value → Hp → Prop) : Prop := Fn PP 172 #[(Value.int .u32 g0_x)] h Q
/-- (runtime.boundsError).Error -/
def S_runtime_boundsError_Error (g0_x_0 : Int) (g0_x_1 : Int) (g0_x_2 : Bool) (g0_x_3 : Int) (h : Hp) (Q : List Value → Hp → Prop) : Prop := Fn PP 206 #[(Value.agg #[(Value.int .i64 g0_x_0), (Value.int .i64 g0_x_1), (Value.bool g0_x_2), (Value.int .u8 g0_x_3)])] h Q
/-- (runtime.boundsError).RuntimeError -/
def S_runtime_boundsError_RuntimeError (g0_x_0 : Int) (g0_x_1 : Int) (g0_x_2 : Bool) (g0_x_3 : Int) (h : Hp) (Q : List Value → Hp → Prop) : Prop := Fn PP 207 #[(Value.agg #[(Value.int .i64 g0_x_0), (Value.int .i64 g0_x_1), (Value.bool g0_x_2), (Value.int .u8 g0_x_3)])] h Q
/-- (runtime.errorString).Error -/
def S_runtime_errorString_Error (g0_x : ByteArray) (h : Hp) (Q : List Value → Hp → Prop) : Prop := Fn PP 208 #[(Value.string g0_x)] h Q
/-- (runtime.errorString).RuntimeError -/
def S_runtime_errorString_RuntimeError (g0_x : ByteArray) (h : Hp) (Q : List Value → Hp → Prop) : Prop := Fn PP 209 #[(Value.string g0_x)] h Q
/-- (runtime.plainError).Error -/
def S_runtime_plainError_Error (g0_x : ByteArray) (h : Hp) (Q : List Value → Hp → Prop) : Prop := Fn PP 210 #[(Value.string g0_x)] h Q
/-- (runtime.plainError).RuntimeError -/
def S_runtime_plainError_RuntimeError (g0_x : ByteArray) (h : Hp) (Q : List Value → Hp → Prop) : Prop := Fn PP 211 #[(Value.string g0_x)] h Q
/-- (runtime.errorAddressString).Error -/
def S_runtime_errorAddressString_Error (g0_x_0 : ByteArray) (g0_x_1 : Int) (h : Hp) (Q : List Value → Hp → Prop) : Prop := Fn PP 212 #[(Value.agg #[(Value.string g0_x_0), (Value.int .u64 g0_x_1)])] h Q
/-- (runtime.errorAddressString).RuntimeError -/
def S_runtime_errorAddressString_RuntimeError (g0_x_0 : ByteArray) (g0_x_1 : Int) (h : Hp) (Q : List Value → Hp → Prop) : Prop := Fn PP 213 #[(Value.agg #[(Value.string g0_x_0), (Value.int .u64 g0_x_1)])] h Q
/-- (*runtime.TypeAssertionError).Error -/
def S_runtime_TypeAssertionError_Error (g0_x : Option Addr) (h : Hp) (Q : List Value → Hp → Prop) : Prop := Fn PP 214 #[(Value.pointer g0_x)] h Q
/-- (*runtime.TypeAssertionError).RuntimeError -/
def S_runtime_TypeAssertionError_RuntimeError (g0_x : Option Addr) (h : Hp) (Q : List Value → Hp → Prop) : Prop := Fn PP 215 #[(Value.pointer g0_x)] h Q
/-- (*runtime.PanicNilError).Error -/
def S_runtime_PanicNilError_Error (g0_x : Option Addr) (h : Hp) (Q : List Value → Hp → Prop) : Prop := Fn PP 216 #[(Value.pointer g0_x)] h Q
/-- (*runtime.PanicNilError).RuntimeError -/
def S_runtime_PanicNilError_RuntimeError (g0_x : Option Addr) (h : Hp) (Q : List Value → Hp → Prop) : Prop := Fn PP 217 #[(Value.pointer g0_x)] h Q
/-- (*internal/abi.Type).Align -/
def S_internal_abi_Type_Align (g0_x : Option Addr) (h : Hp) (Q : List Value → Hp → Prop) : Prop := Fn PP 218 #[(Value.pointer g0_x)] h Q
/-- (internal/runtime/maps.unhashableTypeError).Error -/
def S_internal_runtime_maps_unhashableTypeError_Error (g0_x_0 : Option Addr) (h : Hp) (Q : List Value → Hp → Prop) : Prop := Fn PP 219 #[(Value.agg #[(Value.pointer g0_x_0)])] h Q
/-- (internal/runtime/maps.unhashableTypeError).RuntimeError -/
def S_internal_runtime_maps_unhashableTypeError_RuntimeError (g0_x_0 : Option Addr) (h : Hp) (Q : List Value → Hp → Prop) : Prop := Fn PP 220 #[(Value.agg #[(Value.pointer g0_x_0)])] h Q
/-- (livery/api.Errno).Error -/
def S_api_Errno_Error (g0_x : Int) (h : Hp) (Q : List Value → Hp → Prop) : Prop := Fn PP 221 #[(Value.int .i64 g0_x)] h Q
/-- (internal/abi.Kind).String -/
def S_internal_abi_Kind_String (g0_x : Int) (h : Hp) (Q : List Value → Hp → Prop) : Prop := Fn PP 222 #[(Value.int .u8 g0_x)] h Q
def F_siread_New (g0_each : Int) (g1_all : Int) (h : Hp) (Q : List Value → Hp → Prop) : Prop :=
∀ J1 : List Value → Hp → Prop, (∀ b2 : Bool, ∀ h3 : Hp, ((if b2 = true then
      (Q [(Value.pointer none), (Value.int .i64 (1 : Int))] h3) else
      (wth (Array.push h3 (Obj.map #[] 0)) fun h4 =>
        wth (Array.push h4 (Obj.cells #[(Value.int .i64 g0_each), (Value.int .i64 g1_all), (Value.map (some (Array.size h3))), (Value.int .i64 (0 : Int)), (Value.int .i64 (0 : Int))] T_siread_Table)) fun h5 =>
        Q [(Value.pointer (some (Addr.mk (Array.size h4) 0 none))), (Value.int .i64 (0 : Int))] h5))) → J1 [(Value.bool b2)] h3) →
(if (decide (g0_each < (1 : Int))) = true then (J1 [(Value.bool true)] h) else
  ((if (decide (g0_each > (10000 : Int))) = true then (J1 [(Value.bool true)] h) else
      ((if (decide (g1_all < (1 : Int))) = true then (J1 [(Value.bool true)] h) else
          (J1 [(Value.bool (decide (g1_all > (10000 : Int))))] h))))))
def A_siread_New : Ann := (.mk none ⟨[], []⟩ .nil (.mk none ⟨[], []⟩ (.mk none ⟨[], []⟩ (.mk (some ⟨[0, 1], [(19, (.c .bool))]⟩) ⟨[], []⟩ .nil .nil) .nil) .nil))
theorem E_siread_New (g0_each : Int) (g1_all : Int) (h : Hp) (Q : List Value → Hp → Prop) : cw PP 25 (fun _ => []) (bodyOf Tryz.f74) A_siread_New (finQ PP (Tryz.f74.results.toList) Q) (argFr [(Value.int .i64 g0_each), (Value.int .i64 g1_all)]) h = F_siread_New g0_each g1_all h Q := by kernel_rfl
theorem O_siread_New (g0_each : Int) (g1_all : Int) {h : Hp} {Q : List Value → Hp → Prop} (H : F_siread_New g0_each g1_all h Q) : S_siread_New g0_each g1_all h Q :=
  fn_of_cw (hs := (fun _ => [])) (ann := A_siread_New) (args := [(Value.int .i64 g0_each), (Value.int .i64 g1_all)]) mixedPP Tryz.func74 (c := bodyOf Tryz.f74) (by kernel_rfl) (by kernel_rfl) (by kernel_rfl) (Eq.mpr (E_siread_New g0_each g1_all h Q) H)
def F_edge_New (g0_l : Option Addr) (h : Hp) (Q : List Value → Hp → Prop) : Prop :=
wth (Array.push h (Obj.map #[] 0)) fun h1 =>
wth (Array.push h1 (Obj.map #[] 0)) fun h2 =>
wth (Array.push h2 (Obj.cells #[(Value.pointer g0_l), (Value.map (some (Array.size h))), (Value.map (some (Array.size h1)))] T_edge_Edges)) fun h3 =>
Q [(Value.pointer (some (Addr.mk (Array.size h2) 0 none)))] h3
def A_edge_New : Ann := .nil
theorem E_edge_New (g0_l : Option Addr) (h : Hp) (Q : List Value → Hp → Prop) : cw PP 8 (fun _ => []) (bodyOf Tryz.f75) A_edge_New (finQ PP (Tryz.f75.results.toList) Q) (argFr [(Value.pointer g0_l)]) h = F_edge_New g0_l h Q := by kernel_rfl
theorem O_edge_New (g0_l : Option Addr) {h : Hp} {Q : List Value → Hp → Prop} (H : F_edge_New g0_l h Q) : S_edge_New g0_l h Q :=
  fn_of_cw (hs := (fun _ => [])) (ann := A_edge_New) (args := [(Value.pointer g0_l)]) mixedPP Tryz.func75 (c := bodyOf Tryz.f75) (by kernel_rfl) (by kernel_rfl) (by kernel_rfl) (Eq.mpr (E_edge_New g0_l h Q) H)
def F_ssi_New (g0_l : Option Addr) (g1_each : Int) (g2_all : Int) (g3_keep : Int) (h : Hp) (Q : List Value → Hp → Prop) : Prop :=
∀ J1 : List Value → Hp → Prop, (∀ b2 : Bool, ∀ h3 : Hp, ((if b2 = true then
      (Q [(Value.pointer none), (Value.int .i64 (1 : Int))] h3) else
      (S_siread_New g1_each g2_all h3 fun (vs4 : List Value) (h5 : Hp) =>
        ∃ p6 : Option Addr, ∃ n7 : Int, vs4 = [(Value.pointer p6), (Value.int .i64 n7)] ∧
        (if (n7 != (0 : Int)) = true then
          (Q [(Value.pointer none), (Value.int .i64 n7)] h5) else
          (S_edge_New g0_l h5 fun (vs8 : List Value) (h9 : Hp) =>
            ∃ p10 : Option Addr, vs8 = [(Value.pointer p10)] ∧
            wth (Array.push h9 (Obj.map #[] 0)) fun h11 =>
            wth (Array.push h11 (Obj.map #[] 0)) fun h12 =>
            wth (Array.push h12 (Obj.cells #[(Value.pointer g0_l), (Value.pointer p6), (Value.pointer p10), (Value.int .i64 g3_keep), (Value.slice none 0 0), (Value.map (some (Array.size h9))), (Value.map (some (Array.size h11)))] T_ssi_Ssi)) fun h13 =>
            Q [(Value.pointer (some (Addr.mk (Array.size h12) 0 none))), (Value.int .i64 (0 : Int))] h13))))) → J1 [(Value.bool b2)] h3) →
(if (Option.isNone g0_l) = true then (J1 [(Value.bool true)] h) else
  ((if (decide (g3_keep < (0 : Int))) = true then (J1 [(Value.bool true)] h) else
      (J1 [(Value.bool (decide (g3_keep > (1000 : Int))))] h))))
def A_ssi_New : Ann := (.mk none ⟨[], []⟩ .nil (.mk none ⟨[], []⟩ (.mk none ⟨[], []⟩ (.mk (some ⟨[0, 1, 2, 3], [(21, (.c .bool))]⟩) ⟨[], []⟩ .nil .nil) .nil) .nil))
theorem E_ssi_New (g0_l : Option Addr) (g1_each : Int) (g2_all : Int) (g3_keep : Int) (h : Hp) (Q : List Value → Hp → Prop) : cw PP 40 (fun _ => []) (bodyOf Tryz.f25) A_ssi_New (finQ PP (Tryz.f25.results.toList) Q) (argFr [(Value.pointer g0_l), (Value.int .i64 g1_each), (Value.int .i64 g2_all), (Value.int .i64 g3_keep)]) h = F_ssi_New g0_l g1_each g2_all g3_keep h Q := by kernel_rfl
theorem O_ssi_New (g0_l : Option Addr) (g1_each : Int) (g2_all : Int) (g3_keep : Int) {h : Hp} {Q : List Value → Hp → Prop} (H : F_ssi_New g0_l g1_each g2_all g3_keep h Q) : S_ssi_New g0_l g1_each g2_all g3_keep h Q :=
  fn_of_cw (hs := (fun _ => [])) (ann := A_ssi_New) (args := [(Value.pointer g0_l), (Value.int .i64 g1_each), (Value.int .i64 g2_all), (Value.int .i64 g3_keep)]) mixedPP Tryz.func25 (c := bodyOf Tryz.f25) (by kernel_rfl) (by kernel_rfl) (by kernel_rfl) (Eq.mpr (E_ssi_New g0_l g1_each g2_all g3_keep h Q) H)
def F_ssi_Ssi_Log (g0_s : Option Addr) (h : Hp) (Q : List Value → Hp → Prop) : Prop :=
(if (Option.isNone g0_s) = true then
  (Q [(Value.pointer none)] h) else
  (nilW g0_s fun a1 => ∃ p2 : Option Addr, rd h (Addr.add a1 0) = some (Value.pointer p2) ∧
    Q [(Value.pointer p2)] h))
def A_ssi_Ssi_Log : Ann := .nil
theorem E_ssi_Ssi_Log (g0_s : Option Addr) (h : Hp) (Q : List Value → Hp → Prop) : cw PP 9 (fun _ => []) (bodyOf Tryz.f29) A_ssi_Ssi_Log (finQ PP (Tryz.f29.results.toList) Q) (argFr [(Value.pointer g0_s)]) h = F_ssi_Ssi_Log g0_s h Q := by kernel_rfl
theorem O_ssi_Ssi_Log (g0_s : Option Addr) {h : Hp} {Q : List Value → Hp → Prop} (H : F_ssi_Ssi_Log g0_s h Q) : S_ssi_Ssi_Log g0_s h Q :=
  fn_of_cw (hs := (fun _ => [])) (ann := A_ssi_Ssi_Log) (args := [(Value.pointer g0_s)]) mixedPP Tryz.func29 (c := bodyOf Tryz.f29) (by kernel_rfl) (by kernel_rfl) (by kernel_rfl) (Eq.mpr (E_ssi_Ssi_Log g0_s h Q) H)
def F_clog_New (h : Hp) (Q : List Value → Hp → Prop) : Prop :=
wth (Array.push h (Obj.cells (zc PP T_clog_Log) T_clog_Log)) fun h1 =>
Q [(Value.pointer (some (Addr.mk (Array.size h) 0 none)))] h1
def A_clog_New : Ann := .nil
theorem E_clog_New (h : Hp) (Q : List Value → Hp → Prop) : cw PP 3 (fun _ => []) (bodyOf Tryz.f39) A_clog_New (finQ PP (Tryz.f39.results.toList) Q) (argFr []) h = F_clog_New h Q := by kernel_rfl
theorem O_clog_New {h : Hp} {Q : List Value → Hp → Prop} (H : F_clog_New h Q) : S_clog_New h Q :=
  fn_of_cw (hs := (fun _ => [])) (ann := A_clog_New) (args := []) mixedPP Tryz.func39 (c := bodyOf Tryz.f39) (by kernel_rfl) (by kernel_rfl) (by kernel_rfl) (Eq.mpr (E_clog_New h Q) H)
def F_liverylaw15_Made (g0_each : Int) (g1_all : Int) (g2_keep : Int) (h : Hp) (Q : List Value → Hp → Prop) : Prop :=
S_clog_New  h fun (vs1 : List Value) (h2 : Hp) =>
∃ p3 : Option Addr, vs1 = [(Value.pointer p3)] ∧
S_ssi_New p3 g0_each g1_all g2_keep h2 fun (vs4 : List Value) (h5 : Hp) =>
∃ p6 : Option Addr, ∃ n7 : Int, vs4 = [(Value.pointer p6), (Value.int .i64 n7)] ∧
(if (n7 == (0 : Int)) = true then ((if (!(Option.isNone p6)) = true then ((if (!(Option.isNone p3)) = true then (S_ssi_Ssi_Log p6 h5 fun (vs8 : List Value) (h9 : Hp) =>
            ∃ p10 : Option Addr, vs8 = [(Value.pointer p10)] ∧
            ptrW true p10 p3 fun (b11 : Bool) =>
            Q [(Value.pointer p6), (Value.pointer p3), (Value.bool b11)] h9) else
          (Q [(Value.pointer p6), (Value.pointer p3), (Value.bool false)] h5))) else
      (Q [(Value.pointer p6), (Value.pointer p3), (Value.bool false)] h5))) else
  (Q [(Value.pointer p6), (Value.pointer p3), (Value.bool false)] h5))
def A_liverylaw15_Made : Ann := .nil
theorem E_liverylaw15_Made (g0_each : Int) (g1_all : Int) (g2_keep : Int) (h : Hp) (Q : List Value → Hp → Prop) : cw PP 39 (fun _ => []) (bodyOf Tryz.f11) A_liverylaw15_Made (finQ PP (Tryz.f11.results.toList) Q) (argFr [(Value.int .i64 g0_each), (Value.int .i64 g1_all), (Value.int .i64 g2_keep)]) h = F_liverylaw15_Made g0_each g1_all g2_keep h Q := by kernel_rfl
theorem O_liverylaw15_Made (g0_each : Int) (g1_all : Int) (g2_keep : Int) {h : Hp} {Q : List Value → Hp → Prop} (H : F_liverylaw15_Made g0_each g1_all g2_keep h Q) : S_liverylaw15_Made g0_each g1_all g2_keep h Q :=
  fn_of_cw (hs := (fun _ => [])) (ann := A_liverylaw15_Made) (args := [(Value.int .i64 g0_each), (Value.int .i64 g1_all), (Value.int .i64 g2_keep)]) mixedPP Tryz.func11 (c := bodyOf Tryz.f11) (by kernel_rfl) (by kernel_rfl) (by kernel_rfl) (Eq.mpr (E_liverylaw15_Made g0_each g1_all g2_keep h Q) H)
def F_clog_Log_Running (g0_l : Option Addr) (h : Hp) (Q : List Value → Hp → Prop) : Prop :=
∀ X1 : List Value → Hp → Prop, (∀ l2 : Sl, ∀ n3 : Int, ∀ h4 : Hp, (∀ J5 : List Value → Hp → Prop, (∀ b6 : Bool, ∀ h7 : Hp, ((if b6 = true then
          (∀ J8 : List Value → Hp → Prop, (∀ l9 : Sl, ∀ h10 : Hp, (X1 [(Value.slice l9.a l9.n l9.c), (Value.int .i64 (IntKind.wrap .i64 (n3 + (1 : Int))))] h10) → J8 [(Value.slice l9.a l9.n l9.c)] h10) →
            nilW g0_l fun a11 => ixOk n3 201 (∃ n12 : Int, rd h7 (Addr.add (Addr.add (Addr.add a11 0) (Int.toNat n3 * 4)) 0) = some (Value.int .i64 n12) ∧
              (if (n12 == (1 : Int)) = true then
                (wth (Array.push h7 (Obj.cells #[(Value.int .i64 n3)] T_int)) fun h13 =>
                  ∃ cs16 : List Value, cellsAt h13 (some (Addr.mk (Array.size h7) 0 none)) (1 * 1) cs16 ∧ appS PP T_int 8 1 h13 ⟨l2.a, l2.n, l2.c⟩ 1 cs16 fun (l14 : Sl) (h15 : Hp) =>
                  J8 [(Value.slice l14.a l14.n l14.c)] h15) else
                (J8 [(Value.slice l2.a l2.n l2.c)] h7)))) else
          (Q [(Value.slice l2.a l2.n l2.c)] h7))) → J5 [(Value.bool b6)] h7) →
    (if (!(Option.isNone g0_l)) = true then (nilW g0_l fun a17 => ∃ n18 : Int, rd h4 (Addr.add a17 804) = some (Value.int .i64 n18) ∧
        J5 [(Value.bool (decide (n3 ≤ n18)))] h4) else
      (J5 [(Value.bool false)] h4))) → X1 [(Value.slice l2.a l2.n l2.c), (Value.int .i64 n3)] h4) →
X1 [(Value.slice none 0 0), (Value.int .i64 (1 : Int))] h
def A_clog_Log_Running : Ann := (.mk none ⟨[], []⟩ .nil (.mk none ⟨[], []⟩ .nil (.mk none ⟨[], []⟩ (.mk none ⟨[], []⟩ .nil (.mk none ⟨[], []⟩ (.mk none ⟨[0], [(3, (.c .sl)), (4, (.c (.int .i64)))]⟩ (.mk none ⟨[], []⟩ (.mk none ⟨[], []⟩ (.mk (some ⟨[0, 3, 4], [(14, (.c .bool))]⟩) ⟨[], []⟩ .nil .nil) .nil) (.mk none ⟨[], []⟩ (.mk (some ⟨[0, 4], [(3, (.c .sl))]⟩) ⟨[], []⟩ .nil .nil) .nil)) .nil) .nil)) .nil)))
theorem E_clog_Log_Running (g0_l : Option Addr) (h : Hp) (Q : List Value → Hp → Prop) : cw PP 30 (fun _ => []) (bodyOf Tryz.f38) A_clog_Log_Running (finQ PP (Tryz.f38.results.toList) Q) (argFr [(Value.pointer g0_l)]) h = F_clog_Log_Running g0_l h Q := by kernel_rfl
theorem O_clog_Log_Running (g0_l : Option Addr) {h : Hp} {Q : List Value → Hp → Prop} (H : F_clog_Log_Running g0_l h Q) : S_clog_Log_Running g0_l h Q :=
  fn_of_cw (hs := (fun _ => [])) (ann := A_clog_Log_Running) (args := [(Value.pointer g0_l)]) mixedPP Tryz.func38 (c := bodyOf Tryz.f38) (by kernel_rfl) (by kernel_rfl) (by kernel_rfl) (Eq.mpr (E_clog_Log_Running g0_l h Q) H)
def F_slices_IndexFunc_sint_int (g0_s : Sl) (g1_f_f : Nat) (g1_f_c : Array Value) (h : Hp) (Q : List Value → Hp → Prop) : Prop :=
∀ X1 : List Value → Hp → Prop, (∀ n2 : Int, ∀ h3 : Hp, ((if (decide (n2 < (g0_s.n : Int))) = true then
      (nilW g0_s.a fun a4 => ixOk n2 g0_s.n (∃ n5 : Int, rd h3 (Addr.add a4 (Int.toNat n2 * 1)) = some (Value.int .i64 n5) ∧
          Fn PP g1_f_f ((#[] ++ #[(Value.int .i64 n5)]) ++ g1_f_c) h3 fun (vs6 : List Value) (h7 : Hp) =>
          ∃ b8 : Bool, vs6 = [(Value.bool b8)] ∧
          (if b8 = true then
            (Q [(Value.int .i64 n2)] h7) else
            (X1 [(Value.int .i64 (IntKind.wrap .i64 (n2 + (1 : Int))))] h7)))) else
      (Q [(Value.int .i64 (-1 : Int))] h3))) → X1 [(Value.int .i64 n2)] h3) →
X1 [(Value.int .i64 (0 : Int))] h
def A_slices_IndexFunc_sint_int : Ann := (.mk none ⟨[], []⟩ .nil (.mk none ⟨[], []⟩ (.mk none ⟨[], []⟩ .nil (.mk none ⟨[], []⟩ (.mk none ⟨[0, 1, 7], [(8, (.c (.int .i64)))]⟩ .nil .nil) .nil)) .nil))
theorem E_slices_IndexFunc_sint_int (g0_s : Sl) (g1_f_f : Nat) (g1_f_c : Array Value) (h : Hp) (Q : List Value → Hp → Prop) : cw PP 19 (fun _ => []) (bodyOf Tryz.f103) A_slices_IndexFunc_sint_int (finQ PP (Tryz.f103.results.toList) Q) (argFr [(Value.slice g0_s.a g0_s.n g0_s.c), (Value.func (.func g1_f_f) #[] g1_f_c)]) h = F_slices_IndexFunc_sint_int g0_s g1_f_f g1_f_c h Q := by kernel_rfl
theorem O_slices_IndexFunc_sint_int (g0_s : Sl) (g1_f_f : Nat) (g1_f_c : Array Value) {h : Hp} {Q : List Value → Hp → Prop} (H : F_slices_IndexFunc_sint_int g0_s g1_f_f g1_f_c h Q) : S_slices_IndexFunc_sint_int g0_s g1_f_f g1_f_c h Q :=
  fn_of_cw (hs := (fun _ => [])) (ann := A_slices_IndexFunc_sint_int) (args := [(Value.slice g0_s.a g0_s.n g0_s.c), (Value.func (.func g1_f_f) #[] g1_f_c)]) mixedPP Tryz.func103 (c := bodyOf Tryz.f103) (by kernel_rfl) (by kernel_rfl) (by kernel_rfl) (Eq.mpr (E_slices_IndexFunc_sint_int g0_s g1_f_f g1_f_c h Q) H)
def F_slices_ContainsFunc_sint_int (g0_s : Sl) (g1_f_f : Nat) (g1_f_c : Array Value) (h : Hp) (Q : List Value → Hp → Prop) : Prop :=
S_slices_IndexFunc_sint_int ⟨g0_s.a, g0_s.n, g0_s.c⟩ g1_f_f g1_f_c h fun (vs1 : List Value) (h2 : Hp) =>
∃ n3 : Int, vs1 = [(Value.int .i64 n3)] ∧
Q [(Value.bool (decide (n3 ≥ (0 : Int))))] h2
def A_slices_ContainsFunc_sint_int : Ann := .nil
theorem E_slices_ContainsFunc_sint_int (g0_s : Sl) (g1_f_f : Nat) (g1_f_c : Array Value) (h : Hp) (Q : List Value → Hp → Prop) : cw PP 9 (fun _ => []) (bodyOf Tryz.f51) A_slices_ContainsFunc_sint_int (finQ PP (Tryz.f51.results.toList) Q) (argFr [(Value.slice g0_s.a g0_s.n g0_s.c), (Value.func (.func g1_f_f) #[] g1_f_c)]) h = F_slices_ContainsFunc_sint_int g0_s g1_f_f g1_f_c h Q := by kernel_rfl
theorem O_slices_ContainsFunc_sint_int (g0_s : Sl) (g1_f_f : Nat) (g1_f_c : Array Value) {h : Hp} {Q : List Value → Hp → Prop} (H : F_slices_ContainsFunc_sint_int g0_s g1_f_f g1_f_c h Q) : S_slices_ContainsFunc_sint_int g0_s g1_f_f g1_f_c h Q :=
  fn_of_cw (hs := (fun _ => [])) (ann := A_slices_ContainsFunc_sint_int) (args := [(Value.slice g0_s.a g0_s.n g0_s.c), (Value.func (.func g1_f_f) #[] g1_f_c)]) mixedPP Tryz.func51 (c := bodyOf Tryz.f51) (by kernel_rfl) (by kernel_rfl) (by kernel_rfl) (Eq.mpr (E_slices_ContainsFunc_sint_int g0_s g1_f_f g1_f_c h Q) H)
def F_clog_Log_Begin (g0_l : Option Addr) (g1_reads : Bool) (h : Hp) (Q : List Value → Hp → Prop) : Prop :=
(if (Option.isNone g0_l) = true then
  (Q [(Value.int .i64 (0 : Int)), (Value.int .i64 (1 : Int))] h) else
  (nilW g0_l fun a1 => ∃ n2 : Int, rd h (Addr.add a1 804) = some (Value.int .i64 n2) ∧
    (if (n2 == (200 : Int)) = true then
      (Q [(Value.int .i64 (0 : Int)), (Value.int .i64 (74 : Int))] h) else
      (nilW g0_l fun a3 => ∃ n4 : Int, rd h (Addr.add a3 804) = some (Value.int .i64 n4) ∧
        nilW g0_l fun a5 => stOk h (Addr.add a5 804) 1 ∧ wth (wrs h (Addr.add a5 804) 0 [(Value.int .i64 (IntKind.wrap .i64 (n4 + (1 : Int))))]) fun h6 =>
        nilW g0_l fun a7 => ∃ n8 : Int, rd h6 (Addr.add a7 804) = some (Value.int .i64 n8) ∧
        nilW g0_l fun a9 => ∃ n10 : Int, rd h6 (Addr.add a9 805) = some (Value.int .i64 n10) ∧
        nilW g0_l fun a11 => ixOk n8 201 (stOk h6 (Addr.add (Addr.add a11 0) (Int.toNat n8 * 4)) 4 ∧ wth (wrs h6 (Addr.add (Addr.add a11 0) (Int.toNat n8 * 4)) 0 [(Value.int .i64 (1 : Int)), (Value.int .i64 (0 : Int)), (Value.int .i64 n10), (Value.bool g1_reads)]) fun h12 =>
          nilW g0_l fun a13 => ∃ n14 : Int, rd h12 (Addr.add a13 804) = some (Value.int .i64 n14) ∧
          Q [(Value.int .i64 n14), (Value.int .i64 (0 : Int))] h12)))))
def A_clog_Log_Begin : Ann := .nil
theorem E_clog_Log_Begin (g0_l : Option Addr) (g1_reads : Bool) (h : Hp) (Q : List Value → Hp → Prop) : cw PP 40 (fun _ => []) (bodyOf Tryz.f53) A_clog_Log_Begin (finQ PP (Tryz.f53.results.toList) Q) (argFr [(Value.pointer g0_l), (Value.bool g1_reads)]) h = F_clog_Log_Begin g0_l g1_reads h Q := by kernel_rfl
theorem O_clog_Log_Begin (g0_l : Option Addr) (g1_reads : Bool) {h : Hp} {Q : List Value → Hp → Prop} (H : F_clog_Log_Begin g0_l g1_reads h Q) : S_clog_Log_Begin g0_l g1_reads h Q :=
  fn_of_cw (hs := (fun _ => [])) (ann := A_clog_Log_Begin) (args := [(Value.pointer g0_l), (Value.bool g1_reads)]) mixedPP Tryz.func53 (c := bodyOf Tryz.f53) (by kernel_rfl) (by kernel_rfl) (by kernel_rfl) (Eq.mpr (E_clog_Log_Begin g0_l g1_reads h Q) H)
def F_ssi_Ssi_Begin (g0_s : Option Addr) (g1_reads : Bool) (h : Hp) (Q : List Value → Hp → Prop) : Prop :=
wth (Array.push h (Obj.cells #[(Value.pointer g0_s)] T_pssi_Ssi)) fun h1 =>
∃ p2 : Option Addr, rd h1 (Addr.mk (Array.size h) 0 none) = some (Value.pointer p2) ∧
(if (Option.isNone p2) = true then
  (Q [(Value.int .i64 (0 : Int)), (Value.int .i64 (1 : Int))] h1) else
  (∃ p3 : Option Addr, rd h1 (Addr.mk (Array.size h) 0 none) = some (Value.pointer p3) ∧
    nilW p3 fun a4 => ∃ p5 : Option Addr, rd h1 (Addr.add a4 0) = some (Value.pointer p5) ∧
    S_clog_Log_Running p5 h1 fun (vs6 : List Value) (h7 : Hp) =>
    ∃ l8 : Sl, vs6 = [(Value.slice l8.a l8.n l8.c)] ∧
    S_slices_ContainsFunc_sint_int ⟨l8.a, l8.n, l8.c⟩ 52 #[(Value.pointer (some (Addr.mk (Array.size h) 0 none)))] h7 fun (vs9 : List Value) (h10 : Hp) =>
    ∃ b11 : Bool, vs9 = [(Value.bool b11)] ∧
    ∃ p12 : Option Addr, rd h10 (Addr.mk (Array.size h) 0 none) = some (Value.pointer p12) ∧
    nilW p12 fun a13 => ∃ p14 : Option Addr, rd h10 (Addr.add a13 0) = some (Value.pointer p14) ∧
    S_clog_Log_Begin p14 g1_reads h10 fun (vs15 : List Value) (h16 : Hp) =>
    ∃ n17 : Int, ∃ n18 : Int, vs15 = [(Value.int .i64 n17), (Value.int .i64 n18)] ∧
    ∀ J19 : List Value → Hp → Prop, (∀ b20 : Bool, ∀ h21 : Hp, (∀ J22 : List Value → Hp → Prop, (∀ h23 : Hp, (Q [(Value.int .i64 n17), (Value.int .i64 n18)] h23) → J22 [] h23) →
        (if b20 = true then
          (∃ p24 : Option Addr, rd h21 (Addr.mk (Array.size h) 0 none) = some (Value.pointer p24) ∧
            nilW p24 fun a25 => ∃ r26 : Option Nat, rd h21 (Addr.add a25 6) = some (Value.map r26) ∧
            ∃ es27 : Array MapEntry, mapAt h21 r26 es27 ∧ KeysLike (Value.int .i64 n17) es27 ∧ ∃ n28 : Int, mgetD (Value.int .i64 n17) es27 (Value.int .i64 (0 : Int)) = (Value.int .i64 n28) ∧
            ∃ (m30 : Nat) (es31 : Array MapEntry) (c32 : Nat), r26 = some m30 ∧ h21[m30]? = some (.map es31 c32) ∧ KeysLike (Value.int .i64 n17) es31 ∧ wth (Array.setIfInBounds h21 m30 (mput (Value.int .i64 n17) (Value.int .i64 (IntKind.wrap .i64 (n28 + (1 : Int)))) es31 c32)) fun h33 =>
            J22 [] h33) else
          (J22 [] h21))) → J19 [(Value.bool b20)] h21) →
    (if (n18 == (0 : Int)) = true then ((if g1_reads = true then (J19 [(Value.bool (!b11))] h16) else
          (J19 [(Value.bool false)] h16))) else
      (J19 [(Value.bool false)] h16))))
def A_ssi_Ssi_Begin : Ann := (.mk none ⟨[], []⟩ .nil (.mk none ⟨[], []⟩ .nil (.mk none ⟨[], []⟩ .nil (.mk none ⟨[], []⟩ .nil (.mk none ⟨[], []⟩ (.mk none ⟨[], []⟩ (.mk (some ⟨[2, 7, 8], [(35, (.c .bool))]⟩) ⟨[], []⟩ .nil .nil) (.mk (some ⟨[7, 8], []⟩) ⟨[], []⟩ .nil .nil)) .nil)))))
theorem E_ssi_Ssi_Begin (g0_s : Option Addr) (g1_reads : Bool) (h : Hp) (Q : List Value → Hp → Prop) : cw PP 45 (fun _ => []) (bodyOf Tryz.f13) A_ssi_Ssi_Begin (finQ PP (Tryz.f13.results.toList) Q) (argFr [(Value.pointer g0_s), (Value.bool g1_reads)]) h = F_ssi_Ssi_Begin g0_s g1_reads h Q := by kernel_rfl
theorem O_ssi_Ssi_Begin (g0_s : Option Addr) (g1_reads : Bool) {h : Hp} {Q : List Value → Hp → Prop} (H : F_ssi_Ssi_Begin g0_s g1_reads h Q) : S_ssi_Ssi_Begin g0_s g1_reads h Q :=
  fn_of_cw (hs := (fun _ => [])) (ann := A_ssi_Ssi_Begin) (args := [(Value.pointer g0_s), (Value.bool g1_reads)]) mixedPP Tryz.func13 (c := bodyOf Tryz.f13) (by kernel_rfl) (by kernel_rfl) (by kernel_rfl) (Eq.mpr (E_ssi_Ssi_Begin g0_s g1_reads h Q) H)
def F_clog_Log_get (g0_l : Option Addr) (g1_xid : Int) (h : Hp) (Q : List Value → Hp → Prop) : Prop :=
∀ J1 : List Value → Hp → Prop, (∀ b2 : Bool, ∀ h3 : Hp, ((if b2 = true then
      (Q [(Value.pointer none)] h3) else
      (nilW g0_l fun a4 => ixOk g1_xid 201 (Q [(Value.pointer (some (Addr.add (Addr.add a4 0) (Int.toNat g1_xid * 4))))] h3)))) → J1 [(Value.bool b2)] h3) →
(if (Option.isNone g0_l) = true then (J1 [(Value.bool true)] h) else
  ((if (decide (g1_xid < (1 : Int))) = true then (J1 [(Value.bool true)] h) else
      (nilW g0_l fun a5 => ∃ n6 : Int, rd h (Addr.add a5 804) = some (Value.int .i64 n6) ∧
        J1 [(Value.bool (decide (g1_xid > n6)))] h))))
def A_clog_Log_get : Ann := (.mk none ⟨[], []⟩ .nil (.mk none ⟨[], []⟩ (.mk none ⟨[], []⟩ (.mk (some ⟨[0, 1], [(18, (.c .bool))]⟩) ⟨[], []⟩ .nil .nil) .nil) .nil))
theorem E_clog_Log_get (g0_l : Option Addr) (g1_xid : Int) (h : Hp) (Q : List Value → Hp → Prop) : cw PP 24 (fun _ => []) (bodyOf Tryz.f67) A_clog_Log_get (finQ PP (Tryz.f67.results.toList) Q) (argFr [(Value.pointer g0_l), (Value.int .i64 g1_xid)]) h = F_clog_Log_get g0_l g1_xid h Q := by kernel_rfl
theorem O_clog_Log_get (g0_l : Option Addr) (g1_xid : Int) {h : Hp} {Q : List Value → Hp → Prop} (H : F_clog_Log_get g0_l g1_xid h Q) : S_clog_Log_get g0_l g1_xid h Q :=
  fn_of_cw (hs := (fun _ => [])) (ann := A_clog_Log_get) (args := [(Value.pointer g0_l), (Value.int .i64 g1_xid)]) mixedPP Tryz.func67 (c := bodyOf Tryz.f67) (by kernel_rfl) (by kernel_rfl) (by kernel_rfl) (Eq.mpr (E_clog_Log_get g0_l g1_xid h Q) H)
def F_clog_Log_one (g0_l : Option Addr) (g1_xid : Int) (h : Hp) (Q : List Value → Hp → Prop) : Prop :=
wth (Array.push h (Obj.cells #[(Value.int .i64 (0 : Int)), (Value.int .i64 (0 : Int)), (Value.int .i64 (0 : Int)), (Value.bool false)] T_clog_tx)) fun h1 =>
S_clog_Log_get g0_l g1_xid h1 fun (vs2 : List Value) (h3 : Hp) =>
∃ p4 : Option Addr, vs2 = [(Value.pointer p4)] ∧
(if (!(Option.isNone p4)) = true then
  (nilW p4 fun a5 => ∃ n6 : Int, rd h3 (Addr.add a5 0) = some (Value.int .i64 n6) ∧ ∃ n7 : Int, rd h3 (Addr.add a5 1) = some (Value.int .i64 n7) ∧ ∃ n8 : Int, rd h3 (Addr.add a5 2) = some (Value.int .i64 n8) ∧ ∃ b9 : Bool, rd h3 (Addr.add a5 3) = some (Value.bool b9) ∧ stOk h3 (Addr.mk (Array.size h) 0 none) 4 ∧ wth (wrs h3 (Addr.mk (Array.size h) 0 none) 0 [(Value.int .i64 n6), (Value.int .i64 n7), (Value.int .i64 n8), (Value.bool b9)]) fun h10 =>
    ∃ n11 : Int, rd h10 (Addr.add (Addr.mk (Array.size h) 0 none) 0) = some (Value.int .i64 n11) ∧ ∃ n12 : Int, rd h10 (Addr.add (Addr.mk (Array.size h) 0 none) 1) = some (Value.int .i64 n12) ∧ ∃ n13 : Int, rd h10 (Addr.add (Addr.mk (Array.size h) 0 none) 2) = some (Value.int .i64 n13) ∧ ∃ b14 : Bool, rd h10 (Addr.add (Addr.mk (Array.size h) 0 none) 3) = some (Value.bool b14) ∧ Q [(Value.agg #[(Value.int .i64 n11), (Value.int .i64 n12), (Value.int .i64 n13), (Value.bool b14)])] h10) else
  (stOk h3 (Addr.mk (Array.size h) 0 none) 4 ∧ wth (wrs h3 (Addr.mk (Array.size h) 0 none) 0 [(Value.int .i64 (0 : Int)), (Value.int .i64 (0 : Int)), (Value.int .i64 (0 : Int)), (Value.bool false)]) fun h15 =>
    ∃ n16 : Int, rd h15 (Addr.add (Addr.mk (Array.size h) 0 none) 0) = some (Value.int .i64 n16) ∧ ∃ n17 : Int, rd h15 (Addr.add (Addr.mk (Array.size h) 0 none) 1) = some (Value.int .i64 n17) ∧ ∃ n18 : Int, rd h15 (Addr.add (Addr.mk (Array.size h) 0 none) 2) = some (Value.int .i64 n18) ∧ ∃ b19 : Bool, rd h15 (Addr.add (Addr.mk (Array.size h) 0 none) 3) = some (Value.bool b19) ∧ Q [(Value.agg #[(Value.int .i64 n16), (Value.int .i64 n17), (Value.int .i64 n18), (Value.bool b19)])] h15))
def A_clog_Log_one : Ann := .nil
theorem E_clog_Log_one (g0_l : Option Addr) (g1_xid : Int) (h : Hp) (Q : List Value → Hp → Prop) : cw PP 15 (fun _ => []) (bodyOf Tryz.f63) A_clog_Log_one (finQ PP (Tryz.f63.results.toList) Q) (argFr [(Value.pointer g0_l), (Value.int .i64 g1_xid)]) h = F_clog_Log_one g0_l g1_xid h Q := by kernel_rfl
theorem O_clog_Log_one (g0_l : Option Addr) (g1_xid : Int) {h : Hp} {Q : List Value → Hp → Prop} (H : F_clog_Log_one g0_l g1_xid h Q) : S_clog_Log_one g0_l g1_xid h Q :=
  fn_of_cw (hs := (fun _ => [])) (ann := A_clog_Log_one) (args := [(Value.pointer g0_l), (Value.int .i64 g1_xid)]) mixedPP Tryz.func63 (c := bodyOf Tryz.f63) (by kernel_rfl) (by kernel_rfl) (by kernel_rfl) (Eq.mpr (E_clog_Log_one g0_l g1_xid h Q) H)
def F_clog_Log_State (g0_l : Option Addr) (g1_xid : Int) (h : Hp) (Q : List Value → Hp → Prop) : Prop :=
S_clog_Log_one g0_l g1_xid h fun (vs1 : List Value) (h2 : Hp) =>
∃ n3 : Int, ∃ n4 : Int, ∃ n5 : Int, ∃ b6 : Bool, vs1 = [(Value.agg #[(Value.int .i64 n3), (Value.int .i64 n4), (Value.int .i64 n5), (Value.bool b6)])] ∧
Q [(Value.int .i64 n3)] h2
def A_clog_Log_State : Ann := .nil
theorem E_clog_Log_State (g0_l : Option Addr) (g1_xid : Int) (h : Hp) (Q : List Value → Hp → Prop) : cw PP 9 (fun _ => []) (bodyOf Tryz.f17) A_clog_Log_State (finQ PP (Tryz.f17.results.toList) Q) (argFr [(Value.pointer g0_l), (Value.int .i64 g1_xid)]) h = F_clog_Log_State g0_l g1_xid h Q := by kernel_rfl
theorem O_clog_Log_State (g0_l : Option Addr) (g1_xid : Int) {h : Hp} {Q : List Value → Hp → Prop} (H : F_clog_Log_State g0_l g1_xid h Q) : S_clog_Log_State g0_l g1_xid h Q :=
  fn_of_cw (hs := (fun _ => [])) (ann := A_clog_Log_State) (args := [(Value.pointer g0_l), (Value.int .i64 g1_xid)]) mixedPP Tryz.func17 (c := bodyOf Tryz.f17) (by kernel_rfl) (by kernel_rfl) (by kernel_rfl) (Eq.mpr (E_clog_Log_State g0_l g1_xid h Q) H)
def F_ssi_Ssi_runs (g0_s : Option Addr) (g1_xid : Int) (h : Hp) (Q : List Value → Hp → Prop) : Prop :=
(if (!(Option.isNone g0_s)) = true then (nilW g0_s fun a1 => ∃ p2 : Option Addr, rd h (Addr.add a1 0) = some (Value.pointer p2) ∧
    S_clog_Log_State p2 g1_xid h fun (vs3 : List Value) (h4 : Hp) =>
    ∃ n5 : Int, vs3 = [(Value.int .i64 n5)] ∧
    Q [(Value.bool (n5 == (1 : Int)))] h4) else
  (Q [(Value.bool false)] h))
def A_ssi_Ssi_runs : Ann := .nil
theorem E_ssi_Ssi_runs (g0_s : Option Addr) (g1_xid : Int) (h : Hp) (Q : List Value → Hp → Prop) : cw PP 16 (fun _ => []) (bodyOf Tryz.f54) A_ssi_Ssi_runs (finQ PP (Tryz.f54.results.toList) Q) (argFr [(Value.pointer g0_s), (Value.int .i64 g1_xid)]) h = F_ssi_Ssi_runs g0_s g1_xid h Q := by kernel_rfl
theorem O_ssi_Ssi_runs (g0_s : Option Addr) (g1_xid : Int) {h : Hp} {Q : List Value → Hp → Prop} (H : F_ssi_Ssi_runs g0_s g1_xid h Q) : S_ssi_Ssi_runs g0_s g1_xid h Q :=
  fn_of_cw (hs := (fun _ => [])) (ann := A_ssi_Ssi_runs) (args := [(Value.pointer g0_s), (Value.int .i64 g1_xid)]) mixedPP Tryz.func54 (c := bodyOf Tryz.f54) (by kernel_rfl) (by kernel_rfl) (by kernel_rfl) (Eq.mpr (E_ssi_Ssi_runs g0_s g1_xid h Q) H)
def F_siread_one (g0_xid : Int) (h : Hp) (Q : List Value → Hp → Prop) : Prop :=
(if (decide (g0_xid ≥ (1 : Int))) = true then (Q [(Value.bool (decide (g0_xid ≤ (200 : Int))))] h) else
  (Q [(Value.bool false)] h))
def A_siread_one : Ann := .nil
theorem E_siread_one (g0_xid : Int) (h : Hp) (Q : List Value → Hp → Prop) : cw PP 9 (fun _ => []) (bodyOf Tryz.f104) A_siread_one (finQ PP (Tryz.f104.results.toList) Q) (argFr [(Value.int .i64 g0_xid)]) h = F_siread_one g0_xid h Q := by kernel_rfl
theorem O_siread_one (g0_xid : Int) {h : Hp} {Q : List Value → Hp → Prop} (H : F_siread_one g0_xid h Q) : S_siread_one g0_xid h Q :=
  fn_of_cw (hs := (fun _ => [])) (ann := A_siread_one) (args := [(Value.int .i64 g0_xid)]) mixedPP Tryz.func104 (c := bodyOf Tryz.f104) (by kernel_rfl) (by kernel_rfl) (by kernel_rfl) (Eq.mpr (E_siread_one g0_xid h Q) H)
def F_siread_Thing_fine (g0_x_0 : Int) (g0_x_1 : ByteArray) (g0_x_2 : Int) (g0_x_3 : ByteArray) (g0_x_4 : Int) (h : Hp) (Q : List Value → Hp → Prop) : Prop :=
wth (Array.push h (Obj.cells #[(Value.int .i64 g0_x_0), (Value.string g0_x_1), (Value.int .i64 g0_x_2), (Value.string g0_x_3), (Value.int .i64 g0_x_4)] T_siread_Thing)) fun h1 =>
∃ n2 : Int, rd h1 (Addr.add (Addr.mk (Array.size h) 0 none) 0) = some (Value.int .i64 n2) ∧
(if (n2 == (3 : Int)) = true then (Q [(Value.bool true)] h1) else
  (∃ n3 : Int, rd h1 (Addr.add (Addr.mk (Array.size h) 0 none) 0) = some (Value.int .i64 n3) ∧
    Q [(Value.bool (n3 == (4 : Int)))] h1))
def A_siread_Thing_fine : Ann := .nil
theorem E_siread_Thing_fine (g0_x_0 : Int) (g0_x_1 : ByteArray) (g0_x_2 : Int) (g0_x_3 : ByteArray) (g0_x_4 : Int) (h : Hp) (Q : List Value → Hp → Prop) : cw PP 11 (fun _ => []) (bodyOf Tryz.f108) A_siread_Thing_fine (finQ PP (Tryz.f108.results.toList) Q) (argFr [(Value.agg #[(Value.int .i64 g0_x_0), (Value.string g0_x_1), (Value.int .i64 g0_x_2), (Value.string g0_x_3), (Value.int .i64 g0_x_4)])]) h = F_siread_Thing_fine g0_x_0 g0_x_1 g0_x_2 g0_x_3 g0_x_4 h Q := by kernel_rfl
theorem O_siread_Thing_fine (g0_x_0 : Int) (g0_x_1 : ByteArray) (g0_x_2 : Int) (g0_x_3 : ByteArray) (g0_x_4 : Int) {h : Hp} {Q : List Value → Hp → Prop} (H : F_siread_Thing_fine g0_x_0 g0_x_1 g0_x_2 g0_x_3 g0_x_4 h Q) : S_siread_Thing_fine g0_x_0 g0_x_1 g0_x_2 g0_x_3 g0_x_4 h Q :=
  fn_of_cw (hs := (fun _ => [])) (ann := A_siread_Thing_fine) (args := [(Value.agg #[(Value.int .i64 g0_x_0), (Value.string g0_x_1), (Value.int .i64 g0_x_2), (Value.string g0_x_3), (Value.int .i64 g0_x_4)])]) mixedPP Tryz.func108 (c := bodyOf Tryz.f108) (by kernel_rfl) (by kernel_rfl) (by kernel_rfl) (Eq.mpr (E_siread_Thing_fine g0_x_0 g0_x_1 g0_x_2 g0_x_3 g0_x_4 h Q) H)
def F_siread_Thing_rel (g0_x_0 : Int) (g0_x_1 : ByteArray) (g0_x_2 : Int) (g0_x_3 : ByteArray) (g0_x_4 : Int) (h : Hp) (Q : List Value → Hp → Prop) : Prop :=
wth (Array.push h (Obj.cells #[(Value.int .i64 g0_x_0), (Value.string g0_x_1), (Value.int .i64 g0_x_2), (Value.string g0_x_3), (Value.int .i64 g0_x_4)] T_siread_Thing)) fun h1 =>
wth (Array.push h1 (Obj.cells #[(Value.int .i64 (0 : Int)), (Value.string (ByteArray.mk #[])), (Value.int .i64 (0 : Int)), (Value.string (ByteArray.mk #[])), (Value.int .i64 (0 : Int))] T_siread_Thing)) fun h2 =>
∃ n3 : Int, rd h2 (Addr.add (Addr.mk (Array.size h) 0 none) 2) = some (Value.int .i64 n3) ∧
stOk h2 (Addr.mk (Array.size h1) 0 none) 5 ∧ wth (wrs h2 (Addr.mk (Array.size h1) 0 none) 0 [(Value.int .i64 (2 : Int)), (Value.string (ByteArray.mk #[])), (Value.int .i64 n3), (Value.string (ByteArray.mk #[])), (Value.int .i64 (0 : Int))]) fun h4 =>
∃ n5 : Int, rd h4 (Addr.add (Addr.mk (Array.size h1) 0 none) 0) = some (Value.int .i64 n5) ∧ ∃ s6 : ByteArray, rd h4 (Addr.add (Addr.mk (Array.size h1) 0 none) 1) = some (Value.string s6) ∧ ∃ n7 : Int, rd h4 (Addr.add (Addr.mk (Array.size h1) 0 none) 2) = some (Value.int .i64 n7) ∧ ∃ s8 : ByteArray, rd h4 (Addr.add (Addr.mk (Array.size h1) 0 none) 3) = some (Value.string s8) ∧ ∃ n9 : Int, rd h4 (Addr.add (Addr.mk (Array.size h1) 0 none) 4) = some (Value.int .i64 n9) ∧ Q [(Value.agg #[(Value.int .i64 n5), (Value.string s6), (Value.int .i64 n7), (Value.string s8), (Value.int .i64 n9)])] h4
def A_siread_Thing_rel : Ann := .nil
theorem E_siread_Thing_rel (g0_x_0 : Int) (g0_x_1 : ByteArray) (g0_x_2 : Int) (g0_x_3 : ByteArray) (g0_x_4 : Int) (h : Hp) (Q : List Value → Hp → Prop) : cw PP 6 (fun _ => []) (bodyOf Tryz.f109) A_siread_Thing_rel (finQ PP (Tryz.f109.results.toList) Q) (argFr [(Value.agg #[(Value.int .i64 g0_x_0), (Value.string g0_x_1), (Value.int .i64 g0_x_2), (Value.string g0_x_3), (Value.int .i64 g0_x_4)])]) h = F_siread_Thing_rel g0_x_0 g0_x_1 g0_x_2 g0_x_3 g0_x_4 h Q := by kernel_rfl
theorem O_siread_Thing_rel (g0_x_0 : Int) (g0_x_1 : ByteArray) (g0_x_2 : Int) (g0_x_3 : ByteArray) (g0_x_4 : Int) {h : Hp} {Q : List Value → Hp → Prop} (H : F_siread_Thing_rel g0_x_0 g0_x_1 g0_x_2 g0_x_3 g0_x_4 h Q) : S_siread_Thing_rel g0_x_0 g0_x_1 g0_x_2 g0_x_3 g0_x_4 h Q :=
  fn_of_cw (hs := (fun _ => [])) (ann := A_siread_Thing_rel) (args := [(Value.agg #[(Value.int .i64 g0_x_0), (Value.string g0_x_1), (Value.int .i64 g0_x_2), (Value.string g0_x_3), (Value.int .i64 g0_x_4)])]) mixedPP Tryz.func109 (c := bodyOf Tryz.f109) (by kernel_rfl) (by kernel_rfl) (by kernel_rfl) (Eq.mpr (E_siread_Thing_rel g0_x_0 g0_x_1 g0_x_2 g0_x_3 g0_x_4 h Q) H)
def F_slices_Collect_siread_Thing (g0_seq_f : Nat) (g0_seq_c : Array Value) (h : Hp) (Q : List Value → Hp → Prop) : Prop :=
S_slices_AppendSeq_ssiread_Thing_siread_Thing ⟨none, 0, 0⟩ g0_seq_f g0_seq_c h fun (vs1 : List Value) (h2 : Hp) =>
∃ l3 : Sl, vs1 = [(Value.slice l3.a l3.n l3.c)] ∧
Q [(Value.slice l3.a l3.n l3.c)] h2
def A_slices_Collect_siread_Thing : Ann := .nil
theorem E_slices_Collect_siread_Thing (g0_seq_f : Nat) (g0_seq_c : Array Value) (h : Hp) (Q : List Value → Hp → Prop) : cw PP 5 (fun _ => []) (bodyOf Tryz.f126) A_slices_Collect_siread_Thing (finQ PP (Tryz.f126.results.toList) Q) (argFr [(Value.func (.func g0_seq_f) #[] g0_seq_c)]) h = F_slices_Collect_siread_Thing g0_seq_f g0_seq_c h Q := by kernel_rfl
theorem O_slices_Collect_siread_Thing (g0_seq_f : Nat) (g0_seq_c : Array Value) {h : Hp} {Q : List Value → Hp → Prop} (H : F_slices_Collect_siread_Thing g0_seq_f g0_seq_c h Q) : S_slices_Collect_siread_Thing g0_seq_f g0_seq_c h Q :=
  fn_of_cw (hs := (fun _ => [])) (ann := A_slices_Collect_siread_Thing) (args := [(Value.func (.func g0_seq_f) #[] g0_seq_c)]) mixedPP Tryz.func126 (c := bodyOf Tryz.f126) (by kernel_rfl) (by kernel_rfl) (by kernel_rfl) (Eq.mpr (E_slices_Collect_siread_Thing g0_seq_f g0_seq_c h Q) H)
def F_slices_SortedFunc_siread_Thing (g0_seq_f : Nat) (g0_seq_c : Array Value) (g1_cmp_f : Nat) (g1_cmp_c : Array Value) (h : Hp) (Q : List Value → Hp → Prop) : Prop :=
S_slices_Collect_siread_Thing g0_seq_f g0_seq_c h fun (vs1 : List Value) (h2 : Hp) =>
∃ l3 : Sl, vs1 = [(Value.slice l3.a l3.n l3.c)] ∧
S_slices_SortFunc_ssiread_Thing_siread_Thing ⟨l3.a, l3.n, l3.c⟩ g1_cmp_f g1_cmp_c h2 fun (vs4 : List Value) (h5 : Hp) =>
vs4 = [] ∧
Q [(Value.slice l3.a l3.n l3.c)] h5
def A_slices_SortedFunc_siread_Thing : Ann := .nil
theorem E_slices_SortedFunc_siread_Thing (g0_seq_f : Nat) (g0_seq_c : Array Value) (g1_cmp_f : Nat) (g1_cmp_c : Array Value) (h : Hp) (Q : List Value → Hp → Prop) : cw PP 12 (fun _ => []) (bodyOf Tryz.f76) A_slices_SortedFunc_siread_Thing (finQ PP (Tryz.f76.results.toList) Q) (argFr [(Value.func (.func g0_seq_f) #[] g0_seq_c), (Value.func (.func g1_cmp_f) #[] g1_cmp_c)]) h = F_slices_SortedFunc_siread_Thing g0_seq_f g0_seq_c g1_cmp_f g1_cmp_c h Q := by kernel_rfl
theorem O_slices_SortedFunc_siread_Thing (g0_seq_f : Nat) (g0_seq_c : Array Value) (g1_cmp_f : Nat) (g1_cmp_c : Array Value) {h : Hp} {Q : List Value → Hp → Prop} (H : F_slices_SortedFunc_siread_Thing g0_seq_f g0_seq_c g1_cmp_f g1_cmp_c h Q) : S_slices_SortedFunc_siread_Thing g0_seq_f g0_seq_c g1_cmp_f g1_cmp_c h Q :=
  fn_of_cw (hs := (fun _ => [])) (ann := A_slices_SortedFunc_siread_Thing) (args := [(Value.func (.func g0_seq_f) #[] g0_seq_c), (Value.func (.func g1_cmp_f) #[] g1_cmp_c)]) mixedPP Tryz.func76 (c := bodyOf Tryz.f76) (by kernel_rfl) (by kernel_rfl) (by kernel_rfl) (Eq.mpr (E_slices_SortedFunc_siread_Thing g0_seq_f g0_seq_c g1_cmp_f g1_cmp_c h Q) H)
def F_maps_Keys_map_siread_Thing_int_siread_Thing_int (g0_m : Option Nat) (h : Hp) (Q : List Value → Hp → Prop) : Prop :=
wth (Array.push h (Obj.cells #[(Value.map g0_m)] T_map_siread_Thing_int)) fun h1 =>
Q [(Value.func (.func 128) #[] #[(Value.pointer (some (Addr.mk (Array.size h) 0 none)))])] h1
def A_maps_Keys_map_siread_Thing_int_siread_Thing_int : Ann := .nil
theorem E_maps_Keys_map_siread_Thing_int_siread_Thing_int (g0_m : Option Nat) (h : Hp) (Q : List Value → Hp → Prop) : cw PP 4 (fun _ => []) (bodyOf Tryz.f77) A_maps_Keys_map_siread_Thing_int_siread_Thing_int (finQ PP (Tryz.f77.results.toList) Q) (argFr [(Value.map g0_m)]) h = F_maps_Keys_map_siread_Thing_int_siread_Thing_int g0_m h Q := by kernel_rfl
theorem O_maps_Keys_map_siread_Thing_int_siread_Thing_int (g0_m : Option Nat) {h : Hp} {Q : List Value → Hp → Prop} (H : F_maps_Keys_map_siread_Thing_int_siread_Thing_int g0_m h Q) : S_maps_Keys_map_siread_Thing_int_siread_Thing_int g0_m h Q :=
  fn_of_cw (hs := (fun _ => [])) (ann := A_maps_Keys_map_siread_Thing_int_siread_Thing_int) (args := [(Value.map g0_m)]) mixedPP Tryz.func77 (c := bodyOf Tryz.f77) (by kernel_rfl) (by kernel_rfl) (by kernel_rfl) (Eq.mpr (E_maps_Keys_map_siread_Thing_int_siread_Thing_int g0_m h Q) H)
def F_siread_Table_Of (g0_t : Option Addr) (g1_xid : Int) (h : Hp) (Q : List Value → Hp → Prop) : Prop :=
(if (Option.isNone g0_t) = true then
  (Q [(Value.slice none 0 0)] h) else
  (nilW g0_t fun a1 => ∃ r2 : Option Nat, rd h (Addr.add a1 2) = some (Value.map r2) ∧
    ∃ es3 : Array MapEntry, mapAt h r2 es3 ∧ KeysLike (Value.int .i64 g1_xid) es3 ∧ ∃ r4 : Option Nat, mgetD (Value.int .i64 g1_xid) es3 (Value.map none) = (Value.map r4) ∧
    S_maps_Keys_map_siread_Thing_int_siread_Thing_int r4 h fun (vs6 : List Value) (h7 : Hp) =>
    ∃ f8 : Nat, ∃ cs9 : Array Value, vs6 = [(Value.func (.func f8) #[] cs9)] ∧
    S_slices_SortedFunc_siread_Thing f8 cs9 78 #[] h7 fun (vs10 : List Value) (h11 : Hp) =>
    ∃ l12 : Sl, vs10 = [(Value.slice l12.a l12.n l12.c)] ∧
    Q [(Value.slice l12.a l12.n l12.c)] h11))
def A_siread_Table_Of : Ann := .nil
theorem E_siread_Table_Of (g0_t : Option Addr) (g1_xid : Int) (h : Hp) (Q : List Value → Hp → Prop) : cw PP 15 (fun _ => []) (bodyOf Tryz.f30) A_siread_Table_Of (finQ PP (Tryz.f30.results.toList) Q) (argFr [(Value.pointer g0_t), (Value.int .i64 g1_xid)]) h = F_siread_Table_Of g0_t g1_xid h Q := by kernel_rfl
theorem O_siread_Table_Of (g0_t : Option Addr) (g1_xid : Int) {h : Hp} {Q : List Value → Hp → Prop} (H : F_siread_Table_Of g0_t g1_xid h Q) : S_siread_Table_Of g0_t g1_xid h Q :=
  fn_of_cw (hs := (fun _ => [])) (ann := A_siread_Table_Of) (args := [(Value.pointer g0_t), (Value.int .i64 g1_xid)]) mixedPP Tryz.func30 (c := bodyOf Tryz.f30) (by kernel_rfl) (by kernel_rfl) (by kernel_rfl) (Eq.mpr (E_siread_Table_Of g0_t g1_xid h Q) H)
def F_siread_Table_lose (g0_t : Option Addr) (g1_owner : Int) (g2_such_f : Nat) (g2_such_c : Array Value) (h : Hp) (Q : List Value → Hp → Prop) : Prop :=
S_siread_Table_Of g0_t g1_owner h fun (vs1 : List Value) (h2 : Hp) =>
∃ l3 : Sl, vs1 = [(Value.slice l3.a l3.n l3.c)] ∧
∀ X4 : List Value → Hp → Prop, (∀ n5 : Int, ∀ h6 : Hp, ((if (decide (n5 < (l3.n : Int))) = true then
      (∀ J7 : List Value → Hp → Prop, (∀ h8 : Hp, (X4 [(Value.int .i64 (IntKind.wrap .i64 (n5 + (1 : Int))))] h8) → J7 [] h8) →
        nilW l3.a fun a9 => ixOk n5 l3.n (∃ n10 : Int, rd h6 (Addr.add (Addr.add a9 (Int.toNat n5 * 5)) 0) = some (Value.int .i64 n10) ∧ ∃ s11 : ByteArray, rd h6 (Addr.add (Addr.add a9 (Int.toNat n5 * 5)) 1) = some (Value.string s11) ∧ ∃ n12 : Int, rd h6 (Addr.add (Addr.add a9 (Int.toNat n5 * 5)) 2) = some (Value.int .i64 n12) ∧ ∃ s13 : ByteArray, rd h6 (Addr.add (Addr.add a9 (Int.toNat n5 * 5)) 3) = some (Value.string s13) ∧ ∃ n14 : Int, rd h6 (Addr.add (Addr.add a9 (Int.toNat n5 * 5)) 4) = some (Value.int .i64 n14) ∧ wth (Array.push h6 (Obj.cells #[(Value.int .i64 (0 : Int)), (Value.string (ByteArray.mk #[])), (Value.int .i64 (0 : Int)), (Value.string (ByteArray.mk #[])), (Value.int .i64 (0 : Int))] T_siread_Thing)) fun h15 =>
          stOk h15 (Addr.mk (Array.size h6) 0 none) 5 ∧ wth (wrs h15 (Addr.mk (Array.size h6) 0 none) 0 [(Value.int .i64 n10), (Value.string s11), (Value.int .i64 n12), (Value.string s13), (Value.int .i64 n14)]) fun h16 =>
          ∃ n17 : Int, rd h16 (Addr.add (Addr.mk (Array.size h6) 0 none) 0) = some (Value.int .i64 n17) ∧ ∃ s18 : ByteArray, rd h16 (Addr.add (Addr.mk (Array.size h6) 0 none) 1) = some (Value.string s18) ∧ ∃ n19 : Int, rd h16 (Addr.add (Addr.mk (Array.size h6) 0 none) 2) = some (Value.int .i64 n19) ∧ ∃ s20 : ByteArray, rd h16 (Addr.add (Addr.mk (Array.size h6) 0 none) 3) = some (Value.string s20) ∧ ∃ n21 : Int, rd h16 (Addr.add (Addr.mk (Array.size h6) 0 none) 4) = some (Value.int .i64 n21) ∧ Fn PP g2_such_f ((#[] ++ #[(Value.agg #[(Value.int .i64 n17), (Value.string s18), (Value.int .i64 n19), (Value.string s20), (Value.int .i64 n21)])]) ++ g2_such_c) h16 fun (vs22 : List Value) (h23 : Hp) =>
          ∃ b24 : Bool, vs22 = [(Value.bool b24)] ∧
          (if b24 = true then
            (nilW g0_t fun a25 => ∃ r26 : Option Nat, rd h23 (Addr.add a25 2) = some (Value.map r26) ∧
              ∃ es27 : Array MapEntry, mapAt h23 r26 es27 ∧ KeysLike (Value.int .i64 g1_owner) es27 ∧ ∃ r28 : Option Nat, mgetD (Value.int .i64 g1_owner) es27 (Value.map none) = (Value.map r28) ∧
              ∃ n30 : Int, rd h23 (Addr.add (Addr.mk (Array.size h6) 0 none) 0) = some (Value.int .i64 n30) ∧ ∃ s31 : ByteArray, rd h23 (Addr.add (Addr.mk (Array.size h6) 0 none) 1) = some (Value.string s31) ∧ ∃ n32 : Int, rd h23 (Addr.add (Addr.mk (Array.size h6) 0 none) 2) = some (Value.int .i64 n32) ∧ ∃ s33 : ByteArray, rd h23 (Addr.add (Addr.mk (Array.size h6) 0 none) 3) = some (Value.string s33) ∧ ∃ n34 : Int, rd h23 (Addr.add (Addr.mk (Array.size h6) 0 none) 4) = some (Value.int .i64 n34) ∧ ∃ (m35 : Nat) (es36 : Array MapEntry) (c37 : Nat), r28 = some m35 ∧ h23[m35]? = some (.map es36 c37) ∧ KeysLike (Value.agg #[(Value.int .i64 n30), (Value.string s31), (Value.int .i64 n32), (Value.string s33), (Value.int .i64 n34)]) es36 ∧ wth (Array.setIfInBounds h23 m35 (mdel (Value.agg #[(Value.int .i64 n30), (Value.string s31), (Value.int .i64 n32), (Value.string s33), (Value.int .i64 n34)]) es36 c37)) fun h38 =>
              ∃ n39 : Int, rd h38 (Addr.add (Addr.mk (Array.size h6) 0 none) 0) = some (Value.int .i64 n39) ∧ ∃ s40 : ByteArray, rd h38 (Addr.add (Addr.mk (Array.size h6) 0 none) 1) = some (Value.string s40) ∧ ∃ n41 : Int, rd h38 (Addr.add (Addr.mk (Array.size h6) 0 none) 2) = some (Value.int .i64 n41) ∧ ∃ s42 : ByteArray, rd h38 (Addr.add (Addr.mk (Array.size h6) 0 none) 3) = some (Value.string s42) ∧ ∃ n43 : Int, rd h38 (Addr.add (Addr.mk (Array.size h6) 0 none) 4) = some (Value.int .i64 n43) ∧ S_siread_Thing_fine n39 s40 n41 s42 n43 h38 fun (vs44 : List Value) (h45 : Hp) =>
              ∃ b46 : Bool, vs44 = [(Value.bool b46)] ∧
              (if b46 = true then
                (nilW g0_t fun a47 => ∃ n48 : Int, rd h45 (Addr.add a47 3) = some (Value.int .i64 n48) ∧
                  nilW g0_t fun a49 => stOk h45 (Addr.add a49 3) 1 ∧ wth (wrs h45 (Addr.add a49 3) 0 [(Value.int .i64 (IntKind.wrap .i64 (n48 - (1 : Int))))]) fun h50 =>
                  J7 [] h50) else
                (J7 [] h45))) else
            (J7 [] h23)))) else
      (Q [] h6))) → X4 [(Value.int .i64 n5)] h6) →
X4 [(Value.int .i64 (0 : Int))] h2
def A_siread_Table_lose : Ann := (.mk none ⟨[], []⟩ .nil (.mk none ⟨[], []⟩ (.mk none ⟨[0, 1, 2, 10, 11], [(12, (.c (.int .i64)))]⟩ (.mk none ⟨[], []⟩ .nil (.mk none ⟨[], []⟩ .nil (.mk none ⟨[], []⟩ (.mk (some ⟨[0, 1, 2, 10, 11, 12], []⟩) ⟨[], []⟩ .nil .nil) .nil))) .nil) .nil))
theorem E_siread_Table_lose (g0_t : Option Addr) (g1_owner : Int) (g2_such_f : Nat) (g2_such_c : Array Value) (h : Hp) (Q : List Value → Hp → Prop) : cw PP 36 (fun _ => []) (bodyOf Tryz.f118) A_siread_Table_lose (finQ PP (Tryz.f118.results.toList) Q) (argFr [(Value.pointer g0_t), (Value.int .i64 g1_owner), (Value.func (.func g2_such_f) #[] g2_such_c)]) h = F_siread_Table_lose g0_t g1_owner g2_such_f g2_such_c h Q := by kernel_rfl
theorem O_siread_Table_lose (g0_t : Option Addr) (g1_owner : Int) (g2_such_f : Nat) (g2_such_c : Array Value) {h : Hp} {Q : List Value → Hp → Prop} (H : F_siread_Table_lose g0_t g1_owner g2_such_f g2_such_c h Q) : S_siread_Table_lose g0_t g1_owner g2_such_f g2_such_c h Q :=
  fn_of_cw (hs := (fun _ => [])) (ann := A_siread_Table_lose) (args := [(Value.pointer g0_t), (Value.int .i64 g1_owner), (Value.func (.func g2_such_f) #[] g2_such_c)]) mixedPP Tryz.func118 (c := bodyOf Tryz.f118) (by kernel_rfl) (by kernel_rfl) (by kernel_rfl) (Eq.mpr (E_siread_Table_lose g0_t g1_owner g2_such_f g2_such_c h Q) H)
def F_siread_Table_count (g0_t : Option Addr) (g1_owner : Int) (g2_rel : Int) (h : Hp) (Q : List Value → Hp → Prop) : Prop :=
nilW g0_t fun a1 => ∃ r2 : Option Nat, rd h (Addr.add a1 2) = some (Value.map r2) ∧
∃ es3 : Array MapEntry, mapAt h r2 es3 ∧ KeysLike (Value.int .i64 g1_owner) es3 ∧ ∃ r4 : Option Nat, mgetD (Value.int .i64 g1_owner) es3 (Value.map none) = (Value.map r4) ∧
∃ o6 : Obj, IterOf h r4 o6 ∧ wth (Array.push h o6) fun h7 =>
∀ X8 : List Value → Hp → Prop, (∀ n9 : Int, ∀ h10 : Hp, ((Addr.off (Addr.mk (Array.size h) 0 none) = 0 ∧ ∃ o11 : Obj, h10[Addr.block (Addr.mk (Array.size h) 0 none)]? = some o11 ∧ IterGood h10 o11 ∧
      (IterEnd h10 o11 → Q [(Value.int .i64 n9)] h10) ∧
      ∀ (k12 v13 : Value) (o14 : Obj), IterStep h10 o11 k12 v13 o14 → wth (Array.setIfInBounds h10 (Addr.block (Addr.mk (Array.size h) 0 none)) o14) fun h15 =>
      (Addr.off (Addr.mk (Array.size h) 0 none) = 0 ∧ ∃ (m16 n17 : Nat) (q18 : Array Nat) (n19 : Nat) (es20 : Array MapEntry) (c21 : Nat) (e22 : MapEntry), h15[Addr.block (Addr.mk (Array.size h) 0 none)]? = some (.mapIter (some m16) n17 q18 c21) ∧ Array.back? q18 = some n19 ∧ h15[m16]? = some (.map es20 c21) ∧ Array.find? (fun x => x.born == n19) es20 = some e22 ∧ ∃ n23 : Int, ∃ s24 : ByteArray, ∃ n25 : Int, ∃ s26 : ByteArray, ∃ n27 : Int, e22.key = (Value.agg #[(Value.int .i64 n23), (Value.string s24), (Value.int .i64 n25), (Value.string s26), (Value.int .i64 n27)]) ∧ ∃ v28 : Value, e22.val = v28 ∧ wth (Array.push h15 (Obj.cells #[(Value.int .i64 (0 : Int)), (Value.string (ByteArray.mk #[])), (Value.int .i64 (0 : Int)), (Value.string (ByteArray.mk #[])), (Value.int .i64 (0 : Int))] T_siread_Thing)) fun h29 =>
        stOk h29 (Addr.mk (Array.size h15) 0 none) 5 ∧ wth (wrs h29 (Addr.mk (Array.size h15) 0 none) 0 [(Value.int .i64 n23), (Value.string s24), (Value.int .i64 n25), (Value.string s26), (Value.int .i64 n27)]) fun h30 =>
        ∀ J31 : List Value → Hp → Prop, (∀ b32 : Bool, ∀ h33 : Hp, ((if b32 = true then
              (X8 [(Value.int .i64 (IntKind.wrap .i64 (n9 + (1 : Int))))] h33) else
              (X8 [(Value.int .i64 n9)] h33))) → J31 [(Value.bool b32)] h33) →
        ∃ n34 : Int, rd h30 (Addr.add (Addr.mk (Array.size h15) 0 none) 0) = some (Value.int .i64 n34) ∧ ∃ s35 : ByteArray, rd h30 (Addr.add (Addr.mk (Array.size h15) 0 none) 1) = some (Value.string s35) ∧ ∃ n36 : Int, rd h30 (Addr.add (Addr.mk (Array.size h15) 0 none) 2) = some (Value.int .i64 n36) ∧ ∃ s37 : ByteArray, rd h30 (Addr.add (Addr.mk (Array.size h15) 0 none) 3) = some (Value.string s37) ∧ ∃ n38 : Int, rd h30 (Addr.add (Addr.mk (Array.size h15) 0 none) 4) = some (Value.int .i64 n38) ∧ S_siread_Thing_fine n34 s35 n36 s37 n38 h30 fun (vs39 : List Value) (h40 : Hp) =>
        ∃ b41 : Bool, vs39 = [(Value.bool b41)] ∧
        (if b41 = true then (∃ n42 : Int, rd h40 (Addr.add (Addr.mk (Array.size h15) 0 none) 2) = some (Value.int .i64 n42) ∧
            J31 [(Value.bool (n42 == g2_rel))] h40) else
          (J31 [(Value.bool false)] h40))))) → X8 [(Value.int .i64 n9)] h10) →
X8 [(Value.int .i64 (0 : Int))] h7
def A_siread_Table_count : Ann := (.mk none ⟨[], []⟩ .nil (.mk none ⟨[], []⟩ .nil (.mk none ⟨[], []⟩ (.mk none ⟨[], []⟩ .nil (.mk none ⟨[], []⟩ (.mk none ⟨[2, 15], [(7, (.c (.int .i64)))]⟩ (.mk none ⟨[], []⟩ .nil (.mk none ⟨[], []⟩ .nil (.mk none ⟨[], []⟩ (.mk none ⟨[], []⟩ .nil (.mk none ⟨[], []⟩ (.mk (some ⟨[2, 7, 15], [(27, (.c .bool))]⟩) ⟨[], []⟩ .nil .nil) .nil)) .nil))) .nil) .nil)) .nil)))
theorem E_siread_Table_count (g0_t : Option Addr) (g1_owner : Int) (g2_rel : Int) (h : Hp) (Q : List Value → Hp → Prop) : cw PP 31 (fun d => if d = 18 then [(.agg [(.int .i64), .str, (.int .i64), .str, (.int .i64)]), (.c .any)] else []) (bodyOf Tryz.f149) A_siread_Table_count (finQ PP (Tryz.f149.results.toList) Q) (argFr [(Value.pointer g0_t), (Value.int .i64 g1_owner), (Value.int .i64 g2_rel)]) h = F_siread_Table_count g0_t g1_owner g2_rel h Q := by kernel_rfl
theorem O_siread_Table_count (g0_t : Option Addr) (g1_owner : Int) (g2_rel : Int) {h : Hp} {Q : List Value → Hp → Prop} (H : F_siread_Table_count g0_t g1_owner g2_rel h Q) : S_siread_Table_count g0_t g1_owner g2_rel h Q :=
  fn_of_cw (hs := (fun d => if d = 18 then [(.agg [(.int .i64), .str, (.int .i64), .str, (.int .i64)]), (.c .any)] else [])) (ann := A_siread_Table_count) (args := [(Value.pointer g0_t), (Value.int .i64 g1_owner), (Value.int .i64 g2_rel)]) mixedPP Tryz.func149 (c := bodyOf Tryz.f149) (by kernel_rfl) (by kernel_rfl) (by kernel_rfl) (Eq.mpr (E_siread_Table_count g0_t g1_owner g2_rel h Q) H)
def F_siread_Table_take (g0_t : Option Addr) (g1_owner : Int) (g2_x_0 : Int) (g2_x_1 : ByteArray) (g2_x_2 : Int) (g2_x_3 : ByteArray) (g2_x_4 : Int) (h : Hp) (Q : List Value → Hp → Prop) : Prop :=
wth (Array.push h (Obj.cells #[(Value.int .i64 g2_x_0), (Value.string g2_x_1), (Value.int .i64 g2_x_2), (Value.string g2_x_3), (Value.int .i64 g2_x_4)] T_siread_Thing)) fun h1 =>
∀ J2 : List Value → Hp → Prop, (∀ b3 : Bool, ∀ h4 : Hp, ((if b3 = true then
      (Q [] h4) else
      (nilW g0_t fun a5 => ∃ r6 : Option Nat, rd h4 (Addr.add a5 2) = some (Value.map r6) ∧
        ∃ es7 : Array MapEntry, mapAt h4 r6 es7 ∧ KeysLike (Value.int .i64 g1_owner) es7 ∧ ∃ r8 : Option Nat, mgetD (Value.int .i64 g1_owner) es7 (Value.map none) = (Value.map r8) ∧
        ∀ J10 : List Value → Hp → Prop, (∀ r11 : Option Nat, ∀ h12 : Hp, (∀ J13 : List Value → Hp → Prop, (∀ b14 : Bool, ∀ h15 : Hp, ((if b14 = true then
                  (Q [] h15) else
                  (∃ n16 : Int, rd h15 (Addr.add (Addr.mk (Array.size h) 0 none) 0) = some (Value.int .i64 n16) ∧ ∃ s17 : ByteArray, rd h15 (Addr.add (Addr.mk (Array.size h) 0 none) 1) = some (Value.string s17) ∧ ∃ n18 : Int, rd h15 (Addr.add (Addr.mk (Array.size h) 0 none) 2) = some (Value.int .i64 n18) ∧ ∃ s19 : ByteArray, rd h15 (Addr.add (Addr.mk (Array.size h) 0 none) 3) = some (Value.string s19) ∧ ∃ n20 : Int, rd h15 (Addr.add (Addr.mk (Array.size h) 0 none) 4) = some (Value.int .i64 n20) ∧ S_siread_Thing_fine n16 s17 n18 s19 n20 h15 fun (vs21 : List Value) (h22 : Hp) =>
                    ∃ b23 : Bool, vs21 = [(Value.bool b23)] ∧
                    ∀ J24 : List Value → Hp → Prop, (∀ h25 : Hp, (∃ n26 : Int, rd h25 (Addr.add (Addr.mk (Array.size h) 0 none) 0) = some (Value.int .i64 n26) ∧
                        ∀ J27 : List Value → Hp → Prop, (∀ h28 : Hp, (nilW g0_t fun a29 => ∃ r30 : Option Nat, rd h28 (Addr.add a29 2) = some (Value.map r30) ∧
                            ∃ es31 : Array MapEntry, mapAt h28 r30 es31 ∧ KeysLike (Value.int .i64 g1_owner) es31 ∧ ∃ r32 : Option Nat, mgetD (Value.int .i64 g1_owner) es31 (Value.map none) = (Value.map r32) ∧
                            ∃ n34 : Int, rd h28 (Addr.add (Addr.mk (Array.size h) 0 none) 0) = some (Value.int .i64 n34) ∧ ∃ s35 : ByteArray, rd h28 (Addr.add (Addr.mk (Array.size h) 0 none) 1) = some (Value.string s35) ∧ ∃ n36 : Int, rd h28 (Addr.add (Addr.mk (Array.size h) 0 none) 2) = some (Value.int .i64 n36) ∧ ∃ s37 : ByteArray, rd h28 (Addr.add (Addr.mk (Array.size h) 0 none) 3) = some (Value.string s37) ∧ ∃ n38 : Int, rd h28 (Addr.add (Addr.mk (Array.size h) 0 none) 4) = some (Value.int .i64 n38) ∧ ∃ (m39 : Nat) (es40 : Array MapEntry) (c41 : Nat), r32 = some m39 ∧ h28[m39]? = some (.map es40 c41) ∧ KeysLike (Value.agg #[(Value.int .i64 n34), (Value.string s35), (Value.int .i64 n36), (Value.string s37), (Value.int .i64 n38)]) es40 ∧ wth (Array.setIfInBounds h28 m39 (mput (Value.agg #[(Value.int .i64 n34), (Value.string s35), (Value.int .i64 n36), (Value.string s37), (Value.int .i64 n38)]) (Value.int .i64 (1 : Int)) es40 c41)) fun h42 =>
                            Q [] h42) → J27 [] h28) →
                        (if (n26 == (2 : Int)) = true then
                          (S_siread_Table_lose g0_t g1_owner 150 #[(Value.pointer (some (Addr.mk (Array.size h) 0 none)))] h25 fun (vs43 : List Value) (h44 : Hp) =>
                            vs43 = [] ∧
                            J27 [] h44) else
                          (J27 [] h25))) → J24 [] h25) →
                    (if b23 = true then
                      (∀ J45 : List Value → Hp → Prop, (∀ b46 : Bool, ∀ h47 : Hp, ((if b46 = true then
                              (∃ n48 : Int, rd h47 (Addr.add (Addr.mk (Array.size h) 0 none) 0) = some (Value.int .i64 n48) ∧ ∃ s49 : ByteArray, rd h47 (Addr.add (Addr.mk (Array.size h) 0 none) 1) = some (Value.string s49) ∧ ∃ n50 : Int, rd h47 (Addr.add (Addr.mk (Array.size h) 0 none) 2) = some (Value.int .i64 n50) ∧ ∃ s51 : ByteArray, rd h47 (Addr.add (Addr.mk (Array.size h) 0 none) 3) = some (Value.string s51) ∧ ∃ n52 : Int, rd h47 (Addr.add (Addr.mk (Array.size h) 0 none) 4) = some (Value.int .i64 n52) ∧ ∃ (m53 : Nat) (es54 : Array MapEntry) (c55 : Nat), r11 = some m53 ∧ h47[m53]? = some (.map es54 c55) ∧ KeysLike (Value.agg #[(Value.int .i64 n48), (Value.string s49), (Value.int .i64 n50), (Value.string s51), (Value.int .i64 n52)]) es54 ∧ wth (Array.setIfInBounds h47 m53 (mput (Value.agg #[(Value.int .i64 n48), (Value.string s49), (Value.int .i64 n50), (Value.string s51), (Value.int .i64 n52)]) (Value.int .i64 (1 : Int)) es54 c55)) fun h56 =>
                                nilW g0_t fun a57 => ∃ n58 : Int, rd h56 (Addr.add a57 3) = some (Value.int .i64 n58) ∧
                                nilW g0_t fun a59 => stOk h56 (Addr.add a59 3) 1 ∧ wth (wrs h56 (Addr.add a59 3) 0 [(Value.int .i64 (IntKind.wrap .i64 (n58 + (1 : Int))))]) fun h60 =>
                                Q [] h60) else
                              (∃ n61 : Int, rd h47 (Addr.add (Addr.mk (Array.size h) 0 none) 0) = some (Value.int .i64 n61) ∧ ∃ s62 : ByteArray, rd h47 (Addr.add (Addr.mk (Array.size h) 0 none) 1) = some (Value.string s62) ∧ ∃ n63 : Int, rd h47 (Addr.add (Addr.mk (Array.size h) 0 none) 2) = some (Value.int .i64 n63) ∧ ∃ s64 : ByteArray, rd h47 (Addr.add (Addr.mk (Array.size h) 0 none) 3) = some (Value.string s64) ∧ ∃ n65 : Int, rd h47 (Addr.add (Addr.mk (Array.size h) 0 none) 4) = some (Value.int .i64 n65) ∧ S_siread_Thing_rel n61 s62 n63 s64 n65 h47 fun (vs66 : List Value) (h67 : Hp) =>
                                ∃ n68 : Int, ∃ s69 : ByteArray, ∃ n70 : Int, ∃ s71 : ByteArray, ∃ n72 : Int, vs66 = [(Value.agg #[(Value.int .i64 n68), (Value.string s69), (Value.int .i64 n70), (Value.string s71), (Value.int .i64 n72)])] ∧
                                stOk h67 (Addr.mk (Array.size h) 0 none) 5 ∧ wth (wrs h67 (Addr.mk (Array.size h) 0 none) 0 [(Value.int .i64 n68), (Value.string s69), (Value.int .i64 n70), (Value.string s71), (Value.int .i64 n72)]) fun h73 =>
                                J24 [] h73))) → J45 [(Value.bool b46)] h47) →
                        ∃ n74 : Int, rd h22 (Addr.add (Addr.mk (Array.size h) 0 none) 2) = some (Value.int .i64 n74) ∧
                        nilW g0_t fun a75 => ∃ n76 : Int, rd h22 (Addr.add a75 0) = some (Value.int .i64 n76) ∧
                        S_siread_Table_count g0_t g1_owner n74 h22 fun (vs77 : List Value) (h78 : Hp) =>
                        ∃ n79 : Int, vs77 = [(Value.int .i64 n79)] ∧
                        rd h78 (Addr.add a75 0) = some (Value.int .i64 n76) ∧ (if (decide (n79 < n76)) = true then (nilW g0_t fun a80 => ∃ n81 : Int, rd h78 (Addr.add a80 3) = some (Value.int .i64 n81) ∧
                            nilW g0_t fun a82 => ∃ n83 : Int, rd h78 (Addr.add a82 1) = some (Value.int .i64 n83) ∧
                            J45 [(Value.bool (decide (n81 < n83)))] h78) else
                          (J45 [(Value.bool false)] h78))) else
                      (J24 [] h22))))) → J13 [(Value.bool b14)] h15) →
            ∃ n84 : Int, rd h12 (Addr.add (Addr.mk (Array.size h) 0 none) 0) = some (Value.int .i64 n84) ∧ ∃ s85 : ByteArray, rd h12 (Addr.add (Addr.mk (Array.size h) 0 none) 1) = some (Value.string s85) ∧ ∃ n86 : Int, rd h12 (Addr.add (Addr.mk (Array.size h) 0 none) 2) = some (Value.int .i64 n86) ∧ ∃ s87 : ByteArray, rd h12 (Addr.add (Addr.mk (Array.size h) 0 none) 3) = some (Value.string s87) ∧ ∃ n88 : Int, rd h12 (Addr.add (Addr.mk (Array.size h) 0 none) 4) = some (Value.int .i64 n88) ∧ ∃ es89 : Array MapEntry, mapAt h12 r11 es89 ∧ KeysLike (Value.agg #[(Value.int .i64 n84), (Value.string s85), (Value.int .i64 n86), (Value.string s87), (Value.int .i64 n88)]) es89 ∧ ∃ n90 : Int, mgetD (Value.agg #[(Value.int .i64 n84), (Value.string s85), (Value.int .i64 n86), (Value.string s87), (Value.int .i64 n88)]) es89 (Value.int .i64 (0 : Int)) = (Value.int .i64 n90) ∧
            (if (decide (n90 > (0 : Int))) = true then (J13 [(Value.bool true)] h12) else
              (∃ n92 : Int, rd h12 (Addr.add (Addr.mk (Array.size h) 0 none) 0) = some (Value.int .i64 n92) ∧ ∃ s93 : ByteArray, rd h12 (Addr.add (Addr.mk (Array.size h) 0 none) 1) = some (Value.string s93) ∧ ∃ n94 : Int, rd h12 (Addr.add (Addr.mk (Array.size h) 0 none) 2) = some (Value.int .i64 n94) ∧ ∃ s95 : ByteArray, rd h12 (Addr.add (Addr.mk (Array.size h) 0 none) 3) = some (Value.string s95) ∧ ∃ n96 : Int, rd h12 (Addr.add (Addr.mk (Array.size h) 0 none) 4) = some (Value.int .i64 n96) ∧ S_siread_Thing_fine n92 s93 n94 s95 n96 h12 fun (vs97 : List Value) (h98 : Hp) =>
                ∃ b99 : Bool, vs97 = [(Value.bool b99)] ∧
                (if b99 = true then (∃ n100 : Int, rd h98 (Addr.add (Addr.mk (Array.size h) 0 none) 0) = some (Value.int .i64 n100) ∧ ∃ s101 : ByteArray, rd h98 (Addr.add (Addr.mk (Array.size h) 0 none) 1) = some (Value.string s101) ∧ ∃ n102 : Int, rd h98 (Addr.add (Addr.mk (Array.size h) 0 none) 2) = some (Value.int .i64 n102) ∧ ∃ s103 : ByteArray, rd h98 (Addr.add (Addr.mk (Array.size h) 0 none) 3) = some (Value.string s103) ∧ ∃ n104 : Int, rd h98 (Addr.add (Addr.mk (Array.size h) 0 none) 4) = some (Value.int .i64 n104) ∧ S_siread_Thing_rel n100 s101 n102 s103 n104 h98 fun (vs105 : List Value) (h106 : Hp) =>
                    ∃ n107 : Int, ∃ s108 : ByteArray, ∃ n109 : Int, ∃ s110 : ByteArray, ∃ n111 : Int, vs105 = [(Value.agg #[(Value.int .i64 n107), (Value.string s108), (Value.int .i64 n109), (Value.string s110), (Value.int .i64 n111)])] ∧
                    ∃ es112 : Array MapEntry, mapAt h106 r11 es112 ∧ KeysLike (Value.agg #[(Value.int .i64 n107), (Value.string s108), (Value.int .i64 n109), (Value.string s110), (Value.int .i64 n111)]) es112 ∧ ∃ n113 : Int, mgetD (Value.agg #[(Value.int .i64 n107), (Value.string s108), (Value.int .i64 n109), (Value.string s110), (Value.int .i64 n111)]) es112 (Value.int .i64 (0 : Int)) = (Value.int .i64 n113) ∧
                    J13 [(Value.bool (decide (n113 > (0 : Int))))] h106) else
                  (J13 [(Value.bool false)] h98))))) → J10 [(Value.map r11)] h12) →
        (if (Option.isNone r8) = true then
          (wth (Array.push h4 (Obj.map #[] 0)) fun h115 =>
            nilW g0_t fun a116 => ∃ r117 : Option Nat, rd h115 (Addr.add a116 2) = some (Value.map r117) ∧
            ∃ (m118 : Nat) (es119 : Array MapEntry) (c120 : Nat), r117 = some m118 ∧ h115[m118]? = some (.map es119 c120) ∧ KeysLike (Value.int .i64 g1_owner) es119 ∧ wth (Array.setIfInBounds h115 m118 (mput (Value.int .i64 g1_owner) (Value.map (some (Array.size h4))) es119 c120)) fun h121 =>
            J10 [(Value.map (some (Array.size h4)))] h121) else
          (J10 [(Value.map r8)] h4))))) → J2 [(Value.bool b3)] h4) →
∃ n122 : Int, rd h1 (Addr.add (Addr.mk (Array.size h) 0 none) 0) = some (Value.int .i64 n122) ∧
(if (decide (n122 < (1 : Int))) = true then (J2 [(Value.bool true)] h1) else
  (∃ n123 : Int, rd h1 (Addr.add (Addr.mk (Array.size h) 0 none) 0) = some (Value.int .i64 n123) ∧
    J2 [(Value.bool (decide (n123 > (4 : Int))))] h1))
def A_siread_Table_take : Ann := (.mk none ⟨[], []⟩ .nil (.mk none ⟨[], []⟩ (.mk none ⟨[], []⟩ (.mk (some ⟨[0, 1, 5], [(14, (.c .bool))]⟩) ⟨[], []⟩ .nil .nil) .nil) (.mk none ⟨[], []⟩ .nil (.mk none ⟨[], []⟩ (.mk none ⟨[], []⟩ .nil (.mk (some ⟨[0, 1, 5], [(6, (.c .map))]⟩) ⟨[], []⟩ .nil .nil)) (.mk none ⟨[], []⟩ (.mk none ⟨[], []⟩ (.mk (some ⟨[0, 1, 5, 6], [(44, (.c .bool))]⟩) ⟨[], []⟩ .nil .nil) .nil) (.mk none ⟨[], []⟩ (.mk none ⟨[], []⟩ .nil (.mk (some ⟨[0, 1, 5], []⟩) ⟨[], []⟩ (.mk none ⟨[], []⟩ (.mk none ⟨[], []⟩ (.mk (some ⟨[0, 1, 5, 6], [(67, (.c .bool))]⟩) ⟨[], []⟩ .nil .nil) .nil) .nil) .nil)) (.mk none ⟨[], []⟩ (.mk none ⟨[], []⟩ .nil (.mk (some ⟨[0, 1, 5], []⟩) ⟨[], []⟩ .nil .nil)) .nil)))))))
theorem E_siread_Table_take (g0_t : Option Addr) (g1_owner : Int) (g2_x_0 : Int) (g2_x_1 : ByteArray) (g2_x_2 : Int) (g2_x_3 : ByteArray) (g2_x_4 : Int) (h : Hp) (Q : List Value → Hp → Prop) : cw PP 93 (fun _ => []) (bodyOf Tryz.f105) A_siread_Table_take (finQ PP (Tryz.f105.results.toList) Q) (argFr [(Value.pointer g0_t), (Value.int .i64 g1_owner), (Value.agg #[(Value.int .i64 g2_x_0), (Value.string g2_x_1), (Value.int .i64 g2_x_2), (Value.string g2_x_3), (Value.int .i64 g2_x_4)])]) h = F_siread_Table_take g0_t g1_owner g2_x_0 g2_x_1 g2_x_2 g2_x_3 g2_x_4 h Q := by kernel_rfl
theorem O_siread_Table_take (g0_t : Option Addr) (g1_owner : Int) (g2_x_0 : Int) (g2_x_1 : ByteArray) (g2_x_2 : Int) (g2_x_3 : ByteArray) (g2_x_4 : Int) {h : Hp} {Q : List Value → Hp → Prop} (H : F_siread_Table_take g0_t g1_owner g2_x_0 g2_x_1 g2_x_2 g2_x_3 g2_x_4 h Q) : S_siread_Table_take g0_t g1_owner g2_x_0 g2_x_1 g2_x_2 g2_x_3 g2_x_4 h Q :=
  fn_of_cw (hs := (fun _ => [])) (ann := A_siread_Table_take) (args := [(Value.pointer g0_t), (Value.int .i64 g1_owner), (Value.agg #[(Value.int .i64 g2_x_0), (Value.string g2_x_1), (Value.int .i64 g2_x_2), (Value.string g2_x_3), (Value.int .i64 g2_x_4)])]) mixedPP Tryz.func105 (c := bodyOf Tryz.f105) (by kernel_rfl) (by kernel_rfl) (by kernel_rfl) (Eq.mpr (E_siread_Table_take g0_t g1_owner g2_x_0 g2_x_1 g2_x_2 g2_x_3 g2_x_4 h Q) H)
def F_siread_Table_Take (g0_t : Option Addr) (g1_xid : Int) (g2_x_0 : Int) (g2_x_1 : ByteArray) (g2_x_2 : Int) (g2_x_3 : ByteArray) (g2_x_4 : Int) (h : Hp) (Q : List Value → Hp → Prop) : Prop :=
wth (Array.push h (Obj.cells #[(Value.int .i64 g2_x_0), (Value.string g2_x_1), (Value.int .i64 g2_x_2), (Value.string g2_x_3), (Value.int .i64 g2_x_4)] T_siread_Thing)) fun h1 =>
∀ J2 : List Value → Hp → Prop, (∀ b3 : Bool, ∀ h4 : Hp, ((if b3 = true then
      (Q [(Value.int .i64 (1 : Int))] h4) else
      (∃ n5 : Int, rd h4 (Addr.add (Addr.mk (Array.size h) 0 none) 0) = some (Value.int .i64 n5) ∧ ∃ s6 : ByteArray, rd h4 (Addr.add (Addr.mk (Array.size h) 0 none) 1) = some (Value.string s6) ∧ ∃ n7 : Int, rd h4 (Addr.add (Addr.mk (Array.size h) 0 none) 2) = some (Value.int .i64 n7) ∧ ∃ s8 : ByteArray, rd h4 (Addr.add (Addr.mk (Array.size h) 0 none) 3) = some (Value.string s8) ∧ ∃ n9 : Int, rd h4 (Addr.add (Addr.mk (Array.size h) 0 none) 4) = some (Value.int .i64 n9) ∧ S_siread_Table_take g0_t g1_xid n5 s6 n7 s8 n9 h4 fun (vs10 : List Value) (h11 : Hp) =>
        vs10 = [] ∧
        Q [(Value.int .i64 (0 : Int))] h11))) → J2 [(Value.bool b3)] h4) →
(if (Option.isNone g0_t) = true then (J2 [(Value.bool true)] h1) else
  (S_siread_one g1_xid h1 fun (vs12 : List Value) (h13 : Hp) =>
    ∃ b14 : Bool, vs12 = [(Value.bool b14)] ∧
    (if (!b14) = true then (J2 [(Value.bool true)] h13) else
      (∃ n15 : Int, rd h13 (Addr.add (Addr.mk (Array.size h) 0 none) 0) = some (Value.int .i64 n15) ∧
        (if (decide (n15 < (1 : Int))) = true then (J2 [(Value.bool true)] h13) else
          (∃ n16 : Int, rd h13 (Addr.add (Addr.mk (Array.size h) 0 none) 0) = some (Value.int .i64 n16) ∧
            J2 [(Value.bool (decide (n16 > (4 : Int))))] h13))))))
def A_siread_Table_Take : Ann := (.mk none ⟨[], []⟩ .nil (.mk none ⟨[], []⟩ (.mk none ⟨[], []⟩ (.mk (some ⟨[0, 1, 5], [(23, (.c .bool))]⟩) ⟨[], []⟩ .nil .nil) .nil) .nil))
theorem E_siread_Table_Take (g0_t : Option Addr) (g1_xid : Int) (g2_x_0 : Int) (g2_x_1 : ByteArray) (g2_x_2 : Int) (g2_x_3 : ByteArray) (g2_x_4 : Int) (h : Hp) (Q : List Value → Hp → Prop) : cw PP 28 (fun _ => []) (bodyOf Tryz.f55) A_siread_Table_Take (finQ PP (Tryz.f55.results.toList) Q) (argFr [(Value.pointer g0_t), (Value.int .i64 g1_xid), (Value.agg #[(Value.int .i64 g2_x_0), (Value.string g2_x_1), (Value.int .i64 g2_x_2), (Value.string g2_x_3), (Value.int .i64 g2_x_4)])]) h = F_siread_Table_Take g0_t g1_xid g2_x_0 g2_x_1 g2_x_2 g2_x_3 g2_x_4 h Q := by kernel_rfl
theorem O_siread_Table_Take (g0_t : Option Addr) (g1_xid : Int) (g2_x_0 : Int) (g2_x_1 : ByteArray) (g2_x_2 : Int) (g2_x_3 : ByteArray) (g2_x_4 : Int) {h : Hp} {Q : List Value → Hp → Prop} (H : F_siread_Table_Take g0_t g1_xid g2_x_0 g2_x_1 g2_x_2 g2_x_3 g2_x_4 h Q) : S_siread_Table_Take g0_t g1_xid g2_x_0 g2_x_1 g2_x_2 g2_x_3 g2_x_4 h Q :=
  fn_of_cw (hs := (fun _ => [])) (ann := A_siread_Table_Take) (args := [(Value.pointer g0_t), (Value.int .i64 g1_xid), (Value.agg #[(Value.int .i64 g2_x_0), (Value.string g2_x_1), (Value.int .i64 g2_x_2), (Value.string g2_x_3), (Value.int .i64 g2_x_4)])]) mixedPP Tryz.func55 (c := bodyOf Tryz.f55) (by kernel_rfl) (by kernel_rfl) (by kernel_rfl) (Eq.mpr (E_siread_Table_Take g0_t g1_xid g2_x_0 g2_x_1 g2_x_2 g2_x_3 g2_x_4 h Q) H)
def F_ssi_Ssi_Read (g0_s : Option Addr) (g1_xid : Int) (g2_x_0 : Int) (g2_x_1 : ByteArray) (g2_x_2 : Int) (g2_x_3 : ByteArray) (g2_x_4 : Int) (h : Hp) (Q : List Value → Hp → Prop) : Prop :=
wth (Array.push h (Obj.cells #[(Value.int .i64 g2_x_0), (Value.string g2_x_1), (Value.int .i64 g2_x_2), (Value.string g2_x_3), (Value.int .i64 g2_x_4)] T_siread_Thing)) fun h1 =>
∀ J2 : List Value → Hp → Prop, (∀ b3 : Bool, ∀ h4 : Hp, ((if b3 = true then
      (nilW g0_s fun a5 => ∃ p6 : Option Addr, rd h4 (Addr.add a5 1) = some (Value.pointer p6) ∧
        ∃ n7 : Int, rd h4 (Addr.add (Addr.mk (Array.size h) 0 none) 0) = some (Value.int .i64 n7) ∧ ∃ s8 : ByteArray, rd h4 (Addr.add (Addr.mk (Array.size h) 0 none) 1) = some (Value.string s8) ∧ ∃ n9 : Int, rd h4 (Addr.add (Addr.mk (Array.size h) 0 none) 2) = some (Value.int .i64 n9) ∧ ∃ s10 : ByteArray, rd h4 (Addr.add (Addr.mk (Array.size h) 0 none) 3) = some (Value.string s10) ∧ ∃ n11 : Int, rd h4 (Addr.add (Addr.mk (Array.size h) 0 none) 4) = some (Value.int .i64 n11) ∧ S_siread_Table_Take p6 g1_xid n7 s8 n9 s10 n11 h4 fun (vs12 : List Value) (h13 : Hp) =>
        ∃ n14 : Int, vs12 = [(Value.int .i64 n14)] ∧
        Q [] h13) else
      (Q [] h4))) → J2 [(Value.bool b3)] h4) →
S_ssi_Ssi_runs g0_s g1_xid h1 fun (vs15 : List Value) (h16 : Hp) =>
∃ b17 : Bool, vs15 = [(Value.bool b17)] ∧
(if b17 = true then (nilW g0_s fun a18 => ∃ r19 : Option Nat, rd h16 (Addr.add a18 6) = some (Value.map r19) ∧
    ∃ es20 : Array MapEntry, mapAt h16 r19 es20 ∧ KeysLike (Value.int .i64 g1_xid) es20 ∧ ∃ n21 : Int, mgetD (Value.int .i64 g1_xid) es20 (Value.int .i64 (0 : Int)) = (Value.int .i64 n21) ∧
    J2 [(Value.bool (n21 == (0 : Int)))] h16) else
  (J2 [(Value.bool false)] h16))
def A_ssi_Ssi_Read : Ann := (.mk none ⟨[], []⟩ .nil (.mk none ⟨[], []⟩ (.mk (some ⟨[0, 1, 5], [(17, (.c .bool))]⟩) ⟨[], []⟩ .nil .nil) .nil))
theorem E_ssi_Ssi_Read (g0_s : Option Addr) (g1_xid : Int) (g2_x_0 : Int) (g2_x_1 : ByteArray) (g2_x_2 : Int) (g2_x_3 : ByteArray) (g2_x_4 : Int) (h : Hp) (Q : List Value → Hp → Prop) : cw PP 25 (fun _ => []) (bodyOf Tryz.f14) A_ssi_Ssi_Read (finQ PP (Tryz.f14.results.toList) Q) (argFr [(Value.pointer g0_s), (Value.int .i64 g1_xid), (Value.agg #[(Value.int .i64 g2_x_0), (Value.string g2_x_1), (Value.int .i64 g2_x_2), (Value.string g2_x_3), (Value.int .i64 g2_x_4)])]) h = F_ssi_Ssi_Read g0_s g1_xid g2_x_0 g2_x_1 g2_x_2 g2_x_3 g2_x_4 h Q := by kernel_rfl
theorem O_ssi_Ssi_Read (g0_s : Option Addr) (g1_xid : Int) (g2_x_0 : Int) (g2_x_1 : ByteArray) (g2_x_2 : Int) (g2_x_3 : ByteArray) (g2_x_4 : Int) {h : Hp} {Q : List Value → Hp → Prop} (H : F_ssi_Ssi_Read g0_s g1_xid g2_x_0 g2_x_1 g2_x_2 g2_x_3 g2_x_4 h Q) : S_ssi_Ssi_Read g0_s g1_xid g2_x_0 g2_x_1 g2_x_2 g2_x_3 g2_x_4 h Q :=
  fn_of_cw (hs := (fun _ => [])) (ann := A_ssi_Ssi_Read) (args := [(Value.pointer g0_s), (Value.int .i64 g1_xid), (Value.agg #[(Value.int .i64 g2_x_0), (Value.string g2_x_1), (Value.int .i64 g2_x_2), (Value.string g2_x_3), (Value.int .i64 g2_x_4)])]) mixedPP Tryz.func14 (c := bodyOf Tryz.f14) (by kernel_rfl) (by kernel_rfl) (by kernel_rfl) (Eq.mpr (E_ssi_Ssi_Read g0_s g1_xid g2_x_0 g2_x_1 g2_x_2 g2_x_3 g2_x_4 h Q) H)
def F_siread_Table_Old (g0_t : Option Addr) (h : Hp) (Q : List Value → Hp → Prop) : Prop :=
(if (Option.isNone g0_t) = true then
  (Q [(Value.int .i64 (0 : Int))] h) else
  (nilW g0_t fun a1 => ∃ n2 : Int, rd h (Addr.add a1 4) = some (Value.int .i64 n2) ∧
    Q [(Value.int .i64 n2)] h))
def A_siread_Table_Old : Ann := .nil
theorem E_siread_Table_Old (g0_t : Option Addr) (h : Hp) (Q : List Value → Hp → Prop) : cw PP 9 (fun _ => []) (bodyOf Tryz.f37) A_siread_Table_Old (finQ PP (Tryz.f37.results.toList) Q) (argFr [(Value.pointer g0_t)]) h = F_siread_Table_Old g0_t h Q := by kernel_rfl
theorem O_siread_Table_Old (g0_t : Option Addr) {h : Hp} {Q : List Value → Hp → Prop} (H : F_siread_Table_Old g0_t h Q) : S_siread_Table_Old g0_t h Q :=
  fn_of_cw (hs := (fun _ => [])) (ann := A_siread_Table_Old) (args := [(Value.pointer g0_t)]) mixedPP Tryz.func37 (c := bodyOf Tryz.f37) (by kernel_rfl) (by kernel_rfl) (by kernel_rfl) (Eq.mpr (E_siread_Table_Old g0_t h Q) H)
def F_cmp_isNaN_int (g0_x : Int) (h : Hp) (Q : List Value → Hp → Prop) : Prop :=
Q [(Value.bool (g0_x != g0_x))] h
def A_cmp_isNaN_int : Ann := .nil
theorem E_cmp_isNaN_int (g0_x : Int) (h : Hp) (Q : List Value → Hp → Prop) : cw PP 6 (fun _ => []) (bodyOf Tryz.f125) A_cmp_isNaN_int (finQ PP (Tryz.f125.results.toList) Q) (argFr [(Value.int .i64 g0_x)]) h = F_cmp_isNaN_int g0_x h Q := by kernel_rfl
theorem O_cmp_isNaN_int (g0_x : Int) {h : Hp} {Q : List Value → Hp → Prop} (H : F_cmp_isNaN_int g0_x h Q) : S_cmp_isNaN_int g0_x h Q :=
  fn_of_cw (hs := (fun _ => [])) (ann := A_cmp_isNaN_int) (args := [(Value.int .i64 g0_x)]) mixedPP Tryz.func125 (c := bodyOf Tryz.f125) (by kernel_rfl) (by kernel_rfl) (by kernel_rfl) (Eq.mpr (E_cmp_isNaN_int g0_x h Q) H)
def F_siread_Table_owners (g0_t : Option Addr) (g1_such_f : Nat) (g1_such_c : Array Value) (h : Hp) (Q : List Value → Hp → Prop) : Prop :=
nilW g0_t fun a1 => ∃ r2 : Option Nat, rd h (Addr.add a1 2) = some (Value.map r2) ∧
∃ o3 : Obj, IterOf h r2 o3 ∧ wth (Array.push h o3) fun h4 =>
∀ X5 : List Value → Hp → Prop, (∀ l6 : Sl, ∀ h7 : Hp, ((Addr.off (Addr.mk (Array.size h) 0 none) = 0 ∧ ∃ o8 : Obj, h7[Addr.block (Addr.mk (Array.size h) 0 none)]? = some o8 ∧ IterGood h7 o8 ∧
      (IterEnd h7 o8 → S_slices_Sort_sint_int ⟨l6.a, l6.n, l6.c⟩ h7 fun (vs12 : List Value) (h13 : Hp) =>
        vs12 = [] ∧
        Q [(Value.slice l6.a l6.n l6.c)] h13) ∧
      ∀ (k9 v10 : Value) (o11 : Obj), IterStep h7 o8 k9 v10 o11 → wth (Array.setIfInBounds h7 (Addr.block (Addr.mk (Array.size h) 0 none)) o11) fun h14 =>
      (Addr.off (Addr.mk (Array.size h) 0 none) = 0 ∧ ∃ (m15 n16 : Nat) (q17 : Array Nat) (n18 : Nat) (es19 : Array MapEntry) (c20 : Nat) (e21 : MapEntry), h14[Addr.block (Addr.mk (Array.size h) 0 none)]? = some (.mapIter (some m15) n16 q17 c20) ∧ Array.back? q17 = some n18 ∧ h14[m15]? = some (.map es19 c20) ∧ Array.find? (fun x => x.born == n18) es19 = some e21 ∧ ∃ n22 : Int, e21.key = (Value.int .i64 n22) ∧ ∃ r23 : Option Nat, e21.val = (Value.map r23) ∧ ∃ o24 : Obj, IterOf h14 r23 o24 ∧ wth (Array.push h14 o24) fun h25 =>
        ∀ X26 : List Value → Hp → Prop, (∀ l27 : Sl, ∀ h28 : Hp, ((Addr.off (Addr.mk (Array.size h14) 0 none) = 0 ∧ ∃ o29 : Obj, h28[Addr.block (Addr.mk (Array.size h14) 0 none)]? = some o29 ∧ IterGood h28 o29 ∧
              (IterEnd h28 o29 → X5 [(Value.slice l27.a l27.n l27.c)] h28) ∧
              ∀ (k30 v31 : Value) (o32 : Obj), IterStep h28 o29 k30 v31 o32 → wth (Array.setIfInBounds h28 (Addr.block (Addr.mk (Array.size h14) 0 none)) o32) fun h33 =>
              (Addr.off (Addr.mk (Array.size h14) 0 none) = 0 ∧ ∃ (m34 n35 : Nat) (q36 : Array Nat) (n37 : Nat) (es38 : Array MapEntry) (c39 : Nat) (e40 : MapEntry), h33[Addr.block (Addr.mk (Array.size h14) 0 none)]? = some (.mapIter (some m34) n35 q36 c39) ∧ Array.back? q36 = some n37 ∧ h33[m34]? = some (.map es38 c39) ∧ Array.find? (fun x => x.born == n37) es38 = some e40 ∧ ∃ n41 : Int, ∃ s42 : ByteArray, ∃ n43 : Int, ∃ s44 : ByteArray, ∃ n45 : Int, e40.key = (Value.agg #[(Value.int .i64 n41), (Value.string s42), (Value.int .i64 n43), (Value.string s44), (Value.int .i64 n45)]) ∧ ∃ v46 : Value, e40.val = v46 ∧ wth (Array.push h33 (Obj.cells #[(Value.int .i64 (0 : Int)), (Value.string (ByteArray.mk #[])), (Value.int .i64 (0 : Int)), (Value.string (ByteArray.mk #[])), (Value.int .i64 (0 : Int))] T_siread_Thing)) fun h47 =>
                stOk h47 (Addr.mk (Array.size h33) 0 none) 5 ∧ wth (wrs h47 (Addr.mk (Array.size h33) 0 none) 0 [(Value.int .i64 n41), (Value.string s42), (Value.int .i64 n43), (Value.string s44), (Value.int .i64 n45)]) fun h48 =>
                ∃ n49 : Int, rd h48 (Addr.add (Addr.mk (Array.size h33) 0 none) 0) = some (Value.int .i64 n49) ∧ ∃ s50 : ByteArray, rd h48 (Addr.add (Addr.mk (Array.size h33) 0 none) 1) = some (Value.string s50) ∧ ∃ n51 : Int, rd h48 (Addr.add (Addr.mk (Array.size h33) 0 none) 2) = some (Value.int .i64 n51) ∧ ∃ s52 : ByteArray, rd h48 (Addr.add (Addr.mk (Array.size h33) 0 none) 3) = some (Value.string s52) ∧ ∃ n53 : Int, rd h48 (Addr.add (Addr.mk (Array.size h33) 0 none) 4) = some (Value.int .i64 n53) ∧ Fn PP g1_such_f ((#[] ++ #[(Value.agg #[(Value.int .i64 n49), (Value.string s50), (Value.int .i64 n51), (Value.string s52), (Value.int .i64 n53)])]) ++ g1_such_c) h48 fun (vs54 : List Value) (h55 : Hp) =>
                ∃ b56 : Bool, vs54 = [(Value.bool b56)] ∧
                (if b56 = true then
                  (wth (Array.push h55 (Obj.cells #[(Value.int .i64 n22)] T_int)) fun h57 =>
                    ∃ cs60 : List Value, cellsAt h57 (some (Addr.mk (Array.size h55) 0 none)) (1 * 1) cs60 ∧ appS PP T_int 8 1 h57 ⟨l27.a, l27.n, l27.c⟩ 1 cs60 fun (l58 : Sl) (h59 : Hp) =>
                    X5 [(Value.slice l58.a l58.n l58.c)] h59) else
                  (X26 [(Value.slice l27.a l27.n l27.c)] h55))))) → X26 [(Value.slice l27.a l27.n l27.c)] h28) →
        X26 [(Value.slice l6.a l6.n l6.c)] h25))) → X5 [(Value.slice l6.a l6.n l6.c)] h7) →
X5 [(Value.slice none 0 0)] h4
def A_siread_Table_owners : Ann := (.mk none ⟨[], []⟩ .nil (.mk none ⟨[], []⟩ .nil (.mk none ⟨[], []⟩ (.mk none ⟨[], []⟩ .nil (.mk none ⟨[], []⟩ (.mk none ⟨[1, 13], [(5, (.c .sl))]⟩ (.mk none ⟨[], []⟩ .nil (.mk none ⟨[], []⟩ .nil (.mk none ⟨[], []⟩ (.mk none ⟨[], []⟩ .nil (.mk none ⟨[], []⟩ .nil (.mk none ⟨[], []⟩ (.mk none ⟨[1, 6, 13, 20], [(5, (.c .sl))]⟩ .nil .nil) .nil))) .nil))) .nil) .nil)) .nil)))
theorem E_siread_Table_owners (g0_t : Option Addr) (g1_such_f : Nat) (g1_such_c : Array Value) (h : Hp) (Q : List Value → Hp → Prop) : cw PP 35 (fun d => if d = 16 then [(.c (.int .i64)), (.c .map)] else if d = 23 then [(.agg [(.int .i64), .str, (.int .i64), .str, (.int .i64)]), (.c .any)] else []) (bodyOf Tryz.f106) A_siread_Table_owners (finQ PP (Tryz.f106.results.toList) Q) (argFr [(Value.pointer g0_t), (Value.func (.func g1_such_f) #[] g1_such_c)]) h = F_siread_Table_owners g0_t g1_such_f g1_such_c h Q := by kernel_rfl
theorem O_siread_Table_owners (g0_t : Option Addr) (g1_such_f : Nat) (g1_such_c : Array Value) {h : Hp} {Q : List Value → Hp → Prop} (H : F_siread_Table_owners g0_t g1_such_f g1_such_c h Q) : S_siread_Table_owners g0_t g1_such_f g1_such_c h Q :=
  fn_of_cw (hs := (fun d => if d = 16 then [(.c (.int .i64)), (.c .map)] else if d = 23 then [(.agg [(.int .i64), .str, (.int .i64), .str, (.int .i64)]), (.c .any)] else [])) (ann := A_siread_Table_owners) (args := [(Value.pointer g0_t), (Value.func (.func g1_such_f) #[] g1_such_c)]) mixedPP Tryz.func106 (c := bodyOf Tryz.f106) (by kernel_rfl) (by kernel_rfl) (by kernel_rfl) (Eq.mpr (E_siread_Table_owners g0_t g1_such_f g1_such_c h Q) H)
def F_siread_Table_Owners (g0_t : Option Addr) (g1_x_0 : Int) (g1_x_1 : ByteArray) (g1_x_2 : Int) (g1_x_3 : ByteArray) (g1_x_4 : Int) (h : Hp) (Q : List Value → Hp → Prop) : Prop :=
wth (Array.push h (Obj.cells #[(Value.int .i64 g1_x_0), (Value.string g1_x_1), (Value.int .i64 g1_x_2), (Value.string g1_x_3), (Value.int .i64 g1_x_4)] T_siread_Thing)) fun h1 =>
(if (Option.isNone g0_t) = true then
  (Q [(Value.slice none 0 0)] h1) else
  (S_siread_Table_owners g0_t 107 #[(Value.pointer (some (Addr.mk (Array.size h) 0 none)))] h1 fun (vs2 : List Value) (h3 : Hp) =>
    ∃ l4 : Sl, vs2 = [(Value.slice l4.a l4.n l4.c)] ∧
    Q [(Value.slice l4.a l4.n l4.c)] h3))
def A_siread_Table_Owners : Ann := .nil
theorem E_siread_Table_Owners (g0_t : Option Addr) (g1_x_0 : Int) (g1_x_1 : ByteArray) (g1_x_2 : Int) (g1_x_3 : ByteArray) (g1_x_4 : Int) (h : Hp) (Q : List Value → Hp → Prop) : cw PP 10 (fun _ => []) (bodyOf Tryz.f56) A_siread_Table_Owners (finQ PP (Tryz.f56.results.toList) Q) (argFr [(Value.pointer g0_t), (Value.agg #[(Value.int .i64 g1_x_0), (Value.string g1_x_1), (Value.int .i64 g1_x_2), (Value.string g1_x_3), (Value.int .i64 g1_x_4)])]) h = F_siread_Table_Owners g0_t g1_x_0 g1_x_1 g1_x_2 g1_x_3 g1_x_4 h Q := by kernel_rfl
theorem O_siread_Table_Owners (g0_t : Option Addr) (g1_x_0 : Int) (g1_x_1 : ByteArray) (g1_x_2 : Int) (g1_x_3 : ByteArray) (g1_x_4 : Int) {h : Hp} {Q : List Value → Hp → Prop} (H : F_siread_Table_Owners g0_t g1_x_0 g1_x_1 g1_x_2 g1_x_3 g1_x_4 h Q) : S_siread_Table_Owners g0_t g1_x_0 g1_x_1 g1_x_2 g1_x_3 g1_x_4 h Q :=
  fn_of_cw (hs := (fun _ => [])) (ann := A_siread_Table_Owners) (args := [(Value.pointer g0_t), (Value.agg #[(Value.int .i64 g1_x_0), (Value.string g1_x_1), (Value.int .i64 g1_x_2), (Value.string g1_x_3), (Value.int .i64 g1_x_4)])]) mixedPP Tryz.func56 (c := bodyOf Tryz.f56) (by kernel_rfl) (by kernel_rfl) (by kernel_rfl) (Eq.mpr (E_siread_Table_Owners g0_t g1_x_0 g1_x_1 g1_x_2 g1_x_3 g1_x_4 h Q) H)
def F_clog_Log_Reads (g0_l : Option Addr) (g1_xid : Int) (h : Hp) (Q : List Value → Hp → Prop) : Prop :=
S_clog_Log_one g0_l g1_xid h fun (vs1 : List Value) (h2 : Hp) =>
∃ n3 : Int, ∃ n4 : Int, ∃ n5 : Int, ∃ b6 : Bool, vs1 = [(Value.agg #[(Value.int .i64 n3), (Value.int .i64 n4), (Value.int .i64 n5), (Value.bool b6)])] ∧
Q [(Value.bool b6)] h2
def A_clog_Log_Reads : Ann := .nil
theorem E_clog_Log_Reads (g0_l : Option Addr) (g1_xid : Int) (h : Hp) (Q : List Value → Hp → Prop) : cw PP 9 (fun _ => []) (bodyOf Tryz.f20) A_clog_Log_Reads (finQ PP (Tryz.f20.results.toList) Q) (argFr [(Value.pointer g0_l), (Value.int .i64 g1_xid)]) h = F_clog_Log_Reads g0_l g1_xid h Q := by kernel_rfl
theorem O_clog_Log_Reads (g0_l : Option Addr) (g1_xid : Int) {h : Hp} {Q : List Value → Hp → Prop} (H : F_clog_Log_Reads g0_l g1_xid h Q) : S_clog_Log_Reads g0_l g1_xid h Q :=
  fn_of_cw (hs := (fun _ => [])) (ann := A_clog_Log_Reads) (args := [(Value.pointer g0_l), (Value.int .i64 g1_xid)]) mixedPP Tryz.func20 (c := bodyOf Tryz.f20) (by kernel_rfl) (by kernel_rfl) (by kernel_rfl) (Eq.mpr (E_clog_Log_Reads g0_l g1_xid h Q) H)
def F_edge_Edges_none (g0_e : Option Addr) (h : Hp) (Q : List Value → Hp → Prop) : Prop :=
(if (Option.isNone g0_e) = true then (Q [(Value.bool true)] h) else
  (nilW g0_e fun a1 => ∃ p2 : Option Addr, rd h (Addr.add a1 0) = some (Value.pointer p2) ∧
    Q [(Value.bool (Option.isNone p2))] h))
def A_edge_Edges_none : Ann := .nil
theorem E_edge_Edges_none (g0_e : Option Addr) (h : Hp) (Q : List Value → Hp → Prop) : cw PP 12 (fun _ => []) (bodyOf Tryz.f68) A_edge_Edges_none (finQ PP (Tryz.f68.results.toList) Q) (argFr [(Value.pointer g0_e)]) h = F_edge_Edges_none g0_e h Q := by kernel_rfl
theorem O_edge_Edges_none (g0_e : Option Addr) {h : Hp} {Q : List Value → Hp → Prop} (H : F_edge_Edges_none g0_e h Q) : S_edge_Edges_none g0_e h Q :=
  fn_of_cw (hs := (fun _ => [])) (ann := A_edge_Edges_none) (args := [(Value.pointer g0_e)]) mixedPP Tryz.func68 (c := bodyOf Tryz.f68) (by kernel_rfl) (by kernel_rfl) (by kernel_rfl) (Eq.mpr (E_edge_Edges_none g0_e h Q) H)
def F_edge_Edges_ends (g0_e : Option Addr) (g1_xid : Int) (g2_end : Int) (h : Hp) (Q : List Value → Hp → Prop) : Prop :=
S_edge_Edges_none g0_e h fun (vs1 : List Value) (h2 : Hp) =>
∃ b3 : Bool, vs1 = [(Value.bool b3)] ∧
(if b3 = true then
  (Q [(Value.slice none 0 0)] h2) else
  (nilW g0_e fun a4 => ∃ r5 : Option Nat, rd h2 (Addr.add a4 1) = some (Value.map r5) ∧
    ∃ o6 : Obj, IterOf h2 r5 o6 ∧ wth (Array.push h2 o6) fun h7 =>
    ∀ X8 : List Value → Hp → Prop, (∀ l9 : Sl, ∀ h10 : Hp, ((Addr.off (Addr.mk (Array.size h2) 0 none) = 0 ∧ ∃ o11 : Obj, h10[Addr.block (Addr.mk (Array.size h2) 0 none)]? = some o11 ∧ IterGood h10 o11 ∧
          (IterEnd h10 o11 → S_slices_Sort_sint_int ⟨l9.a, l9.n, l9.c⟩ h10 fun (vs15 : List Value) (h16 : Hp) =>
            vs15 = [] ∧
            Q [(Value.slice l9.a l9.n l9.c)] h16) ∧
          ∀ (k12 v13 : Value) (o14 : Obj), IterStep h10 o11 k12 v13 o14 → wth (Array.setIfInBounds h10 (Addr.block (Addr.mk (Array.size h2) 0 none)) o14) fun h17 =>
          (Addr.off (Addr.mk (Array.size h2) 0 none) = 0 ∧ ∃ (m18 n19 : Nat) (q20 : Array Nat) (n21 : Nat) (es22 : Array MapEntry) (c23 : Nat) (e24 : MapEntry), h17[Addr.block (Addr.mk (Array.size h2) 0 none)]? = some (.mapIter (some m18) n19 q20 c23) ∧ Array.back? q20 = some n21 ∧ h17[m18]? = some (.map es22 c23) ∧ Array.find? (fun x => x.born == n21) es22 = some e24 ∧ ∃ n25 : Int, ∃ n26 : Int, e24.key = (Value.agg #[(Value.int .i64 n25), (Value.int .i64 n26)]) ∧ ∃ v27 : Value, e24.val = v27 ∧ wth (Array.push h17 (Obj.cells #[(Value.int .i64 (0 : Int)), (Value.int .i64 (0 : Int))] T_2_int)) fun h28 =>
            stOk h28 (Addr.mk (Array.size h17) 0 none) 2 ∧ wth (wrs h28 (Addr.mk (Array.size h17) 0 none) 0 [(Value.int .i64 n25), (Value.int .i64 n26)]) fun h29 =>
            ixOk g2_end 2 (∃ n30 : Int, rd h29 (Addr.add (Addr.mk (Array.size h17) 0 none) (Int.toNat g2_end * 1)) = some (Value.int .i64 n30) ∧
              (if (n30 == g1_xid) = true then
                (ixOk (IntKind.wrap .i64 ((1 : Int) - g2_end)) 2 (∃ n31 : Int, rd h29 (Addr.add (Addr.mk (Array.size h17) 0 none) (Int.toNat (IntKind.wrap .i64 ((1 : Int) - g2_end)) * 1)) = some (Value.int .i64 n31) ∧
                    wth (Array.push h29 (Obj.cells #[(Value.int .i64 n31)] T_int)) fun h32 =>
                    ∃ cs35 : List Value, cellsAt h32 (some (Addr.mk (Array.size h29) 0 none)) (1 * 1) cs35 ∧ appS PP T_int 8 1 h32 ⟨l9.a, l9.n, l9.c⟩ 1 cs35 fun (l33 : Sl) (h34 : Hp) =>
                    X8 [(Value.slice l33.a l33.n l33.c)] h34)) else
                (X8 [(Value.slice l9.a l9.n l9.c)] h29)))))) → X8 [(Value.slice l9.a l9.n l9.c)] h10) →
    X8 [(Value.slice none 0 0)] h7))
def A_edge_Edges_ends : Ann := (.mk none ⟨[], []⟩ .nil (.mk none ⟨[], []⟩ .nil (.mk none ⟨[], []⟩ .nil (.mk none ⟨[], []⟩ (.mk none ⟨[], []⟩ .nil (.mk none ⟨[], []⟩ (.mk none ⟨[1, 2, 15], [(7, (.c .sl))]⟩ .nil .nil) .nil)) .nil))))
theorem E_edge_Edges_ends (g0_e : Option Addr) (g1_xid : Int) (g2_end : Int) (h : Hp) (Q : List Value → Hp → Prop) : cw PP 35 (fun d => if d = 18 then [(.agg [(.int .i64), (.int .i64)]), (.c .any)] else []) (bodyOf Tryz.f79) A_edge_Edges_ends (finQ PP (Tryz.f79.results.toList) Q) (argFr [(Value.pointer g0_e), (Value.int .i64 g1_xid), (Value.int .i64 g2_end)]) h = F_edge_Edges_ends g0_e g1_xid g2_end h Q := by kernel_rfl
theorem O_edge_Edges_ends (g0_e : Option Addr) (g1_xid : Int) (g2_end : Int) {h : Hp} {Q : List Value → Hp → Prop} (H : F_edge_Edges_ends g0_e g1_xid g2_end h Q) : S_edge_Edges_ends g0_e g1_xid g2_end h Q :=
  fn_of_cw (hs := (fun d => if d = 18 then [(.agg [(.int .i64), (.int .i64)]), (.c .any)] else [])) (ann := A_edge_Edges_ends) (args := [(Value.pointer g0_e), (Value.int .i64 g1_xid), (Value.int .i64 g2_end)]) mixedPP Tryz.func79 (c := bodyOf Tryz.f79) (by kernel_rfl) (by kernel_rfl) (by kernel_rfl) (Eq.mpr (E_edge_Edges_ends g0_e g1_xid g2_end h Q) H)
def F_edge_Edges_In (g0_e : Option Addr) (g1_xid : Int) (h : Hp) (Q : List Value → Hp → Prop) : Prop :=
S_edge_Edges_ends g0_e g1_xid (1 : Int) h fun (vs1 : List Value) (h2 : Hp) =>
∃ l3 : Sl, vs1 = [(Value.slice l3.a l3.n l3.c)] ∧
Q [(Value.slice l3.a l3.n l3.c)] h2
def A_edge_Edges_In : Ann := .nil
theorem E_edge_Edges_In (g0_e : Option Addr) (g1_xid : Int) (h : Hp) (Q : List Value → Hp → Prop) : cw PP 8 (fun _ => []) (bodyOf Tryz.f32) A_edge_Edges_In (finQ PP (Tryz.f32.results.toList) Q) (argFr [(Value.pointer g0_e), (Value.int .i64 g1_xid)]) h = F_edge_Edges_In g0_e g1_xid h Q := by kernel_rfl
theorem O_edge_Edges_In (g0_e : Option Addr) (g1_xid : Int) {h : Hp} {Q : List Value → Hp → Prop} (H : F_edge_Edges_In g0_e g1_xid h Q) : S_edge_Edges_In g0_e g1_xid h Q :=
  fn_of_cw (hs := (fun _ => [])) (ann := A_edge_Edges_In) (args := [(Value.pointer g0_e), (Value.int .i64 g1_xid)]) mixedPP Tryz.func32 (c := bodyOf Tryz.f32) (by kernel_rfl) (by kernel_rfl) (by kernel_rfl) (Eq.mpr (E_edge_Edges_In g0_e g1_xid h Q) H)
def F_clog_Log_Csn (g0_l : Option Addr) (g1_xid : Int) (h : Hp) (Q : List Value → Hp → Prop) : Prop :=
S_clog_Log_one g0_l g1_xid h fun (vs1 : List Value) (h2 : Hp) =>
∃ n3 : Int, ∃ n4 : Int, ∃ n5 : Int, ∃ b6 : Bool, vs1 = [(Value.agg #[(Value.int .i64 n3), (Value.int .i64 n4), (Value.int .i64 n5), (Value.bool b6)])] ∧
Q [(Value.int .i64 n4)] h2
def A_clog_Log_Csn : Ann := .nil
theorem E_clog_Log_Csn (g0_l : Option Addr) (g1_xid : Int) (h : Hp) (Q : List Value → Hp → Prop) : cw PP 9 (fun _ => []) (bodyOf Tryz.f50) A_clog_Log_Csn (finQ PP (Tryz.f50.results.toList) Q) (argFr [(Value.pointer g0_l), (Value.int .i64 g1_xid)]) h = F_clog_Log_Csn g0_l g1_xid h Q := by kernel_rfl
theorem O_clog_Log_Csn (g0_l : Option Addr) (g1_xid : Int) {h : Hp} {Q : List Value → Hp → Prop} (H : F_clog_Log_Csn g0_l g1_xid h Q) : S_clog_Log_Csn g0_l g1_xid h Q :=
  fn_of_cw (hs := (fun _ => [])) (ann := A_clog_Log_Csn) (args := [(Value.pointer g0_l), (Value.int .i64 g1_xid)]) mixedPP Tryz.func50 (c := bodyOf Tryz.f50) (by kernel_rfl) (by kernel_rfl) (by kernel_rfl) (Eq.mpr (E_clog_Log_Csn g0_l g1_xid h Q) H)
def F_clog_Log_Snapshot (g0_l : Option Addr) (g1_xid : Int) (h : Hp) (Q : List Value → Hp → Prop) : Prop :=
S_clog_Log_one g0_l g1_xid h fun (vs1 : List Value) (h2 : Hp) =>
∃ n3 : Int, ∃ n4 : Int, ∃ n5 : Int, ∃ b6 : Bool, vs1 = [(Value.agg #[(Value.int .i64 n3), (Value.int .i64 n4), (Value.int .i64 n5), (Value.bool b6)])] ∧
Q [(Value.int .i64 n5)] h2
def A_clog_Log_Snapshot : Ann := .nil
theorem E_clog_Log_Snapshot (g0_l : Option Addr) (g1_xid : Int) (h : Hp) (Q : List Value → Hp → Prop) : cw PP 9 (fun _ => []) (bodyOf Tryz.f111) A_clog_Log_Snapshot (finQ PP (Tryz.f111.results.toList) Q) (argFr [(Value.pointer g0_l), (Value.int .i64 g1_xid)]) h = F_clog_Log_Snapshot g0_l g1_xid h Q := by kernel_rfl
theorem O_clog_Log_Snapshot (g0_l : Option Addr) (g1_xid : Int) {h : Hp} {Q : List Value → Hp → Prop} (H : F_clog_Log_Snapshot g0_l g1_xid h Q) : S_clog_Log_Snapshot g0_l g1_xid h Q :=
  fn_of_cw (hs := (fun _ => [])) (ann := A_clog_Log_Snapshot) (args := [(Value.pointer g0_l), (Value.int .i64 g1_xid)]) mixedPP Tryz.func111 (c := bodyOf Tryz.f111) (by kernel_rfl) (by kernel_rfl) (by kernel_rfl) (Eq.mpr (E_clog_Log_Snapshot g0_l g1_xid h Q) H)
def F_edge_Edges_Out (g0_e : Option Addr) (g1_xid : Int) (h : Hp) (Q : List Value → Hp → Prop) : Prop :=
S_edge_Edges_ends g0_e g1_xid (0 : Int) h fun (vs1 : List Value) (h2 : Hp) =>
∃ l3 : Sl, vs1 = [(Value.slice l3.a l3.n l3.c)] ∧
Q [(Value.slice l3.a l3.n l3.c)] h2
def A_edge_Edges_Out : Ann := .nil
theorem E_edge_Edges_Out (g0_e : Option Addr) (g1_xid : Int) (h : Hp) (Q : List Value → Hp → Prop) : cw PP 8 (fun _ => []) (bodyOf Tryz.f31) A_edge_Edges_Out (finQ PP (Tryz.f31.results.toList) Q) (argFr [(Value.pointer g0_e), (Value.int .i64 g1_xid)]) h = F_edge_Edges_Out g0_e g1_xid h Q := by kernel_rfl
theorem O_edge_Edges_Out (g0_e : Option Addr) (g1_xid : Int) {h : Hp} {Q : List Value → Hp → Prop} (H : F_edge_Edges_Out g0_e g1_xid h Q) : S_edge_Edges_Out g0_e g1_xid h Q :=
  fn_of_cw (hs := (fun _ => [])) (ann := A_edge_Edges_Out) (args := [(Value.pointer g0_e), (Value.int .i64 g1_xid)]) mixedPP Tryz.func31 (c := bodyOf Tryz.f31) (by kernel_rfl) (by kernel_rfl) (by kernel_rfl) (Eq.mpr (E_edge_Edges_Out g0_e g1_xid h Q) H)
def F_edge_Edges_first (g0_e : Option Addr) (g1_p : Int) (h : Hp) (Q : List Value → Hp → Prop) : Prop :=
S_edge_Edges_Out g0_e g1_p h fun (vs1 : List Value) (h2 : Hp) =>
∃ l3 : Sl, vs1 = [(Value.slice l3.a l3.n l3.c)] ∧
∀ X4 : List Value → Hp → Prop, (∀ n5 : Int, ∀ n6 : Int, ∀ h7 : Hp, ((if (decide (n6 < (l3.n : Int))) = true then
      (∀ J8 : List Value → Hp → Prop, (∀ n9 : Int, ∀ h10 : Hp, (X4 [(Value.int .i64 n9), (Value.int .i64 (IntKind.wrap .i64 (n6 + (1 : Int))))] h10) → J8 [(Value.int .i64 n9)] h10) →
        nilW l3.a fun a11 => ixOk n6 l3.n (∃ n12 : Int, rd h7 (Addr.add a11 (Int.toNat n6 * 1)) = some (Value.int .i64 n12) ∧
          nilW g0_e fun a13 => ∃ p14 : Option Addr, rd h7 (Addr.add a13 0) = some (Value.pointer p14) ∧
          S_clog_Log_Csn p14 n12 h7 fun (vs15 : List Value) (h16 : Hp) =>
          ∃ n17 : Int, vs15 = [(Value.int .i64 n17)] ∧
          ∀ J18 : List Value → Hp → Prop, (∀ b19 : Bool, ∀ h20 : Hp, ((if b19 = true then
                (J8 [(Value.int .i64 n5)] h20) else
                (∀ J21 : List Value → Hp → Prop, (∀ b22 : Bool, ∀ h23 : Hp, ((if b22 = true then
                        (J8 [(Value.int .i64 n17)] h23) else
                        (J8 [(Value.int .i64 n5)] h23))) → J21 [(Value.bool b22)] h23) →
                  (if (n5 == (0 : Int)) = true then (J21 [(Value.bool true)] h20) else
                    (J21 [(Value.bool (decide (n17 < n5)))] h20))))) → J18 [(Value.bool b19)] h20) →
          (if (n17 == (0 : Int)) = true then (J18 [(Value.bool true)] h16) else
            (nilW g0_e fun a24 => ∃ p25 : Option Addr, rd h16 (Addr.add a24 0) = some (Value.pointer p25) ∧
              S_clog_Log_Csn p25 g1_p h16 fun (vs26 : List Value) (h27 : Hp) =>
              ∃ n28 : Int, vs26 = [(Value.int .i64 n28)] ∧
              (if (n28 != (0 : Int)) = true then (nilW g0_e fun a29 => ∃ p30 : Option Addr, rd h27 (Addr.add a29 0) = some (Value.pointer p30) ∧
                  S_clog_Log_Csn p30 g1_p h27 fun (vs31 : List Value) (h32 : Hp) =>
                  ∃ n33 : Int, vs31 = [(Value.int .i64 n33)] ∧
                  J18 [(Value.bool (decide (n33 ≤ n17)))] h32) else
                (J18 [(Value.bool false)] h27)))))) else
      (Q [(Value.int .i64 n5)] h7))) → X4 [(Value.int .i64 n5), (Value.int .i64 n6)] h7) →
X4 [(Value.int .i64 (0 : Int)), (Value.int .i64 (0 : Int))] h2
def A_edge_Edges_first : Ann := (.mk none ⟨[], []⟩ .nil (.mk none ⟨[], []⟩ (.mk none ⟨[], []⟩ .nil (.mk none ⟨[], []⟩ .nil (.mk none ⟨[], []⟩ (.mk none ⟨[], []⟩ .nil (.mk none ⟨[], []⟩ (.mk none ⟨[0, 1, 11, 12], [(5, (.c (.int .i64))), (13, (.c (.int .i64)))]⟩ (.mk none ⟨[], []⟩ .nil (.mk none ⟨[], []⟩ .nil (.mk none ⟨[], []⟩ (.mk (some ⟨[0, 1, 11, 12, 13], [(5, (.c (.int .i64)))]⟩) ⟨[], []⟩ (.mk none ⟨[], []⟩ .nil (.mk none ⟨[], []⟩ .nil (.mk none ⟨[], []⟩ (.mk none ⟨[], []⟩ (.mk (some ⟨[0, 1, 5, 8, 11, 12, 13], [(43, (.c .bool))]⟩) ⟨[], []⟩ .nil .nil) .nil) (.mk none ⟨[], []⟩ (.mk (some ⟨[0, 1, 5, 8, 11, 12, 13], [(50, (.c .bool))]⟩) ⟨[], []⟩ .nil .nil) .nil)))) .nil) .nil))) .nil) .nil)) .nil))) .nil))
theorem E_edge_Edges_first (g0_e : Option Addr) (g1_p : Int) (h : Hp) (Q : List Value → Hp → Prop) : cw PP 54 (fun _ => []) (bodyOf Tryz.f152) A_edge_Edges_first (finQ PP (Tryz.f152.results.toList) Q) (argFr [(Value.pointer g0_e), (Value.int .i64 g1_p)]) h = F_edge_Edges_first g0_e g1_p h Q := by kernel_rfl
theorem O_edge_Edges_first (g0_e : Option Addr) (g1_p : Int) {h : Hp} {Q : List Value → Hp → Prop} (H : F_edge_Edges_first g0_e g1_p h Q) : S_edge_Edges_first g0_e g1_p h Q :=
  fn_of_cw (hs := (fun _ => [])) (ann := A_edge_Edges_first) (args := [(Value.pointer g0_e), (Value.int .i64 g1_p)]) mixedPP Tryz.func152 (c := bodyOf Tryz.f152) (by kernel_rfl) (by kernel_rfl) (by kernel_rfl) (Eq.mpr (E_edge_Edges_first g0_e g1_p h Q) H)
def F_edge_Edges_Spoilt (g0_e : Option Addr) (g1_p : Int) (h : Hp) (Q : List Value → Hp → Prop) : Prop :=
∀ J1 : List Value → Hp → Prop, (∀ b2 : Bool, ∀ h3 : Hp, ((if b2 = true then
      (Q [(Value.slice none 0 0), (Value.bool false)] h3) else
      (S_edge_Edges_first g0_e g1_p h3 fun (vs4 : List Value) (h5 : Hp) =>
        ∃ n6 : Int, vs4 = [(Value.int .i64 n6)] ∧
        (if (n6 == (0 : Int)) = true then
          (Q [(Value.slice none 0 0), (Value.bool false)] h5) else
          (nilW g0_e fun a7 => ∃ r8 : Option Nat, rd h5 (Addr.add a7 2) = some (Value.map r8) ∧
            ∃ es9 : Array MapEntry, mapAt h5 r8 es9 ∧ KeysLike (Value.int .i64 g1_p) es9 ∧ ∃ n10 : Int, mgetD (Value.int .i64 g1_p) es9 (Value.int .i64 (0 : Int)) = (Value.int .i64 n10) ∧
            S_edge_Edges_In g0_e g1_p h5 fun (vs12 : List Value) (h13 : Hp) =>
            ∃ l14 : Sl, vs12 = [(Value.slice l14.a l14.n l14.c)] ∧
            ∀ X15 : List Value → Hp → Prop, (∀ l16 : Sl, ∀ b17 : Bool, ∀ n18 : Int, ∀ h19 : Hp, ((if (decide (n18 < (l14.n : Int))) = true then
                  (∀ J20 : List Value → Hp → Prop, (∀ l21 : Sl, ∀ b22 : Bool, ∀ h23 : Hp, (X15 [(Value.slice l21.a l21.n l21.c), (Value.bool b22), (Value.int .i64 (IntKind.wrap .i64 (n18 + (1 : Int))))] h23) → J20 [(Value.slice l21.a l21.n l21.c), (Value.bool b22)] h23) →
                    nilW l14.a fun a24 => ixOk n18 l14.n (∃ n25 : Int, rd h19 (Addr.add a24 (Int.toNat n18 * 1)) = some (Value.int .i64 n25) ∧
                      nilW g0_e fun a26 => ∃ p27 : Option Addr, rd h19 (Addr.add a26 0) = some (Value.pointer p27) ∧
                      S_clog_Log_State p27 n25 h19 fun (vs28 : List Value) (h29 : Hp) =>
                      ∃ n30 : Int, vs28 = [(Value.int .i64 n30)] ∧
                      ∀ J31 : List Value → Hp → Prop, (∀ l32 : Sl, ∀ h33 : Hp, (J20 [(Value.slice l32.a l32.n l32.c), (Value.bool true)] h33) → J31 [(Value.slice l32.a l32.n l32.c)] h33) →
                      ∀ J34 : List Value → Hp → Prop, (∀ b35 : Bool, ∀ h36 : Hp, ((if b35 = true then
                            (J20 [(Value.slice l16.a l16.n l16.c), (Value.bool b17)] h36) else
                            (∀ J37 : List Value → Hp → Prop, (∀ b38 : Bool, ∀ h39 : Hp, ((if b38 = true then
                                    (J20 [(Value.slice l16.a l16.n l16.c), (Value.bool b17)] h39) else
                                    ((if (n30 == (1 : Int)) = true then
                                        (wth (Array.push h39 (Obj.cells #[(Value.int .i64 n25)] T_int)) fun h40 =>
                                          ∃ cs43 : List Value, cellsAt h40 (some (Addr.mk (Array.size h39) 0 none)) (1 * 1) cs43 ∧ appS PP T_int 8 1 h40 ⟨l16.a, l16.n, l16.c⟩ 1 cs43 fun (l41 : Sl) (h42 : Hp) =>
                                          J31 [(Value.slice l41.a l41.n l41.c)] h42) else
                                        (J31 [(Value.slice l16.a l16.n l16.c)] h39))))) → J37 [(Value.bool b38)] h39) →
                              nilW g0_e fun a44 => ∃ p45 : Option Addr, rd h36 (Addr.add a44 0) = some (Value.pointer p45) ∧
                              S_clog_Log_Reads p45 n25 h36 fun (vs46 : List Value) (h47 : Hp) =>
                              ∃ b48 : Bool, vs46 = [(Value.bool b48)] ∧
                              (if b48 = true then (nilW g0_e fun a49 => ∃ p50 : Option Addr, rd h47 (Addr.add a49 0) = some (Value.pointer p50) ∧
                                  S_clog_Log_Snapshot p50 n25 h47 fun (vs51 : List Value) (h52 : Hp) =>
                                  ∃ n53 : Int, vs51 = [(Value.int .i64 n53)] ∧
                                  J37 [(Value.bool (decide (n53 < n6)))] h52) else
                                (J37 [(Value.bool false)] h47))))) → J34 [(Value.bool b35)] h36) →
                      (if (n30 == (3 : Int)) = true then (J34 [(Value.bool true)] h29) else
                        ((if (n30 == (2 : Int)) = true then (nilW g0_e fun a54 => ∃ p55 : Option Addr, rd h29 (Addr.add a54 0) = some (Value.pointer p55) ∧
                              S_clog_Log_Csn p55 n25 h29 fun (vs56 : List Value) (h57 : Hp) =>
                              ∃ n58 : Int, vs56 = [(Value.int .i64 n58)] ∧
                              J34 [(Value.bool (decide (n58 < n6)))] h57) else
                            (J34 [(Value.bool false)] h29)))))) else
                  (Q [(Value.slice l16.a l16.n l16.c), (Value.bool b17)] h19))) → X15 [(Value.slice l16.a l16.n l16.c), (Value.bool b17), (Value.int .i64 n18)] h19) →
            X15 [(Value.slice none 0 0), (Value.bool (decide (n10 ≥ n6))), (Value.int .i64 (0 : Int))] h13))))) → J1 [(Value.bool b2)] h3) →
S_edge_Edges_none g0_e h fun (vs59 : List Value) (h60 : Hp) =>
∃ b61 : Bool, vs59 = [(Value.bool b61)] ∧
(if b61 = true then (J1 [(Value.bool true)] h60) else
  (nilW g0_e fun a62 => ∃ p63 : Option Addr, rd h60 (Addr.add a62 0) = some (Value.pointer p63) ∧
    S_clog_Log_State p63 g1_p h60 fun (vs64 : List Value) (h65 : Hp) =>
    ∃ n66 : Int, vs64 = [(Value.int .i64 n66)] ∧
    J1 [(Value.bool (n66 == (3 : Int)))] h65))
def A_edge_Edges_Spoilt : Ann := (.mk none ⟨[], []⟩ .nil (.mk none ⟨[], []⟩ (.mk none ⟨[], []⟩ (.mk none ⟨[], []⟩ (.mk (some ⟨[0, 1, 4], [(20, (.c .bool))]⟩) ⟨[], []⟩ .nil .nil) .nil) (.mk none ⟨[], []⟩ .nil (.mk none ⟨[], []⟩ .nil (.mk none ⟨[], []⟩ .nil (.mk none ⟨[], []⟩ .nil (.mk none ⟨[], []⟩ (.mk none ⟨[], []⟩ .nil (.mk none ⟨[], []⟩ (.mk none ⟨[0, 6, 36, 37], [(4, (.c .sl)), (5, (.c .bool)), (38, (.c (.int .i64)))]⟩ (.mk none ⟨[], []⟩ .nil (.mk none ⟨[], []⟩ .nil (.mk none ⟨[], []⟩ (.mk (some ⟨[0, 6, 36, 37, 38], [(4, (.c .sl)), (5, (.c .bool))]⟩) ⟨[], []⟩ (.mk none ⟨[], []⟩ .nil (.mk none ⟨[], []⟩ (.mk none ⟨[], []⟩ .nil (.mk (some ⟨[0, 6, 36, 37, 38], [(4, (.c .sl))]⟩) ⟨[], []⟩ (.mk none ⟨[], []⟩ (.mk (some ⟨[0, 4, 5, 6, 8, 9, 36, 37, 38], [(48, (.c .bool))]⟩) ⟨[], []⟩ .nil .nil) (.mk none ⟨[], []⟩ .nil (.mk none ⟨[], []⟩ (.mk (some ⟨[0, 4, 5, 6, 8, 9, 36, 37, 38], [(65, (.c .bool))]⟩) ⟨[], []⟩ .nil .nil) .nil))) .nil)) .nil)) .nil) .nil))) .nil) .nil)) .nil)))))) .nil))
theorem E_edge_Edges_Spoilt (g0_e : Option Addr) (g1_p : Int) (h : Hp) (Q : List Value → Hp → Prop) : cw PP 92 (fun _ => []) (bodyOf Tryz.f112) A_edge_Edges_Spoilt (finQ PP (Tryz.f112.results.toList) Q) (argFr [(Value.pointer g0_e), (Value.int .i64 g1_p)]) h = F_edge_Edges_Spoilt g0_e g1_p h Q := by kernel_rfl
theorem O_edge_Edges_Spoilt (g0_e : Option Addr) (g1_p : Int) {h : Hp} {Q : List Value → Hp → Prop} (H : F_edge_Edges_Spoilt g0_e g1_p h Q) : S_edge_Edges_Spoilt g0_e g1_p h Q :=
  fn_of_cw (hs := (fun _ => [])) (ann := A_edge_Edges_Spoilt) (args := [(Value.pointer g0_e), (Value.int .i64 g1_p)]) mixedPP Tryz.func112 (c := bodyOf Tryz.f112) (by kernel_rfl) (by kernel_rfl) (by kernel_rfl) (Eq.mpr (E_edge_Edges_Spoilt g0_e g1_p h Q) H)
def F_ssi_Ssi_look (g0_s : Option Addr) (g1_p : Int) (h : Hp) (Q : List Value → Hp → Prop) : Prop :=
nilW g0_s fun a1 => ∃ p2 : Option Addr, rd h (Addr.add a1 2) = some (Value.pointer p2) ∧
S_edge_Edges_Spoilt p2 g1_p h fun (vs3 : List Value) (h4 : Hp) =>
∃ l5 : Sl, ∃ b6 : Bool, vs3 = [(Value.slice l5.a l5.n l5.c), (Value.bool b6)] ∧
(if (!b6) = true then
  (Q [] h4) else
  (S_ssi_Ssi_runs g0_s g1_p h4 fun (vs7 : List Value) (h8 : Hp) =>
    ∃ b9 : Bool, vs7 = [(Value.bool b9)] ∧
    ∀ J10 : List Value → Hp → Prop, (∀ l11 : Sl, ∀ h12 : Hp, (∀ X13 : List Value → Hp → Prop, (∀ n14 : Int, ∀ h15 : Hp, ((if (decide (n14 < (l11.n : Int))) = true then
              (nilW l11.a fun a16 => ixOk n14 l11.n (∃ n17 : Int, rd h15 (Addr.add a16 (Int.toNat n14 * 1)) = some (Value.int .i64 n17) ∧
                  nilW g0_s fun a18 => ∃ r19 : Option Nat, rd h15 (Addr.add a18 5) = some (Value.map r19) ∧
                  ∃ es20 : Array MapEntry, mapAt h15 r19 es20 ∧ KeysLike (Value.int .i64 n17) es20 ∧ ∃ n21 : Int, mgetD (Value.int .i64 n17) es20 (Value.int .i64 (0 : Int)) = (Value.int .i64 n21) ∧
                  ∃ (m23 : Nat) (es24 : Array MapEntry) (c25 : Nat), r19 = some m23 ∧ h15[m23]? = some (.map es24 c25) ∧ KeysLike (Value.int .i64 n17) es24 ∧ wth (Array.setIfInBounds h15 m23 (mput (Value.int .i64 n17) (Value.int .i64 (IntKind.wrap .i64 (n21 + (1 : Int)))) es24 c25)) fun h26 =>
                  X13 [(Value.int .i64 (IntKind.wrap .i64 (n14 + (1 : Int))))] h26)) else
              (Q [] h15))) → X13 [(Value.int .i64 n14)] h15) →
        X13 [(Value.int .i64 (0 : Int))] h12) → J10 [(Value.slice l11.a l11.n l11.c)] h12) →
    (if b9 = true then
      (wth (Array.push h8 (Obj.cells #[(Value.int .i64 g1_p)] T_int)) fun h27 =>
        J10 [(Value.slice (some (Addr.mk (Array.size h8) 0 none)) 1 1)] h27) else
      (J10 [(Value.slice l5.a l5.n l5.c)] h8))))
def A_ssi_Ssi_look : Ann := (.mk none ⟨[], []⟩ .nil (.mk none ⟨[], []⟩ .nil (.mk none ⟨[], []⟩ (.mk none ⟨[], []⟩ .nil (.mk (some ⟨[0], [(4, (.c .sl))]⟩) ⟨[], []⟩ .nil .nil)) (.mk none ⟨[], []⟩ .nil (.mk none ⟨[], []⟩ (.mk none ⟨[0, 24, 25], [(26, (.c (.int .i64)))]⟩ .nil .nil) .nil)))))
theorem E_ssi_Ssi_look (g0_s : Option Addr) (g1_p : Int) (h : Hp) (Q : List Value → Hp → Prop) : cw PP 38 (fun _ => []) (bodyOf Tryz.f59) A_ssi_Ssi_look (finQ PP (Tryz.f59.results.toList) Q) (argFr [(Value.pointer g0_s), (Value.int .i64 g1_p)]) h = F_ssi_Ssi_look g0_s g1_p h Q := by kernel_rfl
theorem O_ssi_Ssi_look (g0_s : Option Addr) (g1_p : Int) {h : Hp} {Q : List Value → Hp → Prop} (H : F_ssi_Ssi_look g0_s g1_p h Q) : S_ssi_Ssi_look g0_s g1_p h Q :=
  fn_of_cw (hs := (fun _ => [])) (ann := A_ssi_Ssi_look) (args := [(Value.pointer g0_s), (Value.int .i64 g1_p)]) mixedPP Tryz.func59 (c := bodyOf Tryz.f59) (by kernel_rfl) (by kernel_rfl) (by kernel_rfl) (Eq.mpr (E_ssi_Ssi_look g0_s g1_p h Q) H)
def F_clog_Log_Sees (g0_l : Option Addr) (g1_xid : Int) (g2_other : Int) (h : Hp) (Q : List Value → Hp → Prop) : Prop :=
S_clog_Log_get g0_l g1_xid h fun (vs1 : List Value) (h2 : Hp) =>
∃ p3 : Option Addr, vs1 = [(Value.pointer p3)] ∧
S_clog_Log_get g0_l g2_other h2 fun (vs4 : List Value) (h5 : Hp) =>
∃ p6 : Option Addr, vs4 = [(Value.pointer p6)] ∧
∀ J7 : List Value → Hp → Prop, (∀ b8 : Bool, ∀ h9 : Hp, ((if b8 = true then
      (Q [(Value.bool false)] h9) else
      ((if (g1_xid == g2_other) = true then (Q [(Value.bool true)] h9) else
          (nilW p6 fun a10 => ∃ n11 : Int, rd h9 (Addr.add a10 0) = some (Value.int .i64 n11) ∧
            (if (n11 == (2 : Int)) = true then (nilW p6 fun a12 => ∃ n13 : Int, rd h9 (Addr.add a12 1) = some (Value.int .i64 n13) ∧
                nilW p3 fun a14 => ∃ n15 : Int, rd h9 (Addr.add a14 2) = some (Value.int .i64 n15) ∧
                Q [(Value.bool (decide (n13 ≤ n15)))] h9) else
              (Q [(Value.bool false)] h9))))))) → J7 [(Value.bool b8)] h9) →
(if (Option.isNone p3) = true then (J7 [(Value.bool true)] h5) else
  (J7 [(Value.bool (Option.isNone p6))] h5))
def A_clog_Log_Sees : Ann := (.mk none ⟨[], []⟩ .nil (.mk none ⟨[], []⟩ .nil (.mk none ⟨[], []⟩ (.mk none ⟨[], []⟩ (.mk (some ⟨[1, 2, 7, 8], [(20, (.c .bool))]⟩) ⟨[], []⟩ .nil .nil) .nil) .nil)))
theorem E_clog_Log_Sees (g0_l : Option Addr) (g1_xid : Int) (g2_other : Int) (h : Hp) (Q : List Value → Hp → Prop) : cw PP 42 (fun _ => []) (bodyOf Tryz.f22) A_clog_Log_Sees (finQ PP (Tryz.f22.results.toList) Q) (argFr [(Value.pointer g0_l), (Value.int .i64 g1_xid), (Value.int .i64 g2_other)]) h = F_clog_Log_Sees g0_l g1_xid g2_other h Q := by kernel_rfl
theorem O_clog_Log_Sees (g0_l : Option Addr) (g1_xid : Int) (g2_other : Int) {h : Hp} {Q : List Value → Hp → Prop} (H : F_clog_Log_Sees g0_l g1_xid g2_other h Q) : S_clog_Log_Sees g0_l g1_xid g2_other h Q :=
  fn_of_cw (hs := (fun _ => [])) (ann := A_clog_Log_Sees) (args := [(Value.pointer g0_l), (Value.int .i64 g1_xid), (Value.int .i64 g2_other)]) mixedPP Tryz.func22 (c := bodyOf Tryz.f22) (by kernel_rfl) (by kernel_rfl) (by kernel_rfl) (Eq.mpr (E_clog_Log_Sees g0_l g1_xid g2_other h Q) H)
def F_clog_Log_Beside (g0_l : Option Addr) (g1_a : Int) (g2_b : Int) (h : Hp) (Q : List Value → Hp → Prop) : Prop :=
S_clog_Log_get g0_l g1_a h fun (vs1 : List Value) (h2 : Hp) =>
∃ p3 : Option Addr, vs1 = [(Value.pointer p3)] ∧
S_clog_Log_get g0_l g2_b h2 fun (vs4 : List Value) (h5 : Hp) =>
∃ p6 : Option Addr, vs4 = [(Value.pointer p6)] ∧
∀ J7 : List Value → Hp → Prop, (∀ b8 : Bool, ∀ h9 : Hp, ((if b8 = true then
      (Q [(Value.bool false)] h9) else
      (S_clog_Log_Sees g0_l g1_a g2_b h9 fun (vs10 : List Value) (h11 : Hp) =>
        ∃ b12 : Bool, vs10 = [(Value.bool b12)] ∧
        (if (!b12) = true then (S_clog_Log_Sees g0_l g2_b g1_a h11 fun (vs13 : List Value) (h14 : Hp) =>
            ∃ b15 : Bool, vs13 = [(Value.bool b15)] ∧
            Q [(Value.bool (!b15))] h14) else
          (Q [(Value.bool false)] h11))))) → J7 [(Value.bool b8)] h9) →
(if (Option.isNone p3) = true then (J7 [(Value.bool true)] h5) else
  ((if (Option.isNone p6) = true then (J7 [(Value.bool true)] h5) else
      ((if (g1_a == g2_b) = true then (J7 [(Value.bool true)] h5) else
          (nilW p3 fun a16 => ∃ n17 : Int, rd h5 (Addr.add a16 0) = some (Value.int .i64 n17) ∧
            (if (n17 == (3 : Int)) = true then (J7 [(Value.bool true)] h5) else
              (nilW p6 fun a18 => ∃ n19 : Int, rd h5 (Addr.add a18 0) = some (Value.int .i64 n19) ∧
                J7 [(Value.bool (n19 == (3 : Int)))] h5))))))))
def A_clog_Log_Beside : Ann := (.mk none ⟨[], []⟩ .nil (.mk none ⟨[], []⟩ .nil (.mk none ⟨[], []⟩ (.mk none ⟨[], []⟩ (.mk (some ⟨[0, 1, 2], [(39, (.c .bool))]⟩) ⟨[], []⟩ .nil .nil) .nil) .nil)))
theorem E_clog_Log_Beside (g0_l : Option Addr) (g1_a : Int) (g2_b : Int) (h : Hp) (Q : List Value → Hp → Prop) : cw PP 52 (fun _ => []) (bodyOf Tryz.f151) A_clog_Log_Beside (finQ PP (Tryz.f151.results.toList) Q) (argFr [(Value.pointer g0_l), (Value.int .i64 g1_a), (Value.int .i64 g2_b)]) h = F_clog_Log_Beside g0_l g1_a g2_b h Q := by kernel_rfl
theorem O_clog_Log_Beside (g0_l : Option Addr) (g1_a : Int) (g2_b : Int) {h : Hp} {Q : List Value → Hp → Prop} (H : F_clog_Log_Beside g0_l g1_a g2_b h Q) : S_clog_Log_Beside g0_l g1_a g2_b h Q :=
  fn_of_cw (hs := (fun _ => [])) (ann := A_clog_Log_Beside) (args := [(Value.pointer g0_l), (Value.int .i64 g1_a), (Value.int .i64 g2_b)]) mixedPP Tryz.func151 (c := bodyOf Tryz.f151) (by kernel_rfl) (by kernel_rfl) (by kernel_rfl) (Eq.mpr (E_clog_Log_Beside g0_l g1_a g2_b h Q) H)
def F_edge_Edges_Add (g0_e : Option Addr) (g1_a : Int) (g2_b : Int) (h : Hp) (Q : List Value → Hp → Prop) : Prop :=
∀ J1 : List Value → Hp → Prop, (∀ b2 : Bool, ∀ h3 : Hp, ((if b2 = true then
      (Q [(Value.bool false)] h3) else
      (nilW g0_e fun a4 => ∃ r5 : Option Nat, rd h3 (Addr.add a4 1) = some (Value.map r5) ∧
        ∃ es6 : Array MapEntry, mapAt h3 r5 es6 ∧ KeysLike (Value.agg #[(Value.int .i64 g1_a), (Value.int .i64 g2_b)]) es6 ∧ ∃ n7 : Int, mgetD (Value.agg #[(Value.int .i64 g1_a), (Value.int .i64 g2_b)]) es6 (Value.int .i64 (0 : Int)) = (Value.int .i64 n7) ∧
        ∃ (m9 : Nat) (es10 : Array MapEntry) (c11 : Nat), r5 = some m9 ∧ h3[m9]? = some (.map es10 c11) ∧ KeysLike (Value.agg #[(Value.int .i64 g1_a), (Value.int .i64 g2_b)]) es10 ∧ ∃ n12 : Int, (ment (Value.agg #[(Value.int .i64 g1_a), (Value.int .i64 g2_b)]) es10 c11 (Value.int .i64 (0 : Int))).1 = (Value.int .i64 n12) ∧ wth (Array.setIfInBounds h3 m9 (ment (Value.agg #[(Value.int .i64 g1_a), (Value.int .i64 g2_b)]) es10 c11 (Value.int .i64 (0 : Int))).2.2) fun h13 =>
        (∃ es8 : Array MapEntry, mapAt h13 r5 es8 ∧ KeysLike (Value.agg #[(Value.int .i64 g1_a), (Value.int .i64 g2_b)]) es8 ∧ mgetD (Value.agg #[(Value.int .i64 g1_a), (Value.int .i64 g2_b)]) es8 (Value.int .i64 (0 : Int)) = (Value.int .i64 n7)) ∧ ∃ (m14 : Nat) (es15 : Array MapEntry) (c16 : Nat) (es17 : Array MapEntry), r5 = some m14 ∧ h13[m14]? = some (.map es15 c16) ∧ msto (Value.int .i64 (IntKind.wrap .i64 (n7 + (1 : Int)))) ((ment (Value.agg #[(Value.int .i64 g1_a), (Value.int .i64 g2_b)]) es10 c11 (Value.int .i64 (0 : Int))).2.1 : Int) es15 = some es17 ∧ wth (Array.setIfInBounds h13 m14 (.map es17 c16)) fun h18 =>
        Q [(Value.bool true)] h18))) → J1 [(Value.bool b2)] h3) →
S_edge_Edges_none g0_e h fun (vs19 : List Value) (h20 : Hp) =>
∃ b21 : Bool, vs19 = [(Value.bool b21)] ∧
(if b21 = true then (J1 [(Value.bool true)] h20) else
  (nilW g0_e fun a22 => ∃ p23 : Option Addr, rd h20 (Addr.add a22 0) = some (Value.pointer p23) ∧
    S_clog_Log_Beside p23 g1_a g2_b h20 fun (vs24 : List Value) (h25 : Hp) =>
    ∃ b26 : Bool, vs24 = [(Value.bool b26)] ∧
    (if (!b26) = true then (J1 [(Value.bool true)] h25) else
      (nilW g0_e fun a27 => ∃ r28 : Option Nat, rd h25 (Addr.add a27 1) = some (Value.map r28) ∧
        ∃ es29 : Array MapEntry, mapAt h25 r28 es29 ∧ KeysLike (Value.agg #[(Value.int .i64 g1_a), (Value.int .i64 g2_b)]) es29 ∧ ∃ n30 : Int, mgetD (Value.agg #[(Value.int .i64 g1_a), (Value.int .i64 g2_b)]) es29 (Value.int .i64 (0 : Int)) = (Value.int .i64 n30) ∧
        J1 [(Value.bool (decide (n30 > (0 : Int))))] h25))))
def A_edge_Edges_Add : Ann := (.mk none ⟨[], []⟩ .nil (.mk none ⟨[], []⟩ (.mk none ⟨[], []⟩ (.mk (some ⟨[0, 1, 2], [(29, (.c .bool))]⟩) ⟨[], []⟩ .nil .nil) .nil) .nil))
theorem E_edge_Edges_Add (g0_e : Option Addr) (g1_a : Int) (g2_b : Int) (h : Hp) (Q : List Value → Hp → Prop) : cw PP 41 (fun _ => []) (bodyOf Tryz.f110) A_edge_Edges_Add (finQ PP (Tryz.f110.results.toList) Q) (argFr [(Value.pointer g0_e), (Value.int .i64 g1_a), (Value.int .i64 g2_b)]) h = F_edge_Edges_Add g0_e g1_a g2_b h Q := by kernel_rfl
theorem O_edge_Edges_Add (g0_e : Option Addr) (g1_a : Int) (g2_b : Int) {h : Hp} {Q : List Value → Hp → Prop} (H : F_edge_Edges_Add g0_e g1_a g2_b h Q) : S_edge_Edges_Add g0_e g1_a g2_b h Q :=
  fn_of_cw (hs := (fun _ => [])) (ann := A_edge_Edges_Add) (args := [(Value.pointer g0_e), (Value.int .i64 g1_a), (Value.int .i64 g2_b)]) mixedPP Tryz.func110 (c := bodyOf Tryz.f110) (by kernel_rfl) (by kernel_rfl) (by kernel_rfl) (Eq.mpr (E_edge_Edges_Add g0_e g1_a g2_b h Q) H)
def F_ssi_Ssi_behind (g0_s : Option Addr) (g1_a : Int) (g2_b : Int) (h : Hp) (Q : List Value → Hp → Prop) : Prop :=
nilW g0_s fun a1 => ∃ p2 : Option Addr, rd h (Addr.add a1 2) = some (Value.pointer p2) ∧
S_edge_Edges_Add p2 g1_a g2_b h fun (vs3 : List Value) (h4 : Hp) =>
∃ b5 : Bool, vs3 = [(Value.bool b5)] ∧
(if b5 = true then
  (S_ssi_Ssi_look g0_s g2_b h4 fun (vs6 : List Value) (h7 : Hp) =>
    vs6 = [] ∧
    S_ssi_Ssi_look g0_s g1_a h7 fun (vs8 : List Value) (h9 : Hp) =>
    vs8 = [] ∧
    Q [] h9) else
  (Q [] h4))
def A_ssi_Ssi_behind : Ann := .nil
theorem E_ssi_Ssi_behind (g0_s : Option Addr) (g1_a : Int) (g2_b : Int) (h : Hp) (Q : List Value → Hp → Prop) : cw PP 19 (fun _ => []) (bodyOf Tryz.f57) A_ssi_Ssi_behind (finQ PP (Tryz.f57.results.toList) Q) (argFr [(Value.pointer g0_s), (Value.int .i64 g1_a), (Value.int .i64 g2_b)]) h = F_ssi_Ssi_behind g0_s g1_a g2_b h Q := by kernel_rfl
theorem O_ssi_Ssi_behind (g0_s : Option Addr) (g1_a : Int) (g2_b : Int) {h : Hp} {Q : List Value → Hp → Prop} (H : F_ssi_Ssi_behind g0_s g1_a g2_b h Q) : S_ssi_Ssi_behind g0_s g1_a g2_b h Q :=
  fn_of_cw (hs := (fun _ => [])) (ann := A_ssi_Ssi_behind) (args := [(Value.pointer g0_s), (Value.int .i64 g1_a), (Value.int .i64 g2_b)]) mixedPP Tryz.func57 (c := bodyOf Tryz.f57) (by kernel_rfl) (by kernel_rfl) (by kernel_rfl) (Eq.mpr (E_ssi_Ssi_behind g0_s g1_a g2_b h Q) H)
def F_edge_Edges_OldIn (g0_e : Option Addr) (g1_b : Int) (g2_csn : Int) (h : Hp) (Q : List Value → Hp → Prop) : Prop :=
∀ J1 : List Value → Hp → Prop, (∀ b2 : Bool, ∀ h3 : Hp, ((if b2 = true then
      (Q [(Value.bool false)] h3) else
      (nilW g0_e fun a4 => ∃ r5 : Option Nat, rd h3 (Addr.add a4 2) = some (Value.map r5) ∧
        ∃ (m6 : Nat) (es7 : Array MapEntry) (c8 : Nat), r5 = some m6 ∧ h3[m6]? = some (.map es7 c8) ∧ KeysLike (Value.int .i64 g1_b) es7 ∧ wth (Array.setIfInBounds h3 m6 (mput (Value.int .i64 g1_b) (Value.int .i64 g2_csn) es7 c8)) fun h9 =>
        Q [(Value.bool true)] h9))) → J1 [(Value.bool b2)] h3) →
S_edge_Edges_none g0_e h fun (vs10 : List Value) (h11 : Hp) =>
∃ b12 : Bool, vs10 = [(Value.bool b12)] ∧
(if b12 = true then (J1 [(Value.bool true)] h11) else
  (nilW g0_e fun a13 => ∃ p14 : Option Addr, rd h11 (Addr.add a13 0) = some (Value.pointer p14) ∧
    S_clog_Log_State p14 g1_b h11 fun (vs15 : List Value) (h16 : Hp) =>
    ∃ n17 : Int, vs15 = [(Value.int .i64 n17)] ∧
    (if (n17 == (0 : Int)) = true then (J1 [(Value.bool true)] h16) else
      (nilW g0_e fun a18 => ∃ p19 : Option Addr, rd h16 (Addr.add a18 0) = some (Value.pointer p19) ∧
        S_clog_Log_State p19 g1_b h16 fun (vs20 : List Value) (h21 : Hp) =>
        ∃ n22 : Int, vs20 = [(Value.int .i64 n22)] ∧
        (if (n22 == (3 : Int)) = true then (J1 [(Value.bool true)] h21) else
          (nilW g0_e fun a23 => ∃ p24 : Option Addr, rd h21 (Addr.add a23 0) = some (Value.pointer p24) ∧
            S_clog_Log_Snapshot p24 g1_b h21 fun (vs25 : List Value) (h26 : Hp) =>
            ∃ n27 : Int, vs25 = [(Value.int .i64 n27)] ∧
            (if (decide (g2_csn ≤ n27)) = true then (J1 [(Value.bool true)] h26) else
              (nilW g0_e fun a28 => ∃ r29 : Option Nat, rd h26 (Addr.add a28 2) = some (Value.map r29) ∧
                ∃ es30 : Array MapEntry, mapAt h26 r29 es30 ∧ KeysLike (Value.int .i64 g1_b) es30 ∧ ∃ n31 : Int, mgetD (Value.int .i64 g1_b) es30 (Value.int .i64 (0 : Int)) = (Value.int .i64 n31) ∧
                J1 [(Value.bool (decide (g2_csn ≤ n31)))] h26))))))))
def A_edge_Edges_OldIn : Ann := (.mk none ⟨[], []⟩ .nil (.mk none ⟨[], []⟩ (.mk none ⟨[], []⟩ (.mk (some ⟨[0, 1, 2], [(46, (.c .bool))]⟩) ⟨[], []⟩ .nil .nil) .nil) .nil))
theorem E_edge_Edges_OldIn (g0_e : Option Addr) (g1_b : Int) (g2_csn : Int) (h : Hp) (Q : List Value → Hp → Prop) : cw PP 53 (fun _ => []) (bodyOf Tryz.f58) A_edge_Edges_OldIn (finQ PP (Tryz.f58.results.toList) Q) (argFr [(Value.pointer g0_e), (Value.int .i64 g1_b), (Value.int .i64 g2_csn)]) h = F_edge_Edges_OldIn g0_e g1_b g2_csn h Q := by kernel_rfl
theorem O_edge_Edges_OldIn (g0_e : Option Addr) (g1_b : Int) (g2_csn : Int) {h : Hp} {Q : List Value → Hp → Prop} (H : F_edge_Edges_OldIn g0_e g1_b g2_csn h Q) : S_edge_Edges_OldIn g0_e g1_b g2_csn h Q :=
  fn_of_cw (hs := (fun _ => [])) (ann := A_edge_Edges_OldIn) (args := [(Value.pointer g0_e), (Value.int .i64 g1_b), (Value.int .i64 g2_csn)]) mixedPP Tryz.func58 (c := bodyOf Tryz.f58) (by kernel_rfl) (by kernel_rfl) (by kernel_rfl) (Eq.mpr (E_edge_Edges_OldIn g0_e g1_b g2_csn h Q) H)
def F_ssi_Ssi_Wrote (g0_s : Option Addr) (g1_xid : Int) (g2_x_0 : Int) (g2_x_1 : ByteArray) (g2_x_2 : Int) (g2_x_3 : ByteArray) (g2_x_4 : Int) (h : Hp) (Q : List Value → Hp → Prop) : Prop :=
wth (Array.push h (Obj.cells #[(Value.int .i64 g2_x_0), (Value.string g2_x_1), (Value.int .i64 g2_x_2), (Value.string g2_x_3), (Value.int .i64 g2_x_4)] T_siread_Thing)) fun h1 =>
S_ssi_Ssi_runs g0_s g1_xid h1 fun (vs2 : List Value) (h3 : Hp) =>
∃ b4 : Bool, vs2 = [(Value.bool b4)] ∧
(if (!b4) = true then
  (Q [] h3) else
  (nilW g0_s fun a5 => ∃ p6 : Option Addr, rd h3 (Addr.add a5 1) = some (Value.pointer p6) ∧
    ∃ n7 : Int, rd h3 (Addr.add (Addr.mk (Array.size h) 0 none) 0) = some (Value.int .i64 n7) ∧ ∃ s8 : ByteArray, rd h3 (Addr.add (Addr.mk (Array.size h) 0 none) 1) = some (Value.string s8) ∧ ∃ n9 : Int, rd h3 (Addr.add (Addr.mk (Array.size h) 0 none) 2) = some (Value.int .i64 n9) ∧ ∃ s10 : ByteArray, rd h3 (Addr.add (Addr.mk (Array.size h) 0 none) 3) = some (Value.string s10) ∧ ∃ n11 : Int, rd h3 (Addr.add (Addr.mk (Array.size h) 0 none) 4) = some (Value.int .i64 n11) ∧ S_siread_Table_Owners p6 n7 s8 n9 s10 n11 h3 fun (vs12 : List Value) (h13 : Hp) =>
    ∃ l14 : Sl, vs12 = [(Value.slice l14.a l14.n l14.c)] ∧
    ∀ X15 : List Value → Hp → Prop, (∀ n16 : Int, ∀ h17 : Hp, ((if (decide (n16 < (l14.n : Int))) = true then
          (∀ J18 : List Value → Hp → Prop, (∀ h19 : Hp, (X15 [(Value.int .i64 (IntKind.wrap .i64 (n16 + (1 : Int))))] h19) → J18 [] h19) →
            nilW l14.a fun a20 => ixOk n16 l14.n (∃ n21 : Int, rd h17 (Addr.add a20 (Int.toNat n16 * 1)) = some (Value.int .i64 n21) ∧
              (if (n21 == g1_xid) = true then
                (J18 [] h17) else
                ((if (decide (n21 > (0 : Int))) = true then
                    (S_ssi_Ssi_behind g0_s n21 g1_xid h17 fun (vs22 : List Value) (h23 : Hp) =>
                      vs22 = [] ∧
                      J18 [] h23) else
                    (nilW g0_s fun a24 => ∃ p25 : Option Addr, rd h17 (Addr.add a24 2) = some (Value.pointer p25) ∧
                      nilW g0_s fun a26 => ∃ p27 : Option Addr, rd h17 (Addr.add a26 1) = some (Value.pointer p27) ∧
                      S_siread_Table_Old p27 h17 fun (vs28 : List Value) (h29 : Hp) =>
                      ∃ n30 : Int, vs28 = [(Value.int .i64 n30)] ∧
                      rd h29 (Addr.add a24 2) = some (Value.pointer p25) ∧ S_edge_Edges_OldIn p25 g1_xid n30 h29 fun (vs31 : List Value) (h32 : Hp) =>
                      ∃ b33 : Bool, vs31 = [(Value.bool b33)] ∧
                      (if b33 = true then
                        (S_ssi_Ssi_look g0_s g1_xid h32 fun (vs34 : List Value) (h35 : Hp) =>
                          vs34 = [] ∧
                          J18 [] h35) else
                        (J18 [] h32)))))))) else
          (Q [] h17))) → X15 [(Value.int .i64 n16)] h17) →
    X15 [(Value.int .i64 (0 : Int))] h13))
def A_ssi_Ssi_Wrote : Ann := (.mk none ⟨[], []⟩ .nil (.mk none ⟨[], []⟩ (.mk none ⟨[], []⟩ .nil (.mk none ⟨[], []⟩ .nil (.mk none ⟨[], []⟩ .nil (.mk none ⟨[], []⟩ (.mk none ⟨[0, 1, 17, 18], [(19, (.c (.int .i64)))]⟩ (.mk none ⟨[], []⟩ .nil (.mk none ⟨[], []⟩ .nil (.mk none ⟨[], []⟩ (.mk (some ⟨[0, 1, 17, 18, 19], []⟩) ⟨[], []⟩ .nil .nil) .nil))) .nil) .nil)))) .nil))
theorem E_ssi_Ssi_Wrote (g0_s : Option Addr) (g1_xid : Int) (g2_x_0 : Int) (g2_x_1 : ByteArray) (g2_x_2 : Int) (g2_x_3 : ByteArray) (g2_x_4 : Int) (h : Hp) (Q : List Value → Hp → Prop) : cw PP 50 (fun _ => []) (bodyOf Tryz.f15) A_ssi_Ssi_Wrote (finQ PP (Tryz.f15.results.toList) Q) (argFr [(Value.pointer g0_s), (Value.int .i64 g1_xid), (Value.agg #[(Value.int .i64 g2_x_0), (Value.string g2_x_1), (Value.int .i64 g2_x_2), (Value.string g2_x_3), (Value.int .i64 g2_x_4)])]) h = F_ssi_Ssi_Wrote g0_s g1_xid g2_x_0 g2_x_1 g2_x_2 g2_x_3 g2_x_4 h Q := by kernel_rfl
theorem O_ssi_Ssi_Wrote (g0_s : Option Addr) (g1_xid : Int) (g2_x_0 : Int) (g2_x_1 : ByteArray) (g2_x_2 : Int) (g2_x_3 : ByteArray) (g2_x_4 : Int) {h : Hp} {Q : List Value → Hp → Prop} (H : F_ssi_Ssi_Wrote g0_s g1_xid g2_x_0 g2_x_1 g2_x_2 g2_x_3 g2_x_4 h Q) : S_ssi_Ssi_Wrote g0_s g1_xid g2_x_0 g2_x_1 g2_x_2 g2_x_3 g2_x_4 h Q :=
  fn_of_cw (hs := (fun _ => [])) (ann := A_ssi_Ssi_Wrote) (args := [(Value.pointer g0_s), (Value.int .i64 g1_xid), (Value.agg #[(Value.int .i64 g2_x_0), (Value.string g2_x_1), (Value.int .i64 g2_x_2), (Value.string g2_x_3), (Value.int .i64 g2_x_4)])]) mixedPP Tryz.func15 (c := bodyOf Tryz.f15) (by kernel_rfl) (by kernel_rfl) (by kernel_rfl) (Eq.mpr (E_ssi_Ssi_Wrote g0_s g1_xid g2_x_0 g2_x_1 g2_x_2 g2_x_3 g2_x_4 h Q) H)
def F_siread_Table_Drop (g0_t : Option Addr) (g1_xid : Int) (h : Hp) (Q : List Value → Hp → Prop) : Prop :=
(if (Option.isNone g0_t) = true then
  (Q [] h) else
  (S_siread_Table_lose g0_t g1_xid 119 #[] h fun (vs1 : List Value) (h2 : Hp) =>
    vs1 = [] ∧
    nilW g0_t fun a3 => ∃ r4 : Option Nat, rd h2 (Addr.add a3 2) = some (Value.map r4) ∧
    ∃ (m5 : Nat) (es6 : Array MapEntry) (c7 : Nat), r4 = some m5 ∧ h2[m5]? = some (.map es6 c7) ∧ KeysLike (Value.int .i64 g1_xid) es6 ∧ wth (Array.setIfInBounds h2 m5 (mdel (Value.int .i64 g1_xid) es6 c7)) fun h8 =>
    (if (g1_xid == (0 : Int)) = true then
      (nilW g0_t fun a9 => stOk h8 (Addr.add a9 4) 1 ∧ wth (wrs h8 (Addr.add a9 4) 0 [(Value.int .i64 (0 : Int))]) fun h10 =>
        Q [] h10) else
      (Q [] h8))))
def A_siread_Table_Drop : Ann := .nil
theorem E_siread_Table_Drop (g0_t : Option Addr) (g1_xid : Int) (h : Hp) (Q : List Value → Hp → Prop) : cw PP 19 (fun _ => []) (bodyOf Tryz.f65) A_siread_Table_Drop (finQ PP (Tryz.f65.results.toList) Q) (argFr [(Value.pointer g0_t), (Value.int .i64 g1_xid)]) h = F_siread_Table_Drop g0_t g1_xid h Q := by kernel_rfl
theorem O_siread_Table_Drop (g0_t : Option Addr) (g1_xid : Int) {h : Hp} {Q : List Value → Hp → Prop} (H : F_siread_Table_Drop g0_t g1_xid h Q) : S_siread_Table_Drop g0_t g1_xid h Q :=
  fn_of_cw (hs := (fun _ => [])) (ann := A_siread_Table_Drop) (args := [(Value.pointer g0_t), (Value.int .i64 g1_xid)]) mixedPP Tryz.func65 (c := bodyOf Tryz.f65) (by kernel_rfl) (by kernel_rfl) (by kernel_rfl) (Eq.mpr (E_siread_Table_Drop g0_t g1_xid h Q) H)
def F_slices_DeleteFunc_sint_int (g0_s : Sl) (g1_del_f : Nat) (g1_del_c : Array Value) (h : Hp) (Q : List Value → Hp → Prop) : Prop :=
S_slices_IndexFunc_sint_int ⟨g0_s.a, g0_s.n, g0_s.c⟩ g1_del_f g1_del_c h fun (vs1 : List Value) (h2 : Hp) =>
∃ n3 : Int, vs1 = [(Value.int .i64 n3)] ∧
(if (n3 == (-1 : Int)) = true then
  (Q [(Value.slice g0_s.a g0_s.n g0_s.c)] h2) else
  (∀ X4 : List Value → Hp → Prop, (∀ n5 : Int, ∀ n6 : Int, ∀ h7 : Hp, ((if (decide (n6 < (g0_s.n : Int))) = true then
          (∀ J8 : List Value → Hp → Prop, (∀ n9 : Int, ∀ h10 : Hp, (X4 [(Value.int .i64 n9), (Value.int .i64 (IntKind.wrap .i64 (n6 + (1 : Int))))] h10) → J8 [(Value.int .i64 n9)] h10) →
            nilW g0_s.a fun a11 => ixOk n6 g0_s.n (∃ n12 : Int, rd h7 (Addr.add a11 (Int.toNat n6 * 1)) = some (Value.int .i64 n12) ∧
              Fn PP g1_del_f ((#[] ++ #[(Value.int .i64 n12)]) ++ g1_del_c) h7 fun (vs13 : List Value) (h14 : Hp) =>
              ∃ b15 : Bool, vs13 = [(Value.bool b15)] ∧
              (if (!b15) = true then
                (nilW g0_s.a fun a16 => ixOk n5 g0_s.n (stOk h14 (Addr.add a16 (Int.toNat n5 * 1)) 1 ∧ wth (wrs h14 (Addr.add a16 (Int.toNat n5 * 1)) 0 [(Value.int .i64 n12)]) fun h17 =>
                    J8 [(Value.int .i64 (IntKind.wrap .i64 (n5 + (1 : Int))))] h17)) else
                (J8 [(Value.int .i64 n5)] h14)))) else
          ((0 ≤ n5 ∧ n5 ≤ (g0_s.n : Nat)) ∧ (List.all (Array.toList (zc PP T_int)) oneCell = true ∧ ∀ a : Addr, (slAd g0_s.a (Int.toNat n5) g0_s.c 1) = some a → stOk h7 a ((g0_s.n - (Int.toNat n5)) * Array.size (zc PP T_int))) ∧ wth (cpHp h7 (if (g0_s.n - (Int.toNat n5)) = 0 then none else (slAd g0_s.a (Int.toNat n5) g0_s.c 1)) (Array.toList (Builtin.zeroCells (zc PP T_int) (g0_s.n - (Int.toNat n5))))) fun h18 =>
            (0 ≤ n5 ∧ n5 ≤ (g0_s.c : Nat)) ∧ Q [(Value.slice (slAd g0_s.a 0 g0_s.c 1) ((Int.toNat n5) - 0) (g0_s.c - 0))] h18))) → X4 [(Value.int .i64 n5), (Value.int .i64 n6)] h7) →
    X4 [(Value.int .i64 n3), (Value.int .i64 (IntKind.wrap .i64 (n3 + (1 : Int))))] h2))
def A_slices_DeleteFunc_sint_int : Ann := (.mk none ⟨[], []⟩ .nil (.mk none ⟨[], []⟩ .nil (.mk none ⟨[], []⟩ .nil (.mk none ⟨[], []⟩ (.mk none ⟨[], []⟩ .nil (.mk none ⟨[], []⟩ (.mk none ⟨[0, 1], [(5, (.c (.int .i64))), (6, (.c (.int .i64)))]⟩ (.mk none ⟨[], []⟩ .nil (.mk none ⟨[], []⟩ (.mk (some ⟨[0, 1, 6], [(5, (.c (.int .i64)))]⟩) ⟨[], []⟩ .nil .nil) .nil)) .nil) .nil)) .nil))))
theorem E_slices_DeleteFunc_sint_int (g0_s : Sl) (g1_del_f : Nat) (g1_del_c : Array Value) (h : Hp) (Q : List Value → Hp → Prop) : cw PP 42 (fun _ => []) (bodyOf Tryz.f114) A_slices_DeleteFunc_sint_int (finQ PP (Tryz.f114.results.toList) Q) (argFr [(Value.slice g0_s.a g0_s.n g0_s.c), (Value.func (.func g1_del_f) #[] g1_del_c)]) h = F_slices_DeleteFunc_sint_int g0_s g1_del_f g1_del_c h Q := by kernel_rfl
theorem O_slices_DeleteFunc_sint_int (g0_s : Sl) (g1_del_f : Nat) (g1_del_c : Array Value) {h : Hp} {Q : List Value → Hp → Prop} (H : F_slices_DeleteFunc_sint_int g0_s g1_del_f g1_del_c h Q) : S_slices_DeleteFunc_sint_int g0_s g1_del_f g1_del_c h Q :=
  fn_of_cw (hs := (fun _ => [])) (ann := A_slices_DeleteFunc_sint_int) (args := [(Value.slice g0_s.a g0_s.n g0_s.c), (Value.func (.func g1_del_f) #[] g1_del_c)]) mixedPP Tryz.func114 (c := bodyOf Tryz.f114) (by kernel_rfl) (by kernel_rfl) (by kernel_rfl) (Eq.mpr (E_slices_DeleteFunc_sint_int g0_s g1_del_f g1_del_c h Q) H)
def F_siread_Table_Fold (g0_t : Option Addr) (g1_xid : Int) (g2_csn : Int) (h : Hp) (Q : List Value → Hp → Prop) : Prop :=
∀ J1 : List Value → Hp → Prop, (∀ b2 : Bool, ∀ h3 : Hp, ((if b2 = true then
      (Q [] h3) else
      (S_siread_Table_Of g0_t g1_xid h3 fun (vs4 : List Value) (h5 : Hp) =>
        ∃ l6 : Sl, vs4 = [(Value.slice l6.a l6.n l6.c)] ∧
        S_siread_Table_Drop g0_t g1_xid h5 fun (vs7 : List Value) (h8 : Hp) =>
        vs7 = [] ∧
        ∀ X9 : List Value → Hp → Prop, (∀ n10 : Int, ∀ h11 : Hp, ((if (decide (n10 < (l6.n : Int))) = true then
              (nilW l6.a fun a12 => ixOk n10 l6.n (∃ n13 : Int, rd h11 (Addr.add (Addr.add a12 (Int.toNat n10 * 5)) 0) = some (Value.int .i64 n13) ∧ ∃ s14 : ByteArray, rd h11 (Addr.add (Addr.add a12 (Int.toNat n10 * 5)) 1) = some (Value.string s14) ∧ ∃ n15 : Int, rd h11 (Addr.add (Addr.add a12 (Int.toNat n10 * 5)) 2) = some (Value.int .i64 n15) ∧ ∃ s16 : ByteArray, rd h11 (Addr.add (Addr.add a12 (Int.toNat n10 * 5)) 3) = some (Value.string s16) ∧ ∃ n17 : Int, rd h11 (Addr.add (Addr.add a12 (Int.toNat n10 * 5)) 4) = some (Value.int .i64 n17) ∧ wth (Array.push h11 (Obj.cells #[(Value.int .i64 (0 : Int)), (Value.string (ByteArray.mk #[])), (Value.int .i64 (0 : Int)), (Value.string (ByteArray.mk #[])), (Value.int .i64 (0 : Int))] T_siread_Thing)) fun h18 =>
                  stOk h18 (Addr.mk (Array.size h11) 0 none) 5 ∧ wth (wrs h18 (Addr.mk (Array.size h11) 0 none) 0 [(Value.int .i64 n13), (Value.string s14), (Value.int .i64 n15), (Value.string s16), (Value.int .i64 n17)]) fun h19 =>
                  ∃ n20 : Int, rd h19 (Addr.add (Addr.mk (Array.size h11) 0 none) 0) = some (Value.int .i64 n20) ∧ ∃ s21 : ByteArray, rd h19 (Addr.add (Addr.mk (Array.size h11) 0 none) 1) = some (Value.string s21) ∧ ∃ n22 : Int, rd h19 (Addr.add (Addr.mk (Array.size h11) 0 none) 2) = some (Value.int .i64 n22) ∧ ∃ s23 : ByteArray, rd h19 (Addr.add (Addr.mk (Array.size h11) 0 none) 3) = some (Value.string s23) ∧ ∃ n24 : Int, rd h19 (Addr.add (Addr.mk (Array.size h11) 0 none) 4) = some (Value.int .i64 n24) ∧ S_siread_Table_take g0_t (0 : Int) n20 s21 n22 s23 n24 h19 fun (vs25 : List Value) (h26 : Hp) =>
                  vs25 = [] ∧
                  X9 [(Value.int .i64 (IntKind.wrap .i64 (n10 + (1 : Int))))] h26)) else
              (nilW g0_t fun a27 => ∃ n28 : Int, rd h11 (Addr.add a27 4) = some (Value.int .i64 n28) ∧
                nilW g0_t fun a29 => stOk h11 (Addr.add a29 4) 1 ∧ wth (wrs h11 (Addr.add a29 4) 0 [(Value.int .i64 (mxI n28 g2_csn))]) fun h30 =>
                Q [] h30))) → X9 [(Value.int .i64 n10)] h11) →
        X9 [(Value.int .i64 (0 : Int))] h8))) → J1 [(Value.bool b2)] h3) →
(if (Option.isNone g0_t) = true then (J1 [(Value.bool true)] h) else
  (S_siread_one g1_xid h fun (vs31 : List Value) (h32 : Hp) =>
    ∃ b33 : Bool, vs31 = [(Value.bool b33)] ∧
    J1 [(Value.bool (!b33))] h32))
def A_siread_Table_Fold : Ann := (.mk none ⟨[], []⟩ (.mk none ⟨[], []⟩ (.mk (some ⟨[0, 1, 2], [(15, (.c .bool))]⟩) ⟨[], []⟩ .nil .nil) .nil) (.mk none ⟨[], []⟩ .nil (.mk none ⟨[], []⟩ .nil (.mk none ⟨[], []⟩ (.mk none ⟨[], []⟩ .nil (.mk none ⟨[], []⟩ (.mk none ⟨[0, 2, 22, 23], [(24, (.c (.int .i64)))]⟩ .nil .nil) .nil)) .nil))))
theorem E_siread_Table_Fold (g0_t : Option Addr) (g1_xid : Int) (g2_csn : Int) (h : Hp) (Q : List Value → Hp → Prop) : cw PP 41 (fun _ => []) (bodyOf Tryz.f117) A_siread_Table_Fold (finQ PP (Tryz.f117.results.toList) Q) (argFr [(Value.pointer g0_t), (Value.int .i64 g1_xid), (Value.int .i64 g2_csn)]) h = F_siread_Table_Fold g0_t g1_xid g2_csn h Q := by kernel_rfl
theorem O_siread_Table_Fold (g0_t : Option Addr) (g1_xid : Int) (g2_csn : Int) {h : Hp} {Q : List Value → Hp → Prop} (H : F_siread_Table_Fold g0_t g1_xid g2_csn h Q) : S_siread_Table_Fold g0_t g1_xid g2_csn h Q :=
  fn_of_cw (hs := (fun _ => [])) (ann := A_siread_Table_Fold) (args := [(Value.pointer g0_t), (Value.int .i64 g1_xid), (Value.int .i64 g2_csn)]) mixedPP Tryz.func117 (c := bodyOf Tryz.f117) (by kernel_rfl) (by kernel_rfl) (by kernel_rfl) (Eq.mpr (E_siread_Table_Fold g0_t g1_xid g2_csn h Q) H)
def F_ssi_Ssi_clean (g0_s : Option Addr) (h : Hp) (Q : List Value → Hp → Prop) : Prop :=
wth (Array.push h (Obj.cells #[(Value.pointer g0_s)] T_pssi_Ssi)) fun h1 =>
∃ p2 : Option Addr, rd h1 (Addr.mk (Array.size h) 0 none) = some (Value.pointer p2) ∧
∃ p3 : Option Addr, rd h1 (Addr.mk (Array.size h) 0 none) = some (Value.pointer p3) ∧
nilW p3 fun a4 => ∃ l5 : Sl, rd h1 (Addr.add a4 4) = some (Value.slice l5.a l5.n l5.c) ∧
S_slices_DeleteFunc_sint_int ⟨l5.a, l5.n, l5.c⟩ 115 #[(Value.pointer (some (Addr.mk (Array.size h) 0 none)))] h1 fun (vs6 : List Value) (h7 : Hp) =>
∃ l8 : Sl, vs6 = [(Value.slice l8.a l8.n l8.c)] ∧
rd h7 (Addr.mk (Array.size h) 0 none) = some (Value.pointer p2) ∧ nilW p2 fun a9 => stOk h7 (Addr.add a9 4) 1 ∧ wth (wrs h7 (Addr.add a9 4) 0 [(Value.slice l8.a l8.n l8.c)]) fun h10 =>
∀ X11 : List Value → Hp → Prop, (∀ h12 : Hp, (∃ p13 : Option Addr, rd h12 (Addr.mk (Array.size h) 0 none) = some (Value.pointer p13) ∧
    nilW p13 fun a14 => ∃ l15 : Sl, rd h12 (Addr.add a14 4) = some (Value.slice l15.a l15.n l15.c) ∧
    ∃ p16 : Option Addr, rd h12 (Addr.mk (Array.size h) 0 none) = some (Value.pointer p16) ∧
    nilW p16 fun a17 => ∃ n18 : Int, rd h12 (Addr.add a17 3) = some (Value.int .i64 n18) ∧
    (if (decide ((l15.n : Int) > n18)) = true then
      (∃ p19 : Option Addr, rd h12 (Addr.mk (Array.size h) 0 none) = some (Value.pointer p19) ∧
        nilW p19 fun a20 => ∃ p21 : Option Addr, rd h12 (Addr.add a20 1) = some (Value.pointer p21) ∧
        ∃ p22 : Option Addr, rd h12 (Addr.mk (Array.size h) 0 none) = some (Value.pointer p22) ∧
        nilW p22 fun a23 => ∃ l24 : Sl, rd h12 (Addr.add a23 4) = some (Value.slice l24.a l24.n l24.c) ∧
        nilW l24.a fun a25 => ixOk (0 : Int) l24.n (∃ n26 : Int, rd h12 (Addr.add a25 (Int.toNat (0 : Int) * 1)) = some (Value.int .i64 n26) ∧
          ∃ p27 : Option Addr, rd h12 (Addr.mk (Array.size h) 0 none) = some (Value.pointer p27) ∧
          nilW p27 fun a28 => ∃ p29 : Option Addr, rd h12 (Addr.add a28 0) = some (Value.pointer p29) ∧
          ∃ p30 : Option Addr, rd h12 (Addr.mk (Array.size h) 0 none) = some (Value.pointer p30) ∧
          nilW p30 fun a31 => ∃ l32 : Sl, rd h12 (Addr.add a31 4) = some (Value.slice l32.a l32.n l32.c) ∧
          nilW l32.a fun a33 => ixOk (0 : Int) l32.n (∃ n34 : Int, rd h12 (Addr.add a33 (Int.toNat (0 : Int) * 1)) = some (Value.int .i64 n34) ∧
            S_clog_Log_Csn p29 n34 h12 fun (vs35 : List Value) (h36 : Hp) =>
            ∃ n37 : Int, vs35 = [(Value.int .i64 n37)] ∧
            rd h36 (Addr.add a25 (Int.toNat (0 : Int) * 1)) = some (Value.int .i64 n26) ∧ rd h36 (Addr.add a23 4) = some (Value.slice l24.a l24.n l24.c) ∧ rd h36 (Addr.mk (Array.size h) 0 none) = some (Value.pointer p22) ∧ rd h36 (Addr.add a20 1) = some (Value.pointer p21) ∧ rd h36 (Addr.mk (Array.size h) 0 none) = some (Value.pointer p19) ∧ S_siread_Table_Fold p21 n26 n37 h36 fun (vs38 : List Value) (h39 : Hp) =>
            vs38 = [] ∧
            ∃ p40 : Option Addr, rd h39 (Addr.mk (Array.size h) 0 none) = some (Value.pointer p40) ∧
            ∃ p41 : Option Addr, rd h39 (Addr.mk (Array.size h) 0 none) = some (Value.pointer p41) ∧
            nilW p41 fun a42 => ∃ l43 : Sl, rd h39 (Addr.add a42 4) = some (Value.slice l43.a l43.n l43.c) ∧
            (0 ≤ (1 : Int) ∧ (1 : Int) ≤ (l43.n : Nat)) ∧ nilW p40 fun a44 => stOk h39 (Addr.add a44 4) 1 ∧ wth (wrs h39 (Addr.add a44 4) 0 [(Value.slice (slAd l43.a (Int.toNat (1 : Int)) l43.c 1) (l43.n - (Int.toNat (1 : Int))) (l43.c - (Int.toNat (1 : Int))))]) fun h45 =>
            X11 [] h45))) else
      (∀ J46 : List Value → Hp → Prop, (∀ b47 : Bool, ∀ h48 : Hp, ((if b47 = true then
              (∃ p49 : Option Addr, rd h48 (Addr.mk (Array.size h) 0 none) = some (Value.pointer p49) ∧
                nilW p49 fun a50 => ∃ p51 : Option Addr, rd h48 (Addr.add a50 1) = some (Value.pointer p51) ∧
                S_siread_Table_Drop p51 (0 : Int) h48 fun (vs52 : List Value) (h53 : Hp) =>
                vs52 = [] ∧
                Q [] h53) else
              (Q [] h48))) → J46 [(Value.bool b47)] h48) →
        ∃ p54 : Option Addr, rd h12 (Addr.mk (Array.size h) 0 none) = some (Value.pointer p54) ∧
        nilW p54 fun a55 => ∃ l56 : Sl, rd h12 (Addr.add a55 4) = some (Value.slice l56.a l56.n l56.c) ∧
        (if ((l56.n : Int) == (0 : Int)) = true then (∃ p57 : Option Addr, rd h12 (Addr.mk (Array.size h) 0 none) = some (Value.pointer p57) ∧
            nilW p57 fun a58 => ∃ p59 : Option Addr, rd h12 (Addr.add a58 0) = some (Value.pointer p59) ∧
            S_clog_Log_Running p59 h12 fun (vs60 : List Value) (h61 : Hp) =>
            ∃ l62 : Sl, vs60 = [(Value.slice l62.a l62.n l62.c)] ∧
            J46 [(Value.bool ((l62.n : Int) == (0 : Int)))] h61) else
          (J46 [(Value.bool false)] h12))))) → X11 [] h12) →
X11 [] h10
def A_ssi_Ssi_clean : Ann := (.mk none ⟨[], []⟩ .nil (.mk none ⟨[], []⟩ .nil (.mk none ⟨[], []⟩ (.mk none ⟨[], []⟩ (.mk none ⟨[1], []⟩ .nil .nil) .nil) (.mk none ⟨[], []⟩ (.mk (some ⟨[1], [(65, (.c .bool))]⟩) ⟨[], []⟩ .nil .nil) .nil))))
theorem E_ssi_Ssi_clean (g0_s : Option Addr) (h : Hp) (Q : List Value → Hp → Prop) : cw PP 71 (fun _ => []) (bodyOf Tryz.f62) A_ssi_Ssi_clean (finQ PP (Tryz.f62.results.toList) Q) (argFr [(Value.pointer g0_s)]) h = F_ssi_Ssi_clean g0_s h Q := by kernel_rfl
theorem O_ssi_Ssi_clean (g0_s : Option Addr) {h : Hp} {Q : List Value → Hp → Prop} (H : F_ssi_Ssi_clean g0_s h Q) : S_ssi_Ssi_clean g0_s h Q :=
  fn_of_cw (hs := (fun _ => [])) (ann := A_ssi_Ssi_clean) (args := [(Value.pointer g0_s)]) mixedPP Tryz.func62 (c := bodyOf Tryz.f62) (by kernel_rfl) (by kernel_rfl) (by kernel_rfl) (Eq.mpr (E_ssi_Ssi_clean g0_s h Q) H)
def F_clog_Log_ends (g0_l : Option Addr) (g1_xid : Int) (h : Hp) (Q : List Value → Hp → Prop) : Prop :=
(if (Option.isNone g0_l) = true then
  (Q [(Value.pointer none), (Value.int .i64 (1 : Int))] h) else
  (S_clog_Log_get g0_l g1_xid h fun (vs1 : List Value) (h2 : Hp) =>
    ∃ p3 : Option Addr, vs1 = [(Value.pointer p3)] ∧
    ∀ J4 : List Value → Hp → Prop, (∀ b5 : Bool, ∀ h6 : Hp, ((if b5 = true then
          (Q [(Value.pointer none), (Value.int .i64 (76 : Int))] h6) else
          (Q [(Value.pointer p3), (Value.int .i64 (0 : Int))] h6))) → J4 [(Value.bool b5)] h6) →
    (if (Option.isNone p3) = true then (J4 [(Value.bool true)] h2) else
      (nilW p3 fun a7 => ∃ n8 : Int, rd h2 (Addr.add a7 0) = some (Value.int .i64 n8) ∧
        J4 [(Value.bool (n8 != (1 : Int)))] h2))))
def A_clog_Log_ends : Ann := (.mk none ⟨[], []⟩ .nil (.mk none ⟨[], []⟩ .nil (.mk none ⟨[], []⟩ .nil (.mk none ⟨[], []⟩ (.mk none ⟨[], []⟩ (.mk (some ⟨[6], [(20, (.c .bool))]⟩) ⟨[], []⟩ .nil .nil) .nil) .nil))))
theorem E_clog_Log_ends (g0_l : Option Addr) (g1_xid : Int) (h : Hp) (Q : List Value → Hp → Prop) : cw PP 22 (fun _ => []) (bodyOf Tryz.f113) A_clog_Log_ends (finQ PP (Tryz.f113.results.toList) Q) (argFr [(Value.pointer g0_l), (Value.int .i64 g1_xid)]) h = F_clog_Log_ends g0_l g1_xid h Q := by kernel_rfl
theorem O_clog_Log_ends (g0_l : Option Addr) (g1_xid : Int) {h : Hp} {Q : List Value → Hp → Prop} (H : F_clog_Log_ends g0_l g1_xid h Q) : S_clog_Log_ends g0_l g1_xid h Q :=
  fn_of_cw (hs := (fun _ => [])) (ann := A_clog_Log_ends) (args := [(Value.pointer g0_l), (Value.int .i64 g1_xid)]) mixedPP Tryz.func113 (c := bodyOf Tryz.f113) (by kernel_rfl) (by kernel_rfl) (by kernel_rfl) (Eq.mpr (E_clog_Log_ends g0_l g1_xid h Q) H)
def F_clog_Log_Abort (g0_l : Option Addr) (g1_xid : Int) (h : Hp) (Q : List Value → Hp → Prop) : Prop :=
S_clog_Log_ends g0_l g1_xid h fun (vs1 : List Value) (h2 : Hp) =>
∃ p3 : Option Addr, ∃ n4 : Int, vs1 = [(Value.pointer p3), (Value.int .i64 n4)] ∧
∀ J5 : List Value → Hp → Prop, (∀ h6 : Hp, (Q [(Value.int .i64 n4)] h6) → J5 [] h6) →
(if (n4 == (0 : Int)) = true then
  (nilW p3 fun a7 => stOk h2 (Addr.add a7 0) 1 ∧ wth (wrs h2 (Addr.add a7 0) 0 [(Value.int .i64 (3 : Int))]) fun h8 =>
    J5 [] h8) else
  (J5 [] h2))
def A_clog_Log_Abort : Ann := (.mk none ⟨[], []⟩ .nil (.mk none ⟨[], []⟩ .nil (.mk none ⟨[], []⟩ (.mk none ⟨[], []⟩ .nil (.mk (some ⟨[6], []⟩) ⟨[], []⟩ .nil .nil)) .nil)))
theorem E_clog_Log_Abort (g0_l : Option Addr) (g1_xid : Int) (h : Hp) (Q : List Value → Hp → Prop) : cw PP 19 (fun _ => []) (bodyOf Tryz.f64) A_clog_Log_Abort (finQ PP (Tryz.f64.results.toList) Q) (argFr [(Value.pointer g0_l), (Value.int .i64 g1_xid)]) h = F_clog_Log_Abort g0_l g1_xid h Q := by kernel_rfl
theorem O_clog_Log_Abort (g0_l : Option Addr) (g1_xid : Int) {h : Hp} {Q : List Value → Hp → Prop} (H : F_clog_Log_Abort g0_l g1_xid h Q) : S_clog_Log_Abort g0_l g1_xid h Q :=
  fn_of_cw (hs := (fun _ => [])) (ann := A_clog_Log_Abort) (args := [(Value.pointer g0_l), (Value.int .i64 g1_xid)]) mixedPP Tryz.func64 (c := bodyOf Tryz.f64) (by kernel_rfl) (by kernel_rfl) (by kernel_rfl) (Eq.mpr (E_clog_Log_Abort g0_l g1_xid h Q) H)
def F_maps_DeleteFunc_map_2_int_int_2_int_int (g0_m : Option Nat) (g1_del_f : Nat) (g1_del_c : Array Value) (h : Hp) (Q : List Value → Hp → Prop) : Prop :=
∃ o1 : Obj, IterOf h g0_m o1 ∧ wth (Array.push h o1) fun h2 =>
∀ X3 : List Value → Hp → Prop, (∀ h4 : Hp, ((Addr.off (Addr.mk (Array.size h) 0 none) = 0 ∧ ∃ o5 : Obj, h4[Addr.block (Addr.mk (Array.size h) 0 none)]? = some o5 ∧ IterGood h4 o5 ∧
      (IterEnd h4 o5 → Q [] h4) ∧
      ∀ (k6 v7 : Value) (o8 : Obj), IterStep h4 o5 k6 v7 o8 → wth (Array.setIfInBounds h4 (Addr.block (Addr.mk (Array.size h) 0 none)) o8) fun h9 =>
      (Addr.off (Addr.mk (Array.size h) 0 none) = 0 ∧ ∃ (m10 n11 : Nat) (q12 : Array Nat) (n13 : Nat) (es14 : Array MapEntry) (c15 : Nat) (e16 : MapEntry), h9[Addr.block (Addr.mk (Array.size h) 0 none)]? = some (.mapIter (some m10) n11 q12 c15) ∧ Array.back? q12 = some n13 ∧ h9[m10]? = some (.map es14 c15) ∧ Array.find? (fun x => x.born == n13) es14 = some e16 ∧ ∃ n17 : Int, ∃ n18 : Int, e16.key = (Value.agg #[(Value.int .i64 n17), (Value.int .i64 n18)]) ∧ ∃ n19 : Int, e16.val = (Value.int .i64 n19) ∧ wth (Array.push h9 (Obj.cells #[(Value.int .i64 (0 : Int)), (Value.int .i64 (0 : Int))] T_2_int)) fun h20 =>
        stOk h20 (Addr.mk (Array.size h9) 0 none) 2 ∧ wth (wrs h20 (Addr.mk (Array.size h9) 0 none) 0 [(Value.int .i64 n17), (Value.int .i64 n18)]) fun h21 =>
        ∃ n22 : Int, rd h21 (Addr.add (Addr.mk (Array.size h9) 0 none) 0) = some (Value.int .i64 n22) ∧ ∃ n23 : Int, rd h21 (Addr.add (Addr.mk (Array.size h9) 0 none) 1) = some (Value.int .i64 n23) ∧ Fn PP g1_del_f ((#[] ++ #[(Value.agg #[(Value.int .i64 n22), (Value.int .i64 n23)]), (Value.int .i64 n19)]) ++ g1_del_c) h21 fun (vs24 : List Value) (h25 : Hp) =>
        ∃ b26 : Bool, vs24 = [(Value.bool b26)] ∧
        (if b26 = true then
          (∃ n27 : Int, rd h25 (Addr.add (Addr.mk (Array.size h9) 0 none) 0) = some (Value.int .i64 n27) ∧ ∃ n28 : Int, rd h25 (Addr.add (Addr.mk (Array.size h9) 0 none) 1) = some (Value.int .i64 n28) ∧ ∃ (m29 : Nat) (es30 : Array MapEntry) (c31 : Nat), g0_m = some m29 ∧ h25[m29]? = some (.map es30 c31) ∧ KeysLike (Value.agg #[(Value.int .i64 n27), (Value.int .i64 n28)]) es30 ∧ wth (Array.setIfInBounds h25 m29 (mdel (Value.agg #[(Value.int .i64 n27), (Value.int .i64 n28)]) es30 c31)) fun h32 =>
            X3 [] h32) else
          (X3 [] h25))))) → X3 [] h4) →
X3 [] h2
def A_maps_DeleteFunc_map_2_int_int_2_int_int : Ann := (.mk none ⟨[], []⟩ .nil (.mk none ⟨[], []⟩ (.mk none ⟨[0, 1, 7], []⟩ .nil .nil) .nil))
theorem E_maps_DeleteFunc_map_2_int_int_2_int_int (g0_m : Option Nat) (g1_del_f : Nat) (g1_del_c : Array Value) (h : Hp) (Q : List Value → Hp → Prop) : cw PP 19 (fun d => if d = 10 then [(.agg [(.int .i64), (.int .i64)]), (.c (.int .i64))] else []) (bodyOf Tryz.f120) A_maps_DeleteFunc_map_2_int_int_2_int_int (finQ PP (Tryz.f120.results.toList) Q) (argFr [(Value.map g0_m), (Value.func (.func g1_del_f) #[] g1_del_c)]) h = F_maps_DeleteFunc_map_2_int_int_2_int_int g0_m g1_del_f g1_del_c h Q := by kernel_rfl
theorem O_maps_DeleteFunc_map_2_int_int_2_int_int (g0_m : Option Nat) (g1_del_f : Nat) (g1_del_c : Array Value) {h : Hp} {Q : List Value → Hp → Prop} (H : F_maps_DeleteFunc_map_2_int_int_2_int_int g0_m g1_del_f g1_del_c h Q) : S_maps_DeleteFunc_map_2_int_int_2_int_int g0_m g1_del_f g1_del_c h Q :=
  fn_of_cw (hs := (fun d => if d = 10 then [(.agg [(.int .i64), (.int .i64)]), (.c (.int .i64))] else [])) (ann := A_maps_DeleteFunc_map_2_int_int_2_int_int) (args := [(Value.map g0_m), (Value.func (.func g1_del_f) #[] g1_del_c)]) mixedPP Tryz.func120 (c := bodyOf Tryz.f120) (by kernel_rfl) (by kernel_rfl) (by kernel_rfl) (Eq.mpr (E_maps_DeleteFunc_map_2_int_int_2_int_int g0_m g1_del_f g1_del_c h Q) H)
def F_edge_Edges_Drop (g0_e : Option Addr) (g1_xid : Int) (h : Hp) (Q : List Value → Hp → Prop) : Prop :=
wth (Array.push h (Obj.cells #[(Value.int .i64 g1_xid)] T_int)) fun h1 =>
S_edge_Edges_none g0_e h1 fun (vs2 : List Value) (h3 : Hp) =>
∃ b4 : Bool, vs2 = [(Value.bool b4)] ∧
(if b4 = true then
  (Q [] h3) else
  (nilW g0_e fun a5 => ∃ r6 : Option Nat, rd h3 (Addr.add a5 1) = some (Value.map r6) ∧
    S_maps_DeleteFunc_map_2_int_int_2_int_int r6 121 #[(Value.pointer (some (Addr.mk (Array.size h) 0 none)))] h3 fun (vs7 : List Value) (h8 : Hp) =>
    vs7 = [] ∧
    nilW g0_e fun a9 => ∃ r10 : Option Nat, rd h8 (Addr.add a9 2) = some (Value.map r10) ∧
    ∃ n11 : Int, rd h8 (Addr.mk (Array.size h) 0 none) = some (Value.int .i64 n11) ∧
    ∃ (m12 : Nat) (es13 : Array MapEntry) (c14 : Nat), r10 = some m12 ∧ h8[m12]? = some (.map es13 c14) ∧ KeysLike (Value.int .i64 n11) es13 ∧ wth (Array.setIfInBounds h8 m12 (mdel (Value.int .i64 n11) es13 c14)) fun h15 =>
    Q [] h15))
def A_edge_Edges_Drop : Ann := .nil
theorem E_edge_Edges_Drop (g0_e : Option Addr) (g1_xid : Int) (h : Hp) (Q : List Value → Hp → Prop) : cw PP 17 (fun _ => []) (bodyOf Tryz.f66) A_edge_Edges_Drop (finQ PP (Tryz.f66.results.toList) Q) (argFr [(Value.pointer g0_e), (Value.int .i64 g1_xid)]) h = F_edge_Edges_Drop g0_e g1_xid h Q := by kernel_rfl
theorem O_edge_Edges_Drop (g0_e : Option Addr) (g1_xid : Int) {h : Hp} {Q : List Value → Hp → Prop} (H : F_edge_Edges_Drop g0_e g1_xid h Q) : S_edge_Edges_Drop g0_e g1_xid h Q :=
  fn_of_cw (hs := (fun _ => [])) (ann := A_edge_Edges_Drop) (args := [(Value.pointer g0_e), (Value.int .i64 g1_xid)]) mixedPP Tryz.func66 (c := bodyOf Tryz.f66) (by kernel_rfl) (by kernel_rfl) (by kernel_rfl) (Eq.mpr (E_edge_Edges_Drop g0_e g1_xid h Q) H)
def F_ssi_Ssi_Abort (g0_s : Option Addr) (g1_xid : Int) (h : Hp) (Q : List Value → Hp → Prop) : Prop :=
(if (Option.isNone g0_s) = true then
  (Q [(Value.int .i64 (1 : Int))] h) else
  (S_ssi_Ssi_runs g0_s g1_xid h fun (vs1 : List Value) (h2 : Hp) =>
    ∃ b3 : Bool, vs1 = [(Value.bool b3)] ∧
    (if (!b3) = true then
      (Q [(Value.int .i64 (76 : Int))] h2) else
      (nilW g0_s fun a4 => ∃ p5 : Option Addr, rd h2 (Addr.add a4 0) = some (Value.pointer p5) ∧
        S_clog_Log_Abort p5 g1_xid h2 fun (vs6 : List Value) (h7 : Hp) =>
        ∃ n8 : Int, vs6 = [(Value.int .i64 n8)] ∧
        nilW g0_s fun a9 => ∃ p10 : Option Addr, rd h7 (Addr.add a9 1) = some (Value.pointer p10) ∧
        S_siread_Table_Drop p10 g1_xid h7 fun (vs11 : List Value) (h12 : Hp) =>
        vs11 = [] ∧
        nilW g0_s fun a13 => ∃ p14 : Option Addr, rd h12 (Addr.add a13 2) = some (Value.pointer p14) ∧
        S_edge_Edges_Drop p14 g1_xid h12 fun (vs15 : List Value) (h16 : Hp) =>
        vs15 = [] ∧
        S_ssi_Ssi_clean g0_s h16 fun (vs17 : List Value) (h18 : Hp) =>
        vs17 = [] ∧
        Q [(Value.int .i64 (0 : Int))] h18))))
def A_ssi_Ssi_Abort : Ann := .nil
theorem E_ssi_Ssi_Abort (g0_s : Option Addr) (g1_xid : Int) (h : Hp) (Q : List Value → Hp → Prop) : cw PP 33 (fun _ => []) (bodyOf Tryz.f19) A_ssi_Ssi_Abort (finQ PP (Tryz.f19.results.toList) Q) (argFr [(Value.pointer g0_s), (Value.int .i64 g1_xid)]) h = F_ssi_Ssi_Abort g0_s g1_xid h Q := by kernel_rfl
theorem O_ssi_Ssi_Abort (g0_s : Option Addr) (g1_xid : Int) {h : Hp} {Q : List Value → Hp → Prop} (H : F_ssi_Ssi_Abort g0_s g1_xid h Q) : S_ssi_Ssi_Abort g0_s g1_xid h Q :=
  fn_of_cw (hs := (fun _ => [])) (ann := A_ssi_Ssi_Abort) (args := [(Value.pointer g0_s), (Value.int .i64 g1_xid)]) mixedPP Tryz.func19 (c := bodyOf Tryz.f19) (by kernel_rfl) (by kernel_rfl) (by kernel_rfl) (Eq.mpr (E_ssi_Ssi_Abort g0_s g1_xid h Q) H)
def F_ssi_Ssi_Doomed (g0_s : Option Addr) (g1_xid : Int) (h : Hp) (Q : List Value → Hp → Prop) : Prop :=
(if (!(Option.isNone g0_s)) = true then (nilW g0_s fun a1 => ∃ r2 : Option Nat, rd h (Addr.add a1 5) = some (Value.map r2) ∧
    ∃ es3 : Array MapEntry, mapAt h r2 es3 ∧ KeysLike (Value.int .i64 g1_xid) es3 ∧ ∃ n4 : Int, mgetD (Value.int .i64 g1_xid) es3 (Value.int .i64 (0 : Int)) = (Value.int .i64 n4) ∧
    Q [(Value.bool (decide (n4 > (0 : Int))))] h) else
  (Q [(Value.bool false)] h))
def A_ssi_Ssi_Doomed : Ann := .nil
theorem E_ssi_Ssi_Doomed (g0_s : Option Addr) (g1_xid : Int) (h : Hp) (Q : List Value → Hp → Prop) : cw PP 16 (fun _ => []) (bodyOf Tryz.f26) A_ssi_Ssi_Doomed (finQ PP (Tryz.f26.results.toList) Q) (argFr [(Value.pointer g0_s), (Value.int .i64 g1_xid)]) h = F_ssi_Ssi_Doomed g0_s g1_xid h Q := by kernel_rfl
theorem O_ssi_Ssi_Doomed (g0_s : Option Addr) (g1_xid : Int) {h : Hp} {Q : List Value → Hp → Prop} (H : F_ssi_Ssi_Doomed g0_s g1_xid h Q) : S_ssi_Ssi_Doomed g0_s g1_xid h Q :=
  fn_of_cw (hs := (fun _ => [])) (ann := A_ssi_Ssi_Doomed) (args := [(Value.pointer g0_s), (Value.int .i64 g1_xid)]) mixedPP Tryz.func26 (c := bodyOf Tryz.f26) (by kernel_rfl) (by kernel_rfl) (by kernel_rfl) (Eq.mpr (E_ssi_Ssi_Doomed g0_s g1_xid h Q) H)
def F_edge_Edges_Ahead (g0_e : Option Addr) (g1_t3 : Int) (h : Hp) (Q : List Value → Hp → Prop) : Prop :=
S_edge_Edges_In g0_e g1_t3 h fun (vs1 : List Value) (h2 : Hp) =>
∃ l3 : Sl, vs1 = [(Value.slice l3.a l3.n l3.c)] ∧
∀ X4 : List Value → Hp → Prop, (∀ l5 : Sl, ∀ n6 : Int, ∀ h7 : Hp, ((if (decide (n6 < (l3.n : Int))) = true then
      (∀ J8 : List Value → Hp → Prop, (∀ l9 : Sl, ∀ h10 : Hp, (X4 [(Value.slice l9.a l9.n l9.c), (Value.int .i64 (IntKind.wrap .i64 (n6 + (1 : Int))))] h10) → J8 [(Value.slice l9.a l9.n l9.c)] h10) →
        nilW l3.a fun a11 => ixOk n6 l3.n (∃ n12 : Int, rd h7 (Addr.add a11 (Int.toNat n6 * 1)) = some (Value.int .i64 n12) ∧
          nilW g0_e fun a13 => ∃ p14 : Option Addr, rd h7 (Addr.add a13 0) = some (Value.pointer p14) ∧
          S_clog_Log_State p14 n12 h7 fun (vs15 : List Value) (h16 : Hp) =>
          ∃ n17 : Int, vs15 = [(Value.int .i64 n17)] ∧
          (if (n17 != (1 : Int)) = true then
            (J8 [(Value.slice l5.a l5.n l5.c)] h16) else
            (S_edge_Edges_In g0_e n12 h16 fun (vs18 : List Value) (h19 : Hp) =>
              ∃ l20 : Sl, vs18 = [(Value.slice l20.a l20.n l20.c)] ∧
              ∀ X21 : List Value → Hp → Prop, (∀ l22 : Sl, ∀ n23 : Int, ∀ h24 : Hp, ((if (decide (n23 < (l20.n : Int))) = true then
                    (nilW l20.a fun a25 => ixOk n23 l20.n (∃ n26 : Int, rd h24 (Addr.add a25 (Int.toNat n23 * 1)) = some (Value.int .i64 n26) ∧
                        ∀ J27 : List Value → Hp → Prop, (∀ b28 : Bool, ∀ h29 : Hp, ((if b28 = true then
                              (wth (Array.push h29 (Obj.cells #[(Value.int .i64 n12)] T_int)) fun h30 =>
                                ∃ cs33 : List Value, cellsAt h30 (some (Addr.mk (Array.size h29) 0 none)) (1 * 1) cs33 ∧ appS PP T_int 8 1 h30 ⟨l22.a, l22.n, l22.c⟩ 1 cs33 fun (l31 : Sl) (h32 : Hp) =>
                                J8 [(Value.slice l31.a l31.n l31.c)] h32) else
                              (X21 [(Value.slice l22.a l22.n l22.c), (Value.int .i64 (IntKind.wrap .i64 (n23 + (1 : Int))))] h29))) → J27 [(Value.bool b28)] h29) →
                        (if (n26 == g1_t3) = true then (nilW g0_e fun a34 => ∃ p35 : Option Addr, rd h24 (Addr.add a34 0) = some (Value.pointer p35) ∧
                            S_clog_Log_Reads p35 n26 h24 fun (vs36 : List Value) (h37 : Hp) =>
                            ∃ b38 : Bool, vs36 = [(Value.bool b38)] ∧
                            J27 [(Value.bool (!b38))] h37) else
                          (nilW g0_e fun a39 => ∃ p40 : Option Addr, rd h24 (Addr.add a39 0) = some (Value.pointer p40) ∧
                            S_clog_Log_State p40 n26 h24 fun (vs41 : List Value) (h42 : Hp) =>
                            ∃ n43 : Int, vs41 = [(Value.int .i64 n43)] ∧
                            (if (n43 == (1 : Int)) = true then (nilW g0_e fun a44 => ∃ p45 : Option Addr, rd h42 (Addr.add a44 0) = some (Value.pointer p45) ∧
                                S_clog_Log_Reads p45 n26 h42 fun (vs46 : List Value) (h47 : Hp) =>
                                ∃ b48 : Bool, vs46 = [(Value.bool b48)] ∧
                                J27 [(Value.bool (!b48))] h47) else
                              (J27 [(Value.bool false)] h42)))))) else
                    (J8 [(Value.slice l22.a l22.n l22.c)] h24))) → X21 [(Value.slice l22.a l22.n l22.c), (Value.int .i64 n23)] h24) →
              X21 [(Value.slice l5.a l5.n l5.c), (Value.int .i64 (0 : Int))] h19)))) else
      (Q [(Value.slice l5.a l5.n l5.c)] h7))) → X4 [(Value.slice l5.a l5.n l5.c), (Value.int .i64 n6)] h7) →
X4 [(Value.slice none 0 0), (Value.int .i64 (0 : Int))] h2
def A_edge_Edges_Ahead : Ann := (.mk none ⟨[], []⟩ .nil (.mk none ⟨[], []⟩ (.mk none ⟨[], []⟩ .nil (.mk none ⟨[], []⟩ .nil (.mk none ⟨[], []⟩ (.mk none ⟨[], []⟩ .nil (.mk none ⟨[], []⟩ (.mk none ⟨[0, 1, 12, 13], [(5, (.c .sl)), (14, (.c (.int .i64)))]⟩ (.mk none ⟨[], []⟩ .nil (.mk none ⟨[], []⟩ .nil (.mk none ⟨[], []⟩ (.mk (some ⟨[0, 1, 12, 13, 14], [(5, (.c .sl))]⟩) ⟨[], []⟩ (.mk none ⟨[], []⟩ .nil (.mk none ⟨[], []⟩ .nil (.mk none ⟨[], []⟩ .nil (.mk none ⟨[], []⟩ (.mk none ⟨[0, 1, 7, 12, 13, 14, 27, 28], [(5, (.c .sl)), (29, (.c (.int .i64)))]⟩ (.mk none ⟨[], []⟩ .nil (.mk none ⟨[], []⟩ .nil (.mk none ⟨[], []⟩ (.mk none ⟨[], []⟩ (.mk none ⟨[], []⟩ .nil (.mk none ⟨[], []⟩ (.mk (some ⟨[0, 1, 5, 7, 12, 13, 14, 27, 28, 29], [(53, (.c .bool))]⟩) ⟨[], []⟩ .nil .nil) .nil)) .nil) .nil))) .nil) .nil)))) .nil) .nil))) .nil) .nil)) .nil))) .nil))
theorem E_edge_Edges_Ahead (g0_e : Option Addr) (g1_t3 : Int) (h : Hp) (Q : List Value → Hp → Prop) : cw PP 61 (fun _ => []) (bodyOf Tryz.f60) A_edge_Edges_Ahead (finQ PP (Tryz.f60.results.toList) Q) (argFr [(Value.pointer g0_e), (Value.int .i64 g1_t3)]) h = F_edge_Edges_Ahead g0_e g1_t3 h Q := by kernel_rfl
theorem O_edge_Edges_Ahead (g0_e : Option Addr) (g1_t3 : Int) {h : Hp} {Q : List Value → Hp → Prop} (H : F_edge_Edges_Ahead g0_e g1_t3 h Q) : S_edge_Edges_Ahead g0_e g1_t3 h Q :=
  fn_of_cw (hs := (fun _ => [])) (ann := A_edge_Edges_Ahead) (args := [(Value.pointer g0_e), (Value.int .i64 g1_t3)]) mixedPP Tryz.func60 (c := bodyOf Tryz.f60) (by kernel_rfl) (by kernel_rfl) (by kernel_rfl) (Eq.mpr (E_edge_Edges_Ahead g0_e g1_t3 h Q) H)
def F_clog_Log_Commit (g0_l : Option Addr) (g1_xid : Int) (h : Hp) (Q : List Value → Hp → Prop) : Prop :=
S_clog_Log_ends g0_l g1_xid h fun (vs1 : List Value) (h2 : Hp) =>
∃ p3 : Option Addr, ∃ n4 : Int, vs1 = [(Value.pointer p3), (Value.int .i64 n4)] ∧
(if (n4 != (0 : Int)) = true then
  (Q [(Value.int .i64 (0 : Int)), (Value.int .i64 n4)] h2) else
  (nilW g0_l fun a5 => ∃ n6 : Int, rd h2 (Addr.add a5 805) = some (Value.int .i64 n6) ∧
    nilW g0_l fun a7 => stOk h2 (Addr.add a7 805) 1 ∧ wth (wrs h2 (Addr.add a7 805) 0 [(Value.int .i64 (IntKind.wrap .i64 (n6 + (1 : Int))))]) fun h8 =>
    nilW g0_l fun a9 => ∃ n10 : Int, rd h8 (Addr.add a9 805) = some (Value.int .i64 n10) ∧
    nilW p3 fun a11 => stOk h8 (Addr.add a11 0) 1 ∧ wth (wrs h8 (Addr.add a11 0) 0 [(Value.int .i64 (2 : Int))]) fun h12 =>
    nilW p3 fun a13 => stOk h12 (Addr.add a13 1) 1 ∧ wth (wrs h12 (Addr.add a13 1) 0 [(Value.int .i64 n10)]) fun h14 =>
    nilW g0_l fun a15 => ∃ n16 : Int, rd h14 (Addr.add a15 805) = some (Value.int .i64 n16) ∧
    Q [(Value.int .i64 n16), (Value.int .i64 (0 : Int))] h14))
def A_clog_Log_Commit : Ann := .nil
theorem E_clog_Log_Commit (g0_l : Option Addr) (g1_xid : Int) (h : Hp) (Q : List Value → Hp → Prop) : cw PP 38 (fun _ => []) (bodyOf Tryz.f61) A_clog_Log_Commit (finQ PP (Tryz.f61.results.toList) Q) (argFr [(Value.pointer g0_l), (Value.int .i64 g1_xid)]) h = F_clog_Log_Commit g0_l g1_xid h Q := by kernel_rfl
theorem O_clog_Log_Commit (g0_l : Option Addr) (g1_xid : Int) {h : Hp} {Q : List Value → Hp → Prop} (H : F_clog_Log_Commit g0_l g1_xid h Q) : S_clog_Log_Commit g0_l g1_xid h Q :=
  fn_of_cw (hs := (fun _ => [])) (ann := A_clog_Log_Commit) (args := [(Value.pointer g0_l), (Value.int .i64 g1_xid)]) mixedPP Tryz.func61 (c := bodyOf Tryz.f61) (by kernel_rfl) (by kernel_rfl) (by kernel_rfl) (Eq.mpr (E_clog_Log_Commit g0_l g1_xid h Q) H)
def F_ssi_Ssi_Commit (g0_s : Option Addr) (g1_xid : Int) (h : Hp) (Q : List Value → Hp → Prop) : Prop :=
(if (Option.isNone g0_s) = true then
  (Q [(Value.int .i64 (1 : Int))] h) else
  (S_ssi_Ssi_runs g0_s g1_xid h fun (vs1 : List Value) (h2 : Hp) =>
    ∃ b3 : Bool, vs1 = [(Value.bool b3)] ∧
    (if (!b3) = true then
      (Q [(Value.int .i64 (76 : Int))] h2) else
      (S_ssi_Ssi_Doomed g0_s g1_xid h2 fun (vs4 : List Value) (h5 : Hp) =>
        ∃ b6 : Bool, vs4 = [(Value.bool b6)] ∧
        (if b6 = true then
          (S_ssi_Ssi_Abort g0_s g1_xid h5 fun (vs7 : List Value) (h8 : Hp) =>
            ∃ n9 : Int, vs7 = [(Value.int .i64 n9)] ∧
            Q [(Value.int .i64 (72 : Int))] h8) else
          (nilW g0_s fun a10 => ∃ p11 : Option Addr, rd h5 (Addr.add a10 2) = some (Value.pointer p11) ∧
            S_edge_Edges_Ahead p11 g1_xid h5 fun (vs12 : List Value) (h13 : Hp) =>
            ∃ l14 : Sl, vs12 = [(Value.slice l14.a l14.n l14.c)] ∧
            ∀ X15 : List Value → Hp → Prop, (∀ n16 : Int, ∀ h17 : Hp, ((if (decide (n16 < (l14.n : Int))) = true then
                  (nilW l14.a fun a18 => ixOk n16 l14.n (∃ n19 : Int, rd h17 (Addr.add a18 (Int.toNat n16 * 1)) = some (Value.int .i64 n19) ∧
                      nilW g0_s fun a20 => ∃ r21 : Option Nat, rd h17 (Addr.add a20 5) = some (Value.map r21) ∧
                      ∃ es22 : Array MapEntry, mapAt h17 r21 es22 ∧ KeysLike (Value.int .i64 n19) es22 ∧ ∃ n23 : Int, mgetD (Value.int .i64 n19) es22 (Value.int .i64 (0 : Int)) = (Value.int .i64 n23) ∧
                      ∃ (m25 : Nat) (es26 : Array MapEntry) (c27 : Nat), r21 = some m25 ∧ h17[m25]? = some (.map es26 c27) ∧ KeysLike (Value.int .i64 n19) es26 ∧ wth (Array.setIfInBounds h17 m25 (mput (Value.int .i64 n19) (Value.int .i64 (IntKind.wrap .i64 (n23 + (1 : Int)))) es26 c27)) fun h28 =>
                      X15 [(Value.int .i64 (IntKind.wrap .i64 (n16 + (1 : Int))))] h28)) else
                  (nilW g0_s fun a29 => ∃ p30 : Option Addr, rd h17 (Addr.add a29 0) = some (Value.pointer p30) ∧
                    S_clog_Log_Commit p30 g1_xid h17 fun (vs31 : List Value) (h32 : Hp) =>
                    ∃ n33 : Int, ∃ n34 : Int, vs31 = [(Value.int .i64 n33), (Value.int .i64 n34)] ∧
                    nilW g0_s fun a35 => ∃ l36 : Sl, rd h32 (Addr.add a35 4) = some (Value.slice l36.a l36.n l36.c) ∧
                    wth (Array.push h32 (Obj.cells #[(Value.int .i64 g1_xid)] T_int)) fun h37 =>
                    ∃ cs44 : List Value, cellsAt h37 (some (Addr.mk (Array.size h32) 0 none)) (1 * 1) cs44 ∧ appS PP T_int 8 1 h37 ⟨l36.a, l36.n, l36.c⟩ 1 cs44 fun (l38 : Sl) (h39 : Hp) =>
                    nilW g0_s fun a40 => stOk h39 (Addr.add a40 4) 1 ∧ wth (wrs h39 (Addr.add a40 4) 0 [(Value.slice l38.a l38.n l38.c)]) fun h41 =>
                    S_ssi_Ssi_clean g0_s h41 fun (vs42 : List Value) (h43 : Hp) =>
                    vs42 = [] ∧
                    Q [(Value.int .i64 (0 : Int))] h43))) → X15 [(Value.int .i64 n16)] h17) →
            X15 [(Value.int .i64 (0 : Int))] h13))))))
def A_ssi_Ssi_Commit : Ann := (.mk none ⟨[], []⟩ .nil (.mk none ⟨[], []⟩ .nil (.mk none ⟨[], []⟩ (.mk none ⟨[], []⟩ .nil (.mk none ⟨[], []⟩ (.mk none ⟨[0, 1, 27, 28], [(29, (.c (.int .i64)))]⟩ .nil .nil) .nil)) .nil)))
theorem E_ssi_Ssi_Commit (g0_s : Option Addr) (g1_xid : Int) (h : Hp) (Q : List Value → Hp → Prop) : cw PP 59 (fun _ => []) (bodyOf Tryz.f16) A_ssi_Ssi_Commit (finQ PP (Tryz.f16.results.toList) Q) (argFr [(Value.pointer g0_s), (Value.int .i64 g1_xid)]) h = F_ssi_Ssi_Commit g0_s g1_xid h Q := by kernel_rfl
theorem O_ssi_Ssi_Commit (g0_s : Option Addr) (g1_xid : Int) {h : Hp} {Q : List Value → Hp → Prop} (H : F_ssi_Ssi_Commit g0_s g1_xid h Q) : S_ssi_Ssi_Commit g0_s g1_xid h Q :=
  fn_of_cw (hs := (fun _ => [])) (ann := A_ssi_Ssi_Commit) (args := [(Value.pointer g0_s), (Value.int .i64 g1_xid)]) mixedPP Tryz.func16 (c := bodyOf Tryz.f16) (by kernel_rfl) (by kernel_rfl) (by kernel_rfl) (Eq.mpr (E_ssi_Ssi_Commit g0_s g1_xid h Q) H)
def F_liverylaw15_row (g0_n : Int) (h : Hp) (Q : List Value → Hp → Prop) : Prop :=
wth (Array.push h (Obj.cells #[(Value.int .i64 (0 : Int)), (Value.string (ByteArray.mk #[])), (Value.int .i64 (0 : Int)), (Value.string (ByteArray.mk #[])), (Value.int .i64 (0 : Int))] T_siread_Thing)) fun h1 =>
stOk h1 (Addr.mk (Array.size h) 0 none) 5 ∧ wth (wrs h1 (Addr.mk (Array.size h) 0 none) 0 [(Value.int .i64 (4 : Int)), (Value.string (ByteArray.mk #[])), (Value.int .i64 (1 : Int)), (Value.string (ByteArray.mk #[])), (Value.int .i64 g0_n)]) fun h2 =>
∃ n3 : Int, rd h2 (Addr.add (Addr.mk (Array.size h) 0 none) 0) = some (Value.int .i64 n3) ∧ ∃ s4 : ByteArray, rd h2 (Addr.add (Addr.mk (Array.size h) 0 none) 1) = some (Value.string s4) ∧ ∃ n5 : Int, rd h2 (Addr.add (Addr.mk (Array.size h) 0 none) 2) = some (Value.int .i64 n5) ∧ ∃ s6 : ByteArray, rd h2 (Addr.add (Addr.mk (Array.size h) 0 none) 3) = some (Value.string s6) ∧ ∃ n7 : Int, rd h2 (Addr.add (Addr.mk (Array.size h) 0 none) 4) = some (Value.int .i64 n7) ∧ Q [(Value.agg #[(Value.int .i64 n3), (Value.string s4), (Value.int .i64 n5), (Value.string s6), (Value.int .i64 n7)])] h2
def A_liverylaw15_row : Ann := .nil
theorem E_liverylaw15_row (g0_n : Int) (h : Hp) (Q : List Value → Hp → Prop) : cw PP 5 (fun _ => []) (bodyOf Tryz.f49) A_liverylaw15_row (finQ PP (Tryz.f49.results.toList) Q) (argFr [(Value.int .i64 g0_n)]) h = F_liverylaw15_row g0_n h Q := by kernel_rfl
theorem O_liverylaw15_row (g0_n : Int) {h : Hp} {Q : List Value → Hp → Prop} (H : F_liverylaw15_row g0_n h Q) : S_liverylaw15_row g0_n h Q :=
  fn_of_cw (hs := (fun _ => [])) (ann := A_liverylaw15_row) (args := [(Value.int .i64 g0_n)]) mixedPP Tryz.func49 (c := bodyOf Tryz.f49) (by kernel_rfl) (by kernel_rfl) (by kernel_rfl) (Eq.mpr (E_liverylaw15_row g0_n h Q) H)
def F_liverylaw15_wakes (h : Hp) (Q : List Value → Hp → Prop) : Prop :=
S_liverylaw15_Made (9 : Int) (99 : Int) (9 : Int) h fun (vs1 : List Value) (h2 : Hp) =>
∃ p3 : Option Addr, ∃ p4 : Option Addr, ∃ b5 : Bool, vs1 = [(Value.pointer p3), (Value.pointer p4), (Value.bool b5)] ∧
(if (!b5) = true then
  (Q [(Value.bool false)] h2) else
  (S_ssi_Ssi_Begin p3 false h2 fun (vs6 : List Value) (h7 : Hp) =>
    ∃ n8 : Int, ∃ n9 : Int, vs6 = [(Value.int .i64 n8), (Value.int .i64 n9)] ∧
    S_ssi_Ssi_Begin p3 false h7 fun (vs10 : List Value) (h11 : Hp) =>
    ∃ n12 : Int, ∃ n13 : Int, vs10 = [(Value.int .i64 n12), (Value.int .i64 n13)] ∧
    S_liverylaw15_row (5 : Int) h11 fun (vs14 : List Value) (h15 : Hp) =>
    ∃ n16 : Int, ∃ s17 : ByteArray, ∃ n18 : Int, ∃ s19 : ByteArray, ∃ n20 : Int, vs14 = [(Value.agg #[(Value.int .i64 n16), (Value.string s17), (Value.int .i64 n18), (Value.string s19), (Value.int .i64 n20)])] ∧
    S_ssi_Ssi_Read p3 (1 : Int) n16 s17 n18 s19 n20 h15 fun (vs21 : List Value) (h22 : Hp) =>
    vs21 = [] ∧
    S_liverylaw15_row (6 : Int) h22 fun (vs23 : List Value) (h24 : Hp) =>
    ∃ n25 : Int, ∃ s26 : ByteArray, ∃ n27 : Int, ∃ s28 : ByteArray, ∃ n29 : Int, vs23 = [(Value.agg #[(Value.int .i64 n25), (Value.string s26), (Value.int .i64 n27), (Value.string s28), (Value.int .i64 n29)])] ∧
    S_ssi_Ssi_Read p3 (2 : Int) n25 s26 n27 s28 n29 h24 fun (vs30 : List Value) (h31 : Hp) =>
    vs30 = [] ∧
    S_liverylaw15_row (6 : Int) h31 fun (vs32 : List Value) (h33 : Hp) =>
    ∃ n34 : Int, ∃ s35 : ByteArray, ∃ n36 : Int, ∃ s37 : ByteArray, ∃ n38 : Int, vs32 = [(Value.agg #[(Value.int .i64 n34), (Value.string s35), (Value.int .i64 n36), (Value.string s37), (Value.int .i64 n38)])] ∧
    S_ssi_Ssi_Wrote p3 (1 : Int) n34 s35 n36 s37 n38 h33 fun (vs39 : List Value) (h40 : Hp) =>
    vs39 = [] ∧
    S_liverylaw15_row (5 : Int) h40 fun (vs41 : List Value) (h42 : Hp) =>
    ∃ n43 : Int, ∃ s44 : ByteArray, ∃ n45 : Int, ∃ s46 : ByteArray, ∃ n47 : Int, vs41 = [(Value.agg #[(Value.int .i64 n43), (Value.string s44), (Value.int .i64 n45), (Value.string s46), (Value.int .i64 n47)])] ∧
    S_ssi_Ssi_Wrote p3 (2 : Int) n43 s44 n45 s46 n47 h42 fun (vs48 : List Value) (h49 : Hp) =>
    vs48 = [] ∧
    S_ssi_Ssi_Commit p3 (1 : Int) h49 fun (vs50 : List Value) (h51 : Hp) =>
    ∃ n52 : Int, vs50 = [(Value.int .i64 n52)] ∧
    (if (n52 == (0 : Int)) = true then (S_ssi_Ssi_Doomed p3 (2 : Int) h51 fun (vs53 : List Value) (h54 : Hp) =>
        ∃ b55 : Bool, vs53 = [(Value.bool b55)] ∧
        (if b55 = true then (S_ssi_Ssi_Commit p3 (2 : Int) h54 fun (vs56 : List Value) (h57 : Hp) =>
            ∃ n58 : Int, vs56 = [(Value.int .i64 n58)] ∧
            (if (n58 == (72 : Int)) = true then (S_clog_Log_State p4 (2 : Int) h57 fun (vs59 : List Value) (h60 : Hp) =>
                ∃ n61 : Int, vs59 = [(Value.int .i64 n61)] ∧
                (if (n61 == (3 : Int)) = true then (S_clog_Log_Csn p4 (1 : Int) h60 fun (vs62 : List Value) (h63 : Hp) =>
                    ∃ n64 : Int, vs62 = [(Value.int .i64 n64)] ∧
                    Q [(Value.bool (n64 == (1 : Int)))] h63) else
                  (Q [(Value.bool false)] h60))) else
              (Q [(Value.bool false)] h57))) else
          (Q [(Value.bool false)] h54))) else
      (Q [(Value.bool false)] h51))))
def A_liverylaw15_wakes : Ann := .nil
theorem E_liverylaw15_wakes (h : Hp) (Q : List Value → Hp → Prop) : cw PP 51 (fun _ => []) (bodyOf Tryz.f10) A_liverylaw15_wakes (finQ PP (Tryz.f10.results.toList) Q) (argFr []) h = F_liverylaw15_wakes h Q := by kernel_rfl
theorem O_liverylaw15_wakes {h : Hp} {Q : List Value → Hp → Prop} (H : F_liverylaw15_wakes h Q) : S_liverylaw15_wakes h Q :=
  fn_of_cw (hs := (fun _ => [])) (ann := A_liverylaw15_wakes) (args := []) mixedPP Tryz.func10 (c := bodyOf Tryz.f10) (by kernel_rfl) (by kernel_rfl) (by kernel_rfl) (Eq.mpr (E_liverylaw15_wakes h Q) H)
def F_liverykeep_Mod (g0_k : Int) (g1_n : Int) (h : Hp) (Q : List Value → Hp → Prop) : Prop :=
(if (decide (g1_n < (1 : Int))) = true then
  (Q [(Value.int .i64 (0 : Int))] h) else
  (divOk g1_n (divOk g1_n (Q [(Value.int .i64 (Int.tmod (IntKind.wrap .i64 ((Int.tmod g0_k g1_n) + g1_n)) g1_n))] h))))
def A_liverykeep_Mod : Ann := .nil
theorem E_liverykeep_Mod (g0_k : Int) (g1_n : Int) (h : Hp) (Q : List Value → Hp → Prop) : cw PP 14 (fun _ => []) (bodyOf Tryz.f12) A_liverykeep_Mod (finQ PP (Tryz.f12.results.toList) Q) (argFr [(Value.int .i64 g0_k), (Value.int .i64 g1_n)]) h = F_liverykeep_Mod g0_k g1_n h Q := by kernel_rfl
theorem O_liverykeep_Mod (g0_k : Int) (g1_n : Int) {h : Hp} {Q : List Value → Hp → Prop} (H : F_liverykeep_Mod g0_k g1_n h Q) : S_liverykeep_Mod g0_k g1_n h Q :=
  fn_of_cw (hs := (fun _ => [])) (ann := A_liverykeep_Mod) (args := [(Value.int .i64 g0_k), (Value.int .i64 g1_n)]) mixedPP Tryz.func12 (c := bodyOf Tryz.f12) (by kernel_rfl) (by kernel_rfl) (by kernel_rfl) (Eq.mpr (E_liverykeep_Mod g0_k g1_n h Q) H)
def F_liverylaw15_SsiSkew (g0_x_0 : Int) (g0_x_1 : ByteArray) (g0_x_2 : Int) (g0_x_3 : ByteArray) (g0_x_4 : Int) (g1_y_0 : Int) (g1_y_1 : ByteArray) (g1_y_2 : Int) (g1_y_3 : ByteArray) (g1_y_4 : Int) (g2_others : Int) (h : Hp) (Q : List Value → Hp → Prop) : Prop :=
wth (Array.push h (Obj.cells #[(Value.int .i64 g0_x_0), (Value.string g0_x_1), (Value.int .i64 g0_x_2), (Value.string g0_x_3), (Value.int .i64 g0_x_4)] T_siread_Thing)) fun h1 =>
wth (Array.push h1 (Obj.cells #[(Value.int .i64 g1_y_0), (Value.string g1_y_1), (Value.int .i64 g1_y_2), (Value.string g1_y_3), (Value.int .i64 g1_y_4)] T_siread_Thing)) fun h2 =>
∀ J3 : List Value → Hp → Prop, (∀ b4 : Bool, ∀ h5 : Hp, ((if b4 = true then
      (S_liverylaw15_wakes  h5 fun (vs6 : List Value) (h7 : Hp) =>
        ∃ b8 : Bool, vs6 = [(Value.bool b8)] ∧
        Q [(Value.bool b8)] h7) else
      (S_liverylaw15_Made (50 : Int) (500 : Int) (50 : Int) h5 fun (vs9 : List Value) (h10 : Hp) =>
        ∃ p11 : Option Addr, ∃ p12 : Option Addr, ∃ b13 : Bool, vs9 = [(Value.pointer p11), (Value.pointer p12), (Value.bool b13)] ∧
        (if (!b13) = true then
          (Q [(Value.bool false)] h10) else
          (∃ n14 : Int, rd h10 (Addr.add (Addr.mk (Array.size h) 0 none) 0) = some (Value.int .i64 n14) ∧
            ∃ n15 : Int, rd h10 (Addr.add (Addr.mk (Array.size h1) 0 none) 0) = some (Value.int .i64 n15) ∧
            S_liverykeep_Mod n14 (4 : Int) h10 fun (vs16 : List Value) (h17 : Hp) =>
            ∃ n18 : Int, vs16 = [(Value.int .i64 n18)] ∧
            rd h17 (Addr.add (Addr.mk (Array.size h1) 0 none) 0) = some (Value.int .i64 n15) ∧ S_liverykeep_Mod n15 (4 : Int) h17 fun (vs19 : List Value) (h20 : Hp) =>
            ∃ n21 : Int, vs19 = [(Value.int .i64 n21)] ∧
            stOk h20 (Addr.add (Addr.mk (Array.size h) 0 none) 0) 1 ∧ wth (wrs h20 (Addr.add (Addr.mk (Array.size h) 0 none) 0) 0 [(Value.int .i64 (IntKind.wrap .i64 ((1 : Int) + n18)))]) fun h22 =>
            stOk h22 (Addr.add (Addr.mk (Array.size h1) 0 none) 0) 1 ∧ wth (wrs h22 (Addr.add (Addr.mk (Array.size h1) 0 none) 0) 0 [(Value.int .i64 (IntKind.wrap .i64 ((1 : Int) + n21)))]) fun h23 =>
            ∀ X24 : List Value → Hp → Prop, (∀ n25 : Int, ∀ h26 : Hp, (divOk (5 : Int) ((if (decide (n25 < (IntKind.wrap .i64 ((2 : Int) + (Int.tmod (IntKind.wrap .i64 g2_others) (5 : Int)))))) = true then
                    (S_ssi_Ssi_Begin p11 false h26 fun (vs27 : List Value) (h28 : Hp) =>
                      ∃ n29 : Int, ∃ n30 : Int, vs27 = [(Value.int .i64 n29), (Value.int .i64 n30)] ∧
                      (if (n30 != (0 : Int)) = true then
                        (Q [(Value.bool false)] h28) else
                        (X24 [(Value.int .i64 (IntKind.wrap .i64 (n25 + (1 : Int))))] h28))) else
                    (∃ n31 : Int, rd h26 (Addr.add (Addr.mk (Array.size h) 0 none) 0) = some (Value.int .i64 n31) ∧ ∃ s32 : ByteArray, rd h26 (Addr.add (Addr.mk (Array.size h) 0 none) 1) = some (Value.string s32) ∧ ∃ n33 : Int, rd h26 (Addr.add (Addr.mk (Array.size h) 0 none) 2) = some (Value.int .i64 n33) ∧ ∃ s34 : ByteArray, rd h26 (Addr.add (Addr.mk (Array.size h) 0 none) 3) = some (Value.string s34) ∧ ∃ n35 : Int, rd h26 (Addr.add (Addr.mk (Array.size h) 0 none) 4) = some (Value.int .i64 n35) ∧ S_ssi_Ssi_Read p11 (1 : Int) n31 s32 n33 s34 n35 h26 fun (vs36 : List Value) (h37 : Hp) =>
                      vs36 = [] ∧
                      ∃ n38 : Int, rd h37 (Addr.add (Addr.mk (Array.size h1) 0 none) 0) = some (Value.int .i64 n38) ∧ ∃ s39 : ByteArray, rd h37 (Addr.add (Addr.mk (Array.size h1) 0 none) 1) = some (Value.string s39) ∧ ∃ n40 : Int, rd h37 (Addr.add (Addr.mk (Array.size h1) 0 none) 2) = some (Value.int .i64 n40) ∧ ∃ s41 : ByteArray, rd h37 (Addr.add (Addr.mk (Array.size h1) 0 none) 3) = some (Value.string s41) ∧ ∃ n42 : Int, rd h37 (Addr.add (Addr.mk (Array.size h1) 0 none) 4) = some (Value.int .i64 n42) ∧ S_ssi_Ssi_Read p11 (2 : Int) n38 s39 n40 s41 n42 h37 fun (vs43 : List Value) (h44 : Hp) =>
                      vs43 = [] ∧
                      ∃ n45 : Int, rd h44 (Addr.add (Addr.mk (Array.size h1) 0 none) 0) = some (Value.int .i64 n45) ∧ ∃ s46 : ByteArray, rd h44 (Addr.add (Addr.mk (Array.size h1) 0 none) 1) = some (Value.string s46) ∧ ∃ n47 : Int, rd h44 (Addr.add (Addr.mk (Array.size h1) 0 none) 2) = some (Value.int .i64 n47) ∧ ∃ s48 : ByteArray, rd h44 (Addr.add (Addr.mk (Array.size h1) 0 none) 3) = some (Value.string s48) ∧ ∃ n49 : Int, rd h44 (Addr.add (Addr.mk (Array.size h1) 0 none) 4) = some (Value.int .i64 n49) ∧ S_ssi_Ssi_Wrote p11 (1 : Int) n45 s46 n47 s48 n49 h44 fun (vs50 : List Value) (h51 : Hp) =>
                      vs50 = [] ∧
                      ∃ n52 : Int, rd h51 (Addr.add (Addr.mk (Array.size h) 0 none) 0) = some (Value.int .i64 n52) ∧ ∃ s53 : ByteArray, rd h51 (Addr.add (Addr.mk (Array.size h) 0 none) 1) = some (Value.string s53) ∧ ∃ n54 : Int, rd h51 (Addr.add (Addr.mk (Array.size h) 0 none) 2) = some (Value.int .i64 n54) ∧ ∃ s55 : ByteArray, rd h51 (Addr.add (Addr.mk (Array.size h) 0 none) 3) = some (Value.string s55) ∧ ∃ n56 : Int, rd h51 (Addr.add (Addr.mk (Array.size h) 0 none) 4) = some (Value.int .i64 n56) ∧ S_ssi_Ssi_Wrote p11 (2 : Int) n52 s53 n54 s55 n56 h51 fun (vs57 : List Value) (h58 : Hp) =>
                      vs57 = [] ∧
                      ∀ J59 : List Value → Hp → Prop, (∀ n60 : Int, ∀ n61 : Int, ∀ h62 : Hp, (S_ssi_Ssi_Commit p11 n60 h62 fun (vs63 : List Value) (h64 : Hp) =>
                          ∃ n65 : Int, vs63 = [(Value.int .i64 n65)] ∧
                          S_ssi_Ssi_Commit p11 n61 h64 fun (vs66 : List Value) (h67 : Hp) =>
                          ∃ n68 : Int, vs66 = [(Value.int .i64 n68)] ∧
                          (if (n65 == (0 : Int)) = true then ((if (n68 == (72 : Int)) = true then (S_clog_Log_State p12 n61 h67 fun (vs69 : List Value) (h70 : Hp) =>
                                  ∃ n71 : Int, vs69 = [(Value.int .i64 n71)] ∧
                                  (if (n71 == (3 : Int)) = true then (S_liverylaw15_wakes  h70 fun (vs72 : List Value) (h73 : Hp) =>
                                      ∃ b74 : Bool, vs72 = [(Value.bool b74)] ∧
                                      Q [(Value.bool b74)] h73) else
                                    (Q [(Value.bool false)] h70))) else
                                (Q [(Value.bool false)] h67))) else
                            (Q [(Value.bool false)] h67))) → J59 [(Value.int .i64 n60), (Value.int .i64 n61)] h62) →
                      (if (decide (g2_others ≥ (128 : Int))) = true then
                        (J59 [(Value.int .i64 (2 : Int)), (Value.int .i64 (1 : Int))] h58) else
                        (J59 [(Value.int .i64 (1 : Int)), (Value.int .i64 (2 : Int))] h58)))))) → X24 [(Value.int .i64 n25)] h26) →
            X24 [(Value.int .i64 (0 : Int))] h23))))) → J3 [(Value.bool b4)] h5) →
∃ s75 : ByteArray, rd h2 (Addr.add (Addr.mk (Array.size h) 0 none) 1) = some (Value.string s75) ∧
(if (decide ((ByteArray.size s75 : Int) > (100 : Int))) = true then (J3 [(Value.bool true)] h2) else
  (∃ s76 : ByteArray, rd h2 (Addr.add (Addr.mk (Array.size h1) 0 none) 1) = some (Value.string s76) ∧
    (if (decide ((ByteArray.size s76 : Int) > (100 : Int))) = true then (J3 [(Value.bool true)] h2) else
      (∃ s77 : ByteArray, rd h2 (Addr.add (Addr.mk (Array.size h) 0 none) 3) = some (Value.string s77) ∧
        (if (decide ((ByteArray.size s77 : Int) > (100 : Int))) = true then (J3 [(Value.bool true)] h2) else
          (∃ s78 : ByteArray, rd h2 (Addr.add (Addr.mk (Array.size h1) 0 none) 3) = some (Value.string s78) ∧
            J3 [(Value.bool (decide ((ByteArray.size s78 : Int) > (100 : Int))))] h2))))))
def A_liverylaw15_SsiSkew : Ann := (.mk none ⟨[], []⟩ .nil (.mk none ⟨[], []⟩ .nil (.mk none ⟨[], []⟩ (.mk none ⟨[], []⟩ (.mk (some ⟨[2, 3, 4, 7], [(41, (.c .bool))]⟩) ⟨[], []⟩ .nil .nil) .nil) (.mk none ⟨[], []⟩ .nil (.mk none ⟨[], []⟩ .nil (.mk none ⟨[], []⟩ .nil (.mk none ⟨[], []⟩ (.mk none ⟨[], []⟩ .nil (.mk none ⟨[], []⟩ (.mk none ⟨[2, 3, 4, 7, 8, 9], [(11, (.c (.int .i64)))]⟩ .nil .nil) .nil)) (.mk none ⟨[], []⟩ .nil (.mk none ⟨[], []⟩ .nil (.mk none ⟨[], []⟩ .nil (.mk none ⟨[], []⟩ .nil (.mk none ⟨[], []⟩ .nil (.mk none ⟨[], []⟩ (.mk none ⟨[], []⟩ .nil (.mk (some ⟨[8, 9], [(14, (.c (.int .i64))), (15, (.c (.int .i64)))]⟩) ⟨[], []⟩ .nil .nil)) .nil)))))))))))))
theorem E_liverylaw15_SsiSkew (g0_x_0 : Int) (g0_x_1 : ByteArray) (g0_x_2 : Int) (g0_x_3 : ByteArray) (g0_x_4 : Int) (g1_y_0 : Int) (g1_y_1 : ByteArray) (g1_y_2 : Int) (g1_y_3 : ByteArray) (g1_y_4 : Int) (g2_others : Int) (h : Hp) (Q : List Value → Hp → Prop) : cw PP 109 (fun _ => []) (bodyOf Tryz.f3) A_liverylaw15_SsiSkew (finQ PP (Tryz.f3.results.toList) Q) (argFr [(Value.agg #[(Value.int .i64 g0_x_0), (Value.string g0_x_1), (Value.int .i64 g0_x_2), (Value.string g0_x_3), (Value.int .i64 g0_x_4)]), (Value.agg #[(Value.int .i64 g1_y_0), (Value.string g1_y_1), (Value.int .i64 g1_y_2), (Value.string g1_y_3), (Value.int .i64 g1_y_4)]), (Value.int .u8 g2_others)]) h = F_liverylaw15_SsiSkew g0_x_0 g0_x_1 g0_x_2 g0_x_3 g0_x_4 g1_y_0 g1_y_1 g1_y_2 g1_y_3 g1_y_4 g2_others h Q := by kernel_rfl
theorem O_liverylaw15_SsiSkew (g0_x_0 : Int) (g0_x_1 : ByteArray) (g0_x_2 : Int) (g0_x_3 : ByteArray) (g0_x_4 : Int) (g1_y_0 : Int) (g1_y_1 : ByteArray) (g1_y_2 : Int) (g1_y_3 : ByteArray) (g1_y_4 : Int) (g2_others : Int) {h : Hp} {Q : List Value → Hp → Prop} (H : F_liverylaw15_SsiSkew g0_x_0 g0_x_1 g0_x_2 g0_x_3 g0_x_4 g1_y_0 g1_y_1 g1_y_2 g1_y_3 g1_y_4 g2_others h Q) : S_liverylaw15_SsiSkew g0_x_0 g0_x_1 g0_x_2 g0_x_3 g0_x_4 g1_y_0 g1_y_1 g1_y_2 g1_y_3 g1_y_4 g2_others h Q :=
  fn_of_cw (hs := (fun _ => [])) (ann := A_liverylaw15_SsiSkew) (args := [(Value.agg #[(Value.int .i64 g0_x_0), (Value.string g0_x_1), (Value.int .i64 g0_x_2), (Value.string g0_x_3), (Value.int .i64 g0_x_4)]), (Value.agg #[(Value.int .i64 g1_y_0), (Value.string g1_y_1), (Value.int .i64 g1_y_2), (Value.string g1_y_3), (Value.int .i64 g1_y_4)]), (Value.int .u8 g2_others)]) mixedPP Tryz.func3 (c := bodyOf Tryz.f3) (by kernel_rfl) (by kernel_rfl) (by kernel_rfl) (Eq.mpr (E_liverylaw15_SsiSkew g0_x_0 g0_x_1 g0_x_2 g0_x_3 g0_x_4 g1_y_0 g1_y_1 g1_y_2 g1_y_3 g1_y_4 g2_others h Q) H)
def F_liverylaw15_Fair (g0_l : Sl) (h : Hp) (Q : List Value → Hp → Prop) : Prop :=
∀ X1 : List Value → Hp → Prop, (∀ n2 : Int, ∀ h3 : Hp, ((if (decide (n2 < (g0_l.n : Int))) = true then
      (∀ J4 : List Value → Hp → Prop, (∀ b5 : Bool, ∀ h6 : Hp, ((if b5 = true then
              (Q [(Value.bool false)] h6) else
              (X1 [(Value.int .i64 (IntKind.wrap .i64 (n2 + (1 : Int))))] h6))) → J4 [(Value.bool b5)] h6) →
        nilW g0_l.a fun a7 => ixOk n2 g0_l.n (∃ s8 : ByteArray, rd h3 (Addr.add (Addr.add (Addr.add a7 (Int.toNat n2 * 9)) 4) 1) = some (Value.string s8) ∧
          (if (decide ((ByteArray.size s8 : Int) > (100 : Int))) = true then (J4 [(Value.bool true)] h3) else
            (nilW g0_l.a fun a9 => ixOk n2 g0_l.n (∃ s10 : ByteArray, rd h3 (Addr.add (Addr.add (Addr.add a9 (Int.toNat n2 * 9)) 4) 3) = some (Value.string s10) ∧
                J4 [(Value.bool (decide ((ByteArray.size s10 : Int) > (100 : Int))))] h3))))) else
      (Q [(Value.bool (decide ((g0_l.n : Int) ≤ (120 : Int))))] h3))) → X1 [(Value.int .i64 n2)] h3) →
X1 [(Value.int .i64 (0 : Int))] h
def A_liverylaw15_Fair : Ann := (.mk none ⟨[], []⟩ .nil (.mk none ⟨[], []⟩ (.mk none ⟨[], []⟩ .nil (.mk none ⟨[], []⟩ (.mk none ⟨[0], [(3, (.c (.int .i64)))]⟩ (.mk none ⟨[], []⟩ .nil (.mk none ⟨[], []⟩ (.mk none ⟨[], []⟩ (.mk none ⟨[], []⟩ (.mk (some ⟨[0, 3], [(27, (.c .bool))]⟩) ⟨[], []⟩ .nil .nil) .nil) .nil) .nil)) .nil) .nil)) .nil))
theorem E_liverylaw15_Fair (g0_l : Sl) (h : Hp) (Q : List Value → Hp → Prop) : cw PP 31 (fun _ => []) (bodyOf Tryz.f18) A_liverylaw15_Fair (finQ PP (Tryz.f18.results.toList) Q) (argFr [(Value.slice g0_l.a g0_l.n g0_l.c)]) h = F_liverylaw15_Fair g0_l h Q := by kernel_rfl
theorem O_liverylaw15_Fair (g0_l : Sl) {h : Hp} {Q : List Value → Hp → Prop} (H : F_liverylaw15_Fair g0_l h Q) : S_liverylaw15_Fair g0_l h Q :=
  fn_of_cw (hs := (fun _ => [])) (ann := A_liverylaw15_Fair) (args := [(Value.slice g0_l.a g0_l.n g0_l.c)]) mixedPP Tryz.func18 (c := bodyOf Tryz.f18) (by kernel_rfl) (by kernel_rfl) (by kernel_rfl) (Eq.mpr (E_liverylaw15_Fair g0_l h Q) H)
def F_ssi_Ssi_Saw (g0_s : Option Addr) (g1_xid : Int) (g2_writer : Int) (h : Hp) (Q : List Value → Hp → Prop) : Prop :=
∀ J1 : List Value → Hp → Prop, (∀ b2 : Bool, ∀ h3 : Hp, ((if b2 = true then
      (S_ssi_Ssi_behind g0_s g1_xid g2_writer h3 fun (vs4 : List Value) (h5 : Hp) =>
        vs4 = [] ∧
        Q [] h5) else
      (Q [] h3))) → J1 [(Value.bool b2)] h3) →
S_ssi_Ssi_runs g0_s g1_xid h fun (vs6 : List Value) (h7 : Hp) =>
∃ b8 : Bool, vs6 = [(Value.bool b8)] ∧
(if b8 = true then (nilW g0_s fun a9 => ∃ r10 : Option Nat, rd h7 (Addr.add a9 6) = some (Value.map r10) ∧
    ∃ es11 : Array MapEntry, mapAt h7 r10 es11 ∧ KeysLike (Value.int .i64 g1_xid) es11 ∧ ∃ n12 : Int, mgetD (Value.int .i64 g1_xid) es11 (Value.int .i64 (0 : Int)) = (Value.int .i64 n12) ∧
    J1 [(Value.bool (n12 == (0 : Int)))] h7) else
  (J1 [(Value.bool false)] h7))
def A_ssi_Ssi_Saw : Ann := (.mk none ⟨[], []⟩ (.mk (some ⟨[0, 1, 2], [(17, (.c .bool))]⟩) ⟨[], []⟩ .nil .nil) .nil)
theorem E_ssi_Ssi_Saw (g0_s : Option Addr) (g1_xid : Int) (g2_writer : Int) (h : Hp) (Q : List Value → Hp → Prop) : cw PP 22 (fun _ => []) (bodyOf Tryz.f21) A_ssi_Ssi_Saw (finQ PP (Tryz.f21.results.toList) Q) (argFr [(Value.pointer g0_s), (Value.int .i64 g1_xid), (Value.int .i64 g2_writer)]) h = F_ssi_Ssi_Saw g0_s g1_xid g2_writer h Q := by kernel_rfl
theorem O_ssi_Ssi_Saw (g0_s : Option Addr) (g1_xid : Int) (g2_writer : Int) {h : Hp} {Q : List Value → Hp → Prop} (H : F_ssi_Ssi_Saw g0_s g1_xid g2_writer h Q) : S_ssi_Ssi_Saw g0_s g1_xid g2_writer h Q :=
  fn_of_cw (hs := (fun _ => [])) (ann := A_ssi_Ssi_Saw) (args := [(Value.pointer g0_s), (Value.int .i64 g1_xid), (Value.int .i64 g2_writer)]) mixedPP Tryz.func21 (c := bodyOf Tryz.f21) (by kernel_rfl) (by kernel_rfl) (by kernel_rfl) (Eq.mpr (E_ssi_Ssi_Saw g0_s g1_xid g2_writer h Q) H)
def F_ssi_Ssi_Edges (g0_s : Option Addr) (h : Hp) (Q : List Value → Hp → Prop) : Prop :=
(if (Option.isNone g0_s) = true then
  (Q [(Value.pointer none)] h) else
  (nilW g0_s fun a1 => ∃ p2 : Option Addr, rd h (Addr.add a1 2) = some (Value.pointer p2) ∧
    Q [(Value.pointer p2)] h))
def A_ssi_Ssi_Edges : Ann := .nil
theorem E_ssi_Ssi_Edges (g0_s : Option Addr) (h : Hp) (Q : List Value → Hp → Prop) : cw PP 9 (fun _ => []) (bodyOf Tryz.f23) A_ssi_Ssi_Edges (finQ PP (Tryz.f23.results.toList) Q) (argFr [(Value.pointer g0_s)]) h = F_ssi_Ssi_Edges g0_s h Q := by kernel_rfl
theorem O_ssi_Ssi_Edges (g0_s : Option Addr) {h : Hp} {Q : List Value → Hp → Prop} (H : F_ssi_Ssi_Edges g0_s h Q) : S_ssi_Ssi_Edges g0_s h Q :=
  fn_of_cw (hs := (fun _ => [])) (ann := A_ssi_Ssi_Edges) (args := [(Value.pointer g0_s)]) mixedPP Tryz.func23 (c := bodyOf Tryz.f23) (by kernel_rfl) (by kernel_rfl) (by kernel_rfl) (Eq.mpr (E_ssi_Ssi_Edges g0_s h Q) H)
def F_slices_Collect_2_int (g0_seq_f : Nat) (g0_seq_c : Array Value) (h : Hp) (Q : List Value → Hp → Prop) : Prop :=
S_slices_AppendSeq_s_2_int_2_int ⟨none, 0, 0⟩ g0_seq_f g0_seq_c h fun (vs1 : List Value) (h2 : Hp) =>
∃ l3 : Sl, vs1 = [(Value.slice l3.a l3.n l3.c)] ∧
Q [(Value.slice l3.a l3.n l3.c)] h2
def A_slices_Collect_2_int : Ann := .nil
theorem E_slices_Collect_2_int (g0_seq_f : Nat) (g0_seq_c : Array Value) (h : Hp) (Q : List Value → Hp → Prop) : cw PP 5 (fun _ => []) (bodyOf Tryz.f122) A_slices_Collect_2_int (finQ PP (Tryz.f122.results.toList) Q) (argFr [(Value.func (.func g0_seq_f) #[] g0_seq_c)]) h = F_slices_Collect_2_int g0_seq_f g0_seq_c h Q := by kernel_rfl
theorem O_slices_Collect_2_int (g0_seq_f : Nat) (g0_seq_c : Array Value) {h : Hp} {Q : List Value → Hp → Prop} (H : F_slices_Collect_2_int g0_seq_f g0_seq_c h Q) : S_slices_Collect_2_int g0_seq_f g0_seq_c h Q :=
  fn_of_cw (hs := (fun _ => [])) (ann := A_slices_Collect_2_int) (args := [(Value.func (.func g0_seq_f) #[] g0_seq_c)]) mixedPP Tryz.func122 (c := bodyOf Tryz.f122) (by kernel_rfl) (by kernel_rfl) (by kernel_rfl) (Eq.mpr (E_slices_Collect_2_int g0_seq_f g0_seq_c h Q) H)
def F_slices_SortedFunc_2_int (g0_seq_f : Nat) (g0_seq_c : Array Value) (g1_cmp_f : Nat) (g1_cmp_c : Array Value) (h : Hp) (Q : List Value → Hp → Prop) : Prop :=
S_slices_Collect_2_int g0_seq_f g0_seq_c h fun (vs1 : List Value) (h2 : Hp) =>
∃ l3 : Sl, vs1 = [(Value.slice l3.a l3.n l3.c)] ∧
S_slices_SortFunc_s_2_int_2_int ⟨l3.a, l3.n, l3.c⟩ g1_cmp_f g1_cmp_c h2 fun (vs4 : List Value) (h5 : Hp) =>
vs4 = [] ∧
Q [(Value.slice l3.a l3.n l3.c)] h5
def A_slices_SortedFunc_2_int : Ann := .nil
theorem E_slices_SortedFunc_2_int (g0_seq_f : Nat) (g0_seq_c : Array Value) (g1_cmp_f : Nat) (g1_cmp_c : Array Value) (h : Hp) (Q : List Value → Hp → Prop) : cw PP 12 (fun _ => []) (bodyOf Tryz.f69) A_slices_SortedFunc_2_int (finQ PP (Tryz.f69.results.toList) Q) (argFr [(Value.func (.func g0_seq_f) #[] g0_seq_c), (Value.func (.func g1_cmp_f) #[] g1_cmp_c)]) h = F_slices_SortedFunc_2_int g0_seq_f g0_seq_c g1_cmp_f g1_cmp_c h Q := by kernel_rfl
theorem O_slices_SortedFunc_2_int (g0_seq_f : Nat) (g0_seq_c : Array Value) (g1_cmp_f : Nat) (g1_cmp_c : Array Value) {h : Hp} {Q : List Value → Hp → Prop} (H : F_slices_SortedFunc_2_int g0_seq_f g0_seq_c g1_cmp_f g1_cmp_c h Q) : S_slices_SortedFunc_2_int g0_seq_f g0_seq_c g1_cmp_f g1_cmp_c h Q :=
  fn_of_cw (hs := (fun _ => [])) (ann := A_slices_SortedFunc_2_int) (args := [(Value.func (.func g0_seq_f) #[] g0_seq_c), (Value.func (.func g1_cmp_f) #[] g1_cmp_c)]) mixedPP Tryz.func69 (c := bodyOf Tryz.f69) (by kernel_rfl) (by kernel_rfl) (by kernel_rfl) (Eq.mpr (E_slices_SortedFunc_2_int g0_seq_f g0_seq_c g1_cmp_f g1_cmp_c h Q) H)
def F_maps_Keys_map_2_int_int_2_int_int (g0_m : Option Nat) (h : Hp) (Q : List Value → Hp → Prop) : Prop :=
wth (Array.push h (Obj.cells #[(Value.map g0_m)] T_map_2_int_int)) fun h1 =>
Q [(Value.func (.func 124) #[] #[(Value.pointer (some (Addr.mk (Array.size h) 0 none)))])] h1
def A_maps_Keys_map_2_int_int_2_int_int : Ann := .nil
theorem E_maps_Keys_map_2_int_int_2_int_int (g0_m : Option Nat) (h : Hp) (Q : List Value → Hp → Prop) : cw PP 4 (fun _ => []) (bodyOf Tryz.f70) A_maps_Keys_map_2_int_int_2_int_int (finQ PP (Tryz.f70.results.toList) Q) (argFr [(Value.map g0_m)]) h = F_maps_Keys_map_2_int_int_2_int_int g0_m h Q := by kernel_rfl
theorem O_maps_Keys_map_2_int_int_2_int_int (g0_m : Option Nat) {h : Hp} {Q : List Value → Hp → Prop} (H : F_maps_Keys_map_2_int_int_2_int_int g0_m h Q) : S_maps_Keys_map_2_int_int_2_int_int g0_m h Q :=
  fn_of_cw (hs := (fun _ => [])) (ann := A_maps_Keys_map_2_int_int_2_int_int) (args := [(Value.map g0_m)]) mixedPP Tryz.func70 (c := bodyOf Tryz.f70) (by kernel_rfl) (by kernel_rfl) (by kernel_rfl) (Eq.mpr (E_maps_Keys_map_2_int_int_2_int_int g0_m h Q) H)
def F_edge_Edges_All (g0_e : Option Addr) (h : Hp) (Q : List Value → Hp → Prop) : Prop :=
S_edge_Edges_none g0_e h fun (vs1 : List Value) (h2 : Hp) =>
∃ b3 : Bool, vs1 = [(Value.bool b3)] ∧
(if b3 = true then
  (Q [(Value.slice none 0 0)] h2) else
  (nilW g0_e fun a4 => ∃ r5 : Option Nat, rd h2 (Addr.add a4 1) = some (Value.map r5) ∧
    S_maps_Keys_map_2_int_int_2_int_int r5 h2 fun (vs6 : List Value) (h7 : Hp) =>
    ∃ f8 : Nat, ∃ cs9 : Array Value, vs6 = [(Value.func (.func f8) #[] cs9)] ∧
    S_slices_SortedFunc_2_int f8 cs9 71 #[] h7 fun (vs10 : List Value) (h11 : Hp) =>
    ∃ l12 : Sl, vs10 = [(Value.slice l12.a l12.n l12.c)] ∧
    Q [(Value.slice l12.a l12.n l12.c)] h11))
def A_edge_Edges_All : Ann := .nil
theorem E_edge_Edges_All (g0_e : Option Addr) (h : Hp) (Q : List Value → Hp → Prop) : cw PP 11 (fun _ => []) (bodyOf Tryz.f24) A_edge_Edges_All (finQ PP (Tryz.f24.results.toList) Q) (argFr [(Value.pointer g0_e)]) h = F_edge_Edges_All g0_e h Q := by kernel_rfl
theorem O_edge_Edges_All (g0_e : Option Addr) {h : Hp} {Q : List Value → Hp → Prop} (H : F_edge_Edges_All g0_e h Q) : S_edge_Edges_All g0_e h Q :=
  fn_of_cw (hs := (fun _ => [])) (ann := A_edge_Edges_All) (args := [(Value.pointer g0_e)]) mixedPP Tryz.func24 (c := bodyOf Tryz.f24) (by kernel_rfl) (by kernel_rfl) (by kernel_rfl) (Eq.mpr (E_edge_Edges_All g0_e h Q) H)
def F_liverylaw15_SsiCircles (g0_n_0 : Int) (g0_n_1 : Int) (g0_n_2 : Int) (g1_steps : Sl) (h : Hp) (Q : List Value → Hp → Prop) : Prop :=
wth (Array.push h (Obj.cells #[(Value.int .u8 g0_n_0), (Value.int .u8 g0_n_1), (Value.int .u8 g0_n_2)] T_3_uint8)) fun h1 =>
ixOk (0 : Int) 3 (∃ n2 : Int, rd h1 (Addr.add (Addr.mk (Array.size h) 0 none) (Int.toNat (0 : Int) * 1)) = some (Value.int .u8 n2) ∧
  divOk (6 : Int) (ixOk (1 : Int) 3 (∃ n3 : Int, rd h1 (Addr.add (Addr.mk (Array.size h) 0 none) (Int.toNat (1 : Int) * 1)) = some (Value.int .u8 n3) ∧
      divOk (20 : Int) (ixOk (2 : Int) 3 (∃ n4 : Int, rd h1 (Addr.add (Addr.mk (Array.size h) 0 none) (Int.toNat (2 : Int) * 1)) = some (Value.int .u8 n4) ∧
          divOk (5 : Int) (S_liverylaw15_Made (IntKind.wrap .i64 ((1 : Int) + (Int.tmod (IntKind.wrap .i64 n2) (6 : Int)))) (IntKind.wrap .i64 ((1 : Int) + (Int.tmod (IntKind.wrap .i64 n3) (20 : Int)))) (Int.tmod (IntKind.wrap .i64 n4) (5 : Int)) h1 fun (vs5 : List Value) (h6 : Hp) =>
            ∃ p7 : Option Addr, ∃ p8 : Option Addr, ∃ b9 : Bool, vs5 = [(Value.pointer p7), (Value.pointer p8), (Value.bool b9)] ∧
            ∀ J10 : List Value → Hp → Prop, (∀ b11 : Bool, ∀ h12 : Hp, ((if b11 = true then
                  (∀ J13 : List Value → Hp → Prop, (∀ b14 : Bool, ∀ h15 : Hp, (Q [(Value.bool b14)] h15) → J13 [(Value.bool b14)] h15) →
                    (if b9 = true then (S_liverylaw15_wakes  h12 fun (vs16 : List Value) (h17 : Hp) =>
                        ∃ b18 : Bool, vs16 = [(Value.bool b18)] ∧
                        J13 [(Value.bool b18)] h17) else
                      (J13 [(Value.bool false)] h12))) else
                  (∀ X19 : List Value → Hp → Prop, (∀ n20 : Int, ∀ n21 : Int, ∀ h22 : Hp, ((if (decide (n21 < (g1_steps.n : Int))) = true then
                          (∀ J23 : List Value → Hp → Prop, (∀ n24 : Int, ∀ h25 : Hp, (X19 [(Value.int .i64 n24), (Value.int .i64 (IntKind.wrap .i64 (n21 + (1 : Int))))] h25) → J23 [(Value.int .i64 n24)] h25) →
                            nilW g1_steps.a fun a26 => ixOk n21 g1_steps.n (∃ n27 : Int, rd h22 (Addr.add (Addr.add a26 (Int.toNat n21 * 9)) 0) = some (Value.int .i64 n27) ∧ ∃ n28 : Int, rd h22 (Addr.add (Addr.add a26 (Int.toNat n21 * 9)) 1) = some (Value.int .i64 n28) ∧ ∃ n29 : Int, rd h22 (Addr.add (Addr.add a26 (Int.toNat n21 * 9)) 2) = some (Value.int .i64 n29) ∧ ∃ b30 : Bool, rd h22 (Addr.add (Addr.add a26 (Int.toNat n21 * 9)) 3) = some (Value.bool b30) ∧ ∃ n31 : Int, rd h22 (Addr.add (Addr.add a26 (Int.toNat n21 * 9)) 4) = some (Value.int .i64 n31) ∧ ∃ s32 : ByteArray, rd h22 (Addr.add (Addr.add a26 (Int.toNat n21 * 9)) 5) = some (Value.string s32) ∧ ∃ n33 : Int, rd h22 (Addr.add (Addr.add a26 (Int.toNat n21 * 9)) 6) = some (Value.int .i64 n33) ∧ ∃ s34 : ByteArray, rd h22 (Addr.add (Addr.add a26 (Int.toNat n21 * 9)) 7) = some (Value.string s34) ∧ ∃ n35 : Int, rd h22 (Addr.add (Addr.add a26 (Int.toNat n21 * 9)) 8) = some (Value.int .i64 n35) ∧ wth (Array.push h22 (Obj.cells #[(Value.int .i64 (0 : Int)), (Value.int .i64 (0 : Int)), (Value.int .i64 (0 : Int)), (Value.bool false), (Value.int .i64 (0 : Int)), (Value.string (ByteArray.mk #[])), (Value.int .i64 (0 : Int)), (Value.string (ByteArray.mk #[])), (Value.int .i64 (0 : Int))] T_liverylaw15_Step)) fun h36 =>
                              stOk h36 (Addr.mk (Array.size h22) 0 none) 9 ∧ wth (wrs h36 (Addr.mk (Array.size h22) 0 none) 0 [(Value.int .i64 n27), (Value.int .i64 n28), (Value.int .i64 n29), (Value.bool b30), (Value.int .i64 n31), (Value.string s32), (Value.int .i64 n33), (Value.string s34), (Value.int .i64 n35)]) fun h37 =>
                              ∃ n38 : Int, rd h37 (Addr.add (Addr.mk (Array.size h22) 0 none) 0) = some (Value.int .i64 n38) ∧
                              (if (n38 == (0 : Int)) = true then
                                ((if (decide (n20 < (20 : Int))) = true then
                                    (∃ b39 : Bool, rd h37 (Addr.add (Addr.mk (Array.size h22) 0 none) 3) = some (Value.bool b39) ∧
                                      S_ssi_Ssi_Begin p7 b39 h37 fun (vs40 : List Value) (h41 : Hp) =>
                                      ∃ n42 : Int, ∃ n43 : Int, vs40 = [(Value.int .i64 n42), (Value.int .i64 n43)] ∧
                                      (if (n43 == (0 : Int)) = true then
                                        (J23 [(Value.int .i64 (IntKind.wrap .i64 (n20 + (1 : Int))))] h41) else
                                        (J23 [(Value.int .i64 n20)] h41))) else
                                    (J23 [(Value.int .i64 n20)] h37))) else
                                ((if (n38 == (1 : Int)) = true then
                                    (∃ n44 : Int, rd h37 (Addr.add (Addr.mk (Array.size h22) 0 none) 1) = some (Value.int .i64 n44) ∧
                                      S_ssi_Ssi_Commit p7 n44 h37 fun (vs45 : List Value) (h46 : Hp) =>
                                      ∃ n47 : Int, vs45 = [(Value.int .i64 n47)] ∧
                                      J23 [(Value.int .i64 n20)] h46) else
                                    ((if (n38 == (2 : Int)) = true then
                                        (∃ n48 : Int, rd h37 (Addr.add (Addr.mk (Array.size h22) 0 none) 1) = some (Value.int .i64 n48) ∧
                                          S_ssi_Ssi_Abort p7 n48 h37 fun (vs49 : List Value) (h50 : Hp) =>
                                          ∃ n51 : Int, vs49 = [(Value.int .i64 n51)] ∧
                                          J23 [(Value.int .i64 n20)] h50) else
                                        ((if (n38 == (3 : Int)) = true then
                                            (∃ n52 : Int, rd h37 (Addr.add (Addr.mk (Array.size h22) 0 none) 1) = some (Value.int .i64 n52) ∧
                                              ∃ n53 : Int, rd h37 (Addr.add (Addr.add (Addr.mk (Array.size h22) 0 none) 4) 0) = some (Value.int .i64 n53) ∧ ∃ s54 : ByteArray, rd h37 (Addr.add (Addr.add (Addr.mk (Array.size h22) 0 none) 4) 1) = some (Value.string s54) ∧ ∃ n55 : Int, rd h37 (Addr.add (Addr.add (Addr.mk (Array.size h22) 0 none) 4) 2) = some (Value.int .i64 n55) ∧ ∃ s56 : ByteArray, rd h37 (Addr.add (Addr.add (Addr.mk (Array.size h22) 0 none) 4) 3) = some (Value.string s56) ∧ ∃ n57 : Int, rd h37 (Addr.add (Addr.add (Addr.mk (Array.size h22) 0 none) 4) 4) = some (Value.int .i64 n57) ∧ S_ssi_Ssi_Read p7 n52 n53 s54 n55 s56 n57 h37 fun (vs58 : List Value) (h59 : Hp) =>
                                              vs58 = [] ∧
                                              J23 [(Value.int .i64 n20)] h59) else
                                            ((if (n38 == (4 : Int)) = true then
                                                (∃ n60 : Int, rd h37 (Addr.add (Addr.mk (Array.size h22) 0 none) 1) = some (Value.int .i64 n60) ∧
                                                  S_clog_Log_Reads p8 n60 h37 fun (vs61 : List Value) (h62 : Hp) =>
                                                  ∃ b63 : Bool, vs61 = [(Value.bool b63)] ∧
                                                  (if (!b63) = true then
                                                    (∃ n64 : Int, rd h62 (Addr.add (Addr.mk (Array.size h22) 0 none) 1) = some (Value.int .i64 n64) ∧
                                                      ∃ n65 : Int, rd h62 (Addr.add (Addr.add (Addr.mk (Array.size h22) 0 none) 4) 0) = some (Value.int .i64 n65) ∧ ∃ s66 : ByteArray, rd h62 (Addr.add (Addr.add (Addr.mk (Array.size h22) 0 none) 4) 1) = some (Value.string s66) ∧ ∃ n67 : Int, rd h62 (Addr.add (Addr.add (Addr.mk (Array.size h22) 0 none) 4) 2) = some (Value.int .i64 n67) ∧ ∃ s68 : ByteArray, rd h62 (Addr.add (Addr.add (Addr.mk (Array.size h22) 0 none) 4) 3) = some (Value.string s68) ∧ ∃ n69 : Int, rd h62 (Addr.add (Addr.add (Addr.mk (Array.size h22) 0 none) 4) 4) = some (Value.int .i64 n69) ∧ S_ssi_Ssi_Wrote p7 n64 n65 s66 n67 s68 n69 h62 fun (vs70 : List Value) (h71 : Hp) =>
                                                      vs70 = [] ∧
                                                      J23 [(Value.int .i64 n20)] h71) else
                                                    (J23 [(Value.int .i64 n20)] h62))) else
                                                ((if (n38 == (5 : Int)) = true then
                                                    (∃ n72 : Int, rd h37 (Addr.add (Addr.mk (Array.size h22) 0 none) 2) = some (Value.int .i64 n72) ∧
                                                      S_clog_Log_Reads p8 n72 h37 fun (vs73 : List Value) (h74 : Hp) =>
                                                      ∃ b75 : Bool, vs73 = [(Value.bool b75)] ∧
                                                      (if (!b75) = true then
                                                        (∃ n76 : Int, rd h74 (Addr.add (Addr.mk (Array.size h22) 0 none) 1) = some (Value.int .i64 n76) ∧
                                                          ∃ n77 : Int, rd h74 (Addr.add (Addr.mk (Array.size h22) 0 none) 2) = some (Value.int .i64 n77) ∧
                                                          S_ssi_Ssi_Saw p7 n76 n77 h74 fun (vs78 : List Value) (h79 : Hp) =>
                                                          vs78 = [] ∧
                                                          J23 [(Value.int .i64 n20)] h79) else
                                                        (J23 [(Value.int .i64 n20)] h74))) else
                                                    (J23 [(Value.int .i64 n20)] h37)))))))))))))) else
                          (∀ X80 : List Value → Hp → Prop, (∀ n81 : Int, ∀ h82 : Hp, ((if (decide (n81 ≤ n20)) = true then
                                  (S_ssi_Ssi_Commit p7 n81 h82 fun (vs83 : List Value) (h84 : Hp) =>
                                    ∃ n85 : Int, vs83 = [(Value.int .i64 n85)] ∧
                                    X80 [(Value.int .i64 (IntKind.wrap .i64 (n81 + (1 : Int))))] h84) else
                                  (wth (Array.push h82 (Obj.cells (zc PP T_21_21_bool) T_21_21_bool)) fun h86 =>
                                    ∀ X87 : List Value → Hp → Prop, (∀ n88 : Int, ∀ h89 : Hp, ((if (decide (n88 ≤ n20)) = true then
                                          (∀ X90 : List Value → Hp → Prop, (∀ n91 : Int, ∀ h92 : Hp, ((if (decide (n91 ≤ n20)) = true then
                                                  (∀ J93 : List Value → Hp → Prop, (∀ h94 : Hp, (X90 [(Value.int .i64 (IntKind.wrap .i64 (n91 + (1 : Int))))] h94) → J93 [] h94) →
                                                    (if (n88 != n91) = true then (ixOk n88 21 (S_clog_Log_State p8 n88 h92 fun (vs95 : List Value) (h96 : Hp) =>
                                                          ∃ n97 : Int, vs95 = [(Value.int .i64 n97)] ∧
                                                          (if (n97 == (2 : Int)) = true then (S_clog_Log_State p8 n91 h96 fun (vs98 : List Value) (h99 : Hp) =>
                                                            ∃ n100 : Int, vs98 = [(Value.int .i64 n100)] ∧
                                                            (if (n100 == (2 : Int)) = true then (S_clog_Log_Sees p8 n91 n88 h99 fun (vs101 : List Value) (h102 : Hp) =>
                                                            ∃ b103 : Bool, vs101 = [(Value.bool b103)] ∧
                                                            ixOk n91 21 (stOk h102 (Addr.add (Addr.add (Addr.mk (Array.size h82) 0 none) (Int.toNat n88 * 21)) (Int.toNat n91 * 1)) 1 ∧ wth (wrs h102 (Addr.add (Addr.add (Addr.mk (Array.size h82) 0 none) (Int.toNat n88 * 21)) (Int.toNat n91 * 1)) 0 [(Value.bool b103)]) fun h104 =>
                                                            J93 [] h104)) else
                                                            (ixOk n91 21 (stOk h99 (Addr.add (Addr.add (Addr.mk (Array.size h82) 0 none) (Int.toNat n88 * 21)) (Int.toNat n91 * 1)) 1 ∧ wth (wrs h99 (Addr.add (Addr.add (Addr.mk (Array.size h82) 0 none) (Int.toNat n88 * 21)) (Int.toNat n91 * 1)) 0 [(Value.bool false)]) fun h105 =>
                                                            J93 [] h105)))) else
                                                            (ixOk n91 21 (stOk h96 (Addr.add (Addr.add (Addr.mk (Array.size h82) 0 none) (Int.toNat n88 * 21)) (Int.toNat n91 * 1)) 1 ∧ wth (wrs h96 (Addr.add (Addr.add (Addr.mk (Array.size h82) 0 none) (Int.toNat n88 * 21)) (Int.toNat n91 * 1)) 0 [(Value.bool false)]) fun h106 =>
                                                            J93 [] h106))))) else
                                                      (ixOk n88 21 (ixOk n91 21 (stOk h92 (Addr.add (Addr.add (Addr.mk (Array.size h82) 0 none) (Int.toNat n88 * 21)) (Int.toNat n91 * 1)) 1 ∧ wth (wrs h92 (Addr.add (Addr.add (Addr.mk (Array.size h82) 0 none) (Int.toNat n88 * 21)) (Int.toNat n91 * 1)) 0 [(Value.bool false)]) fun h107 =>
                                                            J93 [] h107))))) else
                                                  (X87 [(Value.int .i64 (IntKind.wrap .i64 (n88 + (1 : Int))))] h92))) → X90 [(Value.int .i64 n91)] h92) →
                                            X90 [(Value.int .i64 (1 : Int))] h89) else
                                          (S_ssi_Ssi_Edges p7 h89 fun (vs108 : List Value) (h109 : Hp) =>
                                            ∃ p110 : Option Addr, vs108 = [(Value.pointer p110)] ∧
                                            S_edge_Edges_All p110 h109 fun (vs111 : List Value) (h112 : Hp) =>
                                            ∃ l113 : Sl, vs111 = [(Value.slice l113.a l113.n l113.c)] ∧
                                            ∀ X114 : List Value → Hp → Prop, (∀ n115 : Int, ∀ h116 : Hp, ((if (decide (n115 < (l113.n : Int))) = true then
                                                  (∀ J117 : List Value → Hp → Prop, (∀ h118 : Hp, (X114 [(Value.int .i64 (IntKind.wrap .i64 (n115 + (1 : Int))))] h118) → J117 [] h118) →
                                                    nilW l113.a fun a119 => ixOk n115 l113.n (ixOk (0 : Int) 2 (∃ n120 : Int, rd h116 (Addr.add (Addr.add a119 (Int.toNat n115 * 2)) (Int.toNat (0 : Int) * 1)) = some (Value.int .i64 n120) ∧
                                                        nilW l113.a fun a121 => ixOk n115 l113.n (ixOk (1 : Int) 2 (∃ n122 : Int, rd h116 (Addr.add (Addr.add a121 (Int.toNat n115 * 2)) (Int.toNat (1 : Int) * 1)) = some (Value.int .i64 n122) ∧
                                                            ∀ J123 : List Value → Hp → Prop, (∀ b124 : Bool, ∀ h125 : Hp, ((if b124 = true then
                                                            (Q [(Value.bool false)] h125) else
                                                            (ixOk n120 21 (ixOk n122 21 (∃ b126 : Bool, rd h125 (Addr.add (Addr.add (Addr.mk (Array.size h82) 0 none) (Int.toNat n120 * 21)) (Int.toNat n122 * 1)) = some (Value.bool b126) ∧
                                                            (if b126 = true then (ixOk n120 21 (ixOk n122 21 (stOk h125 (Addr.add (Addr.add (Addr.mk (Array.size h82) 0 none) (Int.toNat n120 * 21)) (Int.toNat n122 * 1)) 1 ∧ wth (wrs h125 (Addr.add (Addr.add (Addr.mk (Array.size h82) 0 none) (Int.toNat n120 * 21)) (Int.toNat n122 * 1)) 0 [(Value.bool true)]) fun h127 =>
                                                            J117 [] h127))) else
                                                            (ixOk n120 21 (S_clog_Log_State p8 n120 h125 fun (vs128 : List Value) (h129 : Hp) =>
                                                            ∃ n130 : Int, vs128 = [(Value.int .i64 n130)] ∧
                                                            (if (n130 == (2 : Int)) = true then (S_clog_Log_State p8 n122 h129 fun (vs131 : List Value) (h132 : Hp) =>
                                                            ∃ n133 : Int, vs131 = [(Value.int .i64 n133)] ∧
                                                            ixOk n122 21 (stOk h132 (Addr.add (Addr.add (Addr.mk (Array.size h82) 0 none) (Int.toNat n120 * 21)) (Int.toNat n122 * 1)) 1 ∧ wth (wrs h132 (Addr.add (Addr.add (Addr.mk (Array.size h82) 0 none) (Int.toNat n120 * 21)) (Int.toNat n122 * 1)) 0 [(Value.bool (n133 == (2 : Int)))]) fun h134 =>
                                                            J117 [] h134)) else
                                                            (ixOk n122 21 (stOk h129 (Addr.add (Addr.add (Addr.mk (Array.size h82) 0 none) (Int.toNat n120 * 21)) (Int.toNat n122 * 1)) 1 ∧ wth (wrs h129 (Addr.add (Addr.add (Addr.mk (Array.size h82) 0 none) (Int.toNat n120 * 21)) (Int.toNat n122 * 1)) 0 [(Value.bool false)]) fun h135 =>
                                                            J117 [] h135))))))))))) → J123 [(Value.bool b124)] h125) →
                                                            (if (decide (n120 < (1 : Int))) = true then (J123 [(Value.bool true)] h116) else
                                                            ((if (decide (n120 > n20)) = true then (J123 [(Value.bool true)] h116) else
                                                            ((if (decide (n122 < (1 : Int))) = true then (J123 [(Value.bool true)] h116) else
                                                            (J123 [(Value.bool (decide (n122 > n20)))] h116))))))))))) else
                                                  (∀ X136 : List Value → Hp → Prop, (∀ n137 : Int, ∀ h138 : Hp, ((if (decide (n137 ≤ n20)) = true then
                                                          (∀ X139 : List Value → Hp → Prop, (∀ n140 : Int, ∀ h141 : Hp, ((if (decide (n140 ≤ n20)) = true then
                                                            (∀ X142 : List Value → Hp → Prop, (∀ n143 : Int, ∀ h144 : Hp, ((if (decide (n143 ≤ n20)) = true then
                                                            (∀ J145 : List Value → Hp → Prop, (∀ h146 : Hp, (X142 [(Value.int .i64 (IntKind.wrap .i64 (n143 + (1 : Int))))] h146) → J145 [] h146) →
                                                            ixOk n140 21 (ixOk n143 21 (∃ b147 : Bool, rd h144 (Addr.add (Addr.add (Addr.mk (Array.size h82) 0 none) (Int.toNat n140 * 21)) (Int.toNat n143 * 1)) = some (Value.bool b147) ∧
                                                            (if b147 = true then (ixOk n140 21 (ixOk n143 21 (stOk h144 (Addr.add (Addr.add (Addr.mk (Array.size h82) 0 none) (Int.toNat n140 * 21)) (Int.toNat n143 * 1)) 1 ∧ wth (wrs h144 (Addr.add (Addr.add (Addr.mk (Array.size h82) 0 none) (Int.toNat n140 * 21)) (Int.toNat n143 * 1)) 0 [(Value.bool true)]) fun h148 =>
                                                            J145 [] h148))) else
                                                            (ixOk n140 21 (ixOk n137 21 (∃ b149 : Bool, rd h144 (Addr.add (Addr.add (Addr.mk (Array.size h82) 0 none) (Int.toNat n140 * 21)) (Int.toNat n137 * 1)) = some (Value.bool b149) ∧
                                                            (if b149 = true then (ixOk n137 21 (ixOk n143 21 (∃ b150 : Bool, rd h144 (Addr.add (Addr.add (Addr.mk (Array.size h82) 0 none) (Int.toNat n137 * 21)) (Int.toNat n143 * 1)) = some (Value.bool b150) ∧
                                                            ixOk n140 21 (ixOk n143 21 (stOk h144 (Addr.add (Addr.add (Addr.mk (Array.size h82) 0 none) (Int.toNat n140 * 21)) (Int.toNat n143 * 1)) 1 ∧ wth (wrs h144 (Addr.add (Addr.add (Addr.mk (Array.size h82) 0 none) (Int.toNat n140 * 21)) (Int.toNat n143 * 1)) 0 [(Value.bool b150)]) fun h151 =>
                                                            J145 [] h151))))) else
                                                            (ixOk n140 21 (ixOk n143 21 (stOk h144 (Addr.add (Addr.add (Addr.mk (Array.size h82) 0 none) (Int.toNat n140 * 21)) (Int.toNat n143 * 1)) 1 ∧ wth (wrs h144 (Addr.add (Addr.add (Addr.mk (Array.size h82) 0 none) (Int.toNat n140 * 21)) (Int.toNat n143 * 1)) 0 [(Value.bool false)]) fun h152 =>
                                                            J145 [] h152))))))))))) else
                                                            (X139 [(Value.int .i64 (IntKind.wrap .i64 (n140 + (1 : Int))))] h144))) → X142 [(Value.int .i64 n143)] h144) →
                                                            X142 [(Value.int .i64 (1 : Int))] h141) else
                                                            (X136 [(Value.int .i64 (IntKind.wrap .i64 (n137 + (1 : Int))))] h141))) → X139 [(Value.int .i64 n140)] h141) →
                                                            X139 [(Value.int .i64 (1 : Int))] h138) else
                                                          (∀ X153 : List Value → Hp → Prop, (∀ n154 : Int, ∀ h155 : Hp, ((if (decide (n154 ≤ n20)) = true then
                                                            (ixOk n154 21 (ixOk n154 21 (∃ b156 : Bool, rd h155 (Addr.add (Addr.add (Addr.mk (Array.size h82) 0 none) (Int.toNat n154 * 21)) (Int.toNat n154 * 1)) = some (Value.bool b156) ∧
                                                            (if b156 = true then
                                                            (Q [(Value.bool false)] h155) else
                                                            (X153 [(Value.int .i64 (IntKind.wrap .i64 (n154 + (1 : Int))))] h155))))) else
                                                            (S_liverylaw15_wakes  h155 fun (vs157 : List Value) (h158 : Hp) =>
                                                            ∃ b159 : Bool, vs157 = [(Value.bool b159)] ∧
                                                            Q [(Value.bool b159)] h158))) → X153 [(Value.int .i64 n154)] h155) →
                                                            X153 [(Value.int .i64 (1 : Int))] h138))) → X136 [(Value.int .i64 n137)] h138) →
                                                    X136 [(Value.int .i64 (1 : Int))] h116))) → X114 [(Value.int .i64 n115)] h116) →
                                            X114 [(Value.int .i64 (0 : Int))] h112))) → X87 [(Value.int .i64 n88)] h89) →
                                    X87 [(Value.int .i64 (1 : Int))] h86))) → X80 [(Value.int .i64 n81)] h82) →
                            X80 [(Value.int .i64 (1 : Int))] h22))) → X19 [(Value.int .i64 n20), (Value.int .i64 n21)] h22) →
                    X19 [(Value.int .i64 (0 : Int)), (Value.int .i64 (0 : Int))] h12))) → J10 [(Value.bool b11)] h12) →
            (if (!b9) = true then (J10 [(Value.bool true)] h6) else
              (S_liverylaw15_Fair ⟨g1_steps.a, g1_steps.n, g1_steps.c⟩ h6 fun (vs160 : List Value) (h161 : Hp) =>
                ∃ b162 : Bool, vs160 = [(Value.bool b162)] ∧
                J10 [(Value.bool (!b162))] h161))))))))
def A_liverylaw15_SsiCircles : Ann := (.mk none ⟨[], []⟩ .nil (.mk none ⟨[], []⟩ .nil (.mk none ⟨[], []⟩ (.mk none ⟨[], []⟩ (.mk (some ⟨[1, 5, 6, 7], [(50, (.c .bool))]⟩) ⟨[], []⟩ .nil .nil) (.mk none ⟨[], []⟩ (.mk none ⟨[], []⟩ (.mk (some ⟨[], [(4, (.c .bool))]⟩) ⟨[], []⟩ .nil .nil) .nil) .nil)) (.mk none ⟨[], []⟩ .nil (.mk none ⟨[], []⟩ (.mk none ⟨[], []⟩ .nil (.mk none ⟨[], []⟩ (.mk none ⟨[1, 5, 6], [(8, (.c (.int .i64))), (9, (.c (.int .i64)))]⟩ (.mk none ⟨[], []⟩ .nil (.mk none ⟨[], []⟩ (.mk (some ⟨[1, 5, 6, 9], [(8, (.c (.int .i64)))]⟩) ⟨[], []⟩ .nil .nil) .nil)) .nil) .nil)) (.mk none ⟨[], []⟩ (.mk none ⟨[], []⟩ .nil (.mk none ⟨[], []⟩ (.mk none ⟨[5, 6, 8], [(13, (.c (.int .i64)))]⟩ .nil .nil) .nil)) (.mk none ⟨[], []⟩ .nil (.mk none ⟨[], []⟩ (.mk none ⟨[], []⟩ .nil (.mk none ⟨[], []⟩ (.mk none ⟨[5, 6, 8, 14], [(15, (.c (.int .i64)))]⟩ (.mk none ⟨[], []⟩ .nil (.mk none ⟨[], []⟩ (.mk none ⟨[], []⟩ (.mk none ⟨[], []⟩ .nil (.mk none ⟨[], []⟩ (.mk none ⟨[5, 6, 8, 14, 15], [(16, (.c (.int .i64)))]⟩ (.mk none ⟨[], []⟩ .nil (.mk none ⟨[], []⟩ (.mk (some ⟨[5, 6, 8, 14, 15, 16], []⟩) ⟨[], []⟩ .nil .nil) .nil)) .nil) .nil)) .nil) .nil)) .nil) .nil)) (.mk none ⟨[], []⟩ .nil (.mk none ⟨[], []⟩ (.mk none ⟨[], []⟩ .nil (.mk none ⟨[], []⟩ (.mk none ⟨[6, 8, 14, 17], [(18, (.c (.int .i64)))]⟩ (.mk none ⟨[], []⟩ .nil (.mk none ⟨[], []⟩ (.mk (some ⟨[6, 8, 14, 17, 18], []⟩) ⟨[], []⟩ (.mk none ⟨[], []⟩ .nil (.mk none ⟨[], []⟩ (.mk none ⟨[], []⟩ (.mk (some ⟨[6, 8, 14, 17, 18, 19, 20], [(205, (.c .bool))]⟩) ⟨[], []⟩ .nil .nil) .nil) .nil)) .nil) .nil)) .nil) .nil)) (.mk none ⟨[], []⟩ (.mk none ⟨[], []⟩ .nil (.mk none ⟨[], []⟩ (.mk none ⟨[8, 14], [(21, (.c (.int .i64)))]⟩ (.mk none ⟨[], []⟩ .nil (.mk none ⟨[], []⟩ (.mk none ⟨[], []⟩ (.mk none ⟨[], []⟩ .nil (.mk none ⟨[], []⟩ (.mk none ⟨[8, 14, 21], [(22, (.c (.int .i64)))]⟩ (.mk none ⟨[], []⟩ .nil (.mk none ⟨[], []⟩ (.mk none ⟨[], []⟩ (.mk none ⟨[], []⟩ .nil (.mk none ⟨[], []⟩ (.mk none ⟨[8, 14, 21, 22], [(23, (.c (.int .i64)))]⟩ (.mk none ⟨[], []⟩ .nil (.mk none ⟨[], []⟩ (.mk (some ⟨[8, 14, 21, 22, 23], []⟩) ⟨[], []⟩ .nil .nil) .nil)) .nil) .nil)) .nil) .nil)) .nil) .nil)) .nil) .nil)) .nil) .nil)) (.mk none ⟨[], []⟩ (.mk none ⟨[], []⟩ .nil (.mk none ⟨[], []⟩ (.mk none ⟨[8, 14], [(24, (.c (.int .i64)))]⟩ .nil .nil) .nil)) .nil))))))))))))
theorem E_liverylaw15_SsiCircles (g0_n_0 : Int) (g0_n_1 : Int) (g0_n_2 : Int) (g1_steps : Sl) (h : Hp) (Q : List Value → Hp → Prop) : cw PP 276 (fun _ => []) (bodyOf Tryz.f4) A_liverylaw15_SsiCircles (finQ PP (Tryz.f4.results.toList) Q) (argFr [(Value.agg #[(Value.int .u8 g0_n_0), (Value.int .u8 g0_n_1), (Value.int .u8 g0_n_2)]), (Value.slice g1_steps.a g1_steps.n g1_steps.c)]) h = F_liverylaw15_SsiCircles g0_n_0 g0_n_1 g0_n_2 g1_steps h Q := by kernel_rfl
theorem O_liverylaw15_SsiCircles (g0_n_0 : Int) (g0_n_1 : Int) (g0_n_2 : Int) (g1_steps : Sl) {h : Hp} {Q : List Value → Hp → Prop} (H : F_liverylaw15_SsiCircles g0_n_0 g0_n_1 g0_n_2 g1_steps h Q) : S_liverylaw15_SsiCircles g0_n_0 g0_n_1 g0_n_2 g1_steps h Q :=
  fn_of_cw (hs := (fun _ => [])) (ann := A_liverylaw15_SsiCircles) (args := [(Value.agg #[(Value.int .u8 g0_n_0), (Value.int .u8 g0_n_1), (Value.int .u8 g0_n_2)]), (Value.slice g1_steps.a g1_steps.n g1_steps.c)]) mixedPP Tryz.func4 (c := bodyOf Tryz.f4) (by kernel_rfl) (by kernel_rfl) (by kernel_rfl) (Eq.mpr (E_liverylaw15_SsiCircles g0_n_0 g0_n_1 g0_n_2 g1_steps h Q) H)
def F_ssi_Ssi_Safe (g0_s : Option Addr) (g1_xid : Int) (h : Hp) (Q : List Value → Hp → Prop) : Prop :=
(if (!(Option.isNone g0_s)) = true then (nilW g0_s fun a1 => ∃ r2 : Option Nat, rd h (Addr.add a1 6) = some (Value.map r2) ∧
    ∃ es3 : Array MapEntry, mapAt h r2 es3 ∧ KeysLike (Value.int .i64 g1_xid) es3 ∧ ∃ n4 : Int, mgetD (Value.int .i64 g1_xid) es3 (Value.int .i64 (0 : Int)) = (Value.int .i64 n4) ∧
    Q [(Value.bool (decide (n4 > (0 : Int))))] h) else
  (Q [(Value.bool false)] h))
def A_ssi_Ssi_Safe : Ann := .nil
theorem E_ssi_Ssi_Safe (g0_s : Option Addr) (g1_xid : Int) (h : Hp) (Q : List Value → Hp → Prop) : cw PP 16 (fun _ => []) (bodyOf Tryz.f27) A_ssi_Ssi_Safe (finQ PP (Tryz.f27.results.toList) Q) (argFr [(Value.pointer g0_s), (Value.int .i64 g1_xid)]) h = F_ssi_Ssi_Safe g0_s g1_xid h Q := by kernel_rfl
theorem O_ssi_Ssi_Safe (g0_s : Option Addr) (g1_xid : Int) {h : Hp} {Q : List Value → Hp → Prop} (H : F_ssi_Ssi_Safe g0_s g1_xid h Q) : S_ssi_Ssi_Safe g0_s g1_xid h Q :=
  fn_of_cw (hs := (fun _ => [])) (ann := A_ssi_Ssi_Safe) (args := [(Value.pointer g0_s), (Value.int .i64 g1_xid)]) mixedPP Tryz.func27 (c := bodyOf Tryz.f27) (by kernel_rfl) (by kernel_rfl) (by kernel_rfl) (Eq.mpr (E_ssi_Ssi_Safe g0_s g1_xid h Q) H)
def F_ssi_Ssi_Table (g0_s : Option Addr) (h : Hp) (Q : List Value → Hp → Prop) : Prop :=
(if (Option.isNone g0_s) = true then
  (Q [(Value.pointer none)] h) else
  (nilW g0_s fun a1 => ∃ p2 : Option Addr, rd h (Addr.add a1 1) = some (Value.pointer p2) ∧
    Q [(Value.pointer p2)] h))
def A_ssi_Ssi_Table : Ann := .nil
theorem E_ssi_Ssi_Table (g0_s : Option Addr) (h : Hp) (Q : List Value → Hp → Prop) : cw PP 9 (fun _ => []) (bodyOf Tryz.f28) A_ssi_Ssi_Table (finQ PP (Tryz.f28.results.toList) Q) (argFr [(Value.pointer g0_s)]) h = F_ssi_Ssi_Table g0_s h Q := by kernel_rfl
theorem O_ssi_Ssi_Table (g0_s : Option Addr) {h : Hp} {Q : List Value → Hp → Prop} (H : F_ssi_Ssi_Table g0_s h Q) : S_ssi_Ssi_Table g0_s h Q :=
  fn_of_cw (hs := (fun _ => [])) (ann := A_ssi_Ssi_Table) (args := [(Value.pointer g0_s)]) mixedPP Tryz.func28 (c := bodyOf Tryz.f28) (by kernel_rfl) (by kernel_rfl) (by kernel_rfl) (Eq.mpr (E_ssi_Ssi_Table g0_s h Q) H)
end Go.Lift

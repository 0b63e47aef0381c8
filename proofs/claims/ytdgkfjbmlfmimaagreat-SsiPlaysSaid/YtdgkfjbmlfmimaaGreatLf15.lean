/- Printed by lift.py: each Go function of this seat as a Prop over the heap, and that the Go code comes to it. -/
import Derived.Test.YtdgkfjbmlfmimaaGreatLvL
import Derived.Test.YtdgkfjbmlfmimaaGreatProg
set_option linter.unusedSimpArgs false
set_option linter.unusedVariables false
namespace Go.Lift
open Go Go.Proofs
set_option maxRecDepth 100000
open Go.Value Go.Addr
noncomputable abbrev PP : Program := Tryz.prog
theorem mixedPP : PP.follows .mixedOrders = true := by kernel_rfl
def bodyOf (f : Func) : Code := f.body.getD .skip
abbrev PQ := List Value → Hp → Prop
abbrev eW (n : Nat) (fn : Func) (A : Ann) (args : List Value) (h : Hp) (Q : PQ) : Prop := cw PP n (fun _ => []) (bodyOf fn) A (finQ PP (fn.results.toList) Q) (argFr args) h
theorem fo {f : FuncId} {fn : Func} {c : Code} {args : List Value} {h : Hp} {hs : Hints} {ann : Ann} {Q : PQ} {F : Prop} (hf : PP.funcs[f]? = some fn) (E : cw PP fn.ntmps hs c ann (finQ PP fn.results.toList Q) (argFr args) h = F) (H : F) (hb : fn.body = some c := by kernel_rfl) (hN : (fn.name == "runtime.NumGoroutine") = false := by kernel_rfl) (hn : Nat.ble args.length fn.ntmps = true := by kernel_rfl) : Fn PP f args.toArray h Q := fn_of_cw mixedPP hf hb hN hn (Eq.mpr E H)
abbrev T_int : TypeId := 3
abbrev T_siread_Thing : TypeId := 23
abbrev T_pssi_Ssi : TypeId := 25
abbrev T_liverylaw15_Step : TypeId := 41
abbrev T_2_int : TypeId := 51
abbrev T_3_int : TypeId := 70
abbrev T_liveryref08_Log : TypeId := 74
abbrev T_liveryref13_Thing : TypeId := 81
abbrev T_ssi_Ssi : TypeId := 89
abbrev T_clog_tx : TypeId := 95
abbrev T_map_2_int_int : TypeId := 103
abbrev T_edge_Edges : TypeId := 105
abbrev T_map_siread_Thing_int : TypeId := 115
abbrev T_siread_Table : TypeId := 118
abbrev T_clog_Log : TypeId := 123
abbrev T_liveryref14_Edges : TypeId := 129
abbrev T_liveryref15_Ssi : TypeId := 131
abbrev T_liveryref08_Tx : TypeId := 133
abbrev T_liveryref13_Table : TypeId := 140
abbrev T_liveryref13_Own : TypeId := 168
abbrev T_liveryref14_Verdict : TypeId := 172
def S_siread_New (g0_each : Int) (g1_all : Int) (h : Hp) (Q : PQ) : Prop := Fn PP 74 #[(int .i64 g0_each), (int .i64 g1_all)] h Q
def S_edge_New (g0_l : Option Addr) (h : Hp) (Q : PQ) : Prop := Fn PP 75 #[(pointer g0_l)] h Q
def S_ssi_New (g0_l : Option Addr) (g1_each : Int) (g2_all : Int) (g3_keep : Int) (h : Hp) (Q : PQ) : Prop := Fn PP 25 #[(pointer g0_l), (int .i64 g1_each), (int .i64 g2_all), (int .i64 g3_keep)] h Q
def S_ssi_Ssi_Log (g0_s : Option Addr) (h : Hp) (Q : PQ) : Prop := Fn PP 29 #[(pointer g0_s)] h Q
def S_clog_New (h : Hp) (Q : PQ) : Prop := Fn PP 39 #[] h Q
def S_liverylaw15_Made (g0_each : Int) (g1_all : Int) (g2_keep : Int) (h : Hp) (Q : PQ) : Prop := Fn PP 11 #[(int .i64 g0_each), (int .i64 g1_all), (int .i64 g2_keep)] h Q
def S_clog_Log_Running (g0_l : Option Addr) (h : Hp) (Q : PQ) : Prop := Fn PP 38 #[(pointer g0_l)] h Q
def S_slices_IndexFunc_sint_int (g0_s : Sl) (g1_f_f : Nat) (g1_f_c : Array Value) (h : Hp) (Q : PQ) : Prop := Fn PP 103 #[(slice g0_s.a g0_s.n g0_s.c), (Value.func (.func g1_f_f) #[] g1_f_c)] h Q
def S_slices_ContainsFunc_sint_int (g0_s : Sl) (g1_f_f : Nat) (g1_f_c : Array Value) (h : Hp) (Q : PQ) : Prop := Fn PP 51 #[(slice g0_s.a g0_s.n g0_s.c), (Value.func (.func g1_f_f) #[] g1_f_c)] h Q
def S_clog_Log_Begin (g0_l : Option Addr) (g1_reads : Bool) (h : Hp) (Q : PQ) : Prop := Fn PP 53 #[(pointer g0_l), (bool g1_reads)] h Q
def S_ssi_Ssi_Begin (g0_s : Option Addr) (g1_reads : Bool) (h : Hp) (Q : PQ) : Prop := Fn PP 13 #[(pointer g0_s), (bool g1_reads)] h Q
def S_clog_Log_get (g0_l : Option Addr) (g1_xid : Int) (h : Hp) (Q : PQ) : Prop := Fn PP 67 #[(pointer g0_l), (int .i64 g1_xid)] h Q
def S_clog_Log_one (g0_l : Option Addr) (g1_xid : Int) (h : Hp) (Q : PQ) : Prop := Fn PP 63 #[(pointer g0_l), (int .i64 g1_xid)] h Q
def S_clog_Log_State (g0_l : Option Addr) (g1_xid : Int) (h : Hp) (Q : PQ) : Prop := Fn PP 17 #[(pointer g0_l), (int .i64 g1_xid)] h Q
def S_ssi_Ssi_runs (g0_s : Option Addr) (g1_xid : Int) (h : Hp) (Q : PQ) : Prop := Fn PP 54 #[(pointer g0_s), (int .i64 g1_xid)] h Q
def S_siread_one (g0_xid : Int) (h : Hp) (Q : PQ) : Prop := Fn PP 104 #[(int .i64 g0_xid)] h Q
def S_siread_Thing_fine (g0_x_0 : Int) (g0_x_1 : ByteArray) (g0_x_2 : Int) (g0_x_3 : ByteArray) (g0_x_4 : Int) (h : Hp) (Q : PQ) : Prop := Fn PP 108 #[(agg #[(int .i64 g0_x_0), (string g0_x_1), (int .i64 g0_x_2), (string g0_x_3), (int .i64 g0_x_4)])] h Q
def S_siread_Thing_rel (g0_x_0 : Int) (g0_x_1 : ByteArray) (g0_x_2 : Int) (g0_x_3 : ByteArray) (g0_x_4 : Int) (h : Hp) (Q : PQ) : Prop := Fn PP 109 #[(agg #[(int .i64 g0_x_0), (string g0_x_1), (int .i64 g0_x_2), (string g0_x_3), (int .i64 g0_x_4)])] h Q
def S_slices_AppendSeq_ssiread_Thing_siread_Thing (g0_s : Sl) (g1_seq_f : Nat) (g1_seq_c : Array Value) (h : Hp) (Q : PQ) : Prop := Fn PP 156 #[(slice g0_s.a g0_s.n g0_s.c), (Value.func (.func g1_seq_f) #[] g1_seq_c)] h Q
def S_slices_Collect_siread_Thing (g0_seq_f : Nat) (g0_seq_c : Array Value) (h : Hp) (Q : PQ) : Prop := Fn PP 126 #[(Value.func (.func g0_seq_f) #[] g0_seq_c)] h Q
def S_slices_SortFunc_ssiread_Thing_siread_Thing (g0_x : Sl) (g1_cmp_f : Nat) (g1_cmp_c : Array Value) (h : Hp) (Q : PQ) : Prop := Fn PP 127 #[(slice g0_x.a g0_x.n g0_x.c), (Value.func (.func g1_cmp_f) #[] g1_cmp_c)] h Q
def S_slices_SortedFunc_siread_Thing (g0_seq_f : Nat) (g0_seq_c : Array Value) (g1_cmp_f : Nat) (g1_cmp_c : Array Value) (h : Hp) (Q : PQ) : Prop := Fn PP 76 #[(Value.func (.func g0_seq_f) #[] g0_seq_c), (Value.func (.func g1_cmp_f) #[] g1_cmp_c)] h Q
def S_maps_Keys_map_siread_Thing_int_siread_Thing_int (g0_m : Option Nat) (h : Hp) (Q : PQ) : Prop := Fn PP 77 #[(map g0_m)] h Q
def S_siread_Table_Of (g0_t : Option Addr) (g1_xid : Int) (h : Hp) (Q : PQ) : Prop := Fn PP 30 #[(pointer g0_t), (int .i64 g1_xid)] h Q
def S_siread_Table_lose (g0_t : Option Addr) (g1_owner : Int) (g2_such_f : Nat) (g2_such_c : Array Value) (h : Hp) (Q : PQ) : Prop := Fn PP 118 #[(pointer g0_t), (int .i64 g1_owner), (Value.func (.func g2_such_f) #[] g2_such_c)] h Q
def S_siread_Table_count (g0_t : Option Addr) (g1_owner : Int) (g2_rel : Int) (h : Hp) (Q : PQ) : Prop := Fn PP 149 #[(pointer g0_t), (int .i64 g1_owner), (int .i64 g2_rel)] h Q
def S_siread_Table_take (g0_t : Option Addr) (g1_owner : Int) (g2_x_0 : Int) (g2_x_1 : ByteArray) (g2_x_2 : Int) (g2_x_3 : ByteArray) (g2_x_4 : Int) (h : Hp) (Q : PQ) : Prop := Fn PP 105 #[(pointer g0_t), (int .i64 g1_owner), (agg #[(int .i64 g2_x_0), (string g2_x_1), (int .i64 g2_x_2), (string g2_x_3), (int .i64 g2_x_4)])] h Q
def S_siread_Table_Take (g0_t : Option Addr) (g1_xid : Int) (g2_x_0 : Int) (g2_x_1 : ByteArray) (g2_x_2 : Int) (g2_x_3 : ByteArray) (g2_x_4 : Int) (h : Hp) (Q : PQ) : Prop := Fn PP 55 #[(pointer g0_t), (int .i64 g1_xid), (agg #[(int .i64 g2_x_0), (string g2_x_1), (int .i64 g2_x_2), (string g2_x_3), (int .i64 g2_x_4)])] h Q
def S_ssi_Ssi_Read (g0_s : Option Addr) (g1_xid : Int) (g2_x_0 : Int) (g2_x_1 : ByteArray) (g2_x_2 : Int) (g2_x_3 : ByteArray) (g2_x_4 : Int) (h : Hp) (Q : PQ) : Prop := Fn PP 14 #[(pointer g0_s), (int .i64 g1_xid), (agg #[(int .i64 g2_x_0), (string g2_x_1), (int .i64 g2_x_2), (string g2_x_3), (int .i64 g2_x_4)])] h Q
def S_siread_Table_Old (g0_t : Option Addr) (h : Hp) (Q : PQ) : Prop := Fn PP 37 #[(pointer g0_t)] h Q
def S_cmp_isNaN_int (g0_x : Int) (h : Hp) (Q : PQ) : Prop := Fn PP 125 #[(int .i64 g0_x)] h Q
def S_slices_Sort_sint_int (g0_x : Sl) (h : Hp) (Q : PQ) : Prop := Fn PP 130 #[(slice g0_x.a g0_x.n g0_x.c)] h Q
def S_siread_Table_owners (g0_t : Option Addr) (g1_such_f : Nat) (g1_such_c : Array Value) (h : Hp) (Q : PQ) : Prop := Fn PP 106 #[(pointer g0_t), (Value.func (.func g1_such_f) #[] g1_such_c)] h Q
def S_siread_Table_Owners (g0_t : Option Addr) (g1_x_0 : Int) (g1_x_1 : ByteArray) (g1_x_2 : Int) (g1_x_3 : ByteArray) (g1_x_4 : Int) (h : Hp) (Q : PQ) : Prop := Fn PP 56 #[(pointer g0_t), (agg #[(int .i64 g1_x_0), (string g1_x_1), (int .i64 g1_x_2), (string g1_x_3), (int .i64 g1_x_4)])] h Q
def S_clog_Log_Reads (g0_l : Option Addr) (g1_xid : Int) (h : Hp) (Q : PQ) : Prop := Fn PP 20 #[(pointer g0_l), (int .i64 g1_xid)] h Q
def S_edge_Edges_none (g0_e : Option Addr) (h : Hp) (Q : PQ) : Prop := Fn PP 68 #[(pointer g0_e)] h Q
def S_edge_Edges_ends (g0_e : Option Addr) (g1_xid : Int) (g2_end : Int) (h : Hp) (Q : PQ) : Prop := Fn PP 79 #[(pointer g0_e), (int .i64 g1_xid), (int .i64 g2_end)] h Q
def S_edge_Edges_In (g0_e : Option Addr) (g1_xid : Int) (h : Hp) (Q : PQ) : Prop := Fn PP 32 #[(pointer g0_e), (int .i64 g1_xid)] h Q
def S_clog_Log_Csn (g0_l : Option Addr) (g1_xid : Int) (h : Hp) (Q : PQ) : Prop := Fn PP 50 #[(pointer g0_l), (int .i64 g1_xid)] h Q
def S_clog_Log_Snapshot (g0_l : Option Addr) (g1_xid : Int) (h : Hp) (Q : PQ) : Prop := Fn PP 111 #[(pointer g0_l), (int .i64 g1_xid)] h Q
def S_edge_Edges_Out (g0_e : Option Addr) (g1_xid : Int) (h : Hp) (Q : PQ) : Prop := Fn PP 31 #[(pointer g0_e), (int .i64 g1_xid)] h Q
def S_edge_Edges_first (g0_e : Option Addr) (g1_p : Int) (h : Hp) (Q : PQ) : Prop := Fn PP 152 #[(pointer g0_e), (int .i64 g1_p)] h Q
def S_edge_Edges_Spoilt (g0_e : Option Addr) (g1_p : Int) (h : Hp) (Q : PQ) : Prop := Fn PP 112 #[(pointer g0_e), (int .i64 g1_p)] h Q
def S_ssi_Ssi_look (g0_s : Option Addr) (g1_p : Int) (h : Hp) (Q : PQ) : Prop := Fn PP 59 #[(pointer g0_s), (int .i64 g1_p)] h Q
def S_clog_Log_Sees (g0_l : Option Addr) (g1_xid : Int) (g2_other : Int) (h : Hp) (Q : PQ) : Prop := Fn PP 22 #[(pointer g0_l), (int .i64 g1_xid), (int .i64 g2_other)] h Q
def S_clog_Log_Beside (g0_l : Option Addr) (g1_a : Int) (g2_b : Int) (h : Hp) (Q : PQ) : Prop := Fn PP 151 #[(pointer g0_l), (int .i64 g1_a), (int .i64 g2_b)] h Q
def S_edge_Edges_Add (g0_e : Option Addr) (g1_a : Int) (g2_b : Int) (h : Hp) (Q : PQ) : Prop := Fn PP 110 #[(pointer g0_e), (int .i64 g1_a), (int .i64 g2_b)] h Q
def S_ssi_Ssi_behind (g0_s : Option Addr) (g1_a : Int) (g2_b : Int) (h : Hp) (Q : PQ) : Prop := Fn PP 57 #[(pointer g0_s), (int .i64 g1_a), (int .i64 g2_b)] h Q
def S_edge_Edges_OldIn (g0_e : Option Addr) (g1_b : Int) (g2_csn : Int) (h : Hp) (Q : PQ) : Prop := Fn PP 58 #[(pointer g0_e), (int .i64 g1_b), (int .i64 g2_csn)] h Q
def S_ssi_Ssi_Wrote (g0_s : Option Addr) (g1_xid : Int) (g2_x_0 : Int) (g2_x_1 : ByteArray) (g2_x_2 : Int) (g2_x_3 : ByteArray) (g2_x_4 : Int) (h : Hp) (Q : PQ) : Prop := Fn PP 15 #[(pointer g0_s), (int .i64 g1_xid), (agg #[(int .i64 g2_x_0), (string g2_x_1), (int .i64 g2_x_2), (string g2_x_3), (int .i64 g2_x_4)])] h Q
def S_siread_Table_Drop (g0_t : Option Addr) (g1_xid : Int) (h : Hp) (Q : PQ) : Prop := Fn PP 65 #[(pointer g0_t), (int .i64 g1_xid)] h Q
def S_slices_DeleteFunc_sint_int (g0_s : Sl) (g1_del_f : Nat) (g1_del_c : Array Value) (h : Hp) (Q : PQ) : Prop := Fn PP 114 #[(slice g0_s.a g0_s.n g0_s.c), (Value.func (.func g1_del_f) #[] g1_del_c)] h Q
def S_siread_Table_Fold (g0_t : Option Addr) (g1_xid : Int) (g2_csn : Int) (h : Hp) (Q : PQ) : Prop := Fn PP 117 #[(pointer g0_t), (int .i64 g1_xid), (int .i64 g2_csn)] h Q
def S_ssi_Ssi_clean (g0_s : Option Addr) (h : Hp) (Q : PQ) : Prop := Fn PP 62 #[(pointer g0_s)] h Q
def S_clog_Log_ends (g0_l : Option Addr) (g1_xid : Int) (h : Hp) (Q : PQ) : Prop := Fn PP 113 #[(pointer g0_l), (int .i64 g1_xid)] h Q
def S_clog_Log_Abort (g0_l : Option Addr) (g1_xid : Int) (h : Hp) (Q : PQ) : Prop := Fn PP 64 #[(pointer g0_l), (int .i64 g1_xid)] h Q
def S_maps_DeleteFunc_map_2_int_int_2_int_int (g0_m : Option Nat) (g1_del_f : Nat) (g1_del_c : Array Value) (h : Hp) (Q : PQ) : Prop := Fn PP 120 #[(map g0_m), (Value.func (.func g1_del_f) #[] g1_del_c)] h Q
def S_edge_Edges_Drop (g0_e : Option Addr) (g1_xid : Int) (h : Hp) (Q : PQ) : Prop := Fn PP 66 #[(pointer g0_e), (int .i64 g1_xid)] h Q
def S_ssi_Ssi_Abort (g0_s : Option Addr) (g1_xid : Int) (h : Hp) (Q : PQ) : Prop := Fn PP 19 #[(pointer g0_s), (int .i64 g1_xid)] h Q
def S_ssi_Ssi_Doomed (g0_s : Option Addr) (g1_xid : Int) (h : Hp) (Q : PQ) : Prop := Fn PP 26 #[(pointer g0_s), (int .i64 g1_xid)] h Q
def S_edge_Edges_Ahead (g0_e : Option Addr) (g1_t3 : Int) (h : Hp) (Q : PQ) : Prop := Fn PP 60 #[(pointer g0_e), (int .i64 g1_t3)] h Q
def S_clog_Log_Commit (g0_l : Option Addr) (g1_xid : Int) (h : Hp) (Q : PQ) : Prop := Fn PP 61 #[(pointer g0_l), (int .i64 g1_xid)] h Q
def S_ssi_Ssi_Commit (g0_s : Option Addr) (g1_xid : Int) (h : Hp) (Q : PQ) : Prop := Fn PP 16 #[(pointer g0_s), (int .i64 g1_xid)] h Q
def S_liverylaw15_row (g0_n : Int) (h : Hp) (Q : PQ) : Prop := Fn PP 49 #[(int .i64 g0_n)] h Q
def S_liverylaw15_wakes (h : Hp) (Q : PQ) : Prop := Fn PP 10 #[] h Q
def S_liverylaw15_Fair (g0_l : Sl) (h : Hp) (Q : PQ) : Prop := Fn PP 18 #[(slice g0_l.a g0_l.n g0_l.c)] h Q
def S_ssi_Ssi_Saw (g0_s : Option Addr) (g1_xid : Int) (g2_writer : Int) (h : Hp) (Q : PQ) : Prop := Fn PP 21 #[(pointer g0_s), (int .i64 g1_xid), (int .i64 g2_writer)] h Q
def S_ssi_Ssi_Edges (g0_s : Option Addr) (h : Hp) (Q : PQ) : Prop := Fn PP 23 #[(pointer g0_s)] h Q
def S_slices_AppendSeq_s_2_int_2_int (g0_s : Sl) (g1_seq_f : Nat) (g1_seq_c : Array Value) (h : Hp) (Q : PQ) : Prop := Fn PP 153 #[(slice g0_s.a g0_s.n g0_s.c), (Value.func (.func g1_seq_f) #[] g1_seq_c)] h Q
def S_slices_Collect_2_int (g0_seq_f : Nat) (g0_seq_c : Array Value) (h : Hp) (Q : PQ) : Prop := Fn PP 122 #[(Value.func (.func g0_seq_f) #[] g0_seq_c)] h Q
def S_slices_SortFunc_s_2_int_2_int (g0_x : Sl) (g1_cmp_f : Nat) (g1_cmp_c : Array Value) (h : Hp) (Q : PQ) : Prop := Fn PP 123 #[(slice g0_x.a g0_x.n g0_x.c), (Value.func (.func g1_cmp_f) #[] g1_cmp_c)] h Q
def S_slices_SortedFunc_2_int (g0_seq_f : Nat) (g0_seq_c : Array Value) (g1_cmp_f : Nat) (g1_cmp_c : Array Value) (h : Hp) (Q : PQ) : Prop := Fn PP 69 #[(Value.func (.func g0_seq_f) #[] g0_seq_c), (Value.func (.func g1_cmp_f) #[] g1_cmp_c)] h Q
def S_maps_Keys_map_2_int_int_2_int_int (g0_m : Option Nat) (h : Hp) (Q : PQ) : Prop := Fn PP 70 #[(map g0_m)] h Q
def S_edge_Edges_All (g0_e : Option Addr) (h : Hp) (Q : PQ) : Prop := Fn PP 24 #[(pointer g0_e)] h Q
def S_ssi_Ssi_Safe (g0_s : Option Addr) (g1_xid : Int) (h : Hp) (Q : PQ) : Prop := Fn PP 27 #[(pointer g0_s), (int .i64 g1_xid)] h Q
def S_ssi_Ssi_Table (g0_s : Option Addr) (h : Hp) (Q : PQ) : Prop := Fn PP 28 #[(pointer g0_s)] h Q
def S_liverykeep_Ints (g0_a : Sl) (g1_b : Sl) (h : Hp) (Q : PQ) : Prop := Fn PP 34 #[(slice g0_a.a g0_a.n g0_a.c), (slice g1_b.a g1_b.n g1_b.c)] h Q
def S_siread_Table_Fine (g0_t : Option Addr) (h : Hp) (Q : PQ) : Prop := Fn PP 36 #[(pointer g0_t)] h Q
def S_liveryref13_New (g0_each : Int) (g1_all : Int) (h : Hp) (Q : PQ) : Prop := Fn PP 80 #[(int .i64 g0_each), (int .i64 g1_all)] h Q
def S_liveryref15_New (g0_l : Option Addr) (g1_each : Int) (g2_all : Int) (g3_keep : Int) (h : Hp) (Q : PQ) : Prop := Fn PP 40 #[(pointer g0_l), (int .i64 g1_each), (int .i64 g2_all), (int .i64 g3_keep)] h Q
def S_liveryref08_Log_Running (g0_l : Option Addr) (h : Hp) (Q : PQ) : Prop := Fn PP 81 #[(pointer g0_l)] h Q
def S_liveryref08_Log_Get (g0_l : Option Addr) (g1_xid : Int) (h : Hp) (Q : PQ) : Prop := Fn PP 82 #[(pointer g0_l), (int .i64 g1_xid)] h Q
def S_liveryref08_Log_Begin (g0_l : Option Addr) (g1_reads : Bool) (h : Hp) (Q : PQ) : Prop := Fn PP 83 #[(pointer g0_l), (bool g1_reads)] h Q
def S_liveryref15_Ssi_Begin (g0_s : Option Addr) (g1_reads : Bool) (h : Hp) (Q : PQ) : Prop := Fn PP 41 #[(pointer g0_s), (bool g1_reads)] h Q
def S_liveryref15_Ssi_runs (g0_s : Option Addr) (g1_xid : Int) (h : Hp) (Q : PQ) : Prop := Fn PP 84 #[(pointer g0_s), (int .i64 g1_xid)] h Q
def S_liveryref13_Table_Drop (g0_t : Option Addr) (g1_xid : Int) (h : Hp) (Q : PQ) : Prop := Fn PP 91 #[(pointer g0_t), (int .i64 g1_xid)] h Q
def S_liveryref13_ahead (g0_a_0 : Int) (g0_a_1 : ByteArray) (g0_a_2 : Int) (g0_a_3 : ByteArray) (g0_a_4 : Int) (g1_b_0 : Int) (g1_b_1 : ByteArray) (g1_b_2 : Int) (g1_b_3 : ByteArray) (g1_b_4 : Int) (h : Hp) (Q : PQ) : Prop := Fn PP 143 #[(agg #[(int .i64 g0_a_0), (string g0_a_1), (int .i64 g0_a_2), (string g0_a_3), (int .i64 g0_a_4)]), (agg #[(int .i64 g1_b_0), (string g1_b_1), (int .i64 g1_b_2), (string g1_b_3), (int .i64 g1_b_4)])] h Q
def S_liveryref13_Table_Of (g0_t : Option Addr) (g1_xid : Int) (h : Hp) (Q : PQ) : Prop := Fn PP 99 #[(pointer g0_t), (int .i64 g1_xid)] h Q
def S_liveryref13_kind (g0_x_0 : Int) (g0_x_1 : ByteArray) (g0_x_2 : Int) (g0_x_3 : ByteArray) (g0_x_4 : Int) (h : Hp) (Q : PQ) : Prop := Fn PP 135 #[(agg #[(int .i64 g0_x_0), (string g0_x_1), (int .i64 g0_x_2), (string g0_x_3), (int .i64 g0_x_4)])] h Q
def S_liveryref13_fine (g0_x_0 : Int) (g0_x_1 : ByteArray) (g0_x_2 : Int) (g0_x_3 : ByteArray) (g0_x_4 : Int) (h : Hp) (Q : PQ) : Prop := Fn PP 137 #[(agg #[(int .i64 g0_x_0), (string g0_x_1), (int .i64 g0_x_2), (string g0_x_3), (int .i64 g0_x_4)])] h Q
def S_liveryref13_rel (g0_x_0 : Int) (g0_x_1 : ByteArray) (g0_x_2 : Int) (g0_x_3 : ByteArray) (g0_x_4 : Int) (h : Hp) (Q : PQ) : Prop := Fn PP 138 #[(agg #[(int .i64 g0_x_0), (string g0_x_1), (int .i64 g0_x_2), (string g0_x_3), (int .i64 g0_x_4)])] h Q
def S_liveryref13_Table_Fine (g0_t : Option Addr) (h : Hp) (Q : PQ) : Prop := Fn PP 146 #[(pointer g0_t)] h Q
def S_liveryref13_Table_Has (g0_t : Option Addr) (g1_owner : Int) (g2_x_0 : Int) (g2_x_1 : ByteArray) (g2_x_2 : Int) (g2_x_3 : ByteArray) (g2_x_4 : Int) (h : Hp) (Q : PQ) : Prop := Fn PP 160 #[(pointer g0_t), (int .i64 g1_owner), (agg #[(int .i64 g2_x_0), (string g2_x_1), (int .i64 g2_x_2), (string g2_x_3), (int .i64 g2_x_4)])] h Q
def S_liveryref13_Table_take (g0_t : Option Addr) (g1_owner : Int) (g2_x_0 : Int) (g2_x_1 : ByteArray) (g2_x_2 : Int) (g2_x_3 : ByteArray) (g2_x_4 : Int) (h : Hp) (Q : PQ) : Prop := Fn PP 136 #[(pointer g0_t), (int .i64 g1_owner), (agg #[(int .i64 g2_x_0), (string g2_x_1), (int .i64 g2_x_2), (string g2_x_3), (int .i64 g2_x_4)])] h Q
def S_liveryref13_Table_Fold (g0_t : Option Addr) (g1_xid : Int) (g2_csn : Int) (h : Hp) (Q : PQ) : Prop := Fn PP 134 #[(pointer g0_t), (int .i64 g1_xid), (int .i64 g2_csn)] h Q
def S_liveryref15_Ssi_clean (g0_s : Option Addr) (h : Hp) (Q : PQ) : Prop := Fn PP 89 #[(pointer g0_s)] h Q
def S_liveryref08_Log_Abort (g0_l : Option Addr) (g1_xid : Int) (h : Hp) (Q : PQ) : Prop := Fn PP 90 #[(pointer g0_l), (int .i64 g1_xid)] h Q
def S_liveryref14_Edges_Drop (g0_e : Option Addr) (g1_xid : Int) (h : Hp) (Q : PQ) : Prop := Fn PP 92 #[(pointer g0_e), (int .i64 g1_xid)] h Q
def S_liveryref15_Ssi_Abort (g0_s : Option Addr) (g1_xid : Int) (h : Hp) (Q : PQ) : Prop := Fn PP 43 #[(pointer g0_s), (int .i64 g1_xid)] h Q
def S_liveryref15_has (g0_l : Sl) (g1_n : Int) (h : Hp) (Q : PQ) : Prop := Fn PP 131 #[(slice g0_l.a g0_l.n g0_l.c), (int .i64 g1_n)] h Q
def S_liveryref15_Ssi_IsDoomed (g0_s : Option Addr) (g1_xid : Int) (h : Hp) (Q : PQ) : Prop := Fn PP 85 #[(pointer g0_s), (int .i64 g1_xid)] h Q
def S_liveryref14_Edges_In (g0_e : Option Addr) (g1_xid : Int) (h : Hp) (Q : PQ) : Prop := Fn PP 132 #[(pointer g0_e), (int .i64 g1_xid)] h Q
def S_liveryref14_put (g0_l : Sl) (g1_n : Int) (h : Hp) (Q : PQ) : Prop := Fn PP 133 #[(slice g0_l.a g0_l.n g0_l.c), (int .i64 g1_n)] h Q
def S_liveryref14_Edges_Ahead (g0_e : Option Addr) (g1_t3 : Int) (h : Hp) (Q : PQ) : Prop := Fn PP 86 #[(pointer g0_e), (int .i64 g1_t3)] h Q
def S_liveryref15_Ssi_doom (g0_s : Option Addr) (g1_xid : Int) (h : Hp) (Q : PQ) : Prop := Fn PP 87 #[(pointer g0_s), (int .i64 g1_xid)] h Q
def S_liveryref08_Log_Commit (g0_l : Option Addr) (g1_xid : Int) (h : Hp) (Q : PQ) : Prop := Fn PP 88 #[(pointer g0_l), (int .i64 g1_xid)] h Q
def S_liveryref15_Ssi_Commit (g0_s : Option Addr) (g1_xid : Int) (h : Hp) (Q : PQ) : Prop := Fn PP 42 #[(pointer g0_s), (int .i64 g1_xid)] h Q
def S_liveryref15_Ssi_Safe (g0_s : Option Addr) (g1_xid : Int) (h : Hp) (Q : PQ) : Prop := Fn PP 93 #[(pointer g0_s), (int .i64 g1_xid)] h Q
def S_liveryref13_Table_Take (g0_t : Option Addr) (g1_xid : Int) (g2_x_0 : Int) (g2_x_1 : ByteArray) (g2_x_2 : Int) (g2_x_3 : ByteArray) (g2_x_4 : Int) (h : Hp) (Q : PQ) : Prop := Fn PP 94 #[(pointer g0_t), (int .i64 g1_xid), (agg #[(int .i64 g2_x_0), (string g2_x_1), (int .i64 g2_x_2), (string g2_x_3), (int .i64 g2_x_4)])] h Q
def S_liveryref15_Ssi_Read (g0_s : Option Addr) (g1_xid : Int) (g2_x_0 : Int) (g2_x_1 : ByteArray) (g2_x_2 : Int) (g2_x_3 : ByteArray) (g2_x_4 : Int) (h : Hp) (Q : PQ) : Prop := Fn PP 44 #[(pointer g0_s), (int .i64 g1_xid), (agg #[(int .i64 g2_x_0), (string g2_x_1), (int .i64 g2_x_2), (string g2_x_3), (int .i64 g2_x_4)])] h Q
def S_liverylaw13_Own (g0_x_0 : Int) (g0_x_1 : ByteArray) (g0_x_2 : Int) (g0_x_3 : ByteArray) (g0_x_4 : Int) (h : Hp) (Q : PQ) : Prop := Fn PP 45 #[(agg #[(int .i64 g0_x_0), (string g0_x_1), (int .i64 g0_x_2), (string g0_x_3), (int .i64 g0_x_4)])] h Q
def S_liveryref13_put (g0_l : Sl) (g1_n : Int) (h : Hp) (Q : PQ) : Prop := Fn PP 139 #[(slice g0_l.a g0_l.n g0_l.c), (int .i64 g1_n)] h Q
def S_liveryref13_Table_Owners (g0_t : Option Addr) (g1_x_0 : Int) (g1_x_1 : ByteArray) (g1_x_2 : Int) (g1_x_3 : ByteArray) (g1_x_4 : Int) (h : Hp) (Q : PQ) : Prop := Fn PP 95 #[(pointer g0_t), (agg #[(int .i64 g1_x_0), (string g1_x_1), (int .i64 g1_x_2), (string g1_x_3), (int .i64 g1_x_4)])] h Q
def S_liveryref14_Edges_Old (g0_e : Option Addr) (g1_xid : Int) (h : Hp) (Q : PQ) : Prop := Fn PP 140 #[(pointer g0_e), (int .i64 g1_xid)] h Q
def S_liveryref14_Edges_OldIn (g0_e : Option Addr) (g1_b : Int) (g2_csn : Int) (h : Hp) (Q : PQ) : Prop := Fn PP 96 #[(pointer g0_e), (int .i64 g1_b), (int .i64 g2_csn)] h Q
def S_liveryref14_Edges_Out (g0_e : Option Addr) (g1_xid : Int) (h : Hp) (Q : PQ) : Prop := Fn PP 147 #[(pointer g0_e), (int .i64 g1_xid)] h Q
def S_liveryref14_Edges_Spoilt (g0_e : Option Addr) (g1_p : Int) (h : Hp) (Q : PQ) : Prop := Fn PP 141 #[(pointer g0_e), (int .i64 g1_p)] h Q
def S_liveryref15_Ssi_pivot (g0_s : Option Addr) (g1_p : Int) (h : Hp) (Q : PQ) : Prop := Fn PP 97 #[(pointer g0_s), (int .i64 g1_p)] h Q
def S_liveryref08_Log_Sees (g0_l : Option Addr) (g1_xid : Int) (g2_other : Int) (h : Hp) (Q : PQ) : Prop := Fn PP 191 #[(pointer g0_l), (int .i64 g1_xid), (int .i64 g2_other)] h Q
def S_liveryref08_Log_Beside (g0_l : Option Addr) (g1_a : Int) (g2_b : Int) (h : Hp) (Q : PQ) : Prop := Fn PP 161 #[(pointer g0_l), (int .i64 g1_a), (int .i64 g2_b)] h Q
def S_liveryref14_Edges_at (g0_e : Option Addr) (g1_a : Int) (g2_b : Int) (h : Hp) (Q : PQ) : Prop := Fn PP 163 #[(pointer g0_e), (int .i64 g1_a), (int .i64 g2_b)] h Q
def S_liveryref14_Edges_Has (g0_e : Option Addr) (g1_a : Int) (g2_b : Int) (h : Hp) (Q : PQ) : Prop := Fn PP 162 #[(pointer g0_e), (int .i64 g1_a), (int .i64 g2_b)] h Q
def S_liveryref14_Edges_Add (g0_e : Option Addr) (g1_a : Int) (g2_b : Int) (h : Hp) (Q : PQ) : Prop := Fn PP 142 #[(pointer g0_e), (int .i64 g1_a), (int .i64 g2_b)] h Q
def S_liveryref15_Ssi_edge (g0_s : Option Addr) (g1_a : Int) (g2_b : Int) (h : Hp) (Q : PQ) : Prop := Fn PP 98 #[(pointer g0_s), (int .i64 g1_a), (int .i64 g2_b)] h Q
def S_liveryref15_Ssi_Wrote (g0_s : Option Addr) (g1_xid : Int) (g2_x_0 : Int) (g2_x_1 : ByteArray) (g2_x_2 : Int) (g2_x_3 : ByteArray) (g2_x_4 : Int) (h : Hp) (Q : PQ) : Prop := Fn PP 46 #[(pointer g0_s), (int .i64 g1_xid), (agg #[(int .i64 g2_x_0), (string g2_x_1), (int .i64 g2_x_2), (string g2_x_3), (int .i64 g2_x_4)])] h Q
def S_liveryref15_Ssi_Saw (g0_s : Option Addr) (g1_xid : Int) (g2_writer : Int) (h : Hp) (Q : PQ) : Prop := Fn PP 47 #[(pointer g0_s), (int .i64 g1_xid), (int .i64 g2_writer)] h Q
def S_clog_Log_Clock (g0_l : Option Addr) (h : Hp) (Q : PQ) : Prop := Fn PP 145 #[(pointer g0_l)] h Q
def S_clog_Log_Horizon (g0_l : Option Addr) (h : Hp) (Q : PQ) : Prop := Fn PP 116 #[(pointer g0_l)] h Q
def S_liveryref08_Log_Horizon (g0_l : Option Addr) (h : Hp) (Q : PQ) : Prop := Fn PP 144 #[(pointer g0_l)] h Q
def S_liverylaw08_Same (g0_l : Option Addr) (g1_q : Option Addr) (h : Hp) (Q : PQ) : Prop := Fn PP 100 #[(pointer g0_l), (pointer g1_q)] h Q
def S_liverylaw13_Same (g0_t : Option Addr) (g1_q : Option Addr) (h : Hp) (Q : PQ) : Prop := Fn PP 101 #[(pointer g0_t), (pointer g1_q)] h Q
def S_edge_Edges_Old (g0_e : Option Addr) (g1_xid : Int) (h : Hp) (Q : PQ) : Prop := Fn PP 148 #[(pointer g0_e), (int .i64 g1_xid)] h Q
def S_liverylaw14_Same (g0_e : Option Addr) (g1_q : Option Addr) (h : Hp) (Q : PQ) : Prop := Fn PP 102 #[(pointer g0_e), (pointer g1_q)] h Q
def S_liverylaw15_Same (g0_s : Option Addr) (g1_q : Option Addr) (h : Hp) (Q : PQ) : Prop := Fn PP 48 #[(pointer g0_s), (pointer g1_q)] h Q
def S_ssi_Ssi_Begin_1 (g0_x : Int) (g1_x : Addr) (h : Hp) (Q : PQ) : Prop := Fn PP 52 #[(int .i64 g0_x), (pointer (some g1_x))] h Q
def S_cmp_Or_int (g0_vals : Sl) (h : Hp) (Q : PQ) : Prop := Fn PP 72 #[(slice g0_vals.a g0_vals.n g0_vals.c)] h Q
def S_cmp_Compare_int (g0_x : Int) (g1_y : Int) (h : Hp) (Q : PQ) : Prop := Fn PP 73 #[(int .i64 g0_x), (int .i64 g1_y)] h Q
def S_edge_Edges_All_1 (g0_a_0 : Int) (g0_a_1 : Int) (g1_b_0 : Int) (g1_b_1 : Int) (h : Hp) (Q : PQ) : Prop := Fn PP 71 #[(agg #[(int .i64 g0_a_0), (int .i64 g0_a_1)]), (agg #[(int .i64 g1_b_0), (int .i64 g1_b_1)])] h Q
def S_cmp_isNaN_string (g0_x : ByteArray) (h : Hp) (Q : PQ) : Prop := Fn PP 158 #[(string g0_x)] h Q
def S_cmp_Compare_string (g0_x : ByteArray) (g1_y : ByteArray) (h : Hp) (Q : PQ) : Prop := Fn PP 129 #[(string g0_x), (string g1_y)] h Q
def S_siread_compare (g0_a_0 : Int) (g0_a_1 : ByteArray) (g0_a_2 : Int) (g0_a_3 : ByteArray) (g0_a_4 : Int) (g1_b_0 : Int) (g1_b_1 : ByteArray) (g1_b_2 : Int) (g1_b_3 : ByteArray) (g1_b_4 : Int) (h : Hp) (Q : PQ) : Prop := Fn PP 78 #[(agg #[(int .i64 g0_a_0), (string g0_a_1), (int .i64 g0_a_2), (string g0_a_3), (int .i64 g0_a_4)]), (agg #[(int .i64 g1_b_0), (string g1_b_1), (int .i64 g1_b_2), (string g1_b_3), (int .i64 g1_b_4)])] h Q
def S_siread_Table_Owners_1 (g0_y_0 : Int) (g0_y_1 : ByteArray) (g0_y_2 : Int) (g0_y_3 : ByteArray) (g0_y_4 : Int) (g1_x : Addr) (h : Hp) (Q : PQ) : Prop := Fn PP 107 #[(agg #[(int .i64 g0_y_0), (string g0_y_1), (int .i64 g0_y_2), (string g0_y_3), (int .i64 g0_y_4)]), (pointer (some g1_x))] h Q
def S_ssi_Ssi_clean_1 (g0_x : Int) (g1_x : Addr) (h : Hp) (Q : PQ) : Prop := Fn PP 115 #[(int .i64 g0_x), (pointer (some g1_x))] h Q
def S_siread_Table_Drop_1 (g0_x_0 : Int) (g0_x_1 : ByteArray) (g0_x_2 : Int) (g0_x_3 : ByteArray) (g0_x_4 : Int) (h : Hp) (Q : PQ) : Prop := Fn PP 119 #[(agg #[(int .i64 g0_x_0), (string g0_x_1), (int .i64 g0_x_2), (string g0_x_3), (int .i64 g0_x_4)])] h Q
def S_edge_Edges_Drop_1 (g0_x_0 : Int) (g0_x_1 : Int) (g1_x : Int) (g2_x : Addr) (h : Hp) (Q : PQ) : Prop := Fn PP 121 #[(agg #[(int .i64 g0_x_0), (int .i64 g0_x_1)]), (int .i64 g1_x), (pointer (some g2_x))] h Q
def S_siread_Table_take_1 (g0_y_0 : Int) (g0_y_1 : ByteArray) (g0_y_2 : Int) (g0_y_3 : ByteArray) (g0_y_4 : Int) (g1_x : Addr) (h : Hp) (Q : PQ) : Prop := Fn PP 150 #[(agg #[(int .i64 g0_y_0), (string g0_y_1), (int .i64 g0_y_2), (string g0_y_3), (int .i64 g0_y_4)]), (pointer (some g1_x))] h Q
def F_siread_New (g0_each : Int) (g1_all : Int) (h : Hp) (Q : PQ) : Prop :=
∀ J1 : PQ, (∀ b2 : Bool, ∀ h3 : Hp, ((if b2 = true then
 (Q [(pointer none), (int .i64 1)] h3) else
 (wth (Array.push h3 (Obj.map #[] 0)) fun h4 =>
 wth (Array.push h4 (Obj.cells #[(int .i64 g0_each), (int .i64 g1_all), (map (some h3.size)), (int .i64 0), (int .i64 0)] T_siread_Table)) fun h5 =>
 Q [(pointer (some (mk h4.size 0 none))), (int .i64 0)] h5))) → J1 [(bool b2)] h3) →
(if (decide (g0_each < (1 : Int))) = true then (J1 [(bool true)] h) else
 ((if (decide (g0_each > 10000)) = true then (J1 [(bool true)] h) else
 ((if (decide (g1_all < (1 : Int))) = true then (J1 [(bool true)] h) else
 (J1 [(bool (decide (g1_all > 10000)))] h))))))
def A_siread_New : Ann := (.mk none ⟨[], []⟩ .nil (.mk none ⟨[], []⟩ (.mk none ⟨[], []⟩ (.mk (some ⟨[0, 1], [(19, (.c .bool))]⟩) ⟨[], []⟩ .nil .nil) .nil) .nil))
theorem E_siread_New (g0_each : Int) (g1_all : Int) (h : Hp) (Q : PQ) : eW 25 Tryz.f74 A_siread_New [(int .i64 g0_each), (int .i64 g1_all)] h Q = F_siread_New g0_each g1_all h Q := by kernel_rfl
theorem O_siread_New (g0_each : Int) (g1_all : Int) {h : Hp} {Q : PQ} (H : F_siread_New g0_each g1_all h Q) : S_siread_New g0_each g1_all h Q :=
 fo Tryz.func74 (E_siread_New g0_each g1_all h Q) H
def F_edge_New (g0_l : Option Addr) (h : Hp) (Q : PQ) : Prop :=
wth (Array.push h (Obj.map #[] 0)) fun h1 =>
wth (Array.push h1 (Obj.map #[] 0)) fun h2 =>
wth (Array.push h2 (Obj.cells #[(pointer g0_l), (map (some h.size)), (map (some h1.size))] T_edge_Edges)) fun h3 =>
Q [(pointer (some (mk h2.size 0 none)))] h3
def A_edge_New : Ann := .nil
theorem E_edge_New (g0_l : Option Addr) (h : Hp) (Q : PQ) : eW 8 Tryz.f75 A_edge_New [(pointer g0_l)] h Q = F_edge_New g0_l h Q := by kernel_rfl
theorem O_edge_New (g0_l : Option Addr) {h : Hp} {Q : PQ} (H : F_edge_New g0_l h Q) : S_edge_New g0_l h Q :=
 fo Tryz.func75 (E_edge_New g0_l h Q) H
def F_ssi_New (g0_l : Option Addr) (g1_each : Int) (g2_all : Int) (g3_keep : Int) (h : Hp) (Q : PQ) : Prop :=
∀ J1 : PQ, (∀ b2 : Bool, ∀ h3 : Hp, ((if b2 = true then
 (Q [(pointer none), (int .i64 1)] h3) else
 (S_siread_New g1_each g2_all h3 fun vs4 h5 =>
 ∃ p6, ∃ n7, vs4 = [(pointer p6), (int .i64 n7)] ∧
 (if (n7 != 0) = true then
 (Q [(pointer none), (int .i64 n7)] h5) else
 (S_edge_New g0_l h5 fun vs8 h9 =>
 ∃ p10, vs8 = [(pointer p10)] ∧
 wth (Array.push h9 (Obj.map #[] 0)) fun h11 =>
 wth (Array.push h11 (Obj.map #[] 0)) fun h12 =>
 wth (Array.push h12 (Obj.cells #[(pointer g0_l), (pointer p6), (pointer p10), (int .i64 g3_keep), (slice none 0 0), (map (some h9.size)), (map (some h11.size))] T_ssi_Ssi)) fun h13 =>
 Q [(pointer (some (mk h12.size 0 none))), (int .i64 0)] h13))))) → J1 [(bool b2)] h3) →
(if (Option.isNone g0_l) = true then (J1 [(bool true)] h) else
 ((if (decide (g3_keep < (0 : Int))) = true then (J1 [(bool true)] h) else
 (J1 [(bool (decide (g3_keep > 1000)))] h))))
def A_ssi_New : Ann := (.mk none ⟨[], []⟩ .nil (.mk none ⟨[], []⟩ (.mk none ⟨[], []⟩ (.mk (some ⟨[0, 1, 2, 3], [(21, (.c .bool))]⟩) ⟨[], []⟩ .nil .nil) .nil) .nil))
theorem E_ssi_New (g0_l : Option Addr) (g1_each : Int) (g2_all : Int) (g3_keep : Int) (h : Hp) (Q : PQ) : eW 40 Tryz.f25 A_ssi_New [(pointer g0_l), (int .i64 g1_each), (int .i64 g2_all), (int .i64 g3_keep)] h Q = F_ssi_New g0_l g1_each g2_all g3_keep h Q := by kernel_rfl
theorem O_ssi_New (g0_l : Option Addr) (g1_each : Int) (g2_all : Int) (g3_keep : Int) {h : Hp} {Q : PQ} (H : F_ssi_New g0_l g1_each g2_all g3_keep h Q) : S_ssi_New g0_l g1_each g2_all g3_keep h Q :=
 fo Tryz.func25 (E_ssi_New g0_l g1_each g2_all g3_keep h Q) H
def F_ssi_Ssi_Log (g0_s : Option Addr) (h : Hp) (Q : PQ) : Prop :=
(if (Option.isNone g0_s) = true then
 (Q [(pointer none)] h) else
 (nilW g0_s fun a1 => ∃ p2, rd h (add a1 0) = some (pointer p2) ∧
 Q [(pointer p2)] h))
def A_ssi_Ssi_Log : Ann := .nil
theorem E_ssi_Ssi_Log (g0_s : Option Addr) (h : Hp) (Q : PQ) : eW 9 Tryz.f29 A_ssi_Ssi_Log [(pointer g0_s)] h Q = F_ssi_Ssi_Log g0_s h Q := by kernel_rfl
theorem O_ssi_Ssi_Log (g0_s : Option Addr) {h : Hp} {Q : PQ} (H : F_ssi_Ssi_Log g0_s h Q) : S_ssi_Ssi_Log g0_s h Q :=
 fo Tryz.func29 (E_ssi_Ssi_Log g0_s h Q) H
def F_clog_New (h : Hp) (Q : PQ) : Prop :=
wth (Array.push h (Obj.cells (zc PP T_clog_Log) T_clog_Log)) fun h1 =>
Q [(pointer (some (mk h.size 0 none)))] h1
def A_clog_New : Ann := .nil
theorem E_clog_New (h : Hp) (Q : PQ) : eW 3 Tryz.f39 A_clog_New [] h Q = F_clog_New h Q := by kernel_rfl
theorem O_clog_New {h : Hp} {Q : PQ} (H : F_clog_New h Q) : S_clog_New h Q :=
 fo Tryz.func39 (E_clog_New h Q) H
def F_liverylaw15_Made (g0_each : Int) (g1_all : Int) (g2_keep : Int) (h : Hp) (Q : PQ) : Prop :=
S_clog_New  h fun vs1 h2 =>
∃ p3, vs1 = [(pointer p3)] ∧
S_ssi_New p3 g0_each g1_all g2_keep h2 fun vs4 h5 =>
∃ p6, ∃ n7, vs4 = [(pointer p6), (int .i64 n7)] ∧
(if (n7 == 0) = true then ((if (!(Option.isNone p6)) = true then ((if (!(Option.isNone p3)) = true then (S_ssi_Ssi_Log p6 h5 fun vs8 h9 =>
 ∃ p10, vs8 = [(pointer p10)] ∧
 ptrW true p10 p3 fun (b11 : Bool) =>
 Q [(pointer p6), (pointer p3), (bool b11)] h9) else
 (Q [(pointer p6), (pointer p3), (bool false)] h5))) else
 (Q [(pointer p6), (pointer p3), (bool false)] h5))) else
 (Q [(pointer p6), (pointer p3), (bool false)] h5))
def A_liverylaw15_Made : Ann := .nil
theorem E_liverylaw15_Made (g0_each : Int) (g1_all : Int) (g2_keep : Int) (h : Hp) (Q : PQ) : eW 39 Tryz.f11 A_liverylaw15_Made [(int .i64 g0_each), (int .i64 g1_all), (int .i64 g2_keep)] h Q = F_liverylaw15_Made g0_each g1_all g2_keep h Q := by kernel_rfl
theorem O_liverylaw15_Made (g0_each : Int) (g1_all : Int) (g2_keep : Int) {h : Hp} {Q : PQ} (H : F_liverylaw15_Made g0_each g1_all g2_keep h Q) : S_liverylaw15_Made g0_each g1_all g2_keep h Q :=
 fo Tryz.func11 (E_liverylaw15_Made g0_each g1_all g2_keep h Q) H
def F_clog_Log_Running (g0_l : Option Addr) (h : Hp) (Q : PQ) : Prop :=
∀ X1 : PQ, (∀ l2 : Sl, ∀ n3 : Int, ∀ h4 : Hp, (∀ J5 : PQ, (∀ b6 : Bool, ∀ h7 : Hp, ((if b6 = true then
 (∀ J8 : PQ, (∀ l9 : Sl, ∀ h10 : Hp, (X1 [(slice l9.a l9.n l9.c), (int .i64 (IntKind.wrap .i64 (n3 + 1)))] h10) → J8 [(slice l9.a l9.n l9.c)] h10) →
 nilW g0_l fun a11 => ixOk n3 201 (∃ n12, rd h7 (add (add (add a11 0) (Int.toNat n3 * 4)) 0) = some (int .i64 n12) ∧
 (if (n12 == 1) = true then
 (wth (Array.push h7 (Obj.cells #[(int .i64 n3)] T_int)) fun h13 =>
 ∃ cs16 : List Value, cellsAt h13 (some (mk h7.size 0 none)) (1 * 1) cs16 ∧ appS PP T_int 8 1 h13 ⟨l2.a, l2.n, l2.c⟩ 1 cs16 fun (l14 : Sl) (h15 : Hp) =>
 J8 [(slice l14.a l14.n l14.c)] h15) else
 (J8 [(slice l2.a l2.n l2.c)] h7)))) else
 (Q [(slice l2.a l2.n l2.c)] h7))) → J5 [(bool b6)] h7) →
 (if (!(Option.isNone g0_l)) = true then (nilW g0_l fun a17 => ∃ n18, rd h4 (add a17 804) = some (int .i64 n18) ∧
 J5 [(bool (decide (n3 ≤ n18)))] h4) else
 (J5 [(bool false)] h4))) → X1 [(slice l2.a l2.n l2.c), (int .i64 n3)] h4) →
X1 [(slice none 0 0), (int .i64 1)] h
def A_clog_Log_Running : Ann := (.mk none ⟨[], []⟩ .nil (.mk none ⟨[], []⟩ .nil (.mk none ⟨[], []⟩ (.mk none ⟨[], []⟩ .nil (.mk none ⟨[], []⟩ (.mk none ⟨[0], [(3, (.c .sl)), (4, (.c (.int .i64)))]⟩ (.mk none ⟨[], []⟩ (.mk none ⟨[], []⟩ (.mk (some ⟨[0, 3, 4], [(14, (.c .bool))]⟩) ⟨[], []⟩ .nil .nil) .nil) (.mk none ⟨[], []⟩ (.mk (some ⟨[0, 4], [(3, (.c .sl))]⟩) ⟨[], []⟩ .nil .nil) .nil)) .nil) .nil)) .nil)))
theorem E_clog_Log_Running (g0_l : Option Addr) (h : Hp) (Q : PQ) : eW 30 Tryz.f38 A_clog_Log_Running [(pointer g0_l)] h Q = F_clog_Log_Running g0_l h Q := by kernel_rfl
theorem O_clog_Log_Running (g0_l : Option Addr) {h : Hp} {Q : PQ} (H : F_clog_Log_Running g0_l h Q) : S_clog_Log_Running g0_l h Q :=
 fo Tryz.func38 (E_clog_Log_Running g0_l h Q) H
def F_slices_IndexFunc_sint_int (g0_s : Sl) (g1_f_f : Nat) (g1_f_c : Array Value) (h : Hp) (Q : PQ) : Prop :=
∀ X1 : PQ, (∀ n2 : Int, ∀ h3 : Hp, ((if (decide (n2 < (g0_s.n : Int))) = true then
 (nilW g0_s.a fun a4 => ixOk n2 g0_s.n (∃ n5, rd h3 (add a4 (Int.toNat n2 * 1)) = some (int .i64 n5) ∧
 Fn PP g1_f_f ((#[] ++ #[(int .i64 n5)]) ++ g1_f_c) h3 fun vs6 h7 =>
 ∃ b8, vs6 = [(bool b8)] ∧
 (if b8 = true then
 (Q [(int .i64 n2)] h7) else
 (X1 [(int .i64 (IntKind.wrap .i64 (n2 + 1)))] h7)))) else
 (Q [(int .i64 (-1 : Int))] h3))) → X1 [(int .i64 n2)] h3) →
X1 [(int .i64 0)] h
def A_slices_IndexFunc_sint_int : Ann := (.mk none ⟨[], []⟩ .nil (.mk none ⟨[], []⟩ (.mk none ⟨[], []⟩ .nil (.mk none ⟨[], []⟩ (.mk none ⟨[0, 1, 7], [(8, (.c (.int .i64)))]⟩ .nil .nil) .nil)) .nil))
theorem E_slices_IndexFunc_sint_int (g0_s : Sl) (g1_f_f : Nat) (g1_f_c : Array Value) (h : Hp) (Q : PQ) : eW 19 Tryz.f103 A_slices_IndexFunc_sint_int [(slice g0_s.a g0_s.n g0_s.c), (Value.func (.func g1_f_f) #[] g1_f_c)] h Q = F_slices_IndexFunc_sint_int g0_s g1_f_f g1_f_c h Q := by kernel_rfl
theorem O_slices_IndexFunc_sint_int (g0_s : Sl) (g1_f_f : Nat) (g1_f_c : Array Value) {h : Hp} {Q : PQ} (H : F_slices_IndexFunc_sint_int g0_s g1_f_f g1_f_c h Q) : S_slices_IndexFunc_sint_int g0_s g1_f_f g1_f_c h Q :=
 fo Tryz.func103 (E_slices_IndexFunc_sint_int g0_s g1_f_f g1_f_c h Q) H
def F_slices_ContainsFunc_sint_int (g0_s : Sl) (g1_f_f : Nat) (g1_f_c : Array Value) (h : Hp) (Q : PQ) : Prop :=
S_slices_IndexFunc_sint_int ⟨g0_s.a, g0_s.n, g0_s.c⟩ g1_f_f g1_f_c h fun vs1 h2 =>
∃ n3, vs1 = [(int .i64 n3)] ∧
Q [(bool (decide (n3 ≥ 0)))] h2
def A_slices_ContainsFunc_sint_int : Ann := .nil
theorem E_slices_ContainsFunc_sint_int (g0_s : Sl) (g1_f_f : Nat) (g1_f_c : Array Value) (h : Hp) (Q : PQ) : eW 9 Tryz.f51 A_slices_ContainsFunc_sint_int [(slice g0_s.a g0_s.n g0_s.c), (Value.func (.func g1_f_f) #[] g1_f_c)] h Q = F_slices_ContainsFunc_sint_int g0_s g1_f_f g1_f_c h Q := by kernel_rfl
theorem O_slices_ContainsFunc_sint_int (g0_s : Sl) (g1_f_f : Nat) (g1_f_c : Array Value) {h : Hp} {Q : PQ} (H : F_slices_ContainsFunc_sint_int g0_s g1_f_f g1_f_c h Q) : S_slices_ContainsFunc_sint_int g0_s g1_f_f g1_f_c h Q :=
 fo Tryz.func51 (E_slices_ContainsFunc_sint_int g0_s g1_f_f g1_f_c h Q) H
def F_clog_Log_Begin (g0_l : Option Addr) (g1_reads : Bool) (h : Hp) (Q : PQ) : Prop :=
(if (Option.isNone g0_l) = true then
 (Q [(int .i64 0), (int .i64 1)] h) else
 (nilW g0_l fun a1 => ∃ n2, rd h (add a1 804) = some (int .i64 n2) ∧
 (if (n2 == 200) = true then
 (Q [(int .i64 0), (int .i64 74)] h) else
 (nilW g0_l fun a3 => ∃ n4, rd h (add a3 804) = some (int .i64 n4) ∧
 nilW g0_l fun a5 => stOk h (add a5 804) 1 ∧ wth (wrs h (add a5 804) 0 [(int .i64 (IntKind.wrap .i64 (n4 + 1)))]) fun h6 =>
 nilW g0_l fun a7 => ∃ n8, rd h6 (add a7 804) = some (int .i64 n8) ∧
 nilW g0_l fun a9 => ∃ n10, rd h6 (add a9 805) = some (int .i64 n10) ∧
 nilW g0_l fun a11 => ixOk n8 201 (stOk h6 (add (add a11 0) (Int.toNat n8 * 4)) 4 ∧ wth (wrs h6 (add (add a11 0) (Int.toNat n8 * 4)) 0 [(int .i64 1), (int .i64 0), (int .i64 n10), (bool g1_reads)]) fun h12 =>
 nilW g0_l fun a13 => ∃ n14, rd h12 (add a13 804) = some (int .i64 n14) ∧
 Q [(int .i64 n14), (int .i64 0)] h12)))))
def A_clog_Log_Begin : Ann := .nil
theorem E_clog_Log_Begin (g0_l : Option Addr) (g1_reads : Bool) (h : Hp) (Q : PQ) : eW 40 Tryz.f53 A_clog_Log_Begin [(pointer g0_l), (bool g1_reads)] h Q = F_clog_Log_Begin g0_l g1_reads h Q := by kernel_rfl
theorem O_clog_Log_Begin (g0_l : Option Addr) (g1_reads : Bool) {h : Hp} {Q : PQ} (H : F_clog_Log_Begin g0_l g1_reads h Q) : S_clog_Log_Begin g0_l g1_reads h Q :=
 fo Tryz.func53 (E_clog_Log_Begin g0_l g1_reads h Q) H
def F_ssi_Ssi_Begin (g0_s : Option Addr) (g1_reads : Bool) (h : Hp) (Q : PQ) : Prop :=
wth (Array.push h (Obj.cells #[(pointer g0_s)] T_pssi_Ssi)) fun h1 =>
∃ p2, rd h1 (mk h.size 0 none) = some (pointer p2) ∧
(if (Option.isNone p2) = true then
 (Q [(int .i64 0), (int .i64 1)] h1) else
 (∃ p3, rd h1 (mk h.size 0 none) = some (pointer p3) ∧
 nilW p3 fun a4 => ∃ p5, rd h1 (add a4 0) = some (pointer p5) ∧
 S_clog_Log_Running p5 h1 fun vs6 h7 =>
 ∃ l8 : Sl, vs6 = [(slice l8.a l8.n l8.c)] ∧
 S_slices_ContainsFunc_sint_int ⟨l8.a, l8.n, l8.c⟩ 52 #[(pointer (some (mk h.size 0 none)))] h7 fun vs9 h10 =>
 ∃ b11, vs9 = [(bool b11)] ∧
 ∃ p12, rd h10 (mk h.size 0 none) = some (pointer p12) ∧
 nilW p12 fun a13 => ∃ p14, rd h10 (add a13 0) = some (pointer p14) ∧
 S_clog_Log_Begin p14 g1_reads h10 fun vs15 h16 =>
 ∃ n17, ∃ n18, vs15 = [(int .i64 n17), (int .i64 n18)] ∧
 ∀ J19 : PQ, (∀ b20 : Bool, ∀ h21 : Hp, (∀ J22 : PQ, (∀ h23 : Hp, (Q [(int .i64 n17), (int .i64 n18)] h23) → J22 [] h23) →
 (if b20 = true then
 (∃ p24, rd h21 (mk h.size 0 none) = some (pointer p24) ∧
 nilW p24 fun a25 => ∃ r26 : Option Nat, rd h21 (add a25 6) = some (map r26) ∧
 ∃ es27 : Array MapEntry, mapAt h21 r26 es27 ∧ KeysLike (int .i64 n17) es27 ∧ ∃ n28, mgetD (int .i64 n17) es27 (int .i64 0) = (int .i64 n28) ∧
 ∃ (m30 : Nat) (es31 : Array MapEntry) (c32 : Nat), r26 = some m30 ∧ h21[m30]? = some (.map es31 c32) ∧ KeysLike (int .i64 n17) es31 ∧ wth (Array.setIfInBounds h21 m30 (mput (int .i64 n17) (int .i64 (IntKind.wrap .i64 (n28 + 1))) es31 c32)) fun h33 =>
 J22 [] h33) else
 (J22 [] h21))) → J19 [(bool b20)] h21) →
 (if (n18 == 0) = true then ((if g1_reads = true then (J19 [(bool (!b11))] h16) else
 (J19 [(bool false)] h16))) else
 (J19 [(bool false)] h16))))
def A_ssi_Ssi_Begin : Ann := (.mk none ⟨[], []⟩ .nil (.mk none ⟨[], []⟩ .nil (.mk none ⟨[], []⟩ .nil (.mk none ⟨[], []⟩ .nil (.mk none ⟨[], []⟩ (.mk none ⟨[], []⟩ (.mk (some ⟨[2, 7, 8], [(35, (.c .bool))]⟩) ⟨[], []⟩ .nil .nil) (.mk (some ⟨[7, 8], []⟩) ⟨[], []⟩ .nil .nil)) .nil)))))
theorem E_ssi_Ssi_Begin (g0_s : Option Addr) (g1_reads : Bool) (h : Hp) (Q : PQ) : eW 45 Tryz.f13 A_ssi_Ssi_Begin [(pointer g0_s), (bool g1_reads)] h Q = F_ssi_Ssi_Begin g0_s g1_reads h Q := by kernel_rfl
theorem O_ssi_Ssi_Begin (g0_s : Option Addr) (g1_reads : Bool) {h : Hp} {Q : PQ} (H : F_ssi_Ssi_Begin g0_s g1_reads h Q) : S_ssi_Ssi_Begin g0_s g1_reads h Q :=
 fo Tryz.func13 (E_ssi_Ssi_Begin g0_s g1_reads h Q) H
def F_clog_Log_get (g0_l : Option Addr) (g1_xid : Int) (h : Hp) (Q : PQ) : Prop :=
∀ J1 : PQ, (∀ b2 : Bool, ∀ h3 : Hp, ((if b2 = true then
 (Q [(pointer none)] h3) else
 (nilW g0_l fun a4 => ixOk g1_xid 201 (Q [(pointer (some (add (add a4 0) (Int.toNat g1_xid * 4))))] h3)))) → J1 [(bool b2)] h3) →
(if (Option.isNone g0_l) = true then (J1 [(bool true)] h) else
 ((if (decide (g1_xid < (1 : Int))) = true then (J1 [(bool true)] h) else
 (nilW g0_l fun a5 => ∃ n6, rd h (add a5 804) = some (int .i64 n6) ∧
 J1 [(bool (decide (g1_xid > n6)))] h))))
def A_clog_Log_get : Ann := (.mk none ⟨[], []⟩ .nil (.mk none ⟨[], []⟩ (.mk none ⟨[], []⟩ (.mk (some ⟨[0, 1], [(18, (.c .bool))]⟩) ⟨[], []⟩ .nil .nil) .nil) .nil))
theorem E_clog_Log_get (g0_l : Option Addr) (g1_xid : Int) (h : Hp) (Q : PQ) : eW 24 Tryz.f67 A_clog_Log_get [(pointer g0_l), (int .i64 g1_xid)] h Q = F_clog_Log_get g0_l g1_xid h Q := by kernel_rfl
theorem O_clog_Log_get (g0_l : Option Addr) (g1_xid : Int) {h : Hp} {Q : PQ} (H : F_clog_Log_get g0_l g1_xid h Q) : S_clog_Log_get g0_l g1_xid h Q :=
 fo Tryz.func67 (E_clog_Log_get g0_l g1_xid h Q) H
def F_clog_Log_one (g0_l : Option Addr) (g1_xid : Int) (h : Hp) (Q : PQ) : Prop :=
wth (Array.push h (Obj.cells #[(int .i64 0), (int .i64 0), (int .i64 0), (bool false)] T_clog_tx)) fun h1 =>
S_clog_Log_get g0_l g1_xid h1 fun vs2 h3 =>
∃ p4, vs2 = [(pointer p4)] ∧
(if (!(Option.isNone p4)) = true then
 (nilW p4 fun a5 => ∃ n6, rd h3 (add a5 0) = some (int .i64 n6) ∧ ∃ n7, rd h3 (add a5 1) = some (int .i64 n7) ∧ ∃ n8, rd h3 (add a5 2) = some (int .i64 n8) ∧ ∃ b9, rd h3 (add a5 3) = some (bool b9) ∧ stOk h3 (mk h.size 0 none) 4 ∧ wth (wrs h3 (mk h.size 0 none) 0 [(int .i64 n6), (int .i64 n7), (int .i64 n8), (bool b9)]) fun h10 =>
 ∃ n11, rd h10 (add (mk h.size 0 none) 0) = some (int .i64 n11) ∧ ∃ n12, rd h10 (add (mk h.size 0 none) 1) = some (int .i64 n12) ∧ ∃ n13, rd h10 (add (mk h.size 0 none) 2) = some (int .i64 n13) ∧ ∃ b14, rd h10 (add (mk h.size 0 none) 3) = some (bool b14) ∧ Q [(agg #[(int .i64 n11), (int .i64 n12), (int .i64 n13), (bool b14)])] h10) else
 (stOk h3 (mk h.size 0 none) 4 ∧ wth (wrs h3 (mk h.size 0 none) 0 [(int .i64 0), (int .i64 0), (int .i64 0), (bool false)]) fun h15 =>
 ∃ n16, rd h15 (add (mk h.size 0 none) 0) = some (int .i64 n16) ∧ ∃ n17, rd h15 (add (mk h.size 0 none) 1) = some (int .i64 n17) ∧ ∃ n18, rd h15 (add (mk h.size 0 none) 2) = some (int .i64 n18) ∧ ∃ b19, rd h15 (add (mk h.size 0 none) 3) = some (bool b19) ∧ Q [(agg #[(int .i64 n16), (int .i64 n17), (int .i64 n18), (bool b19)])] h15))
def A_clog_Log_one : Ann := .nil
theorem E_clog_Log_one (g0_l : Option Addr) (g1_xid : Int) (h : Hp) (Q : PQ) : eW 15 Tryz.f63 A_clog_Log_one [(pointer g0_l), (int .i64 g1_xid)] h Q = F_clog_Log_one g0_l g1_xid h Q := by kernel_rfl
theorem O_clog_Log_one (g0_l : Option Addr) (g1_xid : Int) {h : Hp} {Q : PQ} (H : F_clog_Log_one g0_l g1_xid h Q) : S_clog_Log_one g0_l g1_xid h Q :=
 fo Tryz.func63 (E_clog_Log_one g0_l g1_xid h Q) H
def F_clog_Log_State (g0_l : Option Addr) (g1_xid : Int) (h : Hp) (Q : PQ) : Prop :=
S_clog_Log_one g0_l g1_xid h fun vs1 h2 =>
∃ n3, ∃ n4, ∃ n5, ∃ b6, vs1 = [(agg #[(int .i64 n3), (int .i64 n4), (int .i64 n5), (bool b6)])] ∧
Q [(int .i64 n3)] h2
def A_clog_Log_State : Ann := .nil
theorem E_clog_Log_State (g0_l : Option Addr) (g1_xid : Int) (h : Hp) (Q : PQ) : eW 9 Tryz.f17 A_clog_Log_State [(pointer g0_l), (int .i64 g1_xid)] h Q = F_clog_Log_State g0_l g1_xid h Q := by kernel_rfl
theorem O_clog_Log_State (g0_l : Option Addr) (g1_xid : Int) {h : Hp} {Q : PQ} (H : F_clog_Log_State g0_l g1_xid h Q) : S_clog_Log_State g0_l g1_xid h Q :=
 fo Tryz.func17 (E_clog_Log_State g0_l g1_xid h Q) H
def F_ssi_Ssi_runs (g0_s : Option Addr) (g1_xid : Int) (h : Hp) (Q : PQ) : Prop :=
(if (!(Option.isNone g0_s)) = true then (nilW g0_s fun a1 => ∃ p2, rd h (add a1 0) = some (pointer p2) ∧
 S_clog_Log_State p2 g1_xid h fun vs3 h4 =>
 ∃ n5, vs3 = [(int .i64 n5)] ∧
 Q [(bool (n5 == 1))] h4) else
 (Q [(bool false)] h))
def A_ssi_Ssi_runs : Ann := .nil
theorem E_ssi_Ssi_runs (g0_s : Option Addr) (g1_xid : Int) (h : Hp) (Q : PQ) : eW 16 Tryz.f54 A_ssi_Ssi_runs [(pointer g0_s), (int .i64 g1_xid)] h Q = F_ssi_Ssi_runs g0_s g1_xid h Q := by kernel_rfl
theorem O_ssi_Ssi_runs (g0_s : Option Addr) (g1_xid : Int) {h : Hp} {Q : PQ} (H : F_ssi_Ssi_runs g0_s g1_xid h Q) : S_ssi_Ssi_runs g0_s g1_xid h Q :=
 fo Tryz.func54 (E_ssi_Ssi_runs g0_s g1_xid h Q) H
def F_siread_one (g0_xid : Int) (h : Hp) (Q : PQ) : Prop :=
(if (decide (g0_xid ≥ 1)) = true then (Q [(bool (decide (g0_xid ≤ (200 : Int))))] h) else
 (Q [(bool false)] h))
def A_siread_one : Ann := .nil
theorem E_siread_one (g0_xid : Int) (h : Hp) (Q : PQ) : eW 9 Tryz.f104 A_siread_one [(int .i64 g0_xid)] h Q = F_siread_one g0_xid h Q := by kernel_rfl
theorem O_siread_one (g0_xid : Int) {h : Hp} {Q : PQ} (H : F_siread_one g0_xid h Q) : S_siread_one g0_xid h Q :=
 fo Tryz.func104 (E_siread_one g0_xid h Q) H
def F_siread_Thing_fine (g0_x_0 : Int) (g0_x_1 : ByteArray) (g0_x_2 : Int) (g0_x_3 : ByteArray) (g0_x_4 : Int) (h : Hp) (Q : PQ) : Prop :=
wth (Array.push h (Obj.cells #[(int .i64 g0_x_0), (string g0_x_1), (int .i64 g0_x_2), (string g0_x_3), (int .i64 g0_x_4)] T_siread_Thing)) fun h1 =>
∃ n2, rd h1 (add (mk h.size 0 none) 0) = some (int .i64 n2) ∧
(if (n2 == 3) = true then (Q [(bool true)] h1) else
 (∃ n3, rd h1 (add (mk h.size 0 none) 0) = some (int .i64 n3) ∧
 Q [(bool (n3 == 4))] h1))
def A_siread_Thing_fine : Ann := .nil
theorem E_siread_Thing_fine (g0_x_0 : Int) (g0_x_1 : ByteArray) (g0_x_2 : Int) (g0_x_3 : ByteArray) (g0_x_4 : Int) (h : Hp) (Q : PQ) : eW 11 Tryz.f108 A_siread_Thing_fine [(agg #[(int .i64 g0_x_0), (string g0_x_1), (int .i64 g0_x_2), (string g0_x_3), (int .i64 g0_x_4)])] h Q = F_siread_Thing_fine g0_x_0 g0_x_1 g0_x_2 g0_x_3 g0_x_4 h Q := by kernel_rfl
theorem O_siread_Thing_fine (g0_x_0 : Int) (g0_x_1 : ByteArray) (g0_x_2 : Int) (g0_x_3 : ByteArray) (g0_x_4 : Int) {h : Hp} {Q : PQ} (H : F_siread_Thing_fine g0_x_0 g0_x_1 g0_x_2 g0_x_3 g0_x_4 h Q) : S_siread_Thing_fine g0_x_0 g0_x_1 g0_x_2 g0_x_3 g0_x_4 h Q :=
 fo Tryz.func108 (E_siread_Thing_fine g0_x_0 g0_x_1 g0_x_2 g0_x_3 g0_x_4 h Q) H
def F_siread_Thing_rel (g0_x_0 : Int) (g0_x_1 : ByteArray) (g0_x_2 : Int) (g0_x_3 : ByteArray) (g0_x_4 : Int) (h : Hp) (Q : PQ) : Prop :=
wth (Array.push h (Obj.cells #[(int .i64 g0_x_0), (string g0_x_1), (int .i64 g0_x_2), (string g0_x_3), (int .i64 g0_x_4)] T_siread_Thing)) fun h1 =>
wth (Array.push h1 (Obj.cells #[(int .i64 0), (string (ByteArray.mk #[])), (int .i64 0), (string (ByteArray.mk #[])), (int .i64 0)] T_siread_Thing)) fun h2 =>
∃ n3, rd h2 (add (mk h.size 0 none) 2) = some (int .i64 n3) ∧
stOk h2 (mk h1.size 0 none) 5 ∧ wth (wrs h2 (mk h1.size 0 none) 0 [(int .i64 2), (string (ByteArray.mk #[])), (int .i64 n3), (string (ByteArray.mk #[])), (int .i64 0)]) fun h4 =>
∃ n5, rd h4 (add (mk h1.size 0 none) 0) = some (int .i64 n5) ∧ ∃ s6, rd h4 (add (mk h1.size 0 none) 1) = some (string s6) ∧ ∃ n7, rd h4 (add (mk h1.size 0 none) 2) = some (int .i64 n7) ∧ ∃ s8, rd h4 (add (mk h1.size 0 none) 3) = some (string s8) ∧ ∃ n9, rd h4 (add (mk h1.size 0 none) 4) = some (int .i64 n9) ∧ Q [(agg #[(int .i64 n5), (string s6), (int .i64 n7), (string s8), (int .i64 n9)])] h4
def A_siread_Thing_rel : Ann := .nil
theorem E_siread_Thing_rel (g0_x_0 : Int) (g0_x_1 : ByteArray) (g0_x_2 : Int) (g0_x_3 : ByteArray) (g0_x_4 : Int) (h : Hp) (Q : PQ) : eW 6 Tryz.f109 A_siread_Thing_rel [(agg #[(int .i64 g0_x_0), (string g0_x_1), (int .i64 g0_x_2), (string g0_x_3), (int .i64 g0_x_4)])] h Q = F_siread_Thing_rel g0_x_0 g0_x_1 g0_x_2 g0_x_3 g0_x_4 h Q := by kernel_rfl
theorem O_siread_Thing_rel (g0_x_0 : Int) (g0_x_1 : ByteArray) (g0_x_2 : Int) (g0_x_3 : ByteArray) (g0_x_4 : Int) {h : Hp} {Q : PQ} (H : F_siread_Thing_rel g0_x_0 g0_x_1 g0_x_2 g0_x_3 g0_x_4 h Q) : S_siread_Thing_rel g0_x_0 g0_x_1 g0_x_2 g0_x_3 g0_x_4 h Q :=
 fo Tryz.func109 (E_siread_Thing_rel g0_x_0 g0_x_1 g0_x_2 g0_x_3 g0_x_4 h Q) H
def F_slices_Collect_siread_Thing (g0_seq_f : Nat) (g0_seq_c : Array Value) (h : Hp) (Q : PQ) : Prop :=
S_slices_AppendSeq_ssiread_Thing_siread_Thing ⟨none, 0, 0⟩ g0_seq_f g0_seq_c h fun vs1 h2 =>
∃ l3 : Sl, vs1 = [(slice l3.a l3.n l3.c)] ∧
Q [(slice l3.a l3.n l3.c)] h2
def A_slices_Collect_siread_Thing : Ann := .nil
theorem E_slices_Collect_siread_Thing (g0_seq_f : Nat) (g0_seq_c : Array Value) (h : Hp) (Q : PQ) : eW 5 Tryz.f126 A_slices_Collect_siread_Thing [(Value.func (.func g0_seq_f) #[] g0_seq_c)] h Q = F_slices_Collect_siread_Thing g0_seq_f g0_seq_c h Q := by kernel_rfl
theorem O_slices_Collect_siread_Thing (g0_seq_f : Nat) (g0_seq_c : Array Value) {h : Hp} {Q : PQ} (H : F_slices_Collect_siread_Thing g0_seq_f g0_seq_c h Q) : S_slices_Collect_siread_Thing g0_seq_f g0_seq_c h Q :=
 fo Tryz.func126 (E_slices_Collect_siread_Thing g0_seq_f g0_seq_c h Q) H
def F_slices_SortedFunc_siread_Thing (g0_seq_f : Nat) (g0_seq_c : Array Value) (g1_cmp_f : Nat) (g1_cmp_c : Array Value) (h : Hp) (Q : PQ) : Prop :=
S_slices_Collect_siread_Thing g0_seq_f g0_seq_c h fun vs1 h2 =>
∃ l3 : Sl, vs1 = [(slice l3.a l3.n l3.c)] ∧
S_slices_SortFunc_ssiread_Thing_siread_Thing ⟨l3.a, l3.n, l3.c⟩ g1_cmp_f g1_cmp_c h2 fun vs4 h5 =>
vs4 = [] ∧
Q [(slice l3.a l3.n l3.c)] h5
def A_slices_SortedFunc_siread_Thing : Ann := .nil
theorem E_slices_SortedFunc_siread_Thing (g0_seq_f : Nat) (g0_seq_c : Array Value) (g1_cmp_f : Nat) (g1_cmp_c : Array Value) (h : Hp) (Q : PQ) : eW 12 Tryz.f76 A_slices_SortedFunc_siread_Thing [(Value.func (.func g0_seq_f) #[] g0_seq_c), (Value.func (.func g1_cmp_f) #[] g1_cmp_c)] h Q = F_slices_SortedFunc_siread_Thing g0_seq_f g0_seq_c g1_cmp_f g1_cmp_c h Q := by kernel_rfl
theorem O_slices_SortedFunc_siread_Thing (g0_seq_f : Nat) (g0_seq_c : Array Value) (g1_cmp_f : Nat) (g1_cmp_c : Array Value) {h : Hp} {Q : PQ} (H : F_slices_SortedFunc_siread_Thing g0_seq_f g0_seq_c g1_cmp_f g1_cmp_c h Q) : S_slices_SortedFunc_siread_Thing g0_seq_f g0_seq_c g1_cmp_f g1_cmp_c h Q :=
 fo Tryz.func76 (E_slices_SortedFunc_siread_Thing g0_seq_f g0_seq_c g1_cmp_f g1_cmp_c h Q) H
def F_maps_Keys_map_siread_Thing_int_siread_Thing_int (g0_m : Option Nat) (h : Hp) (Q : PQ) : Prop :=
wth (Array.push h (Obj.cells #[(map g0_m)] T_map_siread_Thing_int)) fun h1 =>
Q [(Value.func (.func 128) #[] #[(pointer (some (mk h.size 0 none)))])] h1
def A_maps_Keys_map_siread_Thing_int_siread_Thing_int : Ann := .nil
theorem E_maps_Keys_map_siread_Thing_int_siread_Thing_int (g0_m : Option Nat) (h : Hp) (Q : PQ) : eW 4 Tryz.f77 A_maps_Keys_map_siread_Thing_int_siread_Thing_int [(map g0_m)] h Q = F_maps_Keys_map_siread_Thing_int_siread_Thing_int g0_m h Q := by kernel_rfl
theorem O_maps_Keys_map_siread_Thing_int_siread_Thing_int (g0_m : Option Nat) {h : Hp} {Q : PQ} (H : F_maps_Keys_map_siread_Thing_int_siread_Thing_int g0_m h Q) : S_maps_Keys_map_siread_Thing_int_siread_Thing_int g0_m h Q :=
 fo Tryz.func77 (E_maps_Keys_map_siread_Thing_int_siread_Thing_int g0_m h Q) H
def F_siread_Table_Of (g0_t : Option Addr) (g1_xid : Int) (h : Hp) (Q : PQ) : Prop :=
(if (Option.isNone g0_t) = true then
 (Q [(slice none 0 0)] h) else
 (nilW g0_t fun a1 => ∃ r2 : Option Nat, rd h (add a1 2) = some (map r2) ∧
 ∃ es3 : Array MapEntry, mapAt h r2 es3 ∧ KeysLike (int .i64 g1_xid) es3 ∧ ∃ r4 : Option Nat, mgetD (int .i64 g1_xid) es3 (map none) = (map r4) ∧
 S_maps_Keys_map_siread_Thing_int_siread_Thing_int r4 h fun vs6 h7 =>
 ∃ f8 : Nat, ∃ cs9 : Array Value, vs6 = [(Value.func (.func f8) #[] cs9)] ∧
 S_slices_SortedFunc_siread_Thing f8 cs9 78 #[] h7 fun vs10 h11 =>
 ∃ l12 : Sl, vs10 = [(slice l12.a l12.n l12.c)] ∧
 Q [(slice l12.a l12.n l12.c)] h11))
def A_siread_Table_Of : Ann := .nil
theorem E_siread_Table_Of (g0_t : Option Addr) (g1_xid : Int) (h : Hp) (Q : PQ) : eW 15 Tryz.f30 A_siread_Table_Of [(pointer g0_t), (int .i64 g1_xid)] h Q = F_siread_Table_Of g0_t g1_xid h Q := by kernel_rfl
theorem O_siread_Table_Of (g0_t : Option Addr) (g1_xid : Int) {h : Hp} {Q : PQ} (H : F_siread_Table_Of g0_t g1_xid h Q) : S_siread_Table_Of g0_t g1_xid h Q :=
 fo Tryz.func30 (E_siread_Table_Of g0_t g1_xid h Q) H
def F_siread_Table_lose (g0_t : Option Addr) (g1_owner : Int) (g2_such_f : Nat) (g2_such_c : Array Value) (h : Hp) (Q : PQ) : Prop :=
S_siread_Table_Of g0_t g1_owner h fun vs1 h2 =>
∃ l3 : Sl, vs1 = [(slice l3.a l3.n l3.c)] ∧
∀ X4 : PQ, (∀ n5 : Int, ∀ h6 : Hp, ((if (decide (n5 < (l3.n : Int))) = true then
 (∀ J7 : PQ, (∀ h8 : Hp, (X4 [(int .i64 (IntKind.wrap .i64 (n5 + 1)))] h8) → J7 [] h8) →
 nilW l3.a fun a9 => ixOk n5 l3.n (∃ n10, rd h6 (add (add a9 (Int.toNat n5 * 5)) 0) = some (int .i64 n10) ∧ ∃ s11, rd h6 (add (add a9 (Int.toNat n5 * 5)) 1) = some (string s11) ∧ ∃ n12, rd h6 (add (add a9 (Int.toNat n5 * 5)) 2) = some (int .i64 n12) ∧ ∃ s13, rd h6 (add (add a9 (Int.toNat n5 * 5)) 3) = some (string s13) ∧ ∃ n14, rd h6 (add (add a9 (Int.toNat n5 * 5)) 4) = some (int .i64 n14) ∧ wth (Array.push h6 (Obj.cells #[(int .i64 0), (string (ByteArray.mk #[])), (int .i64 0), (string (ByteArray.mk #[])), (int .i64 0)] T_siread_Thing)) fun h15 =>
 stOk h15 (mk h6.size 0 none) 5 ∧ wth (wrs h15 (mk h6.size 0 none) 0 [(int .i64 n10), (string s11), (int .i64 n12), (string s13), (int .i64 n14)]) fun h16 =>
 ∃ n17, rd h16 (add (mk h6.size 0 none) 0) = some (int .i64 n17) ∧ ∃ s18, rd h16 (add (mk h6.size 0 none) 1) = some (string s18) ∧ ∃ n19, rd h16 (add (mk h6.size 0 none) 2) = some (int .i64 n19) ∧ ∃ s20, rd h16 (add (mk h6.size 0 none) 3) = some (string s20) ∧ ∃ n21, rd h16 (add (mk h6.size 0 none) 4) = some (int .i64 n21) ∧ Fn PP g2_such_f ((#[] ++ #[(agg #[(int .i64 n17), (string s18), (int .i64 n19), (string s20), (int .i64 n21)])]) ++ g2_such_c) h16 fun vs22 h23 =>
 ∃ b24, vs22 = [(bool b24)] ∧
 (if b24 = true then
 (nilW g0_t fun a25 => ∃ r26 : Option Nat, rd h23 (add a25 2) = some (map r26) ∧
 ∃ es27 : Array MapEntry, mapAt h23 r26 es27 ∧ KeysLike (int .i64 g1_owner) es27 ∧ ∃ r28 : Option Nat, mgetD (int .i64 g1_owner) es27 (map none) = (map r28) ∧
 ∃ n30, rd h23 (add (mk h6.size 0 none) 0) = some (int .i64 n30) ∧ ∃ s31, rd h23 (add (mk h6.size 0 none) 1) = some (string s31) ∧ ∃ n32, rd h23 (add (mk h6.size 0 none) 2) = some (int .i64 n32) ∧ ∃ s33, rd h23 (add (mk h6.size 0 none) 3) = some (string s33) ∧ ∃ n34, rd h23 (add (mk h6.size 0 none) 4) = some (int .i64 n34) ∧ ∃ (m35 : Nat) (es36 : Array MapEntry) (c37 : Nat), r28 = some m35 ∧ h23[m35]? = some (.map es36 c37) ∧ KeysLike (agg #[(int .i64 n30), (string s31), (int .i64 n32), (string s33), (int .i64 n34)]) es36 ∧ wth (Array.setIfInBounds h23 m35 (mdel (agg #[(int .i64 n30), (string s31), (int .i64 n32), (string s33), (int .i64 n34)]) es36 c37)) fun h38 =>
 ∃ n39, rd h38 (add (mk h6.size 0 none) 0) = some (int .i64 n39) ∧ ∃ s40, rd h38 (add (mk h6.size 0 none) 1) = some (string s40) ∧ ∃ n41, rd h38 (add (mk h6.size 0 none) 2) = some (int .i64 n41) ∧ ∃ s42, rd h38 (add (mk h6.size 0 none) 3) = some (string s42) ∧ ∃ n43, rd h38 (add (mk h6.size 0 none) 4) = some (int .i64 n43) ∧ S_siread_Thing_fine n39 s40 n41 s42 n43 h38 fun vs44 h45 =>
 ∃ b46, vs44 = [(bool b46)] ∧
 (if b46 = true then
 (nilW g0_t fun a47 => ∃ n48, rd h45 (add a47 3) = some (int .i64 n48) ∧
 nilW g0_t fun a49 => stOk h45 (add a49 3) 1 ∧ wth (wrs h45 (add a49 3) 0 [(int .i64 (IntKind.wrap .i64 (n48 - 1)))]) fun h50 =>
 J7 [] h50) else
 (J7 [] h45))) else
 (J7 [] h23)))) else
 (Q [] h6))) → X4 [(int .i64 n5)] h6) →
X4 [(int .i64 0)] h2
def A_siread_Table_lose : Ann := (.mk none ⟨[], []⟩ .nil (.mk none ⟨[], []⟩ (.mk none ⟨[0, 1, 2, 10, 11], [(12, (.c (.int .i64)))]⟩ (.mk none ⟨[], []⟩ .nil (.mk none ⟨[], []⟩ .nil (.mk none ⟨[], []⟩ (.mk (some ⟨[0, 1, 2, 10, 11, 12], []⟩) ⟨[], []⟩ .nil .nil) .nil))) .nil) .nil))
theorem E_siread_Table_lose (g0_t : Option Addr) (g1_owner : Int) (g2_such_f : Nat) (g2_such_c : Array Value) (h : Hp) (Q : PQ) : eW 36 Tryz.f118 A_siread_Table_lose [(pointer g0_t), (int .i64 g1_owner), (Value.func (.func g2_such_f) #[] g2_such_c)] h Q = F_siread_Table_lose g0_t g1_owner g2_such_f g2_such_c h Q := by kernel_rfl
theorem O_siread_Table_lose (g0_t : Option Addr) (g1_owner : Int) (g2_such_f : Nat) (g2_such_c : Array Value) {h : Hp} {Q : PQ} (H : F_siread_Table_lose g0_t g1_owner g2_such_f g2_such_c h Q) : S_siread_Table_lose g0_t g1_owner g2_such_f g2_such_c h Q :=
 fo Tryz.func118 (E_siread_Table_lose g0_t g1_owner g2_such_f g2_such_c h Q) H
def F_siread_Table_count (g0_t : Option Addr) (g1_owner : Int) (g2_rel : Int) (h : Hp) (Q : PQ) : Prop :=
nilW g0_t fun a1 => ∃ r2 : Option Nat, rd h (add a1 2) = some (map r2) ∧
∃ es3 : Array MapEntry, mapAt h r2 es3 ∧ KeysLike (int .i64 g1_owner) es3 ∧ ∃ r4 : Option Nat, mgetD (int .i64 g1_owner) es3 (map none) = (map r4) ∧
∃ o6 : Obj, IterOf h r4 o6 ∧ wth (Array.push h o6) fun h7 =>
∀ X8 : PQ, (∀ n9 : Int, ∀ h10 : Hp, ((Addr.off (mk h.size 0 none) = 0 ∧ ∃ o11 : Obj, h10[Addr.block (mk h.size 0 none)]? = some o11 ∧ IterGood h10 o11 ∧
 (IterEnd h10 o11 → Q [(int .i64 n9)] h10) ∧
 ∀ (k12 v13 : Value) (o14 : Obj), IterStep h10 o11 k12 v13 o14 → wth (Array.setIfInBounds h10 (Addr.block (mk h.size 0 none)) o14) fun h15 =>
 (Addr.off (mk h.size 0 none) = 0 ∧ ∃ (m16 n17 : Nat) (q18 : Array Nat) (n19 : Nat) (es20 : Array MapEntry) (c21 : Nat) (e22 : MapEntry), h15[Addr.block (mk h.size 0 none)]? = some (.mapIter (some m16) n17 q18 c21) ∧ Array.back? q18 = some n19 ∧ h15[m16]? = some (.map es20 c21) ∧ Array.find? (fun x => x.born == n19) es20 = some e22 ∧ ∃ n23, ∃ s24, ∃ n25, ∃ s26, ∃ n27, e22.key = (agg #[(int .i64 n23), (string s24), (int .i64 n25), (string s26), (int .i64 n27)]) ∧ ∃ v28 : Value, e22.val = v28 ∧ wth (Array.push h15 (Obj.cells #[(int .i64 0), (string (ByteArray.mk #[])), (int .i64 0), (string (ByteArray.mk #[])), (int .i64 0)] T_siread_Thing)) fun h29 =>
 stOk h29 (mk h15.size 0 none) 5 ∧ wth (wrs h29 (mk h15.size 0 none) 0 [(int .i64 n23), (string s24), (int .i64 n25), (string s26), (int .i64 n27)]) fun h30 =>
 ∀ J31 : PQ, (∀ b32 : Bool, ∀ h33 : Hp, ((if b32 = true then
 (X8 [(int .i64 (IntKind.wrap .i64 (n9 + 1)))] h33) else
 (X8 [(int .i64 n9)] h33))) → J31 [(bool b32)] h33) →
 ∃ n34, rd h30 (add (mk h15.size 0 none) 0) = some (int .i64 n34) ∧ ∃ s35, rd h30 (add (mk h15.size 0 none) 1) = some (string s35) ∧ ∃ n36, rd h30 (add (mk h15.size 0 none) 2) = some (int .i64 n36) ∧ ∃ s37, rd h30 (add (mk h15.size 0 none) 3) = some (string s37) ∧ ∃ n38, rd h30 (add (mk h15.size 0 none) 4) = some (int .i64 n38) ∧ S_siread_Thing_fine n34 s35 n36 s37 n38 h30 fun vs39 h40 =>
 ∃ b41, vs39 = [(bool b41)] ∧
 (if b41 = true then (∃ n42, rd h40 (add (mk h15.size 0 none) 2) = some (int .i64 n42) ∧
 J31 [(bool (n42 == g2_rel))] h40) else
 (J31 [(bool false)] h40))))) → X8 [(int .i64 n9)] h10) →
X8 [(int .i64 0)] h7
def A_siread_Table_count : Ann := (.mk none ⟨[], []⟩ .nil (.mk none ⟨[], []⟩ .nil (.mk none ⟨[], []⟩ (.mk none ⟨[], []⟩ .nil (.mk none ⟨[], []⟩ (.mk none ⟨[2, 15], [(7, (.c (.int .i64)))]⟩ (.mk none ⟨[], []⟩ .nil (.mk none ⟨[], []⟩ .nil (.mk none ⟨[], []⟩ (.mk none ⟨[], []⟩ .nil (.mk none ⟨[], []⟩ (.mk (some ⟨[2, 7, 15], [(27, (.c .bool))]⟩) ⟨[], []⟩ .nil .nil) .nil)) .nil))) .nil) .nil)) .nil)))
theorem E_siread_Table_count (g0_t : Option Addr) (g1_owner : Int) (g2_rel : Int) (h : Hp) (Q : PQ) : cw PP 31 (fun d => if d = 18 then [(.agg [(.int .i64), .str, (.int .i64), .str, (.int .i64)]), (.c .any)] else []) (bodyOf Tryz.f149) A_siread_Table_count (finQ PP (Tryz.f149.results.toList) Q) (argFr [(pointer g0_t), (int .i64 g1_owner), (int .i64 g2_rel)]) h = F_siread_Table_count g0_t g1_owner g2_rel h Q := by kernel_rfl
theorem O_siread_Table_count (g0_t : Option Addr) (g1_owner : Int) (g2_rel : Int) {h : Hp} {Q : PQ} (H : F_siread_Table_count g0_t g1_owner g2_rel h Q) : S_siread_Table_count g0_t g1_owner g2_rel h Q :=
 fn_of_cw (hs := (fun d => if d = 18 then [(.agg [(.int .i64), .str, (.int .i64), .str, (.int .i64)]), (.c .any)] else [])) (ann := A_siread_Table_count) (args := [(pointer g0_t), (int .i64 g1_owner), (int .i64 g2_rel)]) mixedPP Tryz.func149 (c := bodyOf Tryz.f149) (by kernel_rfl) (by kernel_rfl) (by kernel_rfl) (Eq.mpr (E_siread_Table_count g0_t g1_owner g2_rel h Q) H)
def F_siread_Table_take (g0_t : Option Addr) (g1_owner : Int) (g2_x_0 : Int) (g2_x_1 : ByteArray) (g2_x_2 : Int) (g2_x_3 : ByteArray) (g2_x_4 : Int) (h : Hp) (Q : PQ) : Prop :=
wth (Array.push h (Obj.cells #[(int .i64 g2_x_0), (string g2_x_1), (int .i64 g2_x_2), (string g2_x_3), (int .i64 g2_x_4)] T_siread_Thing)) fun h1 =>
∀ J2 : PQ, (∀ b3 : Bool, ∀ h4 : Hp, ((if b3 = true then
 (Q [] h4) else
 (nilW g0_t fun a5 => ∃ r6 : Option Nat, rd h4 (add a5 2) = some (map r6) ∧
 ∃ es7 : Array MapEntry, mapAt h4 r6 es7 ∧ KeysLike (int .i64 g1_owner) es7 ∧ ∃ r8 : Option Nat, mgetD (int .i64 g1_owner) es7 (map none) = (map r8) ∧
 ∀ J10 : PQ, (∀ r11 : Option Nat, ∀ h12 : Hp, (∀ J13 : PQ, (∀ b14 : Bool, ∀ h15 : Hp, ((if b14 = true then
 (Q [] h15) else
 (∃ n16, rd h15 (add (mk h.size 0 none) 0) = some (int .i64 n16) ∧ ∃ s17, rd h15 (add (mk h.size 0 none) 1) = some (string s17) ∧ ∃ n18, rd h15 (add (mk h.size 0 none) 2) = some (int .i64 n18) ∧ ∃ s19, rd h15 (add (mk h.size 0 none) 3) = some (string s19) ∧ ∃ n20, rd h15 (add (mk h.size 0 none) 4) = some (int .i64 n20) ∧ S_siread_Thing_fine n16 s17 n18 s19 n20 h15 fun vs21 h22 =>
 ∃ b23, vs21 = [(bool b23)] ∧
 ∀ J24 : PQ, (∀ h25 : Hp, (∃ n26, rd h25 (add (mk h.size 0 none) 0) = some (int .i64 n26) ∧
 ∀ J27 : PQ, (∀ h28 : Hp, (nilW g0_t fun a29 => ∃ r30 : Option Nat, rd h28 (add a29 2) = some (map r30) ∧
 ∃ es31 : Array MapEntry, mapAt h28 r30 es31 ∧ KeysLike (int .i64 g1_owner) es31 ∧ ∃ r32 : Option Nat, mgetD (int .i64 g1_owner) es31 (map none) = (map r32) ∧
 ∃ n34, rd h28 (add (mk h.size 0 none) 0) = some (int .i64 n34) ∧ ∃ s35, rd h28 (add (mk h.size 0 none) 1) = some (string s35) ∧ ∃ n36, rd h28 (add (mk h.size 0 none) 2) = some (int .i64 n36) ∧ ∃ s37, rd h28 (add (mk h.size 0 none) 3) = some (string s37) ∧ ∃ n38, rd h28 (add (mk h.size 0 none) 4) = some (int .i64 n38) ∧ ∃ (m39 : Nat) (es40 : Array MapEntry) (c41 : Nat), r32 = some m39 ∧ h28[m39]? = some (.map es40 c41) ∧ KeysLike (agg #[(int .i64 n34), (string s35), (int .i64 n36), (string s37), (int .i64 n38)]) es40 ∧ wth (Array.setIfInBounds h28 m39 (mput (agg #[(int .i64 n34), (string s35), (int .i64 n36), (string s37), (int .i64 n38)]) (int .i64 1) es40 c41)) fun h42 =>
 Q [] h42) → J27 [] h28) →
 (if (n26 == 2) = true then
 (S_siread_Table_lose g0_t g1_owner 150 #[(pointer (some (mk h.size 0 none)))] h25 fun vs43 h44 =>
 vs43 = [] ∧
 J27 [] h44) else
 (J27 [] h25))) → J24 [] h25) →
 (if b23 = true then
 (∀ J45 : PQ, (∀ b46 : Bool, ∀ h47 : Hp, ((if b46 = true then
 (∃ n48, rd h47 (add (mk h.size 0 none) 0) = some (int .i64 n48) ∧ ∃ s49, rd h47 (add (mk h.size 0 none) 1) = some (string s49) ∧ ∃ n50, rd h47 (add (mk h.size 0 none) 2) = some (int .i64 n50) ∧ ∃ s51, rd h47 (add (mk h.size 0 none) 3) = some (string s51) ∧ ∃ n52, rd h47 (add (mk h.size 0 none) 4) = some (int .i64 n52) ∧ ∃ (m53 : Nat) (es54 : Array MapEntry) (c55 : Nat), r11 = some m53 ∧ h47[m53]? = some (.map es54 c55) ∧ KeysLike (agg #[(int .i64 n48), (string s49), (int .i64 n50), (string s51), (int .i64 n52)]) es54 ∧ wth (Array.setIfInBounds h47 m53 (mput (agg #[(int .i64 n48), (string s49), (int .i64 n50), (string s51), (int .i64 n52)]) (int .i64 1) es54 c55)) fun h56 =>
 nilW g0_t fun a57 => ∃ n58, rd h56 (add a57 3) = some (int .i64 n58) ∧
 nilW g0_t fun a59 => stOk h56 (add a59 3) 1 ∧ wth (wrs h56 (add a59 3) 0 [(int .i64 (IntKind.wrap .i64 (n58 + 1)))]) fun h60 =>
 Q [] h60) else
 (∃ n61, rd h47 (add (mk h.size 0 none) 0) = some (int .i64 n61) ∧ ∃ s62, rd h47 (add (mk h.size 0 none) 1) = some (string s62) ∧ ∃ n63, rd h47 (add (mk h.size 0 none) 2) = some (int .i64 n63) ∧ ∃ s64, rd h47 (add (mk h.size 0 none) 3) = some (string s64) ∧ ∃ n65, rd h47 (add (mk h.size 0 none) 4) = some (int .i64 n65) ∧ S_siread_Thing_rel n61 s62 n63 s64 n65 h47 fun vs66 h67 =>
 ∃ n68, ∃ s69, ∃ n70, ∃ s71, ∃ n72, vs66 = [(agg #[(int .i64 n68), (string s69), (int .i64 n70), (string s71), (int .i64 n72)])] ∧
 stOk h67 (mk h.size 0 none) 5 ∧ wth (wrs h67 (mk h.size 0 none) 0 [(int .i64 n68), (string s69), (int .i64 n70), (string s71), (int .i64 n72)]) fun h73 =>
 J24 [] h73))) → J45 [(bool b46)] h47) →
 ∃ n74, rd h22 (add (mk h.size 0 none) 2) = some (int .i64 n74) ∧
 nilW g0_t fun a75 => ∃ n76, rd h22 (add a75 0) = some (int .i64 n76) ∧
 S_siread_Table_count g0_t g1_owner n74 h22 fun vs77 h78 =>
 ∃ n79, vs77 = [(int .i64 n79)] ∧
 rd h78 (add a75 0) = some (int .i64 n76) ∧ (if (decide (n79 < n76)) = true then (nilW g0_t fun a80 => ∃ n81, rd h78 (add a80 3) = some (int .i64 n81) ∧
 nilW g0_t fun a82 => ∃ n83, rd h78 (add a82 1) = some (int .i64 n83) ∧
 J45 [(bool (decide (n81 < n83)))] h78) else
 (J45 [(bool false)] h78))) else
 (J24 [] h22))))) → J13 [(bool b14)] h15) →
 ∃ n84, rd h12 (add (mk h.size 0 none) 0) = some (int .i64 n84) ∧ ∃ s85, rd h12 (add (mk h.size 0 none) 1) = some (string s85) ∧ ∃ n86, rd h12 (add (mk h.size 0 none) 2) = some (int .i64 n86) ∧ ∃ s87, rd h12 (add (mk h.size 0 none) 3) = some (string s87) ∧ ∃ n88, rd h12 (add (mk h.size 0 none) 4) = some (int .i64 n88) ∧ ∃ es89 : Array MapEntry, mapAt h12 r11 es89 ∧ KeysLike (agg #[(int .i64 n84), (string s85), (int .i64 n86), (string s87), (int .i64 n88)]) es89 ∧ ∃ n90, mgetD (agg #[(int .i64 n84), (string s85), (int .i64 n86), (string s87), (int .i64 n88)]) es89 (int .i64 0) = (int .i64 n90) ∧
 (if (decide (n90 > 0)) = true then (J13 [(bool true)] h12) else
 (∃ n92, rd h12 (add (mk h.size 0 none) 0) = some (int .i64 n92) ∧ ∃ s93, rd h12 (add (mk h.size 0 none) 1) = some (string s93) ∧ ∃ n94, rd h12 (add (mk h.size 0 none) 2) = some (int .i64 n94) ∧ ∃ s95, rd h12 (add (mk h.size 0 none) 3) = some (string s95) ∧ ∃ n96, rd h12 (add (mk h.size 0 none) 4) = some (int .i64 n96) ∧ S_siread_Thing_fine n92 s93 n94 s95 n96 h12 fun vs97 h98 =>
 ∃ b99, vs97 = [(bool b99)] ∧
 (if b99 = true then (∃ n100, rd h98 (add (mk h.size 0 none) 0) = some (int .i64 n100) ∧ ∃ s101, rd h98 (add (mk h.size 0 none) 1) = some (string s101) ∧ ∃ n102, rd h98 (add (mk h.size 0 none) 2) = some (int .i64 n102) ∧ ∃ s103, rd h98 (add (mk h.size 0 none) 3) = some (string s103) ∧ ∃ n104, rd h98 (add (mk h.size 0 none) 4) = some (int .i64 n104) ∧ S_siread_Thing_rel n100 s101 n102 s103 n104 h98 fun vs105 h106 =>
 ∃ n107, ∃ s108, ∃ n109, ∃ s110, ∃ n111, vs105 = [(agg #[(int .i64 n107), (string s108), (int .i64 n109), (string s110), (int .i64 n111)])] ∧
 ∃ es112 : Array MapEntry, mapAt h106 r11 es112 ∧ KeysLike (agg #[(int .i64 n107), (string s108), (int .i64 n109), (string s110), (int .i64 n111)]) es112 ∧ ∃ n113, mgetD (agg #[(int .i64 n107), (string s108), (int .i64 n109), (string s110), (int .i64 n111)]) es112 (int .i64 0) = (int .i64 n113) ∧
 J13 [(bool (decide (n113 > 0)))] h106) else
 (J13 [(bool false)] h98))))) → J10 [(map r11)] h12) →
 (if (Option.isNone r8) = true then
 (wth (Array.push h4 (Obj.map #[] 0)) fun h115 =>
 nilW g0_t fun a116 => ∃ r117 : Option Nat, rd h115 (add a116 2) = some (map r117) ∧
 ∃ (m118 : Nat) (es119 : Array MapEntry) (c120 : Nat), r117 = some m118 ∧ h115[m118]? = some (.map es119 c120) ∧ KeysLike (int .i64 g1_owner) es119 ∧ wth (Array.setIfInBounds h115 m118 (mput (int .i64 g1_owner) (map (some h4.size)) es119 c120)) fun h121 =>
 J10 [(map (some h4.size))] h121) else
 (J10 [(map r8)] h4))))) → J2 [(bool b3)] h4) →
∃ n122, rd h1 (add (mk h.size 0 none) 0) = some (int .i64 n122) ∧
(if (decide (n122 < (1 : Int))) = true then (J2 [(bool true)] h1) else
 (∃ n123, rd h1 (add (mk h.size 0 none) 0) = some (int .i64 n123) ∧
 J2 [(bool (decide (n123 > 4)))] h1))
def A_siread_Table_take : Ann := (.mk none ⟨[], []⟩ .nil (.mk none ⟨[], []⟩ (.mk none ⟨[], []⟩ (.mk (some ⟨[0, 1, 5], [(14, (.c .bool))]⟩) ⟨[], []⟩ .nil .nil) .nil) (.mk none ⟨[], []⟩ .nil (.mk none ⟨[], []⟩ (.mk none ⟨[], []⟩ .nil (.mk (some ⟨[0, 1, 5], [(6, (.c .map))]⟩) ⟨[], []⟩ .nil .nil)) (.mk none ⟨[], []⟩ (.mk none ⟨[], []⟩ (.mk (some ⟨[0, 1, 5, 6], [(44, (.c .bool))]⟩) ⟨[], []⟩ .nil .nil) .nil) (.mk none ⟨[], []⟩ (.mk none ⟨[], []⟩ .nil (.mk (some ⟨[0, 1, 5], []⟩) ⟨[], []⟩ (.mk none ⟨[], []⟩ (.mk none ⟨[], []⟩ (.mk (some ⟨[0, 1, 5, 6], [(67, (.c .bool))]⟩) ⟨[], []⟩ .nil .nil) .nil) .nil) .nil)) (.mk none ⟨[], []⟩ (.mk none ⟨[], []⟩ .nil (.mk (some ⟨[0, 1, 5], []⟩) ⟨[], []⟩ .nil .nil)) .nil)))))))
theorem E_siread_Table_take (g0_t : Option Addr) (g1_owner : Int) (g2_x_0 : Int) (g2_x_1 : ByteArray) (g2_x_2 : Int) (g2_x_3 : ByteArray) (g2_x_4 : Int) (h : Hp) (Q : PQ) : eW 93 Tryz.f105 A_siread_Table_take [(pointer g0_t), (int .i64 g1_owner), (agg #[(int .i64 g2_x_0), (string g2_x_1), (int .i64 g2_x_2), (string g2_x_3), (int .i64 g2_x_4)])] h Q = F_siread_Table_take g0_t g1_owner g2_x_0 g2_x_1 g2_x_2 g2_x_3 g2_x_4 h Q := by kernel_rfl
theorem O_siread_Table_take (g0_t : Option Addr) (g1_owner : Int) (g2_x_0 : Int) (g2_x_1 : ByteArray) (g2_x_2 : Int) (g2_x_3 : ByteArray) (g2_x_4 : Int) {h : Hp} {Q : PQ} (H : F_siread_Table_take g0_t g1_owner g2_x_0 g2_x_1 g2_x_2 g2_x_3 g2_x_4 h Q) : S_siread_Table_take g0_t g1_owner g2_x_0 g2_x_1 g2_x_2 g2_x_3 g2_x_4 h Q :=
 fo Tryz.func105 (E_siread_Table_take g0_t g1_owner g2_x_0 g2_x_1 g2_x_2 g2_x_3 g2_x_4 h Q) H
def F_siread_Table_Take (g0_t : Option Addr) (g1_xid : Int) (g2_x_0 : Int) (g2_x_1 : ByteArray) (g2_x_2 : Int) (g2_x_3 : ByteArray) (g2_x_4 : Int) (h : Hp) (Q : PQ) : Prop :=
wth (Array.push h (Obj.cells #[(int .i64 g2_x_0), (string g2_x_1), (int .i64 g2_x_2), (string g2_x_3), (int .i64 g2_x_4)] T_siread_Thing)) fun h1 =>
∀ J2 : PQ, (∀ b3 : Bool, ∀ h4 : Hp, ((if b3 = true then
 (Q [(int .i64 1)] h4) else
 (∃ n5, rd h4 (add (mk h.size 0 none) 0) = some (int .i64 n5) ∧ ∃ s6, rd h4 (add (mk h.size 0 none) 1) = some (string s6) ∧ ∃ n7, rd h4 (add (mk h.size 0 none) 2) = some (int .i64 n7) ∧ ∃ s8, rd h4 (add (mk h.size 0 none) 3) = some (string s8) ∧ ∃ n9, rd h4 (add (mk h.size 0 none) 4) = some (int .i64 n9) ∧ S_siread_Table_take g0_t g1_xid n5 s6 n7 s8 n9 h4 fun vs10 h11 =>
 vs10 = [] ∧
 Q [(int .i64 0)] h11))) → J2 [(bool b3)] h4) →
(if (Option.isNone g0_t) = true then (J2 [(bool true)] h1) else
 (S_siread_one g1_xid h1 fun vs12 h13 =>
 ∃ b14, vs12 = [(bool b14)] ∧
 (if (!b14) = true then (J2 [(bool true)] h13) else
 (∃ n15, rd h13 (add (mk h.size 0 none) 0) = some (int .i64 n15) ∧
 (if (decide (n15 < (1 : Int))) = true then (J2 [(bool true)] h13) else
 (∃ n16, rd h13 (add (mk h.size 0 none) 0) = some (int .i64 n16) ∧
 J2 [(bool (decide (n16 > 4)))] h13))))))
def A_siread_Table_Take : Ann := (.mk none ⟨[], []⟩ .nil (.mk none ⟨[], []⟩ (.mk none ⟨[], []⟩ (.mk (some ⟨[0, 1, 5], [(23, (.c .bool))]⟩) ⟨[], []⟩ .nil .nil) .nil) .nil))
theorem E_siread_Table_Take (g0_t : Option Addr) (g1_xid : Int) (g2_x_0 : Int) (g2_x_1 : ByteArray) (g2_x_2 : Int) (g2_x_3 : ByteArray) (g2_x_4 : Int) (h : Hp) (Q : PQ) : eW 28 Tryz.f55 A_siread_Table_Take [(pointer g0_t), (int .i64 g1_xid), (agg #[(int .i64 g2_x_0), (string g2_x_1), (int .i64 g2_x_2), (string g2_x_3), (int .i64 g2_x_4)])] h Q = F_siread_Table_Take g0_t g1_xid g2_x_0 g2_x_1 g2_x_2 g2_x_3 g2_x_4 h Q := by kernel_rfl
theorem O_siread_Table_Take (g0_t : Option Addr) (g1_xid : Int) (g2_x_0 : Int) (g2_x_1 : ByteArray) (g2_x_2 : Int) (g2_x_3 : ByteArray) (g2_x_4 : Int) {h : Hp} {Q : PQ} (H : F_siread_Table_Take g0_t g1_xid g2_x_0 g2_x_1 g2_x_2 g2_x_3 g2_x_4 h Q) : S_siread_Table_Take g0_t g1_xid g2_x_0 g2_x_1 g2_x_2 g2_x_3 g2_x_4 h Q :=
 fo Tryz.func55 (E_siread_Table_Take g0_t g1_xid g2_x_0 g2_x_1 g2_x_2 g2_x_3 g2_x_4 h Q) H
def F_ssi_Ssi_Read (g0_s : Option Addr) (g1_xid : Int) (g2_x_0 : Int) (g2_x_1 : ByteArray) (g2_x_2 : Int) (g2_x_3 : ByteArray) (g2_x_4 : Int) (h : Hp) (Q : PQ) : Prop :=
wth (Array.push h (Obj.cells #[(int .i64 g2_x_0), (string g2_x_1), (int .i64 g2_x_2), (string g2_x_3), (int .i64 g2_x_4)] T_siread_Thing)) fun h1 =>
∀ J2 : PQ, (∀ b3 : Bool, ∀ h4 : Hp, ((if b3 = true then
 (nilW g0_s fun a5 => ∃ p6, rd h4 (add a5 1) = some (pointer p6) ∧
 ∃ n7, rd h4 (add (mk h.size 0 none) 0) = some (int .i64 n7) ∧ ∃ s8, rd h4 (add (mk h.size 0 none) 1) = some (string s8) ∧ ∃ n9, rd h4 (add (mk h.size 0 none) 2) = some (int .i64 n9) ∧ ∃ s10, rd h4 (add (mk h.size 0 none) 3) = some (string s10) ∧ ∃ n11, rd h4 (add (mk h.size 0 none) 4) = some (int .i64 n11) ∧ S_siread_Table_Take p6 g1_xid n7 s8 n9 s10 n11 h4 fun vs12 h13 =>
 ∃ n14, vs12 = [(int .i64 n14)] ∧
 Q [] h13) else
 (Q [] h4))) → J2 [(bool b3)] h4) →
S_ssi_Ssi_runs g0_s g1_xid h1 fun vs15 h16 =>
∃ b17, vs15 = [(bool b17)] ∧
(if b17 = true then (nilW g0_s fun a18 => ∃ r19 : Option Nat, rd h16 (add a18 6) = some (map r19) ∧
 ∃ es20 : Array MapEntry, mapAt h16 r19 es20 ∧ KeysLike (int .i64 g1_xid) es20 ∧ ∃ n21, mgetD (int .i64 g1_xid) es20 (int .i64 0) = (int .i64 n21) ∧
 J2 [(bool (n21 == 0))] h16) else
 (J2 [(bool false)] h16))
def A_ssi_Ssi_Read : Ann := (.mk none ⟨[], []⟩ .nil (.mk none ⟨[], []⟩ (.mk (some ⟨[0, 1, 5], [(17, (.c .bool))]⟩) ⟨[], []⟩ .nil .nil) .nil))
theorem E_ssi_Ssi_Read (g0_s : Option Addr) (g1_xid : Int) (g2_x_0 : Int) (g2_x_1 : ByteArray) (g2_x_2 : Int) (g2_x_3 : ByteArray) (g2_x_4 : Int) (h : Hp) (Q : PQ) : eW 25 Tryz.f14 A_ssi_Ssi_Read [(pointer g0_s), (int .i64 g1_xid), (agg #[(int .i64 g2_x_0), (string g2_x_1), (int .i64 g2_x_2), (string g2_x_3), (int .i64 g2_x_4)])] h Q = F_ssi_Ssi_Read g0_s g1_xid g2_x_0 g2_x_1 g2_x_2 g2_x_3 g2_x_4 h Q := by kernel_rfl
theorem O_ssi_Ssi_Read (g0_s : Option Addr) (g1_xid : Int) (g2_x_0 : Int) (g2_x_1 : ByteArray) (g2_x_2 : Int) (g2_x_3 : ByteArray) (g2_x_4 : Int) {h : Hp} {Q : PQ} (H : F_ssi_Ssi_Read g0_s g1_xid g2_x_0 g2_x_1 g2_x_2 g2_x_3 g2_x_4 h Q) : S_ssi_Ssi_Read g0_s g1_xid g2_x_0 g2_x_1 g2_x_2 g2_x_3 g2_x_4 h Q :=
 fo Tryz.func14 (E_ssi_Ssi_Read g0_s g1_xid g2_x_0 g2_x_1 g2_x_2 g2_x_3 g2_x_4 h Q) H
def F_siread_Table_Old (g0_t : Option Addr) (h : Hp) (Q : PQ) : Prop :=
(if (Option.isNone g0_t) = true then
 (Q [(int .i64 0)] h) else
 (nilW g0_t fun a1 => ∃ n2, rd h (add a1 4) = some (int .i64 n2) ∧
 Q [(int .i64 n2)] h))
def A_siread_Table_Old : Ann := .nil
theorem E_siread_Table_Old (g0_t : Option Addr) (h : Hp) (Q : PQ) : eW 9 Tryz.f37 A_siread_Table_Old [(pointer g0_t)] h Q = F_siread_Table_Old g0_t h Q := by kernel_rfl
theorem O_siread_Table_Old (g0_t : Option Addr) {h : Hp} {Q : PQ} (H : F_siread_Table_Old g0_t h Q) : S_siread_Table_Old g0_t h Q :=
 fo Tryz.func37 (E_siread_Table_Old g0_t h Q) H
def F_cmp_isNaN_int (g0_x : Int) (h : Hp) (Q : PQ) : Prop :=
Q [(bool (g0_x != g0_x))] h
def A_cmp_isNaN_int : Ann := .nil
theorem E_cmp_isNaN_int (g0_x : Int) (h : Hp) (Q : PQ) : eW 6 Tryz.f125 A_cmp_isNaN_int [(int .i64 g0_x)] h Q = F_cmp_isNaN_int g0_x h Q := by kernel_rfl
theorem O_cmp_isNaN_int (g0_x : Int) {h : Hp} {Q : PQ} (H : F_cmp_isNaN_int g0_x h Q) : S_cmp_isNaN_int g0_x h Q :=
 fo Tryz.func125 (E_cmp_isNaN_int g0_x h Q) H
def F_siread_Table_owners (g0_t : Option Addr) (g1_such_f : Nat) (g1_such_c : Array Value) (h : Hp) (Q : PQ) : Prop :=
nilW g0_t fun a1 => ∃ r2 : Option Nat, rd h (add a1 2) = some (map r2) ∧
∃ o3 : Obj, IterOf h r2 o3 ∧ wth (Array.push h o3) fun h4 =>
∀ X5 : PQ, (∀ l6 : Sl, ∀ h7 : Hp, ((Addr.off (mk h.size 0 none) = 0 ∧ ∃ o8 : Obj, h7[Addr.block (mk h.size 0 none)]? = some o8 ∧ IterGood h7 o8 ∧
 (IterEnd h7 o8 → S_slices_Sort_sint_int ⟨l6.a, l6.n, l6.c⟩ h7 fun vs12 h13 =>
 vs12 = [] ∧
 Q [(slice l6.a l6.n l6.c)] h13) ∧
 ∀ (k9 v10 : Value) (o11 : Obj), IterStep h7 o8 k9 v10 o11 → wth (Array.setIfInBounds h7 (Addr.block (mk h.size 0 none)) o11) fun h14 =>
 (Addr.off (mk h.size 0 none) = 0 ∧ ∃ (m15 n16 : Nat) (q17 : Array Nat) (n18 : Nat) (es19 : Array MapEntry) (c20 : Nat) (e21 : MapEntry), h14[Addr.block (mk h.size 0 none)]? = some (.mapIter (some m15) n16 q17 c20) ∧ Array.back? q17 = some n18 ∧ h14[m15]? = some (.map es19 c20) ∧ Array.find? (fun x => x.born == n18) es19 = some e21 ∧ ∃ n22, e21.key = (int .i64 n22) ∧ ∃ r23 : Option Nat, e21.val = (map r23) ∧ ∃ o24 : Obj, IterOf h14 r23 o24 ∧ wth (Array.push h14 o24) fun h25 =>
 ∀ X26 : PQ, (∀ l27 : Sl, ∀ h28 : Hp, ((Addr.off (mk h14.size 0 none) = 0 ∧ ∃ o29 : Obj, h28[Addr.block (mk h14.size 0 none)]? = some o29 ∧ IterGood h28 o29 ∧
 (IterEnd h28 o29 → X5 [(slice l27.a l27.n l27.c)] h28) ∧
 ∀ (k30 v31 : Value) (o32 : Obj), IterStep h28 o29 k30 v31 o32 → wth (Array.setIfInBounds h28 (Addr.block (mk h14.size 0 none)) o32) fun h33 =>
 (Addr.off (mk h14.size 0 none) = 0 ∧ ∃ (m34 n35 : Nat) (q36 : Array Nat) (n37 : Nat) (es38 : Array MapEntry) (c39 : Nat) (e40 : MapEntry), h33[Addr.block (mk h14.size 0 none)]? = some (.mapIter (some m34) n35 q36 c39) ∧ Array.back? q36 = some n37 ∧ h33[m34]? = some (.map es38 c39) ∧ Array.find? (fun x => x.born == n37) es38 = some e40 ∧ ∃ n41, ∃ s42, ∃ n43, ∃ s44, ∃ n45, e40.key = (agg #[(int .i64 n41), (string s42), (int .i64 n43), (string s44), (int .i64 n45)]) ∧ ∃ v46 : Value, e40.val = v46 ∧ wth (Array.push h33 (Obj.cells #[(int .i64 0), (string (ByteArray.mk #[])), (int .i64 0), (string (ByteArray.mk #[])), (int .i64 0)] T_siread_Thing)) fun h47 =>
 stOk h47 (mk h33.size 0 none) 5 ∧ wth (wrs h47 (mk h33.size 0 none) 0 [(int .i64 n41), (string s42), (int .i64 n43), (string s44), (int .i64 n45)]) fun h48 =>
 ∃ n49, rd h48 (add (mk h33.size 0 none) 0) = some (int .i64 n49) ∧ ∃ s50, rd h48 (add (mk h33.size 0 none) 1) = some (string s50) ∧ ∃ n51, rd h48 (add (mk h33.size 0 none) 2) = some (int .i64 n51) ∧ ∃ s52, rd h48 (add (mk h33.size 0 none) 3) = some (string s52) ∧ ∃ n53, rd h48 (add (mk h33.size 0 none) 4) = some (int .i64 n53) ∧ Fn PP g1_such_f ((#[] ++ #[(agg #[(int .i64 n49), (string s50), (int .i64 n51), (string s52), (int .i64 n53)])]) ++ g1_such_c) h48 fun vs54 h55 =>
 ∃ b56, vs54 = [(bool b56)] ∧
 (if b56 = true then
 (wth (Array.push h55 (Obj.cells #[(int .i64 n22)] T_int)) fun h57 =>
 ∃ cs60 : List Value, cellsAt h57 (some (mk h55.size 0 none)) (1 * 1) cs60 ∧ appS PP T_int 8 1 h57 ⟨l27.a, l27.n, l27.c⟩ 1 cs60 fun (l58 : Sl) (h59 : Hp) =>
 X5 [(slice l58.a l58.n l58.c)] h59) else
 (X26 [(slice l27.a l27.n l27.c)] h55))))) → X26 [(slice l27.a l27.n l27.c)] h28) →
 X26 [(slice l6.a l6.n l6.c)] h25))) → X5 [(slice l6.a l6.n l6.c)] h7) →
X5 [(slice none 0 0)] h4
def A_siread_Table_owners : Ann := (.mk none ⟨[], []⟩ .nil (.mk none ⟨[], []⟩ .nil (.mk none ⟨[], []⟩ (.mk none ⟨[], []⟩ .nil (.mk none ⟨[], []⟩ (.mk none ⟨[1, 13], [(5, (.c .sl))]⟩ (.mk none ⟨[], []⟩ .nil (.mk none ⟨[], []⟩ .nil (.mk none ⟨[], []⟩ (.mk none ⟨[], []⟩ .nil (.mk none ⟨[], []⟩ .nil (.mk none ⟨[], []⟩ (.mk none ⟨[1, 6, 13, 20], [(5, (.c .sl))]⟩ .nil .nil) .nil))) .nil))) .nil) .nil)) .nil)))
theorem E_siread_Table_owners (g0_t : Option Addr) (g1_such_f : Nat) (g1_such_c : Array Value) (h : Hp) (Q : PQ) : cw PP 35 (fun d => if d = 16 then [(.c (.int .i64)), (.c .map)] else if d = 23 then [(.agg [(.int .i64), .str, (.int .i64), .str, (.int .i64)]), (.c .any)] else []) (bodyOf Tryz.f106) A_siread_Table_owners (finQ PP (Tryz.f106.results.toList) Q) (argFr [(pointer g0_t), (Value.func (.func g1_such_f) #[] g1_such_c)]) h = F_siread_Table_owners g0_t g1_such_f g1_such_c h Q := by kernel_rfl
theorem O_siread_Table_owners (g0_t : Option Addr) (g1_such_f : Nat) (g1_such_c : Array Value) {h : Hp} {Q : PQ} (H : F_siread_Table_owners g0_t g1_such_f g1_such_c h Q) : S_siread_Table_owners g0_t g1_such_f g1_such_c h Q :=
 fn_of_cw (hs := (fun d => if d = 16 then [(.c (.int .i64)), (.c .map)] else if d = 23 then [(.agg [(.int .i64), .str, (.int .i64), .str, (.int .i64)]), (.c .any)] else [])) (ann := A_siread_Table_owners) (args := [(pointer g0_t), (Value.func (.func g1_such_f) #[] g1_such_c)]) mixedPP Tryz.func106 (c := bodyOf Tryz.f106) (by kernel_rfl) (by kernel_rfl) (by kernel_rfl) (Eq.mpr (E_siread_Table_owners g0_t g1_such_f g1_such_c h Q) H)
def F_siread_Table_Owners (g0_t : Option Addr) (g1_x_0 : Int) (g1_x_1 : ByteArray) (g1_x_2 : Int) (g1_x_3 : ByteArray) (g1_x_4 : Int) (h : Hp) (Q : PQ) : Prop :=
wth (Array.push h (Obj.cells #[(int .i64 g1_x_0), (string g1_x_1), (int .i64 g1_x_2), (string g1_x_3), (int .i64 g1_x_4)] T_siread_Thing)) fun h1 =>
(if (Option.isNone g0_t) = true then
 (Q [(slice none 0 0)] h1) else
 (S_siread_Table_owners g0_t 107 #[(pointer (some (mk h.size 0 none)))] h1 fun vs2 h3 =>
 ∃ l4 : Sl, vs2 = [(slice l4.a l4.n l4.c)] ∧
 Q [(slice l4.a l4.n l4.c)] h3))
def A_siread_Table_Owners : Ann := .nil
theorem E_siread_Table_Owners (g0_t : Option Addr) (g1_x_0 : Int) (g1_x_1 : ByteArray) (g1_x_2 : Int) (g1_x_3 : ByteArray) (g1_x_4 : Int) (h : Hp) (Q : PQ) : eW 10 Tryz.f56 A_siread_Table_Owners [(pointer g0_t), (agg #[(int .i64 g1_x_0), (string g1_x_1), (int .i64 g1_x_2), (string g1_x_3), (int .i64 g1_x_4)])] h Q = F_siread_Table_Owners g0_t g1_x_0 g1_x_1 g1_x_2 g1_x_3 g1_x_4 h Q := by kernel_rfl
theorem O_siread_Table_Owners (g0_t : Option Addr) (g1_x_0 : Int) (g1_x_1 : ByteArray) (g1_x_2 : Int) (g1_x_3 : ByteArray) (g1_x_4 : Int) {h : Hp} {Q : PQ} (H : F_siread_Table_Owners g0_t g1_x_0 g1_x_1 g1_x_2 g1_x_3 g1_x_4 h Q) : S_siread_Table_Owners g0_t g1_x_0 g1_x_1 g1_x_2 g1_x_3 g1_x_4 h Q :=
 fo Tryz.func56 (E_siread_Table_Owners g0_t g1_x_0 g1_x_1 g1_x_2 g1_x_3 g1_x_4 h Q) H
def F_clog_Log_Reads (g0_l : Option Addr) (g1_xid : Int) (h : Hp) (Q : PQ) : Prop :=
S_clog_Log_one g0_l g1_xid h fun vs1 h2 =>
∃ n3, ∃ n4, ∃ n5, ∃ b6, vs1 = [(agg #[(int .i64 n3), (int .i64 n4), (int .i64 n5), (bool b6)])] ∧
Q [(bool b6)] h2
def A_clog_Log_Reads : Ann := .nil
theorem E_clog_Log_Reads (g0_l : Option Addr) (g1_xid : Int) (h : Hp) (Q : PQ) : eW 9 Tryz.f20 A_clog_Log_Reads [(pointer g0_l), (int .i64 g1_xid)] h Q = F_clog_Log_Reads g0_l g1_xid h Q := by kernel_rfl
theorem O_clog_Log_Reads (g0_l : Option Addr) (g1_xid : Int) {h : Hp} {Q : PQ} (H : F_clog_Log_Reads g0_l g1_xid h Q) : S_clog_Log_Reads g0_l g1_xid h Q :=
 fo Tryz.func20 (E_clog_Log_Reads g0_l g1_xid h Q) H
def F_edge_Edges_none (g0_e : Option Addr) (h : Hp) (Q : PQ) : Prop :=
(if (Option.isNone g0_e) = true then (Q [(bool true)] h) else
 (nilW g0_e fun a1 => ∃ p2, rd h (add a1 0) = some (pointer p2) ∧
 Q [(bool (Option.isNone p2))] h))
def A_edge_Edges_none : Ann := .nil
theorem E_edge_Edges_none (g0_e : Option Addr) (h : Hp) (Q : PQ) : eW 12 Tryz.f68 A_edge_Edges_none [(pointer g0_e)] h Q = F_edge_Edges_none g0_e h Q := by kernel_rfl
theorem O_edge_Edges_none (g0_e : Option Addr) {h : Hp} {Q : PQ} (H : F_edge_Edges_none g0_e h Q) : S_edge_Edges_none g0_e h Q :=
 fo Tryz.func68 (E_edge_Edges_none g0_e h Q) H
def F_edge_Edges_ends (g0_e : Option Addr) (g1_xid : Int) (g2_end : Int) (h : Hp) (Q : PQ) : Prop :=
S_edge_Edges_none g0_e h fun vs1 h2 =>
∃ b3, vs1 = [(bool b3)] ∧
(if b3 = true then
 (Q [(slice none 0 0)] h2) else
 (nilW g0_e fun a4 => ∃ r5 : Option Nat, rd h2 (add a4 1) = some (map r5) ∧
 ∃ o6 : Obj, IterOf h2 r5 o6 ∧ wth (Array.push h2 o6) fun h7 =>
 ∀ X8 : PQ, (∀ l9 : Sl, ∀ h10 : Hp, ((Addr.off (mk h2.size 0 none) = 0 ∧ ∃ o11 : Obj, h10[Addr.block (mk h2.size 0 none)]? = some o11 ∧ IterGood h10 o11 ∧
 (IterEnd h10 o11 → S_slices_Sort_sint_int ⟨l9.a, l9.n, l9.c⟩ h10 fun vs15 h16 =>
 vs15 = [] ∧
 Q [(slice l9.a l9.n l9.c)] h16) ∧
 ∀ (k12 v13 : Value) (o14 : Obj), IterStep h10 o11 k12 v13 o14 → wth (Array.setIfInBounds h10 (Addr.block (mk h2.size 0 none)) o14) fun h17 =>
 (Addr.off (mk h2.size 0 none) = 0 ∧ ∃ (m18 n19 : Nat) (q20 : Array Nat) (n21 : Nat) (es22 : Array MapEntry) (c23 : Nat) (e24 : MapEntry), h17[Addr.block (mk h2.size 0 none)]? = some (.mapIter (some m18) n19 q20 c23) ∧ Array.back? q20 = some n21 ∧ h17[m18]? = some (.map es22 c23) ∧ Array.find? (fun x => x.born == n21) es22 = some e24 ∧ ∃ n25, ∃ n26, e24.key = (agg #[(int .i64 n25), (int .i64 n26)]) ∧ ∃ v27 : Value, e24.val = v27 ∧ wth (Array.push h17 (Obj.cells #[(int .i64 0), (int .i64 0)] T_2_int)) fun h28 =>
 stOk h28 (mk h17.size 0 none) 2 ∧ wth (wrs h28 (mk h17.size 0 none) 0 [(int .i64 n25), (int .i64 n26)]) fun h29 =>
 ixOk g2_end 2 (∃ n30, rd h29 (add (mk h17.size 0 none) (Int.toNat g2_end * 1)) = some (int .i64 n30) ∧
 (if (n30 == g1_xid) = true then
 (ixOk (IntKind.wrap .i64 (1 - g2_end)) 2 (∃ n31, rd h29 (add (mk h17.size 0 none) (Int.toNat (IntKind.wrap .i64 (1 - g2_end)) * 1)) = some (int .i64 n31) ∧
 wth (Array.push h29 (Obj.cells #[(int .i64 n31)] T_int)) fun h32 =>
 ∃ cs35 : List Value, cellsAt h32 (some (mk h29.size 0 none)) (1 * 1) cs35 ∧ appS PP T_int 8 1 h32 ⟨l9.a, l9.n, l9.c⟩ 1 cs35 fun (l33 : Sl) (h34 : Hp) =>
 X8 [(slice l33.a l33.n l33.c)] h34)) else
 (X8 [(slice l9.a l9.n l9.c)] h29)))))) → X8 [(slice l9.a l9.n l9.c)] h10) →
 X8 [(slice none 0 0)] h7))
def A_edge_Edges_ends : Ann := (.mk none ⟨[], []⟩ .nil (.mk none ⟨[], []⟩ .nil (.mk none ⟨[], []⟩ .nil (.mk none ⟨[], []⟩ (.mk none ⟨[], []⟩ .nil (.mk none ⟨[], []⟩ (.mk none ⟨[1, 2, 15], [(7, (.c .sl))]⟩ .nil .nil) .nil)) .nil))))
theorem E_edge_Edges_ends (g0_e : Option Addr) (g1_xid : Int) (g2_end : Int) (h : Hp) (Q : PQ) : cw PP 35 (fun d => if d = 18 then [(.agg [(.int .i64), (.int .i64)]), (.c .any)] else []) (bodyOf Tryz.f79) A_edge_Edges_ends (finQ PP (Tryz.f79.results.toList) Q) (argFr [(pointer g0_e), (int .i64 g1_xid), (int .i64 g2_end)]) h = F_edge_Edges_ends g0_e g1_xid g2_end h Q := by kernel_rfl
theorem O_edge_Edges_ends (g0_e : Option Addr) (g1_xid : Int) (g2_end : Int) {h : Hp} {Q : PQ} (H : F_edge_Edges_ends g0_e g1_xid g2_end h Q) : S_edge_Edges_ends g0_e g1_xid g2_end h Q :=
 fn_of_cw (hs := (fun d => if d = 18 then [(.agg [(.int .i64), (.int .i64)]), (.c .any)] else [])) (ann := A_edge_Edges_ends) (args := [(pointer g0_e), (int .i64 g1_xid), (int .i64 g2_end)]) mixedPP Tryz.func79 (c := bodyOf Tryz.f79) (by kernel_rfl) (by kernel_rfl) (by kernel_rfl) (Eq.mpr (E_edge_Edges_ends g0_e g1_xid g2_end h Q) H)
def F_edge_Edges_In (g0_e : Option Addr) (g1_xid : Int) (h : Hp) (Q : PQ) : Prop :=
S_edge_Edges_ends g0_e g1_xid 1 h fun vs1 h2 =>
∃ l3 : Sl, vs1 = [(slice l3.a l3.n l3.c)] ∧
Q [(slice l3.a l3.n l3.c)] h2
def A_edge_Edges_In : Ann := .nil
theorem E_edge_Edges_In (g0_e : Option Addr) (g1_xid : Int) (h : Hp) (Q : PQ) : eW 8 Tryz.f32 A_edge_Edges_In [(pointer g0_e), (int .i64 g1_xid)] h Q = F_edge_Edges_In g0_e g1_xid h Q := by kernel_rfl
theorem O_edge_Edges_In (g0_e : Option Addr) (g1_xid : Int) {h : Hp} {Q : PQ} (H : F_edge_Edges_In g0_e g1_xid h Q) : S_edge_Edges_In g0_e g1_xid h Q :=
 fo Tryz.func32 (E_edge_Edges_In g0_e g1_xid h Q) H
def F_clog_Log_Csn (g0_l : Option Addr) (g1_xid : Int) (h : Hp) (Q : PQ) : Prop :=
S_clog_Log_one g0_l g1_xid h fun vs1 h2 =>
∃ n3, ∃ n4, ∃ n5, ∃ b6, vs1 = [(agg #[(int .i64 n3), (int .i64 n4), (int .i64 n5), (bool b6)])] ∧
Q [(int .i64 n4)] h2
def A_clog_Log_Csn : Ann := .nil
theorem E_clog_Log_Csn (g0_l : Option Addr) (g1_xid : Int) (h : Hp) (Q : PQ) : eW 9 Tryz.f50 A_clog_Log_Csn [(pointer g0_l), (int .i64 g1_xid)] h Q = F_clog_Log_Csn g0_l g1_xid h Q := by kernel_rfl
theorem O_clog_Log_Csn (g0_l : Option Addr) (g1_xid : Int) {h : Hp} {Q : PQ} (H : F_clog_Log_Csn g0_l g1_xid h Q) : S_clog_Log_Csn g0_l g1_xid h Q :=
 fo Tryz.func50 (E_clog_Log_Csn g0_l g1_xid h Q) H
def F_clog_Log_Snapshot (g0_l : Option Addr) (g1_xid : Int) (h : Hp) (Q : PQ) : Prop :=
S_clog_Log_one g0_l g1_xid h fun vs1 h2 =>
∃ n3, ∃ n4, ∃ n5, ∃ b6, vs1 = [(agg #[(int .i64 n3), (int .i64 n4), (int .i64 n5), (bool b6)])] ∧
Q [(int .i64 n5)] h2
def A_clog_Log_Snapshot : Ann := .nil
theorem E_clog_Log_Snapshot (g0_l : Option Addr) (g1_xid : Int) (h : Hp) (Q : PQ) : eW 9 Tryz.f111 A_clog_Log_Snapshot [(pointer g0_l), (int .i64 g1_xid)] h Q = F_clog_Log_Snapshot g0_l g1_xid h Q := by kernel_rfl
theorem O_clog_Log_Snapshot (g0_l : Option Addr) (g1_xid : Int) {h : Hp} {Q : PQ} (H : F_clog_Log_Snapshot g0_l g1_xid h Q) : S_clog_Log_Snapshot g0_l g1_xid h Q :=
 fo Tryz.func111 (E_clog_Log_Snapshot g0_l g1_xid h Q) H
def F_edge_Edges_Out (g0_e : Option Addr) (g1_xid : Int) (h : Hp) (Q : PQ) : Prop :=
S_edge_Edges_ends g0_e g1_xid 0 h fun vs1 h2 =>
∃ l3 : Sl, vs1 = [(slice l3.a l3.n l3.c)] ∧
Q [(slice l3.a l3.n l3.c)] h2
def A_edge_Edges_Out : Ann := .nil
theorem E_edge_Edges_Out (g0_e : Option Addr) (g1_xid : Int) (h : Hp) (Q : PQ) : eW 8 Tryz.f31 A_edge_Edges_Out [(pointer g0_e), (int .i64 g1_xid)] h Q = F_edge_Edges_Out g0_e g1_xid h Q := by kernel_rfl
theorem O_edge_Edges_Out (g0_e : Option Addr) (g1_xid : Int) {h : Hp} {Q : PQ} (H : F_edge_Edges_Out g0_e g1_xid h Q) : S_edge_Edges_Out g0_e g1_xid h Q :=
 fo Tryz.func31 (E_edge_Edges_Out g0_e g1_xid h Q) H
def F_edge_Edges_first (g0_e : Option Addr) (g1_p : Int) (h : Hp) (Q : PQ) : Prop :=
S_edge_Edges_Out g0_e g1_p h fun vs1 h2 =>
∃ l3 : Sl, vs1 = [(slice l3.a l3.n l3.c)] ∧
∀ X4 : PQ, (∀ n5 : Int, ∀ n6 : Int, ∀ h7 : Hp, ((if (decide (n6 < (l3.n : Int))) = true then
 (∀ J8 : PQ, (∀ n9 : Int, ∀ h10 : Hp, (X4 [(int .i64 n9), (int .i64 (IntKind.wrap .i64 (n6 + 1)))] h10) → J8 [(int .i64 n9)] h10) →
 nilW l3.a fun a11 => ixOk n6 l3.n (∃ n12, rd h7 (add a11 (Int.toNat n6 * 1)) = some (int .i64 n12) ∧
 nilW g0_e fun a13 => ∃ p14, rd h7 (add a13 0) = some (pointer p14) ∧
 S_clog_Log_Csn p14 n12 h7 fun vs15 h16 =>
 ∃ n17, vs15 = [(int .i64 n17)] ∧
 ∀ J18 : PQ, (∀ b19 : Bool, ∀ h20 : Hp, ((if b19 = true then
 (J8 [(int .i64 n5)] h20) else
 (∀ J21 : PQ, (∀ b22 : Bool, ∀ h23 : Hp, ((if b22 = true then
 (J8 [(int .i64 n17)] h23) else
 (J8 [(int .i64 n5)] h23))) → J21 [(bool b22)] h23) →
 (if (n5 == 0) = true then (J21 [(bool true)] h20) else
 (J21 [(bool (decide (n17 < n5)))] h20))))) → J18 [(bool b19)] h20) →
 (if (n17 == 0) = true then (J18 [(bool true)] h16) else
 (nilW g0_e fun a24 => ∃ p25, rd h16 (add a24 0) = some (pointer p25) ∧
 S_clog_Log_Csn p25 g1_p h16 fun vs26 h27 =>
 ∃ n28, vs26 = [(int .i64 n28)] ∧
 (if (n28 != 0) = true then (nilW g0_e fun a29 => ∃ p30, rd h27 (add a29 0) = some (pointer p30) ∧
 S_clog_Log_Csn p30 g1_p h27 fun vs31 h32 =>
 ∃ n33, vs31 = [(int .i64 n33)] ∧
 J18 [(bool (decide (n33 ≤ n17)))] h32) else
 (J18 [(bool false)] h27)))))) else
 (Q [(int .i64 n5)] h7))) → X4 [(int .i64 n5), (int .i64 n6)] h7) →
X4 [(int .i64 0), (int .i64 0)] h2
def A_edge_Edges_first : Ann := (.mk none ⟨[], []⟩ .nil (.mk none ⟨[], []⟩ (.mk none ⟨[], []⟩ .nil (.mk none ⟨[], []⟩ .nil (.mk none ⟨[], []⟩ (.mk none ⟨[], []⟩ .nil (.mk none ⟨[], []⟩ (.mk none ⟨[0, 1, 11, 12], [(5, (.c (.int .i64))), (13, (.c (.int .i64)))]⟩ (.mk none ⟨[], []⟩ .nil (.mk none ⟨[], []⟩ .nil (.mk none ⟨[], []⟩ (.mk (some ⟨[0, 1, 11, 12, 13], [(5, (.c (.int .i64)))]⟩) ⟨[], []⟩ (.mk none ⟨[], []⟩ .nil (.mk none ⟨[], []⟩ .nil (.mk none ⟨[], []⟩ (.mk none ⟨[], []⟩ (.mk (some ⟨[0, 1, 5, 8, 11, 12, 13], [(43, (.c .bool))]⟩) ⟨[], []⟩ .nil .nil) .nil) (.mk none ⟨[], []⟩ (.mk (some ⟨[0, 1, 5, 8, 11, 12, 13], [(50, (.c .bool))]⟩) ⟨[], []⟩ .nil .nil) .nil)))) .nil) .nil))) .nil) .nil)) .nil))) .nil))
theorem E_edge_Edges_first (g0_e : Option Addr) (g1_p : Int) (h : Hp) (Q : PQ) : eW 54 Tryz.f152 A_edge_Edges_first [(pointer g0_e), (int .i64 g1_p)] h Q = F_edge_Edges_first g0_e g1_p h Q := by kernel_rfl
theorem O_edge_Edges_first (g0_e : Option Addr) (g1_p : Int) {h : Hp} {Q : PQ} (H : F_edge_Edges_first g0_e g1_p h Q) : S_edge_Edges_first g0_e g1_p h Q :=
 fo Tryz.func152 (E_edge_Edges_first g0_e g1_p h Q) H
def F_edge_Edges_Spoilt (g0_e : Option Addr) (g1_p : Int) (h : Hp) (Q : PQ) : Prop :=
∀ J1 : PQ, (∀ b2 : Bool, ∀ h3 : Hp, ((if b2 = true then
 (Q [(slice none 0 0), (bool false)] h3) else
 (S_edge_Edges_first g0_e g1_p h3 fun vs4 h5 =>
 ∃ n6, vs4 = [(int .i64 n6)] ∧
 (if (n6 == 0) = true then
 (Q [(slice none 0 0), (bool false)] h5) else
 (nilW g0_e fun a7 => ∃ r8 : Option Nat, rd h5 (add a7 2) = some (map r8) ∧
 ∃ es9 : Array MapEntry, mapAt h5 r8 es9 ∧ KeysLike (int .i64 g1_p) es9 ∧ ∃ n10, mgetD (int .i64 g1_p) es9 (int .i64 0) = (int .i64 n10) ∧
 S_edge_Edges_In g0_e g1_p h5 fun vs12 h13 =>
 ∃ l14 : Sl, vs12 = [(slice l14.a l14.n l14.c)] ∧
 ∀ X15 : PQ, (∀ l16 : Sl, ∀ b17 : Bool, ∀ n18 : Int, ∀ h19 : Hp, ((if (decide (n18 < (l14.n : Int))) = true then
 (∀ J20 : PQ, (∀ l21 : Sl, ∀ b22 : Bool, ∀ h23 : Hp, (X15 [(slice l21.a l21.n l21.c), (bool b22), (int .i64 (IntKind.wrap .i64 (n18 + 1)))] h23) → J20 [(slice l21.a l21.n l21.c), (bool b22)] h23) →
 nilW l14.a fun a24 => ixOk n18 l14.n (∃ n25, rd h19 (add a24 (Int.toNat n18 * 1)) = some (int .i64 n25) ∧
 nilW g0_e fun a26 => ∃ p27, rd h19 (add a26 0) = some (pointer p27) ∧
 S_clog_Log_State p27 n25 h19 fun vs28 h29 =>
 ∃ n30, vs28 = [(int .i64 n30)] ∧
 ∀ J31 : PQ, (∀ l32 : Sl, ∀ h33 : Hp, (J20 [(slice l32.a l32.n l32.c), (bool true)] h33) → J31 [(slice l32.a l32.n l32.c)] h33) →
 ∀ J34 : PQ, (∀ b35 : Bool, ∀ h36 : Hp, ((if b35 = true then
 (J20 [(slice l16.a l16.n l16.c), (bool b17)] h36) else
 (∀ J37 : PQ, (∀ b38 : Bool, ∀ h39 : Hp, ((if b38 = true then
 (J20 [(slice l16.a l16.n l16.c), (bool b17)] h39) else
 ((if (n30 == 1) = true then
 (wth (Array.push h39 (Obj.cells #[(int .i64 n25)] T_int)) fun h40 =>
 ∃ cs43 : List Value, cellsAt h40 (some (mk h39.size 0 none)) (1 * 1) cs43 ∧ appS PP T_int 8 1 h40 ⟨l16.a, l16.n, l16.c⟩ 1 cs43 fun (l41 : Sl) (h42 : Hp) =>
 J31 [(slice l41.a l41.n l41.c)] h42) else
 (J31 [(slice l16.a l16.n l16.c)] h39))))) → J37 [(bool b38)] h39) →
 nilW g0_e fun a44 => ∃ p45, rd h36 (add a44 0) = some (pointer p45) ∧
 S_clog_Log_Reads p45 n25 h36 fun vs46 h47 =>
 ∃ b48, vs46 = [(bool b48)] ∧
 (if b48 = true then (nilW g0_e fun a49 => ∃ p50, rd h47 (add a49 0) = some (pointer p50) ∧
 S_clog_Log_Snapshot p50 n25 h47 fun vs51 h52 =>
 ∃ n53, vs51 = [(int .i64 n53)] ∧
 J37 [(bool (decide (n53 < n6)))] h52) else
 (J37 [(bool false)] h47))))) → J34 [(bool b35)] h36) →
 (if (n30 == 3) = true then (J34 [(bool true)] h29) else
 ((if (n30 == 2) = true then (nilW g0_e fun a54 => ∃ p55, rd h29 (add a54 0) = some (pointer p55) ∧
 S_clog_Log_Csn p55 n25 h29 fun vs56 h57 =>
 ∃ n58, vs56 = [(int .i64 n58)] ∧
 J34 [(bool (decide (n58 < n6)))] h57) else
 (J34 [(bool false)] h29)))))) else
 (Q [(slice l16.a l16.n l16.c), (bool b17)] h19))) → X15 [(slice l16.a l16.n l16.c), (bool b17), (int .i64 n18)] h19) →
 X15 [(slice none 0 0), (bool (decide (n10 ≥ n6))), (int .i64 0)] h13))))) → J1 [(bool b2)] h3) →
S_edge_Edges_none g0_e h fun vs59 h60 =>
∃ b61, vs59 = [(bool b61)] ∧
(if b61 = true then (J1 [(bool true)] h60) else
 (nilW g0_e fun a62 => ∃ p63, rd h60 (add a62 0) = some (pointer p63) ∧
 S_clog_Log_State p63 g1_p h60 fun vs64 h65 =>
 ∃ n66, vs64 = [(int .i64 n66)] ∧
 J1 [(bool (n66 == 3))] h65))
def A_edge_Edges_Spoilt : Ann := (.mk none ⟨[], []⟩ .nil (.mk none ⟨[], []⟩ (.mk none ⟨[], []⟩ (.mk none ⟨[], []⟩ (.mk (some ⟨[0, 1, 4], [(20, (.c .bool))]⟩) ⟨[], []⟩ .nil .nil) .nil) (.mk none ⟨[], []⟩ .nil (.mk none ⟨[], []⟩ .nil (.mk none ⟨[], []⟩ .nil (.mk none ⟨[], []⟩ .nil (.mk none ⟨[], []⟩ (.mk none ⟨[], []⟩ .nil (.mk none ⟨[], []⟩ (.mk none ⟨[0, 6, 36, 37], [(4, (.c .sl)), (5, (.c .bool)), (38, (.c (.int .i64)))]⟩ (.mk none ⟨[], []⟩ .nil (.mk none ⟨[], []⟩ .nil (.mk none ⟨[], []⟩ (.mk (some ⟨[0, 6, 36, 37, 38], [(4, (.c .sl)), (5, (.c .bool))]⟩) ⟨[], []⟩ (.mk none ⟨[], []⟩ .nil (.mk none ⟨[], []⟩ (.mk none ⟨[], []⟩ .nil (.mk (some ⟨[0, 6, 36, 37, 38], [(4, (.c .sl))]⟩) ⟨[], []⟩ (.mk none ⟨[], []⟩ (.mk (some ⟨[0, 4, 5, 6, 8, 9, 36, 37, 38], [(48, (.c .bool))]⟩) ⟨[], []⟩ .nil .nil) (.mk none ⟨[], []⟩ .nil (.mk none ⟨[], []⟩ (.mk (some ⟨[0, 4, 5, 6, 8, 9, 36, 37, 38], [(65, (.c .bool))]⟩) ⟨[], []⟩ .nil .nil) .nil))) .nil)) .nil)) .nil) .nil))) .nil) .nil)) .nil)))))) .nil))
theorem E_edge_Edges_Spoilt (g0_e : Option Addr) (g1_p : Int) (h : Hp) (Q : PQ) : eW 92 Tryz.f112 A_edge_Edges_Spoilt [(pointer g0_e), (int .i64 g1_p)] h Q = F_edge_Edges_Spoilt g0_e g1_p h Q := by kernel_rfl
theorem O_edge_Edges_Spoilt (g0_e : Option Addr) (g1_p : Int) {h : Hp} {Q : PQ} (H : F_edge_Edges_Spoilt g0_e g1_p h Q) : S_edge_Edges_Spoilt g0_e g1_p h Q :=
 fo Tryz.func112 (E_edge_Edges_Spoilt g0_e g1_p h Q) H
def F_ssi_Ssi_look (g0_s : Option Addr) (g1_p : Int) (h : Hp) (Q : PQ) : Prop :=
nilW g0_s fun a1 => ∃ p2, rd h (add a1 2) = some (pointer p2) ∧
S_edge_Edges_Spoilt p2 g1_p h fun vs3 h4 =>
∃ l5 : Sl, ∃ b6, vs3 = [(slice l5.a l5.n l5.c), (bool b6)] ∧
(if (!b6) = true then
 (Q [] h4) else
 (S_ssi_Ssi_runs g0_s g1_p h4 fun vs7 h8 =>
 ∃ b9, vs7 = [(bool b9)] ∧
 ∀ J10 : PQ, (∀ l11 : Sl, ∀ h12 : Hp, (∀ X13 : PQ, (∀ n14 : Int, ∀ h15 : Hp, ((if (decide (n14 < (l11.n : Int))) = true then
 (nilW l11.a fun a16 => ixOk n14 l11.n (∃ n17, rd h15 (add a16 (Int.toNat n14 * 1)) = some (int .i64 n17) ∧
 nilW g0_s fun a18 => ∃ r19 : Option Nat, rd h15 (add a18 5) = some (map r19) ∧
 ∃ es20 : Array MapEntry, mapAt h15 r19 es20 ∧ KeysLike (int .i64 n17) es20 ∧ ∃ n21, mgetD (int .i64 n17) es20 (int .i64 0) = (int .i64 n21) ∧
 ∃ (m23 : Nat) (es24 : Array MapEntry) (c25 : Nat), r19 = some m23 ∧ h15[m23]? = some (.map es24 c25) ∧ KeysLike (int .i64 n17) es24 ∧ wth (Array.setIfInBounds h15 m23 (mput (int .i64 n17) (int .i64 (IntKind.wrap .i64 (n21 + 1))) es24 c25)) fun h26 =>
 X13 [(int .i64 (IntKind.wrap .i64 (n14 + 1)))] h26)) else
 (Q [] h15))) → X13 [(int .i64 n14)] h15) →
 X13 [(int .i64 0)] h12) → J10 [(slice l11.a l11.n l11.c)] h12) →
 (if b9 = true then
 (wth (Array.push h8 (Obj.cells #[(int .i64 g1_p)] T_int)) fun h27 =>
 J10 [(slice (some (mk h8.size 0 none)) 1 1)] h27) else
 (J10 [(slice l5.a l5.n l5.c)] h8))))
def A_ssi_Ssi_look : Ann := (.mk none ⟨[], []⟩ .nil (.mk none ⟨[], []⟩ .nil (.mk none ⟨[], []⟩ (.mk none ⟨[], []⟩ .nil (.mk (some ⟨[0], [(4, (.c .sl))]⟩) ⟨[], []⟩ .nil .nil)) (.mk none ⟨[], []⟩ .nil (.mk none ⟨[], []⟩ (.mk none ⟨[0, 24, 25], [(26, (.c (.int .i64)))]⟩ .nil .nil) .nil)))))
theorem E_ssi_Ssi_look (g0_s : Option Addr) (g1_p : Int) (h : Hp) (Q : PQ) : eW 38 Tryz.f59 A_ssi_Ssi_look [(pointer g0_s), (int .i64 g1_p)] h Q = F_ssi_Ssi_look g0_s g1_p h Q := by kernel_rfl
theorem O_ssi_Ssi_look (g0_s : Option Addr) (g1_p : Int) {h : Hp} {Q : PQ} (H : F_ssi_Ssi_look g0_s g1_p h Q) : S_ssi_Ssi_look g0_s g1_p h Q :=
 fo Tryz.func59 (E_ssi_Ssi_look g0_s g1_p h Q) H
def F_clog_Log_Sees (g0_l : Option Addr) (g1_xid : Int) (g2_other : Int) (h : Hp) (Q : PQ) : Prop :=
S_clog_Log_get g0_l g1_xid h fun vs1 h2 =>
∃ p3, vs1 = [(pointer p3)] ∧
S_clog_Log_get g0_l g2_other h2 fun vs4 h5 =>
∃ p6, vs4 = [(pointer p6)] ∧
∀ J7 : PQ, (∀ b8 : Bool, ∀ h9 : Hp, ((if b8 = true then
 (Q [(bool false)] h9) else
 ((if (g1_xid == g2_other) = true then (Q [(bool true)] h9) else
 (nilW p6 fun a10 => ∃ n11, rd h9 (add a10 0) = some (int .i64 n11) ∧
 (if (n11 == 2) = true then (nilW p6 fun a12 => ∃ n13, rd h9 (add a12 1) = some (int .i64 n13) ∧
 nilW p3 fun a14 => ∃ n15, rd h9 (add a14 2) = some (int .i64 n15) ∧
 Q [(bool (decide (n13 ≤ n15)))] h9) else
 (Q [(bool false)] h9))))))) → J7 [(bool b8)] h9) →
(if (Option.isNone p3) = true then (J7 [(bool true)] h5) else
 (J7 [(bool (Option.isNone p6))] h5))
def A_clog_Log_Sees : Ann := (.mk none ⟨[], []⟩ .nil (.mk none ⟨[], []⟩ .nil (.mk none ⟨[], []⟩ (.mk none ⟨[], []⟩ (.mk (some ⟨[1, 2, 7, 8], [(20, (.c .bool))]⟩) ⟨[], []⟩ .nil .nil) .nil) .nil)))
theorem E_clog_Log_Sees (g0_l : Option Addr) (g1_xid : Int) (g2_other : Int) (h : Hp) (Q : PQ) : eW 42 Tryz.f22 A_clog_Log_Sees [(pointer g0_l), (int .i64 g1_xid), (int .i64 g2_other)] h Q = F_clog_Log_Sees g0_l g1_xid g2_other h Q := by kernel_rfl
theorem O_clog_Log_Sees (g0_l : Option Addr) (g1_xid : Int) (g2_other : Int) {h : Hp} {Q : PQ} (H : F_clog_Log_Sees g0_l g1_xid g2_other h Q) : S_clog_Log_Sees g0_l g1_xid g2_other h Q :=
 fo Tryz.func22 (E_clog_Log_Sees g0_l g1_xid g2_other h Q) H
def F_clog_Log_Beside (g0_l : Option Addr) (g1_a : Int) (g2_b : Int) (h : Hp) (Q : PQ) : Prop :=
S_clog_Log_get g0_l g1_a h fun vs1 h2 =>
∃ p3, vs1 = [(pointer p3)] ∧
S_clog_Log_get g0_l g2_b h2 fun vs4 h5 =>
∃ p6, vs4 = [(pointer p6)] ∧
∀ J7 : PQ, (∀ b8 : Bool, ∀ h9 : Hp, ((if b8 = true then
 (Q [(bool false)] h9) else
 (S_clog_Log_Sees g0_l g1_a g2_b h9 fun vs10 h11 =>
 ∃ b12, vs10 = [(bool b12)] ∧
 (if (!b12) = true then (S_clog_Log_Sees g0_l g2_b g1_a h11 fun vs13 h14 =>
 ∃ b15, vs13 = [(bool b15)] ∧
 Q [(bool (!b15))] h14) else
 (Q [(bool false)] h11))))) → J7 [(bool b8)] h9) →
(if (Option.isNone p3) = true then (J7 [(bool true)] h5) else
 ((if (Option.isNone p6) = true then (J7 [(bool true)] h5) else
 ((if (g1_a == g2_b) = true then (J7 [(bool true)] h5) else
 (nilW p3 fun a16 => ∃ n17, rd h5 (add a16 0) = some (int .i64 n17) ∧
 (if (n17 == 3) = true then (J7 [(bool true)] h5) else
 (nilW p6 fun a18 => ∃ n19, rd h5 (add a18 0) = some (int .i64 n19) ∧
 J7 [(bool (n19 == 3))] h5))))))))
def A_clog_Log_Beside : Ann := (.mk none ⟨[], []⟩ .nil (.mk none ⟨[], []⟩ .nil (.mk none ⟨[], []⟩ (.mk none ⟨[], []⟩ (.mk (some ⟨[0, 1, 2], [(39, (.c .bool))]⟩) ⟨[], []⟩ .nil .nil) .nil) .nil)))
theorem E_clog_Log_Beside (g0_l : Option Addr) (g1_a : Int) (g2_b : Int) (h : Hp) (Q : PQ) : eW 52 Tryz.f151 A_clog_Log_Beside [(pointer g0_l), (int .i64 g1_a), (int .i64 g2_b)] h Q = F_clog_Log_Beside g0_l g1_a g2_b h Q := by kernel_rfl
theorem O_clog_Log_Beside (g0_l : Option Addr) (g1_a : Int) (g2_b : Int) {h : Hp} {Q : PQ} (H : F_clog_Log_Beside g0_l g1_a g2_b h Q) : S_clog_Log_Beside g0_l g1_a g2_b h Q :=
 fo Tryz.func151 (E_clog_Log_Beside g0_l g1_a g2_b h Q) H
def F_edge_Edges_Add (g0_e : Option Addr) (g1_a : Int) (g2_b : Int) (h : Hp) (Q : PQ) : Prop :=
∀ J1 : PQ, (∀ b2 : Bool, ∀ h3 : Hp, ((if b2 = true then
 (Q [(bool false)] h3) else
 (nilW g0_e fun a4 => ∃ r5 : Option Nat, rd h3 (add a4 1) = some (map r5) ∧
 ∃ es6 : Array MapEntry, mapAt h3 r5 es6 ∧ KeysLike (agg #[(int .i64 g1_a), (int .i64 g2_b)]) es6 ∧ ∃ n7, mgetD (agg #[(int .i64 g1_a), (int .i64 g2_b)]) es6 (int .i64 0) = (int .i64 n7) ∧
 ∃ (m9 : Nat) (es10 : Array MapEntry) (c11 : Nat), r5 = some m9 ∧ h3[m9]? = some (.map es10 c11) ∧ KeysLike (agg #[(int .i64 g1_a), (int .i64 g2_b)]) es10 ∧ ∃ n12, (ment (agg #[(int .i64 g1_a), (int .i64 g2_b)]) es10 c11 (int .i64 0)).1 = (int .i64 n12) ∧ wth (Array.setIfInBounds h3 m9 (ment (agg #[(int .i64 g1_a), (int .i64 g2_b)]) es10 c11 (int .i64 0)).2.2) fun h13 =>
 (∃ es8 : Array MapEntry, mapAt h13 r5 es8 ∧ KeysLike (agg #[(int .i64 g1_a), (int .i64 g2_b)]) es8 ∧ mgetD (agg #[(int .i64 g1_a), (int .i64 g2_b)]) es8 (int .i64 0) = (int .i64 n7)) ∧ ∃ (m14 : Nat) (es15 : Array MapEntry) (c16 : Nat) (es17 : Array MapEntry), r5 = some m14 ∧ h13[m14]? = some (.map es15 c16) ∧ msto (int .i64 (IntKind.wrap .i64 (n7 + 1))) ((ment (agg #[(int .i64 g1_a), (int .i64 g2_b)]) es10 c11 (int .i64 0)).2.1 : Int) es15 = some es17 ∧ wth (Array.setIfInBounds h13 m14 (.map es17 c16)) fun h18 =>
 Q [(bool true)] h18))) → J1 [(bool b2)] h3) →
S_edge_Edges_none g0_e h fun vs19 h20 =>
∃ b21, vs19 = [(bool b21)] ∧
(if b21 = true then (J1 [(bool true)] h20) else
 (nilW g0_e fun a22 => ∃ p23, rd h20 (add a22 0) = some (pointer p23) ∧
 S_clog_Log_Beside p23 g1_a g2_b h20 fun vs24 h25 =>
 ∃ b26, vs24 = [(bool b26)] ∧
 (if (!b26) = true then (J1 [(bool true)] h25) else
 (nilW g0_e fun a27 => ∃ r28 : Option Nat, rd h25 (add a27 1) = some (map r28) ∧
 ∃ es29 : Array MapEntry, mapAt h25 r28 es29 ∧ KeysLike (agg #[(int .i64 g1_a), (int .i64 g2_b)]) es29 ∧ ∃ n30, mgetD (agg #[(int .i64 g1_a), (int .i64 g2_b)]) es29 (int .i64 0) = (int .i64 n30) ∧
 J1 [(bool (decide (n30 > 0)))] h25))))
def A_edge_Edges_Add : Ann := (.mk none ⟨[], []⟩ .nil (.mk none ⟨[], []⟩ (.mk none ⟨[], []⟩ (.mk (some ⟨[0, 1, 2], [(29, (.c .bool))]⟩) ⟨[], []⟩ .nil .nil) .nil) .nil))
theorem E_edge_Edges_Add (g0_e : Option Addr) (g1_a : Int) (g2_b : Int) (h : Hp) (Q : PQ) : eW 41 Tryz.f110 A_edge_Edges_Add [(pointer g0_e), (int .i64 g1_a), (int .i64 g2_b)] h Q = F_edge_Edges_Add g0_e g1_a g2_b h Q := by kernel_rfl
theorem O_edge_Edges_Add (g0_e : Option Addr) (g1_a : Int) (g2_b : Int) {h : Hp} {Q : PQ} (H : F_edge_Edges_Add g0_e g1_a g2_b h Q) : S_edge_Edges_Add g0_e g1_a g2_b h Q :=
 fo Tryz.func110 (E_edge_Edges_Add g0_e g1_a g2_b h Q) H
def F_ssi_Ssi_behind (g0_s : Option Addr) (g1_a : Int) (g2_b : Int) (h : Hp) (Q : PQ) : Prop :=
nilW g0_s fun a1 => ∃ p2, rd h (add a1 2) = some (pointer p2) ∧
S_edge_Edges_Add p2 g1_a g2_b h fun vs3 h4 =>
∃ b5, vs3 = [(bool b5)] ∧
(if b5 = true then
 (S_ssi_Ssi_look g0_s g2_b h4 fun vs6 h7 =>
 vs6 = [] ∧
 S_ssi_Ssi_look g0_s g1_a h7 fun vs8 h9 =>
 vs8 = [] ∧
 Q [] h9) else
 (Q [] h4))
def A_ssi_Ssi_behind : Ann := .nil
theorem E_ssi_Ssi_behind (g0_s : Option Addr) (g1_a : Int) (g2_b : Int) (h : Hp) (Q : PQ) : eW 19 Tryz.f57 A_ssi_Ssi_behind [(pointer g0_s), (int .i64 g1_a), (int .i64 g2_b)] h Q = F_ssi_Ssi_behind g0_s g1_a g2_b h Q := by kernel_rfl
theorem O_ssi_Ssi_behind (g0_s : Option Addr) (g1_a : Int) (g2_b : Int) {h : Hp} {Q : PQ} (H : F_ssi_Ssi_behind g0_s g1_a g2_b h Q) : S_ssi_Ssi_behind g0_s g1_a g2_b h Q :=
 fo Tryz.func57 (E_ssi_Ssi_behind g0_s g1_a g2_b h Q) H
def F_edge_Edges_OldIn (g0_e : Option Addr) (g1_b : Int) (g2_csn : Int) (h : Hp) (Q : PQ) : Prop :=
∀ J1 : PQ, (∀ b2 : Bool, ∀ h3 : Hp, ((if b2 = true then
 (Q [(bool false)] h3) else
 (nilW g0_e fun a4 => ∃ r5 : Option Nat, rd h3 (add a4 2) = some (map r5) ∧
 ∃ (m6 : Nat) (es7 : Array MapEntry) (c8 : Nat), r5 = some m6 ∧ h3[m6]? = some (.map es7 c8) ∧ KeysLike (int .i64 g1_b) es7 ∧ wth (Array.setIfInBounds h3 m6 (mput (int .i64 g1_b) (int .i64 g2_csn) es7 c8)) fun h9 =>
 Q [(bool true)] h9))) → J1 [(bool b2)] h3) →
S_edge_Edges_none g0_e h fun vs10 h11 =>
∃ b12, vs10 = [(bool b12)] ∧
(if b12 = true then (J1 [(bool true)] h11) else
 (nilW g0_e fun a13 => ∃ p14, rd h11 (add a13 0) = some (pointer p14) ∧
 S_clog_Log_State p14 g1_b h11 fun vs15 h16 =>
 ∃ n17, vs15 = [(int .i64 n17)] ∧
 (if (n17 == 0) = true then (J1 [(bool true)] h16) else
 (nilW g0_e fun a18 => ∃ p19, rd h16 (add a18 0) = some (pointer p19) ∧
 S_clog_Log_State p19 g1_b h16 fun vs20 h21 =>
 ∃ n22, vs20 = [(int .i64 n22)] ∧
 (if (n22 == 3) = true then (J1 [(bool true)] h21) else
 (nilW g0_e fun a23 => ∃ p24, rd h21 (add a23 0) = some (pointer p24) ∧
 S_clog_Log_Snapshot p24 g1_b h21 fun vs25 h26 =>
 ∃ n27, vs25 = [(int .i64 n27)] ∧
 (if (decide (g2_csn ≤ n27)) = true then (J1 [(bool true)] h26) else
 (nilW g0_e fun a28 => ∃ r29 : Option Nat, rd h26 (add a28 2) = some (map r29) ∧
 ∃ es30 : Array MapEntry, mapAt h26 r29 es30 ∧ KeysLike (int .i64 g1_b) es30 ∧ ∃ n31, mgetD (int .i64 g1_b) es30 (int .i64 0) = (int .i64 n31) ∧
 J1 [(bool (decide (g2_csn ≤ n31)))] h26))))))))
def A_edge_Edges_OldIn : Ann := (.mk none ⟨[], []⟩ .nil (.mk none ⟨[], []⟩ (.mk none ⟨[], []⟩ (.mk (some ⟨[0, 1, 2], [(46, (.c .bool))]⟩) ⟨[], []⟩ .nil .nil) .nil) .nil))
theorem E_edge_Edges_OldIn (g0_e : Option Addr) (g1_b : Int) (g2_csn : Int) (h : Hp) (Q : PQ) : eW 53 Tryz.f58 A_edge_Edges_OldIn [(pointer g0_e), (int .i64 g1_b), (int .i64 g2_csn)] h Q = F_edge_Edges_OldIn g0_e g1_b g2_csn h Q := by kernel_rfl
theorem O_edge_Edges_OldIn (g0_e : Option Addr) (g1_b : Int) (g2_csn : Int) {h : Hp} {Q : PQ} (H : F_edge_Edges_OldIn g0_e g1_b g2_csn h Q) : S_edge_Edges_OldIn g0_e g1_b g2_csn h Q :=
 fo Tryz.func58 (E_edge_Edges_OldIn g0_e g1_b g2_csn h Q) H
def F_ssi_Ssi_Wrote (g0_s : Option Addr) (g1_xid : Int) (g2_x_0 : Int) (g2_x_1 : ByteArray) (g2_x_2 : Int) (g2_x_3 : ByteArray) (g2_x_4 : Int) (h : Hp) (Q : PQ) : Prop :=
wth (Array.push h (Obj.cells #[(int .i64 g2_x_0), (string g2_x_1), (int .i64 g2_x_2), (string g2_x_3), (int .i64 g2_x_4)] T_siread_Thing)) fun h1 =>
S_ssi_Ssi_runs g0_s g1_xid h1 fun vs2 h3 =>
∃ b4, vs2 = [(bool b4)] ∧
(if (!b4) = true then
 (Q [] h3) else
 (nilW g0_s fun a5 => ∃ p6, rd h3 (add a5 1) = some (pointer p6) ∧
 ∃ n7, rd h3 (add (mk h.size 0 none) 0) = some (int .i64 n7) ∧ ∃ s8, rd h3 (add (mk h.size 0 none) 1) = some (string s8) ∧ ∃ n9, rd h3 (add (mk h.size 0 none) 2) = some (int .i64 n9) ∧ ∃ s10, rd h3 (add (mk h.size 0 none) 3) = some (string s10) ∧ ∃ n11, rd h3 (add (mk h.size 0 none) 4) = some (int .i64 n11) ∧ S_siread_Table_Owners p6 n7 s8 n9 s10 n11 h3 fun vs12 h13 =>
 ∃ l14 : Sl, vs12 = [(slice l14.a l14.n l14.c)] ∧
 ∀ X15 : PQ, (∀ n16 : Int, ∀ h17 : Hp, ((if (decide (n16 < (l14.n : Int))) = true then
 (∀ J18 : PQ, (∀ h19 : Hp, (X15 [(int .i64 (IntKind.wrap .i64 (n16 + 1)))] h19) → J18 [] h19) →
 nilW l14.a fun a20 => ixOk n16 l14.n (∃ n21, rd h17 (add a20 (Int.toNat n16 * 1)) = some (int .i64 n21) ∧
 (if (n21 == g1_xid) = true then
 (J18 [] h17) else
 ((if (decide (n21 > 0)) = true then
 (S_ssi_Ssi_behind g0_s n21 g1_xid h17 fun vs22 h23 =>
 vs22 = [] ∧
 J18 [] h23) else
 (nilW g0_s fun a24 => ∃ p25, rd h17 (add a24 2) = some (pointer p25) ∧
 nilW g0_s fun a26 => ∃ p27, rd h17 (add a26 1) = some (pointer p27) ∧
 S_siread_Table_Old p27 h17 fun vs28 h29 =>
 ∃ n30, vs28 = [(int .i64 n30)] ∧
 rd h29 (add a24 2) = some (pointer p25) ∧ S_edge_Edges_OldIn p25 g1_xid n30 h29 fun vs31 h32 =>
 ∃ b33, vs31 = [(bool b33)] ∧
 (if b33 = true then
 (S_ssi_Ssi_look g0_s g1_xid h32 fun vs34 h35 =>
 vs34 = [] ∧
 J18 [] h35) else
 (J18 [] h32)))))))) else
 (Q [] h17))) → X15 [(int .i64 n16)] h17) →
 X15 [(int .i64 0)] h13))
def A_ssi_Ssi_Wrote : Ann := (.mk none ⟨[], []⟩ .nil (.mk none ⟨[], []⟩ (.mk none ⟨[], []⟩ .nil (.mk none ⟨[], []⟩ .nil (.mk none ⟨[], []⟩ .nil (.mk none ⟨[], []⟩ (.mk none ⟨[0, 1, 17, 18], [(19, (.c (.int .i64)))]⟩ (.mk none ⟨[], []⟩ .nil (.mk none ⟨[], []⟩ .nil (.mk none ⟨[], []⟩ (.mk (some ⟨[0, 1, 17, 18, 19], []⟩) ⟨[], []⟩ .nil .nil) .nil))) .nil) .nil)))) .nil))
theorem E_ssi_Ssi_Wrote (g0_s : Option Addr) (g1_xid : Int) (g2_x_0 : Int) (g2_x_1 : ByteArray) (g2_x_2 : Int) (g2_x_3 : ByteArray) (g2_x_4 : Int) (h : Hp) (Q : PQ) : eW 50 Tryz.f15 A_ssi_Ssi_Wrote [(pointer g0_s), (int .i64 g1_xid), (agg #[(int .i64 g2_x_0), (string g2_x_1), (int .i64 g2_x_2), (string g2_x_3), (int .i64 g2_x_4)])] h Q = F_ssi_Ssi_Wrote g0_s g1_xid g2_x_0 g2_x_1 g2_x_2 g2_x_3 g2_x_4 h Q := by kernel_rfl
theorem O_ssi_Ssi_Wrote (g0_s : Option Addr) (g1_xid : Int) (g2_x_0 : Int) (g2_x_1 : ByteArray) (g2_x_2 : Int) (g2_x_3 : ByteArray) (g2_x_4 : Int) {h : Hp} {Q : PQ} (H : F_ssi_Ssi_Wrote g0_s g1_xid g2_x_0 g2_x_1 g2_x_2 g2_x_3 g2_x_4 h Q) : S_ssi_Ssi_Wrote g0_s g1_xid g2_x_0 g2_x_1 g2_x_2 g2_x_3 g2_x_4 h Q :=
 fo Tryz.func15 (E_ssi_Ssi_Wrote g0_s g1_xid g2_x_0 g2_x_1 g2_x_2 g2_x_3 g2_x_4 h Q) H
def F_siread_Table_Drop (g0_t : Option Addr) (g1_xid : Int) (h : Hp) (Q : PQ) : Prop :=
(if (Option.isNone g0_t) = true then
 (Q [] h) else
 (S_siread_Table_lose g0_t g1_xid 119 #[] h fun vs1 h2 =>
 vs1 = [] ∧
 nilW g0_t fun a3 => ∃ r4 : Option Nat, rd h2 (add a3 2) = some (map r4) ∧
 ∃ (m5 : Nat) (es6 : Array MapEntry) (c7 : Nat), r4 = some m5 ∧ h2[m5]? = some (.map es6 c7) ∧ KeysLike (int .i64 g1_xid) es6 ∧ wth (Array.setIfInBounds h2 m5 (mdel (int .i64 g1_xid) es6 c7)) fun h8 =>
 (if (g1_xid == 0) = true then
 (nilW g0_t fun a9 => stOk h8 (add a9 4) 1 ∧ wth (wrs h8 (add a9 4) 0 [(int .i64 0)]) fun h10 =>
 Q [] h10) else
 (Q [] h8))))
def A_siread_Table_Drop : Ann := .nil
theorem E_siread_Table_Drop (g0_t : Option Addr) (g1_xid : Int) (h : Hp) (Q : PQ) : eW 19 Tryz.f65 A_siread_Table_Drop [(pointer g0_t), (int .i64 g1_xid)] h Q = F_siread_Table_Drop g0_t g1_xid h Q := by kernel_rfl
theorem O_siread_Table_Drop (g0_t : Option Addr) (g1_xid : Int) {h : Hp} {Q : PQ} (H : F_siread_Table_Drop g0_t g1_xid h Q) : S_siread_Table_Drop g0_t g1_xid h Q :=
 fo Tryz.func65 (E_siread_Table_Drop g0_t g1_xid h Q) H
def F_slices_DeleteFunc_sint_int (g0_s : Sl) (g1_del_f : Nat) (g1_del_c : Array Value) (h : Hp) (Q : PQ) : Prop :=
S_slices_IndexFunc_sint_int ⟨g0_s.a, g0_s.n, g0_s.c⟩ g1_del_f g1_del_c h fun vs1 h2 =>
∃ n3, vs1 = [(int .i64 n3)] ∧
(if (n3 == (-1 : Int)) = true then
 (Q [(slice g0_s.a g0_s.n g0_s.c)] h2) else
 (∀ X4 : PQ, (∀ n5 : Int, ∀ n6 : Int, ∀ h7 : Hp, ((if (decide (n6 < (g0_s.n : Int))) = true then
 (∀ J8 : PQ, (∀ n9 : Int, ∀ h10 : Hp, (X4 [(int .i64 n9), (int .i64 (IntKind.wrap .i64 (n6 + 1)))] h10) → J8 [(int .i64 n9)] h10) →
 nilW g0_s.a fun a11 => ixOk n6 g0_s.n (∃ n12, rd h7 (add a11 (Int.toNat n6 * 1)) = some (int .i64 n12) ∧
 Fn PP g1_del_f ((#[] ++ #[(int .i64 n12)]) ++ g1_del_c) h7 fun vs13 h14 =>
 ∃ b15, vs13 = [(bool b15)] ∧
 (if (!b15) = true then
 (nilW g0_s.a fun a16 => ixOk n5 g0_s.n (stOk h14 (add a16 (Int.toNat n5 * 1)) 1 ∧ wth (wrs h14 (add a16 (Int.toNat n5 * 1)) 0 [(int .i64 n12)]) fun h17 =>
 J8 [(int .i64 (IntKind.wrap .i64 (n5 + 1)))] h17)) else
 (J8 [(int .i64 n5)] h14)))) else
 ((0 ≤ n5 ∧ n5 ≤ (g0_s.n : Nat)) ∧ (List.all (Array.toList (zc PP T_int)) oneCell = true ∧ ∀ a : Addr, (slAd g0_s.a (Int.toNat n5) g0_s.c 1) = some a → stOk h7 a ((g0_s.n - (Int.toNat n5)) * Array.size (zc PP T_int))) ∧ wth (cpHp h7 (if (g0_s.n - (Int.toNat n5)) = 0 then none else (slAd g0_s.a (Int.toNat n5) g0_s.c 1)) (Array.toList (Builtin.zeroCells (zc PP T_int) (g0_s.n - (Int.toNat n5))))) fun h18 =>
 (0 ≤ n5 ∧ n5 ≤ (g0_s.c : Nat)) ∧ Q [(slice (slAd g0_s.a 0 g0_s.c 1) ((Int.toNat n5) - 0) (g0_s.c - 0))] h18))) → X4 [(int .i64 n5), (int .i64 n6)] h7) →
 X4 [(int .i64 n3), (int .i64 (IntKind.wrap .i64 (n3 + 1)))] h2))
def A_slices_DeleteFunc_sint_int : Ann := (.mk none ⟨[], []⟩ .nil (.mk none ⟨[], []⟩ .nil (.mk none ⟨[], []⟩ .nil (.mk none ⟨[], []⟩ (.mk none ⟨[], []⟩ .nil (.mk none ⟨[], []⟩ (.mk none ⟨[0, 1], [(5, (.c (.int .i64))), (6, (.c (.int .i64)))]⟩ (.mk none ⟨[], []⟩ .nil (.mk none ⟨[], []⟩ (.mk (some ⟨[0, 1, 6], [(5, (.c (.int .i64)))]⟩) ⟨[], []⟩ .nil .nil) .nil)) .nil) .nil)) .nil))))
theorem E_slices_DeleteFunc_sint_int (g0_s : Sl) (g1_del_f : Nat) (g1_del_c : Array Value) (h : Hp) (Q : PQ) : eW 42 Tryz.f114 A_slices_DeleteFunc_sint_int [(slice g0_s.a g0_s.n g0_s.c), (Value.func (.func g1_del_f) #[] g1_del_c)] h Q = F_slices_DeleteFunc_sint_int g0_s g1_del_f g1_del_c h Q := by kernel_rfl
theorem O_slices_DeleteFunc_sint_int (g0_s : Sl) (g1_del_f : Nat) (g1_del_c : Array Value) {h : Hp} {Q : PQ} (H : F_slices_DeleteFunc_sint_int g0_s g1_del_f g1_del_c h Q) : S_slices_DeleteFunc_sint_int g0_s g1_del_f g1_del_c h Q :=
 fo Tryz.func114 (E_slices_DeleteFunc_sint_int g0_s g1_del_f g1_del_c h Q) H
def F_siread_Table_Fold (g0_t : Option Addr) (g1_xid : Int) (g2_csn : Int) (h : Hp) (Q : PQ) : Prop :=
∀ J1 : PQ, (∀ b2 : Bool, ∀ h3 : Hp, ((if b2 = true then
 (Q [] h3) else
 (S_siread_Table_Of g0_t g1_xid h3 fun vs4 h5 =>
 ∃ l6 : Sl, vs4 = [(slice l6.a l6.n l6.c)] ∧
 S_siread_Table_Drop g0_t g1_xid h5 fun vs7 h8 =>
 vs7 = [] ∧
 ∀ X9 : PQ, (∀ n10 : Int, ∀ h11 : Hp, ((if (decide (n10 < (l6.n : Int))) = true then
 (nilW l6.a fun a12 => ixOk n10 l6.n (∃ n13, rd h11 (add (add a12 (Int.toNat n10 * 5)) 0) = some (int .i64 n13) ∧ ∃ s14, rd h11 (add (add a12 (Int.toNat n10 * 5)) 1) = some (string s14) ∧ ∃ n15, rd h11 (add (add a12 (Int.toNat n10 * 5)) 2) = some (int .i64 n15) ∧ ∃ s16, rd h11 (add (add a12 (Int.toNat n10 * 5)) 3) = some (string s16) ∧ ∃ n17, rd h11 (add (add a12 (Int.toNat n10 * 5)) 4) = some (int .i64 n17) ∧ wth (Array.push h11 (Obj.cells #[(int .i64 0), (string (ByteArray.mk #[])), (int .i64 0), (string (ByteArray.mk #[])), (int .i64 0)] T_siread_Thing)) fun h18 =>
 stOk h18 (mk h11.size 0 none) 5 ∧ wth (wrs h18 (mk h11.size 0 none) 0 [(int .i64 n13), (string s14), (int .i64 n15), (string s16), (int .i64 n17)]) fun h19 =>
 ∃ n20, rd h19 (add (mk h11.size 0 none) 0) = some (int .i64 n20) ∧ ∃ s21, rd h19 (add (mk h11.size 0 none) 1) = some (string s21) ∧ ∃ n22, rd h19 (add (mk h11.size 0 none) 2) = some (int .i64 n22) ∧ ∃ s23, rd h19 (add (mk h11.size 0 none) 3) = some (string s23) ∧ ∃ n24, rd h19 (add (mk h11.size 0 none) 4) = some (int .i64 n24) ∧ S_siread_Table_take g0_t 0 n20 s21 n22 s23 n24 h19 fun vs25 h26 =>
 vs25 = [] ∧
 X9 [(int .i64 (IntKind.wrap .i64 (n10 + 1)))] h26)) else
 (nilW g0_t fun a27 => ∃ n28, rd h11 (add a27 4) = some (int .i64 n28) ∧
 nilW g0_t fun a29 => stOk h11 (add a29 4) 1 ∧ wth (wrs h11 (add a29 4) 0 [(int .i64 (mxI n28 g2_csn))]) fun h30 =>
 Q [] h30))) → X9 [(int .i64 n10)] h11) →
 X9 [(int .i64 0)] h8))) → J1 [(bool b2)] h3) →
(if (Option.isNone g0_t) = true then (J1 [(bool true)] h) else
 (S_siread_one g1_xid h fun vs31 h32 =>
 ∃ b33, vs31 = [(bool b33)] ∧
 J1 [(bool (!b33))] h32))
def A_siread_Table_Fold : Ann := (.mk none ⟨[], []⟩ (.mk none ⟨[], []⟩ (.mk (some ⟨[0, 1, 2], [(15, (.c .bool))]⟩) ⟨[], []⟩ .nil .nil) .nil) (.mk none ⟨[], []⟩ .nil (.mk none ⟨[], []⟩ .nil (.mk none ⟨[], []⟩ (.mk none ⟨[], []⟩ .nil (.mk none ⟨[], []⟩ (.mk none ⟨[0, 2, 22, 23], [(24, (.c (.int .i64)))]⟩ .nil .nil) .nil)) .nil))))
theorem E_siread_Table_Fold (g0_t : Option Addr) (g1_xid : Int) (g2_csn : Int) (h : Hp) (Q : PQ) : eW 41 Tryz.f117 A_siread_Table_Fold [(pointer g0_t), (int .i64 g1_xid), (int .i64 g2_csn)] h Q = F_siread_Table_Fold g0_t g1_xid g2_csn h Q := by kernel_rfl
theorem O_siread_Table_Fold (g0_t : Option Addr) (g1_xid : Int) (g2_csn : Int) {h : Hp} {Q : PQ} (H : F_siread_Table_Fold g0_t g1_xid g2_csn h Q) : S_siread_Table_Fold g0_t g1_xid g2_csn h Q :=
 fo Tryz.func117 (E_siread_Table_Fold g0_t g1_xid g2_csn h Q) H
def F_ssi_Ssi_clean (g0_s : Option Addr) (h : Hp) (Q : PQ) : Prop :=
wth (Array.push h (Obj.cells #[(pointer g0_s)] T_pssi_Ssi)) fun h1 =>
∃ p2, rd h1 (mk h.size 0 none) = some (pointer p2) ∧
∃ p3, rd h1 (mk h.size 0 none) = some (pointer p3) ∧
nilW p3 fun a4 => ∃ l5 : Sl, rd h1 (add a4 4) = some (slice l5.a l5.n l5.c) ∧
S_slices_DeleteFunc_sint_int ⟨l5.a, l5.n, l5.c⟩ 115 #[(pointer (some (mk h.size 0 none)))] h1 fun vs6 h7 =>
∃ l8 : Sl, vs6 = [(slice l8.a l8.n l8.c)] ∧
rd h7 (mk h.size 0 none) = some (pointer p2) ∧ nilW p2 fun a9 => stOk h7 (add a9 4) 1 ∧ wth (wrs h7 (add a9 4) 0 [(slice l8.a l8.n l8.c)]) fun h10 =>
∀ X11 : PQ, (∀ h12 : Hp, (∃ p13, rd h12 (mk h.size 0 none) = some (pointer p13) ∧
 nilW p13 fun a14 => ∃ l15 : Sl, rd h12 (add a14 4) = some (slice l15.a l15.n l15.c) ∧
 ∃ p16, rd h12 (mk h.size 0 none) = some (pointer p16) ∧
 nilW p16 fun a17 => ∃ n18, rd h12 (add a17 3) = some (int .i64 n18) ∧
 (if (decide ((l15.n : Int) > n18)) = true then
 (∃ p19, rd h12 (mk h.size 0 none) = some (pointer p19) ∧
 nilW p19 fun a20 => ∃ p21, rd h12 (add a20 1) = some (pointer p21) ∧
 ∃ p22, rd h12 (mk h.size 0 none) = some (pointer p22) ∧
 nilW p22 fun a23 => ∃ l24 : Sl, rd h12 (add a23 4) = some (slice l24.a l24.n l24.c) ∧
 nilW l24.a fun a25 => ixOk 0 l24.n (∃ n26, rd h12 (add a25 (Int.toNat 0 * 1)) = some (int .i64 n26) ∧
 ∃ p27, rd h12 (mk h.size 0 none) = some (pointer p27) ∧
 nilW p27 fun a28 => ∃ p29, rd h12 (add a28 0) = some (pointer p29) ∧
 ∃ p30, rd h12 (mk h.size 0 none) = some (pointer p30) ∧
 nilW p30 fun a31 => ∃ l32 : Sl, rd h12 (add a31 4) = some (slice l32.a l32.n l32.c) ∧
 nilW l32.a fun a33 => ixOk 0 l32.n (∃ n34, rd h12 (add a33 (Int.toNat 0 * 1)) = some (int .i64 n34) ∧
 S_clog_Log_Csn p29 n34 h12 fun vs35 h36 =>
 ∃ n37, vs35 = [(int .i64 n37)] ∧
 rd h36 (add a25 (Int.toNat 0 * 1)) = some (int .i64 n26) ∧ rd h36 (add a23 4) = some (slice l24.a l24.n l24.c) ∧ rd h36 (mk h.size 0 none) = some (pointer p22) ∧ rd h36 (add a20 1) = some (pointer p21) ∧ rd h36 (mk h.size 0 none) = some (pointer p19) ∧ S_siread_Table_Fold p21 n26 n37 h36 fun vs38 h39 =>
 vs38 = [] ∧
 ∃ p40, rd h39 (mk h.size 0 none) = some (pointer p40) ∧
 ∃ p41, rd h39 (mk h.size 0 none) = some (pointer p41) ∧
 nilW p41 fun a42 => ∃ l43 : Sl, rd h39 (add a42 4) = some (slice l43.a l43.n l43.c) ∧
 (0 ≤ (1 : Int) ∧ (1 : Int) ≤ (l43.n : Nat)) ∧ nilW p40 fun a44 => stOk h39 (add a44 4) 1 ∧ wth (wrs h39 (add a44 4) 0 [(slice (slAd l43.a (Int.toNat 1) l43.c 1) (l43.n - (Int.toNat 1)) (l43.c - (Int.toNat 1)))]) fun h45 =>
 X11 [] h45))) else
 (∀ J46 : PQ, (∀ b47 : Bool, ∀ h48 : Hp, ((if b47 = true then
 (∃ p49, rd h48 (mk h.size 0 none) = some (pointer p49) ∧
 nilW p49 fun a50 => ∃ p51, rd h48 (add a50 1) = some (pointer p51) ∧
 S_siread_Table_Drop p51 0 h48 fun vs52 h53 =>
 vs52 = [] ∧
 Q [] h53) else
 (Q [] h48))) → J46 [(bool b47)] h48) →
 ∃ p54, rd h12 (mk h.size 0 none) = some (pointer p54) ∧
 nilW p54 fun a55 => ∃ l56 : Sl, rd h12 (add a55 4) = some (slice l56.a l56.n l56.c) ∧
 (if ((l56.n : Int) == 0) = true then (∃ p57, rd h12 (mk h.size 0 none) = some (pointer p57) ∧
 nilW p57 fun a58 => ∃ p59, rd h12 (add a58 0) = some (pointer p59) ∧
 S_clog_Log_Running p59 h12 fun vs60 h61 =>
 ∃ l62 : Sl, vs60 = [(slice l62.a l62.n l62.c)] ∧
 J46 [(bool ((l62.n : Int) == 0))] h61) else
 (J46 [(bool false)] h12))))) → X11 [] h12) →
X11 [] h10
def A_ssi_Ssi_clean : Ann := (.mk none ⟨[], []⟩ .nil (.mk none ⟨[], []⟩ .nil (.mk none ⟨[], []⟩ (.mk none ⟨[], []⟩ (.mk none ⟨[1], []⟩ .nil .nil) .nil) (.mk none ⟨[], []⟩ (.mk (some ⟨[1], [(65, (.c .bool))]⟩) ⟨[], []⟩ .nil .nil) .nil))))
theorem E_ssi_Ssi_clean (g0_s : Option Addr) (h : Hp) (Q : PQ) : eW 71 Tryz.f62 A_ssi_Ssi_clean [(pointer g0_s)] h Q = F_ssi_Ssi_clean g0_s h Q := by kernel_rfl
theorem O_ssi_Ssi_clean (g0_s : Option Addr) {h : Hp} {Q : PQ} (H : F_ssi_Ssi_clean g0_s h Q) : S_ssi_Ssi_clean g0_s h Q :=
 fo Tryz.func62 (E_ssi_Ssi_clean g0_s h Q) H
def F_clog_Log_ends (g0_l : Option Addr) (g1_xid : Int) (h : Hp) (Q : PQ) : Prop :=
(if (Option.isNone g0_l) = true then
 (Q [(pointer none), (int .i64 1)] h) else
 (S_clog_Log_get g0_l g1_xid h fun vs1 h2 =>
 ∃ p3, vs1 = [(pointer p3)] ∧
 ∀ J4 : PQ, (∀ b5 : Bool, ∀ h6 : Hp, ((if b5 = true then
 (Q [(pointer none), (int .i64 76)] h6) else
 (Q [(pointer p3), (int .i64 0)] h6))) → J4 [(bool b5)] h6) →
 (if (Option.isNone p3) = true then (J4 [(bool true)] h2) else
 (nilW p3 fun a7 => ∃ n8, rd h2 (add a7 0) = some (int .i64 n8) ∧
 J4 [(bool (n8 != 1))] h2))))
def A_clog_Log_ends : Ann := (.mk none ⟨[], []⟩ .nil (.mk none ⟨[], []⟩ .nil (.mk none ⟨[], []⟩ .nil (.mk none ⟨[], []⟩ (.mk none ⟨[], []⟩ (.mk (some ⟨[6], [(20, (.c .bool))]⟩) ⟨[], []⟩ .nil .nil) .nil) .nil))))
theorem E_clog_Log_ends (g0_l : Option Addr) (g1_xid : Int) (h : Hp) (Q : PQ) : eW 22 Tryz.f113 A_clog_Log_ends [(pointer g0_l), (int .i64 g1_xid)] h Q = F_clog_Log_ends g0_l g1_xid h Q := by kernel_rfl
theorem O_clog_Log_ends (g0_l : Option Addr) (g1_xid : Int) {h : Hp} {Q : PQ} (H : F_clog_Log_ends g0_l g1_xid h Q) : S_clog_Log_ends g0_l g1_xid h Q :=
 fo Tryz.func113 (E_clog_Log_ends g0_l g1_xid h Q) H
def F_clog_Log_Abort (g0_l : Option Addr) (g1_xid : Int) (h : Hp) (Q : PQ) : Prop :=
S_clog_Log_ends g0_l g1_xid h fun vs1 h2 =>
∃ p3, ∃ n4, vs1 = [(pointer p3), (int .i64 n4)] ∧
∀ J5 : PQ, (∀ h6 : Hp, (Q [(int .i64 n4)] h6) → J5 [] h6) →
(if (n4 == 0) = true then
 (nilW p3 fun a7 => stOk h2 (add a7 0) 1 ∧ wth (wrs h2 (add a7 0) 0 [(int .i64 3)]) fun h8 =>
 J5 [] h8) else
 (J5 [] h2))
def A_clog_Log_Abort : Ann := (.mk none ⟨[], []⟩ .nil (.mk none ⟨[], []⟩ .nil (.mk none ⟨[], []⟩ (.mk none ⟨[], []⟩ .nil (.mk (some ⟨[6], []⟩) ⟨[], []⟩ .nil .nil)) .nil)))
theorem E_clog_Log_Abort (g0_l : Option Addr) (g1_xid : Int) (h : Hp) (Q : PQ) : eW 19 Tryz.f64 A_clog_Log_Abort [(pointer g0_l), (int .i64 g1_xid)] h Q = F_clog_Log_Abort g0_l g1_xid h Q := by kernel_rfl
theorem O_clog_Log_Abort (g0_l : Option Addr) (g1_xid : Int) {h : Hp} {Q : PQ} (H : F_clog_Log_Abort g0_l g1_xid h Q) : S_clog_Log_Abort g0_l g1_xid h Q :=
 fo Tryz.func64 (E_clog_Log_Abort g0_l g1_xid h Q) H
def F_maps_DeleteFunc_map_2_int_int_2_int_int (g0_m : Option Nat) (g1_del_f : Nat) (g1_del_c : Array Value) (h : Hp) (Q : PQ) : Prop :=
∃ o1 : Obj, IterOf h g0_m o1 ∧ wth (Array.push h o1) fun h2 =>
∀ X3 : PQ, (∀ h4 : Hp, ((Addr.off (mk h.size 0 none) = 0 ∧ ∃ o5 : Obj, h4[Addr.block (mk h.size 0 none)]? = some o5 ∧ IterGood h4 o5 ∧
 (IterEnd h4 o5 → Q [] h4) ∧
 ∀ (k6 v7 : Value) (o8 : Obj), IterStep h4 o5 k6 v7 o8 → wth (Array.setIfInBounds h4 (Addr.block (mk h.size 0 none)) o8) fun h9 =>
 (Addr.off (mk h.size 0 none) = 0 ∧ ∃ (m10 n11 : Nat) (q12 : Array Nat) (n13 : Nat) (es14 : Array MapEntry) (c15 : Nat) (e16 : MapEntry), h9[Addr.block (mk h.size 0 none)]? = some (.mapIter (some m10) n11 q12 c15) ∧ Array.back? q12 = some n13 ∧ h9[m10]? = some (.map es14 c15) ∧ Array.find? (fun x => x.born == n13) es14 = some e16 ∧ ∃ n17, ∃ n18, e16.key = (agg #[(int .i64 n17), (int .i64 n18)]) ∧ ∃ n19, e16.val = (int .i64 n19) ∧ wth (Array.push h9 (Obj.cells #[(int .i64 0), (int .i64 0)] T_2_int)) fun h20 =>
 stOk h20 (mk h9.size 0 none) 2 ∧ wth (wrs h20 (mk h9.size 0 none) 0 [(int .i64 n17), (int .i64 n18)]) fun h21 =>
 ∃ n22, rd h21 (add (mk h9.size 0 none) 0) = some (int .i64 n22) ∧ ∃ n23, rd h21 (add (mk h9.size 0 none) 1) = some (int .i64 n23) ∧ Fn PP g1_del_f ((#[] ++ #[(agg #[(int .i64 n22), (int .i64 n23)]), (int .i64 n19)]) ++ g1_del_c) h21 fun vs24 h25 =>
 ∃ b26, vs24 = [(bool b26)] ∧
 (if b26 = true then
 (∃ n27, rd h25 (add (mk h9.size 0 none) 0) = some (int .i64 n27) ∧ ∃ n28, rd h25 (add (mk h9.size 0 none) 1) = some (int .i64 n28) ∧ ∃ (m29 : Nat) (es30 : Array MapEntry) (c31 : Nat), g0_m = some m29 ∧ h25[m29]? = some (.map es30 c31) ∧ KeysLike (agg #[(int .i64 n27), (int .i64 n28)]) es30 ∧ wth (Array.setIfInBounds h25 m29 (mdel (agg #[(int .i64 n27), (int .i64 n28)]) es30 c31)) fun h32 =>
 X3 [] h32) else
 (X3 [] h25))))) → X3 [] h4) →
X3 [] h2
def A_maps_DeleteFunc_map_2_int_int_2_int_int : Ann := (.mk none ⟨[], []⟩ .nil (.mk none ⟨[], []⟩ (.mk none ⟨[0, 1, 7], []⟩ .nil .nil) .nil))
theorem E_maps_DeleteFunc_map_2_int_int_2_int_int (g0_m : Option Nat) (g1_del_f : Nat) (g1_del_c : Array Value) (h : Hp) (Q : PQ) : cw PP 19 (fun d => if d = 10 then [(.agg [(.int .i64), (.int .i64)]), (.c (.int .i64))] else []) (bodyOf Tryz.f120) A_maps_DeleteFunc_map_2_int_int_2_int_int (finQ PP (Tryz.f120.results.toList) Q) (argFr [(map g0_m), (Value.func (.func g1_del_f) #[] g1_del_c)]) h = F_maps_DeleteFunc_map_2_int_int_2_int_int g0_m g1_del_f g1_del_c h Q := by kernel_rfl
theorem O_maps_DeleteFunc_map_2_int_int_2_int_int (g0_m : Option Nat) (g1_del_f : Nat) (g1_del_c : Array Value) {h : Hp} {Q : PQ} (H : F_maps_DeleteFunc_map_2_int_int_2_int_int g0_m g1_del_f g1_del_c h Q) : S_maps_DeleteFunc_map_2_int_int_2_int_int g0_m g1_del_f g1_del_c h Q :=
 fn_of_cw (hs := (fun d => if d = 10 then [(.agg [(.int .i64), (.int .i64)]), (.c (.int .i64))] else [])) (ann := A_maps_DeleteFunc_map_2_int_int_2_int_int) (args := [(map g0_m), (Value.func (.func g1_del_f) #[] g1_del_c)]) mixedPP Tryz.func120 (c := bodyOf Tryz.f120) (by kernel_rfl) (by kernel_rfl) (by kernel_rfl) (Eq.mpr (E_maps_DeleteFunc_map_2_int_int_2_int_int g0_m g1_del_f g1_del_c h Q) H)
def F_edge_Edges_Drop (g0_e : Option Addr) (g1_xid : Int) (h : Hp) (Q : PQ) : Prop :=
wth (Array.push h (Obj.cells #[(int .i64 g1_xid)] T_int)) fun h1 =>
S_edge_Edges_none g0_e h1 fun vs2 h3 =>
∃ b4, vs2 = [(bool b4)] ∧
(if b4 = true then
 (Q [] h3) else
 (nilW g0_e fun a5 => ∃ r6 : Option Nat, rd h3 (add a5 1) = some (map r6) ∧
 S_maps_DeleteFunc_map_2_int_int_2_int_int r6 121 #[(pointer (some (mk h.size 0 none)))] h3 fun vs7 h8 =>
 vs7 = [] ∧
 nilW g0_e fun a9 => ∃ r10 : Option Nat, rd h8 (add a9 2) = some (map r10) ∧
 ∃ n11, rd h8 (mk h.size 0 none) = some (int .i64 n11) ∧
 ∃ (m12 : Nat) (es13 : Array MapEntry) (c14 : Nat), r10 = some m12 ∧ h8[m12]? = some (.map es13 c14) ∧ KeysLike (int .i64 n11) es13 ∧ wth (Array.setIfInBounds h8 m12 (mdel (int .i64 n11) es13 c14)) fun h15 =>
 Q [] h15))
def A_edge_Edges_Drop : Ann := .nil
theorem E_edge_Edges_Drop (g0_e : Option Addr) (g1_xid : Int) (h : Hp) (Q : PQ) : eW 17 Tryz.f66 A_edge_Edges_Drop [(pointer g0_e), (int .i64 g1_xid)] h Q = F_edge_Edges_Drop g0_e g1_xid h Q := by kernel_rfl
theorem O_edge_Edges_Drop (g0_e : Option Addr) (g1_xid : Int) {h : Hp} {Q : PQ} (H : F_edge_Edges_Drop g0_e g1_xid h Q) : S_edge_Edges_Drop g0_e g1_xid h Q :=
 fo Tryz.func66 (E_edge_Edges_Drop g0_e g1_xid h Q) H
def F_ssi_Ssi_Abort (g0_s : Option Addr) (g1_xid : Int) (h : Hp) (Q : PQ) : Prop :=
(if (Option.isNone g0_s) = true then
 (Q [(int .i64 1)] h) else
 (S_ssi_Ssi_runs g0_s g1_xid h fun vs1 h2 =>
 ∃ b3, vs1 = [(bool b3)] ∧
 (if (!b3) = true then
 (Q [(int .i64 76)] h2) else
 (nilW g0_s fun a4 => ∃ p5, rd h2 (add a4 0) = some (pointer p5) ∧
 S_clog_Log_Abort p5 g1_xid h2 fun vs6 h7 =>
 ∃ n8, vs6 = [(int .i64 n8)] ∧
 nilW g0_s fun a9 => ∃ p10, rd h7 (add a9 1) = some (pointer p10) ∧
 S_siread_Table_Drop p10 g1_xid h7 fun vs11 h12 =>
 vs11 = [] ∧
 nilW g0_s fun a13 => ∃ p14, rd h12 (add a13 2) = some (pointer p14) ∧
 S_edge_Edges_Drop p14 g1_xid h12 fun vs15 h16 =>
 vs15 = [] ∧
 S_ssi_Ssi_clean g0_s h16 fun vs17 h18 =>
 vs17 = [] ∧
 Q [(int .i64 0)] h18))))
def A_ssi_Ssi_Abort : Ann := .nil
theorem E_ssi_Ssi_Abort (g0_s : Option Addr) (g1_xid : Int) (h : Hp) (Q : PQ) : eW 33 Tryz.f19 A_ssi_Ssi_Abort [(pointer g0_s), (int .i64 g1_xid)] h Q = F_ssi_Ssi_Abort g0_s g1_xid h Q := by kernel_rfl
theorem O_ssi_Ssi_Abort (g0_s : Option Addr) (g1_xid : Int) {h : Hp} {Q : PQ} (H : F_ssi_Ssi_Abort g0_s g1_xid h Q) : S_ssi_Ssi_Abort g0_s g1_xid h Q :=
 fo Tryz.func19 (E_ssi_Ssi_Abort g0_s g1_xid h Q) H
def F_ssi_Ssi_Doomed (g0_s : Option Addr) (g1_xid : Int) (h : Hp) (Q : PQ) : Prop :=
(if (!(Option.isNone g0_s)) = true then (nilW g0_s fun a1 => ∃ r2 : Option Nat, rd h (add a1 5) = some (map r2) ∧
 ∃ es3 : Array MapEntry, mapAt h r2 es3 ∧ KeysLike (int .i64 g1_xid) es3 ∧ ∃ n4, mgetD (int .i64 g1_xid) es3 (int .i64 0) = (int .i64 n4) ∧
 Q [(bool (decide (n4 > 0)))] h) else
 (Q [(bool false)] h))
def A_ssi_Ssi_Doomed : Ann := .nil
theorem E_ssi_Ssi_Doomed (g0_s : Option Addr) (g1_xid : Int) (h : Hp) (Q : PQ) : eW 16 Tryz.f26 A_ssi_Ssi_Doomed [(pointer g0_s), (int .i64 g1_xid)] h Q = F_ssi_Ssi_Doomed g0_s g1_xid h Q := by kernel_rfl
theorem O_ssi_Ssi_Doomed (g0_s : Option Addr) (g1_xid : Int) {h : Hp} {Q : PQ} (H : F_ssi_Ssi_Doomed g0_s g1_xid h Q) : S_ssi_Ssi_Doomed g0_s g1_xid h Q :=
 fo Tryz.func26 (E_ssi_Ssi_Doomed g0_s g1_xid h Q) H
def F_edge_Edges_Ahead (g0_e : Option Addr) (g1_t3 : Int) (h : Hp) (Q : PQ) : Prop :=
S_edge_Edges_In g0_e g1_t3 h fun vs1 h2 =>
∃ l3 : Sl, vs1 = [(slice l3.a l3.n l3.c)] ∧
∀ X4 : PQ, (∀ l5 : Sl, ∀ n6 : Int, ∀ h7 : Hp, ((if (decide (n6 < (l3.n : Int))) = true then
 (∀ J8 : PQ, (∀ l9 : Sl, ∀ h10 : Hp, (X4 [(slice l9.a l9.n l9.c), (int .i64 (IntKind.wrap .i64 (n6 + 1)))] h10) → J8 [(slice l9.a l9.n l9.c)] h10) →
 nilW l3.a fun a11 => ixOk n6 l3.n (∃ n12, rd h7 (add a11 (Int.toNat n6 * 1)) = some (int .i64 n12) ∧
 nilW g0_e fun a13 => ∃ p14, rd h7 (add a13 0) = some (pointer p14) ∧
 S_clog_Log_State p14 n12 h7 fun vs15 h16 =>
 ∃ n17, vs15 = [(int .i64 n17)] ∧
 (if (n17 != 1) = true then
 (J8 [(slice l5.a l5.n l5.c)] h16) else
 (S_edge_Edges_In g0_e n12 h16 fun vs18 h19 =>
 ∃ l20 : Sl, vs18 = [(slice l20.a l20.n l20.c)] ∧
 ∀ X21 : PQ, (∀ l22 : Sl, ∀ n23 : Int, ∀ h24 : Hp, ((if (decide (n23 < (l20.n : Int))) = true then
 (nilW l20.a fun a25 => ixOk n23 l20.n (∃ n26, rd h24 (add a25 (Int.toNat n23 * 1)) = some (int .i64 n26) ∧
 ∀ J27 : PQ, (∀ b28 : Bool, ∀ h29 : Hp, ((if b28 = true then
 (wth (Array.push h29 (Obj.cells #[(int .i64 n12)] T_int)) fun h30 =>
 ∃ cs33 : List Value, cellsAt h30 (some (mk h29.size 0 none)) (1 * 1) cs33 ∧ appS PP T_int 8 1 h30 ⟨l22.a, l22.n, l22.c⟩ 1 cs33 fun (l31 : Sl) (h32 : Hp) =>
 J8 [(slice l31.a l31.n l31.c)] h32) else
 (X21 [(slice l22.a l22.n l22.c), (int .i64 (IntKind.wrap .i64 (n23 + 1)))] h29))) → J27 [(bool b28)] h29) →
 (if (n26 == g1_t3) = true then (nilW g0_e fun a34 => ∃ p35, rd h24 (add a34 0) = some (pointer p35) ∧
 S_clog_Log_Reads p35 n26 h24 fun vs36 h37 =>
 ∃ b38, vs36 = [(bool b38)] ∧
 J27 [(bool (!b38))] h37) else
 (nilW g0_e fun a39 => ∃ p40, rd h24 (add a39 0) = some (pointer p40) ∧
 S_clog_Log_State p40 n26 h24 fun vs41 h42 =>
 ∃ n43, vs41 = [(int .i64 n43)] ∧
 (if (n43 == 1) = true then (nilW g0_e fun a44 => ∃ p45, rd h42 (add a44 0) = some (pointer p45) ∧
 S_clog_Log_Reads p45 n26 h42 fun vs46 h47 =>
 ∃ b48, vs46 = [(bool b48)] ∧
 J27 [(bool (!b48))] h47) else
 (J27 [(bool false)] h42)))))) else
 (J8 [(slice l22.a l22.n l22.c)] h24))) → X21 [(slice l22.a l22.n l22.c), (int .i64 n23)] h24) →
 X21 [(slice l5.a l5.n l5.c), (int .i64 0)] h19)))) else
 (Q [(slice l5.a l5.n l5.c)] h7))) → X4 [(slice l5.a l5.n l5.c), (int .i64 n6)] h7) →
X4 [(slice none 0 0), (int .i64 0)] h2
def A_edge_Edges_Ahead : Ann := (.mk none ⟨[], []⟩ .nil (.mk none ⟨[], []⟩ (.mk none ⟨[], []⟩ .nil (.mk none ⟨[], []⟩ .nil (.mk none ⟨[], []⟩ (.mk none ⟨[], []⟩ .nil (.mk none ⟨[], []⟩ (.mk none ⟨[0, 1, 12, 13], [(5, (.c .sl)), (14, (.c (.int .i64)))]⟩ (.mk none ⟨[], []⟩ .nil (.mk none ⟨[], []⟩ .nil (.mk none ⟨[], []⟩ (.mk (some ⟨[0, 1, 12, 13, 14], [(5, (.c .sl))]⟩) ⟨[], []⟩ (.mk none ⟨[], []⟩ .nil (.mk none ⟨[], []⟩ .nil (.mk none ⟨[], []⟩ .nil (.mk none ⟨[], []⟩ (.mk none ⟨[0, 1, 7, 12, 13, 14, 27, 28], [(5, (.c .sl)), (29, (.c (.int .i64)))]⟩ (.mk none ⟨[], []⟩ .nil (.mk none ⟨[], []⟩ .nil (.mk none ⟨[], []⟩ (.mk none ⟨[], []⟩ (.mk none ⟨[], []⟩ .nil (.mk none ⟨[], []⟩ (.mk (some ⟨[0, 1, 5, 7, 12, 13, 14, 27, 28, 29], [(53, (.c .bool))]⟩) ⟨[], []⟩ .nil .nil) .nil)) .nil) .nil))) .nil) .nil)))) .nil) .nil))) .nil) .nil)) .nil))) .nil))
theorem E_edge_Edges_Ahead (g0_e : Option Addr) (g1_t3 : Int) (h : Hp) (Q : PQ) : eW 61 Tryz.f60 A_edge_Edges_Ahead [(pointer g0_e), (int .i64 g1_t3)] h Q = F_edge_Edges_Ahead g0_e g1_t3 h Q := by kernel_rfl
theorem O_edge_Edges_Ahead (g0_e : Option Addr) (g1_t3 : Int) {h : Hp} {Q : PQ} (H : F_edge_Edges_Ahead g0_e g1_t3 h Q) : S_edge_Edges_Ahead g0_e g1_t3 h Q :=
 fo Tryz.func60 (E_edge_Edges_Ahead g0_e g1_t3 h Q) H
def F_clog_Log_Commit (g0_l : Option Addr) (g1_xid : Int) (h : Hp) (Q : PQ) : Prop :=
S_clog_Log_ends g0_l g1_xid h fun vs1 h2 =>
∃ p3, ∃ n4, vs1 = [(pointer p3), (int .i64 n4)] ∧
(if (n4 != 0) = true then
 (Q [(int .i64 0), (int .i64 n4)] h2) else
 (nilW g0_l fun a5 => ∃ n6, rd h2 (add a5 805) = some (int .i64 n6) ∧
 nilW g0_l fun a7 => stOk h2 (add a7 805) 1 ∧ wth (wrs h2 (add a7 805) 0 [(int .i64 (IntKind.wrap .i64 (n6 + 1)))]) fun h8 =>
 nilW g0_l fun a9 => ∃ n10, rd h8 (add a9 805) = some (int .i64 n10) ∧
 nilW p3 fun a11 => stOk h8 (add a11 0) 1 ∧ wth (wrs h8 (add a11 0) 0 [(int .i64 2)]) fun h12 =>
 nilW p3 fun a13 => stOk h12 (add a13 1) 1 ∧ wth (wrs h12 (add a13 1) 0 [(int .i64 n10)]) fun h14 =>
 nilW g0_l fun a15 => ∃ n16, rd h14 (add a15 805) = some (int .i64 n16) ∧
 Q [(int .i64 n16), (int .i64 0)] h14))
def A_clog_Log_Commit : Ann := .nil
theorem E_clog_Log_Commit (g0_l : Option Addr) (g1_xid : Int) (h : Hp) (Q : PQ) : eW 38 Tryz.f61 A_clog_Log_Commit [(pointer g0_l), (int .i64 g1_xid)] h Q = F_clog_Log_Commit g0_l g1_xid h Q := by kernel_rfl
theorem O_clog_Log_Commit (g0_l : Option Addr) (g1_xid : Int) {h : Hp} {Q : PQ} (H : F_clog_Log_Commit g0_l g1_xid h Q) : S_clog_Log_Commit g0_l g1_xid h Q :=
 fo Tryz.func61 (E_clog_Log_Commit g0_l g1_xid h Q) H
def F_ssi_Ssi_Commit (g0_s : Option Addr) (g1_xid : Int) (h : Hp) (Q : PQ) : Prop :=
(if (Option.isNone g0_s) = true then
 (Q [(int .i64 1)] h) else
 (S_ssi_Ssi_runs g0_s g1_xid h fun vs1 h2 =>
 ∃ b3, vs1 = [(bool b3)] ∧
 (if (!b3) = true then
 (Q [(int .i64 76)] h2) else
 (S_ssi_Ssi_Doomed g0_s g1_xid h2 fun vs4 h5 =>
 ∃ b6, vs4 = [(bool b6)] ∧
 (if b6 = true then
 (S_ssi_Ssi_Abort g0_s g1_xid h5 fun vs7 h8 =>
 ∃ n9, vs7 = [(int .i64 n9)] ∧
 Q [(int .i64 72)] h8) else
 (nilW g0_s fun a10 => ∃ p11, rd h5 (add a10 2) = some (pointer p11) ∧
 S_edge_Edges_Ahead p11 g1_xid h5 fun vs12 h13 =>
 ∃ l14 : Sl, vs12 = [(slice l14.a l14.n l14.c)] ∧
 ∀ X15 : PQ, (∀ n16 : Int, ∀ h17 : Hp, ((if (decide (n16 < (l14.n : Int))) = true then
 (nilW l14.a fun a18 => ixOk n16 l14.n (∃ n19, rd h17 (add a18 (Int.toNat n16 * 1)) = some (int .i64 n19) ∧
 nilW g0_s fun a20 => ∃ r21 : Option Nat, rd h17 (add a20 5) = some (map r21) ∧
 ∃ es22 : Array MapEntry, mapAt h17 r21 es22 ∧ KeysLike (int .i64 n19) es22 ∧ ∃ n23, mgetD (int .i64 n19) es22 (int .i64 0) = (int .i64 n23) ∧
 ∃ (m25 : Nat) (es26 : Array MapEntry) (c27 : Nat), r21 = some m25 ∧ h17[m25]? = some (.map es26 c27) ∧ KeysLike (int .i64 n19) es26 ∧ wth (Array.setIfInBounds h17 m25 (mput (int .i64 n19) (int .i64 (IntKind.wrap .i64 (n23 + 1))) es26 c27)) fun h28 =>
 X15 [(int .i64 (IntKind.wrap .i64 (n16 + 1)))] h28)) else
 (nilW g0_s fun a29 => ∃ p30, rd h17 (add a29 0) = some (pointer p30) ∧
 S_clog_Log_Commit p30 g1_xid h17 fun vs31 h32 =>
 ∃ n33, ∃ n34, vs31 = [(int .i64 n33), (int .i64 n34)] ∧
 nilW g0_s fun a35 => ∃ l36 : Sl, rd h32 (add a35 4) = some (slice l36.a l36.n l36.c) ∧
 wth (Array.push h32 (Obj.cells #[(int .i64 g1_xid)] T_int)) fun h37 =>
 ∃ cs44 : List Value, cellsAt h37 (some (mk h32.size 0 none)) (1 * 1) cs44 ∧ appS PP T_int 8 1 h37 ⟨l36.a, l36.n, l36.c⟩ 1 cs44 fun (l38 : Sl) (h39 : Hp) =>
 nilW g0_s fun a40 => stOk h39 (add a40 4) 1 ∧ wth (wrs h39 (add a40 4) 0 [(slice l38.a l38.n l38.c)]) fun h41 =>
 S_ssi_Ssi_clean g0_s h41 fun vs42 h43 =>
 vs42 = [] ∧
 Q [(int .i64 0)] h43))) → X15 [(int .i64 n16)] h17) →
 X15 [(int .i64 0)] h13))))))
def A_ssi_Ssi_Commit : Ann := (.mk none ⟨[], []⟩ .nil (.mk none ⟨[], []⟩ .nil (.mk none ⟨[], []⟩ (.mk none ⟨[], []⟩ .nil (.mk none ⟨[], []⟩ (.mk none ⟨[0, 1, 27, 28], [(29, (.c (.int .i64)))]⟩ .nil .nil) .nil)) .nil)))
theorem E_ssi_Ssi_Commit (g0_s : Option Addr) (g1_xid : Int) (h : Hp) (Q : PQ) : eW 59 Tryz.f16 A_ssi_Ssi_Commit [(pointer g0_s), (int .i64 g1_xid)] h Q = F_ssi_Ssi_Commit g0_s g1_xid h Q := by kernel_rfl
theorem O_ssi_Ssi_Commit (g0_s : Option Addr) (g1_xid : Int) {h : Hp} {Q : PQ} (H : F_ssi_Ssi_Commit g0_s g1_xid h Q) : S_ssi_Ssi_Commit g0_s g1_xid h Q :=
 fo Tryz.func16 (E_ssi_Ssi_Commit g0_s g1_xid h Q) H
def F_liverylaw15_row (g0_n : Int) (h : Hp) (Q : PQ) : Prop :=
wth (Array.push h (Obj.cells #[(int .i64 0), (string (ByteArray.mk #[])), (int .i64 0), (string (ByteArray.mk #[])), (int .i64 0)] T_siread_Thing)) fun h1 =>
stOk h1 (mk h.size 0 none) 5 ∧ wth (wrs h1 (mk h.size 0 none) 0 [(int .i64 4), (string (ByteArray.mk #[])), (int .i64 1), (string (ByteArray.mk #[])), (int .i64 g0_n)]) fun h2 =>
∃ n3, rd h2 (add (mk h.size 0 none) 0) = some (int .i64 n3) ∧ ∃ s4, rd h2 (add (mk h.size 0 none) 1) = some (string s4) ∧ ∃ n5, rd h2 (add (mk h.size 0 none) 2) = some (int .i64 n5) ∧ ∃ s6, rd h2 (add (mk h.size 0 none) 3) = some (string s6) ∧ ∃ n7, rd h2 (add (mk h.size 0 none) 4) = some (int .i64 n7) ∧ Q [(agg #[(int .i64 n3), (string s4), (int .i64 n5), (string s6), (int .i64 n7)])] h2
def A_liverylaw15_row : Ann := .nil
theorem E_liverylaw15_row (g0_n : Int) (h : Hp) (Q : PQ) : eW 5 Tryz.f49 A_liverylaw15_row [(int .i64 g0_n)] h Q = F_liverylaw15_row g0_n h Q := by kernel_rfl
theorem O_liverylaw15_row (g0_n : Int) {h : Hp} {Q : PQ} (H : F_liverylaw15_row g0_n h Q) : S_liverylaw15_row g0_n h Q :=
 fo Tryz.func49 (E_liverylaw15_row g0_n h Q) H
def F_liverylaw15_wakes (h : Hp) (Q : PQ) : Prop :=
S_liverylaw15_Made 9 99 9 h fun vs1 h2 =>
∃ p3, ∃ p4, ∃ b5, vs1 = [(pointer p3), (pointer p4), (bool b5)] ∧
(if (!b5) = true then
 (Q [(bool false)] h2) else
 (S_ssi_Ssi_Begin p3 false h2 fun vs6 h7 =>
 ∃ n8, ∃ n9, vs6 = [(int .i64 n8), (int .i64 n9)] ∧
 S_ssi_Ssi_Begin p3 false h7 fun vs10 h11 =>
 ∃ n12, ∃ n13, vs10 = [(int .i64 n12), (int .i64 n13)] ∧
 S_liverylaw15_row 5 h11 fun vs14 h15 =>
 ∃ n16, ∃ s17, ∃ n18, ∃ s19, ∃ n20, vs14 = [(agg #[(int .i64 n16), (string s17), (int .i64 n18), (string s19), (int .i64 n20)])] ∧
 S_ssi_Ssi_Read p3 1 n16 s17 n18 s19 n20 h15 fun vs21 h22 =>
 vs21 = [] ∧
 S_liverylaw15_row 6 h22 fun vs23 h24 =>
 ∃ n25, ∃ s26, ∃ n27, ∃ s28, ∃ n29, vs23 = [(agg #[(int .i64 n25), (string s26), (int .i64 n27), (string s28), (int .i64 n29)])] ∧
 S_ssi_Ssi_Read p3 2 n25 s26 n27 s28 n29 h24 fun vs30 h31 =>
 vs30 = [] ∧
 S_liverylaw15_row 6 h31 fun vs32 h33 =>
 ∃ n34, ∃ s35, ∃ n36, ∃ s37, ∃ n38, vs32 = [(agg #[(int .i64 n34), (string s35), (int .i64 n36), (string s37), (int .i64 n38)])] ∧
 S_ssi_Ssi_Wrote p3 1 n34 s35 n36 s37 n38 h33 fun vs39 h40 =>
 vs39 = [] ∧
 S_liverylaw15_row 5 h40 fun vs41 h42 =>
 ∃ n43, ∃ s44, ∃ n45, ∃ s46, ∃ n47, vs41 = [(agg #[(int .i64 n43), (string s44), (int .i64 n45), (string s46), (int .i64 n47)])] ∧
 S_ssi_Ssi_Wrote p3 2 n43 s44 n45 s46 n47 h42 fun vs48 h49 =>
 vs48 = [] ∧
 S_ssi_Ssi_Commit p3 1 h49 fun vs50 h51 =>
 ∃ n52, vs50 = [(int .i64 n52)] ∧
 (if (n52 == 0) = true then (S_ssi_Ssi_Doomed p3 2 h51 fun vs53 h54 =>
 ∃ b55, vs53 = [(bool b55)] ∧
 (if b55 = true then (S_ssi_Ssi_Commit p3 2 h54 fun vs56 h57 =>
 ∃ n58, vs56 = [(int .i64 n58)] ∧
 (if (n58 == 72) = true then (S_clog_Log_State p4 2 h57 fun vs59 h60 =>
 ∃ n61, vs59 = [(int .i64 n61)] ∧
 (if (n61 == 3) = true then (S_clog_Log_Csn p4 1 h60 fun vs62 h63 =>
 ∃ n64, vs62 = [(int .i64 n64)] ∧
 Q [(bool (n64 == 1))] h63) else
 (Q [(bool false)] h60))) else
 (Q [(bool false)] h57))) else
 (Q [(bool false)] h54))) else
 (Q [(bool false)] h51))))
def A_liverylaw15_wakes : Ann := .nil
theorem E_liverylaw15_wakes (h : Hp) (Q : PQ) : eW 51 Tryz.f10 A_liverylaw15_wakes [] h Q = F_liverylaw15_wakes h Q := by kernel_rfl
theorem O_liverylaw15_wakes {h : Hp} {Q : PQ} (H : F_liverylaw15_wakes h Q) : S_liverylaw15_wakes h Q :=
 fo Tryz.func10 (E_liverylaw15_wakes h Q) H
def F_liverylaw15_Fair (g0_l : Sl) (h : Hp) (Q : PQ) : Prop :=
∀ X1 : PQ, (∀ n2 : Int, ∀ h3 : Hp, ((if (decide (n2 < (g0_l.n : Int))) = true then
 (∀ J4 : PQ, (∀ b5 : Bool, ∀ h6 : Hp, ((if b5 = true then
 (Q [(bool false)] h6) else
 (X1 [(int .i64 (IntKind.wrap .i64 (n2 + 1)))] h6))) → J4 [(bool b5)] h6) →
 nilW g0_l.a fun a7 => ixOk n2 g0_l.n (∃ s8, rd h3 (add (add (add a7 (Int.toNat n2 * 9)) 4) 1) = some (string s8) ∧
 (if (decide ((ByteArray.size s8 : Int) > 100)) = true then (J4 [(bool true)] h3) else
 (nilW g0_l.a fun a9 => ixOk n2 g0_l.n (∃ s10, rd h3 (add (add (add a9 (Int.toNat n2 * 9)) 4) 3) = some (string s10) ∧
 J4 [(bool (decide ((ByteArray.size s10 : Int) > 100)))] h3))))) else
 (Q [(bool (decide ((g0_l.n : Int) ≤ (120 : Int))))] h3))) → X1 [(int .i64 n2)] h3) →
X1 [(int .i64 0)] h
def A_liverylaw15_Fair : Ann := (.mk none ⟨[], []⟩ .nil (.mk none ⟨[], []⟩ (.mk none ⟨[], []⟩ .nil (.mk none ⟨[], []⟩ (.mk none ⟨[0], [(3, (.c (.int .i64)))]⟩ (.mk none ⟨[], []⟩ .nil (.mk none ⟨[], []⟩ (.mk none ⟨[], []⟩ (.mk none ⟨[], []⟩ (.mk (some ⟨[0, 3], [(27, (.c .bool))]⟩) ⟨[], []⟩ .nil .nil) .nil) .nil) .nil)) .nil) .nil)) .nil))
theorem E_liverylaw15_Fair (g0_l : Sl) (h : Hp) (Q : PQ) : eW 31 Tryz.f18 A_liverylaw15_Fair [(slice g0_l.a g0_l.n g0_l.c)] h Q = F_liverylaw15_Fair g0_l h Q := by kernel_rfl
theorem O_liverylaw15_Fair (g0_l : Sl) {h : Hp} {Q : PQ} (H : F_liverylaw15_Fair g0_l h Q) : S_liverylaw15_Fair g0_l h Q :=
 fo Tryz.func18 (E_liverylaw15_Fair g0_l h Q) H
def F_ssi_Ssi_Saw (g0_s : Option Addr) (g1_xid : Int) (g2_writer : Int) (h : Hp) (Q : PQ) : Prop :=
∀ J1 : PQ, (∀ b2 : Bool, ∀ h3 : Hp, ((if b2 = true then
 (S_ssi_Ssi_behind g0_s g1_xid g2_writer h3 fun vs4 h5 =>
 vs4 = [] ∧
 Q [] h5) else
 (Q [] h3))) → J1 [(bool b2)] h3) →
S_ssi_Ssi_runs g0_s g1_xid h fun vs6 h7 =>
∃ b8, vs6 = [(bool b8)] ∧
(if b8 = true then (nilW g0_s fun a9 => ∃ r10 : Option Nat, rd h7 (add a9 6) = some (map r10) ∧
 ∃ es11 : Array MapEntry, mapAt h7 r10 es11 ∧ KeysLike (int .i64 g1_xid) es11 ∧ ∃ n12, mgetD (int .i64 g1_xid) es11 (int .i64 0) = (int .i64 n12) ∧
 J1 [(bool (n12 == 0))] h7) else
 (J1 [(bool false)] h7))
def A_ssi_Ssi_Saw : Ann := (.mk none ⟨[], []⟩ (.mk (some ⟨[0, 1, 2], [(17, (.c .bool))]⟩) ⟨[], []⟩ .nil .nil) .nil)
theorem E_ssi_Ssi_Saw (g0_s : Option Addr) (g1_xid : Int) (g2_writer : Int) (h : Hp) (Q : PQ) : eW 22 Tryz.f21 A_ssi_Ssi_Saw [(pointer g0_s), (int .i64 g1_xid), (int .i64 g2_writer)] h Q = F_ssi_Ssi_Saw g0_s g1_xid g2_writer h Q := by kernel_rfl
theorem O_ssi_Ssi_Saw (g0_s : Option Addr) (g1_xid : Int) (g2_writer : Int) {h : Hp} {Q : PQ} (H : F_ssi_Ssi_Saw g0_s g1_xid g2_writer h Q) : S_ssi_Ssi_Saw g0_s g1_xid g2_writer h Q :=
 fo Tryz.func21 (E_ssi_Ssi_Saw g0_s g1_xid g2_writer h Q) H
def F_ssi_Ssi_Edges (g0_s : Option Addr) (h : Hp) (Q : PQ) : Prop :=
(if (Option.isNone g0_s) = true then
 (Q [(pointer none)] h) else
 (nilW g0_s fun a1 => ∃ p2, rd h (add a1 2) = some (pointer p2) ∧
 Q [(pointer p2)] h))
def A_ssi_Ssi_Edges : Ann := .nil
theorem E_ssi_Ssi_Edges (g0_s : Option Addr) (h : Hp) (Q : PQ) : eW 9 Tryz.f23 A_ssi_Ssi_Edges [(pointer g0_s)] h Q = F_ssi_Ssi_Edges g0_s h Q := by kernel_rfl
theorem O_ssi_Ssi_Edges (g0_s : Option Addr) {h : Hp} {Q : PQ} (H : F_ssi_Ssi_Edges g0_s h Q) : S_ssi_Ssi_Edges g0_s h Q :=
 fo Tryz.func23 (E_ssi_Ssi_Edges g0_s h Q) H
def F_slices_Collect_2_int (g0_seq_f : Nat) (g0_seq_c : Array Value) (h : Hp) (Q : PQ) : Prop :=
S_slices_AppendSeq_s_2_int_2_int ⟨none, 0, 0⟩ g0_seq_f g0_seq_c h fun vs1 h2 =>
∃ l3 : Sl, vs1 = [(slice l3.a l3.n l3.c)] ∧
Q [(slice l3.a l3.n l3.c)] h2
def A_slices_Collect_2_int : Ann := .nil
theorem E_slices_Collect_2_int (g0_seq_f : Nat) (g0_seq_c : Array Value) (h : Hp) (Q : PQ) : eW 5 Tryz.f122 A_slices_Collect_2_int [(Value.func (.func g0_seq_f) #[] g0_seq_c)] h Q = F_slices_Collect_2_int g0_seq_f g0_seq_c h Q := by kernel_rfl
theorem O_slices_Collect_2_int (g0_seq_f : Nat) (g0_seq_c : Array Value) {h : Hp} {Q : PQ} (H : F_slices_Collect_2_int g0_seq_f g0_seq_c h Q) : S_slices_Collect_2_int g0_seq_f g0_seq_c h Q :=
 fo Tryz.func122 (E_slices_Collect_2_int g0_seq_f g0_seq_c h Q) H
def F_slices_SortedFunc_2_int (g0_seq_f : Nat) (g0_seq_c : Array Value) (g1_cmp_f : Nat) (g1_cmp_c : Array Value) (h : Hp) (Q : PQ) : Prop :=
S_slices_Collect_2_int g0_seq_f g0_seq_c h fun vs1 h2 =>
∃ l3 : Sl, vs1 = [(slice l3.a l3.n l3.c)] ∧
S_slices_SortFunc_s_2_int_2_int ⟨l3.a, l3.n, l3.c⟩ g1_cmp_f g1_cmp_c h2 fun vs4 h5 =>
vs4 = [] ∧
Q [(slice l3.a l3.n l3.c)] h5
def A_slices_SortedFunc_2_int : Ann := .nil
theorem E_slices_SortedFunc_2_int (g0_seq_f : Nat) (g0_seq_c : Array Value) (g1_cmp_f : Nat) (g1_cmp_c : Array Value) (h : Hp) (Q : PQ) : eW 12 Tryz.f69 A_slices_SortedFunc_2_int [(Value.func (.func g0_seq_f) #[] g0_seq_c), (Value.func (.func g1_cmp_f) #[] g1_cmp_c)] h Q = F_slices_SortedFunc_2_int g0_seq_f g0_seq_c g1_cmp_f g1_cmp_c h Q := by kernel_rfl
theorem O_slices_SortedFunc_2_int (g0_seq_f : Nat) (g0_seq_c : Array Value) (g1_cmp_f : Nat) (g1_cmp_c : Array Value) {h : Hp} {Q : PQ} (H : F_slices_SortedFunc_2_int g0_seq_f g0_seq_c g1_cmp_f g1_cmp_c h Q) : S_slices_SortedFunc_2_int g0_seq_f g0_seq_c g1_cmp_f g1_cmp_c h Q :=
 fo Tryz.func69 (E_slices_SortedFunc_2_int g0_seq_f g0_seq_c g1_cmp_f g1_cmp_c h Q) H
def F_maps_Keys_map_2_int_int_2_int_int (g0_m : Option Nat) (h : Hp) (Q : PQ) : Prop :=
wth (Array.push h (Obj.cells #[(map g0_m)] T_map_2_int_int)) fun h1 =>
Q [(Value.func (.func 124) #[] #[(pointer (some (mk h.size 0 none)))])] h1
def A_maps_Keys_map_2_int_int_2_int_int : Ann := .nil
theorem E_maps_Keys_map_2_int_int_2_int_int (g0_m : Option Nat) (h : Hp) (Q : PQ) : eW 4 Tryz.f70 A_maps_Keys_map_2_int_int_2_int_int [(map g0_m)] h Q = F_maps_Keys_map_2_int_int_2_int_int g0_m h Q := by kernel_rfl
theorem O_maps_Keys_map_2_int_int_2_int_int (g0_m : Option Nat) {h : Hp} {Q : PQ} (H : F_maps_Keys_map_2_int_int_2_int_int g0_m h Q) : S_maps_Keys_map_2_int_int_2_int_int g0_m h Q :=
 fo Tryz.func70 (E_maps_Keys_map_2_int_int_2_int_int g0_m h Q) H
def F_edge_Edges_All (g0_e : Option Addr) (h : Hp) (Q : PQ) : Prop :=
S_edge_Edges_none g0_e h fun vs1 h2 =>
∃ b3, vs1 = [(bool b3)] ∧
(if b3 = true then
 (Q [(slice none 0 0)] h2) else
 (nilW g0_e fun a4 => ∃ r5 : Option Nat, rd h2 (add a4 1) = some (map r5) ∧
 S_maps_Keys_map_2_int_int_2_int_int r5 h2 fun vs6 h7 =>
 ∃ f8 : Nat, ∃ cs9 : Array Value, vs6 = [(Value.func (.func f8) #[] cs9)] ∧
 S_slices_SortedFunc_2_int f8 cs9 71 #[] h7 fun vs10 h11 =>
 ∃ l12 : Sl, vs10 = [(slice l12.a l12.n l12.c)] ∧
 Q [(slice l12.a l12.n l12.c)] h11))
def A_edge_Edges_All : Ann := .nil
theorem E_edge_Edges_All (g0_e : Option Addr) (h : Hp) (Q : PQ) : eW 11 Tryz.f24 A_edge_Edges_All [(pointer g0_e)] h Q = F_edge_Edges_All g0_e h Q := by kernel_rfl
theorem O_edge_Edges_All (g0_e : Option Addr) {h : Hp} {Q : PQ} (H : F_edge_Edges_All g0_e h Q) : S_edge_Edges_All g0_e h Q :=
 fo Tryz.func24 (E_edge_Edges_All g0_e h Q) H
def F_ssi_Ssi_Safe (g0_s : Option Addr) (g1_xid : Int) (h : Hp) (Q : PQ) : Prop :=
(if (!(Option.isNone g0_s)) = true then (nilW g0_s fun a1 => ∃ r2 : Option Nat, rd h (add a1 6) = some (map r2) ∧
 ∃ es3 : Array MapEntry, mapAt h r2 es3 ∧ KeysLike (int .i64 g1_xid) es3 ∧ ∃ n4, mgetD (int .i64 g1_xid) es3 (int .i64 0) = (int .i64 n4) ∧
 Q [(bool (decide (n4 > 0)))] h) else
 (Q [(bool false)] h))
def A_ssi_Ssi_Safe : Ann := .nil
theorem E_ssi_Ssi_Safe (g0_s : Option Addr) (g1_xid : Int) (h : Hp) (Q : PQ) : eW 16 Tryz.f27 A_ssi_Ssi_Safe [(pointer g0_s), (int .i64 g1_xid)] h Q = F_ssi_Ssi_Safe g0_s g1_xid h Q := by kernel_rfl
theorem O_ssi_Ssi_Safe (g0_s : Option Addr) (g1_xid : Int) {h : Hp} {Q : PQ} (H : F_ssi_Ssi_Safe g0_s g1_xid h Q) : S_ssi_Ssi_Safe g0_s g1_xid h Q :=
 fo Tryz.func27 (E_ssi_Ssi_Safe g0_s g1_xid h Q) H
def F_ssi_Ssi_Table (g0_s : Option Addr) (h : Hp) (Q : PQ) : Prop :=
(if (Option.isNone g0_s) = true then
 (Q [(pointer none)] h) else
 (nilW g0_s fun a1 => ∃ p2, rd h (add a1 1) = some (pointer p2) ∧
 Q [(pointer p2)] h))
def A_ssi_Ssi_Table : Ann := .nil
theorem E_ssi_Ssi_Table (g0_s : Option Addr) (h : Hp) (Q : PQ) : eW 9 Tryz.f28 A_ssi_Ssi_Table [(pointer g0_s)] h Q = F_ssi_Ssi_Table g0_s h Q := by kernel_rfl
theorem O_ssi_Ssi_Table (g0_s : Option Addr) {h : Hp} {Q : PQ} (H : F_ssi_Ssi_Table g0_s h Q) : S_ssi_Ssi_Table g0_s h Q :=
 fo Tryz.func28 (E_ssi_Ssi_Table g0_s h Q) H
def F_liverykeep_Ints (g0_a : Sl) (g1_b : Sl) (h : Hp) (Q : PQ) : Prop :=
(if ((g0_a.n : Int) != (g1_b.n : Int)) = true then
 (Q [(bool false)] h) else
 (∀ X1 : PQ, (∀ n2 : Int, ∀ h3 : Hp, ((if (decide (n2 < (g0_a.n : Int))) = true then
 (nilW g0_a.a fun a4 => ixOk n2 g0_a.n (∃ n5, rd h3 (add a4 (Int.toNat n2 * 1)) = some (int .i64 n5) ∧
 nilW g1_b.a fun a6 => ixOk n2 g1_b.n (∃ n7, rd h3 (add a6 (Int.toNat n2 * 1)) = some (int .i64 n7) ∧
 (if (n5 != n7) = true then
 (Q [(bool false)] h3) else
 (X1 [(int .i64 (IntKind.wrap .i64 (n2 + 1)))] h3))))) else
 (Q [(bool true)] h3))) → X1 [(int .i64 n2)] h3) →
 X1 [(int .i64 0)] h))
def A_liverykeep_Ints : Ann := (.mk none ⟨[], []⟩ .nil (.mk none ⟨[], []⟩ .nil (.mk none ⟨[], []⟩ (.mk none ⟨[], []⟩ .nil (.mk none ⟨[], []⟩ (.mk none ⟨[0, 1], [(5, (.c (.int .i64)))]⟩ .nil .nil) .nil)) .nil)))
theorem E_liverykeep_Ints (g0_a : Sl) (g1_b : Sl) (h : Hp) (Q : PQ) : eW 26 Tryz.f34 A_liverykeep_Ints [(slice g0_a.a g0_a.n g0_a.c), (slice g1_b.a g1_b.n g1_b.c)] h Q = F_liverykeep_Ints g0_a g1_b h Q := by kernel_rfl
theorem O_liverykeep_Ints (g0_a : Sl) (g1_b : Sl) {h : Hp} {Q : PQ} (H : F_liverykeep_Ints g0_a g1_b h Q) : S_liverykeep_Ints g0_a g1_b h Q :=
 fo Tryz.func34 (E_liverykeep_Ints g0_a g1_b h Q) H
def F_siread_Table_Fine (g0_t : Option Addr) (h : Hp) (Q : PQ) : Prop :=
(if (Option.isNone g0_t) = true then
 (Q [(int .i64 0)] h) else
 (nilW g0_t fun a1 => ∃ n2, rd h (add a1 3) = some (int .i64 n2) ∧
 Q [(int .i64 n2)] h))
def A_siread_Table_Fine : Ann := .nil
theorem E_siread_Table_Fine (g0_t : Option Addr) (h : Hp) (Q : PQ) : eW 9 Tryz.f36 A_siread_Table_Fine [(pointer g0_t)] h Q = F_siread_Table_Fine g0_t h Q := by kernel_rfl
theorem O_siread_Table_Fine (g0_t : Option Addr) {h : Hp} {Q : PQ} (H : F_siread_Table_Fine g0_t h Q) : S_siread_Table_Fine g0_t h Q :=
 fo Tryz.func36 (E_siread_Table_Fine g0_t h Q) H
def F_clog_Log_Clock (g0_l : Option Addr) (h : Hp) (Q : PQ) : Prop :=
(if (Option.isNone g0_l) = true then
 (Q [(int .i64 0)] h) else
 (nilW g0_l fun a1 => ∃ n2, rd h (add a1 805) = some (int .i64 n2) ∧
 Q [(int .i64 n2)] h))
def A_clog_Log_Clock : Ann := .nil
theorem E_clog_Log_Clock (g0_l : Option Addr) (h : Hp) (Q : PQ) : eW 9 Tryz.f145 A_clog_Log_Clock [(pointer g0_l)] h Q = F_clog_Log_Clock g0_l h Q := by kernel_rfl
theorem O_clog_Log_Clock (g0_l : Option Addr) {h : Hp} {Q : PQ} (H : F_clog_Log_Clock g0_l h Q) : S_clog_Log_Clock g0_l h Q :=
 fo Tryz.func145 (E_clog_Log_Clock g0_l h Q) H
def F_clog_Log_Horizon (g0_l : Option Addr) (h : Hp) (Q : PQ) : Prop :=
S_clog_Log_Clock g0_l h fun vs1 h2 =>
∃ n3, vs1 = [(int .i64 n3)] ∧
S_clog_Log_Running g0_l h2 fun vs4 h5 =>
∃ l6 : Sl, vs4 = [(slice l6.a l6.n l6.c)] ∧
∀ X7 : PQ, (∀ n8 : Int, ∀ n9 : Int, ∀ h10 : Hp, ((if (decide (n9 < (l6.n : Int))) = true then
 (nilW l6.a fun a11 => ixOk n9 l6.n (∃ n12, rd h10 (add a11 (Int.toNat n9 * 1)) = some (int .i64 n12) ∧
 nilW g0_l fun a13 => ixOk n12 201 (∃ n14, rd h10 (add (add (add a13 0) (Int.toNat n12 * 4)) 2) = some (int .i64 n14) ∧
 X7 [(int .i64 (mnI n8 n14)), (int .i64 (IntKind.wrap .i64 (n9 + 1)))] h10))) else
 (Q [(int .i64 n8)] h10))) → X7 [(int .i64 n8), (int .i64 n9)] h10) →
X7 [(int .i64 n3), (int .i64 0)] h5
def A_clog_Log_Horizon : Ann := (.mk none ⟨[], []⟩ .nil (.mk none ⟨[], []⟩ .nil (.mk none ⟨[], []⟩ (.mk none ⟨[], []⟩ .nil (.mk none ⟨[], []⟩ (.mk none ⟨[0, 9, 10], [(3, (.c (.int .i64))), (11, (.c (.int .i64)))]⟩ .nil .nil) .nil)) .nil)))
theorem E_clog_Log_Horizon (g0_l : Option Addr) (h : Hp) (Q : PQ) : eW 26 Tryz.f116 A_clog_Log_Horizon [(pointer g0_l)] h Q = F_clog_Log_Horizon g0_l h Q := by kernel_rfl
theorem O_clog_Log_Horizon (g0_l : Option Addr) {h : Hp} {Q : PQ} (H : F_clog_Log_Horizon g0_l h Q) : S_clog_Log_Horizon g0_l h Q :=
 fo Tryz.func116 (E_clog_Log_Horizon g0_l h Q) H
def F_edge_Edges_Old (g0_e : Option Addr) (g1_xid : Int) (h : Hp) (Q : PQ) : Prop :=
S_edge_Edges_none g0_e h fun vs1 h2 =>
∃ b3, vs1 = [(bool b3)] ∧
(if b3 = true then
 (Q [(int .i64 0)] h2) else
 (nilW g0_e fun a4 => ∃ r5 : Option Nat, rd h2 (add a4 2) = some (map r5) ∧
 ∃ es6 : Array MapEntry, mapAt h2 r5 es6 ∧ KeysLike (int .i64 g1_xid) es6 ∧ ∃ n7, mgetD (int .i64 g1_xid) es6 (int .i64 0) = (int .i64 n7) ∧
 Q [(int .i64 n7)] h2))
def A_edge_Edges_Old : Ann := .nil
theorem E_edge_Edges_Old (g0_e : Option Addr) (g1_xid : Int) (h : Hp) (Q : PQ) : eW 13 Tryz.f148 A_edge_Edges_Old [(pointer g0_e), (int .i64 g1_xid)] h Q = F_edge_Edges_Old g0_e g1_xid h Q := by kernel_rfl
theorem O_edge_Edges_Old (g0_e : Option Addr) (g1_xid : Int) {h : Hp} {Q : PQ} (H : F_edge_Edges_Old g0_e g1_xid h Q) : S_edge_Edges_Old g0_e g1_xid h Q :=
 fo Tryz.func148 (E_edge_Edges_Old g0_e g1_xid h Q) H
def F_ssi_Ssi_Begin_1 (g0_x : Int) (g1_x : Addr) (h : Hp) (Q : PQ) : Prop :=
∃ p1, rd h g1_x = some (pointer p1) ∧
nilW p1 fun a2 => ∃ p3, rd h (add a2 0) = some (pointer p3) ∧
S_clog_Log_Reads p3 g0_x h fun vs4 h5 =>
∃ b6, vs4 = [(bool b6)] ∧
Q [(bool (!b6))] h5
def A_ssi_Ssi_Begin_1 : Ann := .nil
theorem E_ssi_Ssi_Begin_1 (g0_x : Int) (g1_x : Addr) (h : Hp) (Q : PQ) : eW 11 Tryz.f52 A_ssi_Ssi_Begin_1 [(int .i64 g0_x), (pointer (some g1_x))] h Q = F_ssi_Ssi_Begin_1 g0_x g1_x h Q := by kernel_rfl
theorem O_ssi_Ssi_Begin_1 (g0_x : Int) (g1_x : Addr) {h : Hp} {Q : PQ} (H : F_ssi_Ssi_Begin_1 g0_x g1_x h Q) : S_ssi_Ssi_Begin_1 g0_x g1_x h Q :=
 fo Tryz.func52 (E_ssi_Ssi_Begin_1 g0_x g1_x h Q) H
def F_cmp_Or_int (g0_vals : Sl) (h : Hp) (Q : PQ) : Prop :=
∀ X1 : PQ, (∀ n2 : Int, ∀ h3 : Hp, ((if (decide (n2 < (g0_vals.n : Int))) = true then
 (nilW g0_vals.a fun a4 => ixOk n2 g0_vals.n (∃ n5, rd h3 (add a4 (Int.toNat n2 * 1)) = some (int .i64 n5) ∧
 (if (n5 != 0) = true then
 (Q [(int .i64 n5)] h3) else
 (X1 [(int .i64 (IntKind.wrap .i64 (n2 + 1)))] h3)))) else
 (Q [(int .i64 0)] h3))) → X1 [(int .i64 n2)] h3) →
X1 [(int .i64 0)] h
def A_cmp_Or_int : Ann := (.mk none ⟨[], []⟩ .nil (.mk none ⟨[], []⟩ .nil (.mk none ⟨[], []⟩ (.mk none ⟨[], []⟩ .nil (.mk none ⟨[], []⟩ (.mk none ⟨[3, 6, 7], [(8, (.c (.int .i64)))]⟩ .nil .nil) .nil)) .nil)))
theorem E_cmp_Or_int (g0_vals : Sl) (h : Hp) (Q : PQ) : eW 18 Tryz.f72 A_cmp_Or_int [(slice g0_vals.a g0_vals.n g0_vals.c)] h Q = F_cmp_Or_int g0_vals h Q := by kernel_rfl
theorem O_cmp_Or_int (g0_vals : Sl) {h : Hp} {Q : PQ} (H : F_cmp_Or_int g0_vals h Q) : S_cmp_Or_int g0_vals h Q :=
 fo Tryz.func72 (E_cmp_Or_int g0_vals h Q) H
def F_cmp_Compare_int (g0_x : Int) (g1_y : Int) (h : Hp) (Q : PQ) : Prop :=
S_cmp_isNaN_int g0_x h fun vs1 h2 =>
∃ b3, vs1 = [(bool b3)] ∧
S_cmp_isNaN_int g1_y h2 fun vs4 h5 =>
∃ b6, vs4 = [(bool b6)] ∧
(if b3 = true then
 ((if b6 = true then
 (Q [(int .i64 0)] h5) else
 (Q [(int .i64 (-1 : Int))] h5))) else
 ((if b6 = true then
 (Q [(int .i64 1)] h5) else
 ((if (decide (g0_x < g1_y)) = true then
 (Q [(int .i64 (-1 : Int))] h5) else
 ((if (decide (g0_x > g1_y)) = true then
 (Q [(int .i64 1)] h5) else
 (Q [(int .i64 0)] h5))))))))
def A_cmp_Compare_int : Ann := .nil
theorem E_cmp_Compare_int (g0_x : Int) (g1_y : Int) (h : Hp) (Q : PQ) : eW 20 Tryz.f73 A_cmp_Compare_int [(int .i64 g0_x), (int .i64 g1_y)] h Q = F_cmp_Compare_int g0_x g1_y h Q := by kernel_rfl
theorem O_cmp_Compare_int (g0_x : Int) (g1_y : Int) {h : Hp} {Q : PQ} (H : F_cmp_Compare_int g0_x g1_y h Q) : S_cmp_Compare_int g0_x g1_y h Q :=
 fo Tryz.func73 (E_cmp_Compare_int g0_x g1_y h Q) H
def F_edge_Edges_All_1 (g0_a_0 : Int) (g0_a_1 : Int) (g1_b_0 : Int) (g1_b_1 : Int) (h : Hp) (Q : PQ) : Prop :=
wth (Array.push h (Obj.cells #[(int .i64 g0_a_0), (int .i64 g0_a_1)] T_2_int)) fun h1 =>
wth (Array.push h1 (Obj.cells #[(int .i64 g1_b_0), (int .i64 g1_b_1)] T_2_int)) fun h2 =>
ixOk 0 2 (∃ n3, rd h2 (add (mk h.size 0 none) (Int.toNat 0 * 1)) = some (int .i64 n3) ∧
 ixOk 0 2 (∃ n4, rd h2 (add (mk h1.size 0 none) (Int.toNat 0 * 1)) = some (int .i64 n4) ∧
 ixOk 1 2 (∃ n5, rd h2 (add (mk h.size 0 none) (Int.toNat 1 * 1)) = some (int .i64 n5) ∧
 ixOk 1 2 (∃ n6, rd h2 (add (mk h1.size 0 none) (Int.toNat 1 * 1)) = some (int .i64 n6) ∧
 S_cmp_Compare_int n3 n4 h2 fun vs7 h8 =>
 ∃ n9, vs7 = [(int .i64 n9)] ∧
 rd h8 (add (mk h1.size 0 none) (Int.toNat 1 * 1)) = some (int .i64 n6) ∧ rd h8 (add (mk h.size 0 none) (Int.toNat 1 * 1)) = some (int .i64 n5) ∧ S_cmp_Compare_int n5 n6 h8 fun vs10 h11 =>
 ∃ n12, vs10 = [(int .i64 n12)] ∧
 wth (Array.push h11 (Obj.cells #[(int .i64 n9), (int .i64 n12)] T_int)) fun h13 =>
 S_cmp_Or_int ⟨(some (mk h11.size 0 none)), 2, 2⟩ h13 fun vs14 h15 =>
 ∃ n16, vs14 = [(int .i64 n16)] ∧
 Q [(int .i64 n16)] h15))))
def A_edge_Edges_All_1 : Ann := .nil
theorem E_edge_Edges_All_1 (g0_a_0 : Int) (g0_a_1 : Int) (g1_b_0 : Int) (g1_b_1 : Int) (h : Hp) (Q : PQ) : eW 17 Tryz.f71 A_edge_Edges_All_1 [(agg #[(int .i64 g0_a_0), (int .i64 g0_a_1)]), (agg #[(int .i64 g1_b_0), (int .i64 g1_b_1)])] h Q = F_edge_Edges_All_1 g0_a_0 g0_a_1 g1_b_0 g1_b_1 h Q := by kernel_rfl
theorem O_edge_Edges_All_1 (g0_a_0 : Int) (g0_a_1 : Int) (g1_b_0 : Int) (g1_b_1 : Int) {h : Hp} {Q : PQ} (H : F_edge_Edges_All_1 g0_a_0 g0_a_1 g1_b_0 g1_b_1 h Q) : S_edge_Edges_All_1 g0_a_0 g0_a_1 g1_b_0 g1_b_1 h Q :=
 fo Tryz.func71 (E_edge_Edges_All_1 g0_a_0 g0_a_1 g1_b_0 g1_b_1 h Q) H
def F_cmp_isNaN_string (g0_x : ByteArray) (h : Hp) (Q : PQ) : Prop :=
Q [(bool (!((ByteArray.toList g0_x) == (ByteArray.toList g0_x))))] h
def A_cmp_isNaN_string : Ann := .nil
theorem E_cmp_isNaN_string (g0_x : ByteArray) (h : Hp) (Q : PQ) : eW 6 Tryz.f158 A_cmp_isNaN_string [(string g0_x)] h Q = F_cmp_isNaN_string g0_x h Q := by kernel_rfl
theorem O_cmp_isNaN_string (g0_x : ByteArray) {h : Hp} {Q : PQ} (H : F_cmp_isNaN_string g0_x h Q) : S_cmp_isNaN_string g0_x h Q :=
 fo Tryz.func158 (E_cmp_isNaN_string g0_x h Q) H
def F_cmp_Compare_string (g0_x : ByteArray) (g1_y : ByteArray) (h : Hp) (Q : PQ) : Prop :=
S_cmp_isNaN_string g0_x h fun vs1 h2 =>
∃ b3, vs1 = [(bool b3)] ∧
S_cmp_isNaN_string g1_y h2 fun vs4 h5 =>
∃ b6, vs4 = [(bool b6)] ∧
(if b3 = true then
 ((if b6 = true then
 (Q [(int .i64 0)] h5) else
 (Q [(int .i64 (-1 : Int))] h5))) else
 ((if b6 = true then
 (Q [(int .i64 1)] h5) else
 ((if (Op.bytesLess (ByteArray.toList g0_x) (ByteArray.toList g1_y)) = true then
 (Q [(int .i64 (-1 : Int))] h5) else
 ((if (!(Op.bytesLess (ByteArray.toList g0_x) (ByteArray.toList g1_y) || (ByteArray.toList g0_x) == (ByteArray.toList g1_y))) = true then
 (Q [(int .i64 1)] h5) else
 (Q [(int .i64 0)] h5))))))))
def A_cmp_Compare_string : Ann := .nil
theorem E_cmp_Compare_string (g0_x : ByteArray) (g1_y : ByteArray) (h : Hp) (Q : PQ) : eW 20 Tryz.f129 A_cmp_Compare_string [(string g0_x), (string g1_y)] h Q = F_cmp_Compare_string g0_x g1_y h Q := by kernel_rfl
theorem O_cmp_Compare_string (g0_x : ByteArray) (g1_y : ByteArray) {h : Hp} {Q : PQ} (H : F_cmp_Compare_string g0_x g1_y h Q) : S_cmp_Compare_string g0_x g1_y h Q :=
 fo Tryz.func129 (E_cmp_Compare_string g0_x g1_y h Q) H
def F_siread_compare (g0_a_0 : Int) (g0_a_1 : ByteArray) (g0_a_2 : Int) (g0_a_3 : ByteArray) (g0_a_4 : Int) (g1_b_0 : Int) (g1_b_1 : ByteArray) (g1_b_2 : Int) (g1_b_3 : ByteArray) (g1_b_4 : Int) (h : Hp) (Q : PQ) : Prop :=
wth (Array.push h (Obj.cells #[(int .i64 g0_a_0), (string g0_a_1), (int .i64 g0_a_2), (string g0_a_3), (int .i64 g0_a_4)] T_siread_Thing)) fun h1 =>
wth (Array.push h1 (Obj.cells #[(int .i64 g1_b_0), (string g1_b_1), (int .i64 g1_b_2), (string g1_b_3), (int .i64 g1_b_4)] T_siread_Thing)) fun h2 =>
∃ n3, rd h2 (add (mk h.size 0 none) 0) = some (int .i64 n3) ∧
∃ n4, rd h2 (add (mk h1.size 0 none) 0) = some (int .i64 n4) ∧
∃ s5, rd h2 (add (mk h.size 0 none) 1) = some (string s5) ∧
∃ s6, rd h2 (add (mk h1.size 0 none) 1) = some (string s6) ∧
∃ n7, rd h2 (add (mk h.size 0 none) 2) = some (int .i64 n7) ∧
∃ n8, rd h2 (add (mk h1.size 0 none) 2) = some (int .i64 n8) ∧
∃ s9, rd h2 (add (mk h.size 0 none) 3) = some (string s9) ∧
∃ s10, rd h2 (add (mk h1.size 0 none) 3) = some (string s10) ∧
∃ n11, rd h2 (add (mk h.size 0 none) 4) = some (int .i64 n11) ∧
∃ n12, rd h2 (add (mk h1.size 0 none) 4) = some (int .i64 n12) ∧
S_cmp_Compare_int n3 n4 h2 fun vs13 h14 =>
∃ n15, vs13 = [(int .i64 n15)] ∧
rd h14 (add (mk h1.size 0 none) 4) = some (int .i64 n12) ∧ rd h14 (add (mk h.size 0 none) 4) = some (int .i64 n11) ∧ rd h14 (add (mk h1.size 0 none) 3) = some (string s10) ∧ rd h14 (add (mk h.size 0 none) 3) = some (string s9) ∧ rd h14 (add (mk h1.size 0 none) 2) = some (int .i64 n8) ∧ rd h14 (add (mk h.size 0 none) 2) = some (int .i64 n7) ∧ rd h14 (add (mk h1.size 0 none) 1) = some (string s6) ∧ rd h14 (add (mk h.size 0 none) 1) = some (string s5) ∧ S_cmp_Compare_string s5 s6 h14 fun vs16 h17 =>
∃ n18, vs16 = [(int .i64 n18)] ∧
rd h17 (add (mk h1.size 0 none) 4) = some (int .i64 n12) ∧ rd h17 (add (mk h.size 0 none) 4) = some (int .i64 n11) ∧ rd h17 (add (mk h1.size 0 none) 3) = some (string s10) ∧ rd h17 (add (mk h.size 0 none) 3) = some (string s9) ∧ rd h17 (add (mk h1.size 0 none) 2) = some (int .i64 n8) ∧ rd h17 (add (mk h.size 0 none) 2) = some (int .i64 n7) ∧ S_cmp_Compare_int n7 n8 h17 fun vs19 h20 =>
∃ n21, vs19 = [(int .i64 n21)] ∧
rd h20 (add (mk h1.size 0 none) 4) = some (int .i64 n12) ∧ rd h20 (add (mk h.size 0 none) 4) = some (int .i64 n11) ∧ rd h20 (add (mk h1.size 0 none) 3) = some (string s10) ∧ rd h20 (add (mk h.size 0 none) 3) = some (string s9) ∧ S_cmp_Compare_string s9 s10 h20 fun vs22 h23 =>
∃ n24, vs22 = [(int .i64 n24)] ∧
rd h23 (add (mk h1.size 0 none) 4) = some (int .i64 n12) ∧ rd h23 (add (mk h.size 0 none) 4) = some (int .i64 n11) ∧ S_cmp_Compare_int n11 n12 h23 fun vs25 h26 =>
∃ n27, vs25 = [(int .i64 n27)] ∧
wth (Array.push h26 (Obj.cells #[(int .i64 n15), (int .i64 n18), (int .i64 n21), (int .i64 n24), (int .i64 n27)] T_int)) fun h28 =>
S_cmp_Or_int ⟨(some (mk h26.size 0 none)), 5, 5⟩ h28 fun vs29 h30 =>
∃ n31, vs29 = [(int .i64 n31)] ∧
Q [(int .i64 n31)] h30
def A_siread_compare : Ann := .nil
theorem E_siread_compare (g0_a_0 : Int) (g0_a_1 : ByteArray) (g0_a_2 : Int) (g0_a_3 : ByteArray) (g0_a_4 : Int) (g1_b_0 : Int) (g1_b_1 : ByteArray) (g1_b_2 : Int) (g1_b_3 : ByteArray) (g1_b_4 : Int) (h : Hp) (Q : PQ) : eW 32 Tryz.f78 A_siread_compare [(agg #[(int .i64 g0_a_0), (string g0_a_1), (int .i64 g0_a_2), (string g0_a_3), (int .i64 g0_a_4)]), (agg #[(int .i64 g1_b_0), (string g1_b_1), (int .i64 g1_b_2), (string g1_b_3), (int .i64 g1_b_4)])] h Q = F_siread_compare g0_a_0 g0_a_1 g0_a_2 g0_a_3 g0_a_4 g1_b_0 g1_b_1 g1_b_2 g1_b_3 g1_b_4 h Q := by kernel_rfl
theorem O_siread_compare (g0_a_0 : Int) (g0_a_1 : ByteArray) (g0_a_2 : Int) (g0_a_3 : ByteArray) (g0_a_4 : Int) (g1_b_0 : Int) (g1_b_1 : ByteArray) (g1_b_2 : Int) (g1_b_3 : ByteArray) (g1_b_4 : Int) {h : Hp} {Q : PQ} (H : F_siread_compare g0_a_0 g0_a_1 g0_a_2 g0_a_3 g0_a_4 g1_b_0 g1_b_1 g1_b_2 g1_b_3 g1_b_4 h Q) : S_siread_compare g0_a_0 g0_a_1 g0_a_2 g0_a_3 g0_a_4 g1_b_0 g1_b_1 g1_b_2 g1_b_3 g1_b_4 h Q :=
 fo Tryz.func78 (E_siread_compare g0_a_0 g0_a_1 g0_a_2 g0_a_3 g0_a_4 g1_b_0 g1_b_1 g1_b_2 g1_b_3 g1_b_4 h Q) H
def F_siread_Table_Owners_1 (g0_y_0 : Int) (g0_y_1 : ByteArray) (g0_y_2 : Int) (g0_y_3 : ByteArray) (g0_y_4 : Int) (g1_x : Addr) (h : Hp) (Q : PQ) : Prop :=
wth (Array.push h (Obj.cells #[(int .i64 g0_y_0), (string g0_y_1), (int .i64 g0_y_2), (string g0_y_3), (int .i64 g0_y_4)] T_siread_Thing)) fun h1 =>
∃ n2, rd h1 (add (mk h.size 0 none) 0) = some (int .i64 n2) ∧ ∃ s3, rd h1 (add (mk h.size 0 none) 1) = some (string s3) ∧ ∃ n4, rd h1 (add (mk h.size 0 none) 2) = some (int .i64 n4) ∧ ∃ s5, rd h1 (add (mk h.size 0 none) 3) = some (string s5) ∧ ∃ n6, rd h1 (add (mk h.size 0 none) 4) = some (int .i64 n6) ∧ ∃ n7, rd h1 (add g1_x 0) = some (int .i64 n7) ∧ ∃ s8, rd h1 (add g1_x 1) = some (string s8) ∧ ∃ n9, rd h1 (add g1_x 2) = some (int .i64 n9) ∧ ∃ s10, rd h1 (add g1_x 3) = some (string s10) ∧ ∃ n11, rd h1 (add g1_x 4) = some (int .i64 n11) ∧ (if (n2 == n7 && (s3 == s8 && (n4 == n9 && (s5 == s10 && (n6 == n11 && true))))) = true then (Q [(bool true)] h1) else
 (∃ n12, rd h1 (add g1_x 0) = some (int .i64 n12) ∧ ∃ s13, rd h1 (add g1_x 1) = some (string s13) ∧ ∃ n14, rd h1 (add g1_x 2) = some (int .i64 n14) ∧ ∃ s15, rd h1 (add g1_x 3) = some (string s15) ∧ ∃ n16, rd h1 (add g1_x 4) = some (int .i64 n16) ∧ S_siread_Thing_fine n12 s13 n14 s15 n16 h1 fun vs17 h18 =>
 ∃ b19, vs17 = [(bool b19)] ∧
 (if b19 = true then (∃ n20, rd h18 (add (mk h.size 0 none) 0) = some (int .i64 n20) ∧ ∃ s21, rd h18 (add (mk h.size 0 none) 1) = some (string s21) ∧ ∃ n22, rd h18 (add (mk h.size 0 none) 2) = some (int .i64 n22) ∧ ∃ s23, rd h18 (add (mk h.size 0 none) 3) = some (string s23) ∧ ∃ n24, rd h18 (add (mk h.size 0 none) 4) = some (int .i64 n24) ∧ ∃ n25, rd h18 (add g1_x 0) = some (int .i64 n25) ∧ ∃ s26, rd h18 (add g1_x 1) = some (string s26) ∧ ∃ n27, rd h18 (add g1_x 2) = some (int .i64 n27) ∧ ∃ s28, rd h18 (add g1_x 3) = some (string s28) ∧ ∃ n29, rd h18 (add g1_x 4) = some (int .i64 n29) ∧ S_siread_Thing_rel n25 s26 n27 s28 n29 h18 fun vs30 h31 =>
 ∃ n32, ∃ s33, ∃ n34, ∃ s35, ∃ n36, vs30 = [(agg #[(int .i64 n32), (string s33), (int .i64 n34), (string s35), (int .i64 n36)])] ∧
 rd h31 (add (mk h.size 0 none) 0) = some (int .i64 n20) ∧ rd h31 (add (mk h.size 0 none) 1) = some (string s21) ∧ rd h31 (add (mk h.size 0 none) 2) = some (int .i64 n22) ∧ rd h31 (add (mk h.size 0 none) 3) = some (string s23) ∧ rd h31 (add (mk h.size 0 none) 4) = some (int .i64 n24) ∧ Q [(bool (n20 == n32 && (s21 == s33 && (n22 == n34 && (s23 == s35 && (n24 == n36 && true))))))] h31) else
 (Q [(bool false)] h18))))
def A_siread_Table_Owners_1 : Ann := .nil
theorem E_siread_Table_Owners_1 (g0_y_0 : Int) (g0_y_1 : ByteArray) (g0_y_2 : Int) (g0_y_3 : ByteArray) (g0_y_4 : Int) (g1_x : Addr) (h : Hp) (Q : PQ) : eW 17 Tryz.f107 A_siread_Table_Owners_1 [(agg #[(int .i64 g0_y_0), (string g0_y_1), (int .i64 g0_y_2), (string g0_y_3), (int .i64 g0_y_4)]), (pointer (some g1_x))] h Q = F_siread_Table_Owners_1 g0_y_0 g0_y_1 g0_y_2 g0_y_3 g0_y_4 g1_x h Q := by kernel_rfl
theorem O_siread_Table_Owners_1 (g0_y_0 : Int) (g0_y_1 : ByteArray) (g0_y_2 : Int) (g0_y_3 : ByteArray) (g0_y_4 : Int) (g1_x : Addr) {h : Hp} {Q : PQ} (H : F_siread_Table_Owners_1 g0_y_0 g0_y_1 g0_y_2 g0_y_3 g0_y_4 g1_x h Q) : S_siread_Table_Owners_1 g0_y_0 g0_y_1 g0_y_2 g0_y_3 g0_y_4 g1_x h Q :=
 fo Tryz.func107 (E_siread_Table_Owners_1 g0_y_0 g0_y_1 g0_y_2 g0_y_3 g0_y_4 g1_x h Q) H
def F_ssi_Ssi_clean_1 (g0_x : Int) (g1_x : Addr) (h : Hp) (Q : PQ) : Prop :=
∃ p1, rd h g1_x = some (pointer p1) ∧
nilW p1 fun a2 => ∃ p3, rd h (add a2 0) = some (pointer p3) ∧
∃ p4, rd h g1_x = some (pointer p4) ∧
nilW p4 fun a5 => ∃ p6, rd h (add a5 0) = some (pointer p6) ∧
S_clog_Log_Csn p3 g0_x h fun vs7 h8 =>
∃ n9, vs7 = [(int .i64 n9)] ∧
rd h8 (add a5 0) = some (pointer p6) ∧ rd h8 g1_x = some (pointer p4) ∧ S_clog_Log_Horizon p6 h8 fun vs10 h11 =>
∃ n12, vs10 = [(int .i64 n12)] ∧
∀ J13 : PQ, (∀ h14 : Hp, (Q [(bool (decide (n9 ≤ n12)))] h14) → J13 [] h14) →
(if (decide (n9 ≤ n12)) = true then
 (∃ p15, rd h11 g1_x = some (pointer p15) ∧
 nilW p15 fun a16 => ∃ p17, rd h11 (add a16 1) = some (pointer p17) ∧
 S_siread_Table_Drop p17 g0_x h11 fun vs18 h19 =>
 vs18 = [] ∧
 J13 [] h19) else
 (J13 [] h11))
def A_ssi_Ssi_clean_1 : Ann := (.mk none ⟨[], []⟩ .nil (.mk none ⟨[], []⟩ .nil (.mk none ⟨[], []⟩ (.mk none ⟨[], []⟩ .nil (.mk (some ⟨[4], []⟩) ⟨[], []⟩ .nil .nil)) .nil)))
theorem E_ssi_Ssi_clean_1 (g0_x : Int) (g1_x : Addr) (h : Hp) (Q : PQ) : eW 25 Tryz.f115 A_ssi_Ssi_clean_1 [(int .i64 g0_x), (pointer (some g1_x))] h Q = F_ssi_Ssi_clean_1 g0_x g1_x h Q := by kernel_rfl
theorem O_ssi_Ssi_clean_1 (g0_x : Int) (g1_x : Addr) {h : Hp} {Q : PQ} (H : F_ssi_Ssi_clean_1 g0_x g1_x h Q) : S_ssi_Ssi_clean_1 g0_x g1_x h Q :=
 fo Tryz.func115 (E_ssi_Ssi_clean_1 g0_x g1_x h Q) H
def F_siread_Table_Drop_1 (g0_x_0 : Int) (g0_x_1 : ByteArray) (g0_x_2 : Int) (g0_x_3 : ByteArray) (g0_x_4 : Int) (h : Hp) (Q : PQ) : Prop :=
wth (Array.push h (Obj.cells #[(int .i64 g0_x_0), (string g0_x_1), (int .i64 g0_x_2), (string g0_x_3), (int .i64 g0_x_4)] T_siread_Thing)) fun h1 =>
Q [(bool true)] h1
def A_siread_Table_Drop_1 : Ann := .nil
theorem E_siread_Table_Drop_1 (g0_x_0 : Int) (g0_x_1 : ByteArray) (g0_x_2 : Int) (g0_x_3 : ByteArray) (g0_x_4 : Int) (h : Hp) (Q : PQ) : eW 3 Tryz.f119 A_siread_Table_Drop_1 [(agg #[(int .i64 g0_x_0), (string g0_x_1), (int .i64 g0_x_2), (string g0_x_3), (int .i64 g0_x_4)])] h Q = F_siread_Table_Drop_1 g0_x_0 g0_x_1 g0_x_2 g0_x_3 g0_x_4 h Q := by kernel_rfl
theorem O_siread_Table_Drop_1 (g0_x_0 : Int) (g0_x_1 : ByteArray) (g0_x_2 : Int) (g0_x_3 : ByteArray) (g0_x_4 : Int) {h : Hp} {Q : PQ} (H : F_siread_Table_Drop_1 g0_x_0 g0_x_1 g0_x_2 g0_x_3 g0_x_4 h Q) : S_siread_Table_Drop_1 g0_x_0 g0_x_1 g0_x_2 g0_x_3 g0_x_4 h Q :=
 fo Tryz.func119 (E_siread_Table_Drop_1 g0_x_0 g0_x_1 g0_x_2 g0_x_3 g0_x_4 h Q) H
def F_edge_Edges_Drop_1 (g0_x_0 : Int) (g0_x_1 : Int) (g1_x : Int) (g2_x : Addr) (h : Hp) (Q : PQ) : Prop :=
wth (Array.push h (Obj.cells #[(int .i64 g0_x_0), (int .i64 g0_x_1)] T_2_int)) fun h1 =>
ixOk 0 2 (∃ n2, rd h1 (add (mk h.size 0 none) (Int.toNat 0 * 1)) = some (int .i64 n2) ∧
 ∃ n3, rd h1 g2_x = some (int .i64 n3) ∧
 (if (n2 == n3) = true then (Q [(bool true)] h1) else
 (ixOk 1 2 (∃ n4, rd h1 (add (mk h.size 0 none) (Int.toNat 1 * 1)) = some (int .i64 n4) ∧
 ∃ n5, rd h1 g2_x = some (int .i64 n5) ∧
 Q [(bool (n4 == n5))] h1))))
def A_edge_Edges_Drop_1 : Ann := .nil
theorem E_edge_Edges_Drop_1 (g0_x_0 : Int) (g0_x_1 : Int) (g1_x : Int) (g2_x : Addr) (h : Hp) (Q : PQ) : eW 16 Tryz.f121 A_edge_Edges_Drop_1 [(agg #[(int .i64 g0_x_0), (int .i64 g0_x_1)]), (int .i64 g1_x), (pointer (some g2_x))] h Q = F_edge_Edges_Drop_1 g0_x_0 g0_x_1 g1_x g2_x h Q := by kernel_rfl
theorem O_edge_Edges_Drop_1 (g0_x_0 : Int) (g0_x_1 : Int) (g1_x : Int) (g2_x : Addr) {h : Hp} {Q : PQ} (H : F_edge_Edges_Drop_1 g0_x_0 g0_x_1 g1_x g2_x h Q) : S_edge_Edges_Drop_1 g0_x_0 g0_x_1 g1_x g2_x h Q :=
 fo Tryz.func121 (E_edge_Edges_Drop_1 g0_x_0 g0_x_1 g1_x g2_x h Q) H
def A_maps_Keys_map_2_int_int_2_int_int_1 : Ann := (.mk none ⟨[], []⟩ .nil (.mk none ⟨[], []⟩ (.mk none ⟨[0, 5], []⟩ .nil .nil) .nil))
def A_maps_Keys_map_siread_Thing_int_siread_Thing_int_1 : Ann := (.mk none ⟨[], []⟩ .nil (.mk none ⟨[], []⟩ (.mk none ⟨[0, 5], []⟩ .nil .nil) .nil))
def F_siread_Table_take_1 (g0_y_0 : Int) (g0_y_1 : ByteArray) (g0_y_2 : Int) (g0_y_3 : ByteArray) (g0_y_4 : Int) (g1_x : Addr) (h : Hp) (Q : PQ) : Prop :=
wth (Array.push h (Obj.cells #[(int .i64 g0_y_0), (string g0_y_1), (int .i64 g0_y_2), (string g0_y_3), (int .i64 g0_y_4)] T_siread_Thing)) fun h1 =>
∃ n2, rd h1 (add (mk h.size 0 none) 0) = some (int .i64 n2) ∧ ∃ s3, rd h1 (add (mk h.size 0 none) 1) = some (string s3) ∧ ∃ n4, rd h1 (add (mk h.size 0 none) 2) = some (int .i64 n4) ∧ ∃ s5, rd h1 (add (mk h.size 0 none) 3) = some (string s5) ∧ ∃ n6, rd h1 (add (mk h.size 0 none) 4) = some (int .i64 n6) ∧ S_siread_Thing_fine n2 s3 n4 s5 n6 h1 fun vs7 h8 =>
∃ b9, vs7 = [(bool b9)] ∧
(if b9 = true then (∃ n10, rd h8 (add (mk h.size 0 none) 2) = some (int .i64 n10) ∧
 ∃ n11, rd h8 (add g1_x 2) = some (int .i64 n11) ∧
 Q [(bool (n10 == n11))] h8) else
 (Q [(bool false)] h8))
def A_siread_Table_take_1 : Ann := .nil
theorem E_siread_Table_take_1 (g0_y_0 : Int) (g0_y_1 : ByteArray) (g0_y_2 : Int) (g0_y_3 : ByteArray) (g0_y_4 : Int) (g1_x : Addr) (h : Hp) (Q : PQ) : eW 13 Tryz.f150 A_siread_Table_take_1 [(agg #[(int .i64 g0_y_0), (string g0_y_1), (int .i64 g0_y_2), (string g0_y_3), (int .i64 g0_y_4)]), (pointer (some g1_x))] h Q = F_siread_Table_take_1 g0_y_0 g0_y_1 g0_y_2 g0_y_3 g0_y_4 g1_x h Q := by kernel_rfl
theorem O_siread_Table_take_1 (g0_y_0 : Int) (g0_y_1 : ByteArray) (g0_y_2 : Int) (g0_y_3 : ByteArray) (g0_y_4 : Int) (g1_x : Addr) {h : Hp} {Q : PQ} (H : F_siread_Table_take_1 g0_y_0 g0_y_1 g0_y_2 g0_y_3 g0_y_4 g1_x h Q) : S_siread_Table_take_1 g0_y_0 g0_y_1 g0_y_2 g0_y_3 g0_y_4 g1_x h Q :=
 fo Tryz.func150 (E_siread_Table_take_1 g0_y_0 g0_y_1 g0_y_2 g0_y_3 g0_y_4 g1_x h Q) H
end Go.Lift

/- Printed by lift.py: each Go function of this seat as a Prop over the heap, and that the Go code comes to it. -/
import Derived.Test.YtgobalogbijliaaLvL
import Derived.Test.YtgobalogbijliaaProg
set_option linter.unusedSimpArgs false
set_option linter.unusedVariables false
namespace Go.Lift
open Go Go.Proofs
set_option maxRecDepth 100000
noncomputable abbrev PP : Program := Try.prog
theorem mixedPP : PP.follows .mixedOrders = true := by kernel_rfl
def bodyOf (f : Func) : Code := f.body.getD .skip
abbrev T_int : TypeId := 3
abbrev T_string : TypeId := 9
abbrev T_liveryref06_Table : TypeId := 28
abbrev T_liverylaw06_Step : TypeId := 32
abbrev T_liveryref06_Wants : TypeId := 42
abbrev T_9_bool : TypeId := 51
abbrev T_20_bool : TypeId := 53
abbrev T_map_string_plock_queue : TypeId := 59
abbrev T_lock_Table : TypeId := 61
abbrev T_lock_request : TypeId := 66
abbrev T_map_int_int : TypeId := 68
abbrev T_lock_queue : TypeId := 71
abbrev T_liveryref06_held : TypeId := 73
abbrev T_9_int : TypeId := 84
abbrev T_slices_xorshift : TypeId := 118
/-- main.main -/
def S_main_main (h : Hp) (Q : List Value → Hp → Prop) : Prop := Fn PP 0 #[] h Q
/-- gosem.cut -/
def S_gosem_cut (h : Hp) (Q : List Value → Hp → Prop) : Prop := Fn PP 1 #[] h Q
/-- gosem.cut.init -/
def S_gosem_cut_init (h : Hp) (Q : List Value → Hp → Prop) : Prop := Fn PP 2 #[] h Q
/-- livery/lock.New -/
def S_lock_New (h : Hp) (Q : List Value → Hp → Prop) : Prop := Fn PP 10 #[] h Q
/-- livery/liverylaw06.fair -/
def S_liverylaw06_fair (g0_l : Sl) (h : Hp) (Q : List Value → Hp → Prop) : Prop := Fn PP 11 #[(Value.slice g0_l.a g0_l.n g0_l.c)] h Q
/-- slices.IndexFunc[[]livery/lock.request,livery/lock.request] -/
def S_slices_IndexFunc_slock_request_lock_request (g0_s : Sl) (g1_f_f : Nat) (g1_f_c : Array Value) (h : Hp) (Q : List Value → Hp → Prop) : Prop := Fn PP 52 #[(Value.slice g0_s.a g0_s.n g0_s.c), (Value.func (.func g1_f_f) #[] g1_f_c)] h Q
/-- (*livery/lock.Table).waiting -/
def S_lock_Table_waiting (g0_t : Option Addr) (g1_holder : Int) (h : Hp) (Q : List Value → Hp → Prop) : Prop := Fn PP 40 #[(Value.pointer g0_t), (Value.int .i64 g1_holder)] h Q
/-- (*livery/lock.Table).Waits -/
def S_lock_Table_Waits (g0_t : Option Addr) (g1_holder : Int) (h : Hp) (Q : List Value → Hp → Prop) : Prop := Fn PP 18 #[(Value.pointer g0_t), (Value.int .i64 g1_holder)] h Q
/-- (*livery/lock.Table).Modes -/
def S_lock_Table_Modes (g0_t : Option Addr) (g1_holder : Int) (g2_name : ByteArray) (h : Hp) (Q : List Value → Hp → Prop) : Prop := Fn PP 20 #[(Value.pointer g0_t), (Value.int .i64 g1_holder), (Value.string g2_name)] h Q
/-- livery/mode.is -/
def S_mode_is (g0_m : Int) (h : Hp) (Q : List Value → Hp → Prop) : Prop := Fn PP 45 #[(Value.int .i64 g0_m)] h Q
/-- livery/mode.bars -/
def S_mode_bars (h : Hp) (Q : List Value → Hp → Prop) : Prop := Fn PP 46 #[] h Q
/-- livery/mode.With -/
def S_mode_With (g0_m : Int) (h : Hp) (Q : List Value → Hp → Prop) : Prop := Fn PP 31 #[(Value.int .i64 g0_m)] h Q
/-- (*livery/lock.Table).queue -/
def S_lock_Table_queue (g0_t : Option Addr) (g1_name : ByteArray) (h : Hp) (Q : List Value → Hp → Prop) : Prop := Fn PP 32 #[(Value.pointer g0_t), (Value.string g1_name)] h Q
/-- livery/mode.Any -/
def S_mode_Any (g0_set : Int) (g1_m : Int) (h : Hp) (Q : List Value → Hp → Prop) : Prop := Fn PP 47 #[(Value.int .i64 g0_set), (Value.int .i64 g1_m)] h Q
/-- livery/mode.Bars -/
def S_mode_Bars (g0_a : Int) (g1_b : Int) (h : Hp) (Q : List Value → Hp → Prop) : Prop := Fn PP 48 #[(Value.int .i64 g0_a), (Value.int .i64 g1_b)] h Q
/-- slices.AppendSeq[[]int,int] -/
def S_slices_AppendSeq_sint_int (g0_s : Sl) (g1_seq_f : Nat) (g1_seq_c : Array Value) (h : Hp) (Q : List Value → Hp → Prop) : Prop := Fn PP 63 #[(Value.slice g0_s.a g0_s.n g0_s.c), (Value.func (.func g1_seq_f) #[] g1_seq_c)] h Q
/-- slices.Collect[int] -/
def S_slices_Collect_int (g0_seq_f : Nat) (g0_seq_c : Array Value) (h : Hp) (Q : List Value → Hp → Prop) : Prop := Fn PP 57 #[(Value.func (.func g0_seq_f) #[] g0_seq_c)] h Q
/-- math/bits.Len64 -/
def S_math_bits_Len64 (g0_x : Int) (h : Hp) (Q : List Value → Hp → Prop) : Prop := Fn PP 75 #[(Value.int .u64 g0_x)] h Q
/-- math/bits.Len -/
def S_math_bits_Len (g0_x : Int) (h : Hp) (Q : List Value → Hp → Prop) : Prop := Fn PP 62 #[(Value.int .u64 g0_x)] h Q
/-- cmp.isNaN[int] -/
def S_cmp_isNaN_int (g0_x : Int) (h : Hp) (Q : List Value → Hp → Prop) : Prop := Fn PP 94 #[(Value.int .i64 g0_x)] h Q
/-- cmp.Less[int] -/
def S_cmp_Less_int (g0_x : Int) (g1_y : Int) (h : Hp) (Q : List Value → Hp → Prop) : Prop := Fn PP 82 #[(Value.int .i64 g0_x), (Value.int .i64 g1_y)] h Q
/-- slices.insertionSortOrdered[int] -/
def S_slices_insertionSortOrdered_int (g0_data : Sl) (g1_a : Int) (g2_b : Int) (h : Hp) (Q : List Value → Hp → Prop) : Prop := Fn PP 76 #[(Value.slice g0_data.a g0_data.n g0_data.c), (Value.int .i64 g1_a), (Value.int .i64 g2_b)] h Q
/-- slices.siftDownOrdered[int] -/
def S_slices_siftDownOrdered_int (g0_data : Sl) (g1_lo : Int) (g2_hi : Int) (g3_first : Int) (h : Hp) (Q : List Value → Hp → Prop) : Prop := Fn PP 91 #[(Value.slice g0_data.a g0_data.n g0_data.c), (Value.int .i64 g1_lo), (Value.int .i64 g2_hi), (Value.int .i64 g3_first)] h Q
/-- slices.heapSortOrdered[int] -/
def S_slices_heapSortOrdered_int (g0_data : Sl) (g1_a : Int) (g2_b : Int) (h : Hp) (Q : List Value → Hp → Prop) : Prop := Fn PP 77 #[(Value.slice g0_data.a g0_data.n g0_data.c), (Value.int .i64 g1_a), (Value.int .i64 g2_b)] h Q
/-- slices.nextPowerOfTwo -/
def S_slices_nextPowerOfTwo (g0_length : Int) (h : Hp) (Q : List Value → Hp → Prop) : Prop := Fn PP 86 #[(Value.int .i64 g0_length)] h Q
/-- (*slices.xorshift).Next -/
def S_slices_xorshift_Next (g0_r : Option Addr) (h : Hp) (Q : List Value → Hp → Prop) : Prop := Fn PP 87 #[(Value.pointer g0_r)] h Q
/-- slices.breakPatternsOrdered[int] -/
def S_slices_breakPatternsOrdered_int (g0_data : Sl) (g1_a : Int) (g2_b : Int) (h : Hp) (Q : List Value → Hp → Prop) : Prop := Fn PP 78 #[(Value.slice g0_data.a g0_data.n g0_data.c), (Value.int .i64 g1_a), (Value.int .i64 g2_b)] h Q
/-- slices.order2Ordered[int] -/
def S_slices_order2Ordered_int (g0_data : Sl) (g1_a : Int) (g2_b : Int) (g3_swaps : Option Addr) (h : Hp) (Q : List Value → Hp → Prop) : Prop := Fn PP 96 #[(Value.slice g0_data.a g0_data.n g0_data.c), (Value.int .i64 g1_a), (Value.int .i64 g2_b), (Value.pointer g3_swaps)] h Q
/-- slices.medianOrdered[int] -/
def S_slices_medianOrdered_int (g0_data : Sl) (g1_a : Int) (g2_b : Int) (g3_c : Int) (g4_swaps : Option Addr) (h : Hp) (Q : List Value → Hp → Prop) : Prop := Fn PP 93 #[(Value.slice g0_data.a g0_data.n g0_data.c), (Value.int .i64 g1_a), (Value.int .i64 g2_b), (Value.int .i64 g3_c), (Value.pointer g4_swaps)] h Q
/-- slices.medianAdjacentOrdered[int] -/
def S_slices_medianAdjacentOrdered_int (g0_data : Sl) (g1_a : Int) (g2_swaps : Option Addr) (h : Hp) (Q : List Value → Hp → Prop) : Prop := Fn PP 92 #[(Value.slice g0_data.a g0_data.n g0_data.c), (Value.int .i64 g1_a), (Value.pointer g2_swaps)] h Q
/-- slices.choosePivotOrdered[int] -/
def S_slices_choosePivotOrdered_int (g0_data : Sl) (g1_a : Int) (g2_b : Int) (h : Hp) (Q : List Value → Hp → Prop) : Prop := Fn PP 79 #[(Value.slice g0_data.a g0_data.n g0_data.c), (Value.int .i64 g1_a), (Value.int .i64 g2_b)] h Q
/-- slices.reverseRangeOrdered[int] -/
def S_slices_reverseRangeOrdered_int (g0_data : Sl) (g1_a : Int) (g2_b : Int) (h : Hp) (Q : List Value → Hp → Prop) : Prop := Fn PP 80 #[(Value.slice g0_data.a g0_data.n g0_data.c), (Value.int .i64 g1_a), (Value.int .i64 g2_b)] h Q
/-- slices.partialInsertionSortOrdered[int] -/
def S_slices_partialInsertionSortOrdered_int (g0_data : Sl) (g1_a : Int) (g2_b : Int) (h : Hp) (Q : List Value → Hp → Prop) : Prop := Fn PP 81 #[(Value.slice g0_data.a g0_data.n g0_data.c), (Value.int .i64 g1_a), (Value.int .i64 g2_b)] h Q
/-- slices.partitionEqualOrdered[int] -/
def S_slices_partitionEqualOrdered_int (g0_data : Sl) (g1_a : Int) (g2_b : Int) (g3_pivot : Int) (h : Hp) (Q : List Value → Hp → Prop) : Prop := Fn PP 83 #[(Value.slice g0_data.a g0_data.n g0_data.c), (Value.int .i64 g1_a), (Value.int .i64 g2_b), (Value.int .i64 g3_pivot)] h Q
/-- slices.partitionOrdered[int] -/
def S_slices_partitionOrdered_int (g0_data : Sl) (g1_a : Int) (g2_b : Int) (g3_pivot : Int) (h : Hp) (Q : List Value → Hp → Prop) : Prop := Fn PP 84 #[(Value.slice g0_data.a g0_data.n g0_data.c), (Value.int .i64 g1_a), (Value.int .i64 g2_b), (Value.int .i64 g3_pivot)] h Q
/-- slices.pdqsortOrdered[int] -/
def S_slices_pdqsortOrdered_int (g0_data : Sl) (g1_a : Int) (g2_b : Int) (g3_limit : Int) (h : Hp) (Q : List Value → Hp → Prop) : Prop := Fn PP 64 #[(Value.slice g0_data.a g0_data.n g0_data.c), (Value.int .i64 g1_a), (Value.int .i64 g2_b), (Value.int .i64 g3_limit)] h Q
/-- slices.Sort[[]int,int] -/
def S_slices_Sort_sint_int (g0_x : Sl) (h : Hp) (Q : List Value → Hp → Prop) : Prop := Fn PP 58 #[(Value.slice g0_x.a g0_x.n g0_x.c)] h Q
/-- slices.Sorted[int] -/
def S_slices_Sorted_int (g0_seq_f : Nat) (g0_seq_c : Array Value) (h : Hp) (Q : List Value → Hp → Prop) : Prop := Fn PP 49 #[(Value.func (.func g0_seq_f) #[] g0_seq_c)] h Q
/-- maps.Keys[map[int]int,int,int] -/
def S_maps_Keys_map_int_int_int_int (g0_m : Option Nat) (h : Hp) (Q : List Value → Hp → Prop) : Prop := Fn PP 50 #[(Value.map g0_m)] h Q
/-- (*livery/lock.queue).bars -/
def S_lock_queue_bars (g0_q : Option Addr) (g1_r_0 : Int) (g1_r_1 : Int) (g2_ahead : Sl) (h : Hp) (Q : List Value → Hp → Prop) : Prop := Fn PP 33 #[(Value.pointer g0_q), (Value.agg #[(Value.int .i64 g1_r_0), (Value.int .i64 g1_r_1)]), (Value.slice g2_ahead.a g2_ahead.n g2_ahead.c)] h Q
/-- (*livery/lock.Table).Take -/
def S_lock_Table_Take (g0_t : Option Addr) (g1_holder : Int) (g2_name : ByteArray) (g3_m : Int) (h : Hp) (Q : List Value → Hp → Prop) : Prop := Fn PP 13 #[(Value.pointer g0_t), (Value.int .i64 g1_holder), (Value.string g2_name), (Value.int .i64 g3_m)] h Q
/-- livery/liverykeep.Ints -/
def S_liverykeep_Ints (g0_a : Sl) (g1_b : Sl) (h : Hp) (Q : List Value → Hp → Prop) : Prop := Fn PP 15 #[(Value.slice g0_a.a g0_a.n g0_a.c), (Value.slice g1_b.a g1_b.n g1_b.c)] h Q
/-- slices.AppendSeq[[]string,string] -/
def S_slices_AppendSeq_sstring_string (g0_s : Sl) (g1_seq_f : Nat) (g1_seq_c : Array Value) (h : Hp) (Q : List Value → Hp → Prop) : Prop := Fn PP 60 #[(Value.slice g0_s.a g0_s.n g0_s.c), (Value.func (.func g1_seq_f) #[] g1_seq_c)] h Q
/-- slices.Collect[string] -/
def S_slices_Collect_string (g0_seq_f : Nat) (g0_seq_c : Array Value) (h : Hp) (Q : List Value → Hp → Prop) : Prop := Fn PP 54 #[(Value.func (.func g0_seq_f) #[] g0_seq_c)] h Q
/-- cmp.isNaN[string] -/
def S_cmp_isNaN_string (g0_x : ByteArray) (h : Hp) (Q : List Value → Hp → Prop) : Prop := Fn PP 90 #[(Value.string g0_x)] h Q
/-- cmp.Less[string] -/
def S_cmp_Less_string (g0_x : ByteArray) (g1_y : ByteArray) (h : Hp) (Q : List Value → Hp → Prop) : Prop := Fn PP 71 #[(Value.string g0_x), (Value.string g1_y)] h Q
/-- slices.insertionSortOrdered[string] -/
def S_slices_insertionSortOrdered_string (g0_data : Sl) (g1_a : Int) (g2_b : Int) (h : Hp) (Q : List Value → Hp → Prop) : Prop := Fn PP 65 #[(Value.slice g0_data.a g0_data.n g0_data.c), (Value.int .i64 g1_a), (Value.int .i64 g2_b)] h Q
/-- slices.siftDownOrdered[string] -/
def S_slices_siftDownOrdered_string (g0_data : Sl) (g1_lo : Int) (g2_hi : Int) (g3_first : Int) (h : Hp) (Q : List Value → Hp → Prop) : Prop := Fn PP 85 #[(Value.slice g0_data.a g0_data.n g0_data.c), (Value.int .i64 g1_lo), (Value.int .i64 g2_hi), (Value.int .i64 g3_first)] h Q
/-- slices.heapSortOrdered[string] -/
def S_slices_heapSortOrdered_string (g0_data : Sl) (g1_a : Int) (g2_b : Int) (h : Hp) (Q : List Value → Hp → Prop) : Prop := Fn PP 66 #[(Value.slice g0_data.a g0_data.n g0_data.c), (Value.int .i64 g1_a), (Value.int .i64 g2_b)] h Q
/-- slices.breakPatternsOrdered[string] -/
def S_slices_breakPatternsOrdered_string (g0_data : Sl) (g1_a : Int) (g2_b : Int) (h : Hp) (Q : List Value → Hp → Prop) : Prop := Fn PP 67 #[(Value.slice g0_data.a g0_data.n g0_data.c), (Value.int .i64 g1_a), (Value.int .i64 g2_b)] h Q
/-- slices.order2Ordered[string] -/
def S_slices_order2Ordered_string (g0_data : Sl) (g1_a : Int) (g2_b : Int) (g3_swaps : Option Addr) (h : Hp) (Q : List Value → Hp → Prop) : Prop := Fn PP 95 #[(Value.slice g0_data.a g0_data.n g0_data.c), (Value.int .i64 g1_a), (Value.int .i64 g2_b), (Value.pointer g3_swaps)] h Q
/-- slices.medianOrdered[string] -/
def S_slices_medianOrdered_string (g0_data : Sl) (g1_a : Int) (g2_b : Int) (g3_c : Int) (g4_swaps : Option Addr) (h : Hp) (Q : List Value → Hp → Prop) : Prop := Fn PP 89 #[(Value.slice g0_data.a g0_data.n g0_data.c), (Value.int .i64 g1_a), (Value.int .i64 g2_b), (Value.int .i64 g3_c), (Value.pointer g4_swaps)] h Q
/-- slices.medianAdjacentOrdered[string] -/
def S_slices_medianAdjacentOrdered_string (g0_data : Sl) (g1_a : Int) (g2_swaps : Option Addr) (h : Hp) (Q : List Value → Hp → Prop) : Prop := Fn PP 88 #[(Value.slice g0_data.a g0_data.n g0_data.c), (Value.int .i64 g1_a), (Value.pointer g2_swaps)] h Q
/-- slices.choosePivotOrdered[string] -/
def S_slices_choosePivotOrdered_string (g0_data : Sl) (g1_a : Int) (g2_b : Int) (h : Hp) (Q : List Value → Hp → Prop) : Prop := Fn PP 68 #[(Value.slice g0_data.a g0_data.n g0_data.c), (Value.int .i64 g1_a), (Value.int .i64 g2_b)] h Q
/-- slices.reverseRangeOrdered[string] -/
def S_slices_reverseRangeOrdered_string (g0_data : Sl) (g1_a : Int) (g2_b : Int) (h : Hp) (Q : List Value → Hp → Prop) : Prop := Fn PP 69 #[(Value.slice g0_data.a g0_data.n g0_data.c), (Value.int .i64 g1_a), (Value.int .i64 g2_b)] h Q
/-- slices.partialInsertionSortOrdered[string] -/
def S_slices_partialInsertionSortOrdered_string (g0_data : Sl) (g1_a : Int) (g2_b : Int) (h : Hp) (Q : List Value → Hp → Prop) : Prop := Fn PP 70 #[(Value.slice g0_data.a g0_data.n g0_data.c), (Value.int .i64 g1_a), (Value.int .i64 g2_b)] h Q
/-- slices.partitionEqualOrdered[string] -/
def S_slices_partitionEqualOrdered_string (g0_data : Sl) (g1_a : Int) (g2_b : Int) (g3_pivot : Int) (h : Hp) (Q : List Value → Hp → Prop) : Prop := Fn PP 72 #[(Value.slice g0_data.a g0_data.n g0_data.c), (Value.int .i64 g1_a), (Value.int .i64 g2_b), (Value.int .i64 g3_pivot)] h Q
/-- slices.partitionOrdered[string] -/
def S_slices_partitionOrdered_string (g0_data : Sl) (g1_a : Int) (g2_b : Int) (g3_pivot : Int) (h : Hp) (Q : List Value → Hp → Prop) : Prop := Fn PP 73 #[(Value.slice g0_data.a g0_data.n g0_data.c), (Value.int .i64 g1_a), (Value.int .i64 g2_b), (Value.int .i64 g3_pivot)] h Q
/-- slices.pdqsortOrdered[string] -/
def S_slices_pdqsortOrdered_string (g0_data : Sl) (g1_a : Int) (g2_b : Int) (g3_limit : Int) (h : Hp) (Q : List Value → Hp → Prop) : Prop := Fn PP 61 #[(Value.slice g0_data.a g0_data.n g0_data.c), (Value.int .i64 g1_a), (Value.int .i64 g2_b), (Value.int .i64 g3_limit)] h Q
/-- slices.Sort[[]string,string] -/
def S_slices_Sort_sstring_string (g0_x : Sl) (h : Hp) (Q : List Value → Hp → Prop) : Prop := Fn PP 55 #[(Value.slice g0_x.a g0_x.n g0_x.c)] h Q
/-- slices.Sorted[string] -/
def S_slices_Sorted_string (g0_seq_f : Nat) (g0_seq_c : Array Value) (h : Hp) (Q : List Value → Hp → Prop) : Prop := Fn PP 41 #[(Value.func (.func g0_seq_f) #[] g0_seq_c)] h Q
/-- maps.Keys[map[string]*livery/lock.queue,string,*livery/lock.queue] -/
def S_maps_Keys_map_string_plock_queue_string_plock_queue (g0_m : Option Nat) (h : Hp) (Q : List Value → Hp → Prop) : Prop := Fn PP 42 #[(Value.map g0_m)] h Q
/-- (*livery/lock.Table).Names -/
def S_lock_Table_Names (g0_t : Option Addr) (h : Hp) (Q : List Value → Hp → Prop) : Prop := Fn PP 25 #[(Value.pointer g0_t)] h Q
/-- slices.ContainsFunc[[]livery/lock.request,livery/lock.request] -/
def S_slices_ContainsFunc_slock_request_lock_request (g0_s : Sl) (g1_f_f : Nat) (g1_f_c : Array Value) (h : Hp) (Q : List Value → Hp → Prop) : Prop := Fn PP 37 #[(Value.slice g0_s.a g0_s.n g0_s.c), (Value.func (.func g1_f_f) #[] g1_f_c)] h Q
/-- slices.DeleteFunc[[]livery/lock.request,livery/lock.request] -/
def S_slices_DeleteFunc_slock_request_lock_request (g0_s : Sl) (g1_del_f : Nat) (g1_del_c : Array Value) (h : Hp) (Q : List Value → Hp → Prop) : Prop := Fn PP 38 #[(Value.slice g0_s.a g0_s.n g0_s.c), (Value.func (.func g1_del_f) #[] g1_del_c)] h Q
/-- (*livery/lock.queue).grant -/
def S_lock_queue_grant (g0_q : Option Addr) (h : Hp) (Q : List Value → Hp → Prop) : Prop := Fn PP 39 #[(Value.pointer g0_q)] h Q
/-- (*livery/lock.Table).Release -/
def S_lock_Table_Release (g0_t : Option Addr) (g1_holder : Int) (h : Hp) (Q : List Value → Hp → Prop) : Prop := Fn PP 16 #[(Value.pointer g0_t), (Value.int .i64 g1_holder)] h Q
/-- (*livery/lock.Table).For -/
def S_lock_Table_For (g0_t : Option Addr) (g1_holder : Int) (h : Hp) (Q : List Value → Hp → Prop) : Prop := Fn PP 22 #[(Value.pointer g0_t), (Value.int .i64 g1_holder)] h Q
/-- livery/liverylaw06.wakes -/
def S_liverylaw06_wakes (h : Hp) (Q : List Value → Hp → Prop) : Prop := Fn PP 12 #[] h Q
/-- (*livery/liveryref06.Table).Set -/
def S_liveryref06_Table_Set (g0_t : Option Addr) (g1_holder : Int) (g2_name : ByteArray) (h : Hp) (Q : List Value → Hp → Prop) : Prop := Fn PP 21 #[(Value.pointer g0_t), (Value.int .i64 g1_holder), (Value.string g2_name)] h Q
/-- livery/liveryref05.In -/
def S_liveryref05_In (g0_set : Int) (g1_m : Int) (h : Hp) (Q : List Value → Hp → Prop) : Prop := Fn PP 29 #[(Value.int .i64 g0_set), (Value.int .i64 g1_m)] h Q
/-- (*livery/liveryref06.Table).Find -/
def S_liveryref06_Table_Find (g0_t : Option Addr) (g1_holder : Int) (h : Hp) (Q : List Value → Hp → Prop) : Prop := Fn PP 34 #[(Value.pointer g0_t), (Value.int .i64 g1_holder)] h Q
/-- livery/liveryref05.bars -/
def S_liveryref05_bars (g0_m : Int) (h : Hp) (Q : List Value → Hp → Prop) : Prop := Fn PP 44 #[(Value.int .i64 g0_m)] h Q
/-- livery/liveryref05.Bars -/
def S_liveryref05_Bars (g0_a : Int) (g1_b : Int) (h : Hp) (Q : List Value → Hp → Prop) : Prop := Fn PP 30 #[(Value.int .i64 g0_a), (Value.int .i64 g1_b)] h Q
/-- livery/liveryref06.put -/
def S_liveryref06_put (g0_l : Sl) (g1_n : Int) (h : Hp) (Q : List Value → Hp → Prop) : Prop := Fn PP 51 #[(Value.slice g0_l.a g0_l.n g0_l.c), (Value.int .i64 g1_n)] h Q
/-- (*livery/liveryref06.Table).bars -/
def S_liveryref06_Table_bars (g0_t : Option Addr) (g1_x_0 : ByteArray) (g1_x_1 : Int) (g1_x_2 : Int) (g2_at : Int) (h : Hp) (Q : List Value → Hp → Prop) : Prop := Fn PP 35 #[(Value.pointer g0_t), (Value.agg #[(Value.string g1_x_0), (Value.int .i64 g1_x_1), (Value.int .i64 g1_x_2)]), (Value.int .i64 g2_at)] h Q
/-- (*livery/liveryref06.Table).Take -/
def S_liveryref06_Table_Take (g0_t : Option Addr) (g1_holder : Int) (g2_name : ByteArray) (g3_m : Int) (h : Hp) (Q : List Value → Hp → Prop) : Prop := Fn PP 14 #[(Value.pointer g0_t), (Value.int .i64 g1_holder), (Value.string g2_name), (Value.int .i64 g3_m)] h Q
/-- (*livery/liveryref06.Table).Names -/
def S_liveryref06_Table_Names (g0_t : Option Addr) (h : Hp) (Q : List Value → Hp → Prop) : Prop := Fn PP 26 #[(Value.pointer g0_t)] h Q
/-- (*livery/liveryref06.Table).Release -/
def S_liveryref06_Table_Release (g0_t : Option Addr) (g1_holder : Int) (h : Hp) (Q : List Value → Hp → Prop) : Prop := Fn PP 17 #[(Value.pointer g0_t), (Value.int .i64 g1_holder)] h Q
/-- (*livery/liveryref06.Table).Waits -/
def S_liveryref06_Table_Waits (g0_t : Option Addr) (g1_holder : Int) (h : Hp) (Q : List Value → Hp → Prop) : Prop := Fn PP 19 #[(Value.pointer g0_t), (Value.int .i64 g1_holder)] h Q
/-- (*livery/liveryref06.Table).For -/
def S_liveryref06_Table_For (g0_t : Option Addr) (g1_holder : Int) (h : Hp) (Q : List Value → Hp → Prop) : Prop := Fn PP 23 #[(Value.pointer g0_t), (Value.int .i64 g1_holder)] h Q
/-- livery/liverykeep.Texts -/
def S_liverykeep_Texts (g0_a : Sl) (g1_b : Sl) (h : Hp) (Q : List Value → Hp → Prop) : Prop := Fn PP 24 #[(Value.slice g0_a.a g0_a.n g0_a.c), (Value.slice g1_b.a g1_b.n g1_b.c)] h Q
/-- livery/liverylaw06.LockPlays -/
def S_liverylaw06_LockPlays (g0_l : Sl) (h : Hp) (Q : List Value → Hp → Prop) : Prop := Fn PP 3 #[(Value.slice g0_l.a g0_l.n g0_l.c)] h Q
/-- livery/liverykeep.Mod -/
def S_liverykeep_Mod (g0_k : Int) (g1_n : Int) (h : Hp) (Q : List Value → Hp → Prop) : Prop := Fn PP 27 #[(Value.int .i64 g0_k), (Value.int .i64 g1_n)] h Q
/-- livery/liveryref05.Any -/
def S_liveryref05_Any (g0_set : Int) (g1_m : Int) (h : Hp) (Q : List Value → Hp → Prop) : Prop := Fn PP 43 #[(Value.int .i64 g0_set), (Value.int .i64 g1_m)] h Q
/-- livery/liverylaw06.bars -/
def S_liverylaw06_bars (g0_a : Int) (g1_b : Int) (h : Hp) (Q : List Value → Hp → Prop) : Prop := Fn PP 28 #[(Value.int .i64 g0_a), (Value.int .i64 g1_b)] h Q
/-- livery/liverylaw06.LockApart -/
def S_liverylaw06_LockApart (g0_l : Sl) (h : Hp) (Q : List Value → Hp → Prop) : Prop := Fn PP 4 #[(Value.slice g0_l.a g0_l.n g0_l.c)] h Q
/-- livery/liverylaw06.LockEnds -/
def S_liverylaw06_LockEnds (g0_l : Sl) (g1_order : Sl) (h : Hp) (Q : List Value → Hp → Prop) : Prop := Fn PP 5 #[(Value.slice g0_l.a g0_l.n g0_l.c), (Value.slice g1_order.a g1_order.n g1_order.c)] h Q
/-- livery/liverylaw06.LockTurns -/
def S_liverylaw06_LockTurns (g0_order : Sl) (h : Hp) (Q : List Value → Hp → Prop) : Prop := Fn PP 6 #[(Value.slice g0_order.a g0_order.n g0_order.c)] h Q
/-- livery/liverylaw06.LockRaises -/
def S_liverylaw06_LockRaises (g0_n : Int) (h : Hp) (Q : List Value → Hp → Prop) : Prop := Fn PP 7 #[(Value.int .u8 g0_n)] h Q
/-- livery/liverylaw06.LockNone -/
def S_liverylaw06_LockNone (g0_x_0 : Int) (g0_x_1 : Int) (g0_x_2 : Int) (g0_x_3 : ByteArray) (h : Hp) (Q : List Value → Hp → Prop) : Prop := Fn PP 8 #[(Value.agg #[(Value.int .i64 g0_x_0), (Value.int .i64 g0_x_1), (Value.int .i64 g0_x_2), (Value.string g0_x_3)])] h Q
/-- livery/liverylaw06.LockBoth -/
def S_liverylaw06_LockBoth (g0_a : Int) (g1_b : Int) (h : Hp) (Q : List Value → Hp → Prop) : Prop := Fn PP 9 #[(Value.int .u8 g0_a), (Value.int .u8 g1_b)] h Q
/-- (*livery/lock.Table).Release$1 -/
def S_lock_Table_Release_1 (g0_r_0 : Int) (g0_r_1 : Int) (g1_x : Addr) (h : Hp) (Q : List Value → Hp → Prop) : Prop := Fn PP 36 #[(Value.agg #[(Value.int .i64 g0_r_0), (Value.int .i64 g0_r_1)]), (Value.pointer (some g1_x))] h Q
/-- (*livery/lock.Table).waiting$1 -/
def S_lock_Table_waiting_1 (g0_r_0 : Int) (g0_r_1 : Int) (g1_x : Addr) (h : Hp) (Q : List Value → Hp → Prop) : Prop := Fn PP 53 #[(Value.agg #[(Value.int .i64 g0_r_0), (Value.int .i64 g0_r_1)]), (Value.pointer (some g1_x))] h Q
/-- maps.Keys[map[string]*livery/lock.queue,string,*livery/lock.queue]$1 -/
def S_maps_Keys_map_string_plock_queue_string_plock_queue_1 (g0_yield_f : Nat) (g0_yield_c : Array Value) (g1_x : Addr) (h : Hp) (Q : List Value → Hp → Prop) : Prop := Fn PP 56 #[(Value.func (.func g0_yield_f) #[] g0_yield_c), (Value.pointer (some g1_x))] h Q
/-- maps.Keys[map[int]int,int,int]$1 -/
def S_maps_Keys_map_int_int_int_int_1 (g0_yield_f : Nat) (g0_yield_c : Array Value) (g1_x : Addr) (h : Hp) (Q : List Value → Hp → Prop) : Prop := Fn PP 59 #[(Value.func (.func g0_yield_f) #[] g0_yield_c), (Value.pointer (some g1_x))] h Q
/-- math/bits.Len32 -/
def S_math_bits_Len32 (g0_x : Int) (h : Hp) (Q : List Value → Hp → Prop) : Prop := Fn PP 74 #[(Value.int .u32 g0_x)] h Q
/-- (runtime.boundsError).Error -/
def S_runtime_boundsError_Error (g0_x_0 : Int) (g0_x_1 : Int) (g0_x_2 : Bool) (g0_x_3 : Int) (h : Hp) (Q : List Value → Hp → Prop) : Prop := Fn PP 97 #[(Value.agg #[(Value.int .i64 g0_x_0), (Value.int .i64 g0_x_1), (Value.bool g0_x_2), (Value.int .u8 g0_x_3)])] h Q
/-- (runtime.boundsError).RuntimeError -/
def S_runtime_boundsError_RuntimeError (g0_x_0 : Int) (g0_x_1 : Int) (g0_x_2 : Bool) (g0_x_3 : Int) (h : Hp) (Q : List Value → Hp → Prop) : Prop := Fn PP 98 #[(Value.agg #[(Value.int .i64 g0_x_0), (Value.int .i64 g0_x_1), (Value.bool g0_x_2), (Value.int .u8 g0_x_3)])] h Q
/-- (runtime.errorString).Error -/
def S_runtime_errorString_Error (g0_x : ByteArray) (h : Hp) (Q : List Value → Hp → Prop) : Prop := Fn PP 99 #[(Value.string g0_x)] h Q
/-- (runtime.errorString).RuntimeError -/
def S_runtime_errorString_RuntimeError (g0_x : ByteArray) (h : Hp) (Q : List Value → Hp → Prop) : Prop := Fn PP 100 #[(Value.string g0_x)] h Q
/-- (runtime.plainError).Error -/
def S_runtime_plainError_Error (g0_x : ByteArray) (h : Hp) (Q : List Value → Hp → Prop) : Prop := Fn PP 101 #[(Value.string g0_x)] h Q
/-- (runtime.plainError).RuntimeError -/
def S_runtime_plainError_RuntimeError (g0_x : ByteArray) (h : Hp) (Q : List Value → Hp → Prop) : Prop := Fn PP 102 #[(Value.string g0_x)] h Q
/-- (runtime.errorAddressString).Error -/
def S_runtime_errorAddressString_Error (g0_x_0 : ByteArray) (g0_x_1 : Int) (h : Hp) (Q : List Value → Hp → Prop) : Prop := Fn PP 103 #[(Value.agg #[(Value.string g0_x_0), (Value.int .u64 g0_x_1)])] h Q
/-- (runtime.errorAddressString).RuntimeError -/
def S_runtime_errorAddressString_RuntimeError (g0_x_0 : ByteArray) (g0_x_1 : Int) (h : Hp) (Q : List Value → Hp → Prop) : Prop := Fn PP 104 #[(Value.agg #[(Value.string g0_x_0), (Value.int .u64 g0_x_1)])] h Q
/-- (*runtime.TypeAssertionError).Error -/
def S_runtime_TypeAssertionError_Error (g0_x : Option Addr) (h : Hp) (Q : List Value → Hp → Prop) : Prop := Fn PP 105 #[(Value.pointer g0_x)] h Q
/-- (*runtime.TypeAssertionError).RuntimeError -/
def S_runtime_TypeAssertionError_RuntimeError (g0_x : Option Addr) (h : Hp) (Q : List Value → Hp → Prop) : Prop := Fn PP 106 #[(Value.pointer g0_x)] h Q
/-- (*runtime.PanicNilError).Error -/
def S_runtime_PanicNilError_Error (g0_x : Option Addr) (h : Hp) (Q : List Value → Hp → Prop) : Prop := Fn PP 107 #[(Value.pointer g0_x)] h Q
/-- (*runtime.PanicNilError).RuntimeError -/
def S_runtime_PanicNilError_RuntimeError (g0_x : Option Addr) (h : Hp) (Q : List Value → Hp → Prop) : Prop := Fn PP 108 #[(Value.pointer g0_x)] h Q
/-- (*internal/abi.Type).Align -/
def S_internal_abi_Type_Align (g0_x : Option Addr) (h : Hp) (Q : List Value → Hp → Prop) : Prop := Fn PP 109 #[(Value.pointer g0_x)] h Q
/-- (internal/runtime/maps.unhashableTypeError).Error -/
def S_internal_runtime_maps_unhashableTypeError_Error (g0_x_0 : Option Addr) (h : Hp) (Q : List Value → Hp → Prop) : Prop := Fn PP 110 #[(Value.agg #[(Value.pointer g0_x_0)])] h Q
/-- (internal/runtime/maps.unhashableTypeError).RuntimeError -/
def S_internal_runtime_maps_unhashableTypeError_RuntimeError (g0_x_0 : Option Addr) (h : Hp) (Q : List Value → Hp → Prop) : Prop := Fn PP 111 #[(Value.agg #[(Value.pointer g0_x_0)])] h Q
/-- (livery/api.Errno).Error -/
def S_api_Errno_Error (g0_x : Int) (h : Hp) (Q : List Value → Hp → Prop) : Prop := Fn PP 112 #[(Value.int .i64 g0_x)] h Q
/-- (internal/abi.Kind).String -/
def S_internal_abi_Kind_String (g0_x : Int) (h : Hp) (Q : List Value → Hp → Prop) : Prop := Fn PP 113 #[(Value.int .u8 g0_x)] h Q
def F_gosem_cut_init (h : Hp) (Q : List Value → Hp → Prop) : Prop :=
S_gosem_cut  h fun (vs1 : List Value) (h2 : Hp) =>
vs1 = [] ∧
Q [] h2
def A_gosem_cut_init : Ann := .nil
theorem E_gosem_cut_init (h : Hp) (Q : List Value → Hp → Prop) : cw PP 1 (fun _ => []) (bodyOf Try.f2) A_gosem_cut_init (finQ PP (Try.f2.results.toList) Q) (argFr []) h = F_gosem_cut_init h Q := by kernel_rfl
theorem O_gosem_cut_init {h : Hp} {Q : List Value → Hp → Prop} (H : F_gosem_cut_init h Q) : S_gosem_cut_init h Q :=
  fn_of_cw (hs := (fun _ => [])) (ann := A_gosem_cut_init) (args := []) mixedPP Try.func2 (c := bodyOf Try.f2) (by kernel_rfl) (by kernel_rfl) (by kernel_rfl) (Eq.mpr (E_gosem_cut_init h Q) H)
def F_lock_New (h : Hp) (Q : List Value → Hp → Prop) : Prop :=
wth (Array.push h (Obj.map #[] 0)) fun h1 =>
wth (Array.push h1 (Obj.cells #[(Value.map (some (Array.size h)))] T_lock_Table)) fun h2 =>
Q [(Value.pointer (some (Addr.mk (Array.size h1) 0 none)))] h2
def A_lock_New : Ann := .nil
theorem E_lock_New (h : Hp) (Q : List Value → Hp → Prop) : cw PP 4 (fun _ => []) (bodyOf Try.f10) A_lock_New (finQ PP (Try.f10.results.toList) Q) (argFr []) h = F_lock_New h Q := by kernel_rfl
theorem O_lock_New {h : Hp} {Q : List Value → Hp → Prop} (H : F_lock_New h Q) : S_lock_New h Q :=
  fn_of_cw (hs := (fun _ => [])) (ann := A_lock_New) (args := []) mixedPP Try.func10 (c := bodyOf Try.f10) (by kernel_rfl) (by kernel_rfl) (by kernel_rfl) (Eq.mpr (E_lock_New h Q) H)
def F_liverylaw06_fair (g0_l : Sl) (h : Hp) (Q : List Value → Hp → Prop) : Prop :=
∀ X1 : List Value → Hp → Prop, (∀ n2 : Int, ∀ h3 : Hp, ((if (decide (n2 < (g0_l.n : Int))) = true then
      (nilW g0_l.a fun a4 => ixOk n2 g0_l.n (∃ s5 : ByteArray, rd h3 (Addr.add (Addr.add a4 (Int.toNat n2 * 4)) 3) = some (Value.string s5) ∧
          (if (decide ((ByteArray.size s5 : Int) > (100 : Int))) = true then
            (Q [(Value.bool false)] h3) else
            (X1 [(Value.int .i64 (IntKind.wrap .i64 (n2 + (1 : Int))))] h3)))) else
      (Q [(Value.bool (decide ((g0_l.n : Int) ≤ (150 : Int))))] h3))) → X1 [(Value.int .i64 n2)] h3) →
X1 [(Value.int .i64 (0 : Int))] h
def A_liverylaw06_fair : Ann := (.mk none ⟨[], []⟩ .nil (.mk none ⟨[], []⟩ (.mk none ⟨[], []⟩ .nil (.mk none ⟨[], []⟩ (.mk none ⟨[0], [(3, (.c (.int .i64)))]⟩ .nil .nil) .nil)) .nil))
theorem E_liverylaw06_fair (g0_l : Sl) (h : Hp) (Q : List Value → Hp → Prop) : cw PP 20 (fun _ => []) (bodyOf Try.f11) A_liverylaw06_fair (finQ PP (Try.f11.results.toList) Q) (argFr [(Value.slice g0_l.a g0_l.n g0_l.c)]) h = F_liverylaw06_fair g0_l h Q := by kernel_rfl
theorem O_liverylaw06_fair (g0_l : Sl) {h : Hp} {Q : List Value → Hp → Prop} (H : F_liverylaw06_fair g0_l h Q) : S_liverylaw06_fair g0_l h Q :=
  fn_of_cw (hs := (fun _ => [])) (ann := A_liverylaw06_fair) (args := [(Value.slice g0_l.a g0_l.n g0_l.c)]) mixedPP Try.func11 (c := bodyOf Try.f11) (by kernel_rfl) (by kernel_rfl) (by kernel_rfl) (Eq.mpr (E_liverylaw06_fair g0_l h Q) H)
def F_slices_IndexFunc_slock_request_lock_request (g0_s : Sl) (g1_f_f : Nat) (g1_f_c : Array Value) (h : Hp) (Q : List Value → Hp → Prop) : Prop :=
∀ X1 : List Value → Hp → Prop, (∀ n2 : Int, ∀ h3 : Hp, ((if (decide (n2 < (g0_s.n : Int))) = true then
      (nilW g0_s.a fun a4 => ixOk n2 g0_s.n (∃ n5 : Int, rd h3 (Addr.add (Addr.add a4 (Int.toNat n2 * 2)) 0) = some (Value.int .i64 n5) ∧ ∃ n6 : Int, rd h3 (Addr.add (Addr.add a4 (Int.toNat n2 * 2)) 1) = some (Value.int .i64 n6) ∧ Fn PP g1_f_f ((#[] ++ #[(Value.agg #[(Value.int .i64 n5), (Value.int .i64 n6)])]) ++ g1_f_c) h3 fun (vs7 : List Value) (h8 : Hp) =>
          ∃ b9 : Bool, vs7 = [(Value.bool b9)] ∧
          (if b9 = true then
            (Q [(Value.int .i64 n2)] h8) else
            (X1 [(Value.int .i64 (IntKind.wrap .i64 (n2 + (1 : Int))))] h8)))) else
      (Q [(Value.int .i64 (-1 : Int))] h3))) → X1 [(Value.int .i64 n2)] h3) →
X1 [(Value.int .i64 (0 : Int))] h
def A_slices_IndexFunc_slock_request_lock_request : Ann := (.mk none ⟨[], []⟩ .nil (.mk none ⟨[], []⟩ (.mk none ⟨[], []⟩ .nil (.mk none ⟨[], []⟩ (.mk none ⟨[0, 1, 7], [(8, (.c (.int .i64)))]⟩ .nil .nil) .nil)) .nil))
theorem E_slices_IndexFunc_slock_request_lock_request (g0_s : Sl) (g1_f_f : Nat) (g1_f_c : Array Value) (h : Hp) (Q : List Value → Hp → Prop) : cw PP 19 (fun _ => []) (bodyOf Try.f52) A_slices_IndexFunc_slock_request_lock_request (finQ PP (Try.f52.results.toList) Q) (argFr [(Value.slice g0_s.a g0_s.n g0_s.c), (Value.func (.func g1_f_f) #[] g1_f_c)]) h = F_slices_IndexFunc_slock_request_lock_request g0_s g1_f_f g1_f_c h Q := by kernel_rfl
theorem O_slices_IndexFunc_slock_request_lock_request (g0_s : Sl) (g1_f_f : Nat) (g1_f_c : Array Value) {h : Hp} {Q : List Value → Hp → Prop} (H : F_slices_IndexFunc_slock_request_lock_request g0_s g1_f_f g1_f_c h Q) : S_slices_IndexFunc_slock_request_lock_request g0_s g1_f_f g1_f_c h Q :=
  fn_of_cw (hs := (fun _ => [])) (ann := A_slices_IndexFunc_slock_request_lock_request) (args := [(Value.slice g0_s.a g0_s.n g0_s.c), (Value.func (.func g1_f_f) #[] g1_f_c)]) mixedPP Try.func52 (c := bodyOf Try.f52) (by kernel_rfl) (by kernel_rfl) (by kernel_rfl) (Eq.mpr (E_slices_IndexFunc_slock_request_lock_request g0_s g1_f_f g1_f_c h Q) H)
def F_lock_Table_waiting (g0_t : Option Addr) (g1_holder : Int) (h : Hp) (Q : List Value → Hp → Prop) : Prop :=
wth (Array.push h (Obj.cells #[(Value.int .i64 g1_holder)] T_int)) fun h1 =>
(if (Option.isNone g0_t) = true then
  (Q [(Value.string (ByteArray.mk #[])), (Value.int .i64 (0 : Int)), (Value.bool false)] h1) else
  (nilW g0_t fun a2 => ∃ r3 : Option Nat, rd h1 (Addr.add a2 0) = some (Value.map r3) ∧
    ∃ o4 : Obj, IterOf h1 r3 o4 ∧ wth (Array.push h1 o4) fun h5 =>
    ∀ X6 : List Value → Hp → Prop, (∀ h7 : Hp, ((Addr.off (Addr.mk (Array.size h1) 0 none) = 0 ∧ ∃ o8 : Obj, h7[Addr.block (Addr.mk (Array.size h1) 0 none)]? = some o8 ∧ IterGood h7 o8 ∧
          (IterEnd h7 o8 → Q [(Value.string (ByteArray.mk #[])), (Value.int .i64 (0 : Int)), (Value.bool false)] h7) ∧
          ∀ (k9 v10 : Value) (o11 : Obj), IterStep h7 o8 k9 v10 o11 → wth (Array.setIfInBounds h7 (Addr.block (Addr.mk (Array.size h1) 0 none)) o11) fun h12 =>
          (Addr.off (Addr.mk (Array.size h1) 0 none) = 0 ∧ ∃ (m13 n14 : Nat) (q15 : Array Nat) (n16 : Nat) (es17 : Array MapEntry) (c18 : Nat) (e19 : MapEntry), h12[Addr.block (Addr.mk (Array.size h1) 0 none)]? = some (.mapIter (some m13) n14 q15 c18) ∧ Array.back? q15 = some n16 ∧ h12[m13]? = some (.map es17 c18) ∧ Array.find? (fun x => x.born == n16) es17 = some e19 ∧ ∃ s20 : ByteArray, e19.key = (Value.string s20) ∧ ∃ p21 : Option Addr, e19.val = (Value.pointer p21) ∧ nilW p21 fun a22 => ∃ l23 : Sl, rd h12 (Addr.add a22 1) = some (Value.slice l23.a l23.n l23.c) ∧
            S_slices_IndexFunc_slock_request_lock_request ⟨l23.a, l23.n, l23.c⟩ 53 #[(Value.pointer (some (Addr.mk (Array.size h) 0 none)))] h12 fun (vs24 : List Value) (h25 : Hp) =>
            ∃ n26 : Int, vs24 = [(Value.int .i64 n26)] ∧
            (if (decide (n26 ≥ (0 : Int))) = true then
              (Q [(Value.string s20), (Value.int .i64 n26), (Value.bool true)] h25) else
              (X6 [] h25))))) → X6 [] h7) →
    X6 [] h5))
def A_lock_Table_waiting : Ann := (.mk none ⟨[], []⟩ .nil (.mk none ⟨[], []⟩ .nil (.mk none ⟨[], []⟩ (.mk none ⟨[], []⟩ .nil (.mk none ⟨[], []⟩ (.mk none ⟨[3, 16], []⟩ .nil .nil) .nil)) .nil)))
theorem E_lock_Table_waiting (g0_t : Option Addr) (g1_holder : Int) (h : Hp) (Q : List Value → Hp → Prop) : cw PP 32 (fun d => if d = 19 then [(.c .str), (.c .ptr)] else []) (bodyOf Try.f40) A_lock_Table_waiting (finQ PP (Try.f40.results.toList) Q) (argFr [(Value.pointer g0_t), (Value.int .i64 g1_holder)]) h = F_lock_Table_waiting g0_t g1_holder h Q := by kernel_rfl
theorem O_lock_Table_waiting (g0_t : Option Addr) (g1_holder : Int) {h : Hp} {Q : List Value → Hp → Prop} (H : F_lock_Table_waiting g0_t g1_holder h Q) : S_lock_Table_waiting g0_t g1_holder h Q :=
  fn_of_cw (hs := (fun d => if d = 19 then [(.c .str), (.c .ptr)] else [])) (ann := A_lock_Table_waiting) (args := [(Value.pointer g0_t), (Value.int .i64 g1_holder)]) mixedPP Try.func40 (c := bodyOf Try.f40) (by kernel_rfl) (by kernel_rfl) (by kernel_rfl) (Eq.mpr (E_lock_Table_waiting g0_t g1_holder h Q) H)
def F_lock_Table_Waits (g0_t : Option Addr) (g1_holder : Int) (h : Hp) (Q : List Value → Hp → Prop) : Prop :=
S_lock_Table_waiting g0_t g1_holder h fun (vs1 : List Value) (h2 : Hp) =>
∃ s3 : ByteArray, ∃ n4 : Int, ∃ b5 : Bool, vs1 = [(Value.string s3), (Value.int .i64 n4), (Value.bool b5)] ∧
(if (!b5) = true then
  (Q [(Value.string (ByteArray.mk #[])), (Value.int .i64 (0 : Int)), (Value.bool false)] h2) else
  (nilW g0_t fun a6 => ∃ r7 : Option Nat, rd h2 (Addr.add a6 0) = some (Value.map r7) ∧
    ∃ es8 : Array MapEntry, mapAt h2 r7 es8 ∧ KeysLike (Value.string s3) es8 ∧ ∃ p9 : Option Addr, mgetD (Value.string s3) es8 (Value.pointer none) = (Value.pointer p9) ∧
    nilW p9 fun a10 => ∃ l11 : Sl, rd h2 (Addr.add a10 1) = some (Value.slice l11.a l11.n l11.c) ∧
    nilW l11.a fun a12 => ixOk n4 l11.n (∃ n13 : Int, rd h2 (Addr.add (Addr.add a12 (Int.toNat n4 * 2)) 1) = some (Value.int .i64 n13) ∧
      Q [(Value.string s3), (Value.int .i64 n13), (Value.bool true)] h2)))
def A_lock_Table_Waits : Ann := .nil
theorem E_lock_Table_Waits (g0_t : Option Addr) (g1_holder : Int) (h : Hp) (Q : List Value → Hp → Prop) : cw PP 31 (fun _ => []) (bodyOf Try.f18) A_lock_Table_Waits (finQ PP (Try.f18.results.toList) Q) (argFr [(Value.pointer g0_t), (Value.int .i64 g1_holder)]) h = F_lock_Table_Waits g0_t g1_holder h Q := by kernel_rfl
theorem O_lock_Table_Waits (g0_t : Option Addr) (g1_holder : Int) {h : Hp} {Q : List Value → Hp → Prop} (H : F_lock_Table_Waits g0_t g1_holder h Q) : S_lock_Table_Waits g0_t g1_holder h Q :=
  fn_of_cw (hs := (fun _ => [])) (ann := A_lock_Table_Waits) (args := [(Value.pointer g0_t), (Value.int .i64 g1_holder)]) mixedPP Try.func18 (c := bodyOf Try.f18) (by kernel_rfl) (by kernel_rfl) (by kernel_rfl) (Eq.mpr (E_lock_Table_Waits g0_t g1_holder h Q) H)
def F_lock_Table_Modes (g0_t : Option Addr) (g1_holder : Int) (g2_name : ByteArray) (h : Hp) (Q : List Value → Hp → Prop) : Prop :=
∀ J1 : List Value → Hp → Prop, (∀ b2 : Bool, ∀ h3 : Hp, ((if b2 = true then
      (Q [(Value.int .i64 (0 : Int))] h3) else
      (nilW g0_t fun a4 => ∃ r5 : Option Nat, rd h3 (Addr.add a4 0) = some (Value.map r5) ∧
        ∃ es6 : Array MapEntry, mapAt h3 r5 es6 ∧ KeysLike (Value.string g2_name) es6 ∧ ∃ p7 : Option Addr, mgetD (Value.string g2_name) es6 (Value.pointer none) = (Value.pointer p7) ∧
        nilW p7 fun a8 => ∃ r9 : Option Nat, rd h3 (Addr.add a8 0) = some (Value.map r9) ∧
        ∃ es10 : Array MapEntry, mapAt h3 r9 es10 ∧ KeysLike (Value.int .i64 g1_holder) es10 ∧ ∃ n11 : Int, mgetD (Value.int .i64 g1_holder) es10 (Value.int .i64 (0 : Int)) = (Value.int .i64 n11) ∧
        Q [(Value.int .i64 n11)] h3))) → J1 [(Value.bool b2)] h3) →
(if (Option.isNone g0_t) = true then (J1 [(Value.bool true)] h) else
  (nilW g0_t fun a12 => ∃ r13 : Option Nat, rd h (Addr.add a12 0) = some (Value.map r13) ∧
    ∃ es14 : Array MapEntry, mapAt h r13 es14 ∧ KeysLike (Value.string g2_name) es14 ∧ ∃ p15 : Option Addr, mgetD (Value.string g2_name) es14 (Value.pointer none) = (Value.pointer p15) ∧
    J1 [(Value.bool (Option.isNone p15))] h))
def A_lock_Table_Modes : Ann := (.mk none ⟨[], []⟩ .nil (.mk none ⟨[], []⟩ (.mk none ⟨[], []⟩ (.mk (some ⟨[0, 1, 2], [(17, (.c .bool))]⟩) ⟨[], []⟩ .nil .nil) .nil) .nil))
theorem E_lock_Table_Modes (g0_t : Option Addr) (g1_holder : Int) (g2_name : ByteArray) (h : Hp) (Q : List Value → Hp → Prop) : cw PP 29 (fun _ => []) (bodyOf Try.f20) A_lock_Table_Modes (finQ PP (Try.f20.results.toList) Q) (argFr [(Value.pointer g0_t), (Value.int .i64 g1_holder), (Value.string g2_name)]) h = F_lock_Table_Modes g0_t g1_holder g2_name h Q := by kernel_rfl
theorem O_lock_Table_Modes (g0_t : Option Addr) (g1_holder : Int) (g2_name : ByteArray) {h : Hp} {Q : List Value → Hp → Prop} (H : F_lock_Table_Modes g0_t g1_holder g2_name h Q) : S_lock_Table_Modes g0_t g1_holder g2_name h Q :=
  fn_of_cw (hs := (fun _ => [])) (ann := A_lock_Table_Modes) (args := [(Value.pointer g0_t), (Value.int .i64 g1_holder), (Value.string g2_name)]) mixedPP Try.func20 (c := bodyOf Try.f20) (by kernel_rfl) (by kernel_rfl) (by kernel_rfl) (Eq.mpr (E_lock_Table_Modes g0_t g1_holder g2_name h Q) H)
def F_mode_is (g0_m : Int) (h : Hp) (Q : List Value → Hp → Prop) : Prop :=
(if (decide (g0_m ≥ (1 : Int))) = true then (Q [(Value.bool (decide (g0_m ≤ (8 : Int))))] h) else
  (Q [(Value.bool false)] h))
def A_mode_is : Ann := .nil
theorem E_mode_is (g0_m : Int) (h : Hp) (Q : List Value → Hp → Prop) : cw PP 9 (fun _ => []) (bodyOf Try.f45) A_mode_is (finQ PP (Try.f45.results.toList) Q) (argFr [(Value.int .i64 g0_m)]) h = F_mode_is g0_m h Q := by kernel_rfl
theorem O_mode_is (g0_m : Int) {h : Hp} {Q : List Value → Hp → Prop} (H : F_mode_is g0_m h Q) : S_mode_is g0_m h Q :=
  fn_of_cw (hs := (fun _ => [])) (ann := A_mode_is) (args := [(Value.int .i64 g0_m)]) mixedPP Try.func45 (c := bodyOf Try.f45) (by kernel_rfl) (by kernel_rfl) (by kernel_rfl) (Eq.mpr (E_mode_is g0_m h Q) H)
def F_mode_bars (h : Hp) (Q : List Value → Hp → Prop) : Prop :=
wth (Array.push h (Obj.cells #[(Value.int .i64 (0 : Int)), (Value.int .i64 (0 : Int)), (Value.int .i64 (0 : Int)), (Value.int .i64 (0 : Int)), (Value.int .i64 (0 : Int)), (Value.int .i64 (0 : Int)), (Value.int .i64 (0 : Int)), (Value.int .i64 (0 : Int)), (Value.int .i64 (0 : Int))] T_9_int)) fun h1 =>
stOk h1 (Addr.mk (Array.size h) 0 none) 9 ∧ wth (wrs h1 (Addr.mk (Array.size h) 0 none) 0 [(Value.int .i64 (0 : Int)), (Value.int .i64 (256 : Int)), (Value.int .i64 (384 : Int)), (Value.int .i64 (480 : Int)), (Value.int .i64 (496 : Int)), (Value.int .i64 (472 : Int)), (Value.int .i64 (504 : Int)), (Value.int .i64 (508 : Int)), (Value.int .i64 (510 : Int))]) fun h2 =>
∃ n3 : Int, rd h2 (Addr.add (Addr.mk (Array.size h) 0 none) 0) = some (Value.int .i64 n3) ∧ ∃ n4 : Int, rd h2 (Addr.add (Addr.mk (Array.size h) 0 none) 1) = some (Value.int .i64 n4) ∧ ∃ n5 : Int, rd h2 (Addr.add (Addr.mk (Array.size h) 0 none) 2) = some (Value.int .i64 n5) ∧ ∃ n6 : Int, rd h2 (Addr.add (Addr.mk (Array.size h) 0 none) 3) = some (Value.int .i64 n6) ∧ ∃ n7 : Int, rd h2 (Addr.add (Addr.mk (Array.size h) 0 none) 4) = some (Value.int .i64 n7) ∧ ∃ n8 : Int, rd h2 (Addr.add (Addr.mk (Array.size h) 0 none) 5) = some (Value.int .i64 n8) ∧ ∃ n9 : Int, rd h2 (Addr.add (Addr.mk (Array.size h) 0 none) 6) = some (Value.int .i64 n9) ∧ ∃ n10 : Int, rd h2 (Addr.add (Addr.mk (Array.size h) 0 none) 7) = some (Value.int .i64 n10) ∧ ∃ n11 : Int, rd h2 (Addr.add (Addr.mk (Array.size h) 0 none) 8) = some (Value.int .i64 n11) ∧ Q [(Value.agg #[(Value.int .i64 n3), (Value.int .i64 n4), (Value.int .i64 n5), (Value.int .i64 n6), (Value.int .i64 n7), (Value.int .i64 n8), (Value.int .i64 n9), (Value.int .i64 n10), (Value.int .i64 n11)])] h2
def A_mode_bars : Ann := .nil
theorem E_mode_bars (h : Hp) (Q : List Value → Hp → Prop) : cw PP 2 (fun _ => []) (bodyOf Try.f46) A_mode_bars (finQ PP (Try.f46.results.toList) Q) (argFr []) h = F_mode_bars h Q := by kernel_rfl
theorem O_mode_bars {h : Hp} {Q : List Value → Hp → Prop} (H : F_mode_bars h Q) : S_mode_bars h Q :=
  fn_of_cw (hs := (fun _ => [])) (ann := A_mode_bars) (args := []) mixedPP Try.func46 (c := bodyOf Try.f46) (by kernel_rfl) (by kernel_rfl) (by kernel_rfl) (Eq.mpr (E_mode_bars h Q) H)
def F_mode_With (g0_m : Int) (h : Hp) (Q : List Value → Hp → Prop) : Prop :=
S_mode_is g0_m h fun (vs1 : List Value) (h2 : Hp) =>
∃ b3 : Bool, vs1 = [(Value.bool b3)] ∧
(if (!b3) = true then
  (Q [(Value.int .i64 (0 : Int))] h2) else
  (S_mode_bars  h2 fun (vs4 : List Value) (h5 : Hp) =>
    ∃ n6 : Int, ∃ n7 : Int, ∃ n8 : Int, ∃ n9 : Int, ∃ n10 : Int, ∃ n11 : Int, ∃ n12 : Int, ∃ n13 : Int, ∃ n14 : Int, vs4 = [(Value.agg #[(Value.int .i64 n6), (Value.int .i64 n7), (Value.int .i64 n8), (Value.int .i64 n9), (Value.int .i64 n10), (Value.int .i64 n11), (Value.int .i64 n12), (Value.int .i64 n13), (Value.int .i64 n14)])] ∧
    ixOk g0_m 9 (∃ n15 : Int, (#[(Value.int .i64 n6), (Value.int .i64 n7), (Value.int .i64 n8), (Value.int .i64 n9), (Value.int .i64 n10), (Value.int .i64 n11), (Value.int .i64 n12), (Value.int .i64 n13), (Value.int .i64 n14)] : Array Value)[Int.toNat g0_m * 1]? = some (Value.int .i64 n15) ∧ Q [(Value.int .i64 n15)] h5)))
def A_mode_With : Ann := .nil
theorem E_mode_With (g0_m : Int) (h : Hp) (Q : List Value → Hp → Prop) : cw PP 9 (fun _ => []) (bodyOf Try.f31) A_mode_With (finQ PP (Try.f31.results.toList) Q) (argFr [(Value.int .i64 g0_m)]) h = F_mode_With g0_m h Q := by kernel_rfl
theorem O_mode_With (g0_m : Int) {h : Hp} {Q : List Value → Hp → Prop} (H : F_mode_With g0_m h Q) : S_mode_With g0_m h Q :=
  fn_of_cw (hs := (fun _ => [])) (ann := A_mode_With) (args := [(Value.int .i64 g0_m)]) mixedPP Try.func31 (c := bodyOf Try.f31) (by kernel_rfl) (by kernel_rfl) (by kernel_rfl) (Eq.mpr (E_mode_With g0_m h Q) H)
def F_lock_Table_queue (g0_t : Option Addr) (g1_name : ByteArray) (h : Hp) (Q : List Value → Hp → Prop) : Prop :=
nilW g0_t fun a1 => ∃ r2 : Option Nat, rd h (Addr.add a1 0) = some (Value.map r2) ∧
∃ es3 : Array MapEntry, mapAt h r2 es3 ∧ KeysLike (Value.string g1_name) es3 ∧ ∃ p4 : Option Addr, mgetD (Value.string g1_name) es3 (Value.pointer none) = (Value.pointer p4) ∧
∀ J5 : List Value → Hp → Prop, (∀ p6 : Option Addr, ∀ h7 : Hp, (Q [(Value.pointer p6)] h7) → J5 [(Value.pointer p6)] h7) →
(if (Option.isNone p4) = true then
  (wth (Array.push h (Obj.map #[] 0)) fun h8 =>
    wth (Array.push h8 (Obj.cells #[(Value.map (some (Array.size h))), (Value.slice none 0 0)] T_lock_queue)) fun h9 =>
    nilW g0_t fun a10 => ∃ r11 : Option Nat, rd h9 (Addr.add a10 0) = some (Value.map r11) ∧
    ∃ (m12 : Nat) (es13 : Array MapEntry) (c14 : Nat), r11 = some m12 ∧ h9[m12]? = some (.map es13 c14) ∧ KeysLike (Value.string g1_name) es13 ∧ wth (Array.setIfInBounds h9 m12 (mput (Value.string g1_name) (Value.pointer (some (Addr.mk (Array.size h8) 0 none))) es13 c14)) fun h15 =>
    J5 [(Value.pointer (some (Addr.mk (Array.size h8) 0 none)))] h15) else
  (J5 [(Value.pointer p4)] h))
def A_lock_Table_queue : Ann := (.mk none ⟨[], []⟩ .nil (.mk none ⟨[], []⟩ .nil (.mk none ⟨[], []⟩ (.mk none ⟨[], []⟩ .nil (.mk (some ⟨[], [(5, (.c .ptr))]⟩) ⟨[], []⟩ .nil .nil)) .nil)))
theorem E_lock_Table_queue (g0_t : Option Addr) (g1_name : ByteArray) (h : Hp) (Q : List Value → Hp → Prop) : cw PP 24 (fun _ => []) (bodyOf Try.f32) A_lock_Table_queue (finQ PP (Try.f32.results.toList) Q) (argFr [(Value.pointer g0_t), (Value.string g1_name)]) h = F_lock_Table_queue g0_t g1_name h Q := by kernel_rfl
theorem O_lock_Table_queue (g0_t : Option Addr) (g1_name : ByteArray) {h : Hp} {Q : List Value → Hp → Prop} (H : F_lock_Table_queue g0_t g1_name h Q) : S_lock_Table_queue g0_t g1_name h Q :=
  fn_of_cw (hs := (fun _ => [])) (ann := A_lock_Table_queue) (args := [(Value.pointer g0_t), (Value.string g1_name)]) mixedPP Try.func32 (c := bodyOf Try.f32) (by kernel_rfl) (by kernel_rfl) (by kernel_rfl) (Eq.mpr (E_lock_Table_queue g0_t g1_name h Q) H)
def F_mode_Any (g0_set : Int) (g1_m : Int) (h : Hp) (Q : List Value → Hp → Prop) : Prop :=
S_mode_With g1_m h fun (vs1 : List Value) (h2 : Hp) =>
∃ n3 : Int, vs1 = [(Value.int .i64 n3)] ∧
Q [(Value.bool ((iAnd .i64 g0_set n3) != (0 : Int)))] h2
def A_mode_Any : Ann := .nil
theorem E_mode_Any (g0_set : Int) (g1_m : Int) (h : Hp) (Q : List Value → Hp → Prop) : cw PP 10 (fun _ => []) (bodyOf Try.f47) A_mode_Any (finQ PP (Try.f47.results.toList) Q) (argFr [(Value.int .i64 g0_set), (Value.int .i64 g1_m)]) h = F_mode_Any g0_set g1_m h Q := by kernel_rfl
theorem O_mode_Any (g0_set : Int) (g1_m : Int) {h : Hp} {Q : List Value → Hp → Prop} (H : F_mode_Any g0_set g1_m h Q) : S_mode_Any g0_set g1_m h Q :=
  fn_of_cw (hs := (fun _ => [])) (ann := A_mode_Any) (args := [(Value.int .i64 g0_set), (Value.int .i64 g1_m)]) mixedPP Try.func47 (c := bodyOf Try.f47) (by kernel_rfl) (by kernel_rfl) (by kernel_rfl) (Eq.mpr (E_mode_Any g0_set g1_m h Q) H)
def F_mode_Bars (g0_a : Int) (g1_b : Int) (h : Hp) (Q : List Value → Hp → Prop) : Prop :=
S_mode_is g1_b h fun (vs1 : List Value) (h2 : Hp) =>
∃ b3 : Bool, vs1 = [(Value.bool b3)] ∧
(if b3 = true then (shOk g1_b (S_mode_Any (iShl .i64 (1 : Int) g1_b) g0_a h2 fun (vs4 : List Value) (h5 : Hp) =>
      ∃ b6 : Bool, vs4 = [(Value.bool b6)] ∧
      Q [(Value.bool b6)] h5)) else
  (Q [(Value.bool false)] h2))
def A_mode_Bars : Ann := .nil
theorem E_mode_Bars (g0_a : Int) (g1_b : Int) (h : Hp) (Q : List Value → Hp → Prop) : cw PP 13 (fun _ => []) (bodyOf Try.f48) A_mode_Bars (finQ PP (Try.f48.results.toList) Q) (argFr [(Value.int .i64 g0_a), (Value.int .i64 g1_b)]) h = F_mode_Bars g0_a g1_b h Q := by kernel_rfl
theorem O_mode_Bars (g0_a : Int) (g1_b : Int) {h : Hp} {Q : List Value → Hp → Prop} (H : F_mode_Bars g0_a g1_b h Q) : S_mode_Bars g0_a g1_b h Q :=
  fn_of_cw (hs := (fun _ => [])) (ann := A_mode_Bars) (args := [(Value.int .i64 g0_a), (Value.int .i64 g1_b)]) mixedPP Try.func48 (c := bodyOf Try.f48) (by kernel_rfl) (by kernel_rfl) (by kernel_rfl) (Eq.mpr (E_mode_Bars g0_a g1_b h Q) H)
def F_slices_Collect_int (g0_seq_f : Nat) (g0_seq_c : Array Value) (h : Hp) (Q : List Value → Hp → Prop) : Prop :=
S_slices_AppendSeq_sint_int ⟨none, 0, 0⟩ g0_seq_f g0_seq_c h fun (vs1 : List Value) (h2 : Hp) =>
∃ l3 : Sl, vs1 = [(Value.slice l3.a l3.n l3.c)] ∧
Q [(Value.slice l3.a l3.n l3.c)] h2
def A_slices_Collect_int : Ann := .nil
theorem E_slices_Collect_int (g0_seq_f : Nat) (g0_seq_c : Array Value) (h : Hp) (Q : List Value → Hp → Prop) : cw PP 5 (fun _ => []) (bodyOf Try.f57) A_slices_Collect_int (finQ PP (Try.f57.results.toList) Q) (argFr [(Value.func (.func g0_seq_f) #[] g0_seq_c)]) h = F_slices_Collect_int g0_seq_f g0_seq_c h Q := by kernel_rfl
theorem O_slices_Collect_int (g0_seq_f : Nat) (g0_seq_c : Array Value) {h : Hp} {Q : List Value → Hp → Prop} (H : F_slices_Collect_int g0_seq_f g0_seq_c h Q) : S_slices_Collect_int g0_seq_f g0_seq_c h Q :=
  fn_of_cw (hs := (fun _ => [])) (ann := A_slices_Collect_int) (args := [(Value.func (.func g0_seq_f) #[] g0_seq_c)]) mixedPP Try.func57 (c := bodyOf Try.f57) (by kernel_rfl) (by kernel_rfl) (by kernel_rfl) (Eq.mpr (E_slices_Collect_int g0_seq_f g0_seq_c h Q) H)
def F_slices_Sort_sint_int (g0_x : Sl) (h : Hp) (Q : List Value → Hp → Prop) : Prop :=
S_math_bits_Len (IntKind.wrap .u64 (g0_x.n : Int)) h fun (vs1 : List Value) (h2 : Hp) =>
∃ n3 : Int, vs1 = [(Value.int .i64 n3)] ∧
S_slices_pdqsortOrdered_int ⟨g0_x.a, g0_x.n, g0_x.c⟩ (0 : Int) (g0_x.n : Int) n3 h2 fun (vs4 : List Value) (h5 : Hp) =>
vs4 = [] ∧
Q [] h5
def A_slices_Sort_sint_int : Ann := .nil
theorem E_slices_Sort_sint_int (g0_x : Sl) (h : Hp) (Q : List Value → Hp → Prop) : cw PP 11 (fun _ => []) (bodyOf Try.f58) A_slices_Sort_sint_int (finQ PP (Try.f58.results.toList) Q) (argFr [(Value.slice g0_x.a g0_x.n g0_x.c)]) h = F_slices_Sort_sint_int g0_x h Q := by kernel_rfl
theorem O_slices_Sort_sint_int (g0_x : Sl) {h : Hp} {Q : List Value → Hp → Prop} (H : F_slices_Sort_sint_int g0_x h Q) : S_slices_Sort_sint_int g0_x h Q :=
  fn_of_cw (hs := (fun _ => [])) (ann := A_slices_Sort_sint_int) (args := [(Value.slice g0_x.a g0_x.n g0_x.c)]) mixedPP Try.func58 (c := bodyOf Try.f58) (by kernel_rfl) (by kernel_rfl) (by kernel_rfl) (Eq.mpr (E_slices_Sort_sint_int g0_x h Q) H)
def F_slices_Sorted_int (g0_seq_f : Nat) (g0_seq_c : Array Value) (h : Hp) (Q : List Value → Hp → Prop) : Prop :=
S_slices_Collect_int g0_seq_f g0_seq_c h fun (vs1 : List Value) (h2 : Hp) =>
∃ l3 : Sl, vs1 = [(Value.slice l3.a l3.n l3.c)] ∧
S_slices_Sort_sint_int ⟨l3.a, l3.n, l3.c⟩ h2 fun (vs4 : List Value) (h5 : Hp) =>
vs4 = [] ∧
Q [(Value.slice l3.a l3.n l3.c)] h5
def A_slices_Sorted_int : Ann := .nil
theorem E_slices_Sorted_int (g0_seq_f : Nat) (g0_seq_c : Array Value) (h : Hp) (Q : List Value → Hp → Prop) : cw PP 9 (fun _ => []) (bodyOf Try.f49) A_slices_Sorted_int (finQ PP (Try.f49.results.toList) Q) (argFr [(Value.func (.func g0_seq_f) #[] g0_seq_c)]) h = F_slices_Sorted_int g0_seq_f g0_seq_c h Q := by kernel_rfl
theorem O_slices_Sorted_int (g0_seq_f : Nat) (g0_seq_c : Array Value) {h : Hp} {Q : List Value → Hp → Prop} (H : F_slices_Sorted_int g0_seq_f g0_seq_c h Q) : S_slices_Sorted_int g0_seq_f g0_seq_c h Q :=
  fn_of_cw (hs := (fun _ => [])) (ann := A_slices_Sorted_int) (args := [(Value.func (.func g0_seq_f) #[] g0_seq_c)]) mixedPP Try.func49 (c := bodyOf Try.f49) (by kernel_rfl) (by kernel_rfl) (by kernel_rfl) (Eq.mpr (E_slices_Sorted_int g0_seq_f g0_seq_c h Q) H)
def F_maps_Keys_map_int_int_int_int (g0_m : Option Nat) (h : Hp) (Q : List Value → Hp → Prop) : Prop :=
wth (Array.push h (Obj.cells #[(Value.map g0_m)] T_map_int_int)) fun h1 =>
Q [(Value.func (.func 59) #[] #[(Value.pointer (some (Addr.mk (Array.size h) 0 none)))])] h1
def A_maps_Keys_map_int_int_int_int : Ann := .nil
theorem E_maps_Keys_map_int_int_int_int (g0_m : Option Nat) (h : Hp) (Q : List Value → Hp → Prop) : cw PP 4 (fun _ => []) (bodyOf Try.f50) A_maps_Keys_map_int_int_int_int (finQ PP (Try.f50.results.toList) Q) (argFr [(Value.map g0_m)]) h = F_maps_Keys_map_int_int_int_int g0_m h Q := by kernel_rfl
theorem O_maps_Keys_map_int_int_int_int (g0_m : Option Nat) {h : Hp} {Q : List Value → Hp → Prop} (H : F_maps_Keys_map_int_int_int_int g0_m h Q) : S_maps_Keys_map_int_int_int_int g0_m h Q :=
  fn_of_cw (hs := (fun _ => [])) (ann := A_maps_Keys_map_int_int_int_int) (args := [(Value.map g0_m)]) mixedPP Try.func50 (c := bodyOf Try.f50) (by kernel_rfl) (by kernel_rfl) (by kernel_rfl) (Eq.mpr (E_maps_Keys_map_int_int_int_int g0_m h Q) H)
def F_lock_queue_bars (g0_q : Option Addr) (g1_r_0 : Int) (g1_r_1 : Int) (g2_ahead : Sl) (h : Hp) (Q : List Value → Hp → Prop) : Prop :=
wth (Array.push h (Obj.cells #[(Value.int .i64 g1_r_0), (Value.int .i64 g1_r_1)] T_lock_request)) fun h1 =>
wth (Array.push h1 (Obj.map #[] 0)) fun h2 =>
nilW g0_q fun a3 => ∃ r4 : Option Nat, rd h2 (Addr.add a3 0) = some (Value.map r4) ∧
∃ o5 : Obj, IterOf h2 r4 o5 ∧ wth (Array.push h2 o5) fun h6 =>
∀ X7 : List Value → Hp → Prop, (∀ h8 : Hp, ((Addr.off (Addr.mk (Array.size h2) 0 none) = 0 ∧ ∃ o9 : Obj, h8[Addr.block (Addr.mk (Array.size h2) 0 none)]? = some o9 ∧ IterGood h8 o9 ∧
      (IterEnd h8 o9 → nilW g0_q fun a13 => ∃ r14 : Option Nat, rd h8 (Addr.add a13 0) = some (Value.map r14) ∧
        ∃ n15 : Int, rd h8 (Addr.add (Addr.mk (Array.size h) 0 none) 0) = some (Value.int .i64 n15) ∧
        ∃ es16 : Array MapEntry, mapAt h8 r14 es16 ∧ KeysLike (Value.int .i64 n15) es16 ∧ ∃ n17 : Int, mgetD (Value.int .i64 n15) es16 (Value.int .i64 (0 : Int)) = (Value.int .i64 n17) ∧
        ∀ J18 : List Value → Hp → Prop, (∀ h19 : Hp, (S_maps_Keys_map_int_int_int_int (some (Array.size h1)) h19 fun (vs20 : List Value) (h21 : Hp) =>
            ∃ f22 : Nat, ∃ cs23 : Array Value, vs20 = [(Value.func (.func f22) #[] cs23)] ∧
            S_slices_Sorted_int f22 cs23 h21 fun (vs24 : List Value) (h25 : Hp) =>
            ∃ l26 : Sl, vs24 = [(Value.slice l26.a l26.n l26.c)] ∧
            Q [(Value.slice l26.a l26.n l26.c)] h25) → J18 [] h19) →
        (if (n17 == (0 : Int)) = true then
          (∀ X27 : List Value → Hp → Prop, (∀ n28 : Int, ∀ h29 : Hp, ((if (decide (n28 < (g2_ahead.n : Int))) = true then
                  (∀ J30 : List Value → Hp → Prop, (∀ h31 : Hp, (X27 [(Value.int .i64 (IntKind.wrap .i64 (n28 + (1 : Int))))] h31) → J30 [] h31) →
                    nilW g2_ahead.a fun a32 => ixOk n28 g2_ahead.n (∃ n33 : Int, rd h29 (Addr.add (Addr.add a32 (Int.toNat n28 * 2)) 0) = some (Value.int .i64 n33) ∧ ∃ n34 : Int, rd h29 (Addr.add (Addr.add a32 (Int.toNat n28 * 2)) 1) = some (Value.int .i64 n34) ∧ wth (Array.push h29 (Obj.cells #[(Value.int .i64 (0 : Int)), (Value.int .i64 (0 : Int))] T_lock_request)) fun h35 =>
                      stOk h35 (Addr.mk (Array.size h29) 0 none) 2 ∧ wth (wrs h35 (Addr.mk (Array.size h29) 0 none) 0 [(Value.int .i64 n33), (Value.int .i64 n34)]) fun h36 =>
                      ∀ J37 : List Value → Hp → Prop, (∀ b38 : Bool, ∀ h39 : Hp, ((if b38 = true then
                            (∃ n40 : Int, rd h39 (Addr.add (Addr.mk (Array.size h29) 0 none) 0) = some (Value.int .i64 n40) ∧
                              ∃ es41 : Array MapEntry, mapAt h39 (some (Array.size h1)) es41 ∧ KeysLike (Value.int .i64 n40) es41 ∧ ∃ n42 : Int, mgetD (Value.int .i64 n40) es41 (Value.int .i64 (0 : Int)) = (Value.int .i64 n42) ∧
                              ∃ (m43 : Nat) (es44 : Array MapEntry) (c45 : Nat), (some (Array.size h1)) = some m43 ∧ h39[m43]? = some (.map es44 c45) ∧ KeysLike (Value.int .i64 n40) es44 ∧ wth (Array.setIfInBounds h39 m43 (mput (Value.int .i64 n40) (Value.int .i64 (IntKind.wrap .i64 (n42 + (1 : Int)))) es44 c45)) fun h46 =>
                              J30 [] h46) else
                            (J30 [] h39))) → J37 [(Value.bool b38)] h39) →
                      ∃ n47 : Int, rd h36 (Addr.add (Addr.mk (Array.size h29) 0 none) 0) = some (Value.int .i64 n47) ∧
                      ∃ n48 : Int, rd h36 (Addr.add (Addr.mk (Array.size h) 0 none) 0) = some (Value.int .i64 n48) ∧
                      (if (n47 != n48) = true then (∃ n49 : Int, rd h36 (Addr.add (Addr.mk (Array.size h29) 0 none) 1) = some (Value.int .i64 n49) ∧
                          ∃ n50 : Int, rd h36 (Addr.add (Addr.mk (Array.size h) 0 none) 1) = some (Value.int .i64 n50) ∧
                          S_mode_Bars n49 n50 h36 fun (vs51 : List Value) (h52 : Hp) =>
                          ∃ b53 : Bool, vs51 = [(Value.bool b53)] ∧
                          J37 [(Value.bool b53)] h52) else
                        (J37 [(Value.bool false)] h36)))) else
                  (J18 [] h29))) → X27 [(Value.int .i64 n28)] h29) →
            X27 [(Value.int .i64 (0 : Int))] h8) else
          (J18 [] h8))) ∧
      ∀ (k10 v11 : Value) (o12 : Obj), IterStep h8 o9 k10 v11 o12 → wth (Array.setIfInBounds h8 (Addr.block (Addr.mk (Array.size h2) 0 none)) o12) fun h54 =>
      (Addr.off (Addr.mk (Array.size h2) 0 none) = 0 ∧ ∃ (m55 n56 : Nat) (q57 : Array Nat) (n58 : Nat) (es59 : Array MapEntry) (c60 : Nat) (e61 : MapEntry), h54[Addr.block (Addr.mk (Array.size h2) 0 none)]? = some (.mapIter (some m55) n56 q57 c60) ∧ Array.back? q57 = some n58 ∧ h54[m55]? = some (.map es59 c60) ∧ Array.find? (fun x => x.born == n58) es59 = some e61 ∧ ∃ n62 : Int, e61.key = (Value.int .i64 n62) ∧ ∃ n63 : Int, e61.val = (Value.int .i64 n63) ∧ ∀ J64 : List Value → Hp → Prop, (∀ b65 : Bool, ∀ h66 : Hp, ((if b65 = true then
              (∃ es67 : Array MapEntry, mapAt h66 (some (Array.size h1)) es67 ∧ KeysLike (Value.int .i64 n62) es67 ∧ ∃ n68 : Int, mgetD (Value.int .i64 n62) es67 (Value.int .i64 (0 : Int)) = (Value.int .i64 n68) ∧
                ∃ (m69 : Nat) (es70 : Array MapEntry) (c71 : Nat), (some (Array.size h1)) = some m69 ∧ h66[m69]? = some (.map es70 c71) ∧ KeysLike (Value.int .i64 n62) es70 ∧ wth (Array.setIfInBounds h66 m69 (mput (Value.int .i64 n62) (Value.int .i64 (IntKind.wrap .i64 (n68 + (1 : Int)))) es70 c71)) fun h72 =>
                X7 [] h72) else
              (X7 [] h66))) → J64 [(Value.bool b65)] h66) →
        ∃ n73 : Int, rd h54 (Addr.add (Addr.mk (Array.size h) 0 none) 0) = some (Value.int .i64 n73) ∧
        (if (n62 != n73) = true then (∃ n74 : Int, rd h54 (Addr.add (Addr.mk (Array.size h) 0 none) 1) = some (Value.int .i64 n74) ∧
            S_mode_Any n63 n74 h54 fun (vs75 : List Value) (h76 : Hp) =>
            ∃ b77 : Bool, vs75 = [(Value.bool b77)] ∧
            J64 [(Value.bool b77)] h76) else
          (J64 [(Value.bool false)] h54))))) → X7 [] h8) →
X7 [] h6
def A_lock_queue_bars : Ann := (.mk none ⟨[], []⟩ .nil (.mk none ⟨[], []⟩ .nil (.mk none ⟨[], []⟩ (.mk none ⟨[], []⟩ .nil (.mk none ⟨[], []⟩ (.mk none ⟨[0, 2, 4, 7, 17], []⟩ (.mk none ⟨[], []⟩ .nil (.mk none ⟨[], []⟩ .nil (.mk none ⟨[], []⟩ (.mk none ⟨[], []⟩ .nil (.mk none ⟨[], []⟩ (.mk (some ⟨[0, 2, 4, 7, 8, 17], [(32, (.c .bool))]⟩) ⟨[], []⟩ .nil .nil) .nil)) .nil))) .nil) .nil)) (.mk none ⟨[], []⟩ (.mk none ⟨[], []⟩ .nil (.mk (some ⟨[7], []⟩) ⟨[], []⟩ (.mk none ⟨[], []⟩ .nil (.mk none ⟨[], []⟩ (.mk none ⟨[4, 7, 45, 46], [(47, (.c (.int .i64)))]⟩ (.mk none ⟨[], []⟩ .nil (.mk none ⟨[], []⟩ .nil (.mk none ⟨[], []⟩ (.mk (some ⟨[4, 7, 45, 46, 47], []⟩) ⟨[], []⟩ (.mk none ⟨[], []⟩ .nil (.mk none ⟨[], []⟩ (.mk (some ⟨[4, 7, 11, 45, 46, 47], [(62, (.c .bool))]⟩) ⟨[], []⟩ .nil .nil) .nil)) .nil) .nil))) .nil) .nil)) .nil)) .nil))))
theorem E_lock_queue_bars (g0_q : Option Addr) (g1_r_0 : Int) (g1_r_1 : Int) (g2_ahead : Sl) (h : Hp) (Q : List Value → Hp → Prop) : cw PP 72 (fun d => if d = 20 then [(.c (.int .i64)), (.c (.int .i64))] else []) (bodyOf Try.f33) A_lock_queue_bars (finQ PP (Try.f33.results.toList) Q) (argFr [(Value.pointer g0_q), (Value.agg #[(Value.int .i64 g1_r_0), (Value.int .i64 g1_r_1)]), (Value.slice g2_ahead.a g2_ahead.n g2_ahead.c)]) h = F_lock_queue_bars g0_q g1_r_0 g1_r_1 g2_ahead h Q := by kernel_rfl
theorem O_lock_queue_bars (g0_q : Option Addr) (g1_r_0 : Int) (g1_r_1 : Int) (g2_ahead : Sl) {h : Hp} {Q : List Value → Hp → Prop} (H : F_lock_queue_bars g0_q g1_r_0 g1_r_1 g2_ahead h Q) : S_lock_queue_bars g0_q g1_r_0 g1_r_1 g2_ahead h Q :=
  fn_of_cw (hs := (fun d => if d = 20 then [(.c (.int .i64)), (.c (.int .i64))] else [])) (ann := A_lock_queue_bars) (args := [(Value.pointer g0_q), (Value.agg #[(Value.int .i64 g1_r_0), (Value.int .i64 g1_r_1)]), (Value.slice g2_ahead.a g2_ahead.n g2_ahead.c)]) mixedPP Try.func33 (c := bodyOf Try.f33) (by kernel_rfl) (by kernel_rfl) (by kernel_rfl) (Eq.mpr (E_lock_queue_bars g0_q g1_r_0 g1_r_1 g2_ahead h Q) H)
def F_lock_Table_Take (g0_t : Option Addr) (g1_holder : Int) (g2_name : ByteArray) (g3_m : Int) (h : Hp) (Q : List Value → Hp → Prop) : Prop :=
∀ J1 : List Value → Hp → Prop, (∀ b2 : Bool, ∀ h3 : Hp, ((if b2 = true then
      (Q [(Value.int .i64 (1 : Int))] h3) else
      (S_lock_Table_Waits g0_t g1_holder h3 fun (vs4 : List Value) (h5 : Hp) =>
        ∃ s6 : ByteArray, ∃ n7 : Int, ∃ b8 : Bool, vs4 = [(Value.string s6), (Value.int .i64 n7), (Value.bool b8)] ∧
        (if b8 = true then
          (Q [(Value.int .i64 (76 : Int))] h5) else
          (shOk g3_m (S_lock_Table_Modes g0_t g1_holder g2_name h5 fun (vs9 : List Value) (h10 : Hp) =>
              ∃ n11 : Int, vs9 = [(Value.int .i64 n11)] ∧
              (if ((iAnd .i64 n11 (iShl .i64 (1 : Int) g3_m)) != (0 : Int)) = true then
                (Q [(Value.int .i64 (0 : Int))] h10) else
                (S_lock_Table_queue g0_t g2_name h10 fun (vs12 : List Value) (h13 : Hp) =>
                  ∃ p14 : Option Addr, vs12 = [(Value.pointer p14)] ∧
                  wth (Array.push h13 (Obj.cells #[(Value.int .i64 (0 : Int)), (Value.int .i64 (0 : Int))] T_lock_request)) fun h15 =>
                  stOk h15 (Addr.mk (Array.size h13) 0 none) 2 ∧ wth (wrs h15 (Addr.mk (Array.size h13) 0 none) 0 [(Value.int .i64 g1_holder), (Value.int .i64 g3_m)]) fun h16 =>
                  ∃ n17 : Int, rd h16 (Addr.add (Addr.mk (Array.size h13) 0 none) 0) = some (Value.int .i64 n17) ∧ ∃ n18 : Int, rd h16 (Addr.add (Addr.mk (Array.size h13) 0 none) 1) = some (Value.int .i64 n18) ∧ nilW p14 fun a19 => ∃ l20 : Sl, rd h16 (Addr.add a19 1) = some (Value.slice l20.a l20.n l20.c) ∧
                  S_lock_queue_bars p14 n17 n18 ⟨l20.a, l20.n, l20.c⟩ h16 fun (vs21 : List Value) (h22 : Hp) =>
                  ∃ l23 : Sl, vs21 = [(Value.slice l23.a l23.n l23.c)] ∧
                  (if (decide ((l23.n : Int) > (0 : Int))) = true then
                    (nilW p14 fun a24 => ∃ l25 : Sl, rd h22 (Addr.add a24 1) = some (Value.slice l25.a l25.n l25.c) ∧
                      ∃ n26 : Int, rd h22 (Addr.add (Addr.mk (Array.size h13) 0 none) 0) = some (Value.int .i64 n26) ∧ ∃ n27 : Int, rd h22 (Addr.add (Addr.mk (Array.size h13) 0 none) 1) = some (Value.int .i64 n27) ∧ wth (Array.push h22 (Obj.cells #[(Value.int .i64 n26), (Value.int .i64 n27)] T_lock_request)) fun h28 =>
                      rd h28 (Addr.add a24 1) = some (Value.slice l25.a l25.n l25.c) ∧ ∃ cs33 : List Value, cellsAt h28 (some (Addr.mk (Array.size h22) 0 none)) (1 * 2) cs33 ∧ appS PP T_lock_request 16 2 h28 ⟨l25.a, l25.n, l25.c⟩ 1 cs33 fun (l29 : Sl) (h30 : Hp) =>
                      nilW p14 fun a31 => stOk h30 (Addr.add a31 1) 1 ∧ wth (wrs h30 (Addr.add a31 1) 0 [(Value.slice l29.a l29.n l29.c)]) fun h32 =>
                      Q [(Value.int .i64 (75 : Int))] h32) else
                    (nilW p14 fun a34 => ∃ r35 : Option Nat, rd h22 (Addr.add a34 0) = some (Value.map r35) ∧
                      ∃ es36 : Array MapEntry, mapAt h22 r35 es36 ∧ KeysLike (Value.int .i64 g1_holder) es36 ∧ ∃ n37 : Int, mgetD (Value.int .i64 g1_holder) es36 (Value.int .i64 (0 : Int)) = (Value.int .i64 n37) ∧
                      shOk g3_m (∃ (m38 : Nat) (es39 : Array MapEntry) (c40 : Nat), r35 = some m38 ∧ h22[m38]? = some (.map es39 c40) ∧ KeysLike (Value.int .i64 g1_holder) es39 ∧ wth (Array.setIfInBounds h22 m38 (mput (Value.int .i64 g1_holder) (Value.int .i64 (iOr .i64 n37 (iShl .i64 (1 : Int) g3_m))) es39 c40)) fun h41 =>
                        Q [(Value.int .i64 (0 : Int))] h41))))))))))) → J1 [(Value.bool b2)] h3) →
(if (Option.isNone g0_t) = true then (J1 [(Value.bool true)] h) else
  ((if (decide (g1_holder < (1 : Int))) = true then (J1 [(Value.bool true)] h) else
      ((if (decide (g1_holder > (200 : Int))) = true then (J1 [(Value.bool true)] h) else
          (S_mode_With g3_m h fun (vs42 : List Value) (h43 : Hp) =>
            ∃ n44 : Int, vs42 = [(Value.int .i64 n44)] ∧
            (if (n44 == (0 : Int)) = true then (J1 [(Value.bool true)] h43) else
              (J1 [(Value.bool (decide ((ByteArray.size g2_name : Int) > (8 : Int))))] h43))))))))
def A_lock_Table_Take : Ann := (.mk none ⟨[], []⟩ .nil (.mk none ⟨[], []⟩ (.mk none ⟨[], []⟩ (.mk (some ⟨[0, 1, 2, 3], [(33, (.c .bool))]⟩) ⟨[], []⟩ .nil .nil) .nil) .nil))
theorem E_lock_Table_Take (g0_t : Option Addr) (g1_holder : Int) (g2_name : ByteArray) (g3_m : Int) (h : Hp) (Q : List Value → Hp → Prop) : cw PP 84 (fun _ => []) (bodyOf Try.f13) A_lock_Table_Take (finQ PP (Try.f13.results.toList) Q) (argFr [(Value.pointer g0_t), (Value.int .i64 g1_holder), (Value.string g2_name), (Value.int .i64 g3_m)]) h = F_lock_Table_Take g0_t g1_holder g2_name g3_m h Q := by kernel_rfl
theorem O_lock_Table_Take (g0_t : Option Addr) (g1_holder : Int) (g2_name : ByteArray) (g3_m : Int) {h : Hp} {Q : List Value → Hp → Prop} (H : F_lock_Table_Take g0_t g1_holder g2_name g3_m h Q) : S_lock_Table_Take g0_t g1_holder g2_name g3_m h Q :=
  fn_of_cw (hs := (fun _ => [])) (ann := A_lock_Table_Take) (args := [(Value.pointer g0_t), (Value.int .i64 g1_holder), (Value.string g2_name), (Value.int .i64 g3_m)]) mixedPP Try.func13 (c := bodyOf Try.f13) (by kernel_rfl) (by kernel_rfl) (by kernel_rfl) (Eq.mpr (E_lock_Table_Take g0_t g1_holder g2_name g3_m h Q) H)
def F_liverykeep_Ints (g0_a : Sl) (g1_b : Sl) (h : Hp) (Q : List Value → Hp → Prop) : Prop :=
(if ((g0_a.n : Int) != (g1_b.n : Int)) = true then
  (Q [(Value.bool false)] h) else
  (∀ X1 : List Value → Hp → Prop, (∀ n2 : Int, ∀ h3 : Hp, ((if (decide (n2 < (g0_a.n : Int))) = true then
          (nilW g0_a.a fun a4 => ixOk n2 g0_a.n (∃ n5 : Int, rd h3 (Addr.add a4 (Int.toNat n2 * 1)) = some (Value.int .i64 n5) ∧
              nilW g1_b.a fun a6 => ixOk n2 g1_b.n (∃ n7 : Int, rd h3 (Addr.add a6 (Int.toNat n2 * 1)) = some (Value.int .i64 n7) ∧
                (if (n5 != n7) = true then
                  (Q [(Value.bool false)] h3) else
                  (X1 [(Value.int .i64 (IntKind.wrap .i64 (n2 + (1 : Int))))] h3))))) else
          (Q [(Value.bool true)] h3))) → X1 [(Value.int .i64 n2)] h3) →
    X1 [(Value.int .i64 (0 : Int))] h))
def A_liverykeep_Ints : Ann := (.mk none ⟨[], []⟩ .nil (.mk none ⟨[], []⟩ .nil (.mk none ⟨[], []⟩ (.mk none ⟨[], []⟩ .nil (.mk none ⟨[], []⟩ (.mk none ⟨[0, 1], [(5, (.c (.int .i64)))]⟩ .nil .nil) .nil)) .nil)))
theorem E_liverykeep_Ints (g0_a : Sl) (g1_b : Sl) (h : Hp) (Q : List Value → Hp → Prop) : cw PP 26 (fun _ => []) (bodyOf Try.f15) A_liverykeep_Ints (finQ PP (Try.f15.results.toList) Q) (argFr [(Value.slice g0_a.a g0_a.n g0_a.c), (Value.slice g1_b.a g1_b.n g1_b.c)]) h = F_liverykeep_Ints g0_a g1_b h Q := by kernel_rfl
theorem O_liverykeep_Ints (g0_a : Sl) (g1_b : Sl) {h : Hp} {Q : List Value → Hp → Prop} (H : F_liverykeep_Ints g0_a g1_b h Q) : S_liverykeep_Ints g0_a g1_b h Q :=
  fn_of_cw (hs := (fun _ => [])) (ann := A_liverykeep_Ints) (args := [(Value.slice g0_a.a g0_a.n g0_a.c), (Value.slice g1_b.a g1_b.n g1_b.c)]) mixedPP Try.func15 (c := bodyOf Try.f15) (by kernel_rfl) (by kernel_rfl) (by kernel_rfl) (Eq.mpr (E_liverykeep_Ints g0_a g1_b h Q) H)
def F_slices_Collect_string (g0_seq_f : Nat) (g0_seq_c : Array Value) (h : Hp) (Q : List Value → Hp → Prop) : Prop :=
S_slices_AppendSeq_sstring_string ⟨none, 0, 0⟩ g0_seq_f g0_seq_c h fun (vs1 : List Value) (h2 : Hp) =>
∃ l3 : Sl, vs1 = [(Value.slice l3.a l3.n l3.c)] ∧
Q [(Value.slice l3.a l3.n l3.c)] h2
def A_slices_Collect_string : Ann := .nil
theorem E_slices_Collect_string (g0_seq_f : Nat) (g0_seq_c : Array Value) (h : Hp) (Q : List Value → Hp → Prop) : cw PP 5 (fun _ => []) (bodyOf Try.f54) A_slices_Collect_string (finQ PP (Try.f54.results.toList) Q) (argFr [(Value.func (.func g0_seq_f) #[] g0_seq_c)]) h = F_slices_Collect_string g0_seq_f g0_seq_c h Q := by kernel_rfl
theorem O_slices_Collect_string (g0_seq_f : Nat) (g0_seq_c : Array Value) {h : Hp} {Q : List Value → Hp → Prop} (H : F_slices_Collect_string g0_seq_f g0_seq_c h Q) : S_slices_Collect_string g0_seq_f g0_seq_c h Q :=
  fn_of_cw (hs := (fun _ => [])) (ann := A_slices_Collect_string) (args := [(Value.func (.func g0_seq_f) #[] g0_seq_c)]) mixedPP Try.func54 (c := bodyOf Try.f54) (by kernel_rfl) (by kernel_rfl) (by kernel_rfl) (Eq.mpr (E_slices_Collect_string g0_seq_f g0_seq_c h Q) H)
def F_slices_Sort_sstring_string (g0_x : Sl) (h : Hp) (Q : List Value → Hp → Prop) : Prop :=
S_math_bits_Len (IntKind.wrap .u64 (g0_x.n : Int)) h fun (vs1 : List Value) (h2 : Hp) =>
∃ n3 : Int, vs1 = [(Value.int .i64 n3)] ∧
S_slices_pdqsortOrdered_string ⟨g0_x.a, g0_x.n, g0_x.c⟩ (0 : Int) (g0_x.n : Int) n3 h2 fun (vs4 : List Value) (h5 : Hp) =>
vs4 = [] ∧
Q [] h5
def A_slices_Sort_sstring_string : Ann := .nil
theorem E_slices_Sort_sstring_string (g0_x : Sl) (h : Hp) (Q : List Value → Hp → Prop) : cw PP 11 (fun _ => []) (bodyOf Try.f55) A_slices_Sort_sstring_string (finQ PP (Try.f55.results.toList) Q) (argFr [(Value.slice g0_x.a g0_x.n g0_x.c)]) h = F_slices_Sort_sstring_string g0_x h Q := by kernel_rfl
theorem O_slices_Sort_sstring_string (g0_x : Sl) {h : Hp} {Q : List Value → Hp → Prop} (H : F_slices_Sort_sstring_string g0_x h Q) : S_slices_Sort_sstring_string g0_x h Q :=
  fn_of_cw (hs := (fun _ => [])) (ann := A_slices_Sort_sstring_string) (args := [(Value.slice g0_x.a g0_x.n g0_x.c)]) mixedPP Try.func55 (c := bodyOf Try.f55) (by kernel_rfl) (by kernel_rfl) (by kernel_rfl) (Eq.mpr (E_slices_Sort_sstring_string g0_x h Q) H)
def F_slices_Sorted_string (g0_seq_f : Nat) (g0_seq_c : Array Value) (h : Hp) (Q : List Value → Hp → Prop) : Prop :=
S_slices_Collect_string g0_seq_f g0_seq_c h fun (vs1 : List Value) (h2 : Hp) =>
∃ l3 : Sl, vs1 = [(Value.slice l3.a l3.n l3.c)] ∧
S_slices_Sort_sstring_string ⟨l3.a, l3.n, l3.c⟩ h2 fun (vs4 : List Value) (h5 : Hp) =>
vs4 = [] ∧
Q [(Value.slice l3.a l3.n l3.c)] h5
def A_slices_Sorted_string : Ann := .nil
theorem E_slices_Sorted_string (g0_seq_f : Nat) (g0_seq_c : Array Value) (h : Hp) (Q : List Value → Hp → Prop) : cw PP 9 (fun _ => []) (bodyOf Try.f41) A_slices_Sorted_string (finQ PP (Try.f41.results.toList) Q) (argFr [(Value.func (.func g0_seq_f) #[] g0_seq_c)]) h = F_slices_Sorted_string g0_seq_f g0_seq_c h Q := by kernel_rfl
theorem O_slices_Sorted_string (g0_seq_f : Nat) (g0_seq_c : Array Value) {h : Hp} {Q : List Value → Hp → Prop} (H : F_slices_Sorted_string g0_seq_f g0_seq_c h Q) : S_slices_Sorted_string g0_seq_f g0_seq_c h Q :=
  fn_of_cw (hs := (fun _ => [])) (ann := A_slices_Sorted_string) (args := [(Value.func (.func g0_seq_f) #[] g0_seq_c)]) mixedPP Try.func41 (c := bodyOf Try.f41) (by kernel_rfl) (by kernel_rfl) (by kernel_rfl) (Eq.mpr (E_slices_Sorted_string g0_seq_f g0_seq_c h Q) H)
def F_maps_Keys_map_string_plock_queue_string_plock_queue (g0_m : Option Nat) (h : Hp) (Q : List Value → Hp → Prop) : Prop :=
wth (Array.push h (Obj.cells #[(Value.map g0_m)] T_map_string_plock_queue)) fun h1 =>
Q [(Value.func (.func 56) #[] #[(Value.pointer (some (Addr.mk (Array.size h) 0 none)))])] h1
def A_maps_Keys_map_string_plock_queue_string_plock_queue : Ann := .nil
theorem E_maps_Keys_map_string_plock_queue_string_plock_queue (g0_m : Option Nat) (h : Hp) (Q : List Value → Hp → Prop) : cw PP 4 (fun _ => []) (bodyOf Try.f42) A_maps_Keys_map_string_plock_queue_string_plock_queue (finQ PP (Try.f42.results.toList) Q) (argFr [(Value.map g0_m)]) h = F_maps_Keys_map_string_plock_queue_string_plock_queue g0_m h Q := by kernel_rfl
theorem O_maps_Keys_map_string_plock_queue_string_plock_queue (g0_m : Option Nat) {h : Hp} {Q : List Value → Hp → Prop} (H : F_maps_Keys_map_string_plock_queue_string_plock_queue g0_m h Q) : S_maps_Keys_map_string_plock_queue_string_plock_queue g0_m h Q :=
  fn_of_cw (hs := (fun _ => [])) (ann := A_maps_Keys_map_string_plock_queue_string_plock_queue) (args := [(Value.map g0_m)]) mixedPP Try.func42 (c := bodyOf Try.f42) (by kernel_rfl) (by kernel_rfl) (by kernel_rfl) (Eq.mpr (E_maps_Keys_map_string_plock_queue_string_plock_queue g0_m h Q) H)
def F_lock_Table_Names (g0_t : Option Addr) (h : Hp) (Q : List Value → Hp → Prop) : Prop :=
(if (Option.isNone g0_t) = true then
  (Q [(Value.slice none 0 0)] h) else
  (nilW g0_t fun a1 => ∃ r2 : Option Nat, rd h (Addr.add a1 0) = some (Value.map r2) ∧
    S_maps_Keys_map_string_plock_queue_string_plock_queue r2 h fun (vs3 : List Value) (h4 : Hp) =>
    ∃ f5 : Nat, ∃ cs6 : Array Value, vs3 = [(Value.func (.func f5) #[] cs6)] ∧
    S_slices_Sorted_string f5 cs6 h4 fun (vs7 : List Value) (h8 : Hp) =>
    ∃ l9 : Sl, vs7 = [(Value.slice l9.a l9.n l9.c)] ∧
    Q [(Value.slice l9.a l9.n l9.c)] h8))
def A_lock_Table_Names : Ann := .nil
theorem E_lock_Table_Names (g0_t : Option Addr) (h : Hp) (Q : List Value → Hp → Prop) : cw PP 11 (fun _ => []) (bodyOf Try.f25) A_lock_Table_Names (finQ PP (Try.f25.results.toList) Q) (argFr [(Value.pointer g0_t)]) h = F_lock_Table_Names g0_t h Q := by kernel_rfl
theorem O_lock_Table_Names (g0_t : Option Addr) {h : Hp} {Q : List Value → Hp → Prop} (H : F_lock_Table_Names g0_t h Q) : S_lock_Table_Names g0_t h Q :=
  fn_of_cw (hs := (fun _ => [])) (ann := A_lock_Table_Names) (args := [(Value.pointer g0_t)]) mixedPP Try.func25 (c := bodyOf Try.f25) (by kernel_rfl) (by kernel_rfl) (by kernel_rfl) (Eq.mpr (E_lock_Table_Names g0_t h Q) H)
def F_slices_ContainsFunc_slock_request_lock_request (g0_s : Sl) (g1_f_f : Nat) (g1_f_c : Array Value) (h : Hp) (Q : List Value → Hp → Prop) : Prop :=
S_slices_IndexFunc_slock_request_lock_request ⟨g0_s.a, g0_s.n, g0_s.c⟩ g1_f_f g1_f_c h fun (vs1 : List Value) (h2 : Hp) =>
∃ n3 : Int, vs1 = [(Value.int .i64 n3)] ∧
Q [(Value.bool (decide (n3 ≥ (0 : Int))))] h2
def A_slices_ContainsFunc_slock_request_lock_request : Ann := .nil
theorem E_slices_ContainsFunc_slock_request_lock_request (g0_s : Sl) (g1_f_f : Nat) (g1_f_c : Array Value) (h : Hp) (Q : List Value → Hp → Prop) : cw PP 9 (fun _ => []) (bodyOf Try.f37) A_slices_ContainsFunc_slock_request_lock_request (finQ PP (Try.f37.results.toList) Q) (argFr [(Value.slice g0_s.a g0_s.n g0_s.c), (Value.func (.func g1_f_f) #[] g1_f_c)]) h = F_slices_ContainsFunc_slock_request_lock_request g0_s g1_f_f g1_f_c h Q := by kernel_rfl
theorem O_slices_ContainsFunc_slock_request_lock_request (g0_s : Sl) (g1_f_f : Nat) (g1_f_c : Array Value) {h : Hp} {Q : List Value → Hp → Prop} (H : F_slices_ContainsFunc_slock_request_lock_request g0_s g1_f_f g1_f_c h Q) : S_slices_ContainsFunc_slock_request_lock_request g0_s g1_f_f g1_f_c h Q :=
  fn_of_cw (hs := (fun _ => [])) (ann := A_slices_ContainsFunc_slock_request_lock_request) (args := [(Value.slice g0_s.a g0_s.n g0_s.c), (Value.func (.func g1_f_f) #[] g1_f_c)]) mixedPP Try.func37 (c := bodyOf Try.f37) (by kernel_rfl) (by kernel_rfl) (by kernel_rfl) (Eq.mpr (E_slices_ContainsFunc_slock_request_lock_request g0_s g1_f_f g1_f_c h Q) H)
def F_slices_DeleteFunc_slock_request_lock_request (g0_s : Sl) (g1_del_f : Nat) (g1_del_c : Array Value) (h : Hp) (Q : List Value → Hp → Prop) : Prop :=
S_slices_IndexFunc_slock_request_lock_request ⟨g0_s.a, g0_s.n, g0_s.c⟩ g1_del_f g1_del_c h fun (vs1 : List Value) (h2 : Hp) =>
∃ n3 : Int, vs1 = [(Value.int .i64 n3)] ∧
(if (n3 == (-1 : Int)) = true then
  (Q [(Value.slice g0_s.a g0_s.n g0_s.c)] h2) else
  (∀ X4 : List Value → Hp → Prop, (∀ n5 : Int, ∀ n6 : Int, ∀ h7 : Hp, ((if (decide (n6 < (g0_s.n : Int))) = true then
          (∀ J8 : List Value → Hp → Prop, (∀ n9 : Int, ∀ h10 : Hp, (X4 [(Value.int .i64 n9), (Value.int .i64 (IntKind.wrap .i64 (n6 + (1 : Int))))] h10) → J8 [(Value.int .i64 n9)] h10) →
            nilW g0_s.a fun a11 => ixOk n6 g0_s.n (∃ n12 : Int, rd h7 (Addr.add (Addr.add a11 (Int.toNat n6 * 2)) 0) = some (Value.int .i64 n12) ∧ ∃ n13 : Int, rd h7 (Addr.add (Addr.add a11 (Int.toNat n6 * 2)) 1) = some (Value.int .i64 n13) ∧ wth (Array.push h7 (Obj.cells #[(Value.int .i64 (0 : Int)), (Value.int .i64 (0 : Int))] T_lock_request)) fun h14 =>
              stOk h14 (Addr.mk (Array.size h7) 0 none) 2 ∧ wth (wrs h14 (Addr.mk (Array.size h7) 0 none) 0 [(Value.int .i64 n12), (Value.int .i64 n13)]) fun h15 =>
              ∃ n16 : Int, rd h15 (Addr.add (Addr.mk (Array.size h7) 0 none) 0) = some (Value.int .i64 n16) ∧ ∃ n17 : Int, rd h15 (Addr.add (Addr.mk (Array.size h7) 0 none) 1) = some (Value.int .i64 n17) ∧ Fn PP g1_del_f ((#[] ++ #[(Value.agg #[(Value.int .i64 n16), (Value.int .i64 n17)])]) ++ g1_del_c) h15 fun (vs18 : List Value) (h19 : Hp) =>
              ∃ b20 : Bool, vs18 = [(Value.bool b20)] ∧
              (if (!b20) = true then
                (∃ n21 : Int, rd h19 (Addr.add (Addr.mk (Array.size h7) 0 none) 0) = some (Value.int .i64 n21) ∧ ∃ n22 : Int, rd h19 (Addr.add (Addr.mk (Array.size h7) 0 none) 1) = some (Value.int .i64 n22) ∧ nilW g0_s.a fun a23 => ixOk n5 g0_s.n (stOk h19 (Addr.add a23 (Int.toNat n5 * 2)) 2 ∧ wth (wrs h19 (Addr.add a23 (Int.toNat n5 * 2)) 0 [(Value.int .i64 n21), (Value.int .i64 n22)]) fun h24 =>
                    J8 [(Value.int .i64 (IntKind.wrap .i64 (n5 + (1 : Int))))] h24)) else
                (J8 [(Value.int .i64 n5)] h19)))) else
          ((0 ≤ n5 ∧ n5 ≤ (g0_s.n : Nat)) ∧ (List.all (Array.toList (zc PP T_lock_request)) oneCell = true ∧ ∀ a : Addr, (slAd g0_s.a (Int.toNat n5) g0_s.c 2) = some a → stOk h7 a ((g0_s.n - (Int.toNat n5)) * Array.size (zc PP T_lock_request))) ∧ wth (cpHp h7 (if (g0_s.n - (Int.toNat n5)) = 0 then none else (slAd g0_s.a (Int.toNat n5) g0_s.c 2)) (Array.toList (Builtin.zeroCells (zc PP T_lock_request) (g0_s.n - (Int.toNat n5))))) fun h25 =>
            (0 ≤ n5 ∧ n5 ≤ (g0_s.c : Nat)) ∧ Q [(Value.slice (slAd g0_s.a 0 g0_s.c 2) ((Int.toNat n5) - 0) (g0_s.c - 0))] h25))) → X4 [(Value.int .i64 n5), (Value.int .i64 n6)] h7) →
    X4 [(Value.int .i64 n3), (Value.int .i64 (IntKind.wrap .i64 (n3 + (1 : Int))))] h2))
def A_slices_DeleteFunc_slock_request_lock_request : Ann := (.mk none ⟨[], []⟩ .nil (.mk none ⟨[], []⟩ .nil (.mk none ⟨[], []⟩ .nil (.mk none ⟨[], []⟩ (.mk none ⟨[], []⟩ .nil (.mk none ⟨[], []⟩ (.mk none ⟨[0, 1], [(5, (.c (.int .i64))), (6, (.c (.int .i64)))]⟩ (.mk none ⟨[], []⟩ .nil (.mk none ⟨[], []⟩ (.mk (some ⟨[0, 1, 6], [(5, (.c (.int .i64)))]⟩) ⟨[], []⟩ .nil .nil) .nil)) .nil) .nil)) .nil))))
theorem E_slices_DeleteFunc_slock_request_lock_request (g0_s : Sl) (g1_del_f : Nat) (g1_del_c : Array Value) (h : Hp) (Q : List Value → Hp → Prop) : cw PP 42 (fun _ => []) (bodyOf Try.f38) A_slices_DeleteFunc_slock_request_lock_request (finQ PP (Try.f38.results.toList) Q) (argFr [(Value.slice g0_s.a g0_s.n g0_s.c), (Value.func (.func g1_del_f) #[] g1_del_c)]) h = F_slices_DeleteFunc_slock_request_lock_request g0_s g1_del_f g1_del_c h Q := by kernel_rfl
theorem O_slices_DeleteFunc_slock_request_lock_request (g0_s : Sl) (g1_del_f : Nat) (g1_del_c : Array Value) {h : Hp} {Q : List Value → Hp → Prop} (H : F_slices_DeleteFunc_slock_request_lock_request g0_s g1_del_f g1_del_c h Q) : S_slices_DeleteFunc_slock_request_lock_request g0_s g1_del_f g1_del_c h Q :=
  fn_of_cw (hs := (fun _ => [])) (ann := A_slices_DeleteFunc_slock_request_lock_request) (args := [(Value.slice g0_s.a g0_s.n g0_s.c), (Value.func (.func g1_del_f) #[] g1_del_c)]) mixedPP Try.func38 (c := bodyOf Try.f38) (by kernel_rfl) (by kernel_rfl) (by kernel_rfl) (Eq.mpr (E_slices_DeleteFunc_slock_request_lock_request g0_s g1_del_f g1_del_c h Q) H)
def F_lock_queue_grant (g0_q : Option Addr) (h : Hp) (Q : List Value → Hp → Prop) : Prop :=
nilW g0_q fun a1 => ∃ l2 : Sl, rd h (Addr.add a1 1) = some (Value.slice l2.a l2.n l2.c) ∧
∀ X3 : List Value → Hp → Prop, (∀ l4 : Sl, ∀ l5 : Sl, ∀ n6 : Int, ∀ h7 : Hp, ((if (decide (n6 < (l2.n : Int))) = true then
      (∀ J8 : List Value → Hp → Prop, (∀ l9 : Sl, ∀ l10 : Sl, ∀ h11 : Hp, (X3 [(Value.slice l9.a l9.n l9.c), (Value.slice l10.a l10.n l10.c), (Value.int .i64 (IntKind.wrap .i64 (n6 + (1 : Int))))] h11) → J8 [(Value.slice l9.a l9.n l9.c), (Value.slice l10.a l10.n l10.c)] h11) →
        nilW l2.a fun a12 => ixOk n6 l2.n (∃ n13 : Int, rd h7 (Addr.add (Addr.add a12 (Int.toNat n6 * 2)) 0) = some (Value.int .i64 n13) ∧ ∃ n14 : Int, rd h7 (Addr.add (Addr.add a12 (Int.toNat n6 * 2)) 1) = some (Value.int .i64 n14) ∧ wth (Array.push h7 (Obj.cells #[(Value.int .i64 (0 : Int)), (Value.int .i64 (0 : Int))] T_lock_request)) fun h15 =>
          stOk h15 (Addr.mk (Array.size h7) 0 none) 2 ∧ wth (wrs h15 (Addr.mk (Array.size h7) 0 none) 0 [(Value.int .i64 n13), (Value.int .i64 n14)]) fun h16 =>
          ∃ n17 : Int, rd h16 (Addr.add (Addr.mk (Array.size h7) 0 none) 0) = some (Value.int .i64 n17) ∧ ∃ n18 : Int, rd h16 (Addr.add (Addr.mk (Array.size h7) 0 none) 1) = some (Value.int .i64 n18) ∧ S_lock_queue_bars g0_q n17 n18 ⟨l5.a, l5.n, l5.c⟩ h16 fun (vs19 : List Value) (h20 : Hp) =>
          ∃ l21 : Sl, vs19 = [(Value.slice l21.a l21.n l21.c)] ∧
          (if (decide ((l21.n : Int) > (0 : Int))) = true then
            (∃ n22 : Int, rd h20 (Addr.add (Addr.mk (Array.size h7) 0 none) 0) = some (Value.int .i64 n22) ∧ ∃ n23 : Int, rd h20 (Addr.add (Addr.mk (Array.size h7) 0 none) 1) = some (Value.int .i64 n23) ∧ wth (Array.push h20 (Obj.cells #[(Value.int .i64 n22), (Value.int .i64 n23)] T_lock_request)) fun h24 =>
              ∃ cs27 : List Value, cellsAt h24 (some (Addr.mk (Array.size h20) 0 none)) (1 * 2) cs27 ∧ appS PP T_lock_request 16 2 h24 ⟨l5.a, l5.n, l5.c⟩ 1 cs27 fun (l25 : Sl) (h26 : Hp) =>
              J8 [(Value.slice l4.a l4.n l4.c), (Value.slice l25.a l25.n l25.c)] h26) else
            (nilW g0_q fun a28 => ∃ r29 : Option Nat, rd h20 (Addr.add a28 0) = some (Value.map r29) ∧
              ∃ n30 : Int, rd h20 (Addr.add (Addr.mk (Array.size h7) 0 none) 0) = some (Value.int .i64 n30) ∧
              ∃ es31 : Array MapEntry, mapAt h20 r29 es31 ∧ KeysLike (Value.int .i64 n30) es31 ∧ ∃ n32 : Int, mgetD (Value.int .i64 n30) es31 (Value.int .i64 (0 : Int)) = (Value.int .i64 n32) ∧
              ∃ n33 : Int, rd h20 (Addr.add (Addr.mk (Array.size h7) 0 none) 1) = some (Value.int .i64 n33) ∧
              shOk n33 (∃ (m34 : Nat) (es35 : Array MapEntry) (c36 : Nat), r29 = some m34 ∧ h20[m34]? = some (.map es35 c36) ∧ KeysLike (Value.int .i64 n30) es35 ∧ wth (Array.setIfInBounds h20 m34 (mput (Value.int .i64 n30) (Value.int .i64 (iOr .i64 n32 (iShl .i64 (1 : Int) n33))) es35 c36)) fun h37 =>
                ∃ n38 : Int, rd h37 (Addr.add (Addr.mk (Array.size h7) 0 none) 0) = some (Value.int .i64 n38) ∧
                wth (Array.push h37 (Obj.cells #[(Value.int .i64 n38)] T_int)) fun h39 =>
                ∃ cs42 : List Value, cellsAt h39 (some (Addr.mk (Array.size h37) 0 none)) (1 * 1) cs42 ∧ appS PP T_int 8 1 h39 ⟨l4.a, l4.n, l4.c⟩ 1 cs42 fun (l40 : Sl) (h41 : Hp) =>
                J8 [(Value.slice l40.a l40.n l40.c), (Value.slice l5.a l5.n l5.c)] h41))))) else
      (nilW g0_q fun a43 => stOk h7 (Addr.add a43 1) 1 ∧ wth (wrs h7 (Addr.add a43 1) 0 [(Value.slice l5.a l5.n l5.c)]) fun h44 =>
        Q [(Value.slice l4.a l4.n l4.c)] h44))) → X3 [(Value.slice l4.a l4.n l4.c), (Value.slice l5.a l5.n l5.c), (Value.int .i64 n6)] h7) →
X3 [(Value.slice none 0 0), (Value.slice none 0 0), (Value.int .i64 (0 : Int))] h
def A_lock_queue_grant : Ann := (.mk none ⟨[], []⟩ .nil (.mk none ⟨[], []⟩ (.mk none ⟨[], []⟩ .nil (.mk none ⟨[], []⟩ .nil (.mk none ⟨[], []⟩ .nil (.mk none ⟨[], []⟩ (.mk none ⟨[], []⟩ .nil (.mk none ⟨[], []⟩ (.mk none ⟨[0, 10, 11], [(3, (.c .sl)), (4, (.c .sl)), (12, (.c (.int .i64)))]⟩ (.mk none ⟨[], []⟩ .nil (.mk none ⟨[], []⟩ .nil (.mk none ⟨[], []⟩ (.mk (some ⟨[0, 10, 11, 12], [(3, (.c .sl)), (4, (.c .sl))]⟩) ⟨[], []⟩ .nil .nil) .nil))) .nil) .nil)) .nil)))) .nil))
theorem E_lock_queue_grant (g0_q : Option Addr) (h : Hp) (Q : List Value → Hp → Prop) : cw PP 48 (fun _ => []) (bodyOf Try.f39) A_lock_queue_grant (finQ PP (Try.f39.results.toList) Q) (argFr [(Value.pointer g0_q)]) h = F_lock_queue_grant g0_q h Q := by kernel_rfl
theorem O_lock_queue_grant (g0_q : Option Addr) {h : Hp} {Q : List Value → Hp → Prop} (H : F_lock_queue_grant g0_q h Q) : S_lock_queue_grant g0_q h Q :=
  fn_of_cw (hs := (fun _ => [])) (ann := A_lock_queue_grant) (args := [(Value.pointer g0_q)]) mixedPP Try.func39 (c := bodyOf Try.f39) (by kernel_rfl) (by kernel_rfl) (by kernel_rfl) (Eq.mpr (E_lock_queue_grant g0_q h Q) H)
def F_lock_Table_Release (g0_t : Option Addr) (g1_holder : Int) (h : Hp) (Q : List Value → Hp → Prop) : Prop :=
wth (Array.push h (Obj.cells #[(Value.int .i64 g1_holder)] T_int)) fun h1 =>
(if (Option.isNone g0_t) = true then
  (Q [(Value.slice none 0 0)] h1) else
  (S_lock_Table_Names g0_t h1 fun (vs2 : List Value) (h3 : Hp) =>
    ∃ l4 : Sl, vs2 = [(Value.slice l4.a l4.n l4.c)] ∧
    ∀ X5 : List Value → Hp → Prop, (∀ l6 : Sl, ∀ n7 : Int, ∀ h8 : Hp, ((if (decide (n7 < (l4.n : Int))) = true then
          (∀ J9 : List Value → Hp → Prop, (∀ l10 : Sl, ∀ h11 : Hp, (X5 [(Value.slice l10.a l10.n l10.c), (Value.int .i64 (IntKind.wrap .i64 (n7 + (1 : Int))))] h11) → J9 [(Value.slice l10.a l10.n l10.c)] h11) →
            nilW l4.a fun a12 => ixOk n7 l4.n (∃ s13 : ByteArray, rd h8 (Addr.add a12 (Int.toNat n7 * 1)) = some (Value.string s13) ∧
              nilW g0_t fun a14 => ∃ r15 : Option Nat, rd h8 (Addr.add a14 0) = some (Value.map r15) ∧
              ∃ es16 : Array MapEntry, mapAt h8 r15 es16 ∧ KeysLike (Value.string s13) es16 ∧ ∃ p17 : Option Addr, mgetD (Value.string s13) es16 (Value.pointer none) = (Value.pointer p17) ∧
              ∀ J18 : List Value → Hp → Prop, (∀ b19 : Bool, ∀ h20 : Hp, ((if b19 = true then
                    (J9 [(Value.slice l6.a l6.n l6.c)] h20) else
                    (nilW p17 fun a21 => ∃ r22 : Option Nat, rd h20 (Addr.add a21 0) = some (Value.map r22) ∧
                      ∃ n23 : Int, rd h20 (Addr.mk (Array.size h) 0 none) = some (Value.int .i64 n23) ∧
                      ∃ (m24 : Nat) (es25 : Array MapEntry) (c26 : Nat), r22 = some m24 ∧ h20[m24]? = some (.map es25 c26) ∧ KeysLike (Value.int .i64 n23) es25 ∧ wth (Array.setIfInBounds h20 m24 (mdel (Value.int .i64 n23) es25 c26)) fun h27 =>
                      nilW p17 fun a28 => ∃ l29 : Sl, rd h27 (Addr.add a28 1) = some (Value.slice l29.a l29.n l29.c) ∧
                      S_slices_DeleteFunc_slock_request_lock_request ⟨l29.a, l29.n, l29.c⟩ 36 #[(Value.pointer (some (Addr.mk (Array.size h) 0 none)))] h27 fun (vs30 : List Value) (h31 : Hp) =>
                      ∃ l32 : Sl, vs30 = [(Value.slice l32.a l32.n l32.c)] ∧
                      nilW p17 fun a33 => stOk h31 (Addr.add a33 1) 1 ∧ wth (wrs h31 (Addr.add a33 1) 0 [(Value.slice l32.a l32.n l32.c)]) fun h34 =>
                      S_lock_queue_grant p17 h34 fun (vs35 : List Value) (h36 : Hp) =>
                      ∃ l37 : Sl, vs35 = [(Value.slice l37.a l37.n l37.c)] ∧
                      ∃ cs51 : List Value, cellsAt h36 l37.a (l37.n * 1) cs51 ∧ appS PP T_int 8 1 h36 ⟨l6.a, l6.n, l6.c⟩ l37.n cs51 fun (l38 : Sl) (h39 : Hp) =>
                      nilW p17 fun a40 => ∃ r41 : Option Nat, rd h39 (Addr.add a40 0) = some (Value.map r41) ∧
                      ∃ es42 : Array MapEntry, mapAt h39 r41 es42 ∧
                      nilW p17 fun a43 => ∃ l44 : Sl, rd h39 (Addr.add a43 1) = some (Value.slice l44.a l44.n l44.c) ∧
                      (if ((IntKind.wrap .i64 ((Array.size es42 : Int) + (l44.n : Int))) == (0 : Int)) = true then
                        (nilW g0_t fun a45 => ∃ r46 : Option Nat, rd h39 (Addr.add a45 0) = some (Value.map r46) ∧
                          ∃ (m47 : Nat) (es48 : Array MapEntry) (c49 : Nat), r46 = some m47 ∧ h39[m47]? = some (.map es48 c49) ∧ KeysLike (Value.string s13) es48 ∧ wth (Array.setIfInBounds h39 m47 (mdel (Value.string s13) es48 c49)) fun h50 =>
                          J9 [(Value.slice l38.a l38.n l38.c)] h50) else
                        (J9 [(Value.slice l38.a l38.n l38.c)] h39))))) → J18 [(Value.bool b19)] h20) →
              nilW p17 fun a52 => ∃ r53 : Option Nat, rd h8 (Addr.add a52 0) = some (Value.map r53) ∧
              ∃ n54 : Int, rd h8 (Addr.mk (Array.size h) 0 none) = some (Value.int .i64 n54) ∧
              ∃ es55 : Array MapEntry, mapAt h8 r53 es55 ∧ KeysLike (Value.int .i64 n54) es55 ∧ ∃ n56 : Int, mgetD (Value.int .i64 n54) es55 (Value.int .i64 (0 : Int)) = (Value.int .i64 n56) ∧
              (if (n56 == (0 : Int)) = true then (nilW p17 fun a57 => ∃ l58 : Sl, rd h8 (Addr.add a57 1) = some (Value.slice l58.a l58.n l58.c) ∧
                  S_slices_ContainsFunc_slock_request_lock_request ⟨l58.a, l58.n, l58.c⟩ 36 #[(Value.pointer (some (Addr.mk (Array.size h) 0 none)))] h8 fun (vs59 : List Value) (h60 : Hp) =>
                  ∃ b61 : Bool, vs59 = [(Value.bool b61)] ∧
                  J18 [(Value.bool (!b61))] h60) else
                (J18 [(Value.bool false)] h8)))) else
          (Q [(Value.slice l6.a l6.n l6.c)] h8))) → X5 [(Value.slice l6.a l6.n l6.c), (Value.int .i64 n7)] h8) →
    X5 [(Value.slice none 0 0), (Value.int .i64 (0 : Int))] h3))
def A_lock_Table_Release : Ann := (.mk none ⟨[], []⟩ .nil (.mk none ⟨[], []⟩ .nil (.mk none ⟨[], []⟩ .nil (.mk none ⟨[], []⟩ (.mk none ⟨[], []⟩ .nil (.mk none ⟨[], []⟩ (.mk none ⟨[0, 3, 13, 14], [(5, (.c .sl)), (15, (.c (.int .i64)))]⟩ (.mk none ⟨[], []⟩ .nil (.mk none ⟨[], []⟩ .nil (.mk none ⟨[], []⟩ (.mk (some ⟨[0, 3, 13, 14, 15], [(5, (.c .sl))]⟩) ⟨[], []⟩ (.mk none ⟨[], []⟩ .nil (.mk none ⟨[], []⟩ .nil (.mk none ⟨[], []⟩ .nil (.mk none ⟨[], []⟩ (.mk none ⟨[], []⟩ (.mk (some ⟨[0, 3, 5, 7, 8, 9, 13, 14, 15], [(41, (.c .bool))]⟩) ⟨[], []⟩ .nil .nil) .nil) .nil)))) .nil) .nil))) .nil) .nil)) .nil))))
theorem E_lock_Table_Release (g0_t : Option Addr) (g1_holder : Int) (h : Hp) (Q : List Value → Hp → Prop) : cw PP 79 (fun _ => []) (bodyOf Try.f16) A_lock_Table_Release (finQ PP (Try.f16.results.toList) Q) (argFr [(Value.pointer g0_t), (Value.int .i64 g1_holder)]) h = F_lock_Table_Release g0_t g1_holder h Q := by kernel_rfl
theorem O_lock_Table_Release (g0_t : Option Addr) (g1_holder : Int) {h : Hp} {Q : List Value → Hp → Prop} (H : F_lock_Table_Release g0_t g1_holder h Q) : S_lock_Table_Release g0_t g1_holder h Q :=
  fn_of_cw (hs := (fun _ => [])) (ann := A_lock_Table_Release) (args := [(Value.pointer g0_t), (Value.int .i64 g1_holder)]) mixedPP Try.func16 (c := bodyOf Try.f16) (by kernel_rfl) (by kernel_rfl) (by kernel_rfl) (Eq.mpr (E_lock_Table_Release g0_t g1_holder h Q) H)
def F_lock_Table_For (g0_t : Option Addr) (g1_holder : Int) (h : Hp) (Q : List Value → Hp → Prop) : Prop :=
S_lock_Table_waiting g0_t g1_holder h fun (vs1 : List Value) (h2 : Hp) =>
∃ s3 : ByteArray, ∃ n4 : Int, ∃ b5 : Bool, vs1 = [(Value.string s3), (Value.int .i64 n4), (Value.bool b5)] ∧
(if (!b5) = true then
  (Q [(Value.slice none 0 0)] h2) else
  (nilW g0_t fun a6 => ∃ r7 : Option Nat, rd h2 (Addr.add a6 0) = some (Value.map r7) ∧
    ∃ es8 : Array MapEntry, mapAt h2 r7 es8 ∧ KeysLike (Value.string s3) es8 ∧ ∃ p9 : Option Addr, mgetD (Value.string s3) es8 (Value.pointer none) = (Value.pointer p9) ∧
    nilW p9 fun a10 => ∃ l11 : Sl, rd h2 (Addr.add a10 1) = some (Value.slice l11.a l11.n l11.c) ∧
    nilW l11.a fun a12 => ixOk n4 l11.n (∃ n13 : Int, rd h2 (Addr.add (Addr.add a12 (Int.toNat n4 * 2)) 0) = some (Value.int .i64 n13) ∧ ∃ n14 : Int, rd h2 (Addr.add (Addr.add a12 (Int.toNat n4 * 2)) 1) = some (Value.int .i64 n14) ∧ nilW p9 fun a15 => ∃ l16 : Sl, rd h2 (Addr.add a15 1) = some (Value.slice l16.a l16.n l16.c) ∧
      (0 ≤ n4 ∧ n4 ≤ (l16.c : Nat)) ∧ S_lock_queue_bars p9 n13 n14 ⟨(slAd l16.a 0 l16.c 2), ((Int.toNat n4) - 0), (l16.c - 0)⟩ h2 fun (vs17 : List Value) (h18 : Hp) =>
      ∃ l19 : Sl, vs17 = [(Value.slice l19.a l19.n l19.c)] ∧
      Q [(Value.slice l19.a l19.n l19.c)] h18)))
def A_lock_Table_For : Ann := .nil
theorem E_lock_Table_For (g0_t : Option Addr) (g1_holder : Int) (h : Hp) (Q : List Value → Hp → Prop) : cw PP 39 (fun _ => []) (bodyOf Try.f22) A_lock_Table_For (finQ PP (Try.f22.results.toList) Q) (argFr [(Value.pointer g0_t), (Value.int .i64 g1_holder)]) h = F_lock_Table_For g0_t g1_holder h Q := by kernel_rfl
theorem O_lock_Table_For (g0_t : Option Addr) (g1_holder : Int) {h : Hp} {Q : List Value → Hp → Prop} (H : F_lock_Table_For g0_t g1_holder h Q) : S_lock_Table_For g0_t g1_holder h Q :=
  fn_of_cw (hs := (fun _ => [])) (ann := A_lock_Table_For) (args := [(Value.pointer g0_t), (Value.int .i64 g1_holder)]) mixedPP Try.func22 (c := bodyOf Try.f22) (by kernel_rfl) (by kernel_rfl) (by kernel_rfl) (Eq.mpr (E_lock_Table_For g0_t g1_holder h Q) H)
def F_liverylaw06_wakes (h : Hp) (Q : List Value → Hp → Prop) : Prop :=
S_lock_New  h fun (vs1 : List Value) (h2 : Hp) =>
∃ p3 : Option Addr, vs1 = [(Value.pointer p3)] ∧
∀ J4 : List Value → Hp → Prop, (∀ b5 : Bool, ∀ h6 : Hp, ((if b5 = true then
      (Q [(Value.bool false)] h6) else
      (S_lock_Table_For p3 (3 : Int) h6 fun (vs7 : List Value) (h8 : Hp) =>
        ∃ l9 : Sl, vs7 = [(Value.slice l9.a l9.n l9.c)] ∧
        S_lock_Table_Release p3 (1 : Int) h8 fun (vs10 : List Value) (h11 : Hp) =>
        ∃ l12 : Sl, vs10 = [(Value.slice l12.a l12.n l12.c)] ∧
        wth (Array.push h11 (Obj.cells #[(Value.int .i64 (2 : Int))] T_int)) fun h13 =>
        S_liverykeep_Ints ⟨l9.a, l9.n, l9.c⟩ ⟨(some (Addr.mk (Array.size h11) 0 none)), 1, 1⟩ h13 fun (vs14 : List Value) (h15 : Hp) =>
        ∃ b16 : Bool, vs14 = [(Value.bool b16)] ∧
        (if b16 = true then (wth (Array.push h15 (Obj.cells #[(Value.int .i64 (2 : Int))] T_int)) fun h17 =>
            S_liverykeep_Ints ⟨l12.a, l12.n, l12.c⟩ ⟨(some (Addr.mk (Array.size h15) 0 none)), 1, 1⟩ h17 fun (vs18 : List Value) (h19 : Hp) =>
            ∃ b20 : Bool, vs18 = [(Value.bool b20)] ∧
            (if b20 = true then (S_lock_Table_Modes p3 (2 : Int) (ByteArray.mk #[116]) h19 fun (vs21 : List Value) (h22 : Hp) =>
                ∃ n23 : Int, vs21 = [(Value.int .i64 n23)] ∧
                Q [(Value.bool (n23 == (32 : Int)))] h22) else
              (Q [(Value.bool false)] h19))) else
          (Q [(Value.bool false)] h15))))) → J4 [(Value.bool b5)] h6) →
(if (Option.isNone p3) = true then (J4 [(Value.bool true)] h2) else
  (S_lock_Table_Take p3 (1 : Int) (ByteArray.mk #[116]) (3 : Int) h2 fun (vs24 : List Value) (h25 : Hp) =>
    ∃ n26 : Int, vs24 = [(Value.int .i64 n26)] ∧
    (if (n26 != (0 : Int)) = true then (J4 [(Value.bool true)] h25) else
      (S_lock_Table_Take p3 (2 : Int) (ByteArray.mk #[116]) (5 : Int) h25 fun (vs27 : List Value) (h28 : Hp) =>
        ∃ n29 : Int, vs27 = [(Value.int .i64 n29)] ∧
        (if (n29 != (75 : Int)) = true then (J4 [(Value.bool true)] h28) else
          (S_lock_Table_Take p3 (3 : Int) (ByteArray.mk #[116]) (3 : Int) h28 fun (vs30 : List Value) (h31 : Hp) =>
            ∃ n32 : Int, vs30 = [(Value.int .i64 n32)] ∧
            J4 [(Value.bool (n32 != (75 : Int)))] h31))))))
def A_liverylaw06_wakes : Ann := (.mk none ⟨[], []⟩ .nil (.mk none ⟨[], []⟩ .nil (.mk none ⟨[], []⟩ (.mk none ⟨[], []⟩ (.mk (some ⟨[1], [(21, (.c .bool))]⟩) ⟨[], []⟩ .nil .nil) .nil) .nil)))
theorem E_liverylaw06_wakes (h : Hp) (Q : List Value → Hp → Prop) : cw PP 39 (fun _ => []) (bodyOf Try.f12) A_liverylaw06_wakes (finQ PP (Try.f12.results.toList) Q) (argFr []) h = F_liverylaw06_wakes h Q := by kernel_rfl
theorem O_liverylaw06_wakes {h : Hp} {Q : List Value → Hp → Prop} (H : F_liverylaw06_wakes h Q) : S_liverylaw06_wakes h Q :=
  fn_of_cw (hs := (fun _ => [])) (ann := A_liverylaw06_wakes) (args := []) mixedPP Try.func12 (c := bodyOf Try.f12) (by kernel_rfl) (by kernel_rfl) (by kernel_rfl) (Eq.mpr (E_liverylaw06_wakes h Q) H)
def F_liveryref06_Table_Set (g0_t : Option Addr) (g1_holder : Int) (g2_name : ByteArray) (h : Hp) (Q : List Value → Hp → Prop) : Prop :=
∀ X1 : List Value → Hp → Prop, (∀ n2 : Int, ∀ n3 : Int, ∀ h4 : Hp, (nilW g0_t fun a5 => ∃ l6 : Sl, rd h4 (Addr.add a5 0) = some (Value.slice l6.a l6.n l6.c) ∧
    (if (decide (n3 < (l6.n : Int))) = true then
      (∀ J7 : List Value → Hp → Prop, (∀ n8 : Int, ∀ h9 : Hp, (X1 [(Value.int .i64 n8), (Value.int .i64 (IntKind.wrap .i64 (n3 + (1 : Int))))] h9) → J7 [(Value.int .i64 n8)] h9) →
        ∀ J10 : List Value → Hp → Prop, (∀ b11 : Bool, ∀ h12 : Hp, ((if b11 = true then
              (nilW g0_t fun a13 => ∃ l14 : Sl, rd h12 (Addr.add a13 0) = some (Value.slice l14.a l14.n l14.c) ∧
                nilW l14.a fun a15 => ixOk n3 l14.n (∃ n16 : Int, rd h12 (Addr.add (Addr.add a15 (Int.toNat n3 * 3)) 2) = some (Value.int .i64 n16) ∧
                  shOk (IntKind.wrap .u64 n16) (J7 [(Value.int .i64 (iOr .i64 n2 (iShl .i64 (1 : Int) (IntKind.wrap .u64 n16))))] h12))) else
              (J7 [(Value.int .i64 n2)] h12))) → J10 [(Value.bool b11)] h12) →
        nilW g0_t fun a17 => ∃ l18 : Sl, rd h4 (Addr.add a17 0) = some (Value.slice l18.a l18.n l18.c) ∧
        nilW l18.a fun a19 => ixOk n3 l18.n (∃ n20 : Int, rd h4 (Addr.add (Addr.add a19 (Int.toNat n3 * 3)) 1) = some (Value.int .i64 n20) ∧
          (if (n20 == g1_holder) = true then (nilW g0_t fun a21 => ∃ l22 : Sl, rd h4 (Addr.add a21 0) = some (Value.slice l22.a l22.n l22.c) ∧
              nilW l22.a fun a23 => ixOk n3 l22.n (∃ s24 : ByteArray, rd h4 (Addr.add (Addr.add a23 (Int.toNat n3 * 3)) 0) = some (Value.string s24) ∧
                J10 [(Value.bool ((ByteArray.toList s24) == (ByteArray.toList g2_name)))] h4)) else
            (J10 [(Value.bool false)] h4)))) else
      (Q [(Value.int .i64 n2)] h4))) → X1 [(Value.int .i64 n2), (Value.int .i64 n3)] h4) →
X1 [(Value.int .i64 (0 : Int)), (Value.int .i64 (0 : Int))] h
def A_liveryref06_Table_Set : Ann := (.mk none ⟨[], []⟩ .nil (.mk none ⟨[], []⟩ .nil (.mk none ⟨[], []⟩ (.mk none ⟨[], []⟩ .nil (.mk none ⟨[], []⟩ (.mk none ⟨[0, 1, 2], [(7, (.c (.int .i64))), (8, (.c (.int .i64)))]⟩ (.mk none ⟨[], []⟩ .nil (.mk none ⟨[], []⟩ (.mk (some ⟨[0, 1, 2, 8], [(7, (.c (.int .i64)))]⟩) ⟨[], []⟩ (.mk none ⟨[], []⟩ (.mk (some ⟨[0, 1, 2, 7, 8], [(39, (.c .bool))]⟩) ⟨[], []⟩ .nil .nil) .nil) .nil) .nil)) .nil) .nil)) .nil)))
theorem E_liveryref06_Table_Set (g0_t : Option Addr) (g1_holder : Int) (g2_name : ByteArray) (h : Hp) (Q : List Value → Hp → Prop) : cw PP 53 (fun _ => []) (bodyOf Try.f21) A_liveryref06_Table_Set (finQ PP (Try.f21.results.toList) Q) (argFr [(Value.pointer g0_t), (Value.int .i64 g1_holder), (Value.string g2_name)]) h = F_liveryref06_Table_Set g0_t g1_holder g2_name h Q := by kernel_rfl
theorem O_liveryref06_Table_Set (g0_t : Option Addr) (g1_holder : Int) (g2_name : ByteArray) {h : Hp} {Q : List Value → Hp → Prop} (H : F_liveryref06_Table_Set g0_t g1_holder g2_name h Q) : S_liveryref06_Table_Set g0_t g1_holder g2_name h Q :=
  fn_of_cw (hs := (fun _ => [])) (ann := A_liveryref06_Table_Set) (args := [(Value.pointer g0_t), (Value.int .i64 g1_holder), (Value.string g2_name)]) mixedPP Try.func21 (c := bodyOf Try.f21) (by kernel_rfl) (by kernel_rfl) (by kernel_rfl) (Eq.mpr (E_liveryref06_Table_Set g0_t g1_holder g2_name h Q) H)
def F_liveryref05_In (g0_set : Int) (g1_m : Int) (h : Hp) (Q : List Value → Hp → Prop) : Prop :=
(if (decide (g1_m ≥ (1 : Int))) = true then ((if (decide (g1_m ≤ (8 : Int))) = true then (shOk (IntKind.wrap .u64 g1_m) (Q [(Value.bool ((iAnd .i64 (iShr .i64 g0_set (IntKind.wrap .u64 g1_m)) (1 : Int)) == (1 : Int)))] h)) else
      (Q [(Value.bool false)] h))) else
  (Q [(Value.bool false)] h))
def A_liveryref05_In : Ann := .nil
theorem E_liveryref05_In (g0_set : Int) (g1_m : Int) (h : Hp) (Q : List Value → Hp → Prop) : cw PP 19 (fun _ => []) (bodyOf Try.f29) A_liveryref05_In (finQ PP (Try.f29.results.toList) Q) (argFr [(Value.int .i64 g0_set), (Value.int .i64 g1_m)]) h = F_liveryref05_In g0_set g1_m h Q := by kernel_rfl
theorem O_liveryref05_In (g0_set : Int) (g1_m : Int) {h : Hp} {Q : List Value → Hp → Prop} (H : F_liveryref05_In g0_set g1_m h Q) : S_liveryref05_In g0_set g1_m h Q :=
  fn_of_cw (hs := (fun _ => [])) (ann := A_liveryref05_In) (args := [(Value.int .i64 g0_set), (Value.int .i64 g1_m)]) mixedPP Try.func29 (c := bodyOf Try.f29) (by kernel_rfl) (by kernel_rfl) (by kernel_rfl) (Eq.mpr (E_liveryref05_In g0_set g1_m h Q) H)
def F_liveryref06_Table_Find (g0_t : Option Addr) (g1_holder : Int) (h : Hp) (Q : List Value → Hp → Prop) : Prop :=
∀ X1 : List Value → Hp → Prop, (∀ n2 : Int, ∀ h3 : Hp, (nilW g0_t fun a4 => ∃ l5 : Sl, rd h3 (Addr.add a4 1) = some (Value.slice l5.a l5.n l5.c) ∧
    (if (decide (n2 < (l5.n : Int))) = true then
      (nilW g0_t fun a6 => ∃ l7 : Sl, rd h3 (Addr.add a6 1) = some (Value.slice l7.a l7.n l7.c) ∧
        nilW l7.a fun a8 => ixOk n2 l7.n (∃ n9 : Int, rd h3 (Addr.add (Addr.add a8 (Int.toNat n2 * 3)) 1) = some (Value.int .i64 n9) ∧
          (if (n9 == g1_holder) = true then
            (Q [(Value.int .i64 n2)] h3) else
            (X1 [(Value.int .i64 (IntKind.wrap .i64 (n2 + (1 : Int))))] h3)))) else
      (Q [(Value.int .i64 (-1 : Int))] h3))) → X1 [(Value.int .i64 n2)] h3) →
X1 [(Value.int .i64 (0 : Int))] h
def A_liveryref06_Table_Find : Ann := (.mk none ⟨[], []⟩ .nil (.mk none ⟨[], []⟩ (.mk none ⟨[], []⟩ .nil (.mk none ⟨[], []⟩ (.mk none ⟨[0, 1], [(5, (.c (.int .i64)))]⟩ .nil .nil) .nil)) .nil))
theorem E_liveryref06_Table_Find (g0_t : Option Addr) (g1_holder : Int) (h : Hp) (Q : List Value → Hp → Prop) : cw PP 26 (fun _ => []) (bodyOf Try.f34) A_liveryref06_Table_Find (finQ PP (Try.f34.results.toList) Q) (argFr [(Value.pointer g0_t), (Value.int .i64 g1_holder)]) h = F_liveryref06_Table_Find g0_t g1_holder h Q := by kernel_rfl
theorem O_liveryref06_Table_Find (g0_t : Option Addr) (g1_holder : Int) {h : Hp} {Q : List Value → Hp → Prop} (H : F_liveryref06_Table_Find g0_t g1_holder h Q) : S_liveryref06_Table_Find g0_t g1_holder h Q :=
  fn_of_cw (hs := (fun _ => [])) (ann := A_liveryref06_Table_Find) (args := [(Value.pointer g0_t), (Value.int .i64 g1_holder)]) mixedPP Try.func34 (c := bodyOf Try.f34) (by kernel_rfl) (by kernel_rfl) (by kernel_rfl) (Eq.mpr (E_liveryref06_Table_Find g0_t g1_holder h Q) H)
def F_liveryref05_bars (g0_m : Int) (h : Hp) (Q : List Value → Hp → Prop) : Prop :=
(if (g0_m == (1 : Int)) = true then
  (wth (Array.push h (Obj.cells #[(Value.int .i64 (8 : Int))] T_int)) fun h1 =>
    Q [(Value.slice (some (Addr.mk (Array.size h) 0 none)) 1 1)] h1) else
  ((if (g0_m == (2 : Int)) = true then
      (wth (Array.push h (Obj.cells #[(Value.int .i64 (7 : Int)), (Value.int .i64 (8 : Int))] T_int)) fun h2 =>
        Q [(Value.slice (some (Addr.mk (Array.size h) 0 none)) 2 2)] h2) else
      ((if (g0_m == (3 : Int)) = true then
          (wth (Array.push h (Obj.cells #[(Value.int .i64 (5 : Int)), (Value.int .i64 (6 : Int)), (Value.int .i64 (7 : Int)), (Value.int .i64 (8 : Int))] T_int)) fun h3 =>
            Q [(Value.slice (some (Addr.mk (Array.size h) 0 none)) 4 4)] h3) else
          ((if (g0_m == (4 : Int)) = true then
              (wth (Array.push h (Obj.cells #[(Value.int .i64 (4 : Int)), (Value.int .i64 (5 : Int)), (Value.int .i64 (6 : Int)), (Value.int .i64 (7 : Int)), (Value.int .i64 (8 : Int))] T_int)) fun h4 =>
                Q [(Value.slice (some (Addr.mk (Array.size h) 0 none)) 5 5)] h4) else
              ((if (g0_m == (5 : Int)) = true then
                  (wth (Array.push h (Obj.cells #[(Value.int .i64 (3 : Int)), (Value.int .i64 (4 : Int)), (Value.int .i64 (6 : Int)), (Value.int .i64 (7 : Int)), (Value.int .i64 (8 : Int))] T_int)) fun h5 =>
                    Q [(Value.slice (some (Addr.mk (Array.size h) 0 none)) 5 5)] h5) else
                  ((if (g0_m == (6 : Int)) = true then
                      (wth (Array.push h (Obj.cells #[(Value.int .i64 (3 : Int)), (Value.int .i64 (4 : Int)), (Value.int .i64 (5 : Int)), (Value.int .i64 (6 : Int)), (Value.int .i64 (7 : Int)), (Value.int .i64 (8 : Int))] T_int)) fun h6 =>
                        Q [(Value.slice (some (Addr.mk (Array.size h) 0 none)) 6 6)] h6) else
                      ((if (g0_m == (7 : Int)) = true then
                          (wth (Array.push h (Obj.cells #[(Value.int .i64 (2 : Int)), (Value.int .i64 (3 : Int)), (Value.int .i64 (4 : Int)), (Value.int .i64 (5 : Int)), (Value.int .i64 (6 : Int)), (Value.int .i64 (7 : Int)), (Value.int .i64 (8 : Int))] T_int)) fun h7 =>
                            Q [(Value.slice (some (Addr.mk (Array.size h) 0 none)) 7 7)] h7) else
                          ((if (g0_m == (8 : Int)) = true then
                              (wth (Array.push h (Obj.cells #[(Value.int .i64 (1 : Int)), (Value.int .i64 (2 : Int)), (Value.int .i64 (3 : Int)), (Value.int .i64 (4 : Int)), (Value.int .i64 (5 : Int)), (Value.int .i64 (6 : Int)), (Value.int .i64 (7 : Int)), (Value.int .i64 (8 : Int))] T_int)) fun h8 =>
                                Q [(Value.slice (some (Addr.mk (Array.size h) 0 none)) 8 8)] h8) else
                              (Q [(Value.slice none 0 0)] h))))))))))))))))
def A_liveryref05_bars : Ann := .nil
theorem E_liveryref05_bars (g0_m : Int) (h : Hp) (Q : List Value → Hp → Prop) : cw PP 28 (fun _ => []) (bodyOf Try.f44) A_liveryref05_bars (finQ PP (Try.f44.results.toList) Q) (argFr [(Value.int .i64 g0_m)]) h = F_liveryref05_bars g0_m h Q := by kernel_rfl
theorem O_liveryref05_bars (g0_m : Int) {h : Hp} {Q : List Value → Hp → Prop} (H : F_liveryref05_bars g0_m h Q) : S_liveryref05_bars g0_m h Q :=
  fn_of_cw (hs := (fun _ => [])) (ann := A_liveryref05_bars) (args := [(Value.int .i64 g0_m)]) mixedPP Try.func44 (c := bodyOf Try.f44) (by kernel_rfl) (by kernel_rfl) (by kernel_rfl) (Eq.mpr (E_liveryref05_bars g0_m h Q) H)
def F_liveryref05_Bars (g0_a : Int) (g1_b : Int) (h : Hp) (Q : List Value → Hp → Prop) : Prop :=
S_liveryref05_bars g0_a h fun (vs1 : List Value) (h2 : Hp) =>
∃ l3 : Sl, vs1 = [(Value.slice l3.a l3.n l3.c)] ∧
∀ X4 : List Value → Hp → Prop, (∀ n5 : Int, ∀ h6 : Hp, ((if (decide (n5 < (l3.n : Int))) = true then
      (nilW l3.a fun a7 => ixOk n5 l3.n (∃ n8 : Int, rd h6 (Addr.add a7 (Int.toNat n5 * 1)) = some (Value.int .i64 n8) ∧
          (if (n8 == g1_b) = true then
            (Q [(Value.bool true)] h6) else
            (X4 [(Value.int .i64 (IntKind.wrap .i64 (n5 + (1 : Int))))] h6)))) else
      (Q [(Value.bool false)] h6))) → X4 [(Value.int .i64 n5)] h6) →
X4 [(Value.int .i64 (0 : Int))] h2
def A_liveryref05_Bars : Ann := (.mk none ⟨[], []⟩ .nil (.mk none ⟨[], []⟩ .nil (.mk none ⟨[], []⟩ (.mk none ⟨[], []⟩ .nil (.mk none ⟨[], []⟩ (.mk none ⟨[1, 5], [(6, (.c (.int .i64)))]⟩ .nil .nil) .nil)) .nil)))
theorem E_liveryref05_Bars (g0_a : Int) (g1_b : Int) (h : Hp) (Q : List Value → Hp → Prop) : cw PP 21 (fun _ => []) (bodyOf Try.f30) A_liveryref05_Bars (finQ PP (Try.f30.results.toList) Q) (argFr [(Value.int .i64 g0_a), (Value.int .i64 g1_b)]) h = F_liveryref05_Bars g0_a g1_b h Q := by kernel_rfl
theorem O_liveryref05_Bars (g0_a : Int) (g1_b : Int) {h : Hp} {Q : List Value → Hp → Prop} (H : F_liveryref05_Bars g0_a g1_b h Q) : S_liveryref05_Bars g0_a g1_b h Q :=
  fn_of_cw (hs := (fun _ => [])) (ann := A_liveryref05_Bars) (args := [(Value.int .i64 g0_a), (Value.int .i64 g1_b)]) mixedPP Try.func30 (c := bodyOf Try.f30) (by kernel_rfl) (by kernel_rfl) (by kernel_rfl) (Eq.mpr (E_liveryref05_Bars g0_a g1_b h Q) H)
def F_liveryref06_put (g0_l : Sl) (g1_n : Int) (h : Hp) (Q : List Value → Hp → Prop) : Prop :=
∀ X1 : List Value → Hp → Prop, (∀ n2 : Int, ∀ h3 : Hp, (∀ J4 : List Value → Hp → Prop, (∀ b5 : Bool, ∀ h6 : Hp, ((if b5 = true then
          (X1 [(Value.int .i64 (IntKind.wrap .i64 (n2 + (1 : Int))))] h6) else
          (∀ J7 : List Value → Hp → Prop, (∀ b8 : Bool, ∀ h9 : Hp, ((if b8 = true then
                  (Q [(Value.slice g0_l.a g0_l.n g0_l.c)] h9) else
                  ((0 ≤ n2 ∧ n2 ≤ (g0_l.c : Nat)) ∧ (0 ≤ n2 ∧ n2 ≤ (g0_l.n : Nat)) ∧ (wth (Array.push h9 (Obj.cells #[] T_int)) fun h10 =>
                      (∃ cs20 : List Value, cellsAt h10 (slAd g0_l.a 0 g0_l.c 1) (((Int.toNat n2) - 0) * 1) cs20 ∧ appS PP T_int 8 1 h10 ⟨(some (Addr.mk (Array.size h9) 0 none)), 0, 0⟩ ((Int.toNat n2) - 0) cs20 fun (l11 : Sl) (h12 : Hp) =>
                        wth (Array.push h12 (Obj.cells #[(Value.int .i64 g1_n)] T_int)) fun h13 =>
                        ∃ cs19 : List Value, cellsAt h13 (some (Addr.mk (Array.size h12) 0 none)) (1 * 1) cs19 ∧ appS PP T_int 8 1 h13 ⟨l11.a, l11.n, l11.c⟩ 1 cs19 fun (l14 : Sl) (h15 : Hp) =>
                        ∃ cs18 : List Value, cellsAt h15 (slAd g0_l.a (Int.toNat n2) g0_l.c 1) ((g0_l.n - (Int.toNat n2)) * 1) cs18 ∧ appS PP T_int 8 1 h15 ⟨l14.a, l14.n, l14.c⟩ (g0_l.n - (Int.toNat n2)) cs18 fun (l16 : Sl) (h17 : Hp) =>
                        Q [(Value.slice l16.a l16.n l16.c)] h17) ∧
                      (wth (Array.push h10 (Obj.cells #[(Value.int .i64 g1_n)] T_int)) fun h21 =>
                        ∃ cs30 : List Value, cellsAt h21 (slAd g0_l.a 0 g0_l.c 1) (((Int.toNat n2) - 0) * 1) cs30 ∧ appS PP T_int 8 1 h21 ⟨(some (Addr.mk (Array.size h9) 0 none)), 0, 0⟩ ((Int.toNat n2) - 0) cs30 fun (l22 : Sl) (h23 : Hp) =>
                        ∃ cs29 : List Value, cellsAt h23 (some (Addr.mk (Array.size h10) 0 none)) (1 * 1) cs29 ∧ appS PP T_int 8 1 h23 ⟨l22.a, l22.n, l22.c⟩ 1 cs29 fun (l24 : Sl) (h25 : Hp) =>
                        ∃ cs28 : List Value, cellsAt h25 (slAd g0_l.a (Int.toNat n2) g0_l.c 1) ((g0_l.n - (Int.toNat n2)) * 1) cs28 ∧ appS PP T_int 8 1 h25 ⟨l24.a, l24.n, l24.c⟩ (g0_l.n - (Int.toNat n2)) cs28 fun (l26 : Sl) (h27 : Hp) =>
                        Q [(Value.slice l26.a l26.n l26.c)] h27)) ∧
                    (wth (Array.push h9 (Obj.cells #[(Value.int .i64 g1_n)] T_int)) fun h31 =>
                      wth (Array.push h31 (Obj.cells #[] T_int)) fun h32 =>
                      ∃ cs41 : List Value, cellsAt h32 (slAd g0_l.a 0 g0_l.c 1) (((Int.toNat n2) - 0) * 1) cs41 ∧ appS PP T_int 8 1 h32 ⟨(some (Addr.mk (Array.size h31) 0 none)), 0, 0⟩ ((Int.toNat n2) - 0) cs41 fun (l33 : Sl) (h34 : Hp) =>
                      ∃ cs40 : List Value, cellsAt h34 (some (Addr.mk (Array.size h9) 0 none)) (1 * 1) cs40 ∧ appS PP T_int 8 1 h34 ⟨l33.a, l33.n, l33.c⟩ 1 cs40 fun (l35 : Sl) (h36 : Hp) =>
                      ∃ cs39 : List Value, cellsAt h36 (slAd g0_l.a (Int.toNat n2) g0_l.c 1) ((g0_l.n - (Int.toNat n2)) * 1) cs39 ∧ appS PP T_int 8 1 h36 ⟨l35.a, l35.n, l35.c⟩ (g0_l.n - (Int.toNat n2)) cs39 fun (l37 : Sl) (h38 : Hp) =>
                      Q [(Value.slice l37.a l37.n l37.c)] h38)))) → J7 [(Value.bool b8)] h9) →
            (if (decide (n2 < (g0_l.n : Int))) = true then (nilW g0_l.a fun a42 => ixOk n2 g0_l.n (∃ n43 : Int, rd h6 (Addr.add a42 (Int.toNat n2 * 1)) = some (Value.int .i64 n43) ∧
                  J7 [(Value.bool (n43 == g1_n))] h6)) else
              (J7 [(Value.bool false)] h6))))) → J4 [(Value.bool b5)] h6) →
    (if (decide (n2 < (g0_l.n : Int))) = true then (nilW g0_l.a fun a44 => ixOk n2 g0_l.n (∃ n45 : Int, rd h3 (Addr.add a44 (Int.toNat n2 * 1)) = some (Value.int .i64 n45) ∧
          J4 [(Value.bool (decide (n45 < g1_n)))] h3)) else
      (J4 [(Value.bool false)] h3))) → X1 [(Value.int .i64 n2)] h3) →
X1 [(Value.int .i64 (0 : Int))] h
def A_liveryref06_put : Ann := (.mk none ⟨[], []⟩ .nil (.mk none ⟨[], []⟩ .nil (.mk none ⟨[], []⟩ (.mk none ⟨[], []⟩ (.mk none ⟨[0, 1], [(5, (.c (.int .i64)))]⟩ (.mk none ⟨[], []⟩ (.mk none ⟨[], []⟩ (.mk (some ⟨[0, 1, 5], [(17, (.c .bool))]⟩) ⟨[], []⟩ .nil .nil) .nil) .nil) .nil) .nil) (.mk none ⟨[], []⟩ (.mk none ⟨[], []⟩ (.mk (some ⟨[0, 1, 5], [(31, (.c .bool))]⟩) ⟨[], []⟩ .nil .nil) .nil) .nil))))
theorem E_liveryref06_put (g0_l : Sl) (g1_n : Int) (h : Hp) (Q : List Value → Hp → Prop) : cw PP 45 (fun _ => []) (bodyOf Try.f51) A_liveryref06_put (finQ PP (Try.f51.results.toList) Q) (argFr [(Value.slice g0_l.a g0_l.n g0_l.c), (Value.int .i64 g1_n)]) h = F_liveryref06_put g0_l g1_n h Q := by kernel_rfl
theorem O_liveryref06_put (g0_l : Sl) (g1_n : Int) {h : Hp} {Q : List Value → Hp → Prop} (H : F_liveryref06_put g0_l g1_n h Q) : S_liveryref06_put g0_l g1_n h Q :=
  fn_of_cw (hs := (fun _ => [])) (ann := A_liveryref06_put) (args := [(Value.slice g0_l.a g0_l.n g0_l.c), (Value.int .i64 g1_n)]) mixedPP Try.func51 (c := bodyOf Try.f51) (by kernel_rfl) (by kernel_rfl) (by kernel_rfl) (Eq.mpr (E_liveryref06_put g0_l g1_n h Q) H)
def F_liveryref06_Table_bars (g0_t : Option Addr) (g1_x_0 : ByteArray) (g1_x_1 : Int) (g1_x_2 : Int) (g2_at : Int) (h : Hp) (Q : List Value → Hp → Prop) : Prop :=
wth (Array.push h (Obj.cells #[(Value.string g1_x_0), (Value.int .i64 g1_x_1), (Value.int .i64 g1_x_2)] T_liveryref06_held)) fun h1 =>
∀ X2 : List Value → Hp → Prop, (∀ l3 : Sl, ∀ n4 : Int, ∀ h5 : Hp, (nilW g0_t fun a6 => ∃ l7 : Sl, rd h5 (Addr.add a6 0) = some (Value.slice l7.a l7.n l7.c) ∧
    (if (decide (n4 < (l7.n : Int))) = true then
      (∀ J8 : List Value → Hp → Prop, (∀ l9 : Sl, ∀ h10 : Hp, (X2 [(Value.slice l9.a l9.n l9.c), (Value.int .i64 (IntKind.wrap .i64 (n4 + (1 : Int))))] h10) → J8 [(Value.slice l9.a l9.n l9.c)] h10) →
        nilW g0_t fun a11 => ∃ l12 : Sl, rd h5 (Addr.add a11 0) = some (Value.slice l12.a l12.n l12.c) ∧
        nilW l12.a fun a13 => ixOk n4 l12.n (∃ s14 : ByteArray, rd h5 (Addr.add (Addr.add a13 (Int.toNat n4 * 3)) 0) = some (Value.string s14) ∧ ∃ n15 : Int, rd h5 (Addr.add (Addr.add a13 (Int.toNat n4 * 3)) 1) = some (Value.int .i64 n15) ∧ ∃ n16 : Int, rd h5 (Addr.add (Addr.add a13 (Int.toNat n4 * 3)) 2) = some (Value.int .i64 n16) ∧ wth (Array.push h5 (Obj.cells #[(Value.string (ByteArray.mk #[])), (Value.int .i64 (0 : Int)), (Value.int .i64 (0 : Int))] T_liveryref06_held)) fun h17 =>
          stOk h17 (Addr.mk (Array.size h5) 0 none) 3 ∧ wth (wrs h17 (Addr.mk (Array.size h5) 0 none) 0 [(Value.string s14), (Value.int .i64 n15), (Value.int .i64 n16)]) fun h18 =>
          ∀ J19 : List Value → Hp → Prop, (∀ b20 : Bool, ∀ h21 : Hp, ((if b20 = true then
                (∃ n22 : Int, rd h21 (Addr.add (Addr.mk (Array.size h5) 0 none) 1) = some (Value.int .i64 n22) ∧
                  S_liveryref06_put ⟨l3.a, l3.n, l3.c⟩ n22 h21 fun (vs23 : List Value) (h24 : Hp) =>
                  ∃ l25 : Sl, vs23 = [(Value.slice l25.a l25.n l25.c)] ∧
                  J8 [(Value.slice l25.a l25.n l25.c)] h24) else
                (J8 [(Value.slice l3.a l3.n l3.c)] h21))) → J19 [(Value.bool b20)] h21) →
          ∃ s26 : ByteArray, rd h18 (Addr.add (Addr.mk (Array.size h5) 0 none) 0) = some (Value.string s26) ∧
          ∃ s27 : ByteArray, rd h18 (Addr.add (Addr.mk (Array.size h) 0 none) 0) = some (Value.string s27) ∧
          (if ((ByteArray.toList s26) == (ByteArray.toList s27)) = true then (∃ n28 : Int, rd h18 (Addr.add (Addr.mk (Array.size h5) 0 none) 1) = some (Value.int .i64 n28) ∧
              ∃ n29 : Int, rd h18 (Addr.add (Addr.mk (Array.size h) 0 none) 1) = some (Value.int .i64 n29) ∧
              (if (n28 != n29) = true then (∃ n30 : Int, rd h18 (Addr.add (Addr.mk (Array.size h5) 0 none) 2) = some (Value.int .i64 n30) ∧
                  ∃ n31 : Int, rd h18 (Addr.add (Addr.mk (Array.size h) 0 none) 2) = some (Value.int .i64 n31) ∧
                  S_liveryref05_Bars n30 n31 h18 fun (vs32 : List Value) (h33 : Hp) =>
                  ∃ b34 : Bool, vs32 = [(Value.bool b34)] ∧
                  J19 [(Value.bool b34)] h33) else
                (J19 [(Value.bool false)] h18))) else
            (J19 [(Value.bool false)] h18)))) else
      (∃ n35 : Int, rd h5 (Addr.add (Addr.mk (Array.size h) 0 none) 1) = some (Value.int .i64 n35) ∧
        ∃ s36 : ByteArray, rd h5 (Addr.add (Addr.mk (Array.size h) 0 none) 0) = some (Value.string s36) ∧
        S_liveryref06_Table_Set g0_t n35 s36 h5 fun (vs37 : List Value) (h38 : Hp) =>
        ∃ n39 : Int, vs37 = [(Value.int .i64 n39)] ∧
        (if (n39 != (0 : Int)) = true then
          (Q [(Value.slice l3.a l3.n l3.c)] h38) else
          (∀ X40 : List Value → Hp → Prop, (∀ l41 : Sl, ∀ n42 : Int, ∀ h43 : Hp, ((if (decide (n42 < g2_at)) = true then
                  (∀ J44 : List Value → Hp → Prop, (∀ l45 : Sl, ∀ h46 : Hp, (X40 [(Value.slice l45.a l45.n l45.c), (Value.int .i64 (IntKind.wrap .i64 (n42 + (1 : Int))))] h46) → J44 [(Value.slice l45.a l45.n l45.c)] h46) →
                    nilW g0_t fun a47 => ∃ l48 : Sl, rd h43 (Addr.add a47 1) = some (Value.slice l48.a l48.n l48.c) ∧
                    nilW l48.a fun a49 => ixOk n42 l48.n (∃ s50 : ByteArray, rd h43 (Addr.add (Addr.add a49 (Int.toNat n42 * 3)) 0) = some (Value.string s50) ∧ ∃ n51 : Int, rd h43 (Addr.add (Addr.add a49 (Int.toNat n42 * 3)) 1) = some (Value.int .i64 n51) ∧ ∃ n52 : Int, rd h43 (Addr.add (Addr.add a49 (Int.toNat n42 * 3)) 2) = some (Value.int .i64 n52) ∧ wth (Array.push h43 (Obj.cells #[(Value.string (ByteArray.mk #[])), (Value.int .i64 (0 : Int)), (Value.int .i64 (0 : Int))] T_liveryref06_held)) fun h53 =>
                      stOk h53 (Addr.mk (Array.size h43) 0 none) 3 ∧ wth (wrs h53 (Addr.mk (Array.size h43) 0 none) 0 [(Value.string s50), (Value.int .i64 n51), (Value.int .i64 n52)]) fun h54 =>
                      ∀ J55 : List Value → Hp → Prop, (∀ b56 : Bool, ∀ h57 : Hp, ((if b56 = true then
                            (∃ n58 : Int, rd h57 (Addr.add (Addr.mk (Array.size h43) 0 none) 1) = some (Value.int .i64 n58) ∧
                              S_liveryref06_put ⟨l41.a, l41.n, l41.c⟩ n58 h57 fun (vs59 : List Value) (h60 : Hp) =>
                              ∃ l61 : Sl, vs59 = [(Value.slice l61.a l61.n l61.c)] ∧
                              J44 [(Value.slice l61.a l61.n l61.c)] h60) else
                            (J44 [(Value.slice l41.a l41.n l41.c)] h57))) → J55 [(Value.bool b56)] h57) →
                      ∃ s62 : ByteArray, rd h54 (Addr.add (Addr.mk (Array.size h43) 0 none) 0) = some (Value.string s62) ∧
                      ∃ s63 : ByteArray, rd h54 (Addr.add (Addr.mk (Array.size h) 0 none) 0) = some (Value.string s63) ∧
                      (if ((ByteArray.toList s62) == (ByteArray.toList s63)) = true then (∃ n64 : Int, rd h54 (Addr.add (Addr.mk (Array.size h43) 0 none) 1) = some (Value.int .i64 n64) ∧
                          ∃ n65 : Int, rd h54 (Addr.add (Addr.mk (Array.size h) 0 none) 1) = some (Value.int .i64 n65) ∧
                          (if (n64 != n65) = true then (∃ n66 : Int, rd h54 (Addr.add (Addr.mk (Array.size h43) 0 none) 2) = some (Value.int .i64 n66) ∧
                              ∃ n67 : Int, rd h54 (Addr.add (Addr.mk (Array.size h) 0 none) 2) = some (Value.int .i64 n67) ∧
                              S_liveryref05_Bars n66 n67 h54 fun (vs68 : List Value) (h69 : Hp) =>
                              ∃ b70 : Bool, vs68 = [(Value.bool b70)] ∧
                              J55 [(Value.bool b70)] h69) else
                            (J55 [(Value.bool false)] h54))) else
                        (J55 [(Value.bool false)] h54)))) else
                  (Q [(Value.slice l41.a l41.n l41.c)] h43))) → X40 [(Value.slice l41.a l41.n l41.c), (Value.int .i64 n42)] h43) →
            X40 [(Value.slice l3.a l3.n l3.c), (Value.int .i64 (0 : Int))] h38))))) → X2 [(Value.slice l3.a l3.n l3.c), (Value.int .i64 n4)] h5) →
X2 [(Value.slice none 0 0), (Value.int .i64 (0 : Int))] h1
def A_liveryref06_Table_bars : Ann := (.mk none ⟨[], []⟩ .nil (.mk none ⟨[], []⟩ .nil (.mk none ⟨[], []⟩ (.mk none ⟨[], []⟩ .nil (.mk none ⟨[], []⟩ (.mk none ⟨[0, 2, 4], [(7, (.c .sl)), (8, (.c (.int .i64)))]⟩ (.mk none ⟨[], []⟩ .nil (.mk none ⟨[], []⟩ (.mk (some ⟨[0, 2, 4, 8], [(7, (.c .sl))]⟩) ⟨[], []⟩ (.mk none ⟨[], []⟩ .nil (.mk none ⟨[], []⟩ (.mk (some ⟨[0, 2, 4, 7, 8, 9], [(46, (.c .bool))]⟩) ⟨[], []⟩ .nil .nil) .nil)) .nil) .nil)) .nil) .nil)) (.mk none ⟨[], []⟩ .nil (.mk none ⟨[], []⟩ (.mk none ⟨[], []⟩ .nil (.mk none ⟨[], []⟩ (.mk none ⟨[0, 2, 4], [(7, (.c .sl)), (10, (.c (.int .i64)))]⟩ (.mk none ⟨[], []⟩ .nil (.mk none ⟨[], []⟩ (.mk (some ⟨[0, 2, 4, 10], [(7, (.c .sl))]⟩) ⟨[], []⟩ (.mk none ⟨[], []⟩ .nil (.mk none ⟨[], []⟩ (.mk (some ⟨[0, 2, 4, 7, 10, 11], [(89, (.c .bool))]⟩) ⟨[], []⟩ .nil .nil) .nil)) .nil) .nil)) .nil) .nil)) .nil)))))
theorem E_liveryref06_Table_bars (g0_t : Option Addr) (g1_x_0 : ByteArray) (g1_x_1 : Int) (g1_x_2 : Int) (g2_at : Int) (h : Hp) (Q : List Value → Hp → Prop) : cw PP 95 (fun _ => []) (bodyOf Try.f35) A_liveryref06_Table_bars (finQ PP (Try.f35.results.toList) Q) (argFr [(Value.pointer g0_t), (Value.agg #[(Value.string g1_x_0), (Value.int .i64 g1_x_1), (Value.int .i64 g1_x_2)]), (Value.int .i64 g2_at)]) h = F_liveryref06_Table_bars g0_t g1_x_0 g1_x_1 g1_x_2 g2_at h Q := by kernel_rfl
theorem O_liveryref06_Table_bars (g0_t : Option Addr) (g1_x_0 : ByteArray) (g1_x_1 : Int) (g1_x_2 : Int) (g2_at : Int) {h : Hp} {Q : List Value → Hp → Prop} (H : F_liveryref06_Table_bars g0_t g1_x_0 g1_x_1 g1_x_2 g2_at h Q) : S_liveryref06_Table_bars g0_t g1_x_0 g1_x_1 g1_x_2 g2_at h Q :=
  fn_of_cw (hs := (fun _ => [])) (ann := A_liveryref06_Table_bars) (args := [(Value.pointer g0_t), (Value.agg #[(Value.string g1_x_0), (Value.int .i64 g1_x_1), (Value.int .i64 g1_x_2)]), (Value.int .i64 g2_at)]) mixedPP Try.func35 (c := bodyOf Try.f35) (by kernel_rfl) (by kernel_rfl) (by kernel_rfl) (Eq.mpr (E_liveryref06_Table_bars g0_t g1_x_0 g1_x_1 g1_x_2 g2_at h Q) H)
def F_liveryref06_Table_Take (g0_t : Option Addr) (g1_holder : Int) (g2_name : ByteArray) (g3_m : Int) (h : Hp) (Q : List Value → Hp → Prop) : Prop :=
∀ J1 : List Value → Hp → Prop, (∀ b2 : Bool, ∀ h3 : Hp, ((if b2 = true then
      (Q [(Value.int .i64 (1 : Int))] h3) else
      (S_liveryref06_Table_Find g0_t g1_holder h3 fun (vs4 : List Value) (h5 : Hp) =>
        ∃ n6 : Int, vs4 = [(Value.int .i64 n6)] ∧
        (if (decide (n6 ≥ (0 : Int))) = true then
          (Q [(Value.int .i64 (76 : Int))] h5) else
          (S_liveryref06_Table_Set g0_t g1_holder g2_name h5 fun (vs7 : List Value) (h8 : Hp) =>
            ∃ n9 : Int, vs7 = [(Value.int .i64 n9)] ∧
            S_liveryref05_In n9 g3_m h8 fun (vs10 : List Value) (h11 : Hp) =>
            ∃ b12 : Bool, vs10 = [(Value.bool b12)] ∧
            (if b12 = true then
              (Q [(Value.int .i64 (0 : Int))] h11) else
              (wth (Array.push h11 (Obj.cells #[(Value.string (ByteArray.mk #[])), (Value.int .i64 (0 : Int)), (Value.int .i64 (0 : Int))] T_liveryref06_held)) fun h13 =>
                stOk h13 (Addr.mk (Array.size h11) 0 none) 3 ∧ wth (wrs h13 (Addr.mk (Array.size h11) 0 none) 0 [(Value.string g2_name), (Value.int .i64 g1_holder), (Value.int .i64 g3_m)]) fun h14 =>
                ∃ s15 : ByteArray, rd h14 (Addr.add (Addr.mk (Array.size h11) 0 none) 0) = some (Value.string s15) ∧ ∃ n16 : Int, rd h14 (Addr.add (Addr.mk (Array.size h11) 0 none) 1) = some (Value.int .i64 n16) ∧ ∃ n17 : Int, rd h14 (Addr.add (Addr.mk (Array.size h11) 0 none) 2) = some (Value.int .i64 n17) ∧ nilW g0_t fun a18 => ∃ l19 : Sl, rd h14 (Addr.add a18 1) = some (Value.slice l19.a l19.n l19.c) ∧
                S_liveryref06_Table_bars g0_t s15 n16 n17 (l19.n : Int) h14 fun (vs20 : List Value) (h21 : Hp) =>
                ∃ l22 : Sl, vs20 = [(Value.slice l22.a l22.n l22.c)] ∧
                (if (decide ((l22.n : Int) > (0 : Int))) = true then
                  (∀ J23 : List Value → Hp → Prop, (∀ h24 : Hp, (Q [(Value.int .i64 (75 : Int))] h24) → J23 [] h24) →
                    nilW g0_t fun a25 => ∃ l26 : Sl, rd h21 (Addr.add a25 1) = some (Value.slice l26.a l26.n l26.c) ∧
                    ∃ s27 : ByteArray, rd h21 (Addr.add (Addr.mk (Array.size h11) 0 none) 0) = some (Value.string s27) ∧ ∃ n28 : Int, rd h21 (Addr.add (Addr.mk (Array.size h11) 0 none) 1) = some (Value.int .i64 n28) ∧ ∃ n29 : Int, rd h21 (Addr.add (Addr.mk (Array.size h11) 0 none) 2) = some (Value.int .i64 n29) ∧ (wth (Array.push h21 (Obj.cells #[] T_liveryref06_held)) fun h30 =>
                      rd h30 (Addr.add (Addr.mk (Array.size h11) 0 none) 0) = some (Value.string s27) ∧ rd h30 (Addr.add (Addr.mk (Array.size h11) 0 none) 1) = some (Value.int .i64 n28) ∧ rd h30 (Addr.add (Addr.mk (Array.size h11) 0 none) 2) = some (Value.int .i64 n29) ∧ rd h30 (Addr.add a25 1) = some (Value.slice l26.a l26.n l26.c) ∧ (∃ cs39 : List Value, cellsAt h30 l26.a (l26.n * 3) cs39 ∧ appS PP T_liveryref06_held 32 3 h30 ⟨(some (Addr.mk (Array.size h21) 0 none)), 0, 0⟩ l26.n cs39 fun (l31 : Sl) (h32 : Hp) =>
                        rd h32 (Addr.add (Addr.mk (Array.size h11) 0 none) 0) = some (Value.string s27) ∧ rd h32 (Addr.add (Addr.mk (Array.size h11) 0 none) 1) = some (Value.int .i64 n28) ∧ rd h32 (Addr.add (Addr.mk (Array.size h11) 0 none) 2) = some (Value.int .i64 n29) ∧ wth (Array.push h32 (Obj.cells #[(Value.string s27), (Value.int .i64 n28), (Value.int .i64 n29)] T_liveryref06_held)) fun h33 =>
                        ∃ cs38 : List Value, cellsAt h33 (some (Addr.mk (Array.size h32) 0 none)) (1 * 3) cs38 ∧ appS PP T_liveryref06_held 32 3 h33 ⟨l31.a, l31.n, l31.c⟩ 1 cs38 fun (l34 : Sl) (h35 : Hp) =>
                        nilW g0_t fun a36 => stOk h35 (Addr.add a36 1) 1 ∧ wth (wrs h35 (Addr.add a36 1) 0 [(Value.slice l34.a l34.n l34.c)]) fun h37 =>
                        J23 [] h37) ∧
                      (wth (Array.push h30 (Obj.cells #[(Value.string s27), (Value.int .i64 n28), (Value.int .i64 n29)] T_liveryref06_held)) fun h40 =>
                        rd h40 (Addr.add a25 1) = some (Value.slice l26.a l26.n l26.c) ∧ ∃ cs48 : List Value, cellsAt h40 l26.a (l26.n * 3) cs48 ∧ appS PP T_liveryref06_held 32 3 h40 ⟨(some (Addr.mk (Array.size h21) 0 none)), 0, 0⟩ l26.n cs48 fun (l41 : Sl) (h42 : Hp) =>
                        ∃ cs47 : List Value, cellsAt h42 (some (Addr.mk (Array.size h30) 0 none)) (1 * 3) cs47 ∧ appS PP T_liveryref06_held 32 3 h42 ⟨l41.a, l41.n, l41.c⟩ 1 cs47 fun (l43 : Sl) (h44 : Hp) =>
                        nilW g0_t fun a45 => stOk h44 (Addr.add a45 1) 1 ∧ wth (wrs h44 (Addr.add a45 1) 0 [(Value.slice l43.a l43.n l43.c)]) fun h46 =>
                        J23 [] h46)) ∧
                    (wth (Array.push h21 (Obj.cells #[(Value.string s27), (Value.int .i64 n28), (Value.int .i64 n29)] T_liveryref06_held)) fun h49 =>
                      rd h49 (Addr.add a25 1) = some (Value.slice l26.a l26.n l26.c) ∧ wth (Array.push h49 (Obj.cells #[] T_liveryref06_held)) fun h50 =>
                      rd h50 (Addr.add a25 1) = some (Value.slice l26.a l26.n l26.c) ∧ ∃ cs58 : List Value, cellsAt h50 l26.a (l26.n * 3) cs58 ∧ appS PP T_liveryref06_held 32 3 h50 ⟨(some (Addr.mk (Array.size h49) 0 none)), 0, 0⟩ l26.n cs58 fun (l51 : Sl) (h52 : Hp) =>
                      ∃ cs57 : List Value, cellsAt h52 (some (Addr.mk (Array.size h21) 0 none)) (1 * 3) cs57 ∧ appS PP T_liveryref06_held 32 3 h52 ⟨l51.a, l51.n, l51.c⟩ 1 cs57 fun (l53 : Sl) (h54 : Hp) =>
                      nilW g0_t fun a55 => stOk h54 (Addr.add a55 1) 1 ∧ wth (wrs h54 (Addr.add a55 1) 0 [(Value.slice l53.a l53.n l53.c)]) fun h56 =>
                      J23 [] h56)) else
                  (∀ J59 : List Value → Hp → Prop, (∀ h60 : Hp, (Q [(Value.int .i64 (0 : Int))] h60) → J59 [] h60) →
                    nilW g0_t fun a61 => ∃ l62 : Sl, rd h21 (Addr.add a61 0) = some (Value.slice l62.a l62.n l62.c) ∧
                    ∃ s63 : ByteArray, rd h21 (Addr.add (Addr.mk (Array.size h11) 0 none) 0) = some (Value.string s63) ∧ ∃ n64 : Int, rd h21 (Addr.add (Addr.mk (Array.size h11) 0 none) 1) = some (Value.int .i64 n64) ∧ ∃ n65 : Int, rd h21 (Addr.add (Addr.mk (Array.size h11) 0 none) 2) = some (Value.int .i64 n65) ∧ (wth (Array.push h21 (Obj.cells #[] T_liveryref06_held)) fun h66 =>
                      rd h66 (Addr.add (Addr.mk (Array.size h11) 0 none) 0) = some (Value.string s63) ∧ rd h66 (Addr.add (Addr.mk (Array.size h11) 0 none) 1) = some (Value.int .i64 n64) ∧ rd h66 (Addr.add (Addr.mk (Array.size h11) 0 none) 2) = some (Value.int .i64 n65) ∧ rd h66 (Addr.add a61 0) = some (Value.slice l62.a l62.n l62.c) ∧ (∃ cs75 : List Value, cellsAt h66 l62.a (l62.n * 3) cs75 ∧ appS PP T_liveryref06_held 32 3 h66 ⟨(some (Addr.mk (Array.size h21) 0 none)), 0, 0⟩ l62.n cs75 fun (l67 : Sl) (h68 : Hp) =>
                        rd h68 (Addr.add (Addr.mk (Array.size h11) 0 none) 0) = some (Value.string s63) ∧ rd h68 (Addr.add (Addr.mk (Array.size h11) 0 none) 1) = some (Value.int .i64 n64) ∧ rd h68 (Addr.add (Addr.mk (Array.size h11) 0 none) 2) = some (Value.int .i64 n65) ∧ wth (Array.push h68 (Obj.cells #[(Value.string s63), (Value.int .i64 n64), (Value.int .i64 n65)] T_liveryref06_held)) fun h69 =>
                        ∃ cs74 : List Value, cellsAt h69 (some (Addr.mk (Array.size h68) 0 none)) (1 * 3) cs74 ∧ appS PP T_liveryref06_held 32 3 h69 ⟨l67.a, l67.n, l67.c⟩ 1 cs74 fun (l70 : Sl) (h71 : Hp) =>
                        nilW g0_t fun a72 => stOk h71 (Addr.add a72 0) 1 ∧ wth (wrs h71 (Addr.add a72 0) 0 [(Value.slice l70.a l70.n l70.c)]) fun h73 =>
                        J59 [] h73) ∧
                      (wth (Array.push h66 (Obj.cells #[(Value.string s63), (Value.int .i64 n64), (Value.int .i64 n65)] T_liveryref06_held)) fun h76 =>
                        rd h76 (Addr.add a61 0) = some (Value.slice l62.a l62.n l62.c) ∧ ∃ cs84 : List Value, cellsAt h76 l62.a (l62.n * 3) cs84 ∧ appS PP T_liveryref06_held 32 3 h76 ⟨(some (Addr.mk (Array.size h21) 0 none)), 0, 0⟩ l62.n cs84 fun (l77 : Sl) (h78 : Hp) =>
                        ∃ cs83 : List Value, cellsAt h78 (some (Addr.mk (Array.size h66) 0 none)) (1 * 3) cs83 ∧ appS PP T_liveryref06_held 32 3 h78 ⟨l77.a, l77.n, l77.c⟩ 1 cs83 fun (l79 : Sl) (h80 : Hp) =>
                        nilW g0_t fun a81 => stOk h80 (Addr.add a81 0) 1 ∧ wth (wrs h80 (Addr.add a81 0) 0 [(Value.slice l79.a l79.n l79.c)]) fun h82 =>
                        J59 [] h82)) ∧
                    (wth (Array.push h21 (Obj.cells #[(Value.string s63), (Value.int .i64 n64), (Value.int .i64 n65)] T_liveryref06_held)) fun h85 =>
                      rd h85 (Addr.add a61 0) = some (Value.slice l62.a l62.n l62.c) ∧ wth (Array.push h85 (Obj.cells #[] T_liveryref06_held)) fun h86 =>
                      rd h86 (Addr.add a61 0) = some (Value.slice l62.a l62.n l62.c) ∧ ∃ cs94 : List Value, cellsAt h86 l62.a (l62.n * 3) cs94 ∧ appS PP T_liveryref06_held 32 3 h86 ⟨(some (Addr.mk (Array.size h85) 0 none)), 0, 0⟩ l62.n cs94 fun (l87 : Sl) (h88 : Hp) =>
                      ∃ cs93 : List Value, cellsAt h88 (some (Addr.mk (Array.size h21) 0 none)) (1 * 3) cs93 ∧ appS PP T_liveryref06_held 32 3 h88 ⟨l87.a, l87.n, l87.c⟩ 1 cs93 fun (l89 : Sl) (h90 : Hp) =>
                      nilW g0_t fun a91 => stOk h90 (Addr.add a91 0) 1 ∧ wth (wrs h90 (Addr.add a91 0) 0 [(Value.slice l89.a l89.n l89.c)]) fun h92 =>
                      J59 [] h92)))))))))) → J1 [(Value.bool b2)] h3) →
(if (decide (g1_holder < (1 : Int))) = true then (J1 [(Value.bool true)] h) else
  ((if (decide (g1_holder > (200 : Int))) = true then (J1 [(Value.bool true)] h) else
      ((if (decide (g3_m < (1 : Int))) = true then (J1 [(Value.bool true)] h) else
          ((if (decide (g3_m > (8 : Int))) = true then (J1 [(Value.bool true)] h) else
              (J1 [(Value.bool (decide ((ByteArray.size g2_name : Int) > (8 : Int))))] h))))))))
def A_liveryref06_Table_Take : Ann := (.mk none ⟨[], []⟩ .nil (.mk none ⟨[], []⟩ (.mk none ⟨[], []⟩ (.mk (some ⟨[0, 1, 2, 3], [(28, (.c .bool))]⟩) ⟨[], []⟩ .nil .nil) .nil) (.mk none ⟨[], []⟩ .nil (.mk none ⟨[], []⟩ .nil (.mk none ⟨[], []⟩ .nil (.mk none ⟨[], []⟩ (.mk none ⟨[], []⟩ .nil (.mk none ⟨[], []⟩ (.mk none ⟨[], []⟩ (.mk (some ⟨[], []⟩) ⟨[], []⟩ .nil .nil) .nil) .nil)) (.mk none ⟨[], []⟩ (.mk (some ⟨[], []⟩) ⟨[], []⟩ .nil .nil) .nil)))))))
theorem E_liveryref06_Table_Take (g0_t : Option Addr) (g1_holder : Int) (g2_name : ByteArray) (g3_m : Int) (h : Hp) (Q : List Value → Hp → Prop) : cw PP 77 (fun _ => []) (bodyOf Try.f14) A_liveryref06_Table_Take (finQ PP (Try.f14.results.toList) Q) (argFr [(Value.pointer g0_t), (Value.int .i64 g1_holder), (Value.string g2_name), (Value.int .i64 g3_m)]) h = F_liveryref06_Table_Take g0_t g1_holder g2_name g3_m h Q := by kernel_rfl
theorem O_liveryref06_Table_Take (g0_t : Option Addr) (g1_holder : Int) (g2_name : ByteArray) (g3_m : Int) {h : Hp} {Q : List Value → Hp → Prop} (H : F_liveryref06_Table_Take g0_t g1_holder g2_name g3_m h Q) : S_liveryref06_Table_Take g0_t g1_holder g2_name g3_m h Q :=
  fn_of_cw (hs := (fun _ => [])) (ann := A_liveryref06_Table_Take) (args := [(Value.pointer g0_t), (Value.int .i64 g1_holder), (Value.string g2_name), (Value.int .i64 g3_m)]) mixedPP Try.func14 (c := bodyOf Try.f14) (by kernel_rfl) (by kernel_rfl) (by kernel_rfl) (Eq.mpr (E_liveryref06_Table_Take g0_t g1_holder g2_name g3_m h Q) H)
def F_liveryref06_Table_Names (g0_t : Option Addr) (h : Hp) (Q : List Value → Hp → Prop) : Prop :=
nilW g0_t fun a1 => ∃ l2 : Sl, rd h (Addr.add a1 0) = some (Value.slice l2.a l2.n l2.c) ∧
nilW g0_t fun a3 => ∃ l4 : Sl, rd h (Addr.add a3 1) = some (Value.slice l4.a l4.n l4.c) ∧
wth (Array.push h (Obj.cells #[] T_liveryref06_held)) fun h5 =>
rd h5 (Addr.add a3 1) = some (Value.slice l4.a l4.n l4.c) ∧ rd h5 (Addr.add a1 0) = some (Value.slice l2.a l2.n l2.c) ∧ ∃ cs69 : List Value, cellsAt h5 l2.a (l2.n * 3) cs69 ∧ appS PP T_liveryref06_held 32 3 h5 ⟨(some (Addr.mk (Array.size h) 0 none)), 0, 0⟩ l2.n cs69 fun (l6 : Sl) (h7 : Hp) =>
rd h7 (Addr.add a3 1) = some (Value.slice l4.a l4.n l4.c) ∧ ∃ cs68 : List Value, cellsAt h7 l4.a (l4.n * 3) cs68 ∧ appS PP T_liveryref06_held 32 3 h7 ⟨l6.a, l6.n, l6.c⟩ l4.n cs68 fun (l8 : Sl) (h9 : Hp) =>
∀ X10 : List Value → Hp → Prop, (∀ l11 : Sl, ∀ n12 : Int, ∀ h13 : Hp, ((if (decide (n12 < (l8.n : Int))) = true then
      (∀ J14 : List Value → Hp → Prop, (∀ l15 : Sl, ∀ h16 : Hp, (X10 [(Value.slice l15.a l15.n l15.c), (Value.int .i64 (IntKind.wrap .i64 (n12 + (1 : Int))))] h16) → J14 [(Value.slice l15.a l15.n l15.c)] h16) →
        ∀ X17 : List Value → Hp → Prop, (∀ n18 : Int, ∀ h19 : Hp, (∀ J20 : List Value → Hp → Prop, (∀ b21 : Bool, ∀ h22 : Hp, ((if b21 = true then
                  (X17 [(Value.int .i64 (IntKind.wrap .i64 (n18 + (1 : Int))))] h22) else
                  (∀ J23 : List Value → Hp → Prop, (∀ b24 : Bool, ∀ h25 : Hp, ((if b24 = true then
                          ((0 ≤ n18 ∧ n18 ≤ (l11.c : Nat)) ∧ nilW l8.a fun a26 => ixOk n12 l8.n (∃ s27 : ByteArray, rd h25 (Addr.add (Addr.add a26 (Int.toNat n12 * 3)) 0) = some (Value.string s27) ∧
                              (0 ≤ n18 ∧ n18 ≤ (l11.n : Nat)) ∧ (wth (Array.push h25 (Obj.cells #[] T_string)) fun h28 =>
                                rd h28 (Addr.add (Addr.add a26 (Int.toNat n12 * 3)) 0) = some (Value.string s27) ∧ (∃ cs38 : List Value, cellsAt h28 (slAd l11.a 0 l11.c 1) (((Int.toNat n18) - 0) * 1) cs38 ∧ appS PP T_string 16 1 h28 ⟨(some (Addr.mk (Array.size h25) 0 none)), 0, 0⟩ ((Int.toNat n18) - 0) cs38 fun (l29 : Sl) (h30 : Hp) =>
                                  rd h30 (Addr.add (Addr.add a26 (Int.toNat n12 * 3)) 0) = some (Value.string s27) ∧ wth (Array.push h30 (Obj.cells #[(Value.string s27)] T_string)) fun h31 =>
                                  ∃ cs37 : List Value, cellsAt h31 (some (Addr.mk (Array.size h30) 0 none)) (1 * 1) cs37 ∧ appS PP T_string 16 1 h31 ⟨l29.a, l29.n, l29.c⟩ 1 cs37 fun (l32 : Sl) (h33 : Hp) =>
                                  ∃ cs36 : List Value, cellsAt h33 (slAd l11.a (Int.toNat n18) l11.c 1) ((l11.n - (Int.toNat n18)) * 1) cs36 ∧ appS PP T_string 16 1 h33 ⟨l32.a, l32.n, l32.c⟩ (l11.n - (Int.toNat n18)) cs36 fun (l34 : Sl) (h35 : Hp) =>
                                  J14 [(Value.slice l34.a l34.n l34.c)] h35) ∧
                                (wth (Array.push h28 (Obj.cells #[(Value.string s27)] T_string)) fun h39 =>
                                  ∃ cs48 : List Value, cellsAt h39 (slAd l11.a 0 l11.c 1) (((Int.toNat n18) - 0) * 1) cs48 ∧ appS PP T_string 16 1 h39 ⟨(some (Addr.mk (Array.size h25) 0 none)), 0, 0⟩ ((Int.toNat n18) - 0) cs48 fun (l40 : Sl) (h41 : Hp) =>
                                  ∃ cs47 : List Value, cellsAt h41 (some (Addr.mk (Array.size h28) 0 none)) (1 * 1) cs47 ∧ appS PP T_string 16 1 h41 ⟨l40.a, l40.n, l40.c⟩ 1 cs47 fun (l42 : Sl) (h43 : Hp) =>
                                  ∃ cs46 : List Value, cellsAt h43 (slAd l11.a (Int.toNat n18) l11.c 1) ((l11.n - (Int.toNat n18)) * 1) cs46 ∧ appS PP T_string 16 1 h43 ⟨l42.a, l42.n, l42.c⟩ (l11.n - (Int.toNat n18)) cs46 fun (l44 : Sl) (h45 : Hp) =>
                                  J14 [(Value.slice l44.a l44.n l44.c)] h45)) ∧
                              (wth (Array.push h25 (Obj.cells #[(Value.string s27)] T_string)) fun h49 =>
                                wth (Array.push h49 (Obj.cells #[] T_string)) fun h50 =>
                                ∃ cs59 : List Value, cellsAt h50 (slAd l11.a 0 l11.c 1) (((Int.toNat n18) - 0) * 1) cs59 ∧ appS PP T_string 16 1 h50 ⟨(some (Addr.mk (Array.size h49) 0 none)), 0, 0⟩ ((Int.toNat n18) - 0) cs59 fun (l51 : Sl) (h52 : Hp) =>
                                ∃ cs58 : List Value, cellsAt h52 (some (Addr.mk (Array.size h25) 0 none)) (1 * 1) cs58 ∧ appS PP T_string 16 1 h52 ⟨l51.a, l51.n, l51.c⟩ 1 cs58 fun (l53 : Sl) (h54 : Hp) =>
                                ∃ cs57 : List Value, cellsAt h54 (slAd l11.a (Int.toNat n18) l11.c 1) ((l11.n - (Int.toNat n18)) * 1) cs57 ∧ appS PP T_string 16 1 h54 ⟨l53.a, l53.n, l53.c⟩ (l11.n - (Int.toNat n18)) cs57 fun (l55 : Sl) (h56 : Hp) =>
                                J14 [(Value.slice l55.a l55.n l55.c)] h56))) else
                          (J14 [(Value.slice l11.a l11.n l11.c)] h25))) → J23 [(Value.bool b24)] h25) →
                    (if (n18 == (l11.n : Int)) = true then (J23 [(Value.bool true)] h22) else
                      (nilW l11.a fun a60 => ixOk n18 l11.n (∃ s61 : ByteArray, rd h22 (Addr.add a60 (Int.toNat n18 * 1)) = some (Value.string s61) ∧
                          nilW l8.a fun a62 => ixOk n12 l8.n (∃ s63 : ByteArray, rd h22 (Addr.add (Addr.add a62 (Int.toNat n12 * 3)) 0) = some (Value.string s63) ∧
                            J23 [(Value.bool (!((ByteArray.toList s61) == (ByteArray.toList s63))))] h22))))))) → J20 [(Value.bool b21)] h22) →
            (if (decide (n18 < (l11.n : Int))) = true then (nilW l11.a fun a64 => ixOk n18 l11.n (∃ s65 : ByteArray, rd h19 (Addr.add a64 (Int.toNat n18 * 1)) = some (Value.string s65) ∧
                  nilW l8.a fun a66 => ixOk n12 l8.n (∃ s67 : ByteArray, rd h19 (Addr.add (Addr.add a66 (Int.toNat n12 * 3)) 0) = some (Value.string s67) ∧
                    J20 [(Value.bool (Op.bytesLess (ByteArray.toList s65) (ByteArray.toList s67)))] h19))) else
              (J20 [(Value.bool false)] h19))) → X17 [(Value.int .i64 n18)] h19) →
        X17 [(Value.int .i64 (0 : Int))] h13) else
      (Q [(Value.slice l11.a l11.n l11.c)] h13))) → X10 [(Value.slice l11.a l11.n l11.c), (Value.int .i64 n12)] h13) →
X10 [(Value.slice none 0 0), (Value.int .i64 (0 : Int))] h9
def A_liveryref06_Table_Names : Ann := (.mk none ⟨[], []⟩ .nil (.mk none ⟨[], []⟩ .nil (.mk none ⟨[], []⟩ .nil (.mk none ⟨[], []⟩ (.mk none ⟨[], []⟩ .nil (.mk none ⟨[], []⟩ (.mk none ⟨[4], [(3, (.c .sl)), (5, (.c (.int .i64)))]⟩ (.mk none ⟨[], []⟩ .nil (.mk none ⟨[], []⟩ (.mk (some ⟨[4, 5], [(3, (.c .sl))]⟩) ⟨[], []⟩ (.mk none ⟨[], []⟩ .nil (.mk none ⟨[], []⟩ (.mk none ⟨[], []⟩ (.mk none ⟨[3, 4, 5], [(6, (.c (.int .i64)))]⟩ (.mk none ⟨[], []⟩ (.mk none ⟨[], []⟩ (.mk (some ⟨[3, 4, 5, 6], [(39, (.c .bool))]⟩) ⟨[], []⟩ .nil .nil) .nil) .nil) .nil) .nil) (.mk none ⟨[], []⟩ (.mk (some ⟨[3, 4, 5, 6], [(57, (.c .bool))]⟩) ⟨[], []⟩ .nil .nil) .nil))) .nil) .nil)) .nil) .nil)) .nil))))
theorem E_liveryref06_Table_Names (g0_t : Option Addr) (h : Hp) (Q : List Value → Hp → Prop) : cw PP 75 (fun _ => []) (bodyOf Try.f26) A_liveryref06_Table_Names (finQ PP (Try.f26.results.toList) Q) (argFr [(Value.pointer g0_t)]) h = F_liveryref06_Table_Names g0_t h Q := by kernel_rfl
theorem O_liveryref06_Table_Names (g0_t : Option Addr) {h : Hp} {Q : List Value → Hp → Prop} (H : F_liveryref06_Table_Names g0_t h Q) : S_liveryref06_Table_Names g0_t h Q :=
  fn_of_cw (hs := (fun _ => [])) (ann := A_liveryref06_Table_Names) (args := [(Value.pointer g0_t)]) mixedPP Try.func26 (c := bodyOf Try.f26) (by kernel_rfl) (by kernel_rfl) (by kernel_rfl) (Eq.mpr (E_liveryref06_Table_Names g0_t h Q) H)
def F_liveryref06_Table_Release (g0_t : Option Addr) (g1_holder : Int) (h : Hp) (Q : List Value → Hp → Prop) : Prop :=
S_liveryref06_Table_Names g0_t h fun (vs1 : List Value) (h2 : Hp) =>
∃ l3 : Sl, vs1 = [(Value.slice l3.a l3.n l3.c)] ∧
∀ X4 : List Value → Hp → Prop, (∀ l5 : Sl, ∀ l6 : Sl, ∀ n7 : Int, ∀ h8 : Hp, (nilW g0_t fun a9 => ∃ l10 : Sl, rd h8 (Addr.add a9 0) = some (Value.slice l10.a l10.n l10.c) ∧
    (if (decide (n7 < (l10.n : Int))) = true then
      (∀ J11 : List Value → Hp → Prop, (∀ l12 : Sl, ∀ l13 : Sl, ∀ h14 : Hp, (X4 [(Value.slice l12.a l12.n l12.c), (Value.slice l13.a l13.n l13.c), (Value.int .i64 (IntKind.wrap .i64 (n7 + (1 : Int))))] h14) → J11 [(Value.slice l12.a l12.n l12.c), (Value.slice l13.a l13.n l13.c)] h14) →
        nilW g0_t fun a15 => ∃ l16 : Sl, rd h8 (Addr.add a15 0) = some (Value.slice l16.a l16.n l16.c) ∧
        nilW l16.a fun a17 => ixOk n7 l16.n (∃ n18 : Int, rd h8 (Addr.add (Addr.add a17 (Int.toNat n7 * 3)) 1) = some (Value.int .i64 n18) ∧
          (if (n18 == g1_holder) = true then
            (nilW g0_t fun a19 => ∃ l20 : Sl, rd h8 (Addr.add a19 0) = some (Value.slice l20.a l20.n l20.c) ∧
              nilW l20.a fun a21 => ixOk n7 l20.n (∃ s22 : ByteArray, rd h8 (Addr.add (Addr.add a21 (Int.toNat n7 * 3)) 0) = some (Value.string s22) ∧
                wth (Array.push h8 (Obj.cells #[(Value.string s22)] T_string)) fun h23 =>
                ∃ cs26 : List Value, cellsAt h23 (some (Addr.mk (Array.size h8) 0 none)) (1 * 1) cs26 ∧ appS PP T_string 16 1 h23 ⟨l6.a, l6.n, l6.c⟩ 1 cs26 fun (l24 : Sl) (h25 : Hp) =>
                J11 [(Value.slice l5.a l5.n l5.c), (Value.slice l24.a l24.n l24.c)] h25)) else
            (nilW g0_t fun a27 => ∃ l28 : Sl, rd h8 (Addr.add a27 0) = some (Value.slice l28.a l28.n l28.c) ∧
              nilW l28.a fun a29 => ixOk n7 l28.n (∃ s30 : ByteArray, rd h8 (Addr.add (Addr.add a29 (Int.toNat n7 * 3)) 0) = some (Value.string s30) ∧ ∃ n31 : Int, rd h8 (Addr.add (Addr.add a29 (Int.toNat n7 * 3)) 1) = some (Value.int .i64 n31) ∧ ∃ n32 : Int, rd h8 (Addr.add (Addr.add a29 (Int.toNat n7 * 3)) 2) = some (Value.int .i64 n32) ∧ wth (Array.push h8 (Obj.cells #[(Value.string s30), (Value.int .i64 n31), (Value.int .i64 n32)] T_liveryref06_held)) fun h33 =>
                ∃ cs36 : List Value, cellsAt h33 (some (Addr.mk (Array.size h8) 0 none)) (1 * 3) cs36 ∧ appS PP T_liveryref06_held 32 3 h33 ⟨l5.a, l5.n, l5.c⟩ 1 cs36 fun (l34 : Sl) (h35 : Hp) =>
                J11 [(Value.slice l34.a l34.n l34.c), (Value.slice l6.a l6.n l6.c)] h35))))) else
      (∀ X37 : List Value → Hp → Prop, (∀ l38 : Sl, ∀ l39 : Sl, ∀ n40 : Int, ∀ h41 : Hp, (nilW g0_t fun a42 => ∃ l43 : Sl, rd h41 (Addr.add a42 1) = some (Value.slice l43.a l43.n l43.c) ∧
            (if (decide (n40 < (l43.n : Int))) = true then
              (∀ J44 : List Value → Hp → Prop, (∀ l45 : Sl, ∀ l46 : Sl, ∀ h47 : Hp, (X37 [(Value.slice l45.a l45.n l45.c), (Value.slice l46.a l46.n l46.c), (Value.int .i64 (IntKind.wrap .i64 (n40 + (1 : Int))))] h47) → J44 [(Value.slice l45.a l45.n l45.c), (Value.slice l46.a l46.n l46.c)] h47) →
                nilW g0_t fun a48 => ∃ l49 : Sl, rd h41 (Addr.add a48 1) = some (Value.slice l49.a l49.n l49.c) ∧
                nilW l49.a fun a50 => ixOk n40 l49.n (∃ n51 : Int, rd h41 (Addr.add (Addr.add a50 (Int.toNat n40 * 3)) 1) = some (Value.int .i64 n51) ∧
                  (if (n51 == g1_holder) = true then
                    (nilW g0_t fun a52 => ∃ l53 : Sl, rd h41 (Addr.add a52 1) = some (Value.slice l53.a l53.n l53.c) ∧
                      nilW l53.a fun a54 => ixOk n40 l53.n (∃ s55 : ByteArray, rd h41 (Addr.add (Addr.add a54 (Int.toNat n40 * 3)) 0) = some (Value.string s55) ∧
                        wth (Array.push h41 (Obj.cells #[(Value.string s55)] T_string)) fun h56 =>
                        ∃ cs59 : List Value, cellsAt h56 (some (Addr.mk (Array.size h41) 0 none)) (1 * 1) cs59 ∧ appS PP T_string 16 1 h56 ⟨l39.a, l39.n, l39.c⟩ 1 cs59 fun (l57 : Sl) (h58 : Hp) =>
                        J44 [(Value.slice l38.a l38.n l38.c), (Value.slice l57.a l57.n l57.c)] h58)) else
                    (nilW g0_t fun a60 => ∃ l61 : Sl, rd h41 (Addr.add a60 1) = some (Value.slice l61.a l61.n l61.c) ∧
                      nilW l61.a fun a62 => ixOk n40 l61.n (∃ s63 : ByteArray, rd h41 (Addr.add (Addr.add a62 (Int.toNat n40 * 3)) 0) = some (Value.string s63) ∧ ∃ n64 : Int, rd h41 (Addr.add (Addr.add a62 (Int.toNat n40 * 3)) 1) = some (Value.int .i64 n64) ∧ ∃ n65 : Int, rd h41 (Addr.add (Addr.add a62 (Int.toNat n40 * 3)) 2) = some (Value.int .i64 n65) ∧ wth (Array.push h41 (Obj.cells #[(Value.string s63), (Value.int .i64 n64), (Value.int .i64 n65)] T_liveryref06_held)) fun h66 =>
                        ∃ cs69 : List Value, cellsAt h66 (some (Addr.mk (Array.size h41) 0 none)) (1 * 3) cs69 ∧ appS PP T_liveryref06_held 32 3 h66 ⟨l38.a, l38.n, l38.c⟩ 1 cs69 fun (l67 : Sl) (h68 : Hp) =>
                        J44 [(Value.slice l67.a l67.n l67.c), (Value.slice l39.a l39.n l39.c)] h68))))) else
              (nilW g0_t fun a70 => stOk h41 (Addr.add a70 0) 1 ∧ wth (wrs h41 (Addr.add a70 0) 0 [(Value.slice l5.a l5.n l5.c)]) fun h71 =>
                nilW g0_t fun a72 => stOk h71 (Addr.add a72 1) 1 ∧ wth (wrs h71 (Addr.add a72 1) 0 [(Value.slice l38.a l38.n l38.c)]) fun h73 =>
                ∀ X74 : List Value → Hp → Prop, (∀ l75 : Sl, ∀ n76 : Int, ∀ h77 : Hp, ((if (decide (n76 < (l3.n : Int))) = true then
                      (∀ X78 : List Value → Hp → Prop, (∀ b79 : Bool, ∀ n80 : Int, ∀ h81 : Hp, ((if (decide (n80 < (l39.n : Int))) = true then
                              (∀ J82 : List Value → Hp → Prop, (∀ b83 : Bool, ∀ h84 : Hp, (X78 [(Value.bool b83), (Value.int .i64 (IntKind.wrap .i64 (n80 + (1 : Int))))] h84) → J82 [(Value.bool b83)] h84) →
                                (if b79 = true then (J82 [(Value.bool true)] h81) else
                                  (nilW l39.a fun a85 => ixOk n80 l39.n (∃ s86 : ByteArray, rd h81 (Addr.add a85 (Int.toNat n80 * 1)) = some (Value.string s86) ∧
                                      nilW l3.a fun a87 => ixOk n76 l3.n (∃ s88 : ByteArray, rd h81 (Addr.add a87 (Int.toNat n76 * 1)) = some (Value.string s88) ∧
                                        J82 [(Value.bool ((ByteArray.toList s86) == (ByteArray.toList s88)))] h81))))) else
                              (∀ X89 : List Value → Hp → Prop, (∀ l90 : Sl, ∀ n91 : Int, ∀ h92 : Hp, (∀ J93 : List Value → Hp → Prop, (∀ b94 : Bool, ∀ h95 : Hp, ((if b94 = true then
                                          (nilW g0_t fun a96 => ∃ l97 : Sl, rd h95 (Addr.add a96 1) = some (Value.slice l97.a l97.n l97.c) ∧
                                            nilW l97.a fun a98 => ixOk n91 l97.n (∃ s99 : ByteArray, rd h95 (Addr.add (Addr.add a98 (Int.toNat n91 * 3)) 0) = some (Value.string s99) ∧ ∃ n100 : Int, rd h95 (Addr.add (Addr.add a98 (Int.toNat n91 * 3)) 1) = some (Value.int .i64 n100) ∧ ∃ n101 : Int, rd h95 (Addr.add (Addr.add a98 (Int.toNat n91 * 3)) 2) = some (Value.int .i64 n101) ∧ wth (Array.push h95 (Obj.cells #[(Value.string (ByteArray.mk #[])), (Value.int .i64 (0 : Int)), (Value.int .i64 (0 : Int))] T_liveryref06_held)) fun h102 =>
                                              stOk h102 (Addr.mk (Array.size h95) 0 none) 3 ∧ wth (wrs h102 (Addr.mk (Array.size h95) 0 none) 0 [(Value.string s99), (Value.int .i64 n100), (Value.int .i64 n101)]) fun h103 =>
                                              ∀ J104 : List Value → Hp → Prop, (∀ b105 : Bool, ∀ h106 : Hp, ((if b105 = true then
                                                    (X89 [(Value.slice l90.a l90.n l90.c), (Value.int .i64 (IntKind.wrap .i64 (n91 + (1 : Int))))] h106) else
                                                    (nilW g0_t fun a107 => ∃ l108 : Sl, rd h106 (Addr.add a107 1) = some (Value.slice l108.a l108.n l108.c) ∧
                                                      (0 ≤ n91 ∧ n91 ≤ (l108.c : Nat)) ∧ nilW g0_t fun a109 => ∃ l110 : Sl, rd h106 (Addr.add a109 1) = some (Value.slice l110.a l110.n l110.c) ∧
                                                      (0 ≤ (IntKind.wrap .i64 (n91 + (1 : Int))) ∧ (IntKind.wrap .i64 (n91 + (1 : Int))) ≤ (l110.n : Nat)) ∧ wth (Array.push h106 (Obj.cells #[] T_liveryref06_held)) fun h111 =>
                                                      rd h111 (Addr.add a109 1) = some (Value.slice l110.a l110.n l110.c) ∧ rd h111 (Addr.add a107 1) = some (Value.slice l108.a l108.n l108.c) ∧ ∃ cs160 : List Value, cellsAt h111 (slAd l108.a 0 l108.c 3) (((Int.toNat n91) - 0) * 3) cs160 ∧ appS PP T_liveryref06_held 32 3 h111 ⟨(some (Addr.mk (Array.size h106) 0 none)), 0, 0⟩ ((Int.toNat n91) - 0) cs160 fun (l112 : Sl) (h113 : Hp) =>
                                                      rd h113 (Addr.add a109 1) = some (Value.slice l110.a l110.n l110.c) ∧ ∃ cs159 : List Value, cellsAt h113 (slAd l110.a (Int.toNat (IntKind.wrap .i64 (n91 + (1 : Int)))) l110.c 3) ((l110.n - (Int.toNat (IntKind.wrap .i64 (n91 + (1 : Int))))) * 3) cs159 ∧ appS PP T_liveryref06_held 32 3 h113 ⟨l112.a, l112.n, l112.c⟩ (l110.n - (Int.toNat (IntKind.wrap .i64 (n91 + (1 : Int))))) cs159 fun (l114 : Sl) (h115 : Hp) =>
                                                      nilW g0_t fun a116 => stOk h115 (Addr.add a116 1) 1 ∧ wth (wrs h115 (Addr.add a116 1) 0 [(Value.slice l114.a l114.n l114.c)]) fun h117 =>
                                                      ∀ J118 : List Value → Hp → Prop, (∀ h119 : Hp, (∃ n120 : Int, rd h119 (Addr.add (Addr.mk (Array.size h95) 0 none) 1) = some (Value.int .i64 n120) ∧
                                                          wth (Array.push h119 (Obj.cells #[(Value.int .i64 n120)] T_int)) fun h121 =>
                                                          ∃ cs124 : List Value, cellsAt h121 (some (Addr.mk (Array.size h119) 0 none)) (1 * 1) cs124 ∧ appS PP T_int 8 1 h121 ⟨l90.a, l90.n, l90.c⟩ 1 cs124 fun (l122 : Sl) (h123 : Hp) =>
                                                          X89 [(Value.slice l122.a l122.n l122.c), (Value.int .i64 n91)] h123) → J118 [] h119) →
                                                      nilW g0_t fun a125 => ∃ l126 : Sl, rd h117 (Addr.add a125 0) = some (Value.slice l126.a l126.n l126.c) ∧
                                                      ∃ s127 : ByteArray, rd h117 (Addr.add (Addr.mk (Array.size h95) 0 none) 0) = some (Value.string s127) ∧ ∃ n128 : Int, rd h117 (Addr.add (Addr.mk (Array.size h95) 0 none) 1) = some (Value.int .i64 n128) ∧ ∃ n129 : Int, rd h117 (Addr.add (Addr.mk (Array.size h95) 0 none) 2) = some (Value.int .i64 n129) ∧ (wth (Array.push h117 (Obj.cells #[] T_liveryref06_held)) fun h130 =>
                                                        rd h130 (Addr.add (Addr.mk (Array.size h95) 0 none) 0) = some (Value.string s127) ∧ rd h130 (Addr.add (Addr.mk (Array.size h95) 0 none) 1) = some (Value.int .i64 n128) ∧ rd h130 (Addr.add (Addr.mk (Array.size h95) 0 none) 2) = some (Value.int .i64 n129) ∧ rd h130 (Addr.add a125 0) = some (Value.slice l126.a l126.n l126.c) ∧ (∃ cs139 : List Value, cellsAt h130 l126.a (l126.n * 3) cs139 ∧ appS PP T_liveryref06_held 32 3 h130 ⟨(some (Addr.mk (Array.size h117) 0 none)), 0, 0⟩ l126.n cs139 fun (l131 : Sl) (h132 : Hp) =>
                                                          rd h132 (Addr.add (Addr.mk (Array.size h95) 0 none) 0) = some (Value.string s127) ∧ rd h132 (Addr.add (Addr.mk (Array.size h95) 0 none) 1) = some (Value.int .i64 n128) ∧ rd h132 (Addr.add (Addr.mk (Array.size h95) 0 none) 2) = some (Value.int .i64 n129) ∧ wth (Array.push h132 (Obj.cells #[(Value.string s127), (Value.int .i64 n128), (Value.int .i64 n129)] T_liveryref06_held)) fun h133 =>
                                                          ∃ cs138 : List Value, cellsAt h133 (some (Addr.mk (Array.size h132) 0 none)) (1 * 3) cs138 ∧ appS PP T_liveryref06_held 32 3 h133 ⟨l131.a, l131.n, l131.c⟩ 1 cs138 fun (l134 : Sl) (h135 : Hp) =>
                                                          nilW g0_t fun a136 => stOk h135 (Addr.add a136 0) 1 ∧ wth (wrs h135 (Addr.add a136 0) 0 [(Value.slice l134.a l134.n l134.c)]) fun h137 =>
                                                          J118 [] h137) ∧
                                                        (wth (Array.push h130 (Obj.cells #[(Value.string s127), (Value.int .i64 n128), (Value.int .i64 n129)] T_liveryref06_held)) fun h140 =>
                                                          rd h140 (Addr.add a125 0) = some (Value.slice l126.a l126.n l126.c) ∧ ∃ cs148 : List Value, cellsAt h140 l126.a (l126.n * 3) cs148 ∧ appS PP T_liveryref06_held 32 3 h140 ⟨(some (Addr.mk (Array.size h117) 0 none)), 0, 0⟩ l126.n cs148 fun (l141 : Sl) (h142 : Hp) =>
                                                          ∃ cs147 : List Value, cellsAt h142 (some (Addr.mk (Array.size h130) 0 none)) (1 * 3) cs147 ∧ appS PP T_liveryref06_held 32 3 h142 ⟨l141.a, l141.n, l141.c⟩ 1 cs147 fun (l143 : Sl) (h144 : Hp) =>
                                                          nilW g0_t fun a145 => stOk h144 (Addr.add a145 0) 1 ∧ wth (wrs h144 (Addr.add a145 0) 0 [(Value.slice l143.a l143.n l143.c)]) fun h146 =>
                                                          J118 [] h146)) ∧
                                                      (wth (Array.push h117 (Obj.cells #[(Value.string s127), (Value.int .i64 n128), (Value.int .i64 n129)] T_liveryref06_held)) fun h149 =>
                                                        rd h149 (Addr.add a125 0) = some (Value.slice l126.a l126.n l126.c) ∧ wth (Array.push h149 (Obj.cells #[] T_liveryref06_held)) fun h150 =>
                                                        rd h150 (Addr.add a125 0) = some (Value.slice l126.a l126.n l126.c) ∧ ∃ cs158 : List Value, cellsAt h150 l126.a (l126.n * 3) cs158 ∧ appS PP T_liveryref06_held 32 3 h150 ⟨(some (Addr.mk (Array.size h149) 0 none)), 0, 0⟩ l126.n cs158 fun (l151 : Sl) (h152 : Hp) =>
                                                        ∃ cs157 : List Value, cellsAt h152 (some (Addr.mk (Array.size h117) 0 none)) (1 * 3) cs157 ∧ appS PP T_liveryref06_held 32 3 h152 ⟨l151.a, l151.n, l151.c⟩ 1 cs157 fun (l153 : Sl) (h154 : Hp) =>
                                                        nilW g0_t fun a155 => stOk h154 (Addr.add a155 0) 1 ∧ wth (wrs h154 (Addr.add a155 0) 0 [(Value.slice l153.a l153.n l153.c)]) fun h156 =>
                                                        J118 [] h156)))) → J104 [(Value.bool b105)] h106) →
                                              ∃ s161 : ByteArray, rd h103 (Addr.add (Addr.mk (Array.size h95) 0 none) 0) = some (Value.string s161) ∧
                                              nilW l3.a fun a162 => ixOk n76 l3.n (∃ s163 : ByteArray, rd h103 (Addr.add a162 (Int.toNat n76 * 1)) = some (Value.string s163) ∧
                                                (if (!((ByteArray.toList s161) == (ByteArray.toList s163))) = true then (J104 [(Value.bool true)] h103) else
                                                  (∃ s164 : ByteArray, rd h103 (Addr.add (Addr.mk (Array.size h95) 0 none) 0) = some (Value.string s164) ∧ ∃ n165 : Int, rd h103 (Addr.add (Addr.mk (Array.size h95) 0 none) 1) = some (Value.int .i64 n165) ∧ ∃ n166 : Int, rd h103 (Addr.add (Addr.mk (Array.size h95) 0 none) 2) = some (Value.int .i64 n166) ∧ S_liveryref06_Table_bars g0_t s164 n165 n166 n91 h103 fun (vs167 : List Value) (h168 : Hp) =>
                                                    ∃ l169 : Sl, vs167 = [(Value.slice l169.a l169.n l169.c)] ∧
                                                    J104 [(Value.bool (decide ((l169.n : Int) > (0 : Int))))] h168))))) else
                                          (X74 [(Value.slice l90.a l90.n l90.c), (Value.int .i64 (IntKind.wrap .i64 (n76 + (1 : Int))))] h95))) → J93 [(Value.bool b94)] h95) →
                                    (if b79 = true then (nilW g0_t fun a170 => ∃ l171 : Sl, rd h92 (Addr.add a170 1) = some (Value.slice l171.a l171.n l171.c) ∧
                                        J93 [(Value.bool (decide (n91 < (l171.n : Int))))] h92) else
                                      (J93 [(Value.bool false)] h92))) → X89 [(Value.slice l90.a l90.n l90.c), (Value.int .i64 n91)] h92) →
                                X89 [(Value.slice l75.a l75.n l75.c), (Value.int .i64 (0 : Int))] h81))) → X78 [(Value.bool b79), (Value.int .i64 n80)] h81) →
                        X78 [(Value.bool false), (Value.int .i64 (0 : Int))] h77) else
                      (Q [(Value.slice l75.a l75.n l75.c)] h77))) → X74 [(Value.slice l75.a l75.n l75.c), (Value.int .i64 n76)] h77) →
                X74 [(Value.slice none 0 0), (Value.int .i64 (0 : Int))] h73))) → X37 [(Value.slice l38.a l38.n l38.c), (Value.slice l39.a l39.n l39.c), (Value.int .i64 n40)] h41) →
        X37 [(Value.slice none 0 0), (Value.slice l6.a l6.n l6.c), (Value.int .i64 (0 : Int))] h8))) → X4 [(Value.slice l5.a l5.n l5.c), (Value.slice l6.a l6.n l6.c), (Value.int .i64 n7)] h8) →
X4 [(Value.slice none 0 0), (Value.slice none 0 0), (Value.int .i64 (0 : Int))] h2
def A_liveryref06_Table_Release : Ann := (.mk none ⟨[], []⟩ .nil (.mk none ⟨[], []⟩ .nil (.mk none ⟨[], []⟩ .nil (.mk none ⟨[], []⟩ .nil (.mk none ⟨[], []⟩ (.mk none ⟨[], []⟩ .nil (.mk none ⟨[], []⟩ (.mk none ⟨[0, 1, 5, 7], [(6, (.c .sl)), (8, (.c .sl)), (9, (.c (.int .i64)))]⟩ (.mk none ⟨[], []⟩ .nil (.mk none ⟨[], []⟩ (.mk (some ⟨[0, 1, 5, 7, 9], [(6, (.c .sl)), (8, (.c .sl))]⟩) ⟨[], []⟩ .nil .nil) .nil)) .nil) .nil)) (.mk none ⟨[], []⟩ (.mk none ⟨[], []⟩ .nil (.mk none ⟨[], []⟩ (.mk none ⟨[0, 1, 5, 6], [(7, (.c .sl)), (8, (.c .sl)), (10, (.c (.int .i64)))]⟩ (.mk none ⟨[], []⟩ .nil (.mk none ⟨[], []⟩ (.mk (some ⟨[0, 1, 5, 6, 10], [(7, (.c .sl)), (8, (.c .sl))]⟩) ⟨[], []⟩ .nil .nil) .nil)) .nil) .nil)) (.mk none ⟨[], []⟩ .nil (.mk none ⟨[], []⟩ .nil (.mk none ⟨[], []⟩ (.mk none ⟨[], []⟩ .nil (.mk none ⟨[], []⟩ (.mk none ⟨[0, 5, 8], [(11, (.c .sl)), (12, (.c (.int .i64)))]⟩ (.mk none ⟨[], []⟩ .nil (.mk none ⟨[], []⟩ (.mk none ⟨[], []⟩ (.mk none ⟨[], []⟩ .nil (.mk none ⟨[], []⟩ (.mk none ⟨[], []⟩ .nil (.mk none ⟨[], []⟩ (.mk none ⟨[0, 5, 8, 11, 12], [(13, (.c .bool)), (14, (.c (.int .i64)))]⟩ (.mk none ⟨[], []⟩ .nil (.mk none ⟨[], []⟩ (.mk (some ⟨[0, 5, 8, 11, 12, 14], [(13, (.c .bool))]⟩) ⟨[], []⟩ .nil .nil) .nil)) .nil) .nil)) (.mk none ⟨[], []⟩ .nil (.mk none ⟨[], []⟩ (.mk none ⟨[0, 5, 8, 12, 13], [(11, (.c .sl)), (15, (.c (.int .i64)))]⟩ (.mk none ⟨[], []⟩ (.mk none ⟨[], []⟩ (.mk (some ⟨[0, 5, 8, 11, 12, 13, 15], [(140, (.c .bool))]⟩) ⟨[], []⟩ .nil .nil) .nil) (.mk none ⟨[], []⟩ (.mk none ⟨[], []⟩ .nil (.mk none ⟨[], []⟩ (.mk none ⟨[], []⟩ (.mk (some ⟨[0, 5, 8, 11, 12, 13, 15, 16], [(162, (.c .bool))]⟩) ⟨[], []⟩ .nil .nil) .nil) (.mk none ⟨[], []⟩ .nil (.mk none ⟨[], []⟩ (.mk (some ⟨[0, 5, 8, 11, 12, 13, 15, 16], []⟩) ⟨[], []⟩ .nil .nil) .nil)))) .nil)) .nil) .nil)))) .nil) .nil)) .nil) .nil)) .nil)))))))))
theorem E_liveryref06_Table_Release (g0_t : Option Addr) (g1_holder : Int) (h : Hp) (Q : List Value → Hp → Prop) : cw PP 202 (fun _ => []) (bodyOf Try.f17) A_liveryref06_Table_Release (finQ PP (Try.f17.results.toList) Q) (argFr [(Value.pointer g0_t), (Value.int .i64 g1_holder)]) h = F_liveryref06_Table_Release g0_t g1_holder h Q := by kernel_rfl
theorem O_liveryref06_Table_Release (g0_t : Option Addr) (g1_holder : Int) {h : Hp} {Q : List Value → Hp → Prop} (H : F_liveryref06_Table_Release g0_t g1_holder h Q) : S_liveryref06_Table_Release g0_t g1_holder h Q :=
  fn_of_cw (hs := (fun _ => [])) (ann := A_liveryref06_Table_Release) (args := [(Value.pointer g0_t), (Value.int .i64 g1_holder)]) mixedPP Try.func17 (c := bodyOf Try.f17) (by kernel_rfl) (by kernel_rfl) (by kernel_rfl) (Eq.mpr (E_liveryref06_Table_Release g0_t g1_holder h Q) H)
def F_liveryref06_Table_Waits (g0_t : Option Addr) (g1_holder : Int) (h : Hp) (Q : List Value → Hp → Prop) : Prop :=
wth (Array.push h (Obj.cells #[(Value.string (ByteArray.mk #[])), (Value.int .i64 (0 : Int)), (Value.bool false)] T_liveryref06_Wants)) fun h1 =>
S_liveryref06_Table_Find g0_t g1_holder h1 fun (vs2 : List Value) (h3 : Hp) =>
∃ n4 : Int, vs2 = [(Value.int .i64 n4)] ∧
(if (decide (n4 < (0 : Int))) = true then
  (stOk h3 (Addr.mk (Array.size h) 0 none) 3 ∧ wth (wrs h3 (Addr.mk (Array.size h) 0 none) 0 [(Value.string (ByteArray.mk #[])), (Value.int .i64 (0 : Int)), (Value.bool false)]) fun h5 =>
    ∃ s6 : ByteArray, rd h5 (Addr.add (Addr.mk (Array.size h) 0 none) 0) = some (Value.string s6) ∧ ∃ n7 : Int, rd h5 (Addr.add (Addr.mk (Array.size h) 0 none) 1) = some (Value.int .i64 n7) ∧ ∃ b8 : Bool, rd h5 (Addr.add (Addr.mk (Array.size h) 0 none) 2) = some (Value.bool b8) ∧ Q [(Value.agg #[(Value.string s6), (Value.int .i64 n7), (Value.bool b8)])] h5) else
  (nilW g0_t fun a9 => ∃ l10 : Sl, rd h3 (Addr.add a9 1) = some (Value.slice l10.a l10.n l10.c) ∧
    nilW l10.a fun a11 => ixOk n4 l10.n (∃ s12 : ByteArray, rd h3 (Addr.add (Addr.add a11 (Int.toNat n4 * 3)) 0) = some (Value.string s12) ∧
      nilW g0_t fun a13 => ∃ l14 : Sl, rd h3 (Addr.add a13 1) = some (Value.slice l14.a l14.n l14.c) ∧
      nilW l14.a fun a15 => ixOk n4 l14.n (∃ n16 : Int, rd h3 (Addr.add (Addr.add a15 (Int.toNat n4 * 3)) 2) = some (Value.int .i64 n16) ∧
        stOk h3 (Addr.mk (Array.size h) 0 none) 3 ∧ wth (wrs h3 (Addr.mk (Array.size h) 0 none) 0 [(Value.string s12), (Value.int .i64 n16), (Value.bool true)]) fun h17 =>
        ∃ s18 : ByteArray, rd h17 (Addr.add (Addr.mk (Array.size h) 0 none) 0) = some (Value.string s18) ∧ ∃ n19 : Int, rd h17 (Addr.add (Addr.mk (Array.size h) 0 none) 1) = some (Value.int .i64 n19) ∧ ∃ b20 : Bool, rd h17 (Addr.add (Addr.mk (Array.size h) 0 none) 2) = some (Value.bool b20) ∧ Q [(Value.agg #[(Value.string s18), (Value.int .i64 n19), (Value.bool b20)])] h17))))
def A_liveryref06_Table_Waits : Ann := .nil
theorem E_liveryref06_Table_Waits (g0_t : Option Addr) (g1_holder : Int) (h : Hp) (Q : List Value → Hp → Prop) : cw PP 29 (fun _ => []) (bodyOf Try.f19) A_liveryref06_Table_Waits (finQ PP (Try.f19.results.toList) Q) (argFr [(Value.pointer g0_t), (Value.int .i64 g1_holder)]) h = F_liveryref06_Table_Waits g0_t g1_holder h Q := by kernel_rfl
theorem O_liveryref06_Table_Waits (g0_t : Option Addr) (g1_holder : Int) {h : Hp} {Q : List Value → Hp → Prop} (H : F_liveryref06_Table_Waits g0_t g1_holder h Q) : S_liveryref06_Table_Waits g0_t g1_holder h Q :=
  fn_of_cw (hs := (fun _ => [])) (ann := A_liveryref06_Table_Waits) (args := [(Value.pointer g0_t), (Value.int .i64 g1_holder)]) mixedPP Try.func19 (c := bodyOf Try.f19) (by kernel_rfl) (by kernel_rfl) (by kernel_rfl) (Eq.mpr (E_liveryref06_Table_Waits g0_t g1_holder h Q) H)
def F_liveryref06_Table_For (g0_t : Option Addr) (g1_holder : Int) (h : Hp) (Q : List Value → Hp → Prop) : Prop :=
S_liveryref06_Table_Find g0_t g1_holder h fun (vs1 : List Value) (h2 : Hp) =>
∃ n3 : Int, vs1 = [(Value.int .i64 n3)] ∧
(if (decide (n3 < (0 : Int))) = true then
  (Q [(Value.slice none 0 0)] h2) else
  (nilW g0_t fun a4 => ∃ l5 : Sl, rd h2 (Addr.add a4 1) = some (Value.slice l5.a l5.n l5.c) ∧
    nilW l5.a fun a6 => ixOk n3 l5.n (∃ s7 : ByteArray, rd h2 (Addr.add (Addr.add a6 (Int.toNat n3 * 3)) 0) = some (Value.string s7) ∧ ∃ n8 : Int, rd h2 (Addr.add (Addr.add a6 (Int.toNat n3 * 3)) 1) = some (Value.int .i64 n8) ∧ ∃ n9 : Int, rd h2 (Addr.add (Addr.add a6 (Int.toNat n3 * 3)) 2) = some (Value.int .i64 n9) ∧ S_liveryref06_Table_bars g0_t s7 n8 n9 n3 h2 fun (vs10 : List Value) (h11 : Hp) =>
      ∃ l12 : Sl, vs10 = [(Value.slice l12.a l12.n l12.c)] ∧
      Q [(Value.slice l12.a l12.n l12.c)] h11)))
def A_liveryref06_Table_For : Ann := .nil
theorem E_liveryref06_Table_For (g0_t : Option Addr) (g1_holder : Int) (h : Hp) (Q : List Value → Hp → Prop) : cw PP 21 (fun _ => []) (bodyOf Try.f23) A_liveryref06_Table_For (finQ PP (Try.f23.results.toList) Q) (argFr [(Value.pointer g0_t), (Value.int .i64 g1_holder)]) h = F_liveryref06_Table_For g0_t g1_holder h Q := by kernel_rfl
theorem O_liveryref06_Table_For (g0_t : Option Addr) (g1_holder : Int) {h : Hp} {Q : List Value → Hp → Prop} (H : F_liveryref06_Table_For g0_t g1_holder h Q) : S_liveryref06_Table_For g0_t g1_holder h Q :=
  fn_of_cw (hs := (fun _ => [])) (ann := A_liveryref06_Table_For) (args := [(Value.pointer g0_t), (Value.int .i64 g1_holder)]) mixedPP Try.func23 (c := bodyOf Try.f23) (by kernel_rfl) (by kernel_rfl) (by kernel_rfl) (Eq.mpr (E_liveryref06_Table_For g0_t g1_holder h Q) H)
def F_liverykeep_Texts (g0_a : Sl) (g1_b : Sl) (h : Hp) (Q : List Value → Hp → Prop) : Prop :=
(if ((g0_a.n : Int) != (g1_b.n : Int)) = true then
  (Q [(Value.bool false)] h) else
  (∀ X1 : List Value → Hp → Prop, (∀ n2 : Int, ∀ h3 : Hp, ((if (decide (n2 < (g0_a.n : Int))) = true then
          (nilW g0_a.a fun a4 => ixOk n2 g0_a.n (∃ s5 : ByteArray, rd h3 (Addr.add a4 (Int.toNat n2 * 1)) = some (Value.string s5) ∧
              nilW g1_b.a fun a6 => ixOk n2 g1_b.n (∃ s7 : ByteArray, rd h3 (Addr.add a6 (Int.toNat n2 * 1)) = some (Value.string s7) ∧
                (if (!((ByteArray.toList s5) == (ByteArray.toList s7))) = true then
                  (Q [(Value.bool false)] h3) else
                  (X1 [(Value.int .i64 (IntKind.wrap .i64 (n2 + (1 : Int))))] h3))))) else
          (Q [(Value.bool true)] h3))) → X1 [(Value.int .i64 n2)] h3) →
    X1 [(Value.int .i64 (0 : Int))] h))
def A_liverykeep_Texts : Ann := (.mk none ⟨[], []⟩ .nil (.mk none ⟨[], []⟩ .nil (.mk none ⟨[], []⟩ (.mk none ⟨[], []⟩ .nil (.mk none ⟨[], []⟩ (.mk none ⟨[0, 1], [(5, (.c (.int .i64)))]⟩ .nil .nil) .nil)) .nil)))
theorem E_liverykeep_Texts (g0_a : Sl) (g1_b : Sl) (h : Hp) (Q : List Value → Hp → Prop) : cw PP 26 (fun _ => []) (bodyOf Try.f24) A_liverykeep_Texts (finQ PP (Try.f24.results.toList) Q) (argFr [(Value.slice g0_a.a g0_a.n g0_a.c), (Value.slice g1_b.a g1_b.n g1_b.c)]) h = F_liverykeep_Texts g0_a g1_b h Q := by kernel_rfl
theorem O_liverykeep_Texts (g0_a : Sl) (g1_b : Sl) {h : Hp} {Q : List Value → Hp → Prop} (H : F_liverykeep_Texts g0_a g1_b h Q) : S_liverykeep_Texts g0_a g1_b h Q :=
  fn_of_cw (hs := (fun _ => [])) (ann := A_liverykeep_Texts) (args := [(Value.slice g0_a.a g0_a.n g0_a.c), (Value.slice g1_b.a g1_b.n g1_b.c)]) mixedPP Try.func24 (c := bodyOf Try.f24) (by kernel_rfl) (by kernel_rfl) (by kernel_rfl) (Eq.mpr (E_liverykeep_Texts g0_a g1_b h Q) H)
def F_liverylaw06_LockPlays (g0_l : Sl) (h : Hp) (Q : List Value → Hp → Prop) : Prop :=
S_lock_New  h fun (vs1 : List Value) (h2 : Hp) =>
∃ p3 : Option Addr, vs1 = [(Value.pointer p3)] ∧
wth (Array.push h2 (Obj.cells #[(Value.slice none 0 0), (Value.slice none 0 0)] T_liveryref06_Table)) fun h4 =>
∀ J5 : List Value → Hp → Prop, (∀ b6 : Bool, ∀ h7 : Hp, ((if b6 = true then
      (∀ J8 : List Value → Hp → Prop, (∀ b9 : Bool, ∀ h10 : Hp, (Q [(Value.bool b9)] h10) → J8 [(Value.bool b9)] h10) →
        (if (!(Option.isNone p3)) = true then (S_liverylaw06_wakes  h7 fun (vs11 : List Value) (h12 : Hp) =>
            ∃ b13 : Bool, vs11 = [(Value.bool b13)] ∧
            J8 [(Value.bool b13)] h12) else
          (J8 [(Value.bool false)] h7))) else
      (∀ X14 : List Value → Hp → Prop, (∀ n15 : Int, ∀ h16 : Hp, ((if (decide (n15 < (g0_l.n : Int))) = true then
              (nilW g0_l.a fun a17 => ixOk n15 g0_l.n (∃ n18 : Int, rd h16 (Addr.add (Addr.add a17 (Int.toNat n15 * 4)) 0) = some (Value.int .i64 n18) ∧ ∃ n19 : Int, rd h16 (Addr.add (Addr.add a17 (Int.toNat n15 * 4)) 1) = some (Value.int .i64 n19) ∧ ∃ n20 : Int, rd h16 (Addr.add (Addr.add a17 (Int.toNat n15 * 4)) 2) = some (Value.int .i64 n20) ∧ ∃ s21 : ByteArray, rd h16 (Addr.add (Addr.add a17 (Int.toNat n15 * 4)) 3) = some (Value.string s21) ∧ wth (Array.push h16 (Obj.cells #[(Value.int .i64 (0 : Int)), (Value.int .i64 (0 : Int)), (Value.int .i64 (0 : Int)), (Value.string (ByteArray.mk #[]))] T_liverylaw06_Step)) fun h22 =>
                  stOk h22 (Addr.mk (Array.size h16) 0 none) 4 ∧ wth (wrs h22 (Addr.mk (Array.size h16) 0 none) 0 [(Value.int .i64 n18), (Value.int .i64 n19), (Value.int .i64 n20), (Value.string s21)]) fun h23 =>
                  ∃ n24 : Int, rd h23 (Addr.add (Addr.mk (Array.size h16) 0 none) 0) = some (Value.int .i64 n24) ∧
                  ∀ J25 : List Value → Hp → Prop, (∀ h26 : Hp, (∀ X27 : List Value → Hp → Prop, (∀ n28 : Int, ∀ h29 : Hp, ((if (decide (n28 < (9 : Int))) = true then
                            (∀ J30 : List Value → Hp → Prop, (∀ n31 : Int, ∀ h32 : Hp, (S_lock_Table_Waits p3 n31 h32 fun (vs33 : List Value) (h34 : Hp) =>
                                  ∃ s35 : ByteArray, ∃ n36 : Int, ∃ b37 : Bool, vs33 = [(Value.string s35), (Value.int .i64 n36), (Value.bool b37)] ∧
                                  S_liveryref06_Table_Waits (some (Addr.mk (Array.size h2) 0 none)) n31 h34 fun (vs38 : List Value) (h39 : Hp) =>
                                  ∃ s40 : ByteArray, ∃ n41 : Int, ∃ b42 : Bool, vs38 = [(Value.agg #[(Value.string s40), (Value.int .i64 n41), (Value.bool b42)])] ∧
                                  wth (Array.push h39 (Obj.cells #[(Value.string (ByteArray.mk #[])), (Value.int .i64 (0 : Int)), (Value.bool false)] T_liveryref06_Wants)) fun h43 =>
                                  stOk h43 (Addr.mk (Array.size h39) 0 none) 3 ∧ wth (wrs h43 (Addr.mk (Array.size h39) 0 none) 0 [(Value.string s40), (Value.int .i64 n41), (Value.bool b42)]) fun h44 =>
                                  ∀ J45 : List Value → Hp → Prop, (∀ b46 : Bool, ∀ h47 : Hp, ((if b46 = true then
                                        (Q [(Value.bool false)] h47) else
                                        (X27 [(Value.int .i64 (IntKind.wrap .i64 (n28 + (1 : Int))))] h47))) → J45 [(Value.bool b46)] h47) →
                                  ∃ s48 : ByteArray, rd h44 (Addr.add (Addr.mk (Array.size h39) 0 none) 0) = some (Value.string s48) ∧
                                  (if (!((ByteArray.toList s35) == (ByteArray.toList s48))) = true then (J45 [(Value.bool true)] h44) else
                                    (∃ n49 : Int, rd h44 (Addr.add (Addr.mk (Array.size h39) 0 none) 1) = some (Value.int .i64 n49) ∧
                                      (if (n36 != n49) = true then (J45 [(Value.bool true)] h44) else
                                        (∃ b50 : Bool, rd h44 (Addr.add (Addr.mk (Array.size h39) 0 none) 2) = some (Value.bool b50) ∧
                                          (if (!(b37 == b50)) = true then (J45 [(Value.bool true)] h44) else
                                            (∃ s51 : ByteArray, rd h44 (Addr.add (Addr.mk (Array.size h16) 0 none) 3) = some (Value.string s51) ∧
                                              ∃ s52 : ByteArray, rd h44 (Addr.add (Addr.mk (Array.size h16) 0 none) 3) = some (Value.string s52) ∧
                                              S_lock_Table_Modes p3 n31 s51 h44 fun (vs53 : List Value) (h54 : Hp) =>
                                              ∃ n55 : Int, vs53 = [(Value.int .i64 n55)] ∧
                                              rd h54 (Addr.add (Addr.mk (Array.size h16) 0 none) 3) = some (Value.string s52) ∧ S_liveryref06_Table_Set (some (Addr.mk (Array.size h2) 0 none)) n31 s52 h54 fun (vs56 : List Value) (h57 : Hp) =>
                                              ∃ n58 : Int, vs56 = [(Value.int .i64 n58)] ∧
                                              (if (n55 != n58) = true then (J45 [(Value.bool true)] h57) else
                                                (S_lock_Table_For p3 n31 h57 fun (vs59 : List Value) (h60 : Hp) =>
                                                  ∃ l61 : Sl, vs59 = [(Value.slice l61.a l61.n l61.c)] ∧
                                                  S_liveryref06_Table_For (some (Addr.mk (Array.size h2) 0 none)) n31 h60 fun (vs62 : List Value) (h63 : Hp) =>
                                                  ∃ l64 : Sl, vs62 = [(Value.slice l64.a l64.n l64.c)] ∧
                                                  S_liverykeep_Ints ⟨l61.a, l61.n, l61.c⟩ ⟨l64.a, l64.n, l64.c⟩ h63 fun (vs65 : List Value) (h66 : Hp) =>
                                                  ∃ b67 : Bool, vs65 = [(Value.bool b67)] ∧
                                                  J45 [(Value.bool (!b67))] h66))))))))) → J30 [(Value.int .i64 n31)] h32) →
                              (if (n28 == (8 : Int)) = true then
                                (∃ n68 : Int, rd h29 (Addr.add (Addr.mk (Array.size h16) 0 none) 1) = some (Value.int .i64 n68) ∧
                                  J30 [(Value.int .i64 n68)] h29) else
                                (J30 [(Value.int .i64 n28)] h29))) else
                            (S_lock_Table_Names p3 h29 fun (vs69 : List Value) (h70 : Hp) =>
                              ∃ l71 : Sl, vs69 = [(Value.slice l71.a l71.n l71.c)] ∧
                              S_liveryref06_Table_Names (some (Addr.mk (Array.size h2) 0 none)) h70 fun (vs72 : List Value) (h73 : Hp) =>
                              ∃ l74 : Sl, vs72 = [(Value.slice l74.a l74.n l74.c)] ∧
                              S_liverykeep_Texts ⟨l71.a, l71.n, l71.c⟩ ⟨l74.a, l74.n, l74.c⟩ h73 fun (vs75 : List Value) (h76 : Hp) =>
                              ∃ b77 : Bool, vs75 = [(Value.bool b77)] ∧
                              (if (!b77) = true then
                                (Q [(Value.bool false)] h76) else
                                (X14 [(Value.int .i64 (IntKind.wrap .i64 (n15 + (1 : Int))))] h76))))) → X27 [(Value.int .i64 n28)] h29) →
                      X27 [(Value.int .i64 (0 : Int))] h26) → J25 [] h26) →
                  (if (n24 == (0 : Int)) = true then
                    (∃ n78 : Int, rd h23 (Addr.add (Addr.mk (Array.size h16) 0 none) 1) = some (Value.int .i64 n78) ∧
                      ∃ s79 : ByteArray, rd h23 (Addr.add (Addr.mk (Array.size h16) 0 none) 3) = some (Value.string s79) ∧
                      ∃ n80 : Int, rd h23 (Addr.add (Addr.mk (Array.size h16) 0 none) 2) = some (Value.int .i64 n80) ∧
                      ∃ n81 : Int, rd h23 (Addr.add (Addr.mk (Array.size h16) 0 none) 1) = some (Value.int .i64 n81) ∧
                      ∃ s82 : ByteArray, rd h23 (Addr.add (Addr.mk (Array.size h16) 0 none) 3) = some (Value.string s82) ∧
                      ∃ n83 : Int, rd h23 (Addr.add (Addr.mk (Array.size h16) 0 none) 2) = some (Value.int .i64 n83) ∧
                      S_lock_Table_Take p3 n78 s79 n80 h23 fun (vs84 : List Value) (h85 : Hp) =>
                      ∃ n86 : Int, vs84 = [(Value.int .i64 n86)] ∧
                      rd h85 (Addr.add (Addr.mk (Array.size h16) 0 none) 2) = some (Value.int .i64 n83) ∧ rd h85 (Addr.add (Addr.mk (Array.size h16) 0 none) 3) = some (Value.string s82) ∧ rd h85 (Addr.add (Addr.mk (Array.size h16) 0 none) 1) = some (Value.int .i64 n81) ∧ S_liveryref06_Table_Take (some (Addr.mk (Array.size h2) 0 none)) n81 s82 n83 h85 fun (vs87 : List Value) (h88 : Hp) =>
                      ∃ n89 : Int, vs87 = [(Value.int .i64 n89)] ∧
                      (if (n86 != n89) = true then
                        (Q [(Value.bool false)] h88) else
                        (J25 [] h88))) else
                    (∃ n90 : Int, rd h23 (Addr.add (Addr.mk (Array.size h16) 0 none) 1) = some (Value.int .i64 n90) ∧
                      ∃ n91 : Int, rd h23 (Addr.add (Addr.mk (Array.size h16) 0 none) 1) = some (Value.int .i64 n91) ∧
                      S_lock_Table_Release p3 n90 h23 fun (vs92 : List Value) (h93 : Hp) =>
                      ∃ l94 : Sl, vs92 = [(Value.slice l94.a l94.n l94.c)] ∧
                      rd h93 (Addr.add (Addr.mk (Array.size h16) 0 none) 1) = some (Value.int .i64 n91) ∧ S_liveryref06_Table_Release (some (Addr.mk (Array.size h2) 0 none)) n91 h93 fun (vs95 : List Value) (h96 : Hp) =>
                      ∃ l97 : Sl, vs95 = [(Value.slice l97.a l97.n l97.c)] ∧
                      S_liverykeep_Ints ⟨l94.a, l94.n, l94.c⟩ ⟨l97.a, l97.n, l97.c⟩ h96 fun (vs98 : List Value) (h99 : Hp) =>
                      ∃ b100 : Bool, vs98 = [(Value.bool b100)] ∧
                      (if (!b100) = true then
                        (Q [(Value.bool false)] h99) else
                        (J25 [] h99)))))) else
              (S_liverylaw06_wakes  h16 fun (vs101 : List Value) (h102 : Hp) =>
                ∃ b103 : Bool, vs101 = [(Value.bool b103)] ∧
                Q [(Value.bool b103)] h102))) → X14 [(Value.int .i64 n15)] h16) →
        X14 [(Value.int .i64 (0 : Int))] h7))) → J5 [(Value.bool b6)] h7) →
(if (Option.isNone p3) = true then (J5 [(Value.bool true)] h4) else
  (S_liverylaw06_fair ⟨g0_l.a, g0_l.n, g0_l.c⟩ h4 fun (vs104 : List Value) (h105 : Hp) =>
    ∃ b106 : Bool, vs104 = [(Value.bool b106)] ∧
    J5 [(Value.bool (!b106))] h105))
def A_liverylaw06_LockPlays : Ann := (.mk none ⟨[], []⟩ .nil (.mk none ⟨[], []⟩ .nil (.mk none ⟨[], []⟩ (.mk none ⟨[], []⟩ (.mk (some ⟨[0, 3, 4], [(22, (.c .bool))]⟩) ⟨[], []⟩ .nil .nil) (.mk none ⟨[], []⟩ (.mk none ⟨[], []⟩ (.mk (some ⟨[], [(2, (.c .bool))]⟩) ⟨[], []⟩ .nil .nil) .nil) .nil)) (.mk none ⟨[], []⟩ (.mk none ⟨[], []⟩ .nil (.mk none ⟨[], []⟩ (.mk none ⟨[0, 3, 4], [(5, (.c (.int .i64)))]⟩ (.mk none ⟨[], []⟩ .nil (.mk none ⟨[], []⟩ (.mk none ⟨[], []⟩ (.mk none ⟨[], []⟩ .nil (.mk none ⟨[], []⟩ (.mk none ⟨[], []⟩ .nil (.mk (some ⟨[0, 3, 4, 5, 6], []⟩) ⟨[], []⟩ .nil .nil)) (.mk none ⟨[], []⟩ (.mk none ⟨[], []⟩ .nil (.mk none ⟨[], []⟩ (.mk none ⟨[0, 3, 4, 5, 6], [(7, (.c (.int .i64)))]⟩ (.mk none ⟨[], []⟩ .nil (.mk none ⟨[], []⟩ (.mk none ⟨[], []⟩ (.mk none ⟨[], []⟩ .nil (.mk none ⟨[], []⟩ (.mk none ⟨[], []⟩ .nil (.mk (some ⟨[0, 3, 4, 5, 6, 7], [(8, (.c (.int .i64)))]⟩) ⟨[], []⟩ .nil .nil)) (.mk none ⟨[], []⟩ .nil (.mk none ⟨[], []⟩ .nil (.mk none ⟨[], []⟩ (.mk (some ⟨[0, 3, 4, 5, 6, 7], [(125, (.c .bool))]⟩) ⟨[], []⟩ .nil .nil) .nil))))) .nil) .nil)) .nil) .nil)) .nil))) .nil) .nil)) .nil) .nil)) .nil))))
theorem E_liverylaw06_LockPlays (g0_l : Sl) (h : Hp) (Q : List Value → Hp → Prop) : cw PP 133 (fun _ => []) (bodyOf Try.f3) A_liverylaw06_LockPlays (finQ PP (Try.f3.results.toList) Q) (argFr [(Value.slice g0_l.a g0_l.n g0_l.c)]) h = F_liverylaw06_LockPlays g0_l h Q := by kernel_rfl
theorem O_liverylaw06_LockPlays (g0_l : Sl) {h : Hp} {Q : List Value → Hp → Prop} (H : F_liverylaw06_LockPlays g0_l h Q) : S_liverylaw06_LockPlays g0_l h Q :=
  fn_of_cw (hs := (fun _ => [])) (ann := A_liverylaw06_LockPlays) (args := [(Value.slice g0_l.a g0_l.n g0_l.c)]) mixedPP Try.func3 (c := bodyOf Try.f3) (by kernel_rfl) (by kernel_rfl) (by kernel_rfl) (Eq.mpr (E_liverylaw06_LockPlays g0_l h Q) H)
def F_liverykeep_Mod (g0_k : Int) (g1_n : Int) (h : Hp) (Q : List Value → Hp → Prop) : Prop :=
(if (decide (g1_n < (1 : Int))) = true then
  (Q [(Value.int .i64 (0 : Int))] h) else
  (divOk g1_n (divOk g1_n (Q [(Value.int .i64 (Int.tmod (IntKind.wrap .i64 ((Int.tmod g0_k g1_n) + g1_n)) g1_n))] h))))
def A_liverykeep_Mod : Ann := .nil
theorem E_liverykeep_Mod (g0_k : Int) (g1_n : Int) (h : Hp) (Q : List Value → Hp → Prop) : cw PP 14 (fun _ => []) (bodyOf Try.f27) A_liverykeep_Mod (finQ PP (Try.f27.results.toList) Q) (argFr [(Value.int .i64 g0_k), (Value.int .i64 g1_n)]) h = F_liverykeep_Mod g0_k g1_n h Q := by kernel_rfl
theorem O_liverykeep_Mod (g0_k : Int) (g1_n : Int) {h : Hp} {Q : List Value → Hp → Prop} (H : F_liverykeep_Mod g0_k g1_n h Q) : S_liverykeep_Mod g0_k g1_n h Q :=
  fn_of_cw (hs := (fun _ => [])) (ann := A_liverykeep_Mod) (args := [(Value.int .i64 g0_k), (Value.int .i64 g1_n)]) mixedPP Try.func27 (c := bodyOf Try.f27) (by kernel_rfl) (by kernel_rfl) (by kernel_rfl) (Eq.mpr (E_liverykeep_Mod g0_k g1_n h Q) H)
def F_liveryref05_Any (g0_set : Int) (g1_m : Int) (h : Hp) (Q : List Value → Hp → Prop) : Prop :=
∀ X1 : List Value → Hp → Prop, (∀ n2 : Int, ∀ h3 : Hp, ((if (decide (n2 ≤ (8 : Int))) = true then
      (∀ J4 : List Value → Hp → Prop, (∀ b5 : Bool, ∀ h6 : Hp, ((if b5 = true then
              (Q [(Value.bool true)] h6) else
              (X1 [(Value.int .i64 (IntKind.wrap .i64 (n2 + (1 : Int))))] h6))) → J4 [(Value.bool b5)] h6) →
        S_liveryref05_In g0_set n2 h3 fun (vs7 : List Value) (h8 : Hp) =>
        ∃ b9 : Bool, vs7 = [(Value.bool b9)] ∧
        (if b9 = true then (S_liveryref05_Bars g1_m n2 h8 fun (vs10 : List Value) (h11 : Hp) =>
            ∃ b12 : Bool, vs10 = [(Value.bool b12)] ∧
            J4 [(Value.bool b12)] h11) else
          (J4 [(Value.bool false)] h8))) else
      (Q [(Value.bool false)] h3))) → X1 [(Value.int .i64 n2)] h3) →
X1 [(Value.int .i64 (1 : Int))] h
def A_liveryref05_Any : Ann := (.mk none ⟨[], []⟩ .nil (.mk none ⟨[], []⟩ (.mk none ⟨[], []⟩ .nil (.mk none ⟨[], []⟩ (.mk none ⟨[0, 1], [(5, (.c (.int .i64)))]⟩ (.mk none ⟨[], []⟩ .nil (.mk none ⟨[], []⟩ (.mk none ⟨[], []⟩ (.mk none ⟨[], []⟩ (.mk (some ⟨[0, 1, 5], [(17, (.c .bool))]⟩) ⟨[], []⟩ .nil .nil) .nil) .nil) .nil)) .nil) .nil)) .nil))
theorem E_liveryref05_Any (g0_set : Int) (g1_m : Int) (h : Hp) (Q : List Value → Hp → Prop) : cw PP 18 (fun _ => []) (bodyOf Try.f43) A_liveryref05_Any (finQ PP (Try.f43.results.toList) Q) (argFr [(Value.int .i64 g0_set), (Value.int .i64 g1_m)]) h = F_liveryref05_Any g0_set g1_m h Q := by kernel_rfl
theorem O_liveryref05_Any (g0_set : Int) (g1_m : Int) {h : Hp} {Q : List Value → Hp → Prop} (H : F_liveryref05_Any g0_set g1_m h Q) : S_liveryref05_Any g0_set g1_m h Q :=
  fn_of_cw (hs := (fun _ => [])) (ann := A_liveryref05_Any) (args := [(Value.int .i64 g0_set), (Value.int .i64 g1_m)]) mixedPP Try.func43 (c := bodyOf Try.f43) (by kernel_rfl) (by kernel_rfl) (by kernel_rfl) (Eq.mpr (E_liveryref05_Any g0_set g1_m h Q) H)
def F_liverylaw06_bars (g0_a : Int) (g1_b : Int) (h : Hp) (Q : List Value → Hp → Prop) : Prop :=
∀ X1 : List Value → Hp → Prop, (∀ n2 : Int, ∀ h3 : Hp, ((if (decide (n2 ≤ (8 : Int))) = true then
      (∀ J4 : List Value → Hp → Prop, (∀ b5 : Bool, ∀ h6 : Hp, ((if b5 = true then
              (Q [(Value.bool true)] h6) else
              (X1 [(Value.int .i64 (IntKind.wrap .i64 (n2 + (1 : Int))))] h6))) → J4 [(Value.bool b5)] h6) →
        S_liveryref05_In g0_a n2 h3 fun (vs7 : List Value) (h8 : Hp) =>
        ∃ b9 : Bool, vs7 = [(Value.bool b9)] ∧
        (if b9 = true then (S_liveryref05_Any g1_b n2 h8 fun (vs10 : List Value) (h11 : Hp) =>
            ∃ b12 : Bool, vs10 = [(Value.bool b12)] ∧
            J4 [(Value.bool b12)] h11) else
          (J4 [(Value.bool false)] h8))) else
      (Q [(Value.bool false)] h3))) → X1 [(Value.int .i64 n2)] h3) →
X1 [(Value.int .i64 (1 : Int))] h
def A_liverylaw06_bars : Ann := (.mk none ⟨[], []⟩ .nil (.mk none ⟨[], []⟩ (.mk none ⟨[], []⟩ .nil (.mk none ⟨[], []⟩ (.mk none ⟨[0, 1], [(5, (.c (.int .i64)))]⟩ (.mk none ⟨[], []⟩ .nil (.mk none ⟨[], []⟩ (.mk none ⟨[], []⟩ (.mk none ⟨[], []⟩ (.mk (some ⟨[0, 1, 5], [(17, (.c .bool))]⟩) ⟨[], []⟩ .nil .nil) .nil) .nil) .nil)) .nil) .nil)) .nil))
theorem E_liverylaw06_bars (g0_a : Int) (g1_b : Int) (h : Hp) (Q : List Value → Hp → Prop) : cw PP 18 (fun _ => []) (bodyOf Try.f28) A_liverylaw06_bars (finQ PP (Try.f28.results.toList) Q) (argFr [(Value.int .i64 g0_a), (Value.int .i64 g1_b)]) h = F_liverylaw06_bars g0_a g1_b h Q := by kernel_rfl
theorem O_liverylaw06_bars (g0_a : Int) (g1_b : Int) {h : Hp} {Q : List Value → Hp → Prop} (H : F_liverylaw06_bars g0_a g1_b h Q) : S_liverylaw06_bars g0_a g1_b h Q :=
  fn_of_cw (hs := (fun _ => [])) (ann := A_liverylaw06_bars) (args := [(Value.int .i64 g0_a), (Value.int .i64 g1_b)]) mixedPP Try.func28 (c := bodyOf Try.f28) (by kernel_rfl) (by kernel_rfl) (by kernel_rfl) (Eq.mpr (E_liverylaw06_bars g0_a g1_b h Q) H)
def F_liverylaw06_LockApart (g0_l : Sl) (h : Hp) (Q : List Value → Hp → Prop) : Prop :=
S_lock_New  h fun (vs1 : List Value) (h2 : Hp) =>
∃ p3 : Option Addr, vs1 = [(Value.pointer p3)] ∧
∀ J4 : List Value → Hp → Prop, (∀ b5 : Bool, ∀ h6 : Hp, ((if b5 = true then
      (∀ J7 : List Value → Hp → Prop, (∀ b8 : Bool, ∀ h9 : Hp, (Q [(Value.bool b8)] h9) → J7 [(Value.bool b8)] h9) →
        (if (!(Option.isNone p3)) = true then (S_liverylaw06_wakes  h6 fun (vs10 : List Value) (h11 : Hp) =>
            ∃ b12 : Bool, vs10 = [(Value.bool b12)] ∧
            J7 [(Value.bool b12)] h11) else
          (J7 [(Value.bool false)] h6))) else
      (∀ X13 : List Value → Hp → Prop, (∀ n14 : Int, ∀ h15 : Hp, ((if (decide (n14 < (g0_l.n : Int))) = true then
              (nilW g0_l.a fun a16 => ixOk n14 g0_l.n (∃ n17 : Int, rd h15 (Addr.add (Addr.add a16 (Int.toNat n14 * 4)) 0) = some (Value.int .i64 n17) ∧ ∃ n18 : Int, rd h15 (Addr.add (Addr.add a16 (Int.toNat n14 * 4)) 1) = some (Value.int .i64 n18) ∧ ∃ n19 : Int, rd h15 (Addr.add (Addr.add a16 (Int.toNat n14 * 4)) 2) = some (Value.int .i64 n19) ∧ ∃ s20 : ByteArray, rd h15 (Addr.add (Addr.add a16 (Int.toNat n14 * 4)) 3) = some (Value.string s20) ∧ wth (Array.push h15 (Obj.cells #[(Value.int .i64 (0 : Int)), (Value.int .i64 (0 : Int)), (Value.int .i64 (0 : Int)), (Value.string (ByteArray.mk #[]))] T_liverylaw06_Step)) fun h21 =>
                  stOk h21 (Addr.mk (Array.size h15) 0 none) 4 ∧ wth (wrs h21 (Addr.mk (Array.size h15) 0 none) 0 [(Value.int .i64 n17), (Value.int .i64 n18), (Value.int .i64 n19), (Value.string s20)]) fun h22 =>
                  ∃ n23 : Int, rd h22 (Addr.add (Addr.mk (Array.size h15) 0 none) 1) = some (Value.int .i64 n23) ∧
                  S_liverykeep_Mod n23 (8 : Int) h22 fun (vs24 : List Value) (h25 : Hp) =>
                  ∃ n26 : Int, vs24 = [(Value.int .i64 n26)] ∧
                  ∃ n27 : Int, rd h25 (Addr.add (Addr.mk (Array.size h15) 0 none) 0) = some (Value.int .i64 n27) ∧
                  ∀ J28 : List Value → Hp → Prop, (∀ h29 : Hp, (S_lock_Table_Names p3 h29 fun (vs30 : List Value) (h31 : Hp) =>
                      ∃ l32 : Sl, vs30 = [(Value.slice l32.a l32.n l32.c)] ∧
                      ∀ X33 : List Value → Hp → Prop, (∀ n34 : Int, ∀ h35 : Hp, ((if (decide (n34 < (l32.n : Int))) = true then
                            (∀ X36 : List Value → Hp → Prop, (∀ n37 : Int, ∀ h38 : Hp, ((if (decide (n37 ≤ (8 : Int))) = true then
                                    (∀ X39 : List Value → Hp → Prop, (∀ n40 : Int, ∀ h41 : Hp, ((if (decide (n40 ≤ (8 : Int))) = true then
                                            (∀ J42 : List Value → Hp → Prop, (∀ b43 : Bool, ∀ h44 : Hp, ((if b43 = true then
                                                    (Q [(Value.bool false)] h44) else
                                                    (X39 [(Value.int .i64 (IntKind.wrap .i64 (n40 + (1 : Int))))] h44))) → J42 [(Value.bool b43)] h44) →
                                              (if (n37 != n40) = true then (nilW l32.a fun a45 => ixOk n34 l32.n (∃ s46 : ByteArray, rd h41 (Addr.add a45 (Int.toNat n34 * 1)) = some (Value.string s46) ∧
                                                    nilW l32.a fun a47 => ixOk n34 l32.n (∃ s48 : ByteArray, rd h41 (Addr.add a47 (Int.toNat n34 * 1)) = some (Value.string s48) ∧
                                                      S_lock_Table_Modes p3 n37 s46 h41 fun (vs49 : List Value) (h50 : Hp) =>
                                                      ∃ n51 : Int, vs49 = [(Value.int .i64 n51)] ∧
                                                      rd h50 (Addr.add a47 (Int.toNat n34 * 1)) = some (Value.string s48) ∧ S_lock_Table_Modes p3 n40 s48 h50 fun (vs52 : List Value) (h53 : Hp) =>
                                                      ∃ n54 : Int, vs52 = [(Value.int .i64 n54)] ∧
                                                      S_liverylaw06_bars n51 n54 h53 fun (vs55 : List Value) (h56 : Hp) =>
                                                      ∃ b57 : Bool, vs55 = [(Value.bool b57)] ∧
                                                      J42 [(Value.bool b57)] h56))) else
                                                (J42 [(Value.bool false)] h41))) else
                                            (X36 [(Value.int .i64 (IntKind.wrap .i64 (n37 + (1 : Int))))] h41))) → X39 [(Value.int .i64 n40)] h41) →
                                      X39 [(Value.int .i64 (1 : Int))] h38) else
                                    (X33 [(Value.int .i64 (IntKind.wrap .i64 (n34 + (1 : Int))))] h38))) → X36 [(Value.int .i64 n37)] h38) →
                              X36 [(Value.int .i64 (1 : Int))] h35) else
                            (∀ X58 : List Value → Hp → Prop, (∀ n59 : Int, ∀ h60 : Hp, ((if (decide (n59 ≤ (8 : Int))) = true then
                                    (S_lock_Table_Waits p3 n59 h60 fun (vs61 : List Value) (h62 : Hp) =>
                                      ∃ s63 : ByteArray, ∃ n64 : Int, ∃ b65 : Bool, vs61 = [(Value.string s63), (Value.int .i64 n64), (Value.bool b65)] ∧
                                      ∀ J66 : List Value → Hp → Prop, (∀ b67 : Bool, ∀ h68 : Hp, ((if b67 = true then
                                            (Q [(Value.bool false)] h68) else
                                            (X58 [(Value.int .i64 (IntKind.wrap .i64 (n59 + (1 : Int))))] h68))) → J66 [(Value.bool b67)] h68) →
                                      (if b65 = true then (S_lock_Table_Modes p3 n59 s63 h62 fun (vs69 : List Value) (h70 : Hp) =>
                                          ∃ n71 : Int, vs69 = [(Value.int .i64 n71)] ∧
                                          S_liveryref05_In n71 n64 h70 fun (vs72 : List Value) (h73 : Hp) =>
                                          ∃ b74 : Bool, vs72 = [(Value.bool b74)] ∧
                                          (if b74 = true then (J66 [(Value.bool true)] h73) else
                                            (S_lock_Table_For p3 n59 h73 fun (vs75 : List Value) (h76 : Hp) =>
                                              ∃ l77 : Sl, vs75 = [(Value.slice l77.a l77.n l77.c)] ∧
                                              J66 [(Value.bool ((l77.n : Int) == (0 : Int)))] h76))) else
                                        (J66 [(Value.bool false)] h62))) else
                                    (X13 [(Value.int .i64 (IntKind.wrap .i64 (n14 + (1 : Int))))] h60))) → X58 [(Value.int .i64 n59)] h60) →
                              X58 [(Value.int .i64 (1 : Int))] h35))) → X33 [(Value.int .i64 n34)] h35) →
                      X33 [(Value.int .i64 (0 : Int))] h31) → J28 [] h29) →
                  (if (n27 == (0 : Int)) = true then
                    (∃ s78 : ByteArray, rd h25 (Addr.add (Addr.mk (Array.size h15) 0 none) 3) = some (Value.string s78) ∧
                      ∃ n79 : Int, rd h25 (Addr.add (Addr.mk (Array.size h15) 0 none) 2) = some (Value.int .i64 n79) ∧
                      S_lock_Table_Take p3 (IntKind.wrap .i64 ((1 : Int) + n26)) s78 n79 h25 fun (vs80 : List Value) (h81 : Hp) =>
                      ∃ n82 : Int, vs80 = [(Value.int .i64 n82)] ∧
                      J28 [] h81) else
                    (S_lock_Table_Release p3 (IntKind.wrap .i64 ((1 : Int) + n26)) h25 fun (vs83 : List Value) (h84 : Hp) =>
                      ∃ l85 : Sl, vs83 = [(Value.slice l85.a l85.n l85.c)] ∧
                      J28 [] h84)))) else
              (S_liverylaw06_wakes  h15 fun (vs86 : List Value) (h87 : Hp) =>
                ∃ b88 : Bool, vs86 = [(Value.bool b88)] ∧
                Q [(Value.bool b88)] h87))) → X13 [(Value.int .i64 n14)] h15) →
        X13 [(Value.int .i64 (0 : Int))] h6))) → J4 [(Value.bool b5)] h6) →
(if (Option.isNone p3) = true then (J4 [(Value.bool true)] h2) else
  (S_liverylaw06_fair ⟨g0_l.a, g0_l.n, g0_l.c⟩ h2 fun (vs89 : List Value) (h90 : Hp) =>
    ∃ b91 : Bool, vs89 = [(Value.bool b91)] ∧
    J4 [(Value.bool (!b91))] h90))
def A_liverylaw06_LockApart : Ann := (.mk none ⟨[], []⟩ .nil (.mk none ⟨[], []⟩ .nil (.mk none ⟨[], []⟩ (.mk none ⟨[], []⟩ (.mk (some ⟨[0, 3], [(22, (.c .bool))]⟩) ⟨[], []⟩ .nil .nil) (.mk none ⟨[], []⟩ (.mk none ⟨[], []⟩ (.mk (some ⟨[], [(2, (.c .bool))]⟩) ⟨[], []⟩ .nil .nil) .nil) .nil)) (.mk none ⟨[], []⟩ (.mk none ⟨[], []⟩ .nil (.mk none ⟨[], []⟩ (.mk none ⟨[0, 3], [(4, (.c (.int .i64)))]⟩ (.mk none ⟨[], []⟩ .nil (.mk none ⟨[], []⟩ (.mk none ⟨[], []⟩ (.mk none ⟨[], []⟩ .nil (.mk none ⟨[], []⟩ .nil (.mk none ⟨[], []⟩ (.mk none ⟨[], []⟩ .nil (.mk (some ⟨[0, 3, 4], []⟩) ⟨[], []⟩ .nil .nil)) (.mk none ⟨[], []⟩ .nil (.mk none ⟨[], []⟩ (.mk none ⟨[], []⟩ .nil (.mk none ⟨[], []⟩ (.mk none ⟨[0, 3, 4, 7], [(8, (.c (.int .i64)))]⟩ (.mk none ⟨[], []⟩ .nil (.mk none ⟨[], []⟩ (.mk none ⟨[], []⟩ (.mk none ⟨[], []⟩ .nil (.mk none ⟨[], []⟩ (.mk none ⟨[0, 3, 4, 7, 8], [(9, (.c (.int .i64)))]⟩ (.mk none ⟨[], []⟩ .nil (.mk none ⟨[], []⟩ (.mk none ⟨[], []⟩ (.mk none ⟨[], []⟩ .nil (.mk none ⟨[], []⟩ (.mk none ⟨[0, 3, 4, 7, 8, 9], [(10, (.c (.int .i64)))]⟩ (.mk none ⟨[], []⟩ .nil (.mk none ⟨[], []⟩ (.mk none ⟨[], []⟩ (.mk none ⟨[], []⟩ (.mk (some ⟨[0, 3, 4, 7, 8, 9, 10], [(90, (.c .bool))]⟩) ⟨[], []⟩ .nil .nil) .nil) .nil) .nil)) .nil) .nil)) .nil) .nil)) .nil) .nil)) .nil) .nil)) .nil) .nil)) (.mk none ⟨[], []⟩ .nil (.mk none ⟨[], []⟩ (.mk none ⟨[0, 3, 4], [(11, (.c (.int .i64)))]⟩ (.mk none ⟨[], []⟩ .nil (.mk none ⟨[], []⟩ (.mk none ⟨[], []⟩ (.mk none ⟨[], []⟩ .nil (.mk none ⟨[], []⟩ (.mk (some ⟨[0, 3, 4, 11], [(117, (.c .bool))]⟩) ⟨[], []⟩ .nil .nil) .nil)) .nil) .nil)) .nil) .nil))))))) .nil) .nil)) .nil) .nil)) .nil))))
theorem E_liverylaw06_LockApart (g0_l : Sl) (h : Hp) (Q : List Value → Hp → Prop) : cw PP 119 (fun _ => []) (bodyOf Try.f4) A_liverylaw06_LockApart (finQ PP (Try.f4.results.toList) Q) (argFr [(Value.slice g0_l.a g0_l.n g0_l.c)]) h = F_liverylaw06_LockApart g0_l h Q := by kernel_rfl
theorem O_liverylaw06_LockApart (g0_l : Sl) {h : Hp} {Q : List Value → Hp → Prop} (H : F_liverylaw06_LockApart g0_l h Q) : S_liverylaw06_LockApart g0_l h Q :=
  fn_of_cw (hs := (fun _ => [])) (ann := A_liverylaw06_LockApart) (args := [(Value.slice g0_l.a g0_l.n g0_l.c)]) mixedPP Try.func4 (c := bodyOf Try.f4) (by kernel_rfl) (by kernel_rfl) (by kernel_rfl) (Eq.mpr (E_liverylaw06_LockApart g0_l h Q) H)
def F_liverylaw06_LockEnds (g0_l : Sl) (g1_order : Sl) (h : Hp) (Q : List Value → Hp → Prop) : Prop :=
S_lock_New  h fun (vs1 : List Value) (h2 : Hp) =>
∃ p3 : Option Addr, vs1 = [(Value.pointer p3)] ∧
∀ J4 : List Value → Hp → Prop, (∀ b5 : Bool, ∀ h6 : Hp, ((if b5 = true then
      (∀ J7 : List Value → Hp → Prop, (∀ b8 : Bool, ∀ h9 : Hp, (Q [(Value.bool b8)] h9) → J7 [(Value.bool b8)] h9) →
        (if (!(Option.isNone p3)) = true then (S_liverylaw06_wakes  h6 fun (vs10 : List Value) (h11 : Hp) =>
            ∃ b12 : Bool, vs10 = [(Value.bool b12)] ∧
            J7 [(Value.bool b12)] h11) else
          (J7 [(Value.bool false)] h6))) else
      (∀ X13 : List Value → Hp → Prop, (∀ n14 : Int, ∀ h15 : Hp, ((if (decide (n14 < (g0_l.n : Int))) = true then
              (nilW g0_l.a fun a16 => ixOk n14 g0_l.n (∃ n17 : Int, rd h15 (Addr.add (Addr.add a16 (Int.toNat n14 * 4)) 1) = some (Value.int .i64 n17) ∧
                  nilW g0_l.a fun a18 => ixOk n14 g0_l.n (∃ s19 : ByteArray, rd h15 (Addr.add (Addr.add a18 (Int.toNat n14 * 4)) 3) = some (Value.string s19) ∧
                    nilW g0_l.a fun a20 => ixOk n14 g0_l.n (∃ n21 : Int, rd h15 (Addr.add (Addr.add a20 (Int.toNat n14 * 4)) 2) = some (Value.int .i64 n21) ∧
                      S_liverykeep_Mod n17 (8 : Int) h15 fun (vs22 : List Value) (h23 : Hp) =>
                      ∃ n24 : Int, vs22 = [(Value.int .i64 n24)] ∧
                      rd h23 (Addr.add (Addr.add a20 (Int.toNat n14 * 4)) 2) = some (Value.int .i64 n21) ∧ rd h23 (Addr.add (Addr.add a18 (Int.toNat n14 * 4)) 3) = some (Value.string s19) ∧ S_lock_Table_Take p3 (IntKind.wrap .i64 ((1 : Int) + n24)) s19 n21 h23 fun (vs25 : List Value) (h26 : Hp) =>
                      ∃ n27 : Int, vs25 = [(Value.int .i64 n27)] ∧
                      X13 [(Value.int .i64 (IntKind.wrap .i64 (n14 + (1 : Int))))] h26)))) else
              (wth (Array.push h15 (Obj.cells #[(Value.bool false), (Value.bool false), (Value.bool false), (Value.bool false), (Value.bool false), (Value.bool false), (Value.bool false), (Value.bool false), (Value.bool false)] T_9_bool)) fun h28 =>
                ∀ X29 : List Value → Hp → Prop, (∀ n30 : Int, ∀ h31 : Hp, (∀ J32 : List Value → Hp → Prop, (∀ b33 : Bool, ∀ h34 : Hp, ((if b33 = true then
                          (divOk (8 : Int) (∀ J35 : List Value → Hp → Prop, (∀ n36 : Int, ∀ h37 : Hp, (wth (Array.push h37 (Obj.cells #[(Value.bool false), (Value.bool false), (Value.bool false), (Value.bool false), (Value.bool false), (Value.bool false), (Value.bool false), (Value.bool false), (Value.bool false)] T_9_bool)) fun h38 =>
                                  stOk h38 (Addr.mk (Array.size h37) 0 none) 9 ∧ wth (wrs h38 (Addr.mk (Array.size h37) 0 none) 0 [(Value.bool false), (Value.bool false), (Value.bool false), (Value.bool false), (Value.bool false), (Value.bool false), (Value.bool false), (Value.bool false), (Value.bool false)]) fun h39 =>
                                  ∀ X40 : List Value → Hp → Prop, (∀ n41 : Int, ∀ h42 : Hp, ((if (decide (n41 ≤ (8 : Int))) = true then
                                        (S_lock_Table_Waits p3 n41 h42 fun (vs43 : List Value) (h44 : Hp) =>
                                          ∃ s45 : ByteArray, ∃ n46 : Int, ∃ b47 : Bool, vs43 = [(Value.string s45), (Value.int .i64 n46), (Value.bool b47)] ∧
                                          ixOk n41 9 (stOk h44 (Addr.add (Addr.mk (Array.size h37) 0 none) (Int.toNat n41 * 1)) 1 ∧ wth (wrs h44 (Addr.add (Addr.mk (Array.size h37) 0 none) (Int.toNat n41 * 1)) 0 [(Value.bool b47)]) fun h48 =>
                                            X40 [(Value.int .i64 (IntKind.wrap .i64 (n41 + (1 : Int))))] h48)) else
                                        (S_lock_Table_Release p3 n36 h42 fun (vs49 : List Value) (h50 : Hp) =>
                                          ∃ l51 : Sl, vs49 = [(Value.slice l51.a l51.n l51.c)] ∧
                                          ∀ X52 : List Value → Hp → Prop, (∀ n53 : Int, ∀ h54 : Hp, ((if (decide (n53 < (l51.n : Int))) = true then
                                                (∀ J55 : List Value → Hp → Prop, (∀ b56 : Bool, ∀ h57 : Hp, ((if b56 = true then
                                                        (Q [(Value.bool false)] h57) else
                                                        (nilW l51.a fun a58 => ixOk n53 l51.n (∃ n59 : Int, rd h57 (Addr.add a58 (Int.toNat n53 * 1)) = some (Value.int .i64 n59) ∧
                                                            ixOk n59 9 (stOk h57 (Addr.add (Addr.mk (Array.size h37) 0 none) (Int.toNat n59 * 1)) 1 ∧ wth (wrs h57 (Addr.add (Addr.mk (Array.size h37) 0 none) (Int.toNat n59 * 1)) 0 [(Value.bool false)]) fun h60 =>
                                                            X52 [(Value.int .i64 (IntKind.wrap .i64 (n53 + (1 : Int))))] h60))))) → J55 [(Value.bool b56)] h57) →
                                                  nilW l51.a fun a61 => ixOk n53 l51.n (∃ n62 : Int, rd h54 (Addr.add a61 (Int.toNat n53 * 1)) = some (Value.int .i64 n62) ∧
                                                    (if (decide (n62 < (1 : Int))) = true then (J55 [(Value.bool true)] h54) else
                                                      (nilW l51.a fun a63 => ixOk n53 l51.n (∃ n64 : Int, rd h54 (Addr.add a63 (Int.toNat n53 * 1)) = some (Value.int .i64 n64) ∧
                                                          (if (decide (n64 > (8 : Int))) = true then (J55 [(Value.bool true)] h54) else
                                                            (nilW l51.a fun a65 => ixOk n53 l51.n (∃ n66 : Int, rd h54 (Addr.add a65 (Int.toNat n53 * 1)) = some (Value.int .i64 n66) ∧
                                                            ixOk n66 9 (∃ b67 : Bool, rd h54 (Addr.add (Addr.mk (Array.size h37) 0 none) (Int.toNat n66 * 1)) = some (Value.bool b67) ∧
                                                            (if (!b67) = true then (J55 [(Value.bool true)] h54) else
                                                            (nilW l51.a fun a68 => ixOk n53 l51.n (∃ n69 : Int, rd h54 (Addr.add a68 (Int.toNat n53 * 1)) = some (Value.int .i64 n69) ∧
                                                            J55 [(Value.bool (n69 == n36))] h54)))))))))))) else
                                                (∀ X70 : List Value → Hp → Prop, (∀ n71 : Int, ∀ h72 : Hp, ((if (decide (n71 ≤ (8 : Int))) = true then
                                                        (S_lock_Table_Waits p3 n71 h72 fun (vs73 : List Value) (h74 : Hp) =>
                                                          ∃ s75 : ByteArray, ∃ n76 : Int, ∃ b77 : Bool, vs73 = [(Value.string s75), (Value.int .i64 n76), (Value.bool b77)] ∧
                                                          ∀ J78 : List Value → Hp → Prop, (∀ b79 : Bool, ∀ h80 : Hp, ((if b79 = true then
                                                            (Q [(Value.bool false)] h80) else
                                                            (X70 [(Value.int .i64 (IntKind.wrap .i64 (n71 + (1 : Int))))] h80))) → J78 [(Value.bool b79)] h80) →
                                                          ixOk n71 9 (∃ b81 : Bool, rd h74 (Addr.add (Addr.mk (Array.size h37) 0 none) (Int.toNat n71 * 1)) = some (Value.bool b81) ∧
                                                            (if b81 = true then (J78 [(Value.bool (!(b77 == (n71 != n36))))] h74) else
                                                            (J78 [(Value.bool (!(b77 == false)))] h74)))) else
                                                        (ixOk n36 9 (stOk h72 (Addr.add (Addr.mk (Array.size h15) 0 none) (Int.toNat n36 * 1)) 1 ∧ wth (wrs h72 (Addr.add (Addr.mk (Array.size h15) 0 none) (Int.toNat n36 * 1)) 0 [(Value.bool true)]) fun h82 =>
                                                            X29 [(Value.int .i64 (IntKind.wrap .i64 (n30 + (1 : Int))))] h82)))) → X70 [(Value.int .i64 n71)] h72) →
                                                  X70 [(Value.int .i64 (1 : Int))] h54))) → X52 [(Value.int .i64 n53)] h54) →
                                          X52 [(Value.int .i64 (0 : Int))] h50))) → X40 [(Value.int .i64 n41)] h42) →
                                  X40 [(Value.int .i64 (1 : Int))] h39) → J35 [(Value.int .i64 n36)] h37) →
                              (if (decide (n30 < (g1_order.n : Int))) = true then
                                (nilW g1_order.a fun a83 => ixOk n30 g1_order.n (∃ n84 : Int, rd h34 (Addr.add a83 (Int.toNat n30 * 1)) = some (Value.int .u8 n84) ∧
                                    divOk (8 : Int) (J35 [(Value.int .i64 (IntKind.wrap .i64 ((1 : Int) + (Int.tmod (IntKind.wrap .i64 n84) (8 : Int)))))] h34))) else
                                (J35 [(Value.int .i64 (IntKind.wrap .i64 ((1 : Int) + (Int.tmod n30 (8 : Int)))))] h34)))) else
                          (∀ X85 : List Value → Hp → Prop, (∀ n86 : Int, ∀ h87 : Hp, ((if (decide (n86 ≤ (8 : Int))) = true then
                                  (S_lock_Table_Release p3 n86 h87 fun (vs88 : List Value) (h89 : Hp) =>
                                    ∃ l90 : Sl, vs88 = [(Value.slice l90.a l90.n l90.c)] ∧
                                    X85 [(Value.int .i64 (IntKind.wrap .i64 (n86 + (1 : Int))))] h89) else
                                  (S_lock_Table_Names p3 h87 fun (vs91 : List Value) (h92 : Hp) =>
                                    ∃ l93 : Sl, vs91 = [(Value.slice l93.a l93.n l93.c)] ∧
                                    (if ((l93.n : Int) == (0 : Int)) = true then ((if (decide ((g1_order.n : Int) > (0 : Int))) = true then (S_liverylaw06_wakes  h92 fun (vs94 : List Value) (h95 : Hp) =>
                                            ∃ b96 : Bool, vs94 = [(Value.bool b96)] ∧
                                            Q [(Value.bool b96)] h95) else
                                          (ixOk (8 : Int) 9 (∃ b97 : Bool, rd h92 (Addr.add (Addr.mk (Array.size h15) 0 none) (Int.toNat (8 : Int) * 1)) = some (Value.bool b97) ∧
                                              (if b97 = true then (S_liverylaw06_wakes  h92 fun (vs98 : List Value) (h99 : Hp) =>
                                                  ∃ b100 : Bool, vs98 = [(Value.bool b100)] ∧
                                                  Q [(Value.bool b100)] h99) else
                                                (Q [(Value.bool false)] h92)))))) else
                                      (Q [(Value.bool false)] h92))))) → X85 [(Value.int .i64 n86)] h87) →
                            X85 [(Value.int .i64 (1 : Int))] h34))) → J32 [(Value.bool b33)] h34) →
                    (if (decide (n30 < (IntKind.wrap .i64 ((8 : Int) + (g1_order.n : Int))))) = true then (J32 [(Value.bool (decide (n30 < (108 : Int))))] h31) else
                      (J32 [(Value.bool false)] h31))) → X29 [(Value.int .i64 n30)] h31) →
                X29 [(Value.int .i64 (0 : Int))] h28))) → X13 [(Value.int .i64 n14)] h15) →
        X13 [(Value.int .i64 (0 : Int))] h6))) → J4 [(Value.bool b5)] h6) →
(if (Option.isNone p3) = true then (J4 [(Value.bool true)] h2) else
  (S_liverylaw06_fair ⟨g0_l.a, g0_l.n, g0_l.c⟩ h2 fun (vs101 : List Value) (h102 : Hp) =>
    ∃ b103 : Bool, vs101 = [(Value.bool b103)] ∧
    J4 [(Value.bool (!b103))] h102))
def A_liverylaw06_LockEnds : Ann := (.mk none ⟨[], []⟩ .nil (.mk none ⟨[], []⟩ .nil (.mk none ⟨[], []⟩ (.mk none ⟨[], []⟩ (.mk (some ⟨[0, 1, 5], [(26, (.c .bool))]⟩) ⟨[], []⟩ .nil .nil) (.mk none ⟨[], []⟩ (.mk none ⟨[], []⟩ (.mk (some ⟨[], [(4, (.c .bool))]⟩) ⟨[], []⟩ .nil .nil) .nil) .nil)) (.mk none ⟨[], []⟩ (.mk none ⟨[], []⟩ .nil (.mk none ⟨[], []⟩ (.mk none ⟨[0, 1, 5], [(6, (.c (.int .i64)))]⟩ .nil .nil) .nil)) (.mk none ⟨[], []⟩ .nil (.mk none ⟨[], []⟩ (.mk none ⟨[], []⟩ .nil (.mk none ⟨[], []⟩ (.mk none ⟨[1, 5, 7], [(8, (.c (.int .i64)))]⟩ (.mk none ⟨[], []⟩ (.mk none ⟨[], []⟩ (.mk (some ⟨[1, 5, 7, 8], [(65, (.c .bool))]⟩) ⟨[], []⟩ .nil .nil) .nil) (.mk none ⟨[], []⟩ (.mk none ⟨[], []⟩ (.mk none ⟨[], []⟩ .nil (.mk none ⟨[], []⟩ (.mk none ⟨[], []⟩ .nil (.mk (some ⟨[1, 5, 7, 8], [(9, (.c (.int .i64)))]⟩) ⟨[], []⟩ .nil .nil)) (.mk none ⟨[], []⟩ .nil (.mk none ⟨[], []⟩ (.mk none ⟨[], []⟩ .nil (.mk none ⟨[], []⟩ (.mk none ⟨[1, 5, 7, 8, 9, 10], [(11, (.c (.int .i64)))]⟩ .nil .nil) .nil)) (.mk none ⟨[], []⟩ .nil (.mk none ⟨[], []⟩ (.mk none ⟨[], []⟩ .nil (.mk none ⟨[], []⟩ (.mk none ⟨[1, 5, 7, 8, 9, 10, 12], [(13, (.c (.int .i64)))]⟩ (.mk none ⟨[], []⟩ .nil (.mk none ⟨[], []⟩ (.mk none ⟨[], []⟩ (.mk none ⟨[], []⟩ (.mk none ⟨[], []⟩ (.mk (some ⟨[1, 5, 7, 8, 9, 10, 12, 13], [(133, (.c .bool))]⟩) ⟨[], []⟩ .nil .nil) .nil) .nil) .nil) .nil)) .nil) .nil)) (.mk none ⟨[], []⟩ (.mk none ⟨[], []⟩ .nil (.mk none ⟨[], []⟩ (.mk none ⟨[1, 5, 7, 8, 9, 10], [(14, (.c (.int .i64)))]⟩ (.mk none ⟨[], []⟩ .nil (.mk none ⟨[], []⟩ (.mk none ⟨[], []⟩ (.mk none ⟨[], []⟩ .nil (.mk none ⟨[], []⟩ (.mk (some ⟨[1, 5, 7, 8, 9, 10, 14], [(159, (.c .bool))]⟩) ⟨[], []⟩ .nil .nil) .nil)) .nil) .nil)) .nil) .nil)) .nil))))))) .nil) .nil)) .nil) .nil)) (.mk none ⟨[], []⟩ (.mk none ⟨[], []⟩ .nil (.mk none ⟨[], []⟩ (.mk none ⟨[1, 5, 7], [(18, (.c (.int .i64)))]⟩ .nil .nil) .nil)) .nil)))))))
theorem E_liverylaw06_LockEnds (g0_l : Sl) (g1_order : Sl) (h : Hp) (Q : List Value → Hp → Prop) : cw PP 185 (fun _ => []) (bodyOf Try.f5) A_liverylaw06_LockEnds (finQ PP (Try.f5.results.toList) Q) (argFr [(Value.slice g0_l.a g0_l.n g0_l.c), (Value.slice g1_order.a g1_order.n g1_order.c)]) h = F_liverylaw06_LockEnds g0_l g1_order h Q := by kernel_rfl
theorem O_liverylaw06_LockEnds (g0_l : Sl) (g1_order : Sl) {h : Hp} {Q : List Value → Hp → Prop} (H : F_liverylaw06_LockEnds g0_l g1_order h Q) : S_liverylaw06_LockEnds g0_l g1_order h Q :=
  fn_of_cw (hs := (fun _ => [])) (ann := A_liverylaw06_LockEnds) (args := [(Value.slice g0_l.a g0_l.n g0_l.c), (Value.slice g1_order.a g1_order.n g1_order.c)]) mixedPP Try.func5 (c := bodyOf Try.f5) (by kernel_rfl) (by kernel_rfl) (by kernel_rfl) (Eq.mpr (E_liverylaw06_LockEnds g0_l g1_order h Q) H)
def F_liverylaw06_LockTurns (g0_order : Sl) (h : Hp) (Q : List Value → Hp → Prop) : Prop :=
S_lock_New  h fun (vs1 : List Value) (h2 : Hp) =>
∃ p3 : Option Addr, vs1 = [(Value.pointer p3)] ∧
∀ J4 : List Value → Hp → Prop, (∀ b5 : Bool, ∀ h6 : Hp, ((if b5 = true then
      (Q [(Value.bool false)] h6) else
      (wth (Array.push h6 (Obj.cells #[(Value.bool false), (Value.bool false), (Value.bool false), (Value.bool false), (Value.bool false), (Value.bool false), (Value.bool false), (Value.bool false), (Value.bool false), (Value.bool false), (Value.bool false), (Value.bool false), (Value.bool false), (Value.bool false), (Value.bool false), (Value.bool false), (Value.bool false), (Value.bool false), (Value.bool false), (Value.bool false)] T_20_bool)) fun h7 =>
        ∀ X8 : List Value → Hp → Prop, (∀ l9 : Sl, ∀ n10 : Int, ∀ h11 : Hp, (∀ J12 : List Value → Hp → Prop, (∀ b13 : Bool, ∀ h14 : Hp, ((if b13 = true then
                  (∀ J15 : List Value → Hp → Prop, (∀ l16 : Sl, ∀ h17 : Hp, (X8 [(Value.slice l16.a l16.n l16.c), (Value.int .i64 (IntKind.wrap .i64 (n10 + (1 : Int))))] h17) → J15 [(Value.slice l16.a l16.n l16.c)] h17) →
                    nilW g0_order.a fun a18 => ixOk n10 g0_order.n (∃ n19 : Int, rd h14 (Addr.add a18 (Int.toNat n10 * 1)) = some (Value.int .u8 n19) ∧
                      divOk (20 : Int) (S_lock_Table_Take p3 (IntKind.wrap .i64 ((1 : Int) + (Int.tmod (IntKind.wrap .i64 n19) (20 : Int)))) (ByteArray.mk #[116]) (8 : Int) h14 fun (vs20 : List Value) (h21 : Hp) =>
                        ∃ n22 : Int, vs20 = [(Value.int .i64 n22)] ∧
                        ∀ J23 : List Value → Hp → Prop, (∀ b24 : Bool, ∀ h25 : Hp, ((if b24 = true then
                              (Q [(Value.bool false)] h25) else
                              (ixOk (Int.tmod (IntKind.wrap .i64 n19) (20 : Int)) 20 (∃ b26 : Bool, rd h25 (Addr.add (Addr.mk (Array.size h6) 0 none) (Int.toNat (Int.tmod (IntKind.wrap .i64 n19) (20 : Int)) * 1)) = some (Value.bool b26) ∧
                                  (if (!b26) = true then
                                    (ixOk (Int.tmod (IntKind.wrap .i64 n19) (20 : Int)) 20 (stOk h25 (Addr.add (Addr.mk (Array.size h6) 0 none) (Int.toNat (Int.tmod (IntKind.wrap .i64 n19) (20 : Int)) * 1)) 1 ∧ wth (wrs h25 (Addr.add (Addr.mk (Array.size h6) 0 none) (Int.toNat (Int.tmod (IntKind.wrap .i64 n19) (20 : Int)) * 1)) 0 [(Value.bool true)]) fun h27 =>
                                        wth (Array.push h27 (Obj.cells #[(Value.int .i64 (IntKind.wrap .i64 ((1 : Int) + (Int.tmod (IntKind.wrap .i64 n19) (20 : Int)))))] T_int)) fun h28 =>
                                        ∃ cs31 : List Value, cellsAt h28 (some (Addr.mk (Array.size h27) 0 none)) (1 * 1) cs31 ∧ appS PP T_int 8 1 h28 ⟨l9.a, l9.n, l9.c⟩ 1 cs31 fun (l29 : Sl) (h30 : Hp) =>
                                        J15 [(Value.slice l29.a l29.n l29.c)] h30)) else
                                    (J15 [(Value.slice l9.a l9.n l9.c)] h25)))))) → J23 [(Value.bool b24)] h25) →
                        ixOk (Int.tmod (IntKind.wrap .i64 n19) (20 : Int)) 20 (∃ b32 : Bool, rd h21 (Addr.add (Addr.mk (Array.size h6) 0 none) (Int.toNat (Int.tmod (IntKind.wrap .i64 n19) (20 : Int)) * 1)) = some (Value.bool b32) ∧
                          (if b32 = true then ((if (n22 != (76 : Int)) = true then (J23 [(Value.bool true)] h21) else
                                (ixOk (Int.tmod (IntKind.wrap .i64 n19) (20 : Int)) 20 (∃ b33 : Bool, rd h21 (Addr.add (Addr.mk (Array.size h6) 0 none) (Int.toNat (Int.tmod (IntKind.wrap .i64 n19) (20 : Int)) * 1)) = some (Value.bool b33) ∧
                                    (if (!b33) = true then (J23 [(Value.bool (n22 != (75 : Int)))] h21) else
                                      (J23 [(Value.bool false)] h21)))))) else
                            (ixOk (Int.tmod (IntKind.wrap .i64 n19) (20 : Int)) 20 (∃ b34 : Bool, rd h21 (Addr.add (Addr.mk (Array.size h6) 0 none) (Int.toNat (Int.tmod (IntKind.wrap .i64 n19) (20 : Int)) * 1)) = some (Value.bool b34) ∧
                                (if (!b34) = true then (J23 [(Value.bool (n22 != (75 : Int)))] h21) else
                                  (J23 [(Value.bool false)] h21))))))))) else
                  (∀ X35 : List Value → Hp → Prop, (∀ n36 : Int, ∀ n37 : Int, ∀ h38 : Hp, ((if (decide (n37 < (l9.n : Int))) = true then
                          (∀ J39 : List Value → Hp → Prop, (∀ b40 : Bool, ∀ h41 : Hp, ((if b40 = true then
                                  (Q [(Value.bool false)] h41) else
                                  (nilW l9.a fun a42 => ixOk n37 l9.n (∃ n43 : Int, rd h41 (Addr.add a42 (Int.toNat n37 * 1)) = some (Value.int .i64 n43) ∧
                                      X35 [(Value.int .i64 n43), (Value.int .i64 (IntKind.wrap .i64 (n37 + (1 : Int))))] h41)))) → J39 [(Value.bool b40)] h41) →
                            nilW l9.a fun a44 => ixOk n37 l9.n (∃ n45 : Int, rd h38 (Addr.add a44 (Int.toNat n37 * 1)) = some (Value.int .i64 n45) ∧
                              (S_lock_Table_Release p3 n36 h38 fun (vs46 : List Value) (h47 : Hp) =>
                                ∃ l48 : Sl, vs46 = [(Value.slice l48.a l48.n l48.c)] ∧
                                rd h47 (Addr.add a44 (Int.toNat n37 * 1)) = some (Value.int .i64 n45) ∧ wth (Array.push h47 (Obj.cells #[(Value.int .i64 n45)] T_int)) fun h49 =>
                                S_liverykeep_Ints ⟨l48.a, l48.n, l48.c⟩ ⟨(some (Addr.mk (Array.size h47) 0 none)), 1, 1⟩ h49 fun (vs50 : List Value) (h51 : Hp) =>
                                ∃ b52 : Bool, vs50 = [(Value.bool b52)] ∧
                                (if (!b52) = true then (J39 [(Value.bool true)] h51) else
                                  (nilW l9.a fun a53 => ixOk n37 l9.n (∃ n54 : Int, rd h51 (Addr.add a53 (Int.toNat n37 * 1)) = some (Value.int .i64 n54) ∧
                                      S_lock_Table_Modes p3 n54 (ByteArray.mk #[116]) h51 fun (vs55 : List Value) (h56 : Hp) =>
                                      ∃ n57 : Int, vs55 = [(Value.int .i64 n57)] ∧
                                      J39 [(Value.bool (n57 != (256 : Int)))] h56)))) ∧
                              (wth (Array.push h38 (Obj.cells #[(Value.int .i64 n45)] T_int)) fun h58 =>
                                S_lock_Table_Release p3 n36 h58 fun (vs59 : List Value) (h60 : Hp) =>
                                ∃ l61 : Sl, vs59 = [(Value.slice l61.a l61.n l61.c)] ∧
                                S_liverykeep_Ints ⟨l61.a, l61.n, l61.c⟩ ⟨(some (Addr.mk (Array.size h38) 0 none)), 1, 1⟩ h60 fun (vs62 : List Value) (h63 : Hp) =>
                                ∃ b64 : Bool, vs62 = [(Value.bool b64)] ∧
                                (if (!b64) = true then (J39 [(Value.bool true)] h63) else
                                  (nilW l9.a fun a65 => ixOk n37 l9.n (∃ n66 : Int, rd h63 (Addr.add a65 (Int.toNat n37 * 1)) = some (Value.int .i64 n66) ∧
                                      S_lock_Table_Modes p3 n66 (ByteArray.mk #[116]) h63 fun (vs67 : List Value) (h68 : Hp) =>
                                      ∃ n69 : Int, vs67 = [(Value.int .i64 n69)] ∧
                                      J39 [(Value.bool (n69 != (256 : Int)))] h68)))))) else
                          (S_lock_Table_Release p3 n36 h38 fun (vs70 : List Value) (h71 : Hp) =>
                            ∃ l72 : Sl, vs70 = [(Value.slice l72.a l72.n l72.c)] ∧
                            (if ((l72.n : Int) == (0 : Int)) = true then (S_lock_Table_Names p3 h71 fun (vs73 : List Value) (h74 : Hp) =>
                                ∃ l75 : Sl, vs73 = [(Value.slice l75.a l75.n l75.c)] ∧
                                (if ((l75.n : Int) == (0 : Int)) = true then (S_liverylaw06_wakes  h74 fun (vs76 : List Value) (h77 : Hp) =>
                                    ∃ b78 : Bool, vs76 = [(Value.bool b78)] ∧
                                    Q [(Value.bool b78)] h77) else
                                  (Q [(Value.bool false)] h74))) else
                              (Q [(Value.bool false)] h71))))) → X35 [(Value.int .i64 n36), (Value.int .i64 n37)] h38) →
                    X35 [(Value.int .i64 (100 : Int)), (Value.int .i64 (0 : Int))] h14))) → J12 [(Value.bool b13)] h14) →
            (if (decide (n10 < (g0_order.n : Int))) = true then (J12 [(Value.bool (decide (n10 < (60 : Int))))] h11) else
              (J12 [(Value.bool false)] h11))) → X8 [(Value.slice l9.a l9.n l9.c), (Value.int .i64 n10)] h11) →
        X8 [(Value.slice none 0 0), (Value.int .i64 (0 : Int))] h7))) → J4 [(Value.bool b5)] h6) →
(if (Option.isNone p3) = true then (J4 [(Value.bool true)] h2) else
  (S_lock_Table_Take p3 (100 : Int) (ByteArray.mk #[116]) (8 : Int) h2 fun (vs79 : List Value) (h80 : Hp) =>
    ∃ n81 : Int, vs79 = [(Value.int .i64 n81)] ∧
    J4 [(Value.bool (n81 != (0 : Int)))] h80))
def A_liverylaw06_LockTurns : Ann := (.mk none ⟨[], []⟩ .nil (.mk none ⟨[], []⟩ .nil (.mk none ⟨[], []⟩ (.mk none ⟨[], []⟩ (.mk (some ⟨[0, 3], [(18, (.c .bool))]⟩) ⟨[], []⟩ .nil .nil) .nil) (.mk none ⟨[], []⟩ .nil (.mk none ⟨[], []⟩ .nil (.mk none ⟨[], []⟩ (.mk none ⟨[], []⟩ .nil (.mk none ⟨[], []⟩ (.mk none ⟨[0, 3, 5], [(4, (.c .sl)), (6, (.c (.int .i64)))]⟩ (.mk none ⟨[], []⟩ (.mk none ⟨[], []⟩ (.mk (some ⟨[0, 3, 4, 5, 6], [(26, (.c .bool))]⟩) ⟨[], []⟩ .nil .nil) .nil) (.mk none ⟨[], []⟩ (.mk (some ⟨[0, 3, 5, 6], [(4, (.c .sl))]⟩) ⟨[], []⟩ (.mk none ⟨[], []⟩ .nil (.mk none ⟨[], []⟩ .nil (.mk none ⟨[], []⟩ (.mk none ⟨[], []⟩ (.mk (some ⟨[0, 3, 4, 5, 6, 7], [(55, (.c .bool))]⟩) ⟨[], []⟩ .nil .nil) .nil) .nil))) .nil) .nil)) .nil) .nil)) (.mk none ⟨[], []⟩ .nil (.mk none ⟨[], []⟩ (.mk none ⟨[], []⟩ .nil (.mk none ⟨[], []⟩ (.mk none ⟨[3, 4], [(9, (.c (.int .i64))), (10, (.c (.int .i64)))]⟩ (.mk none ⟨[], []⟩ .nil (.mk none ⟨[], []⟩ (.mk none ⟨[], []⟩ (.mk none ⟨[], []⟩ (.mk none ⟨[], []⟩ (.mk (some ⟨[3, 4, 10], [(91, (.c .bool))]⟩) ⟨[], []⟩ .nil .nil) .nil) .nil) .nil) .nil)) .nil) .nil)) .nil))))))))
theorem E_liverylaw06_LockTurns (g0_order : Sl) (h : Hp) (Q : List Value → Hp → Prop) : cw PP 110 (fun _ => []) (bodyOf Try.f6) A_liverylaw06_LockTurns (finQ PP (Try.f6.results.toList) Q) (argFr [(Value.slice g0_order.a g0_order.n g0_order.c)]) h = F_liverylaw06_LockTurns g0_order h Q := by kernel_rfl
theorem O_liverylaw06_LockTurns (g0_order : Sl) {h : Hp} {Q : List Value → Hp → Prop} (H : F_liverylaw06_LockTurns g0_order h Q) : S_liverylaw06_LockTurns g0_order h Q :=
  fn_of_cw (hs := (fun _ => [])) (ann := A_liverylaw06_LockTurns) (args := [(Value.slice g0_order.a g0_order.n g0_order.c)]) mixedPP Try.func6 (c := bodyOf Try.f6) (by kernel_rfl) (by kernel_rfl) (by kernel_rfl) (Eq.mpr (E_liverylaw06_LockTurns g0_order h Q) H)
def F_liverylaw06_LockRaises (g0_n : Int) (h : Hp) (Q : List Value → Hp → Prop) : Prop :=
S_lock_New  h fun (vs1 : List Value) (h2 : Hp) =>
∃ p3 : Option Addr, vs1 = [(Value.pointer p3)] ∧
divOk (10 : Int) (∀ J4 : List Value → Hp → Prop, (∀ b5 : Bool, ∀ h6 : Hp, ((if b5 = true then
        (Q [(Value.bool false)] h6) else
        (∀ X7 : List Value → Hp → Prop, (∀ n8 : Int, ∀ h9 : Hp, ((if (decide (n8 < (IntKind.wrap .i64 ((1 : Int) + (Int.tmod (IntKind.wrap .i64 g0_n) (10 : Int)))))) = true then
                (S_lock_Table_Take p3 (IntKind.wrap .i64 ((10 : Int) + n8)) (ByteArray.mk #[116]) (8 : Int) h9 fun (vs10 : List Value) (h11 : Hp) =>
                  ∃ n12 : Int, vs10 = [(Value.int .i64 n12)] ∧
                  (if (n12 != (75 : Int)) = true then
                    (Q [(Value.bool false)] h11) else
                    (X7 [(Value.int .i64 (IntKind.wrap .i64 (n8 + (1 : Int))))] h11))) else
                (∀ J13 : List Value → Hp → Prop, (∀ b14 : Bool, ∀ h15 : Hp, ((if b14 = true then
                        (Q [(Value.bool false)] h15) else
                        (S_lock_Table_Take p3 (1 : Int) (ByteArray.mk #[116]) (3 : Int) h15 fun (vs16 : List Value) (h17 : Hp) =>
                          ∃ n18 : Int, vs16 = [(Value.int .i64 n18)] ∧
                          (if (n18 == (0 : Int)) = true then (S_lock_Table_Take p3 (1 : Int) (ByteArray.mk #[116]) (8 : Int) h17 fun (vs19 : List Value) (h20 : Hp) =>
                              ∃ n21 : Int, vs19 = [(Value.int .i64 n21)] ∧
                              (if (n21 == (0 : Int)) = true then (S_lock_Table_Modes p3 (1 : Int) (ByteArray.mk #[116]) h20 fun (vs22 : List Value) (h23 : Hp) =>
                                  ∃ n24 : Int, vs22 = [(Value.int .i64 n24)] ∧
                                  (if (n24 == (266 : Int)) = true then (S_liverylaw06_wakes  h23 fun (vs25 : List Value) (h26 : Hp) =>
                                      ∃ b27 : Bool, vs25 = [(Value.bool b27)] ∧
                                      Q [(Value.bool b27)] h26) else
                                    (Q [(Value.bool false)] h23))) else
                                (Q [(Value.bool false)] h20))) else
                            (Q [(Value.bool false)] h17))))) → J13 [(Value.bool b14)] h15) →
                  S_lock_Table_Take p3 (2 : Int) (ByteArray.mk #[116]) (1 : Int) h9 fun (vs28 : List Value) (h29 : Hp) =>
                  ∃ n30 : Int, vs28 = [(Value.int .i64 n30)] ∧
                  (if (n30 != (75 : Int)) = true then (J13 [(Value.bool true)] h29) else
                    (S_lock_Table_For p3 (2 : Int) h29 fun (vs31 : List Value) (h32 : Hp) =>
                      ∃ l33 : Sl, vs31 = [(Value.slice l33.a l33.n l33.c)] ∧
                      J13 [(Value.bool ((l33.n : Int) != (IntKind.wrap .i64 ((1 : Int) + (Int.tmod (IntKind.wrap .i64 g0_n) (10 : Int))))))] h32))))) → X7 [(Value.int .i64 n8)] h9) →
          X7 [(Value.int .i64 (0 : Int))] h6))) → J4 [(Value.bool b5)] h6) →
  (if (Option.isNone p3) = true then (J4 [(Value.bool true)] h2) else
    (S_lock_Table_Take p3 (1 : Int) (ByteArray.mk #[116]) (1 : Int) h2 fun (vs34 : List Value) (h35 : Hp) =>
      ∃ n36 : Int, vs34 = [(Value.int .i64 n36)] ∧
      J4 [(Value.bool (n36 != (0 : Int)))] h35)))
def A_liverylaw06_LockRaises : Ann := (.mk none ⟨[], []⟩ .nil (.mk none ⟨[], []⟩ .nil (.mk none ⟨[], []⟩ .nil (.mk none ⟨[], []⟩ (.mk none ⟨[], []⟩ (.mk (some ⟨[3, 4], [(17, (.c .bool))]⟩) ⟨[], []⟩ .nil .nil) .nil) (.mk none ⟨[], []⟩ (.mk none ⟨[], []⟩ .nil (.mk none ⟨[], []⟩ (.mk none ⟨[3, 4], [(5, (.c (.int .i64)))]⟩ .nil .nil) .nil)) (.mk none ⟨[], []⟩ (.mk none ⟨[], []⟩ (.mk (some ⟨[3], [(37, (.c .bool))]⟩) ⟨[], []⟩ .nil .nil) .nil) .nil))))))
theorem E_liverylaw06_LockRaises (g0_n : Int) (h : Hp) (Q : List Value → Hp → Prop) : cw PP 54 (fun _ => []) (bodyOf Try.f7) A_liverylaw06_LockRaises (finQ PP (Try.f7.results.toList) Q) (argFr [(Value.int .u8 g0_n)]) h = F_liverylaw06_LockRaises g0_n h Q := by kernel_rfl
theorem O_liverylaw06_LockRaises (g0_n : Int) {h : Hp} {Q : List Value → Hp → Prop} (H : F_liverylaw06_LockRaises g0_n h Q) : S_liverylaw06_LockRaises g0_n h Q :=
  fn_of_cw (hs := (fun _ => [])) (ann := A_liverylaw06_LockRaises) (args := [(Value.int .u8 g0_n)]) mixedPP Try.func7 (c := bodyOf Try.f7) (by kernel_rfl) (by kernel_rfl) (by kernel_rfl) (Eq.mpr (E_liverylaw06_LockRaises g0_n h Q) H)
def F_liverylaw06_LockNone (g0_x_0 : Int) (g0_x_1 : Int) (g0_x_2 : Int) (g0_x_3 : ByteArray) (h : Hp) (Q : List Value → Hp → Prop) : Prop :=
wth (Array.push h (Obj.cells #[(Value.int .i64 g0_x_0), (Value.int .i64 g0_x_1), (Value.int .i64 g0_x_2), (Value.string g0_x_3)] T_liverylaw06_Step)) fun h1 =>
∃ s2 : ByteArray, rd h1 (Addr.add (Addr.mk (Array.size h) 0 none) 3) = some (Value.string s2) ∧
(if (decide ((ByteArray.size s2 : Int) > (100 : Int))) = true then
  (S_liverylaw06_wakes  h1 fun (vs3 : List Value) (h4 : Hp) =>
    ∃ b5 : Bool, vs3 = [(Value.bool b5)] ∧
    Q [(Value.bool b5)] h4) else
  (∃ n6 : Int, rd h1 (Addr.add (Addr.mk (Array.size h) 0 none) 1) = some (Value.int .i64 n6) ∧
    S_lock_Table_Waits none n6 h1 fun (vs7 : List Value) (h8 : Hp) =>
    ∃ s9 : ByteArray, ∃ n10 : Int, ∃ b11 : Bool, vs7 = [(Value.string s9), (Value.int .i64 n10), (Value.bool b11)] ∧
    ∃ n12 : Int, rd h8 (Addr.add (Addr.mk (Array.size h) 0 none) 1) = some (Value.int .i64 n12) ∧
    ∃ s13 : ByteArray, rd h8 (Addr.add (Addr.mk (Array.size h) 0 none) 3) = some (Value.string s13) ∧
    ∃ n14 : Int, rd h8 (Addr.add (Addr.mk (Array.size h) 0 none) 2) = some (Value.int .i64 n14) ∧
    S_lock_Table_Take none n12 s13 n14 h8 fun (vs15 : List Value) (h16 : Hp) =>
    ∃ n17 : Int, vs15 = [(Value.int .i64 n17)] ∧
    (if (n17 == (1 : Int)) = true then (∃ n18 : Int, rd h16 (Addr.add (Addr.mk (Array.size h) 0 none) 1) = some (Value.int .i64 n18) ∧
        S_lock_Table_Release none n18 h16 fun (vs19 : List Value) (h20 : Hp) =>
        ∃ l21 : Sl, vs19 = [(Value.slice l21.a l21.n l21.c)] ∧
        (if ((l21.n : Int) == (0 : Int)) = true then (∃ n22 : Int, rd h20 (Addr.add (Addr.mk (Array.size h) 0 none) 1) = some (Value.int .i64 n22) ∧
            ∃ s23 : ByteArray, rd h20 (Addr.add (Addr.mk (Array.size h) 0 none) 3) = some (Value.string s23) ∧
            S_lock_Table_Modes none n22 s23 h20 fun (vs24 : List Value) (h25 : Hp) =>
            ∃ n26 : Int, vs24 = [(Value.int .i64 n26)] ∧
            (if (n26 == (0 : Int)) = true then ((if (!b11) = true then (∃ n27 : Int, rd h25 (Addr.add (Addr.mk (Array.size h) 0 none) 1) = some (Value.int .i64 n27) ∧
                    S_lock_Table_For none n27 h25 fun (vs28 : List Value) (h29 : Hp) =>
                    ∃ l30 : Sl, vs28 = [(Value.slice l30.a l30.n l30.c)] ∧
                    (if ((l30.n : Int) == (0 : Int)) = true then (S_lock_Table_Names none h29 fun (vs31 : List Value) (h32 : Hp) =>
                        ∃ l33 : Sl, vs31 = [(Value.slice l33.a l33.n l33.c)] ∧
                        (if ((l33.n : Int) == (0 : Int)) = true then (S_liverylaw06_wakes  h32 fun (vs34 : List Value) (h35 : Hp) =>
                            ∃ b36 : Bool, vs34 = [(Value.bool b36)] ∧
                            Q [(Value.bool b36)] h35) else
                          (Q [(Value.bool false)] h32))) else
                      (Q [(Value.bool false)] h29))) else
                  (Q [(Value.bool false)] h25))) else
              (Q [(Value.bool false)] h25))) else
          (Q [(Value.bool false)] h20))) else
      (Q [(Value.bool false)] h16))))
def A_liverylaw06_LockNone : Ann := .nil
theorem E_liverylaw06_LockNone (g0_x_0 : Int) (g0_x_1 : Int) (g0_x_2 : Int) (g0_x_3 : ByteArray) (h : Hp) (Q : List Value → Hp → Prop) : cw PP 67 (fun _ => []) (bodyOf Try.f8) A_liverylaw06_LockNone (finQ PP (Try.f8.results.toList) Q) (argFr [(Value.agg #[(Value.int .i64 g0_x_0), (Value.int .i64 g0_x_1), (Value.int .i64 g0_x_2), (Value.string g0_x_3)])]) h = F_liverylaw06_LockNone g0_x_0 g0_x_1 g0_x_2 g0_x_3 h Q := by kernel_rfl
theorem O_liverylaw06_LockNone (g0_x_0 : Int) (g0_x_1 : Int) (g0_x_2 : Int) (g0_x_3 : ByteArray) {h : Hp} {Q : List Value → Hp → Prop} (H : F_liverylaw06_LockNone g0_x_0 g0_x_1 g0_x_2 g0_x_3 h Q) : S_liverylaw06_LockNone g0_x_0 g0_x_1 g0_x_2 g0_x_3 h Q :=
  fn_of_cw (hs := (fun _ => [])) (ann := A_liverylaw06_LockNone) (args := [(Value.agg #[(Value.int .i64 g0_x_0), (Value.int .i64 g0_x_1), (Value.int .i64 g0_x_2), (Value.string g0_x_3)])]) mixedPP Try.func8 (c := bodyOf Try.f8) (by kernel_rfl) (by kernel_rfl) (by kernel_rfl) (Eq.mpr (E_liverylaw06_LockNone g0_x_0 g0_x_1 g0_x_2 g0_x_3 h Q) H)
def F_liverylaw06_LockBoth (g0_a : Int) (g1_b : Int) (h : Hp) (Q : List Value → Hp → Prop) : Prop :=
divOk (8 : Int) (divOk (8 : Int) (S_lock_New  h fun (vs1 : List Value) (h2 : Hp) =>
    ∃ p3 : Option Addr, vs1 = [(Value.pointer p3)] ∧
    ∀ J4 : List Value → Hp → Prop, (∀ b5 : Bool, ∀ h6 : Hp, ((if b5 = true then
          (Q [(Value.bool false)] h6) else
          (S_lock_Table_Take p3 (3 : Int) (ByteArray.mk #[116]) (IntKind.wrap .i64 ((1 : Int) + (Int.tmod (IntKind.wrap .i64 g1_b) (8 : Int)))) h6 fun (vs7 : List Value) (h8 : Hp) =>
            ∃ n9 : Int, vs7 = [(Value.int .i64 n9)] ∧
            ∀ J10 : List Value → Hp → Prop, (∀ b11 : Bool, ∀ h12 : Hp, ((if b11 = true then
                  (Q [(Value.bool false)] h12) else
                  (S_lock_Table_Waits p3 (3 : Int) h12 fun (vs13 : List Value) (h14 : Hp) =>
                    ∃ s15 : ByteArray, ∃ n16 : Int, ∃ b17 : Bool, vs13 = [(Value.string s15), (Value.int .i64 n16), (Value.bool b17)] ∧
                    S_lock_Table_Release p3 (1 : Int) h14 fun (vs18 : List Value) (h19 : Hp) =>
                    ∃ l20 : Sl, vs18 = [(Value.slice l20.a l20.n l20.c)] ∧
                    (if (b17 == (n9 == (75 : Int))) = true then ((if (((l20.n : Int) == (1 : Int)) == b17) = true then (S_lock_Table_Modes p3 (3 : Int) (ByteArray.mk #[116]) h19 fun (vs21 : List Value) (h22 : Hp) =>
                            ∃ n23 : Int, vs21 = [(Value.int .i64 n23)] ∧
                            shOk (IntKind.wrap .u64 (IntKind.wrap .i64 ((1 : Int) + (Int.tmod (IntKind.wrap .i64 g1_b) (8 : Int))))) ((if (n23 == (iShl .i64 (1 : Int) (IntKind.wrap .u64 (IntKind.wrap .i64 ((1 : Int) + (Int.tmod (IntKind.wrap .i64 g1_b) (8 : Int))))))) = true then (S_liverylaw06_wakes  h22 fun (vs24 : List Value) (h25 : Hp) =>
                                  ∃ b26 : Bool, vs24 = [(Value.bool b26)] ∧
                                  Q [(Value.bool b26)] h25) else
                                (Q [(Value.bool false)] h22)))) else
                          (Q [(Value.bool false)] h19))) else
                      (Q [(Value.bool false)] h19))))) → J10 [(Value.bool b11)] h12) →
            S_liveryref05_Bars (IntKind.wrap .i64 ((1 : Int) + (Int.tmod (IntKind.wrap .i64 g0_a) (8 : Int)))) (IntKind.wrap .i64 ((1 : Int) + (Int.tmod (IntKind.wrap .i64 g1_b) (8 : Int)))) h8 fun (vs27 : List Value) (h28 : Hp) =>
            ∃ b29 : Bool, vs27 = [(Value.bool b29)] ∧
            (if ((n9 == (0 : Int)) == b29) = true then (J10 [(Value.bool true)] h28) else
              ((if (n9 != (0 : Int)) = true then (J10 [(Value.bool (n9 != (75 : Int)))] h28) else
                  (J10 [(Value.bool false)] h28))))))) → J4 [(Value.bool b5)] h6) →
    (if (Option.isNone p3) = true then (J4 [(Value.bool true)] h2) else
      (S_lock_Table_Take p3 (1 : Int) (ByteArray.mk #[116]) (IntKind.wrap .i64 ((1 : Int) + (Int.tmod (IntKind.wrap .i64 g0_a) (8 : Int)))) h2 fun (vs30 : List Value) (h31 : Hp) =>
        ∃ n32 : Int, vs30 = [(Value.int .i64 n32)] ∧
        (if (n32 != (0 : Int)) = true then (J4 [(Value.bool true)] h31) else
          (S_lock_Table_Take p3 (2 : Int) (ByteArray.mk #[117]) (IntKind.wrap .i64 ((1 : Int) + (Int.tmod (IntKind.wrap .i64 g1_b) (8 : Int)))) h31 fun (vs33 : List Value) (h34 : Hp) =>
            ∃ n35 : Int, vs33 = [(Value.int .i64 n35)] ∧
            J4 [(Value.bool (n35 != (0 : Int)))] h34))))))
def A_liverylaw06_LockBoth : Ann := (.mk none ⟨[], []⟩ .nil (.mk none ⟨[], []⟩ .nil (.mk none ⟨[], []⟩ .nil (.mk none ⟨[], []⟩ (.mk none ⟨[], []⟩ (.mk (some ⟨[5, 6, 7], [(35, (.c .bool))]⟩) ⟨[], []⟩ .nil .nil) .nil) (.mk none ⟨[], []⟩ .nil (.mk none ⟨[], []⟩ (.mk none ⟨[], []⟩ (.mk (some ⟨[6, 7, 8], [(52, (.c .bool))]⟩) ⟨[], []⟩ .nil .nil) .nil) .nil))))))
theorem E_liverylaw06_LockBoth (g0_a : Int) (g1_b : Int) (h : Hp) (Q : List Value → Hp → Prop) : cw PP 83 (fun _ => []) (bodyOf Try.f9) A_liverylaw06_LockBoth (finQ PP (Try.f9.results.toList) Q) (argFr [(Value.int .u8 g0_a), (Value.int .u8 g1_b)]) h = F_liverylaw06_LockBoth g0_a g1_b h Q := by kernel_rfl
theorem O_liverylaw06_LockBoth (g0_a : Int) (g1_b : Int) {h : Hp} {Q : List Value → Hp → Prop} (H : F_liverylaw06_LockBoth g0_a g1_b h Q) : S_liverylaw06_LockBoth g0_a g1_b h Q :=
  fn_of_cw (hs := (fun _ => [])) (ann := A_liverylaw06_LockBoth) (args := [(Value.int .u8 g0_a), (Value.int .u8 g1_b)]) mixedPP Try.func9 (c := bodyOf Try.f9) (by kernel_rfl) (by kernel_rfl) (by kernel_rfl) (Eq.mpr (E_liverylaw06_LockBoth g0_a g1_b h Q) H)
def F_lock_Table_Release_1 (g0_r_0 : Int) (g0_r_1 : Int) (g1_x : Addr) (h : Hp) (Q : List Value → Hp → Prop) : Prop :=
wth (Array.push h (Obj.cells #[(Value.int .i64 g0_r_0), (Value.int .i64 g0_r_1)] T_lock_request)) fun h1 =>
∃ n2 : Int, rd h1 (Addr.add (Addr.mk (Array.size h) 0 none) 0) = some (Value.int .i64 n2) ∧
∃ n3 : Int, rd h1 g1_x = some (Value.int .i64 n3) ∧
Q [(Value.bool (n2 == n3))] h1
def A_lock_Table_Release_1 : Ann := .nil
theorem E_lock_Table_Release_1 (g0_r_0 : Int) (g0_r_1 : Int) (g1_x : Addr) (h : Hp) (Q : List Value → Hp → Prop) : cw PP 8 (fun _ => []) (bodyOf Try.f36) A_lock_Table_Release_1 (finQ PP (Try.f36.results.toList) Q) (argFr [(Value.agg #[(Value.int .i64 g0_r_0), (Value.int .i64 g0_r_1)]), (Value.pointer (some g1_x))]) h = F_lock_Table_Release_1 g0_r_0 g0_r_1 g1_x h Q := by kernel_rfl
theorem O_lock_Table_Release_1 (g0_r_0 : Int) (g0_r_1 : Int) (g1_x : Addr) {h : Hp} {Q : List Value → Hp → Prop} (H : F_lock_Table_Release_1 g0_r_0 g0_r_1 g1_x h Q) : S_lock_Table_Release_1 g0_r_0 g0_r_1 g1_x h Q :=
  fn_of_cw (hs := (fun _ => [])) (ann := A_lock_Table_Release_1) (args := [(Value.agg #[(Value.int .i64 g0_r_0), (Value.int .i64 g0_r_1)]), (Value.pointer (some g1_x))]) mixedPP Try.func36 (c := bodyOf Try.f36) (by kernel_rfl) (by kernel_rfl) (by kernel_rfl) (Eq.mpr (E_lock_Table_Release_1 g0_r_0 g0_r_1 g1_x h Q) H)
def F_lock_Table_waiting_1 (g0_r_0 : Int) (g0_r_1 : Int) (g1_x : Addr) (h : Hp) (Q : List Value → Hp → Prop) : Prop :=
wth (Array.push h (Obj.cells #[(Value.int .i64 g0_r_0), (Value.int .i64 g0_r_1)] T_lock_request)) fun h1 =>
∃ n2 : Int, rd h1 (Addr.add (Addr.mk (Array.size h) 0 none) 0) = some (Value.int .i64 n2) ∧
∃ n3 : Int, rd h1 g1_x = some (Value.int .i64 n3) ∧
Q [(Value.bool (n2 == n3))] h1
def A_lock_Table_waiting_1 : Ann := .nil
theorem E_lock_Table_waiting_1 (g0_r_0 : Int) (g0_r_1 : Int) (g1_x : Addr) (h : Hp) (Q : List Value → Hp → Prop) : cw PP 8 (fun _ => []) (bodyOf Try.f53) A_lock_Table_waiting_1 (finQ PP (Try.f53.results.toList) Q) (argFr [(Value.agg #[(Value.int .i64 g0_r_0), (Value.int .i64 g0_r_1)]), (Value.pointer (some g1_x))]) h = F_lock_Table_waiting_1 g0_r_0 g0_r_1 g1_x h Q := by kernel_rfl
theorem O_lock_Table_waiting_1 (g0_r_0 : Int) (g0_r_1 : Int) (g1_x : Addr) {h : Hp} {Q : List Value → Hp → Prop} (H : F_lock_Table_waiting_1 g0_r_0 g0_r_1 g1_x h Q) : S_lock_Table_waiting_1 g0_r_0 g0_r_1 g1_x h Q :=
  fn_of_cw (hs := (fun _ => [])) (ann := A_lock_Table_waiting_1) (args := [(Value.agg #[(Value.int .i64 g0_r_0), (Value.int .i64 g0_r_1)]), (Value.pointer (some g1_x))]) mixedPP Try.func53 (c := bodyOf Try.f53) (by kernel_rfl) (by kernel_rfl) (by kernel_rfl) (Eq.mpr (E_lock_Table_waiting_1 g0_r_0 g0_r_1 g1_x h Q) H)
end Go.Lift

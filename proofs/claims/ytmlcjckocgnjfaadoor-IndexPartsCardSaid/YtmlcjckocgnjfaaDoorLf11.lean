/- Printed by lift.py: each Go function of this seat as a Prop over the heap, and that the Go code comes to it. -/
import Derived.Test.YtmlcjckocgnjfaaDoorLvL
import Derived.Test.YtmlcjckocgnjfaaDoorProg
set_option linter.unusedSimpArgs false
set_option linter.unusedVariables false
namespace Go.Lift
open Go Go.Proofs
set_option maxRecDepth 100000
noncomputable abbrev PP : Program := Tryd.prog
theorem mixedPP : PP.follows .mixedOrders = true := by kernel_rfl
def bodyOf (f : Func) : Code := f.body.getD .skip
abbrev T_int : TypeId := 3
abbrev T_uint8 : TypeId := 5
abbrev T_string : TypeId := 9
abbrev T_3_int8 : TypeId := 24
abbrev T_api_Value : TypeId := 33
abbrev T_liverylaw11_Step : TypeId := 35
abbrev T_leaf_Move : TypeId := 37
abbrev T_3_api_Value : TypeId := 40
abbrev T_index_Index : TypeId := 58
abbrev T_pleaf_one : TypeId := 67
abbrev T_sstring : TypeId := 68
abbrev T_leaf_one : TypeId := 70
abbrev T_leaf_Leaves : TypeId := 73
abbrev T_value_own : TypeId := 107
abbrev T_strings_Builder : TypeId := 112
abbrev T_utf8_acceptRange : TypeId := 142
/-- main.main -/
def S_main_main (h : Hp) (Q : List Value → Hp → Prop) : Prop := Fn PP 0 #[] h Q
/-- gosem.cut -/
def S_gosem_cut (h : Hp) (Q : List Value → Hp → Prop) : Prop := Fn PP 1 #[] h Q
/-- gosem.cut.init -/
def S_gosem_cut_init (h : Hp) (Q : List Value → Hp → Prop) : Prop := Fn PP 2 #[] h Q
/-- livery/leaf.New -/
def S_leaf_New (g0_fan : Int) (h : Hp) (Q : List Value → Hp → Prop) : Prop := Fn PP 21 #[(Value.int .i64 g0_fan)] h Q
/-- livery/index.New -/
def S_index_New (g0_fan : Int) (h : Hp) (Q : List Value → Hp → Prop) : Prop := Fn PP 6 #[(Value.int .i64 g0_fan)] h Q
/-- livery/liverykeep.LargeValue -/
def S_liverykeep_LargeValue (g0_v_0 : Int) (g0_v_1 : Int) (g0_v_2 : Nat) (g0_v_3 : ByteArray) (h : Hp) (Q : List Value → Hp → Prop) : Prop := Fn PP 18 #[(Value.agg #[(Value.int .i64 g0_v_0), (Value.int .i64 g0_v_1), (Value.float .f64 g0_v_2), (Value.string g0_v_3)])] h Q
/-- livery/liverylaw11.fair -/
def S_liverylaw11_fair (g0_l : Sl) (h : Hp) (Q : List Value → Hp → Prop) : Prop := Fn PP 7 #[(Value.slice g0_l.a g0_l.n g0_l.c)] h Q
/-- strings.Join -/
def S_strings_Join (g0_elems : Sl) (g1_sep : ByteArray) (h : Hp) (Q : List Value → Hp → Prop) : Prop := Fn PP 52 #[(Value.slice g0_elems.a g0_elems.n g0_elems.c), (Value.string g1_sep)] h Q
/-- livery/key.joined -/
def S_key_joined (g0_l : Sl) (h : Hp) (Q : List Value → Hp → Prop) : Prop := Fn PP 35 #[(Value.slice g0_l.a g0_l.n g0_l.c)] h Q
/-- livery/value.Good -/
def S_value_Good (g0_v_0 : Int) (g0_v_1 : Int) (g0_v_2 : Nat) (g0_v_3 : ByteArray) (h : Hp) (Q : List Value → Hp → Prop) : Prop := Fn PP 48 #[(Value.agg #[(Value.int .i64 g0_v_0), (Value.int .i64 g0_v_1), (Value.float .f64 g0_v_2), (Value.string g0_v_3)])] h Q
/-- livery/key.eight -/
def S_key_eight (g0_u : Int) (h : Hp) (Q : List Value → Hp → Prop) : Prop := Fn PP 49 #[(Value.int .u64 g0_u)] h Q
/-- math.Float64bits -/
def S_math_Float64bits (g0_x : Nat) (h : Hp) (Q : List Value → Hp → Prop) : Prop := Fn PP 45 #[(Value.float .f64 g0_x)] h Q
/-- math.Float64frombits -/
def S_math_Float64frombits (g0_x : Int) (h : Hp) (Q : List Value → Hp → Prop) : Prop := Fn PP 62 #[(Value.int .u64 g0_x)] h Q
/-- livery/float.Canon -/
def S_float_Canon (g0_f : Nat) (h : Hp) (Q : List Value → Hp → Prop) : Prop := Fn PP 68 #[(Value.float .f64 g0_f)] h Q
/-- livery/float.Bits -/
def S_float_Bits (g0_f : Nat) (h : Hp) (Q : List Value → Hp → Prop) : Prop := Fn PP 50 #[(Value.float .f64 g0_f)] h Q
/-- internal/bytealg.MakeNoZero -/
def S_internal_bytealg_MakeNoZero (g0_x : Int) (h : Hp) (Q : List Value → Hp → Prop) : Prop := Fn PP 94 #[(Value.int .i64 g0_x)] h Q
/-- (*strings.Builder).grow -/
def S_strings_Builder_grow (g0_b : Option Addr) (g1_n : Int) (h : Hp) (Q : List Value → Hp → Prop) : Prop := Fn PP 83 #[(Value.pointer g0_b), (Value.int .i64 g1_n)] h Q
/-- (*strings.Builder).Grow -/
def S_strings_Builder_Grow (g0_b : Option Addr) (g1_n : Int) (h : Hp) (Q : List Value → Hp → Prop) : Prop := Fn PP 70 #[(Value.pointer g0_b), (Value.int .i64 g1_n)] h Q
/-- (*strings.Builder).WriteString -/
def S_strings_Builder_WriteString (g0_b : Option Addr) (g1_s : ByteArray) (h : Hp) (Q : List Value → Hp → Prop) : Prop := Fn PP 71 #[(Value.pointer g0_b), (Value.string g1_s)] h Q
/-- (*strings.Builder).String -/
def S_strings_Builder_String (g0_b : Option Addr) (h : Hp) (Q : List Value → Hp → Prop) : Prop := Fn PP 72 #[(Value.pointer g0_b)] h Q
/-- internal/bytealg.IndexByteString -/
def S_internal_bytealg_IndexByteString (g0_x : ByteArray) (g1_x : Int) (h : Hp) (Q : List Value → Hp → Prop) : Prop := Fn PP 101 #[(Value.string g0_x), (Value.int .u8 g1_x)] h Q
/-- internal/stringslite.IndexByte -/
def S_internal_stringslite_IndexByte (g0_s : ByteArray) (g1_c : Int) (h : Hp) (Q : List Value → Hp → Prop) : Prop := Fn PP 97 #[(Value.string g0_s), (Value.int .u8 g1_c)] h Q
/-- internal/bytealg.IndexString -/
def S_internal_bytealg_IndexString (g0_x : ByteArray) (g1_x : ByteArray) (h : Hp) (Q : List Value → Hp → Prop) : Prop := Fn PP 98 #[(Value.string g0_x), (Value.string g1_x)] h Q
/-- internal/bytealg.Cutover -/
def S_internal_bytealg_Cutover (g0_n : Int) (h : Hp) (Q : List Value → Hp → Prop) : Prop := Fn PP 99 #[(Value.int .i64 g0_n)] h Q
/-- internal/bytealg.hashStr[string] -/
def S_internal_bytealg_hashStr_string (g0_sep : ByteArray) (h : Hp) (Q : List Value → Hp → Prop) : Prop := Fn PP 102 #[(Value.string g0_sep)] h Q
/-- internal/bytealg.IndexRabinKarp[string] -/
def S_internal_bytealg_IndexRabinKarp_string (g0_s : ByteArray) (g1_sep : ByteArray) (h : Hp) (Q : List Value → Hp → Prop) : Prop := Fn PP 100 #[(Value.string g0_s), (Value.string g1_sep)] h Q
/-- internal/stringslite.Index -/
def S_internal_stringslite_Index (g0_s : ByteArray) (g1_substr : ByteArray) (h : Hp) (Q : List Value → Hp → Prop) : Prop := Fn PP 91 #[(Value.string g0_s), (Value.string g1_substr)] h Q
/-- strings.Index -/
def S_strings_Index (g0_s : ByteArray) (g1_substr : ByteArray) (h : Hp) (Q : List Value → Hp → Prop) : Prop := Fn PP 80 #[(Value.string g0_s), (Value.string g1_substr)] h Q
/-- unicode/utf8.RuneCountInString -/
def S_unicode_utf8_RuneCountInString (g0_s : ByteArray) (h : Hp) (Q : List Value → Hp → Prop) : Prop := Fn PP 89 #[(Value.string g0_s)] h Q
/-- internal/bytealg.CountString -/
def S_internal_bytealg_CountString (g0_x : ByteArray) (g1_x : Int) (h : Hp) (Q : List Value → Hp → Prop) : Prop := Fn PP 90 #[(Value.string g0_x), (Value.int .u8 g1_x)] h Q
/-- strings.Count -/
def S_strings_Count (g0_s : ByteArray) (g1_substr : ByteArray) (h : Hp) (Q : List Value → Hp → Prop) : Prop := Fn PP 79 #[(Value.string g0_s), (Value.string g1_substr)] h Q
/-- unicode/utf8.decodeRuneInStringSlow -/
def S_unicode_utf8_decodeRuneInStringSlow (g0_s : ByteArray) (h : Hp) (Q : List Value → Hp → Prop) : Prop := Fn PP 92 #[(Value.string g0_s)] h Q
/-- unicode/utf8.DecodeRuneInString -/
def S_unicode_utf8_DecodeRuneInString (g0_s : ByteArray) (h : Hp) (Q : List Value → Hp → Prop) : Prop := Fn PP 81 #[(Value.string g0_s)] h Q
/-- strings.Replace -/
def S_strings_Replace (g0_s : ByteArray) (g1_old : ByteArray) (g2_new : ByteArray) (g3_n : Int) (h : Hp) (Q : List Value → Hp → Prop) : Prop := Fn PP 69 #[(Value.string g0_s), (Value.string g1_old), (Value.string g2_new), (Value.int .i64 g3_n)] h Q
/-- strings.ReplaceAll -/
def S_strings_ReplaceAll (g0_s : ByteArray) (g1_old : ByteArray) (g2_new : ByteArray) (h : Hp) (Q : List Value → Hp → Prop) : Prop := Fn PP 51 #[(Value.string g0_s), (Value.string g1_old), (Value.string g2_new)] h Q
/-- livery/key.Of -/
def S_key_Of (g0_v_0 : Int) (g0_v_1 : Int) (g0_v_2 : Nat) (g0_v_3 : ByteArray) (h : Hp) (Q : List Value → Hp → Prop) : Prop := Fn PP 34 #[(Value.agg #[(Value.int .i64 g0_v_0), (Value.int .i64 g0_v_1), (Value.float .f64 g0_v_2), (Value.string g0_v_3)])] h Q
/-- livery/key.Entry -/
def S_key_Entry (g0_v_0 : Int) (g0_v_1 : Int) (g0_v_2 : Nat) (g0_v_3 : ByteArray) (g1_n : Int) (h : Hp) (Q : List Value → Hp → Prop) : Prop := Fn PP 22 #[(Value.agg #[(Value.int .i64 g0_v_0), (Value.int .i64 g0_v_1), (Value.float .f64 g0_v_2), (Value.string g0_v_3)]), (Value.int .i64 g1_n)] h Q
/-- (*livery/leaf.Leaves).at -/
def S_leaf_Leaves_at (g0_x : Option Addr) (g1_k : ByteArray) (h : Hp) (Q : List Value → Hp → Prop) : Prop := Fn PP 36 #[(Value.pointer g0_x), (Value.string g1_k)] h Q
/-- cmp.isNaN[string] -/
def S_cmp_isNaN_string (g0_x : ByteArray) (h : Hp) (Q : List Value → Hp → Prop) : Prop := Fn PP 73 #[(Value.string g0_x)] h Q
/-- cmp.Less[string] -/
def S_cmp_Less_string (g0_x : ByteArray) (g1_y : ByteArray) (h : Hp) (Q : List Value → Hp → Prop) : Prop := Fn PP 53 #[(Value.string g0_x), (Value.string g1_y)] h Q
/-- slices.isNaN[string] -/
def S_slices_isNaN_string (g0_x : ByteArray) (h : Hp) (Q : List Value → Hp → Prop) : Prop := Fn PP 54 #[(Value.string g0_x)] h Q
/-- slices.BinarySearch[[]string,string] -/
def S_slices_BinarySearch_sstring_string (g0_x : Sl) (g1_target : ByteArray) (h : Hp) (Q : List Value → Hp → Prop) : Prop := Fn PP 37 #[(Value.slice g0_x.a g0_x.n g0_x.c), (Value.string g1_target)] h Q
/-- slices.overlaps[string] -/
def S_slices_overlaps_string (g0_x : Sl) (g1_x : Sl) (h : Hp) (Q : List Value → Hp → Prop) : Prop := Fn PP 55 #[(Value.slice g0_x.a g0_x.n g0_x.c), (Value.slice g1_x.a g1_x.n g1_x.c)] h Q
/-- slices.Reverse[[]string,string] -/
def S_slices_Reverse_sstring_string (g0_s : Sl) (h : Hp) (Q : List Value → Hp → Prop) : Prop := Fn PP 84 #[(Value.slice g0_s.a g0_s.n g0_s.c)] h Q
/-- slices.rotateLeft[string] -/
def S_slices_rotateLeft_string (g0_s : Sl) (g1_r : Int) (h : Hp) (Q : List Value → Hp → Prop) : Prop := Fn PP 74 #[(Value.slice g0_s.a g0_s.n g0_s.c), (Value.int .i64 g1_r)] h Q
/-- slices.rotateRight[string] -/
def S_slices_rotateRight_string (g0_s : Sl) (g1_r : Int) (h : Hp) (Q : List Value → Hp → Prop) : Prop := Fn PP 56 #[(Value.slice g0_s.a g0_s.n g0_s.c), (Value.int .i64 g1_r)] h Q
/-- slices.Insert[[]string,string] -/
def S_slices_Insert_sstring_string (g0_s : Sl) (g1_i : Int) (g2_v : Sl) (h : Hp) (Q : List Value → Hp → Prop) : Prop := Fn PP 40 #[(Value.slice g0_s.a g0_s.n g0_s.c), (Value.int .i64 g1_i), (Value.slice g2_v.a g2_v.n g2_v.c)] h Q
/-- slices.Clone[[]string,string] -/
def S_slices_Clone_sstring_string (g0_s : Sl) (h : Hp) (Q : List Value → Hp → Prop) : Prop := Fn PP 41 #[(Value.slice g0_s.a g0_s.n g0_s.c)] h Q
/-- slices.overlaps[*livery/leaf.one] -/
def S_slices_overlaps_pleaf_one (g0_x : Sl) (g1_x : Sl) (h : Hp) (Q : List Value → Hp → Prop) : Prop := Fn PP 57 #[(Value.slice g0_x.a g0_x.n g0_x.c), (Value.slice g1_x.a g1_x.n g1_x.c)] h Q
/-- slices.Reverse[[]*livery/leaf.one,*livery/leaf.one] -/
def S_slices_Reverse_spleaf_one_pleaf_one (g0_s : Sl) (h : Hp) (Q : List Value → Hp → Prop) : Prop := Fn PP 85 #[(Value.slice g0_s.a g0_s.n g0_s.c)] h Q
/-- slices.rotateLeft[*livery/leaf.one] -/
def S_slices_rotateLeft_pleaf_one (g0_s : Sl) (g1_r : Int) (h : Hp) (Q : List Value → Hp → Prop) : Prop := Fn PP 75 #[(Value.slice g0_s.a g0_s.n g0_s.c), (Value.int .i64 g1_r)] h Q
/-- slices.rotateRight[*livery/leaf.one] -/
def S_slices_rotateRight_pleaf_one (g0_s : Sl) (g1_r : Int) (h : Hp) (Q : List Value → Hp → Prop) : Prop := Fn PP 58 #[(Value.slice g0_s.a g0_s.n g0_s.c), (Value.int .i64 g1_r)] h Q
/-- slices.Insert[[]*livery/leaf.one,*livery/leaf.one] -/
def S_slices_Insert_spleaf_one_pleaf_one (g0_s : Sl) (g1_i : Int) (g2_v : Sl) (h : Hp) (Q : List Value → Hp → Prop) : Prop := Fn PP 42 #[(Value.slice g0_s.a g0_s.n g0_s.c), (Value.int .i64 g1_i), (Value.slice g2_v.a g2_v.n g2_v.c)] h Q
/-- (*livery/leaf.Leaves).Insert -/
def S_leaf_Leaves_Insert (g0_x : Option Addr) (g1_k : ByteArray) (h : Hp) (Q : List Value → Hp → Prop) : Prop := Fn PP 24 #[(Value.pointer g0_x), (Value.string g1_k)] h Q
/-- (*livery/index.Index).Add -/
def S_index_Index_Add (g0_x : Option Addr) (g1_v_0 : Int) (g1_v_1 : Int) (g1_v_2 : Nat) (g1_v_3 : ByteArray) (g2_tid : Int) (h : Hp) (Q : List Value → Hp → Prop) : Prop := Fn PP 10 #[(Value.pointer g0_x), (Value.agg #[(Value.int .i64 g1_v_0), (Value.int .i64 g1_v_1), (Value.float .f64 g1_v_2), (Value.string g1_v_3)]), (Value.int .i64 g2_tid)] h Q
/-- livery/liverykeep.Ints -/
def S_liverykeep_Ints (g0_a : Sl) (g1_b : Sl) (h : Hp) (Q : List Value → Hp → Prop) : Prop := Fn PP 12 #[(Value.slice g0_a.a g0_a.n g0_a.c), (Value.slice g1_b.a g1_b.n g1_b.c)] h Q
/-- livery/key.Least -/
def S_key_Least (g0_v_0 : Int) (g0_v_1 : Int) (g0_v_2 : Nat) (g0_v_3 : ByteArray) (h : Hp) (Q : List Value → Hp → Prop) : Prop := Fn PP 25 #[(Value.agg #[(Value.int .i64 g0_v_0), (Value.int .i64 g0_v_1), (Value.float .f64 g0_v_2), (Value.string g0_v_3)])] h Q
/-- (*livery/index.Index).between -/
def S_index_Index_between (g0_x : Option Addr) (g1_from : ByteArray) (g2_to : ByteArray) (h : Hp) (Q : List Value → Hp → Prop) : Prop := Fn PP 26 #[(Value.pointer g0_x), (Value.string g1_from), (Value.string g2_to)] h Q
/-- livery/key.After -/
def S_key_After (g0_v_0 : Int) (g0_v_1 : Int) (g0_v_2 : Nat) (g0_v_3 : ByteArray) (h : Hp) (Q : List Value → Hp → Prop) : Prop := Fn PP 27 #[(Value.agg #[(Value.int .i64 g0_v_0), (Value.int .i64 g0_v_1), (Value.float .f64 g0_v_2), (Value.string g0_v_3)])] h Q
/-- (*livery/index.Index).Find -/
def S_index_Index_Find (g0_x : Option Addr) (g1_v_0 : Int) (g1_v_1 : Int) (g1_v_2 : Nat) (g1_v_3 : ByteArray) (h : Hp) (Q : List Value → Hp → Prop) : Prop := Fn PP 13 #[(Value.pointer g0_x), (Value.agg #[(Value.int .i64 g1_v_0), (Value.int .i64 g1_v_1), (Value.float .f64 g1_v_2), (Value.string g1_v_3)])] h Q
/-- (*livery/leaf.Leaves).Len -/
def S_leaf_Leaves_Len (g0_x : Option Addr) (h : Hp) (Q : List Value → Hp → Prop) : Prop := Fn PP 31 #[(Value.pointer g0_x)] h Q
/-- (*livery/index.Index).Len -/
def S_index_Index_Len (g0_x : Option Addr) (h : Hp) (Q : List Value → Hp → Prop) : Prop := Fn PP 17 #[(Value.pointer g0_x)] h Q
/-- (*livery/leaf.Leaves).Has -/
def S_leaf_Leaves_Has (g0_x : Option Addr) (g1_k : ByteArray) (h : Hp) (Q : List Value → Hp → Prop) : Prop := Fn PP 32 #[(Value.pointer g0_x), (Value.string g1_k)] h Q
/-- (*livery/index.Index).Has -/
def S_index_Index_Has (g0_x : Option Addr) (g1_v_0 : Int) (g1_v_1 : Int) (g1_v_2 : Nat) (g1_v_3 : ByteArray) (g2_tid : Int) (h : Hp) (Q : List Value → Hp → Prop) : Prop := Fn PP 19 #[(Value.pointer g0_x), (Value.agg #[(Value.int .i64 g1_v_0), (Value.int .i64 g1_v_1), (Value.float .f64 g1_v_2), (Value.string g1_v_3)]), (Value.int .i64 g2_tid)] h Q
/-- livery/liverylaw11.wakes -/
def S_liverylaw11_wakes (h : Hp) (Q : List Value → Hp → Prop) : Prop := Fn PP 8 #[] h Q
/-- slices.Delete[[]string,string] -/
def S_slices_Delete_sstring_string (g0_s : Sl) (g1_i : Int) (g2_j : Int) (h : Hp) (Q : List Value → Hp → Prop) : Prop := Fn PP 38 #[(Value.slice g0_s.a g0_s.n g0_s.c), (Value.int .i64 g1_i), (Value.int .i64 g2_j)] h Q
/-- slices.Delete[[]*livery/leaf.one,*livery/leaf.one] -/
def S_slices_Delete_spleaf_one_pleaf_one (g0_s : Sl) (g1_i : Int) (g2_j : Int) (h : Hp) (Q : List Value → Hp → Prop) : Prop := Fn PP 39 #[(Value.slice g0_s.a g0_s.n g0_s.c), (Value.int .i64 g1_i), (Value.int .i64 g2_j)] h Q
/-- (*livery/leaf.Leaves).Remove -/
def S_leaf_Leaves_Remove (g0_x : Option Addr) (g1_k : ByteArray) (h : Hp) (Q : List Value → Hp → Prop) : Prop := Fn PP 23 #[(Value.pointer g0_x), (Value.string g1_k)] h Q
/-- (*livery/index.Index).Drop -/
def S_index_Index_Drop (g0_x : Option Addr) (g1_v_0 : Int) (g1_v_1 : Int) (g1_v_2 : Nat) (g1_v_3 : ByteArray) (g2_tid : Int) (h : Hp) (Q : List Value → Hp → Prop) : Prop := Fn PP 9 #[(Value.pointer g0_x), (Value.agg #[(Value.int .i64 g1_v_0), (Value.int .i64 g1_v_1), (Value.float .f64 g1_v_2), (Value.string g1_v_3)]), (Value.int .i64 g2_tid)] h Q
/-- (*livery/index.Index).Range -/
def S_index_Index_Range (g0_x : Option Addr) (g1_v_0 : Int) (g1_v_1 : Int) (g1_v_2 : Nat) (g1_v_3 : ByteArray) (g2_w_0 : Int) (g2_w_1 : Int) (g2_w_2 : Nat) (g2_w_3 : ByteArray) (h : Hp) (Q : List Value → Hp → Prop) : Prop := Fn PP 11 #[(Value.pointer g0_x), (Value.agg #[(Value.int .i64 g1_v_0), (Value.int .i64 g1_v_1), (Value.float .f64 g1_v_2), (Value.string g1_v_3)]), (Value.agg #[(Value.int .i64 g2_w_0), (Value.int .i64 g2_w_1), (Value.float .f64 g2_w_2), (Value.string g2_w_3)])] h Q
/-- livery/liverylaw11.IndexParts -/
def S_liverylaw11_IndexParts (g0_l : Sl) (g1_n_0 : Int) (g1_n_1 : Int) (g1_n_2 : Int) (h : Hp) (Q : List Value → Hp → Prop) : Prop := Fn PP 3 #[(Value.slice g0_l.a g0_l.n g0_l.c), (Value.agg #[(Value.int .i8 g1_n_0), (Value.int .i8 g1_n_1), (Value.int .i8 g1_n_2)])] h Q
/-- livery/liveryref02.plain -/
def S_liveryref02_plain (g0_f : Nat) (h : Hp) (Q : List Value → Hp → Prop) : Prop := Fn PP 28 #[(Value.float .f64 g0_f)] h Q
/-- math.IsNaN -/
def S_math_IsNaN (g0_f : Nat) (h : Hp) (Q : List Value → Hp → Prop) : Prop := Fn PP 61 #[(Value.float .f64 g0_f)] h Q
/-- livery/liveryref01.Canon -/
def S_liveryref01_Canon (g0_f : Nat) (h : Hp) (Q : List Value → Hp → Prop) : Prop := Fn PP 46 #[(Value.float .f64 g0_f)] h Q
/-- livery/liveryref01.Is -/
def S_liveryref01_Is (g0_f : Nat) (h : Hp) (Q : List Value → Hp → Prop) : Prop := Fn PP 29 #[(Value.float .f64 g0_f)] h Q
/-- livery/liveryref02.Good -/
def S_liveryref02_Good (g0_v_0 : Int) (g0_v_1 : Int) (g0_v_2 : Nat) (g0_v_3 : ByteArray) (h : Hp) (Q : List Value → Hp → Prop) : Prop := Fn PP 14 #[(Value.agg #[(Value.int .i64 g0_v_0), (Value.int .i64 g0_v_1), (Value.float .f64 g0_v_2), (Value.string g0_v_3)])] h Q
/-- livery/liveryref01.rank -/
def S_liveryref01_rank (g0_f : Nat) (h : Hp) (Q : List Value → Hp → Prop) : Prop := Fn PP 47 #[(Value.float .f64 g0_f)] h Q
/-- livery/liveryref01.Compare -/
def S_liveryref01_Compare (g0_a : Nat) (g1_b : Nat) (h : Hp) (Q : List Value → Hp → Prop) : Prop := Fn PP 30 #[(Value.float .f64 g0_a), (Value.float .f64 g1_b)] h Q
/-- livery/liveryref02.Compare -/
def S_liveryref02_Compare (g0_a_0 : Int) (g0_a_1 : Int) (g0_a_2 : Nat) (g0_a_3 : ByteArray) (g1_b_0 : Int) (g1_b_1 : Int) (g1_b_2 : Nat) (g1_b_3 : ByteArray) (h : Hp) (Q : List Value → Hp → Prop) : Prop := Fn PP 15 #[(Value.agg #[(Value.int .i64 g0_a_0), (Value.int .i64 g0_a_1), (Value.float .f64 g0_a_2), (Value.string g0_a_3)]), (Value.agg #[(Value.int .i64 g1_b_0), (Value.int .i64 g1_b_1), (Value.float .f64 g1_b_2), (Value.string g1_b_3)])] h Q
/-- livery/liverykeep.Has -/
def S_liverykeep_Has (g0_l : Sl) (g1_n : Int) (h : Hp) (Q : List Value → Hp → Prop) : Prop := Fn PP 16 #[(Value.slice g0_l.a g0_l.n g0_l.c), (Value.int .i64 g1_n)] h Q
/-- livery/liverylaw11.IndexFinds -/
def S_liverylaw11_IndexFinds (g0_l : Sl) (g1_v_0 : Int) (g1_v_1 : Int) (g1_v_2 : Nat) (g1_v_3 : ByteArray) (g2_w_0 : Int) (g2_w_1 : Int) (g2_w_2 : Nat) (g2_w_3 : ByteArray) (h : Hp) (Q : List Value → Hp → Prop) : Prop := Fn PP 4 #[(Value.slice g0_l.a g0_l.n g0_l.c), (Value.agg #[(Value.int .i64 g1_v_0), (Value.int .i64 g1_v_1), (Value.float .f64 g1_v_2), (Value.string g1_v_3)]), (Value.agg #[(Value.int .i64 g2_w_0), (Value.int .i64 g2_w_1), (Value.float .f64 g2_w_2), (Value.string g2_w_3)])] h Q
/-- (*livery/leaf.Leaves).All -/
def S_leaf_Leaves_All (g0_x : Option Addr) (h : Hp) (Q : List Value → Hp → Prop) : Prop := Fn PP 33 #[(Value.pointer g0_x)] h Q
/-- (*livery/index.Index).Leaves -/
def S_index_Index_Leaves (g0_x : Option Addr) (h : Hp) (Q : List Value → Hp → Prop) : Prop := Fn PP 20 #[(Value.pointer g0_x)] h Q
/-- livery/liverylaw11.IndexNone -/
def S_liverylaw11_IndexNone (g0_v_0 : Int) (g0_v_1 : Int) (g0_v_2 : Nat) (g0_v_3 : ByteArray) (g1_tid : Int) (h : Hp) (Q : List Value → Hp → Prop) : Prop := Fn PP 5 #[(Value.agg #[(Value.int .i64 g0_v_0), (Value.int .i64 g0_v_1), (Value.float .f64 g0_v_2), (Value.string g0_v_3)]), (Value.int .i64 g1_tid)] h Q
/-- (*livery/leaf.Leaves).Range -/
def S_leaf_Leaves_Range (g0_x : Option Addr) (g1_from : ByteArray) (g2_to : ByteArray) (h : Hp) (Q : List Value → Hp → Prop) : Prop := Fn PP 43 #[(Value.pointer g0_x), (Value.string g1_from), (Value.string g2_to)] h Q
/-- livery/index.entries -/
def S_index_entries (g0_keys : Sl) (h : Hp) (Q : List Value → Hp → Prop) : Prop := Fn PP 44 #[(Value.slice g0_keys.a g0_keys.n g0_keys.c)] h Q
/-- livery/key.wide -/
def S_key_wide (g0_s : ByteArray) (h : Hp) (Q : List Value → Hp → Prop) : Prop := Fn PP 86 #[(Value.string g0_s)] h Q
/-- livery/float.Is -/
def S_float_Is (g0_f : Nat) (h : Hp) (Q : List Value → Hp → Prop) : Prop := Fn PP 78 #[(Value.float .f64 g0_f)] h Q
/-- livery/float.From -/
def S_float_From (g0_u : Int) (h : Hp) (Q : List Value → Hp → Prop) : Prop := Fn PP 87 #[(Value.int .u64 g0_u)] h Q
/-- strings.IndexByte -/
def S_strings_IndexByte (g0_s : ByteArray) (g1_c : Int) (h : Hp) (Q : List Value → Hp → Prop) : Prop := Fn PP 95 #[(Value.string g0_s), (Value.int .u8 g1_c)] h Q
/-- (*strings.Builder).WriteByte -/
def S_strings_Builder_WriteByte (g0_b : Option Addr) (g1_c : Int) (h : Hp) (Q : List Value → Hp → Prop) : Prop := Fn PP 96 #[(Value.pointer g0_b), (Value.int .u8 g1_c)] h Q
/-- livery/key.text -/
def S_key_text (g0_s : ByteArray) (h : Hp) (Q : List Value → Hp → Prop) : Prop := Fn PP 88 #[(Value.string g0_s)] h Q
/-- livery/key.first -/
def S_key_first (g0_k : ByteArray) (h : Hp) (Q : List Value → Hp → Prop) : Prop := Fn PP 76 #[(Value.string g0_k)] h Q
/-- livery/key.Split -/
def S_key_Split (g0_e : ByteArray) (h : Hp) (Q : List Value → Hp → Prop) : Prop := Fn PP 60 #[(Value.string g0_e)] h Q
/-- livery/index.entries$1 -/
def S_index_entries_1 (g0_yield_f : Nat) (g0_yield_c : Array Value) (g1_x : Addr) (h : Hp) (Q : List Value → Hp → Prop) : Prop := Fn PP 59 #[(Value.func (.func g0_yield_f) #[] g0_yield_c), (Value.pointer (some g1_x))] h Q
/-- (livery/value.own).bare -/
def S_value_own_bare (g0_v_0 : Int) (g0_v_1 : Int) (g0_v_2 : Nat) (g0_v_3 : ByteArray) (g1_n : Bool) (g2_f : Bool) (g3_s : Bool) (h : Hp) (Q : List Value → Hp → Prop) : Prop := Fn PP 77 #[(Value.agg #[(Value.int .i64 g0_v_0), (Value.int .i64 g0_v_1), (Value.float .f64 g0_v_2), (Value.string g0_v_3)]), (Value.bool g1_n), (Value.bool g2_f), (Value.bool g3_s)] h Q
/-- (livery/value.own).null -/
def S_value_own_null (g0_v_0 : Int) (g0_v_1 : Int) (g0_v_2 : Nat) (g0_v_3 : ByteArray) (h : Hp) (Q : List Value → Hp → Prop) : Prop := Fn PP 63 #[(Value.agg #[(Value.int .i64 g0_v_0), (Value.int .i64 g0_v_1), (Value.float .f64 g0_v_2), (Value.string g0_v_3)])] h Q
/-- (livery/value.own).bool -/
def S_value_own_bool (g0_v_0 : Int) (g0_v_1 : Int) (g0_v_2 : Nat) (g0_v_3 : ByteArray) (h : Hp) (Q : List Value → Hp → Prop) : Prop := Fn PP 64 #[(Value.agg #[(Value.int .i64 g0_v_0), (Value.int .i64 g0_v_1), (Value.float .f64 g0_v_2), (Value.string g0_v_3)])] h Q
/-- (livery/value.own).int -/
def S_value_own_int (g0_v_0 : Int) (g0_v_1 : Int) (g0_v_2 : Nat) (g0_v_3 : ByteArray) (h : Hp) (Q : List Value → Hp → Prop) : Prop := Fn PP 65 #[(Value.agg #[(Value.int .i64 g0_v_0), (Value.int .i64 g0_v_1), (Value.float .f64 g0_v_2), (Value.string g0_v_3)])] h Q
/-- (livery/value.own).float -/
def S_value_own_float (g0_v_0 : Int) (g0_v_1 : Int) (g0_v_2 : Nat) (g0_v_3 : ByteArray) (h : Hp) (Q : List Value → Hp → Prop) : Prop := Fn PP 66 #[(Value.agg #[(Value.int .i64 g0_v_0), (Value.int .i64 g0_v_1), (Value.float .f64 g0_v_2), (Value.string g0_v_3)])] h Q
/-- (livery/value.own).text -/
def S_value_own_text (g0_v_0 : Int) (g0_v_1 : Int) (g0_v_2 : Nat) (g0_v_3 : ByteArray) (h : Hp) (Q : List Value → Hp → Prop) : Prop := Fn PP 67 #[(Value.agg #[(Value.int .i64 g0_v_0), (Value.int .i64 g0_v_1), (Value.float .f64 g0_v_2), (Value.string g0_v_3)])] h Q
/-- (*strings.Builder).copyCheck -/
def S_strings_Builder_copyCheck (g0_b : Option Addr) (h : Hp) (Q : List Value → Hp → Prop) : Prop := Fn PP 82 #[(Value.pointer g0_b)] h Q
/-- internal/abi.NoEscape -/
def S_internal_abi_NoEscape (g0_x : Option Addr) (h : Hp) (Q : List Value → Hp → Prop) : Prop := Fn PP 93 #[(Value.pointer g0_x)] h Q
/-- (runtime.boundsError).Error -/
def S_runtime_boundsError_Error (g0_x_0 : Int) (g0_x_1 : Int) (g0_x_2 : Bool) (g0_x_3 : Int) (h : Hp) (Q : List Value → Hp → Prop) : Prop := Fn PP 103 #[(Value.agg #[(Value.int .i64 g0_x_0), (Value.int .i64 g0_x_1), (Value.bool g0_x_2), (Value.int .u8 g0_x_3)])] h Q
/-- (runtime.boundsError).RuntimeError -/
def S_runtime_boundsError_RuntimeError (g0_x_0 : Int) (g0_x_1 : Int) (g0_x_2 : Bool) (g0_x_3 : Int) (h : Hp) (Q : List Value → Hp → Prop) : Prop := Fn PP 104 #[(Value.agg #[(Value.int .i64 g0_x_0), (Value.int .i64 g0_x_1), (Value.bool g0_x_2), (Value.int .u8 g0_x_3)])] h Q
/-- (runtime.errorString).Error -/
def S_runtime_errorString_Error (g0_x : ByteArray) (h : Hp) (Q : List Value → Hp → Prop) : Prop := Fn PP 105 #[(Value.string g0_x)] h Q
/-- (runtime.errorString).RuntimeError -/
def S_runtime_errorString_RuntimeError (g0_x : ByteArray) (h : Hp) (Q : List Value → Hp → Prop) : Prop := Fn PP 106 #[(Value.string g0_x)] h Q
/-- (runtime.plainError).Error -/
def S_runtime_plainError_Error (g0_x : ByteArray) (h : Hp) (Q : List Value → Hp → Prop) : Prop := Fn PP 107 #[(Value.string g0_x)] h Q
/-- (runtime.plainError).RuntimeError -/
def S_runtime_plainError_RuntimeError (g0_x : ByteArray) (h : Hp) (Q : List Value → Hp → Prop) : Prop := Fn PP 108 #[(Value.string g0_x)] h Q
/-- (runtime.errorAddressString).Error -/
def S_runtime_errorAddressString_Error (g0_x_0 : ByteArray) (g0_x_1 : Int) (h : Hp) (Q : List Value → Hp → Prop) : Prop := Fn PP 109 #[(Value.agg #[(Value.string g0_x_0), (Value.int .u64 g0_x_1)])] h Q
/-- (runtime.errorAddressString).RuntimeError -/
def S_runtime_errorAddressString_RuntimeError (g0_x_0 : ByteArray) (g0_x_1 : Int) (h : Hp) (Q : List Value → Hp → Prop) : Prop := Fn PP 110 #[(Value.agg #[(Value.string g0_x_0), (Value.int .u64 g0_x_1)])] h Q
/-- (*runtime.TypeAssertionError).Error -/
def S_runtime_TypeAssertionError_Error (g0_x : Option Addr) (h : Hp) (Q : List Value → Hp → Prop) : Prop := Fn PP 111 #[(Value.pointer g0_x)] h Q
/-- (*runtime.TypeAssertionError).RuntimeError -/
def S_runtime_TypeAssertionError_RuntimeError (g0_x : Option Addr) (h : Hp) (Q : List Value → Hp → Prop) : Prop := Fn PP 112 #[(Value.pointer g0_x)] h Q
/-- (*runtime.PanicNilError).Error -/
def S_runtime_PanicNilError_Error (g0_x : Option Addr) (h : Hp) (Q : List Value → Hp → Prop) : Prop := Fn PP 113 #[(Value.pointer g0_x)] h Q
/-- (*runtime.PanicNilError).RuntimeError -/
def S_runtime_PanicNilError_RuntimeError (g0_x : Option Addr) (h : Hp) (Q : List Value → Hp → Prop) : Prop := Fn PP 114 #[(Value.pointer g0_x)] h Q
/-- (*internal/abi.Type).Align -/
def S_internal_abi_Type_Align (g0_x : Option Addr) (h : Hp) (Q : List Value → Hp → Prop) : Prop := Fn PP 115 #[(Value.pointer g0_x)] h Q
/-- (internal/runtime/maps.unhashableTypeError).Error -/
def S_internal_runtime_maps_unhashableTypeError_Error (g0_x_0 : Option Addr) (h : Hp) (Q : List Value → Hp → Prop) : Prop := Fn PP 116 #[(Value.agg #[(Value.pointer g0_x_0)])] h Q
/-- (internal/runtime/maps.unhashableTypeError).RuntimeError -/
def S_internal_runtime_maps_unhashableTypeError_RuntimeError (g0_x_0 : Option Addr) (h : Hp) (Q : List Value → Hp → Prop) : Prop := Fn PP 117 #[(Value.agg #[(Value.pointer g0_x_0)])] h Q
/-- (livery/api.Errno).Error -/
def S_api_Errno_Error (g0_x : Int) (h : Hp) (Q : List Value → Hp → Prop) : Prop := Fn PP 118 #[(Value.int .i64 g0_x)] h Q
/-- (*strings.Builder).Reset -/
def S_strings_Builder_Reset (g0_x : Option Addr) (h : Hp) (Q : List Value → Hp → Prop) : Prop := Fn PP 119 #[(Value.pointer g0_x)] h Q
/-- (internal/abi.Kind).String -/
def S_internal_abi_Kind_String (g0_x : Int) (h : Hp) (Q : List Value → Hp → Prop) : Prop := Fn PP 120 #[(Value.int .u8 g0_x)] h Q
/-- var's door: gosem.cut.vars holds initialisers alone; see the manifest's row cutvarsword (look 11, test files too) -/
def S_var_s_door_gosem_cut_vars_holds_initialisers_alone_see_the_manifest_s_row_cutvarsword_look_11_test_files_too (h : Hp) (Q : List Value → Hp → Prop) : Prop := Fn PP 121 #[] h Q
/-- var's door: the look of gosem.cut.vars went over the folder that the caller named as the repository's root (look 11) -/
def S_var_s_door_the_look_of_gosem_cut_vars_went_over_the_folder_that_the_caller_named_as_the_repository_s_root_look_11 (h : Hp) (Q : List Value → Hp → Prop) : Prop := Fn PP 122 #[] h Q
/-- var's door: unicode/utf8.acceptRanges is laid by its own initialiser, plain data (look 11) -/
def S_var_s_door_unicode_utf8_acceptRanges_is_laid_by_its_own_initialiser_plain_data_look_11 (h : Hp) (Q : List Value → Hp → Prop) : Prop := Fn PP 123 #[] h Q
/-- var's door: unicode/utf8.first is laid by its text alone (pinned 1) -/
def S_var_s_door_unicode_utf8_first_is_laid_by_its_text_alone_pinned_1 (h : Hp) (Q : List Value → Hp → Prop) : Prop := Fn PP 124 #[] h Q
/-- gosem.cut.vars -/
def S_gosem_cut_vars (h : Hp) (Q : List Value → Hp → Prop) : Prop := Fn PP 125 #[] h Q
def F_leaf_New (g0_fan : Int) (h : Hp) (Q : List Value → Hp → Prop) : Prop :=
∀ J1 : List Value → Hp → Prop, (∀ b2 : Bool, ∀ h3 : Hp, ((if b2 = true then
      (Q [(Value.pointer none), (Value.int .i64 (1 : Int))] h3) else
      (wth (Array.push h3 (Obj.cells #[(Value.int .i64 (1 : Int)), (Value.string (ByteArray.mk #[])), (Value.slice none 0 0)] T_leaf_one)) fun h4 =>
        wth (Array.push h4 (Obj.cells #[(Value.pointer (some (Addr.mk (Array.size h3) 0 none)))] T_pleaf_one)) fun h5 =>
        wth (Array.push h5 (Obj.cells #[(Value.int .i64 g0_fan), (Value.slice (some (Addr.mk (Array.size h4) 0 none)) 1 1), (Value.int .i64 (2 : Int))] T_leaf_Leaves)) fun h6 =>
        Q [(Value.pointer (some (Addr.mk (Array.size h5) 0 none))), (Value.int .i64 (0 : Int))] h6))) → J1 [(Value.bool b2)] h3) →
(if (decide (g0_fan < (2 : Int))) = true then (J1 [(Value.bool true)] h) else
  (J1 [(Value.bool (decide (g0_fan > (64 : Int))))] h))
def A_leaf_New : Ann := (.mk none ⟨[], []⟩ .nil (.mk none ⟨[], []⟩ (.mk none ⟨[], []⟩ (.mk (some ⟨[0], [(9, (.c .bool))]⟩) ⟨[], []⟩ .nil .nil) .nil) .nil))
theorem E_leaf_New (g0_fan : Int) (h : Hp) (Q : List Value → Hp → Prop) : cw PP 16 (fun _ => []) (bodyOf Tryd.f21) A_leaf_New (finQ PP (Tryd.f21.results.toList) Q) (argFr [(Value.int .i64 g0_fan)]) h = F_leaf_New g0_fan h Q := by kernel_rfl
theorem O_leaf_New (g0_fan : Int) {h : Hp} {Q : List Value → Hp → Prop} (H : F_leaf_New g0_fan h Q) : S_leaf_New g0_fan h Q :=
  fn_of_cw (hs := (fun _ => [])) (ann := A_leaf_New) (args := [(Value.int .i64 g0_fan)]) mixedPP Tryd.func21 (c := bodyOf Tryd.f21) (by kernel_rfl) (by kernel_rfl) (by kernel_rfl) (Eq.mpr (E_leaf_New g0_fan h Q) H)
def F_index_New (g0_fan : Int) (h : Hp) (Q : List Value → Hp → Prop) : Prop :=
S_leaf_New g0_fan h fun (vs1 : List Value) (h2 : Hp) =>
∃ p3 : Option Addr, ∃ n4 : Int, vs1 = [(Value.pointer p3), (Value.int .i64 n4)] ∧
(if (n4 != (0 : Int)) = true then
  (Q [(Value.pointer none), (Value.int .i64 n4)] h2) else
  (wth (Array.push h2 (Obj.cells #[(Value.pointer p3)] T_index_Index)) fun h5 =>
    Q [(Value.pointer (some (Addr.mk (Array.size h2) 0 none))), (Value.int .i64 (0 : Int))] h5))
def A_index_New : Ann := .nil
theorem E_index_New (g0_fan : Int) (h : Hp) (Q : List Value → Hp → Prop) : cw PP 17 (fun _ => []) (bodyOf Tryd.f6) A_index_New (finQ PP (Tryd.f6.results.toList) Q) (argFr [(Value.int .i64 g0_fan)]) h = F_index_New g0_fan h Q := by kernel_rfl
theorem O_index_New (g0_fan : Int) {h : Hp} {Q : List Value → Hp → Prop} (H : F_index_New g0_fan h Q) : S_index_New g0_fan h Q :=
  fn_of_cw (hs := (fun _ => [])) (ann := A_index_New) (args := [(Value.int .i64 g0_fan)]) mixedPP Tryd.func6 (c := bodyOf Tryd.f6) (by kernel_rfl) (by kernel_rfl) (by kernel_rfl) (Eq.mpr (E_index_New g0_fan h Q) H)
def F_liverykeep_LargeValue (g0_v_0 : Int) (g0_v_1 : Int) (g0_v_2 : Nat) (g0_v_3 : ByteArray) (h : Hp) (Q : List Value → Hp → Prop) : Prop :=
wth (Array.push h (Obj.cells #[(Value.int .i64 g0_v_0), (Value.int .i64 g0_v_1), (Value.float .f64 g0_v_2), (Value.string g0_v_3)] T_api_Value)) fun h1 =>
∃ s2 : ByteArray, rd h1 (Addr.add (Addr.mk (Array.size h) 0 none) 3) = some (Value.string s2) ∧
Q [(Value.bool (decide ((ByteArray.size s2 : Int) > (2000 : Int))))] h1
def A_liverykeep_LargeValue : Ann := .nil
theorem E_liverykeep_LargeValue (g0_v_0 : Int) (g0_v_1 : Int) (g0_v_2 : Nat) (g0_v_3 : ByteArray) (h : Hp) (Q : List Value → Hp → Prop) : cw PP 7 (fun _ => []) (bodyOf Tryd.f18) A_liverykeep_LargeValue (finQ PP (Tryd.f18.results.toList) Q) (argFr [(Value.agg #[(Value.int .i64 g0_v_0), (Value.int .i64 g0_v_1), (Value.float .f64 g0_v_2), (Value.string g0_v_3)])]) h = F_liverykeep_LargeValue g0_v_0 g0_v_1 g0_v_2 g0_v_3 h Q := by kernel_rfl
theorem O_liverykeep_LargeValue (g0_v_0 : Int) (g0_v_1 : Int) (g0_v_2 : Nat) (g0_v_3 : ByteArray) {h : Hp} {Q : List Value → Hp → Prop} (H : F_liverykeep_LargeValue g0_v_0 g0_v_1 g0_v_2 g0_v_3 h Q) : S_liverykeep_LargeValue g0_v_0 g0_v_1 g0_v_2 g0_v_3 h Q :=
  fn_of_cw (hs := (fun _ => [])) (ann := A_liverykeep_LargeValue) (args := [(Value.agg #[(Value.int .i64 g0_v_0), (Value.int .i64 g0_v_1), (Value.float .f64 g0_v_2), (Value.string g0_v_3)])]) mixedPP Tryd.func18 (c := bodyOf Tryd.f18) (by kernel_rfl) (by kernel_rfl) (by kernel_rfl) (Eq.mpr (E_liverykeep_LargeValue g0_v_0 g0_v_1 g0_v_2 g0_v_3 h Q) H)
def F_liverylaw11_fair (g0_l : Sl) (h : Hp) (Q : List Value → Hp → Prop) : Prop :=
∀ X1 : List Value → Hp → Prop, (∀ n2 : Int, ∀ h3 : Hp, ((if (decide (n2 < (g0_l.n : Int))) = true then
      (∀ J4 : List Value → Hp → Prop, (∀ b5 : Bool, ∀ h6 : Hp, ((if b5 = true then
              (Q [(Value.bool false)] h6) else
              (X1 [(Value.int .i64 (IntKind.wrap .i64 (n2 + (1 : Int))))] h6))) → J4 [(Value.bool b5)] h6) →
        nilW g0_l.a fun a7 => ixOk n2 g0_l.n (∃ n8 : Int, rd h3 (Addr.add (Addr.add (Addr.add a7 (Int.toNat n2 * 10)) 2) 0) = some (Value.int .i64 n8) ∧ ∃ n9 : Int, rd h3 (Addr.add (Addr.add (Addr.add a7 (Int.toNat n2 * 10)) 2) 1) = some (Value.int .i64 n9) ∧ ∃ x10 : Nat, rd h3 (Addr.add (Addr.add (Addr.add a7 (Int.toNat n2 * 10)) 2) 2) = some (Value.float .f64 x10) ∧ ∃ s11 : ByteArray, rd h3 (Addr.add (Addr.add (Addr.add a7 (Int.toNat n2 * 10)) 2) 3) = some (Value.string s11) ∧ S_liverykeep_LargeValue n8 n9 x10 s11 h3 fun (vs12 : List Value) (h13 : Hp) =>
          ∃ b14 : Bool, vs12 = [(Value.bool b14)] ∧
          (if b14 = true then (J4 [(Value.bool true)] h13) else
            (nilW g0_l.a fun a15 => ixOk n2 g0_l.n (∃ n16 : Int, rd h13 (Addr.add (Addr.add (Addr.add a15 (Int.toNat n2 * 10)) 6) 0) = some (Value.int .i64 n16) ∧ ∃ n17 : Int, rd h13 (Addr.add (Addr.add (Addr.add a15 (Int.toNat n2 * 10)) 6) 1) = some (Value.int .i64 n17) ∧ ∃ x18 : Nat, rd h13 (Addr.add (Addr.add (Addr.add a15 (Int.toNat n2 * 10)) 6) 2) = some (Value.float .f64 x18) ∧ ∃ s19 : ByteArray, rd h13 (Addr.add (Addr.add (Addr.add a15 (Int.toNat n2 * 10)) 6) 3) = some (Value.string s19) ∧ S_liverykeep_LargeValue n16 n17 x18 s19 h13 fun (vs20 : List Value) (h21 : Hp) =>
                ∃ b22 : Bool, vs20 = [(Value.bool b22)] ∧
                J4 [(Value.bool b22)] h21))))) else
      (Q [(Value.bool (decide ((g0_l.n : Int) ≤ (150 : Int))))] h3))) → X1 [(Value.int .i64 n2)] h3) →
X1 [(Value.int .i64 (0 : Int))] h
def A_liverylaw11_fair : Ann := (.mk none ⟨[], []⟩ .nil (.mk none ⟨[], []⟩ (.mk none ⟨[], []⟩ .nil (.mk none ⟨[], []⟩ (.mk none ⟨[0], [(3, (.c (.int .i64)))]⟩ (.mk none ⟨[], []⟩ .nil (.mk none ⟨[], []⟩ (.mk none ⟨[], []⟩ (.mk none ⟨[], []⟩ (.mk (some ⟨[0, 3], [(23, (.c .bool))]⟩) ⟨[], []⟩ .nil .nil) .nil) .nil) .nil)) .nil) .nil)) .nil))
theorem E_liverylaw11_fair (g0_l : Sl) (h : Hp) (Q : List Value → Hp → Prop) : cw PP 27 (fun _ => []) (bodyOf Tryd.f7) A_liverylaw11_fair (finQ PP (Tryd.f7.results.toList) Q) (argFr [(Value.slice g0_l.a g0_l.n g0_l.c)]) h = F_liverylaw11_fair g0_l h Q := by kernel_rfl
theorem O_liverylaw11_fair (g0_l : Sl) {h : Hp} {Q : List Value → Hp → Prop} (H : F_liverylaw11_fair g0_l h Q) : S_liverylaw11_fair g0_l h Q :=
  fn_of_cw (hs := (fun _ => [])) (ann := A_liverylaw11_fair) (args := [(Value.slice g0_l.a g0_l.n g0_l.c)]) mixedPP Tryd.func7 (c := bodyOf Tryd.f7) (by kernel_rfl) (by kernel_rfl) (by kernel_rfl) (Eq.mpr (E_liverylaw11_fair g0_l h Q) H)
def F_key_joined (g0_l : Sl) (h : Hp) (Q : List Value → Hp → Prop) : Prop :=
S_strings_Join ⟨g0_l.a, g0_l.n, g0_l.c⟩ (ByteArray.mk #[]) h fun (vs1 : List Value) (h2 : Hp) =>
∃ s3 : ByteArray, vs1 = [(Value.string s3)] ∧
Q [(Value.string s3)] h2
def A_key_joined : Ann := .nil
theorem E_key_joined (g0_l : Sl) (h : Hp) (Q : List Value → Hp → Prop) : cw PP 5 (fun _ => []) (bodyOf Tryd.f35) A_key_joined (finQ PP (Tryd.f35.results.toList) Q) (argFr [(Value.slice g0_l.a g0_l.n g0_l.c)]) h = F_key_joined g0_l h Q := by kernel_rfl
theorem O_key_joined (g0_l : Sl) {h : Hp} {Q : List Value → Hp → Prop} (H : F_key_joined g0_l h Q) : S_key_joined g0_l h Q :=
  fn_of_cw (hs := (fun _ => [])) (ann := A_key_joined) (args := [(Value.slice g0_l.a g0_l.n g0_l.c)]) mixedPP Tryd.func35 (c := bodyOf Tryd.f35) (by kernel_rfl) (by kernel_rfl) (by kernel_rfl) (Eq.mpr (E_key_joined g0_l h Q) H)
def F_value_Good (g0_v_0 : Int) (g0_v_1 : Int) (g0_v_2 : Nat) (g0_v_3 : ByteArray) (h : Hp) (Q : List Value → Hp → Prop) : Prop :=
wth (Array.push h (Obj.cells #[(Value.int .i64 g0_v_0), (Value.int .i64 g0_v_1), (Value.float .f64 g0_v_2), (Value.string g0_v_3)] T_api_Value)) fun h1 =>
wth (Array.push h1 (Obj.map #[] 0)) fun h2 =>
∃ (m3 : Nat) (es4 : Array MapEntry) (c5 : Nat), (some (Array.size h1)) = some m3 ∧ h2[m3]? = some (.map es4 c5) ∧ KeysLike (Value.int .i64 (0 : Int)) es4 ∧ wth (Array.setIfInBounds h2 m3 (mput (Value.int .i64 (0 : Int)) (Value.func (.func 63) #[] #[]) es4 c5)) fun h6 =>
∃ (m7 : Nat) (es8 : Array MapEntry) (c9 : Nat), (some (Array.size h1)) = some m7 ∧ h6[m7]? = some (.map es8 c9) ∧ KeysLike (Value.int .i64 (1 : Int)) es8 ∧ wth (Array.setIfInBounds h6 m7 (mput (Value.int .i64 (1 : Int)) (Value.func (.func 64) #[] #[]) es8 c9)) fun h10 =>
∃ (m11 : Nat) (es12 : Array MapEntry) (c13 : Nat), (some (Array.size h1)) = some m11 ∧ h10[m11]? = some (.map es12 c13) ∧ KeysLike (Value.int .i64 (2 : Int)) es12 ∧ wth (Array.setIfInBounds h10 m11 (mput (Value.int .i64 (2 : Int)) (Value.func (.func 65) #[] #[]) es12 c13)) fun h14 =>
∃ (m15 : Nat) (es16 : Array MapEntry) (c17 : Nat), (some (Array.size h1)) = some m15 ∧ h14[m15]? = some (.map es16 c17) ∧ KeysLike (Value.int .i64 (3 : Int)) es16 ∧ wth (Array.setIfInBounds h14 m15 (mput (Value.int .i64 (3 : Int)) (Value.func (.func 66) #[] #[]) es16 c17)) fun h18 =>
∃ (m19 : Nat) (es20 : Array MapEntry) (c21 : Nat), (some (Array.size h1)) = some m19 ∧ h18[m19]? = some (.map es20 c21) ∧ KeysLike (Value.int .i64 (4 : Int)) es20 ∧ wth (Array.setIfInBounds h18 m19 (mput (Value.int .i64 (4 : Int)) (Value.func (.func 67) #[] #[]) es20 c21)) fun h22 =>
∃ n23 : Int, rd h22 (Addr.add (Addr.mk (Array.size h) 0 none) 0) = some (Value.int .i64 n23) ∧
∃ es24 : Array MapEntry, mapAt h22 (some (Array.size h1)) es24 ∧ KeysLike (Value.int .i64 n23) es24 ∧ ((∃ f25 : Nat, ∃ cs26 : Array Value, mgetD (Value.int .i64 n23) es24 Value.nilFunc = (Value.func (.func f25) #[] cs26) ∧
    ∃ n28 : Int, rd h22 (Addr.add (Addr.mk (Array.size h) 0 none) 0) = some (Value.int .i64 n28) ∧ ∃ n29 : Int, rd h22 (Addr.add (Addr.mk (Array.size h) 0 none) 1) = some (Value.int .i64 n29) ∧ ∃ x30 : Nat, rd h22 (Addr.add (Addr.mk (Array.size h) 0 none) 2) = some (Value.float .f64 x30) ∧ ∃ s31 : ByteArray, rd h22 (Addr.add (Addr.mk (Array.size h) 0 none) 3) = some (Value.string s31) ∧ Fn PP f25 ((#[] ++ #[(Value.agg #[(Value.int .i64 n28), (Value.int .i64 n29), (Value.float .f64 x30), (Value.string s31)])]) ++ cs26) h22 fun (vs32 : List Value) (h33 : Hp) =>
    ∃ b34 : Bool, vs32 = [(Value.bool b34)] ∧
    Q [(Value.bool b34)] h33) ∨
  (mgetD (Value.int .i64 n23) es24 Value.nilFunc = Value.nilFunc ∧
    Q [(Value.bool false)] h22))
def A_value_Good : Ann := .nil
theorem E_value_Good (g0_v_0 : Int) (g0_v_1 : Int) (g0_v_2 : Nat) (g0_v_3 : ByteArray) (h : Hp) (Q : List Value → Hp → Prop) : cw PP 18 (fun _ => []) (bodyOf Tryd.f48) A_value_Good (finQ PP (Tryd.f48.results.toList) Q) (argFr [(Value.agg #[(Value.int .i64 g0_v_0), (Value.int .i64 g0_v_1), (Value.float .f64 g0_v_2), (Value.string g0_v_3)])]) h = F_value_Good g0_v_0 g0_v_1 g0_v_2 g0_v_3 h Q := by kernel_rfl
theorem O_value_Good (g0_v_0 : Int) (g0_v_1 : Int) (g0_v_2 : Nat) (g0_v_3 : ByteArray) {h : Hp} {Q : List Value → Hp → Prop} (H : F_value_Good g0_v_0 g0_v_1 g0_v_2 g0_v_3 h Q) : S_value_Good g0_v_0 g0_v_1 g0_v_2 g0_v_3 h Q :=
  fn_of_cw (hs := (fun _ => [])) (ann := A_value_Good) (args := [(Value.agg #[(Value.int .i64 g0_v_0), (Value.int .i64 g0_v_1), (Value.float .f64 g0_v_2), (Value.string g0_v_3)])]) mixedPP Tryd.func48 (c := bodyOf Tryd.f48) (by kernel_rfl) (by kernel_rfl) (by kernel_rfl) (Eq.mpr (E_value_Good g0_v_0 g0_v_1 g0_v_2 g0_v_3 h Q) H)
def F_key_eight (g0_u : Int) (h : Hp) (Q : List Value → Hp → Prop) : Prop :=
mkOk (8 : Int) (8 : Int) 1 (wth (Array.push h (Obj.cells (mkCells (zc PP T_uint8) (Int.toNat (8 : Int) * 1)) T_uint8)) fun h1 =>
  ∀ X2 : List Value → Hp → Prop, (∀ n3 : Int, ∀ h4 : Hp, ((if (decide (n3 < (((Int.toNat (8 : Int)) : Nat) : Int))) = true then
        (shOk (IntKind.wrap .i64 ((56 : Int) - (IntKind.wrap .i64 ((8 : Int) * n3)))) (nilW (some (Addr.mk (Array.size h) 0 none)) fun a5 => ixOk n3 (Int.toNat (8 : Int)) (stOk h4 (Addr.add a5 (Int.toNat n3 * 1)) 1 ∧ wth (wrs h4 (Addr.add a5 (Int.toNat n3 * 1)) 0 [(Value.int .u8 (IntKind.wrap .u8 (iShr .u64 g0_u (IntKind.wrap .i64 ((56 : Int) - (IntKind.wrap .i64 ((8 : Int) * n3)))))))]) fun h6 =>
              X2 [(Value.int .i64 (IntKind.wrap .i64 (n3 + (1 : Int))))] h6))) else
        (∃ s7 : ByteArray, bytesAt h4 (some (Addr.mk (Array.size h) 0 none)) (Int.toNat (8 : Int)) s7 ∧
          Q [(Value.string s7)] h4))) → X2 [(Value.int .i64 n3)] h4) →
  X2 [(Value.int .i64 (0 : Int))] h1)
def A_key_eight : Ann := (.mk none ⟨[], []⟩ .nil (.mk none ⟨[], []⟩ .nil (.mk none ⟨[], []⟩ (.mk none ⟨[], []⟩ .nil (.mk none ⟨[], []⟩ (.mk none ⟨[0, 3, 7], [(8, (.c (.int .i64)))]⟩ .nil .nil) .nil)) .nil)))
theorem E_key_eight (g0_u : Int) (h : Hp) (Q : List Value → Hp → Prop) : cw PP 23 (fun _ => []) (bodyOf Tryd.f49) A_key_eight (finQ PP (Tryd.f49.results.toList) Q) (argFr [(Value.int .u64 g0_u)]) h = F_key_eight g0_u h Q := by kernel_rfl
theorem O_key_eight (g0_u : Int) {h : Hp} {Q : List Value → Hp → Prop} (H : F_key_eight g0_u h Q) : S_key_eight g0_u h Q :=
  fn_of_cw (hs := (fun _ => [])) (ann := A_key_eight) (args := [(Value.int .u64 g0_u)]) mixedPP Tryd.func49 (c := bodyOf Tryd.f49) (by kernel_rfl) (by kernel_rfl) (by kernel_rfl) (Eq.mpr (E_key_eight g0_u h Q) H)
def F_float_Canon (g0_f : Nat) (h : Hp) (Q : List Value → Hp → Prop) : Prop :=
(if ((FloatKind.format .f64).order g0_f g0_f != some .eq) = true then
  (S_math_Float64frombits (9221120237041090560 : Int) h fun (vs1 : List Value) (h2 : Hp) =>
    ∃ x3 : Nat, vs1 = [(Value.float .f64 x3)] ∧
    Q [(Value.float .f64 x3)] h2) else
  ((if ((FloatKind.format .f64).order g0_f 0 == some .eq) = true then
      (Q [(Value.float .f64 0)] h) else
      (Q [(Value.float .f64 g0_f)] h))))
def A_float_Canon : Ann := .nil
theorem E_float_Canon (g0_f : Nat) (h : Hp) (Q : List Value → Hp → Prop) : cw PP 12 (fun _ => []) (bodyOf Tryd.f68) A_float_Canon (finQ PP (Tryd.f68.results.toList) Q) (argFr [(Value.float .f64 g0_f)]) h = F_float_Canon g0_f h Q := by kernel_rfl
theorem O_float_Canon (g0_f : Nat) {h : Hp} {Q : List Value → Hp → Prop} (H : F_float_Canon g0_f h Q) : S_float_Canon g0_f h Q :=
  fn_of_cw (hs := (fun _ => [])) (ann := A_float_Canon) (args := [(Value.float .f64 g0_f)]) mixedPP Tryd.func68 (c := bodyOf Tryd.f68) (by kernel_rfl) (by kernel_rfl) (by kernel_rfl) (Eq.mpr (E_float_Canon g0_f h Q) H)
def F_float_Bits (g0_f : Nat) (h : Hp) (Q : List Value → Hp → Prop) : Prop :=
S_float_Canon g0_f h fun (vs1 : List Value) (h2 : Hp) =>
∃ x3 : Nat, vs1 = [(Value.float .f64 x3)] ∧
S_math_Float64bits x3 h2 fun (vs4 : List Value) (h5 : Hp) =>
∃ n6 : Int, vs4 = [(Value.int .u64 n6)] ∧
(if ((iAnd .u64 n6 (9223372036854775808 : Int)) != (0 : Int)) = true then
  (Q [(Value.int .u64 (iXor .u64 (IntKind.max .u64) n6))] h5) else
  (Q [(Value.int .u64 (iOr .u64 n6 (9223372036854775808 : Int)))] h5))
def A_float_Bits : Ann := .nil
theorem E_float_Bits (g0_f : Nat) (h : Hp) (Q : List Value → Hp → Prop) : cw PP 14 (fun _ => []) (bodyOf Tryd.f50) A_float_Bits (finQ PP (Tryd.f50.results.toList) Q) (argFr [(Value.float .f64 g0_f)]) h = F_float_Bits g0_f h Q := by kernel_rfl
theorem O_float_Bits (g0_f : Nat) {h : Hp} {Q : List Value → Hp → Prop} (H : F_float_Bits g0_f h Q) : S_float_Bits g0_f h Q :=
  fn_of_cw (hs := (fun _ => [])) (ann := A_float_Bits) (args := [(Value.float .f64 g0_f)]) mixedPP Tryd.func50 (c := bodyOf Tryd.f50) (by kernel_rfl) (by kernel_rfl) (by kernel_rfl) (Eq.mpr (E_float_Bits g0_f h Q) H)
def F_key_Of (g0_v_0 : Int) (g0_v_1 : Int) (g0_v_2 : Nat) (g0_v_3 : ByteArray) (h : Hp) (Q : List Value → Hp → Prop) : Prop :=
wth (Array.push h (Obj.cells #[(Value.int .i64 g0_v_0), (Value.int .i64 g0_v_1), (Value.float .f64 g0_v_2), (Value.string g0_v_3)] T_api_Value)) fun h1 =>
∃ n2 : Int, rd h1 (Addr.add (Addr.mk (Array.size h) 0 none) 0) = some (Value.int .i64 n2) ∧ ∃ n3 : Int, rd h1 (Addr.add (Addr.mk (Array.size h) 0 none) 1) = some (Value.int .i64 n3) ∧ ∃ x4 : Nat, rd h1 (Addr.add (Addr.mk (Array.size h) 0 none) 2) = some (Value.float .f64 x4) ∧ ∃ s5 : ByteArray, rd h1 (Addr.add (Addr.mk (Array.size h) 0 none) 3) = some (Value.string s5) ∧ S_value_Good n2 n3 x4 s5 h1 fun (vs6 : List Value) (h7 : Hp) =>
∃ b8 : Bool, vs6 = [(Value.bool b8)] ∧
(if (!b8) = true then
  (Q [(Value.string (ByteArray.mk #[])), (Value.int .i64 (11 : Int))] h7) else
  (∃ n9 : Int, rd h7 (Addr.add (Addr.mk (Array.size h) 0 none) 0) = some (Value.int .i64 n9) ∧
    wth (Array.push h7 (Obj.cells #[(Value.int .u8 (IntKind.wrap .u8 n9))] T_uint8)) fun h10 =>
    ∃ s11 : ByteArray, bytesAt h10 (some (Addr.mk (Array.size h7) 0 none)) 1 s11 ∧
    ∃ n12 : Int, rd h10 (Addr.add (Addr.mk (Array.size h) 0 none) 0) = some (Value.int .i64 n12) ∧
    (if (n12 == (1 : Int)) = true then
      (∃ n13 : Int, rd h10 (Addr.add (Addr.mk (Array.size h) 0 none) 1) = some (Value.int .i64 n13) ∧
        wth (Array.push h10 (Obj.cells #[(Value.int .u8 (IntKind.wrap .u8 n13))] T_uint8)) fun h14 =>
        ∃ s15 : ByteArray, bytesAt h14 (some (Addr.mk (Array.size h10) 0 none)) 1 s15 ∧
        wth (Array.push h14 (Obj.cells #[(Value.string s11), (Value.string s15)] T_string)) fun h16 =>
        S_key_joined ⟨(some (Addr.mk (Array.size h14) 0 none)), 2, 2⟩ h16 fun (vs17 : List Value) (h18 : Hp) =>
        ∃ s19 : ByteArray, vs17 = [(Value.string s19)] ∧
        Q [(Value.string s19), (Value.int .i64 (0 : Int))] h18) else
      ((if (n12 == (2 : Int)) = true then
          (∃ n20 : Int, rd h10 (Addr.add (Addr.mk (Array.size h) 0 none) 1) = some (Value.int .i64 n20) ∧
            S_key_eight (iXor .u64 (IntKind.wrap .u64 n20) (9223372036854775808 : Int)) h10 fun (vs21 : List Value) (h22 : Hp) =>
            ∃ s23 : ByteArray, vs21 = [(Value.string s23)] ∧
            wth (Array.push h22 (Obj.cells #[(Value.string s11), (Value.string s23)] T_string)) fun h24 =>
            S_key_joined ⟨(some (Addr.mk (Array.size h22) 0 none)), 2, 2⟩ h24 fun (vs25 : List Value) (h26 : Hp) =>
            ∃ s27 : ByteArray, vs25 = [(Value.string s27)] ∧
            Q [(Value.string s27), (Value.int .i64 (0 : Int))] h26) else
          ((if (n12 == (3 : Int)) = true then
              (∃ x28 : Nat, rd h10 (Addr.add (Addr.mk (Array.size h) 0 none) 2) = some (Value.float .f64 x28) ∧
                S_float_Bits x28 h10 fun (vs29 : List Value) (h30 : Hp) =>
                ∃ n31 : Int, vs29 = [(Value.int .u64 n31)] ∧
                S_key_eight n31 h30 fun (vs32 : List Value) (h33 : Hp) =>
                ∃ s34 : ByteArray, vs32 = [(Value.string s34)] ∧
                wth (Array.push h33 (Obj.cells #[(Value.string s11), (Value.string s34)] T_string)) fun h35 =>
                S_key_joined ⟨(some (Addr.mk (Array.size h33) 0 none)), 2, 2⟩ h35 fun (vs36 : List Value) (h37 : Hp) =>
                ∃ s38 : ByteArray, vs36 = [(Value.string s38)] ∧
                Q [(Value.string s38), (Value.int .i64 (0 : Int))] h37) else
              ((if (n12 == (4 : Int)) = true then
                  (∃ s39 : ByteArray, rd h10 (Addr.add (Addr.mk (Array.size h) 0 none) 3) = some (Value.string s39) ∧
                    S_strings_ReplaceAll s39 (ByteArray.mk #[0]) (ByteArray.mk #[0, 255]) h10 fun (vs40 : List Value) (h41 : Hp) =>
                    ∃ s42 : ByteArray, vs40 = [(Value.string s42)] ∧
                    wth (Array.push h41 (Obj.cells #[(Value.string s11), (Value.string s42), (Value.string (ByteArray.mk #[0, 1]))] T_string)) fun h43 =>
                    S_key_joined ⟨(some (Addr.mk (Array.size h41) 0 none)), 3, 3⟩ h43 fun (vs44 : List Value) (h45 : Hp) =>
                    ∃ s46 : ByteArray, vs44 = [(Value.string s46)] ∧
                    Q [(Value.string s46), (Value.int .i64 (0 : Int))] h45) else
                  (Q [(Value.string s11), (Value.int .i64 (0 : Int))] h10))))))))))
def A_key_Of : Ann := .nil
theorem E_key_Of (g0_v_0 : Int) (g0_v_1 : Int) (g0_v_2 : Nat) (g0_v_3 : ByteArray) (h : Hp) (Q : List Value → Hp → Prop) : cw PP 53 (fun _ => []) (bodyOf Tryd.f34) A_key_Of (finQ PP (Tryd.f34.results.toList) Q) (argFr [(Value.agg #[(Value.int .i64 g0_v_0), (Value.int .i64 g0_v_1), (Value.float .f64 g0_v_2), (Value.string g0_v_3)])]) h = F_key_Of g0_v_0 g0_v_1 g0_v_2 g0_v_3 h Q := by kernel_rfl
theorem O_key_Of (g0_v_0 : Int) (g0_v_1 : Int) (g0_v_2 : Nat) (g0_v_3 : ByteArray) {h : Hp} {Q : List Value → Hp → Prop} (H : F_key_Of g0_v_0 g0_v_1 g0_v_2 g0_v_3 h Q) : S_key_Of g0_v_0 g0_v_1 g0_v_2 g0_v_3 h Q :=
  fn_of_cw (hs := (fun _ => [])) (ann := A_key_Of) (args := [(Value.agg #[(Value.int .i64 g0_v_0), (Value.int .i64 g0_v_1), (Value.float .f64 g0_v_2), (Value.string g0_v_3)])]) mixedPP Tryd.func34 (c := bodyOf Tryd.f34) (by kernel_rfl) (by kernel_rfl) (by kernel_rfl) (Eq.mpr (E_key_Of g0_v_0 g0_v_1 g0_v_2 g0_v_3 h Q) H)
def F_key_Entry (g0_v_0 : Int) (g0_v_1 : Int) (g0_v_2 : Nat) (g0_v_3 : ByteArray) (g1_n : Int) (h : Hp) (Q : List Value → Hp → Prop) : Prop :=
wth (Array.push h (Obj.cells #[(Value.int .i64 g0_v_0), (Value.int .i64 g0_v_1), (Value.float .f64 g0_v_2), (Value.string g0_v_3)] T_api_Value)) fun h1 =>
∃ n2 : Int, rd h1 (Addr.add (Addr.mk (Array.size h) 0 none) 0) = some (Value.int .i64 n2) ∧ ∃ n3 : Int, rd h1 (Addr.add (Addr.mk (Array.size h) 0 none) 1) = some (Value.int .i64 n3) ∧ ∃ x4 : Nat, rd h1 (Addr.add (Addr.mk (Array.size h) 0 none) 2) = some (Value.float .f64 x4) ∧ ∃ s5 : ByteArray, rd h1 (Addr.add (Addr.mk (Array.size h) 0 none) 3) = some (Value.string s5) ∧ S_key_Of n2 n3 x4 s5 h1 fun (vs6 : List Value) (h7 : Hp) =>
∃ s8 : ByteArray, ∃ n9 : Int, vs6 = [(Value.string s8), (Value.int .i64 n9)] ∧
(if (n9 != (0 : Int)) = true then
  (Q [(Value.string (ByteArray.mk #[])), (Value.int .i64 n9)] h7) else
  (∀ J10 : List Value → Hp → Prop, (∀ b11 : Bool, ∀ h12 : Hp, ((if b11 = true then
          (Q [(Value.string (ByteArray.mk #[])), (Value.int .i64 (1 : Int))] h12) else
          (shOk (8 : Int) (wth (Array.push h12 (Obj.cells #[(Value.int .u8 (IntKind.wrap .u8 (iShr .i64 g1_n (8 : Int)))), (Value.int .u8 (IntKind.wrap .u8 g1_n))] T_uint8)) fun h13 =>
              ∃ s14 : ByteArray, bytesAt h13 (some (Addr.mk (Array.size h12) 0 none)) 2 s14 ∧
              wth (Array.push h13 (Obj.cells #[(Value.string s8), (Value.string s14)] T_string)) fun h15 =>
              S_key_joined ⟨(some (Addr.mk (Array.size h13) 0 none)), 2, 2⟩ h15 fun (vs16 : List Value) (h17 : Hp) =>
              ∃ s18 : ByteArray, vs16 = [(Value.string s18)] ∧
              Q [(Value.string s18), (Value.int .i64 (0 : Int))] h17)))) → J10 [(Value.bool b11)] h12) →
    (if (decide (g1_n < (0 : Int))) = true then (J10 [(Value.bool true)] h7) else
      (J10 [(Value.bool (decide (g1_n > (65535 : Int))))] h7))))
def A_key_Entry : Ann := (.mk none ⟨[], []⟩ .nil (.mk none ⟨[], []⟩ .nil (.mk none ⟨[], []⟩ (.mk none ⟨[], []⟩ (.mk none ⟨[], []⟩ .nil (.mk none ⟨[], []⟩ .nil (.mk none ⟨[], []⟩ (.mk (some ⟨[1, 6], [(17, (.c .bool))]⟩) ⟨[], []⟩ .nil .nil) .nil))) .nil) .nil)))
theorem E_key_Entry (g0_v_0 : Int) (g0_v_1 : Int) (g0_v_2 : Nat) (g0_v_3 : ByteArray) (g1_n : Int) (h : Hp) (Q : List Value → Hp → Prop) : cw PP 34 (fun _ => []) (bodyOf Tryd.f22) A_key_Entry (finQ PP (Tryd.f22.results.toList) Q) (argFr [(Value.agg #[(Value.int .i64 g0_v_0), (Value.int .i64 g0_v_1), (Value.float .f64 g0_v_2), (Value.string g0_v_3)]), (Value.int .i64 g1_n)]) h = F_key_Entry g0_v_0 g0_v_1 g0_v_2 g0_v_3 g1_n h Q := by kernel_rfl
theorem O_key_Entry (g0_v_0 : Int) (g0_v_1 : Int) (g0_v_2 : Nat) (g0_v_3 : ByteArray) (g1_n : Int) {h : Hp} {Q : List Value → Hp → Prop} (H : F_key_Entry g0_v_0 g0_v_1 g0_v_2 g0_v_3 g1_n h Q) : S_key_Entry g0_v_0 g0_v_1 g0_v_2 g0_v_3 g1_n h Q :=
  fn_of_cw (hs := (fun _ => [])) (ann := A_key_Entry) (args := [(Value.agg #[(Value.int .i64 g0_v_0), (Value.int .i64 g0_v_1), (Value.float .f64 g0_v_2), (Value.string g0_v_3)]), (Value.int .i64 g1_n)]) mixedPP Tryd.func22 (c := bodyOf Tryd.f22) (by kernel_rfl) (by kernel_rfl) (by kernel_rfl) (Eq.mpr (E_key_Entry g0_v_0 g0_v_1 g0_v_2 g0_v_3 g1_n h Q) H)
def F_leaf_Leaves_at (g0_x : Option Addr) (g1_k : ByteArray) (h : Hp) (Q : List Value → Hp → Prop) : Prop :=
nilW g0_x fun a1 => ∃ l2 : Sl, rd h (Addr.add a1 1) = some (Value.slice l2.a l2.n l2.c) ∧
∀ J3 : List Value → Hp → Prop, (∀ n4 : Int, ∀ h5 : Hp, (Q [(Value.int .i64 n4)] h5) → J3 [(Value.int .i64 n4)] h5) →
∀ X6 : List Value → Hp → Prop, (∀ n7 : Int, ∀ n8 : Int, ∀ h9 : Hp, ((if (decide (n8 < (l2.n : Int))) = true then
      (nilW l2.a fun a10 => ixOk n8 l2.n (∃ p11 : Option Addr, rd h9 (Addr.add a10 (Int.toNat n8 * 1)) = some (Value.pointer p11) ∧
          ∀ J12 : List Value → Hp → Prop, (∀ b13 : Bool, ∀ h14 : Hp, ((if b13 = true then
                (J3 [(Value.int .i64 n7)] h14) else
                (X6 [(Value.int .i64 n8), (Value.int .i64 (IntKind.wrap .i64 (n8 + (1 : Int))))] h14))) → J12 [(Value.bool b13)] h14) →
          (if (decide (n8 > (0 : Int))) = true then (nilW p11 fun a15 => ∃ s16 : ByteArray, rd h9 (Addr.add a15 1) = some (Value.string s16) ∧
              J12 [(Value.bool (!(Op.bytesLess (ByteArray.toList s16) (ByteArray.toList g1_k) || (ByteArray.toList s16) == (ByteArray.toList g1_k))))] h9) else
            (J12 [(Value.bool false)] h9)))) else
      (J3 [(Value.int .i64 n7)] h9))) → X6 [(Value.int .i64 n7), (Value.int .i64 n8)] h9) →
X6 [(Value.int .i64 (0 : Int)), (Value.int .i64 (0 : Int))] h
def A_leaf_Leaves_at : Ann := (.mk none ⟨[], []⟩ .nil (.mk none ⟨[], []⟩ (.mk none ⟨[], []⟩ .nil (.mk none ⟨[], []⟩ .nil (.mk none ⟨[], []⟩ (.mk none ⟨[], []⟩ .nil (.mk (some ⟨[], [(5, (.c (.int .i64)))]⟩) ⟨[], []⟩ (.mk none ⟨[1, 11, 12], [(5, (.c (.int .i64))), (13, (.c (.int .i64)))]⟩ (.mk none ⟨[], []⟩ .nil (.mk none ⟨[], []⟩ .nil (.mk none ⟨[], []⟩ (.mk none ⟨[], []⟩ (.mk none ⟨[], []⟩ .nil (.mk none ⟨[], []⟩ (.mk none ⟨[], []⟩ (.mk (some ⟨[1, 5, 6, 11, 12, 13], [(27, (.c .bool))]⟩) ⟨[], []⟩ .nil .nil) .nil) .nil)) .nil) .nil))) .nil) .nil)) .nil))) .nil))
theorem E_leaf_Leaves_at (g0_x : Option Addr) (g1_k : ByteArray) (h : Hp) (Q : List Value → Hp → Prop) : cw PP 31 (fun _ => []) (bodyOf Tryd.f36) A_leaf_Leaves_at (finQ PP (Tryd.f36.results.toList) Q) (argFr [(Value.pointer g0_x), (Value.string g1_k)]) h = F_leaf_Leaves_at g0_x g1_k h Q := by kernel_rfl
theorem O_leaf_Leaves_at (g0_x : Option Addr) (g1_k : ByteArray) {h : Hp} {Q : List Value → Hp → Prop} (H : F_leaf_Leaves_at g0_x g1_k h Q) : S_leaf_Leaves_at g0_x g1_k h Q :=
  fn_of_cw (hs := (fun _ => [])) (ann := A_leaf_Leaves_at) (args := [(Value.pointer g0_x), (Value.string g1_k)]) mixedPP Tryd.func36 (c := bodyOf Tryd.f36) (by kernel_rfl) (by kernel_rfl) (by kernel_rfl) (Eq.mpr (E_leaf_Leaves_at g0_x g1_k h Q) H)
def F_cmp_isNaN_string (g0_x : ByteArray) (h : Hp) (Q : List Value → Hp → Prop) : Prop :=
Q [(Value.bool (!((ByteArray.toList g0_x) == (ByteArray.toList g0_x))))] h
def A_cmp_isNaN_string : Ann := .nil
theorem E_cmp_isNaN_string (g0_x : ByteArray) (h : Hp) (Q : List Value → Hp → Prop) : cw PP 6 (fun _ => []) (bodyOf Tryd.f73) A_cmp_isNaN_string (finQ PP (Tryd.f73.results.toList) Q) (argFr [(Value.string g0_x)]) h = F_cmp_isNaN_string g0_x h Q := by kernel_rfl
theorem O_cmp_isNaN_string (g0_x : ByteArray) {h : Hp} {Q : List Value → Hp → Prop} (H : F_cmp_isNaN_string g0_x h Q) : S_cmp_isNaN_string g0_x h Q :=
  fn_of_cw (hs := (fun _ => [])) (ann := A_cmp_isNaN_string) (args := [(Value.string g0_x)]) mixedPP Tryd.func73 (c := bodyOf Tryd.f73) (by kernel_rfl) (by kernel_rfl) (by kernel_rfl) (Eq.mpr (E_cmp_isNaN_string g0_x h Q) H)
def F_cmp_Less_string (g0_x : ByteArray) (g1_y : ByteArray) (h : Hp) (Q : List Value → Hp → Prop) : Prop :=
S_cmp_isNaN_string g0_x h fun (vs1 : List Value) (h2 : Hp) =>
∃ b3 : Bool, vs1 = [(Value.bool b3)] ∧
(if b3 = true then (S_cmp_isNaN_string g1_y h2 fun (vs4 : List Value) (h5 : Hp) =>
    ∃ b6 : Bool, vs4 = [(Value.bool b6)] ∧
    (if (!b6) = true then (Q [(Value.bool true)] h5) else
      (Q [(Value.bool (Op.bytesLess (ByteArray.toList g0_x) (ByteArray.toList g1_y)))] h5))) else
  (Q [(Value.bool (Op.bytesLess (ByteArray.toList g0_x) (ByteArray.toList g1_y)))] h2))
def A_cmp_Less_string : Ann := .nil
theorem E_cmp_Less_string (g0_x : ByteArray) (g1_y : ByteArray) (h : Hp) (Q : List Value → Hp → Prop) : cw PP 17 (fun _ => []) (bodyOf Tryd.f53) A_cmp_Less_string (finQ PP (Tryd.f53.results.toList) Q) (argFr [(Value.string g0_x), (Value.string g1_y)]) h = F_cmp_Less_string g0_x g1_y h Q := by kernel_rfl
theorem O_cmp_Less_string (g0_x : ByteArray) (g1_y : ByteArray) {h : Hp} {Q : List Value → Hp → Prop} (H : F_cmp_Less_string g0_x g1_y h Q) : S_cmp_Less_string g0_x g1_y h Q :=
  fn_of_cw (hs := (fun _ => [])) (ann := A_cmp_Less_string) (args := [(Value.string g0_x), (Value.string g1_y)]) mixedPP Tryd.func53 (c := bodyOf Tryd.f53) (by kernel_rfl) (by kernel_rfl) (by kernel_rfl) (Eq.mpr (E_cmp_Less_string g0_x g1_y h Q) H)
def F_slices_isNaN_string (g0_x : ByteArray) (h : Hp) (Q : List Value → Hp → Prop) : Prop :=
Q [(Value.bool (!((ByteArray.toList g0_x) == (ByteArray.toList g0_x))))] h
def A_slices_isNaN_string : Ann := .nil
theorem E_slices_isNaN_string (g0_x : ByteArray) (h : Hp) (Q : List Value → Hp → Prop) : cw PP 6 (fun _ => []) (bodyOf Tryd.f54) A_slices_isNaN_string (finQ PP (Tryd.f54.results.toList) Q) (argFr [(Value.string g0_x)]) h = F_slices_isNaN_string g0_x h Q := by kernel_rfl
theorem O_slices_isNaN_string (g0_x : ByteArray) {h : Hp} {Q : List Value → Hp → Prop} (H : F_slices_isNaN_string g0_x h Q) : S_slices_isNaN_string g0_x h Q :=
  fn_of_cw (hs := (fun _ => [])) (ann := A_slices_isNaN_string) (args := [(Value.string g0_x)]) mixedPP Tryd.func54 (c := bodyOf Tryd.f54) (by kernel_rfl) (by kernel_rfl) (by kernel_rfl) (Eq.mpr (E_slices_isNaN_string g0_x h Q) H)
def F_slices_BinarySearch_sstring_string (g0_x : Sl) (g1_target : ByteArray) (h : Hp) (Q : List Value → Hp → Prop) : Prop :=
∀ X1 : List Value → Hp → Prop, (∀ n2 : Int, ∀ n3 : Int, ∀ h4 : Hp, ((if (decide (n2 < n3)) = true then
      (shOk (1 : Int) (nilW g0_x.a fun a5 => ixOk (IntKind.wrap .i64 (iShr .u64 (IntKind.wrap .u64 (IntKind.wrap .i64 (n2 + n3))) (1 : Int))) g0_x.n (∃ s6 : ByteArray, rd h4 (Addr.add a5 (Int.toNat (IntKind.wrap .i64 (iShr .u64 (IntKind.wrap .u64 (IntKind.wrap .i64 (n2 + n3))) (1 : Int))) * 1)) = some (Value.string s6) ∧
            S_cmp_Less_string s6 g1_target h4 fun (vs7 : List Value) (h8 : Hp) =>
            ∃ b9 : Bool, vs7 = [(Value.bool b9)] ∧
            (if b9 = true then
              (X1 [(Value.int .i64 (IntKind.wrap .i64 ((IntKind.wrap .i64 (iShr .u64 (IntKind.wrap .u64 (IntKind.wrap .i64 (n2 + n3))) (1 : Int))) + (1 : Int)))), (Value.int .i64 n3)] h8) else
              (X1 [(Value.int .i64 n2), (Value.int .i64 (IntKind.wrap .i64 (iShr .u64 (IntKind.wrap .u64 (IntKind.wrap .i64 (n2 + n3))) (1 : Int))))] h8))))) else
      ((if (decide (n2 < (g0_x.n : Int))) = true then (nilW g0_x.a fun a10 => ixOk n2 g0_x.n (∃ s11 : ByteArray, rd h4 (Addr.add a10 (Int.toNat n2 * 1)) = some (Value.string s11) ∧
              (if ((ByteArray.toList s11) == (ByteArray.toList g1_target)) = true then (Q [(Value.int .i64 n2), (Value.bool true)] h4) else
                (nilW g0_x.a fun a12 => ixOk n2 g0_x.n (∃ s13 : ByteArray, rd h4 (Addr.add a12 (Int.toNat n2 * 1)) = some (Value.string s13) ∧
                    S_slices_isNaN_string s13 h4 fun (vs14 : List Value) (h15 : Hp) =>
                    ∃ b16 : Bool, vs14 = [(Value.bool b16)] ∧
                    (if b16 = true then (S_slices_isNaN_string g1_target h15 fun (vs17 : List Value) (h18 : Hp) =>
                        ∃ b19 : Bool, vs17 = [(Value.bool b19)] ∧
                        Q [(Value.int .i64 n2), (Value.bool b19)] h18) else
                      (Q [(Value.int .i64 n2), (Value.bool false)] h15))))))) else
          (Q [(Value.int .i64 n2), (Value.bool false)] h4))))) → X1 [(Value.int .i64 n2), (Value.int .i64 n3)] h4) →
X1 [(Value.int .i64 (0 : Int)), (Value.int .i64 (g0_x.n : Int))] h
def A_slices_BinarySearch_sstring_string : Ann := (.mk none ⟨[], []⟩ .nil (.mk none ⟨[], []⟩ .nil (.mk none ⟨[], []⟩ .nil (.mk none ⟨[], []⟩ (.mk none ⟨[], []⟩ (.mk none ⟨[0, 1, 6], [(7, (.c (.int .i64))), (8, (.c (.int .i64)))]⟩ .nil .nil) .nil) .nil))))
theorem E_slices_BinarySearch_sstring_string (g0_x : Sl) (g1_target : ByteArray) (h : Hp) (Q : List Value → Hp → Prop) : cw PP 54 (fun _ => []) (bodyOf Tryd.f37) A_slices_BinarySearch_sstring_string (finQ PP (Tryd.f37.results.toList) Q) (argFr [(Value.slice g0_x.a g0_x.n g0_x.c), (Value.string g1_target)]) h = F_slices_BinarySearch_sstring_string g0_x g1_target h Q := by kernel_rfl
theorem O_slices_BinarySearch_sstring_string (g0_x : Sl) (g1_target : ByteArray) {h : Hp} {Q : List Value → Hp → Prop} (H : F_slices_BinarySearch_sstring_string g0_x g1_target h Q) : S_slices_BinarySearch_sstring_string g0_x g1_target h Q :=
  fn_of_cw (hs := (fun _ => [])) (ann := A_slices_BinarySearch_sstring_string) (args := [(Value.slice g0_x.a g0_x.n g0_x.c), (Value.string g1_target)]) mixedPP Tryd.func37 (c := bodyOf Tryd.f37) (by kernel_rfl) (by kernel_rfl) (by kernel_rfl) (Eq.mpr (E_slices_BinarySearch_sstring_string g0_x g1_target h Q) H)
def F_slices_Insert_sstring_string (g0_s : Sl) (g1_i : Int) (g2_v : Sl) (h : Hp) (Q : List Value → Hp → Prop) : Prop :=
(0 ≤ g1_i ∧ g1_i ≤ (g0_s.n : Nat)) ∧ (if ((g2_v.n : Int) == (0 : Int)) = true then
  (Q [(Value.slice g0_s.a g0_s.n g0_s.c)] h) else
  ((if (g1_i == (g0_s.n : Int)) = true then
      (∃ cs3 : List Value, cellsAt h g2_v.a (g2_v.n * 1) cs3 ∧ appS PP T_string 16 1 h ⟨g0_s.a, g0_s.n, g0_s.c⟩ g2_v.n cs3 fun (l1 : Sl) (h2 : Hp) =>
        Q [(Value.slice l1.a l1.n l1.c)] h2) else
      ((if (decide ((IntKind.wrap .i64 ((g0_s.n : Int) + (g2_v.n : Int))) > ((g0_s.c : Nat) : Int))) = true then
          ((0 ≤ g1_i ∧ g1_i ≤ (g0_s.c : Nat)) ∧ (0 ≤ (IntKind.wrap .i64 ((IntKind.wrap .i64 ((g0_s.n : Int) + (g2_v.n : Int))) - g1_i)) ∧ (IntKind.wrap .i64 ((IntKind.wrap .i64 ((g0_s.n : Int) + (g2_v.n : Int))) - g1_i)) < 2 ^ 63 ∧ (IntKind.wrap .i64 ((IntKind.wrap .i64 ((g0_s.n : Int) + (g2_v.n : Int))) - g1_i)) * (16 : Nat) ≤ 2 ^ 47) ∧ appS PP T_string 16 1 h ⟨(slAd g0_s.a 0 g0_s.c 1), ((Int.toNat g1_i) - 0), (g0_s.c - 0)⟩ (Int.toNat (IntKind.wrap .i64 ((IntKind.wrap .i64 ((g0_s.n : Int) + (g2_v.n : Int))) - g1_i))) (Array.toList (Builtin.zeroCells (zc PP T_string) (Int.toNat (IntKind.wrap .i64 ((IntKind.wrap .i64 ((g0_s.n : Int) + (g2_v.n : Int))) - g1_i))))) fun (l4 : Sl) (h5 : Hp) =>
            (0 ≤ g1_i ∧ g1_i ≤ (l4.n : Nat)) ∧ ∃ cs6 : List Value, cellsAt h5 g2_v.a ((Nat.min g2_v.n (l4.n - (Int.toNat g1_i))) * 1) cs6 ∧ cpOk h5 (slAd l4.a (Int.toNat g1_i) l4.c 1) ((Nat.min g2_v.n (l4.n - (Int.toNat g1_i))) * 1) cs6 ∧ wth (cpHp h5 (slAd l4.a (Int.toNat g1_i) l4.c 1) cs6) fun h7 =>
            (0 ≤ (IntKind.wrap .i64 (g1_i + (g2_v.n : Int))) ∧ (IntKind.wrap .i64 (g1_i + (g2_v.n : Int))) ≤ (l4.n : Nat)) ∧ (0 ≤ g1_i ∧ g1_i ≤ (g0_s.n : Nat)) ∧ ∃ cs8 : List Value, cellsAt h7 (slAd g0_s.a (Int.toNat g1_i) g0_s.c 1) ((Nat.min (g0_s.n - (Int.toNat g1_i)) (l4.n - (Int.toNat (IntKind.wrap .i64 (g1_i + (g2_v.n : Int)))))) * 1) cs8 ∧ cpOk h7 (slAd l4.a (Int.toNat (IntKind.wrap .i64 (g1_i + (g2_v.n : Int)))) l4.c 1) ((Nat.min (g0_s.n - (Int.toNat g1_i)) (l4.n - (Int.toNat (IntKind.wrap .i64 (g1_i + (g2_v.n : Int)))))) * 1) cs8 ∧ wth (cpHp h7 (slAd l4.a (Int.toNat (IntKind.wrap .i64 (g1_i + (g2_v.n : Int)))) l4.c 1) cs8) fun h9 =>
            Q [(Value.slice l4.a l4.n l4.c)] h9) else
          ((0 ≤ (IntKind.wrap .i64 ((g0_s.n : Int) + (g2_v.n : Int))) ∧ (IntKind.wrap .i64 ((g0_s.n : Int) + (g2_v.n : Int))) ≤ (g0_s.c : Nat)) ∧ (0 ≤ (IntKind.wrap .i64 (g1_i + (g2_v.n : Int))) ∧ (IntKind.wrap .i64 (g1_i + (g2_v.n : Int))) ≤ (((Int.toNat (IntKind.wrap .i64 ((g0_s.n : Int) + (g2_v.n : Int)))) - 0) : Nat)) ∧ S_slices_overlaps_string ⟨g2_v.a, g2_v.n, g2_v.c⟩ ⟨(slAd (slAd g0_s.a 0 g0_s.c 1) (Int.toNat (IntKind.wrap .i64 (g1_i + (g2_v.n : Int)))) (g0_s.c - 0) 1), (((Int.toNat (IntKind.wrap .i64 ((g0_s.n : Int) + (g2_v.n : Int)))) - 0) - (Int.toNat (IntKind.wrap .i64 (g1_i + (g2_v.n : Int))))), ((g0_s.c - 0) - (Int.toNat (IntKind.wrap .i64 (g1_i + (g2_v.n : Int)))))⟩ h fun (vs10 : List Value) (h11 : Hp) =>
            ∃ b12 : Bool, vs10 = [(Value.bool b12)] ∧
            (if (!b12) = true then
              ((0 ≤ (IntKind.wrap .i64 (g1_i + (g2_v.n : Int))) ∧ (IntKind.wrap .i64 (g1_i + (g2_v.n : Int))) ≤ (((Int.toNat (IntKind.wrap .i64 ((g0_s.n : Int) + (g2_v.n : Int)))) - 0) : Nat)) ∧ (0 ≤ g1_i ∧ g1_i ≤ (((Int.toNat (IntKind.wrap .i64 ((g0_s.n : Int) + (g2_v.n : Int)))) - 0) : Nat)) ∧ ∃ cs13 : List Value, cellsAt h11 (slAd (slAd g0_s.a 0 g0_s.c 1) (Int.toNat g1_i) (g0_s.c - 0) 1) ((Nat.min (((Int.toNat (IntKind.wrap .i64 ((g0_s.n : Int) + (g2_v.n : Int)))) - 0) - (Int.toNat g1_i)) (((Int.toNat (IntKind.wrap .i64 ((g0_s.n : Int) + (g2_v.n : Int)))) - 0) - (Int.toNat (IntKind.wrap .i64 (g1_i + (g2_v.n : Int)))))) * 1) cs13 ∧ cpOk h11 (slAd (slAd g0_s.a 0 g0_s.c 1) (Int.toNat (IntKind.wrap .i64 (g1_i + (g2_v.n : Int)))) (g0_s.c - 0) 1) ((Nat.min (((Int.toNat (IntKind.wrap .i64 ((g0_s.n : Int) + (g2_v.n : Int)))) - 0) - (Int.toNat g1_i)) (((Int.toNat (IntKind.wrap .i64 ((g0_s.n : Int) + (g2_v.n : Int)))) - 0) - (Int.toNat (IntKind.wrap .i64 (g1_i + (g2_v.n : Int)))))) * 1) cs13 ∧ wth (cpHp h11 (slAd (slAd g0_s.a 0 g0_s.c 1) (Int.toNat (IntKind.wrap .i64 (g1_i + (g2_v.n : Int)))) (g0_s.c - 0) 1) cs13) fun h14 =>
                (0 ≤ g1_i ∧ g1_i ≤ (((Int.toNat (IntKind.wrap .i64 ((g0_s.n : Int) + (g2_v.n : Int)))) - 0) : Nat)) ∧ ∃ cs15 : List Value, cellsAt h14 g2_v.a ((Nat.min g2_v.n (((Int.toNat (IntKind.wrap .i64 ((g0_s.n : Int) + (g2_v.n : Int)))) - 0) - (Int.toNat g1_i))) * 1) cs15 ∧ cpOk h14 (slAd (slAd g0_s.a 0 g0_s.c 1) (Int.toNat g1_i) (g0_s.c - 0) 1) ((Nat.min g2_v.n (((Int.toNat (IntKind.wrap .i64 ((g0_s.n : Int) + (g2_v.n : Int)))) - 0) - (Int.toNat g1_i))) * 1) cs15 ∧ wth (cpHp h14 (slAd (slAd g0_s.a 0 g0_s.c 1) (Int.toNat g1_i) (g0_s.c - 0) 1) cs15) fun h16 =>
                Q [(Value.slice (slAd g0_s.a 0 g0_s.c 1) ((Int.toNat (IntKind.wrap .i64 ((g0_s.n : Int) + (g2_v.n : Int)))) - 0) (g0_s.c - 0))] h16) else
              ((0 ≤ (g0_s.n : Int) ∧ (g0_s.n : Int) ≤ (((Int.toNat (IntKind.wrap .i64 ((g0_s.n : Int) + (g2_v.n : Int)))) - 0) : Nat)) ∧ ∃ cs17 : List Value, cellsAt h11 g2_v.a ((Nat.min g2_v.n (((Int.toNat (IntKind.wrap .i64 ((g0_s.n : Int) + (g2_v.n : Int)))) - 0) - (Int.toNat (g0_s.n : Int)))) * 1) cs17 ∧ cpOk h11 (slAd (slAd g0_s.a 0 g0_s.c 1) (Int.toNat (g0_s.n : Int)) (g0_s.c - 0) 1) ((Nat.min g2_v.n (((Int.toNat (IntKind.wrap .i64 ((g0_s.n : Int) + (g2_v.n : Int)))) - 0) - (Int.toNat (g0_s.n : Int)))) * 1) cs17 ∧ wth (cpHp h11 (slAd (slAd g0_s.a 0 g0_s.c 1) (Int.toNat (g0_s.n : Int)) (g0_s.c - 0) 1) cs17) fun h18 =>
                (0 ≤ g1_i ∧ g1_i ≤ (((Int.toNat (IntKind.wrap .i64 ((g0_s.n : Int) + (g2_v.n : Int)))) - 0) : Nat)) ∧ S_slices_rotateRight_string ⟨(slAd (slAd g0_s.a 0 g0_s.c 1) (Int.toNat g1_i) (g0_s.c - 0) 1), (((Int.toNat (IntKind.wrap .i64 ((g0_s.n : Int) + (g2_v.n : Int)))) - 0) - (Int.toNat g1_i)), ((g0_s.c - 0) - (Int.toNat g1_i))⟩ (g2_v.n : Int) h18 fun (vs19 : List Value) (h20 : Hp) =>
                vs19 = [] ∧
                Q [(Value.slice (slAd g0_s.a 0 g0_s.c 1) ((Int.toNat (IntKind.wrap .i64 ((g0_s.n : Int) + (g2_v.n : Int)))) - 0) (g0_s.c - 0))] h20))))))))
def A_slices_Insert_sstring_string : Ann := .nil
theorem E_slices_Insert_sstring_string (g0_s : Sl) (g1_i : Int) (g2_v : Sl) (h : Hp) (Q : List Value → Hp → Prop) : cw PP 95 (fun _ => []) (bodyOf Tryd.f40) A_slices_Insert_sstring_string (finQ PP (Tryd.f40.results.toList) Q) (argFr [(Value.slice g0_s.a g0_s.n g0_s.c), (Value.int .i64 g1_i), (Value.slice g2_v.a g2_v.n g2_v.c)]) h = F_slices_Insert_sstring_string g0_s g1_i g2_v h Q := by kernel_rfl
theorem O_slices_Insert_sstring_string (g0_s : Sl) (g1_i : Int) (g2_v : Sl) {h : Hp} {Q : List Value → Hp → Prop} (H : F_slices_Insert_sstring_string g0_s g1_i g2_v h Q) : S_slices_Insert_sstring_string g0_s g1_i g2_v h Q :=
  fn_of_cw (hs := (fun _ => [])) (ann := A_slices_Insert_sstring_string) (args := [(Value.slice g0_s.a g0_s.n g0_s.c), (Value.int .i64 g1_i), (Value.slice g2_v.a g2_v.n g2_v.c)]) mixedPP Tryd.func40 (c := bodyOf Tryd.f40) (by kernel_rfl) (by kernel_rfl) (by kernel_rfl) (Eq.mpr (E_slices_Insert_sstring_string g0_s g1_i g2_v h Q) H)
def F_slices_Clone_sstring_string (g0_s : Sl) (h : Hp) (Q : List Value → Hp → Prop) : Prop :=
(if (Option.isNone g0_s.a) = true then
  (Q [(Value.slice none 0 0)] h) else
  (wth (Array.push h (Obj.cells #[] T_string)) fun h1 =>
    ∃ cs4 : List Value, cellsAt h1 g0_s.a (g0_s.n * 1) cs4 ∧ appS PP T_string 16 1 h1 ⟨(some (Addr.mk (Array.size h) 0 none)), 0, 0⟩ g0_s.n cs4 fun (l2 : Sl) (h3 : Hp) =>
    Q [(Value.slice l2.a l2.n l2.c)] h3))
def A_slices_Clone_sstring_string : Ann := .nil
theorem E_slices_Clone_sstring_string (g0_s : Sl) (h : Hp) (Q : List Value → Hp → Prop) : cw PP 8 (fun _ => []) (bodyOf Tryd.f41) A_slices_Clone_sstring_string (finQ PP (Tryd.f41.results.toList) Q) (argFr [(Value.slice g0_s.a g0_s.n g0_s.c)]) h = F_slices_Clone_sstring_string g0_s h Q := by kernel_rfl
theorem O_slices_Clone_sstring_string (g0_s : Sl) {h : Hp} {Q : List Value → Hp → Prop} (H : F_slices_Clone_sstring_string g0_s h Q) : S_slices_Clone_sstring_string g0_s h Q :=
  fn_of_cw (hs := (fun _ => [])) (ann := A_slices_Clone_sstring_string) (args := [(Value.slice g0_s.a g0_s.n g0_s.c)]) mixedPP Tryd.func41 (c := bodyOf Tryd.f41) (by kernel_rfl) (by kernel_rfl) (by kernel_rfl) (Eq.mpr (E_slices_Clone_sstring_string g0_s h Q) H)
def F_slices_Insert_spleaf_one_pleaf_one (g0_s : Sl) (g1_i : Int) (g2_v : Sl) (h : Hp) (Q : List Value → Hp → Prop) : Prop :=
(0 ≤ g1_i ∧ g1_i ≤ (g0_s.n : Nat)) ∧ (if ((g2_v.n : Int) == (0 : Int)) = true then
  (Q [(Value.slice g0_s.a g0_s.n g0_s.c)] h) else
  ((if (g1_i == (g0_s.n : Int)) = true then
      (∃ cs3 : List Value, cellsAt h g2_v.a (g2_v.n * 1) cs3 ∧ appS PP T_pleaf_one 8 1 h ⟨g0_s.a, g0_s.n, g0_s.c⟩ g2_v.n cs3 fun (l1 : Sl) (h2 : Hp) =>
        Q [(Value.slice l1.a l1.n l1.c)] h2) else
      ((if (decide ((IntKind.wrap .i64 ((g0_s.n : Int) + (g2_v.n : Int))) > ((g0_s.c : Nat) : Int))) = true then
          ((0 ≤ g1_i ∧ g1_i ≤ (g0_s.c : Nat)) ∧ (0 ≤ (IntKind.wrap .i64 ((IntKind.wrap .i64 ((g0_s.n : Int) + (g2_v.n : Int))) - g1_i)) ∧ (IntKind.wrap .i64 ((IntKind.wrap .i64 ((g0_s.n : Int) + (g2_v.n : Int))) - g1_i)) < 2 ^ 63 ∧ (IntKind.wrap .i64 ((IntKind.wrap .i64 ((g0_s.n : Int) + (g2_v.n : Int))) - g1_i)) * (8 : Nat) ≤ 2 ^ 47) ∧ appS PP T_pleaf_one 8 1 h ⟨(slAd g0_s.a 0 g0_s.c 1), ((Int.toNat g1_i) - 0), (g0_s.c - 0)⟩ (Int.toNat (IntKind.wrap .i64 ((IntKind.wrap .i64 ((g0_s.n : Int) + (g2_v.n : Int))) - g1_i))) (Array.toList (Builtin.zeroCells (zc PP T_pleaf_one) (Int.toNat (IntKind.wrap .i64 ((IntKind.wrap .i64 ((g0_s.n : Int) + (g2_v.n : Int))) - g1_i))))) fun (l4 : Sl) (h5 : Hp) =>
            (0 ≤ g1_i ∧ g1_i ≤ (l4.n : Nat)) ∧ ∃ cs6 : List Value, cellsAt h5 g2_v.a ((Nat.min g2_v.n (l4.n - (Int.toNat g1_i))) * 1) cs6 ∧ cpOk h5 (slAd l4.a (Int.toNat g1_i) l4.c 1) ((Nat.min g2_v.n (l4.n - (Int.toNat g1_i))) * 1) cs6 ∧ wth (cpHp h5 (slAd l4.a (Int.toNat g1_i) l4.c 1) cs6) fun h7 =>
            (0 ≤ (IntKind.wrap .i64 (g1_i + (g2_v.n : Int))) ∧ (IntKind.wrap .i64 (g1_i + (g2_v.n : Int))) ≤ (l4.n : Nat)) ∧ (0 ≤ g1_i ∧ g1_i ≤ (g0_s.n : Nat)) ∧ ∃ cs8 : List Value, cellsAt h7 (slAd g0_s.a (Int.toNat g1_i) g0_s.c 1) ((Nat.min (g0_s.n - (Int.toNat g1_i)) (l4.n - (Int.toNat (IntKind.wrap .i64 (g1_i + (g2_v.n : Int)))))) * 1) cs8 ∧ cpOk h7 (slAd l4.a (Int.toNat (IntKind.wrap .i64 (g1_i + (g2_v.n : Int)))) l4.c 1) ((Nat.min (g0_s.n - (Int.toNat g1_i)) (l4.n - (Int.toNat (IntKind.wrap .i64 (g1_i + (g2_v.n : Int)))))) * 1) cs8 ∧ wth (cpHp h7 (slAd l4.a (Int.toNat (IntKind.wrap .i64 (g1_i + (g2_v.n : Int)))) l4.c 1) cs8) fun h9 =>
            Q [(Value.slice l4.a l4.n l4.c)] h9) else
          ((0 ≤ (IntKind.wrap .i64 ((g0_s.n : Int) + (g2_v.n : Int))) ∧ (IntKind.wrap .i64 ((g0_s.n : Int) + (g2_v.n : Int))) ≤ (g0_s.c : Nat)) ∧ (0 ≤ (IntKind.wrap .i64 (g1_i + (g2_v.n : Int))) ∧ (IntKind.wrap .i64 (g1_i + (g2_v.n : Int))) ≤ (((Int.toNat (IntKind.wrap .i64 ((g0_s.n : Int) + (g2_v.n : Int)))) - 0) : Nat)) ∧ S_slices_overlaps_pleaf_one ⟨g2_v.a, g2_v.n, g2_v.c⟩ ⟨(slAd (slAd g0_s.a 0 g0_s.c 1) (Int.toNat (IntKind.wrap .i64 (g1_i + (g2_v.n : Int)))) (g0_s.c - 0) 1), (((Int.toNat (IntKind.wrap .i64 ((g0_s.n : Int) + (g2_v.n : Int)))) - 0) - (Int.toNat (IntKind.wrap .i64 (g1_i + (g2_v.n : Int))))), ((g0_s.c - 0) - (Int.toNat (IntKind.wrap .i64 (g1_i + (g2_v.n : Int)))))⟩ h fun (vs10 : List Value) (h11 : Hp) =>
            ∃ b12 : Bool, vs10 = [(Value.bool b12)] ∧
            (if (!b12) = true then
              ((0 ≤ (IntKind.wrap .i64 (g1_i + (g2_v.n : Int))) ∧ (IntKind.wrap .i64 (g1_i + (g2_v.n : Int))) ≤ (((Int.toNat (IntKind.wrap .i64 ((g0_s.n : Int) + (g2_v.n : Int)))) - 0) : Nat)) ∧ (0 ≤ g1_i ∧ g1_i ≤ (((Int.toNat (IntKind.wrap .i64 ((g0_s.n : Int) + (g2_v.n : Int)))) - 0) : Nat)) ∧ ∃ cs13 : List Value, cellsAt h11 (slAd (slAd g0_s.a 0 g0_s.c 1) (Int.toNat g1_i) (g0_s.c - 0) 1) ((Nat.min (((Int.toNat (IntKind.wrap .i64 ((g0_s.n : Int) + (g2_v.n : Int)))) - 0) - (Int.toNat g1_i)) (((Int.toNat (IntKind.wrap .i64 ((g0_s.n : Int) + (g2_v.n : Int)))) - 0) - (Int.toNat (IntKind.wrap .i64 (g1_i + (g2_v.n : Int)))))) * 1) cs13 ∧ cpOk h11 (slAd (slAd g0_s.a 0 g0_s.c 1) (Int.toNat (IntKind.wrap .i64 (g1_i + (g2_v.n : Int)))) (g0_s.c - 0) 1) ((Nat.min (((Int.toNat (IntKind.wrap .i64 ((g0_s.n : Int) + (g2_v.n : Int)))) - 0) - (Int.toNat g1_i)) (((Int.toNat (IntKind.wrap .i64 ((g0_s.n : Int) + (g2_v.n : Int)))) - 0) - (Int.toNat (IntKind.wrap .i64 (g1_i + (g2_v.n : Int)))))) * 1) cs13 ∧ wth (cpHp h11 (slAd (slAd g0_s.a 0 g0_s.c 1) (Int.toNat (IntKind.wrap .i64 (g1_i + (g2_v.n : Int)))) (g0_s.c - 0) 1) cs13) fun h14 =>
                (0 ≤ g1_i ∧ g1_i ≤ (((Int.toNat (IntKind.wrap .i64 ((g0_s.n : Int) + (g2_v.n : Int)))) - 0) : Nat)) ∧ ∃ cs15 : List Value, cellsAt h14 g2_v.a ((Nat.min g2_v.n (((Int.toNat (IntKind.wrap .i64 ((g0_s.n : Int) + (g2_v.n : Int)))) - 0) - (Int.toNat g1_i))) * 1) cs15 ∧ cpOk h14 (slAd (slAd g0_s.a 0 g0_s.c 1) (Int.toNat g1_i) (g0_s.c - 0) 1) ((Nat.min g2_v.n (((Int.toNat (IntKind.wrap .i64 ((g0_s.n : Int) + (g2_v.n : Int)))) - 0) - (Int.toNat g1_i))) * 1) cs15 ∧ wth (cpHp h14 (slAd (slAd g0_s.a 0 g0_s.c 1) (Int.toNat g1_i) (g0_s.c - 0) 1) cs15) fun h16 =>
                Q [(Value.slice (slAd g0_s.a 0 g0_s.c 1) ((Int.toNat (IntKind.wrap .i64 ((g0_s.n : Int) + (g2_v.n : Int)))) - 0) (g0_s.c - 0))] h16) else
              ((0 ≤ (g0_s.n : Int) ∧ (g0_s.n : Int) ≤ (((Int.toNat (IntKind.wrap .i64 ((g0_s.n : Int) + (g2_v.n : Int)))) - 0) : Nat)) ∧ ∃ cs17 : List Value, cellsAt h11 g2_v.a ((Nat.min g2_v.n (((Int.toNat (IntKind.wrap .i64 ((g0_s.n : Int) + (g2_v.n : Int)))) - 0) - (Int.toNat (g0_s.n : Int)))) * 1) cs17 ∧ cpOk h11 (slAd (slAd g0_s.a 0 g0_s.c 1) (Int.toNat (g0_s.n : Int)) (g0_s.c - 0) 1) ((Nat.min g2_v.n (((Int.toNat (IntKind.wrap .i64 ((g0_s.n : Int) + (g2_v.n : Int)))) - 0) - (Int.toNat (g0_s.n : Int)))) * 1) cs17 ∧ wth (cpHp h11 (slAd (slAd g0_s.a 0 g0_s.c 1) (Int.toNat (g0_s.n : Int)) (g0_s.c - 0) 1) cs17) fun h18 =>
                (0 ≤ g1_i ∧ g1_i ≤ (((Int.toNat (IntKind.wrap .i64 ((g0_s.n : Int) + (g2_v.n : Int)))) - 0) : Nat)) ∧ S_slices_rotateRight_pleaf_one ⟨(slAd (slAd g0_s.a 0 g0_s.c 1) (Int.toNat g1_i) (g0_s.c - 0) 1), (((Int.toNat (IntKind.wrap .i64 ((g0_s.n : Int) + (g2_v.n : Int)))) - 0) - (Int.toNat g1_i)), ((g0_s.c - 0) - (Int.toNat g1_i))⟩ (g2_v.n : Int) h18 fun (vs19 : List Value) (h20 : Hp) =>
                vs19 = [] ∧
                Q [(Value.slice (slAd g0_s.a 0 g0_s.c 1) ((Int.toNat (IntKind.wrap .i64 ((g0_s.n : Int) + (g2_v.n : Int)))) - 0) (g0_s.c - 0))] h20))))))))
def A_slices_Insert_spleaf_one_pleaf_one : Ann := .nil
theorem E_slices_Insert_spleaf_one_pleaf_one (g0_s : Sl) (g1_i : Int) (g2_v : Sl) (h : Hp) (Q : List Value → Hp → Prop) : cw PP 95 (fun _ => []) (bodyOf Tryd.f42) A_slices_Insert_spleaf_one_pleaf_one (finQ PP (Tryd.f42.results.toList) Q) (argFr [(Value.slice g0_s.a g0_s.n g0_s.c), (Value.int .i64 g1_i), (Value.slice g2_v.a g2_v.n g2_v.c)]) h = F_slices_Insert_spleaf_one_pleaf_one g0_s g1_i g2_v h Q := by kernel_rfl
theorem O_slices_Insert_spleaf_one_pleaf_one (g0_s : Sl) (g1_i : Int) (g2_v : Sl) {h : Hp} {Q : List Value → Hp → Prop} (H : F_slices_Insert_spleaf_one_pleaf_one g0_s g1_i g2_v h Q) : S_slices_Insert_spleaf_one_pleaf_one g0_s g1_i g2_v h Q :=
  fn_of_cw (hs := (fun _ => [])) (ann := A_slices_Insert_spleaf_one_pleaf_one) (args := [(Value.slice g0_s.a g0_s.n g0_s.c), (Value.int .i64 g1_i), (Value.slice g2_v.a g2_v.n g2_v.c)]) mixedPP Tryd.func42 (c := bodyOf Tryd.f42) (by kernel_rfl) (by kernel_rfl) (by kernel_rfl) (Eq.mpr (E_slices_Insert_spleaf_one_pleaf_one g0_s g1_i g2_v h Q) H)
def F_leaf_Leaves_Insert (g0_x : Option Addr) (g1_k : ByteArray) (h : Hp) (Q : List Value → Hp → Prop) : Prop :=
wth (Array.push h (Obj.cells #[(Value.int .i64 (0 : Int)), (Value.int .i64 (0 : Int))] T_leaf_Move)) fun h1 =>
(if (Option.isNone g0_x) = true then
  (stOk h1 (Addr.mk (Array.size h) 0 none) 2 ∧ wth (wrs h1 (Addr.mk (Array.size h) 0 none) 0 [(Value.int .i64 (0 : Int)), (Value.int .i64 (0 : Int))]) fun h2 =>
    ∃ n3 : Int, rd h2 (Addr.add (Addr.mk (Array.size h) 0 none) 0) = some (Value.int .i64 n3) ∧ ∃ n4 : Int, rd h2 (Addr.add (Addr.mk (Array.size h) 0 none) 1) = some (Value.int .i64 n4) ∧ Q [(Value.int .i64 (0 : Int)), (Value.agg #[(Value.int .i64 n3), (Value.int .i64 n4)]), (Value.int .i64 (1 : Int))] h2) else
  ((if (decide ((ByteArray.size g1_k : Int) > (1024 : Int))) = true then
      (stOk h1 (Addr.mk (Array.size h) 0 none) 2 ∧ wth (wrs h1 (Addr.mk (Array.size h) 0 none) 0 [(Value.int .i64 (0 : Int)), (Value.int .i64 (0 : Int))]) fun h5 =>
        ∃ n6 : Int, rd h5 (Addr.add (Addr.mk (Array.size h) 0 none) 0) = some (Value.int .i64 n6) ∧ ∃ n7 : Int, rd h5 (Addr.add (Addr.mk (Array.size h) 0 none) 1) = some (Value.int .i64 n7) ∧ Q [(Value.int .i64 (0 : Int)), (Value.agg #[(Value.int .i64 n6), (Value.int .i64 n7)]), (Value.int .i64 (2 : Int))] h5) else
      (S_leaf_Leaves_at g0_x g1_k h1 fun (vs8 : List Value) (h9 : Hp) =>
        ∃ n10 : Int, vs8 = [(Value.int .i64 n10)] ∧
        nilW g0_x fun a11 => ∃ l12 : Sl, rd h9 (Addr.add a11 1) = some (Value.slice l12.a l12.n l12.c) ∧
        nilW l12.a fun a13 => ixOk n10 l12.n (∃ p14 : Option Addr, rd h9 (Addr.add a13 (Int.toNat n10 * 1)) = some (Value.pointer p14) ∧
          nilW p14 fun a15 => ∃ l16 : Sl, rd h9 (Addr.add a15 2) = some (Value.slice l16.a l16.n l16.c) ∧
          S_slices_BinarySearch_sstring_string ⟨l16.a, l16.n, l16.c⟩ g1_k h9 fun (vs17 : List Value) (h18 : Hp) =>
          ∃ n19 : Int, ∃ b20 : Bool, vs17 = [(Value.int .i64 n19), (Value.bool b20)] ∧
          (if b20 = true then
            (stOk h18 (Addr.mk (Array.size h) 0 none) 2 ∧ wth (wrs h18 (Addr.mk (Array.size h) 0 none) 0 [(Value.int .i64 (0 : Int)), (Value.int .i64 (0 : Int))]) fun h21 =>
              ∃ n22 : Int, rd h21 (Addr.add (Addr.mk (Array.size h) 0 none) 0) = some (Value.int .i64 n22) ∧ ∃ n23 : Int, rd h21 (Addr.add (Addr.mk (Array.size h) 0 none) 1) = some (Value.int .i64 n23) ∧ Q [(Value.int .i64 (0 : Int)), (Value.agg #[(Value.int .i64 n22), (Value.int .i64 n23)]), (Value.int .i64 (62 : Int))] h21) else
            (nilW p14 fun a24 => ∃ l25 : Sl, rd h18 (Addr.add a24 2) = some (Value.slice l25.a l25.n l25.c) ∧
              wth (Array.push h18 (Obj.cells #[(Value.string g1_k)] T_string)) fun h26 =>
              S_slices_Insert_sstring_string ⟨l25.a, l25.n, l25.c⟩ n19 ⟨(some (Addr.mk (Array.size h18) 0 none)), 1, 1⟩ h26 fun (vs27 : List Value) (h28 : Hp) =>
              ∃ l29 : Sl, vs27 = [(Value.slice l29.a l29.n l29.c)] ∧
              nilW p14 fun a30 => stOk h28 (Addr.add a30 2) 1 ∧ wth (wrs h28 (Addr.add a30 2) 0 [(Value.slice l29.a l29.n l29.c)]) fun h31 =>
              nilW p14 fun a32 => ∃ l33 : Sl, rd h31 (Addr.add a32 2) = some (Value.slice l33.a l33.n l33.c) ∧
              nilW g0_x fun a34 => ∃ n35 : Int, rd h31 (Addr.add a34 0) = some (Value.int .i64 n35) ∧
              (if (decide ((l33.n : Int) ≤ n35)) = true then
                (nilW p14 fun a36 => ∃ n37 : Int, rd h31 (Addr.add a36 0) = some (Value.int .i64 n37) ∧
                  stOk h31 (Addr.mk (Array.size h) 0 none) 2 ∧ wth (wrs h31 (Addr.mk (Array.size h) 0 none) 0 [(Value.int .i64 (0 : Int)), (Value.int .i64 (0 : Int))]) fun h38 =>
                  ∃ n39 : Int, rd h38 (Addr.add (Addr.mk (Array.size h) 0 none) 0) = some (Value.int .i64 n39) ∧ ∃ n40 : Int, rd h38 (Addr.add (Addr.mk (Array.size h) 0 none) 1) = some (Value.int .i64 n40) ∧ Q [(Value.int .i64 n37), (Value.agg #[(Value.int .i64 n39), (Value.int .i64 n40)]), (Value.int .i64 (0 : Int))] h38) else
                (nilW p14 fun a41 => ∃ l42 : Sl, rd h31 (Addr.add a41 2) = some (Value.slice l42.a l42.n l42.c) ∧
                  divOk (2 : Int) (nilW g0_x fun a43 => ∃ n44 : Int, rd h31 (Addr.add a43 2) = some (Value.int .i64 n44) ∧
                    nilW p14 fun a45 => ∃ l46 : Sl, rd h31 (Addr.add a45 2) = some (Value.slice l46.a l46.n l46.c) ∧
                    nilW l46.a fun a47 => ixOk (IntKind.wrap .i64 (Int.tdiv (IntKind.wrap .i64 ((l42.n : Int) + (1 : Int))) (2 : Int))) l46.n (∃ s48 : ByteArray, rd h31 (Addr.add a47 (Int.toNat (IntKind.wrap .i64 (Int.tdiv (IntKind.wrap .i64 ((l42.n : Int) + (1 : Int))) (2 : Int))) * 1)) = some (Value.string s48) ∧
                      nilW p14 fun a49 => ∃ l50 : Sl, rd h31 (Addr.add a49 2) = some (Value.slice l50.a l50.n l50.c) ∧
                      (0 ≤ (IntKind.wrap .i64 (Int.tdiv (IntKind.wrap .i64 ((l42.n : Int) + (1 : Int))) (2 : Int))) ∧ (IntKind.wrap .i64 (Int.tdiv (IntKind.wrap .i64 ((l42.n : Int) + (1 : Int))) (2 : Int))) ≤ (l50.n : Nat)) ∧ S_slices_Clone_sstring_string ⟨(slAd l50.a (Int.toNat (IntKind.wrap .i64 (Int.tdiv (IntKind.wrap .i64 ((l42.n : Int) + (1 : Int))) (2 : Int)))) l50.c 1), (l50.n - (Int.toNat (IntKind.wrap .i64 (Int.tdiv (IntKind.wrap .i64 ((l42.n : Int) + (1 : Int))) (2 : Int))))), (l50.c - (Int.toNat (IntKind.wrap .i64 (Int.tdiv (IntKind.wrap .i64 ((l42.n : Int) + (1 : Int))) (2 : Int)))))⟩ h31 fun (vs51 : List Value) (h52 : Hp) =>
                      ∃ l53 : Sl, vs51 = [(Value.slice l53.a l53.n l53.c)] ∧
                      rd h52 (Addr.add a47 (Int.toNat (IntKind.wrap .i64 (Int.tdiv (IntKind.wrap .i64 ((l42.n : Int) + (1 : Int))) (2 : Int))) * 1)) = some (Value.string s48) ∧ rd h52 (Addr.add a45 2) = some (Value.slice l46.a l46.n l46.c) ∧ rd h52 (Addr.add a43 2) = some (Value.int .i64 n44) ∧ wth (Array.push h52 (Obj.cells #[(Value.int .i64 n44), (Value.string s48), (Value.slice l53.a l53.n l53.c)] T_leaf_one)) fun h54 =>
                      nilW p14 fun a55 => ∃ l56 : Sl, rd h54 (Addr.add a55 2) = some (Value.slice l56.a l56.n l56.c) ∧
                      (0 ≤ (IntKind.wrap .i64 (Int.tdiv (IntKind.wrap .i64 ((l42.n : Int) + (1 : Int))) (2 : Int))) ∧ (IntKind.wrap .i64 (Int.tdiv (IntKind.wrap .i64 ((l42.n : Int) + (1 : Int))) (2 : Int))) ≤ (l56.c : Nat)) ∧ S_slices_Clone_sstring_string ⟨(slAd l56.a 0 l56.c 1), ((Int.toNat (IntKind.wrap .i64 (Int.tdiv (IntKind.wrap .i64 ((l42.n : Int) + (1 : Int))) (2 : Int)))) - 0), (l56.c - 0)⟩ h54 fun (vs57 : List Value) (h58 : Hp) =>
                      ∃ l59 : Sl, vs57 = [(Value.slice l59.a l59.n l59.c)] ∧
                      nilW p14 fun a60 => stOk h58 (Addr.add a60 2) 1 ∧ wth (wrs h58 (Addr.add a60 2) 0 [(Value.slice l59.a l59.n l59.c)]) fun h61 =>
                      nilW g0_x fun a62 => ∃ n63 : Int, rd h61 (Addr.add a62 2) = some (Value.int .i64 n63) ∧
                      nilW g0_x fun a64 => stOk h61 (Addr.add a64 2) 1 ∧ wth (wrs h61 (Addr.add a64 2) 0 [(Value.int .i64 (IntKind.wrap .i64 (n63 + (1 : Int))))]) fun h65 =>
                      nilW g0_x fun a66 => ∃ l67 : Sl, rd h65 (Addr.add a66 1) = some (Value.slice l67.a l67.n l67.c) ∧
                      wth (Array.push h65 (Obj.cells #[(Value.pointer (some (Addr.mk (Array.size h52) 0 none)))] T_pleaf_one)) fun h68 =>
                      S_slices_Insert_spleaf_one_pleaf_one ⟨l67.a, l67.n, l67.c⟩ (IntKind.wrap .i64 (n10 + (1 : Int))) ⟨(some (Addr.mk (Array.size h65) 0 none)), 1, 1⟩ h68 fun (vs69 : List Value) (h70 : Hp) =>
                      ∃ l71 : Sl, vs69 = [(Value.slice l71.a l71.n l71.c)] ∧
                      nilW g0_x fun a72 => stOk h70 (Addr.add a72 1) 1 ∧ wth (wrs h70 (Addr.add a72 1) 0 [(Value.slice l71.a l71.n l71.c)]) fun h73 =>
                      nilW p14 fun a74 => ∃ n75 : Int, rd h73 (Addr.add a74 0) = some (Value.int .i64 n75) ∧
                      nilW (some (Addr.mk (Array.size h52) 0 none)) fun a76 => ∃ n77 : Int, rd h73 (Addr.add a76 0) = some (Value.int .i64 n77) ∧
                      stOk h73 (Addr.mk (Array.size h) 0 none) 2 ∧ wth (wrs h73 (Addr.mk (Array.size h) 0 none) 0 [(Value.int .i64 n75), (Value.int .i64 n77)]) fun h78 =>
                      (if (decide (n19 < (IntKind.wrap .i64 (Int.tdiv (IntKind.wrap .i64 ((l42.n : Int) + (1 : Int))) (2 : Int))))) = true then
                        (nilW p14 fun a79 => ∃ n80 : Int, rd h78 (Addr.add a79 0) = some (Value.int .i64 n80) ∧
                          ∃ n81 : Int, rd h78 (Addr.add (Addr.mk (Array.size h) 0 none) 0) = some (Value.int .i64 n81) ∧ ∃ n82 : Int, rd h78 (Addr.add (Addr.mk (Array.size h) 0 none) 1) = some (Value.int .i64 n82) ∧ stOk h78 (Addr.mk (Array.size h) 0 none) 2 ∧ wth (wrs h78 (Addr.mk (Array.size h) 0 none) 0 [(Value.int .i64 n81), (Value.int .i64 n82)]) fun h83 =>
                          ∃ n84 : Int, rd h83 (Addr.add (Addr.mk (Array.size h) 0 none) 0) = some (Value.int .i64 n84) ∧ ∃ n85 : Int, rd h83 (Addr.add (Addr.mk (Array.size h) 0 none) 1) = some (Value.int .i64 n85) ∧ Q [(Value.int .i64 n80), (Value.agg #[(Value.int .i64 n84), (Value.int .i64 n85)]), (Value.int .i64 (0 : Int))] h83) else
                        (nilW (some (Addr.mk (Array.size h52) 0 none)) fun a86 => ∃ n87 : Int, rd h78 (Addr.add a86 0) = some (Value.int .i64 n87) ∧
                          ∃ n88 : Int, rd h78 (Addr.add (Addr.mk (Array.size h) 0 none) 0) = some (Value.int .i64 n88) ∧ ∃ n89 : Int, rd h78 (Addr.add (Addr.mk (Array.size h) 0 none) 1) = some (Value.int .i64 n89) ∧ stOk h78 (Addr.mk (Array.size h) 0 none) 2 ∧ wth (wrs h78 (Addr.mk (Array.size h) 0 none) 0 [(Value.int .i64 n88), (Value.int .i64 n89)]) fun h90 =>
                          ∃ n91 : Int, rd h90 (Addr.add (Addr.mk (Array.size h) 0 none) 0) = some (Value.int .i64 n91) ∧ ∃ n92 : Int, rd h90 (Addr.add (Addr.mk (Array.size h) 0 none) 1) = some (Value.int .i64 n92) ∧ Q [(Value.int .i64 n87), (Value.agg #[(Value.int .i64 n91), (Value.int .i64 n92)]), (Value.int .i64 (0 : Int))] h90)))))))))))))
def A_leaf_Leaves_Insert : Ann := .nil
theorem E_leaf_Leaves_Insert (g0_x : Option Addr) (g1_k : ByteArray) (h : Hp) (Q : List Value → Hp → Prop) : cw PP 147 (fun _ => []) (bodyOf Tryd.f24) A_leaf_Leaves_Insert (finQ PP (Tryd.f24.results.toList) Q) (argFr [(Value.pointer g0_x), (Value.string g1_k)]) h = F_leaf_Leaves_Insert g0_x g1_k h Q := by kernel_rfl
theorem O_leaf_Leaves_Insert (g0_x : Option Addr) (g1_k : ByteArray) {h : Hp} {Q : List Value → Hp → Prop} (H : F_leaf_Leaves_Insert g0_x g1_k h Q) : S_leaf_Leaves_Insert g0_x g1_k h Q :=
  fn_of_cw (hs := (fun _ => [])) (ann := A_leaf_Leaves_Insert) (args := [(Value.pointer g0_x), (Value.string g1_k)]) mixedPP Tryd.func24 (c := bodyOf Tryd.f24) (by kernel_rfl) (by kernel_rfl) (by kernel_rfl) (Eq.mpr (E_leaf_Leaves_Insert g0_x g1_k h Q) H)
def F_index_Index_Add (g0_x : Option Addr) (g1_v_0 : Int) (g1_v_1 : Int) (g1_v_2 : Nat) (g1_v_3 : ByteArray) (g2_tid : Int) (h : Hp) (Q : List Value → Hp → Prop) : Prop :=
wth (Array.push h (Obj.cells #[(Value.int .i64 g1_v_0), (Value.int .i64 g1_v_1), (Value.float .f64 g1_v_2), (Value.string g1_v_3)] T_api_Value)) fun h1 =>
wth (Array.push h1 (Obj.cells #[(Value.int .i64 (0 : Int)), (Value.int .i64 (0 : Int))] T_leaf_Move)) fun h2 =>
(if (Option.isNone g0_x) = true then
  (stOk h2 (Addr.mk (Array.size h1) 0 none) 2 ∧ wth (wrs h2 (Addr.mk (Array.size h1) 0 none) 0 [(Value.int .i64 (0 : Int)), (Value.int .i64 (0 : Int))]) fun h3 =>
    ∃ n4 : Int, rd h3 (Addr.add (Addr.mk (Array.size h1) 0 none) 0) = some (Value.int .i64 n4) ∧ ∃ n5 : Int, rd h3 (Addr.add (Addr.mk (Array.size h1) 0 none) 1) = some (Value.int .i64 n5) ∧ Q [(Value.int .i64 (0 : Int)), (Value.agg #[(Value.int .i64 n4), (Value.int .i64 n5)]), (Value.int .i64 (1 : Int))] h3) else
  (∃ n6 : Int, rd h2 (Addr.add (Addr.mk (Array.size h) 0 none) 0) = some (Value.int .i64 n6) ∧ ∃ n7 : Int, rd h2 (Addr.add (Addr.mk (Array.size h) 0 none) 1) = some (Value.int .i64 n7) ∧ ∃ x8 : Nat, rd h2 (Addr.add (Addr.mk (Array.size h) 0 none) 2) = some (Value.float .f64 x8) ∧ ∃ s9 : ByteArray, rd h2 (Addr.add (Addr.mk (Array.size h) 0 none) 3) = some (Value.string s9) ∧ S_key_Entry n6 n7 x8 s9 g2_tid h2 fun (vs10 : List Value) (h11 : Hp) =>
    ∃ s12 : ByteArray, ∃ n13 : Int, vs10 = [(Value.string s12), (Value.int .i64 n13)] ∧
    (if (n13 != (0 : Int)) = true then
      (stOk h11 (Addr.mk (Array.size h1) 0 none) 2 ∧ wth (wrs h11 (Addr.mk (Array.size h1) 0 none) 0 [(Value.int .i64 (0 : Int)), (Value.int .i64 (0 : Int))]) fun h14 =>
        ∃ n15 : Int, rd h14 (Addr.add (Addr.mk (Array.size h1) 0 none) 0) = some (Value.int .i64 n15) ∧ ∃ n16 : Int, rd h14 (Addr.add (Addr.mk (Array.size h1) 0 none) 1) = some (Value.int .i64 n16) ∧ Q [(Value.int .i64 (0 : Int)), (Value.agg #[(Value.int .i64 n15), (Value.int .i64 n16)]), (Value.int .i64 n13)] h14) else
      (nilW g0_x fun a17 => ∃ p18 : Option Addr, rd h11 (Addr.add a17 0) = some (Value.pointer p18) ∧
        S_leaf_Leaves_Insert p18 s12 h11 fun (vs19 : List Value) (h20 : Hp) =>
        ∃ n21 : Int, ∃ n22 : Int, ∃ n23 : Int, ∃ n24 : Int, vs19 = [(Value.int .i64 n21), (Value.agg #[(Value.int .i64 n22), (Value.int .i64 n23)]), (Value.int .i64 n24)] ∧
        stOk h20 (Addr.mk (Array.size h1) 0 none) 2 ∧ wth (wrs h20 (Addr.mk (Array.size h1) 0 none) 0 [(Value.int .i64 n22), (Value.int .i64 n23)]) fun h25 =>
        ∃ n26 : Int, rd h25 (Addr.add (Addr.mk (Array.size h1) 0 none) 0) = some (Value.int .i64 n26) ∧ ∃ n27 : Int, rd h25 (Addr.add (Addr.mk (Array.size h1) 0 none) 1) = some (Value.int .i64 n27) ∧ Q [(Value.int .i64 n21), (Value.agg #[(Value.int .i64 n26), (Value.int .i64 n27)]), (Value.int .i64 n24)] h25))))
def A_index_Index_Add : Ann := .nil
theorem E_index_Index_Add (g0_x : Option Addr) (g1_v_0 : Int) (g1_v_1 : Int) (g1_v_2 : Nat) (g1_v_3 : ByteArray) (g2_tid : Int) (h : Hp) (Q : List Value → Hp → Prop) : cw PP 33 (fun _ => []) (bodyOf Tryd.f10) A_index_Index_Add (finQ PP (Tryd.f10.results.toList) Q) (argFr [(Value.pointer g0_x), (Value.agg #[(Value.int .i64 g1_v_0), (Value.int .i64 g1_v_1), (Value.float .f64 g1_v_2), (Value.string g1_v_3)]), (Value.int .i64 g2_tid)]) h = F_index_Index_Add g0_x g1_v_0 g1_v_1 g1_v_2 g1_v_3 g2_tid h Q := by kernel_rfl
theorem O_index_Index_Add (g0_x : Option Addr) (g1_v_0 : Int) (g1_v_1 : Int) (g1_v_2 : Nat) (g1_v_3 : ByteArray) (g2_tid : Int) {h : Hp} {Q : List Value → Hp → Prop} (H : F_index_Index_Add g0_x g1_v_0 g1_v_1 g1_v_2 g1_v_3 g2_tid h Q) : S_index_Index_Add g0_x g1_v_0 g1_v_1 g1_v_2 g1_v_3 g2_tid h Q :=
  fn_of_cw (hs := (fun _ => [])) (ann := A_index_Index_Add) (args := [(Value.pointer g0_x), (Value.agg #[(Value.int .i64 g1_v_0), (Value.int .i64 g1_v_1), (Value.float .f64 g1_v_2), (Value.string g1_v_3)]), (Value.int .i64 g2_tid)]) mixedPP Tryd.func10 (c := bodyOf Tryd.f10) (by kernel_rfl) (by kernel_rfl) (by kernel_rfl) (Eq.mpr (E_index_Index_Add g0_x g1_v_0 g1_v_1 g1_v_2 g1_v_3 g2_tid h Q) H)
def F_liverykeep_Ints (g0_a : Sl) (g1_b : Sl) (h : Hp) (Q : List Value → Hp → Prop) : Prop :=
(if ((g0_a.n : Int) != (g1_b.n : Int)) = true then
  (Q [(Value.bool false)] h) else
  (∀ X1 : List Value → Hp → Prop, (∀ n2 : Int, ∀ h3 : Hp, ((if (decide (n2 < (g0_a.n : Int))) = true then
          (nilW g0_a.a fun a4 => ixOk n2 g0_a.n (∃ n5 : Int, rd h3 (Addr.add a4 (Int.toNat n2 * 1)) = some (Value.int .i64 n5) ∧
              nilW g1_b.a fun a6 => ixOk n2 g1_b.n (∃ n7 : Int, rd h3 (Addr.add a6 (Int.toNat n2 * 1)) = some (Value.int .i64 n7) ∧
                (if (n5 != n7) = true then
                  (Q [(Value.bool false)] h3) else
                  (X1 [(Value.int .i64 (IntKind.wrap .i64 (n2 + (1 : Int))))] h3))))) else
          (Q [(Value.bool true)] h3))) → X1 [(Value.int .i64 n2)] h3) →
    X1 [(Value.int .i64 (0 : Int))] h))
def A_liverykeep_Ints : Ann := (.mk none ⟨[], []⟩ .nil (.mk none ⟨[], []⟩ .nil (.mk none ⟨[], []⟩ (.mk none ⟨[], []⟩ .nil (.mk none ⟨[], []⟩ (.mk none ⟨[0, 1], [(5, (.c (.int .i64)))]⟩ .nil .nil) .nil)) .nil)))
theorem E_liverykeep_Ints (g0_a : Sl) (g1_b : Sl) (h : Hp) (Q : List Value → Hp → Prop) : cw PP 26 (fun _ => []) (bodyOf Tryd.f12) A_liverykeep_Ints (finQ PP (Tryd.f12.results.toList) Q) (argFr [(Value.slice g0_a.a g0_a.n g0_a.c), (Value.slice g1_b.a g1_b.n g1_b.c)]) h = F_liverykeep_Ints g0_a g1_b h Q := by kernel_rfl
theorem O_liverykeep_Ints (g0_a : Sl) (g1_b : Sl) {h : Hp} {Q : List Value → Hp → Prop} (H : F_liverykeep_Ints g0_a g1_b h Q) : S_liverykeep_Ints g0_a g1_b h Q :=
  fn_of_cw (hs := (fun _ => [])) (ann := A_liverykeep_Ints) (args := [(Value.slice g0_a.a g0_a.n g0_a.c), (Value.slice g1_b.a g1_b.n g1_b.c)]) mixedPP Tryd.func12 (c := bodyOf Tryd.f12) (by kernel_rfl) (by kernel_rfl) (by kernel_rfl) (Eq.mpr (E_liverykeep_Ints g0_a g1_b h Q) H)
def F_key_Least (g0_v_0 : Int) (g0_v_1 : Int) (g0_v_2 : Nat) (g0_v_3 : ByteArray) (h : Hp) (Q : List Value → Hp → Prop) : Prop :=
wth (Array.push h (Obj.cells #[(Value.int .i64 g0_v_0), (Value.int .i64 g0_v_1), (Value.float .f64 g0_v_2), (Value.string g0_v_3)] T_api_Value)) fun h1 =>
∃ n2 : Int, rd h1 (Addr.add (Addr.mk (Array.size h) 0 none) 0) = some (Value.int .i64 n2) ∧ ∃ n3 : Int, rd h1 (Addr.add (Addr.mk (Array.size h) 0 none) 1) = some (Value.int .i64 n3) ∧ ∃ x4 : Nat, rd h1 (Addr.add (Addr.mk (Array.size h) 0 none) 2) = some (Value.float .f64 x4) ∧ ∃ s5 : ByteArray, rd h1 (Addr.add (Addr.mk (Array.size h) 0 none) 3) = some (Value.string s5) ∧ S_key_Entry n2 n3 x4 s5 (0 : Int) h1 fun (vs6 : List Value) (h7 : Hp) =>
∃ s8 : ByteArray, ∃ n9 : Int, vs6 = [(Value.string s8), (Value.int .i64 n9)] ∧
Q [(Value.string s8), (Value.int .i64 n9)] h7
def A_key_Least : Ann := .nil
theorem E_key_Least (g0_v_0 : Int) (g0_v_1 : Int) (g0_v_2 : Nat) (g0_v_3 : ByteArray) (h : Hp) (Q : List Value → Hp → Prop) : cw PP 8 (fun _ => []) (bodyOf Tryd.f25) A_key_Least (finQ PP (Tryd.f25.results.toList) Q) (argFr [(Value.agg #[(Value.int .i64 g0_v_0), (Value.int .i64 g0_v_1), (Value.float .f64 g0_v_2), (Value.string g0_v_3)])]) h = F_key_Least g0_v_0 g0_v_1 g0_v_2 g0_v_3 h Q := by kernel_rfl
theorem O_key_Least (g0_v_0 : Int) (g0_v_1 : Int) (g0_v_2 : Nat) (g0_v_3 : ByteArray) {h : Hp} {Q : List Value → Hp → Prop} (H : F_key_Least g0_v_0 g0_v_1 g0_v_2 g0_v_3 h Q) : S_key_Least g0_v_0 g0_v_1 g0_v_2 g0_v_3 h Q :=
  fn_of_cw (hs := (fun _ => [])) (ann := A_key_Least) (args := [(Value.agg #[(Value.int .i64 g0_v_0), (Value.int .i64 g0_v_1), (Value.float .f64 g0_v_2), (Value.string g0_v_3)])]) mixedPP Tryd.func25 (c := bodyOf Tryd.f25) (by kernel_rfl) (by kernel_rfl) (by kernel_rfl) (Eq.mpr (E_key_Least g0_v_0 g0_v_1 g0_v_2 g0_v_3 h Q) H)
def F_key_After (g0_v_0 : Int) (g0_v_1 : Int) (g0_v_2 : Nat) (g0_v_3 : ByteArray) (h : Hp) (Q : List Value → Hp → Prop) : Prop :=
wth (Array.push h (Obj.cells #[(Value.int .i64 g0_v_0), (Value.int .i64 g0_v_1), (Value.float .f64 g0_v_2), (Value.string g0_v_3)] T_api_Value)) fun h1 =>
∃ n2 : Int, rd h1 (Addr.add (Addr.mk (Array.size h) 0 none) 0) = some (Value.int .i64 n2) ∧ ∃ n3 : Int, rd h1 (Addr.add (Addr.mk (Array.size h) 0 none) 1) = some (Value.int .i64 n3) ∧ ∃ x4 : Nat, rd h1 (Addr.add (Addr.mk (Array.size h) 0 none) 2) = some (Value.float .f64 x4) ∧ ∃ s5 : ByteArray, rd h1 (Addr.add (Addr.mk (Array.size h) 0 none) 3) = some (Value.string s5) ∧ S_key_Entry n2 n3 x4 s5 (65535 : Int) h1 fun (vs6 : List Value) (h7 : Hp) =>
∃ s8 : ByteArray, ∃ n9 : Int, vs6 = [(Value.string s8), (Value.int .i64 n9)] ∧
(if (n9 != (0 : Int)) = true then
  (Q [(Value.string (ByteArray.mk #[])), (Value.int .i64 n9)] h7) else
  (wth (Array.push h7 (Obj.cells #[(Value.string s8), (Value.string (ByteArray.mk #[0]))] T_string)) fun h10 =>
    S_key_joined ⟨(some (Addr.mk (Array.size h7) 0 none)), 2, 2⟩ h10 fun (vs11 : List Value) (h12 : Hp) =>
    ∃ s13 : ByteArray, vs11 = [(Value.string s13)] ∧
    Q [(Value.string s13), (Value.int .i64 (0 : Int))] h12))
def A_key_After : Ann := .nil
theorem E_key_After (g0_v_0 : Int) (g0_v_1 : Int) (g0_v_2 : Nat) (g0_v_3 : ByteArray) (h : Hp) (Q : List Value → Hp → Prop) : cw PP 17 (fun _ => []) (bodyOf Tryd.f27) A_key_After (finQ PP (Tryd.f27.results.toList) Q) (argFr [(Value.agg #[(Value.int .i64 g0_v_0), (Value.int .i64 g0_v_1), (Value.float .f64 g0_v_2), (Value.string g0_v_3)])]) h = F_key_After g0_v_0 g0_v_1 g0_v_2 g0_v_3 h Q := by kernel_rfl
theorem O_key_After (g0_v_0 : Int) (g0_v_1 : Int) (g0_v_2 : Nat) (g0_v_3 : ByteArray) {h : Hp} {Q : List Value → Hp → Prop} (H : F_key_After g0_v_0 g0_v_1 g0_v_2 g0_v_3 h Q) : S_key_After g0_v_0 g0_v_1 g0_v_2 g0_v_3 h Q :=
  fn_of_cw (hs := (fun _ => [])) (ann := A_key_After) (args := [(Value.agg #[(Value.int .i64 g0_v_0), (Value.int .i64 g0_v_1), (Value.float .f64 g0_v_2), (Value.string g0_v_3)])]) mixedPP Tryd.func27 (c := bodyOf Tryd.f27) (by kernel_rfl) (by kernel_rfl) (by kernel_rfl) (Eq.mpr (E_key_After g0_v_0 g0_v_1 g0_v_2 g0_v_3 h Q) H)
def F_index_Index_Find (g0_x : Option Addr) (g1_v_0 : Int) (g1_v_1 : Int) (g1_v_2 : Nat) (g1_v_3 : ByteArray) (h : Hp) (Q : List Value → Hp → Prop) : Prop :=
wth (Array.push h (Obj.cells #[(Value.int .i64 g1_v_0), (Value.int .i64 g1_v_1), (Value.float .f64 g1_v_2), (Value.string g1_v_3)] T_api_Value)) fun h1 =>
∃ n2 : Int, rd h1 (Addr.add (Addr.mk (Array.size h) 0 none) 0) = some (Value.int .i64 n2) ∧ ∃ n3 : Int, rd h1 (Addr.add (Addr.mk (Array.size h) 0 none) 1) = some (Value.int .i64 n3) ∧ ∃ x4 : Nat, rd h1 (Addr.add (Addr.mk (Array.size h) 0 none) 2) = some (Value.float .f64 x4) ∧ ∃ s5 : ByteArray, rd h1 (Addr.add (Addr.mk (Array.size h) 0 none) 3) = some (Value.string s5) ∧ S_key_Least n2 n3 x4 s5 h1 fun (vs6 : List Value) (h7 : Hp) =>
∃ s8 : ByteArray, ∃ n9 : Int, vs6 = [(Value.string s8), (Value.int .i64 n9)] ∧
∃ n10 : Int, rd h7 (Addr.add (Addr.mk (Array.size h) 0 none) 0) = some (Value.int .i64 n10) ∧ ∃ n11 : Int, rd h7 (Addr.add (Addr.mk (Array.size h) 0 none) 1) = some (Value.int .i64 n11) ∧ ∃ x12 : Nat, rd h7 (Addr.add (Addr.mk (Array.size h) 0 none) 2) = some (Value.float .f64 x12) ∧ ∃ s13 : ByteArray, rd h7 (Addr.add (Addr.mk (Array.size h) 0 none) 3) = some (Value.string s13) ∧ S_key_After n10 n11 x12 s13 h7 fun (vs14 : List Value) (h15 : Hp) =>
∃ s16 : ByteArray, ∃ n17 : Int, vs14 = [(Value.string s16), (Value.int .i64 n17)] ∧
∀ J18 : List Value → Hp → Prop, (∀ b19 : Bool, ∀ h20 : Hp, ((if b19 = true then
      (Q [(Value.slice none 0 0), (Value.slice none 0 0)] h20) else
      (S_index_Index_between g0_x s8 s16 h20 fun (vs21 : List Value) (h22 : Hp) =>
        ∃ l23 : Sl, ∃ l24 : Sl, vs21 = [(Value.slice l23.a l23.n l23.c), (Value.slice l24.a l24.n l24.c)] ∧
        Q [(Value.slice l23.a l23.n l23.c), (Value.slice l24.a l24.n l24.c)] h22))) → J18 [(Value.bool b19)] h20) →
(if (Option.isNone g0_x) = true then (J18 [(Value.bool true)] h15) else
  ((if (n9 != (0 : Int)) = true then (J18 [(Value.bool true)] h15) else
      (J18 [(Value.bool (n17 != (0 : Int)))] h15))))
def A_index_Index_Find : Ann := (.mk none ⟨[], []⟩ .nil (.mk none ⟨[], []⟩ .nil (.mk none ⟨[], []⟩ .nil (.mk none ⟨[], []⟩ (.mk none ⟨[], []⟩ (.mk (some ⟨[0, 6, 8], [(29, (.c .bool))]⟩) ⟨[], []⟩ .nil .nil) .nil) .nil))))
theorem E_index_Index_Find (g0_x : Option Addr) (g1_v_0 : Int) (g1_v_1 : Int) (g1_v_2 : Nat) (g1_v_3 : ByteArray) (h : Hp) (Q : List Value → Hp → Prop) : cw PP 36 (fun _ => []) (bodyOf Tryd.f13) A_index_Index_Find (finQ PP (Tryd.f13.results.toList) Q) (argFr [(Value.pointer g0_x), (Value.agg #[(Value.int .i64 g1_v_0), (Value.int .i64 g1_v_1), (Value.float .f64 g1_v_2), (Value.string g1_v_3)])]) h = F_index_Index_Find g0_x g1_v_0 g1_v_1 g1_v_2 g1_v_3 h Q := by kernel_rfl
theorem O_index_Index_Find (g0_x : Option Addr) (g1_v_0 : Int) (g1_v_1 : Int) (g1_v_2 : Nat) (g1_v_3 : ByteArray) {h : Hp} {Q : List Value → Hp → Prop} (H : F_index_Index_Find g0_x g1_v_0 g1_v_1 g1_v_2 g1_v_3 h Q) : S_index_Index_Find g0_x g1_v_0 g1_v_1 g1_v_2 g1_v_3 h Q :=
  fn_of_cw (hs := (fun _ => [])) (ann := A_index_Index_Find) (args := [(Value.pointer g0_x), (Value.agg #[(Value.int .i64 g1_v_0), (Value.int .i64 g1_v_1), (Value.float .f64 g1_v_2), (Value.string g1_v_3)])]) mixedPP Tryd.func13 (c := bodyOf Tryd.f13) (by kernel_rfl) (by kernel_rfl) (by kernel_rfl) (Eq.mpr (E_index_Index_Find g0_x g1_v_0 g1_v_1 g1_v_2 g1_v_3 h Q) H)
def F_leaf_Leaves_Len (g0_x : Option Addr) (h : Hp) (Q : List Value → Hp → Prop) : Prop :=
∀ J1 : List Value → Hp → Prop, (∀ n2 : Int, ∀ h3 : Hp, (Q [(Value.int .i64 n2)] h3) → J1 [(Value.int .i64 n2)] h3) →
(if (!(Option.isNone g0_x)) = true then
  (nilW g0_x fun a4 => ∃ l5 : Sl, rd h (Addr.add a4 1) = some (Value.slice l5.a l5.n l5.c) ∧
    ∀ X6 : List Value → Hp → Prop, (∀ n7 : Int, ∀ n8 : Int, ∀ h9 : Hp, ((if (decide (n8 < (l5.n : Int))) = true then
          (nilW l5.a fun a10 => ixOk n8 l5.n (∃ p11 : Option Addr, rd h9 (Addr.add a10 (Int.toNat n8 * 1)) = some (Value.pointer p11) ∧
              nilW p11 fun a12 => ∃ l13 : Sl, rd h9 (Addr.add a12 2) = some (Value.slice l13.a l13.n l13.c) ∧
              X6 [(Value.int .i64 (IntKind.wrap .i64 (n7 + (l13.n : Int)))), (Value.int .i64 (IntKind.wrap .i64 (n8 + (1 : Int))))] h9)) else
          (J1 [(Value.int .i64 n7)] h9))) → X6 [(Value.int .i64 n7), (Value.int .i64 n8)] h9) →
    X6 [(Value.int .i64 (0 : Int)), (Value.int .i64 (0 : Int))] h) else
  (J1 [(Value.int .i64 (0 : Int))] h))
def A_leaf_Leaves_Len : Ann := (.mk none ⟨[], []⟩ .nil (.mk none ⟨[], []⟩ .nil (.mk none ⟨[], []⟩ (.mk none ⟨[], []⟩ .nil (.mk (some ⟨[], [(3, (.c (.int .i64)))]⟩) ⟨[], []⟩ (.mk none ⟨[], []⟩ .nil (.mk none ⟨[], []⟩ (.mk none ⟨[11, 12], [(3, (.c (.int .i64))), (13, (.c (.int .i64)))]⟩ .nil .nil) .nil)) .nil)) .nil)))
theorem E_leaf_Leaves_Len (g0_x : Option Addr) (h : Hp) (Q : List Value → Hp → Prop) : cw PP 26 (fun _ => []) (bodyOf Tryd.f31) A_leaf_Leaves_Len (finQ PP (Tryd.f31.results.toList) Q) (argFr [(Value.pointer g0_x)]) h = F_leaf_Leaves_Len g0_x h Q := by kernel_rfl
theorem O_leaf_Leaves_Len (g0_x : Option Addr) {h : Hp} {Q : List Value → Hp → Prop} (H : F_leaf_Leaves_Len g0_x h Q) : S_leaf_Leaves_Len g0_x h Q :=
  fn_of_cw (hs := (fun _ => [])) (ann := A_leaf_Leaves_Len) (args := [(Value.pointer g0_x)]) mixedPP Tryd.func31 (c := bodyOf Tryd.f31) (by kernel_rfl) (by kernel_rfl) (by kernel_rfl) (Eq.mpr (E_leaf_Leaves_Len g0_x h Q) H)
def F_index_Index_Len (g0_x : Option Addr) (h : Hp) (Q : List Value → Hp → Prop) : Prop :=
(if (Option.isNone g0_x) = true then
  (Q [(Value.int .i64 (0 : Int))] h) else
  (nilW g0_x fun a1 => ∃ p2 : Option Addr, rd h (Addr.add a1 0) = some (Value.pointer p2) ∧
    S_leaf_Leaves_Len p2 h fun (vs3 : List Value) (h4 : Hp) =>
    ∃ n5 : Int, vs3 = [(Value.int .i64 n5)] ∧
    Q [(Value.int .i64 n5)] h4))
def A_index_Index_Len : Ann := .nil
theorem E_index_Index_Len (g0_x : Option Addr) (h : Hp) (Q : List Value → Hp → Prop) : cw PP 10 (fun _ => []) (bodyOf Tryd.f17) A_index_Index_Len (finQ PP (Tryd.f17.results.toList) Q) (argFr [(Value.pointer g0_x)]) h = F_index_Index_Len g0_x h Q := by kernel_rfl
theorem O_index_Index_Len (g0_x : Option Addr) {h : Hp} {Q : List Value → Hp → Prop} (H : F_index_Index_Len g0_x h Q) : S_index_Index_Len g0_x h Q :=
  fn_of_cw (hs := (fun _ => [])) (ann := A_index_Index_Len) (args := [(Value.pointer g0_x)]) mixedPP Tryd.func17 (c := bodyOf Tryd.f17) (by kernel_rfl) (by kernel_rfl) (by kernel_rfl) (Eq.mpr (E_index_Index_Len g0_x h Q) H)
def F_leaf_Leaves_Has (g0_x : Option Addr) (g1_k : ByteArray) (h : Hp) (Q : List Value → Hp → Prop) : Prop :=
(if (Option.isNone g0_x) = true then
  (Q [(Value.bool false)] h) else
  (nilW g0_x fun a1 => ∃ l2 : Sl, rd h (Addr.add a1 1) = some (Value.slice l2.a l2.n l2.c) ∧
    S_leaf_Leaves_at g0_x g1_k h fun (vs3 : List Value) (h4 : Hp) =>
    ∃ n5 : Int, vs3 = [(Value.int .i64 n5)] ∧
    rd h4 (Addr.add a1 1) = some (Value.slice l2.a l2.n l2.c) ∧ nilW l2.a fun a6 => ixOk n5 l2.n (∃ p7 : Option Addr, rd h4 (Addr.add a6 (Int.toNat n5 * 1)) = some (Value.pointer p7) ∧
      nilW p7 fun a8 => ∃ l9 : Sl, rd h4 (Addr.add a8 2) = some (Value.slice l9.a l9.n l9.c) ∧
      S_slices_BinarySearch_sstring_string ⟨l9.a, l9.n, l9.c⟩ g1_k h4 fun (vs10 : List Value) (h11 : Hp) =>
      ∃ n12 : Int, ∃ b13 : Bool, vs10 = [(Value.int .i64 n12), (Value.bool b13)] ∧
      Q [(Value.bool b13)] h11)))
def A_leaf_Leaves_Has : Ann := .nil
theorem E_leaf_Leaves_Has (g0_x : Option Addr) (g1_k : ByteArray) (h : Hp) (Q : List Value → Hp → Prop) : cw PP 27 (fun _ => []) (bodyOf Tryd.f32) A_leaf_Leaves_Has (finQ PP (Tryd.f32.results.toList) Q) (argFr [(Value.pointer g0_x), (Value.string g1_k)]) h = F_leaf_Leaves_Has g0_x g1_k h Q := by kernel_rfl
theorem O_leaf_Leaves_Has (g0_x : Option Addr) (g1_k : ByteArray) {h : Hp} {Q : List Value → Hp → Prop} (H : F_leaf_Leaves_Has g0_x g1_k h Q) : S_leaf_Leaves_Has g0_x g1_k h Q :=
  fn_of_cw (hs := (fun _ => [])) (ann := A_leaf_Leaves_Has) (args := [(Value.pointer g0_x), (Value.string g1_k)]) mixedPP Tryd.func32 (c := bodyOf Tryd.f32) (by kernel_rfl) (by kernel_rfl) (by kernel_rfl) (Eq.mpr (E_leaf_Leaves_Has g0_x g1_k h Q) H)
def F_index_Index_Has (g0_x : Option Addr) (g1_v_0 : Int) (g1_v_1 : Int) (g1_v_2 : Nat) (g1_v_3 : ByteArray) (g2_tid : Int) (h : Hp) (Q : List Value → Hp → Prop) : Prop :=
wth (Array.push h (Obj.cells #[(Value.int .i64 g1_v_0), (Value.int .i64 g1_v_1), (Value.float .f64 g1_v_2), (Value.string g1_v_3)] T_api_Value)) fun h1 =>
∃ n2 : Int, rd h1 (Addr.add (Addr.mk (Array.size h) 0 none) 0) = some (Value.int .i64 n2) ∧ ∃ n3 : Int, rd h1 (Addr.add (Addr.mk (Array.size h) 0 none) 1) = some (Value.int .i64 n3) ∧ ∃ x4 : Nat, rd h1 (Addr.add (Addr.mk (Array.size h) 0 none) 2) = some (Value.float .f64 x4) ∧ ∃ s5 : ByteArray, rd h1 (Addr.add (Addr.mk (Array.size h) 0 none) 3) = some (Value.string s5) ∧ S_key_Entry n2 n3 x4 s5 g2_tid h1 fun (vs6 : List Value) (h7 : Hp) =>
∃ s8 : ByteArray, ∃ n9 : Int, vs6 = [(Value.string s8), (Value.int .i64 n9)] ∧
(if (!(Option.isNone g0_x)) = true then ((if (n9 == (0 : Int)) = true then (nilW g0_x fun a10 => ∃ p11 : Option Addr, rd h7 (Addr.add a10 0) = some (Value.pointer p11) ∧
        S_leaf_Leaves_Has p11 s8 h7 fun (vs12 : List Value) (h13 : Hp) =>
        ∃ b14 : Bool, vs12 = [(Value.bool b14)] ∧
        Q [(Value.bool b14)] h13) else
      (Q [(Value.bool false)] h7))) else
  (Q [(Value.bool false)] h7))
def A_index_Index_Has : Ann := .nil
theorem E_index_Index_Has (g0_x : Option Addr) (g1_v_0 : Int) (g1_v_1 : Int) (g1_v_2 : Nat) (g1_v_3 : ByteArray) (g2_tid : Int) (h : Hp) (Q : List Value → Hp → Prop) : cw PP 29 (fun _ => []) (bodyOf Tryd.f19) A_index_Index_Has (finQ PP (Tryd.f19.results.toList) Q) (argFr [(Value.pointer g0_x), (Value.agg #[(Value.int .i64 g1_v_0), (Value.int .i64 g1_v_1), (Value.float .f64 g1_v_2), (Value.string g1_v_3)]), (Value.int .i64 g2_tid)]) h = F_index_Index_Has g0_x g1_v_0 g1_v_1 g1_v_2 g1_v_3 g2_tid h Q := by kernel_rfl
theorem O_index_Index_Has (g0_x : Option Addr) (g1_v_0 : Int) (g1_v_1 : Int) (g1_v_2 : Nat) (g1_v_3 : ByteArray) (g2_tid : Int) {h : Hp} {Q : List Value → Hp → Prop} (H : F_index_Index_Has g0_x g1_v_0 g1_v_1 g1_v_2 g1_v_3 g2_tid h Q) : S_index_Index_Has g0_x g1_v_0 g1_v_1 g1_v_2 g1_v_3 g2_tid h Q :=
  fn_of_cw (hs := (fun _ => [])) (ann := A_index_Index_Has) (args := [(Value.pointer g0_x), (Value.agg #[(Value.int .i64 g1_v_0), (Value.int .i64 g1_v_1), (Value.float .f64 g1_v_2), (Value.string g1_v_3)]), (Value.int .i64 g2_tid)]) mixedPP Tryd.func19 (c := bodyOf Tryd.f19) (by kernel_rfl) (by kernel_rfl) (by kernel_rfl) (Eq.mpr (E_index_Index_Has g0_x g1_v_0 g1_v_1 g1_v_2 g1_v_3 g2_tid h Q) H)
def F_liverylaw11_wakes (h : Hp) (Q : List Value → Hp → Prop) : Prop :=
S_index_New (2 : Int) h fun (vs1 : List Value) (h2 : Hp) =>
∃ p3 : Option Addr, ∃ n4 : Int, vs1 = [(Value.pointer p3), (Value.int .i64 n4)] ∧
wth (Array.push h2 (Obj.cells #[(Value.int .i64 (0 : Int)), (Value.int .i64 (0 : Int)), (Value.float .f64 0), (Value.string (ByteArray.mk #[]))] T_api_Value)) fun h5 =>
stOk h5 (Addr.mk (Array.size h2) 0 none) 4 ∧ wth (wrs h5 (Addr.mk (Array.size h2) 0 none) 0 [(Value.int .i64 (2 : Int)), (Value.int .i64 (5 : Int)), (Value.float .f64 0), (Value.string (ByteArray.mk #[]))]) fun h6 =>
∀ J7 : List Value → Hp → Prop, (∀ b8 : Bool, ∀ h9 : Hp, ((if b8 = true then
      (Q [(Value.bool false)] h9) else
      (∃ n10 : Int, rd h9 (Addr.add (Addr.mk (Array.size h2) 0 none) 0) = some (Value.int .i64 n10) ∧ ∃ n11 : Int, rd h9 (Addr.add (Addr.mk (Array.size h2) 0 none) 1) = some (Value.int .i64 n11) ∧ ∃ x12 : Nat, rd h9 (Addr.add (Addr.mk (Array.size h2) 0 none) 2) = some (Value.float .f64 x12) ∧ ∃ s13 : ByteArray, rd h9 (Addr.add (Addr.mk (Array.size h2) 0 none) 3) = some (Value.string s13) ∧ S_index_Index_Add p3 n10 n11 x12 s13 (3 : Int) h9 fun (vs14 : List Value) (h15 : Hp) =>
        ∃ n16 : Int, ∃ n17 : Int, ∃ n18 : Int, ∃ n19 : Int, vs14 = [(Value.int .i64 n16), (Value.agg #[(Value.int .i64 n17), (Value.int .i64 n18)]), (Value.int .i64 n19)] ∧
        ∃ n20 : Int, rd h15 (Addr.add (Addr.mk (Array.size h2) 0 none) 0) = some (Value.int .i64 n20) ∧ ∃ n21 : Int, rd h15 (Addr.add (Addr.mk (Array.size h2) 0 none) 1) = some (Value.int .i64 n21) ∧ ∃ x22 : Nat, rd h15 (Addr.add (Addr.mk (Array.size h2) 0 none) 2) = some (Value.float .f64 x22) ∧ ∃ s23 : ByteArray, rd h15 (Addr.add (Addr.mk (Array.size h2) 0 none) 3) = some (Value.string s23) ∧ S_index_Index_Add p3 n20 n21 x22 s23 (1 : Int) h15 fun (vs24 : List Value) (h25 : Hp) =>
        ∃ n26 : Int, ∃ n27 : Int, ∃ n28 : Int, ∃ n29 : Int, vs24 = [(Value.int .i64 n26), (Value.agg #[(Value.int .i64 n27), (Value.int .i64 n28)]), (Value.int .i64 n29)] ∧
        ∃ n30 : Int, rd h25 (Addr.add (Addr.mk (Array.size h2) 0 none) 0) = some (Value.int .i64 n30) ∧ ∃ n31 : Int, rd h25 (Addr.add (Addr.mk (Array.size h2) 0 none) 1) = some (Value.int .i64 n31) ∧ ∃ x32 : Nat, rd h25 (Addr.add (Addr.mk (Array.size h2) 0 none) 2) = some (Value.float .f64 x32) ∧ ∃ s33 : ByteArray, rd h25 (Addr.add (Addr.mk (Array.size h2) 0 none) 3) = some (Value.string s33) ∧ S_index_Index_Add p3 n30 n31 x32 s33 (7 : Int) h25 fun (vs34 : List Value) (h35 : Hp) =>
        ∃ n36 : Int, ∃ n37 : Int, ∃ n38 : Int, ∃ n39 : Int, vs34 = [(Value.int .i64 n36), (Value.agg #[(Value.int .i64 n37), (Value.int .i64 n38)]), (Value.int .i64 n39)] ∧
        wth (Array.push h35 (Obj.cells #[(Value.int .i64 (0 : Int)), (Value.int .i64 (0 : Int))] T_leaf_Move)) fun h40 =>
        stOk h40 (Addr.mk (Array.size h35) 0 none) 2 ∧ wth (wrs h40 (Addr.mk (Array.size h35) 0 none) 0 [(Value.int .i64 n37), (Value.int .i64 n38)]) fun h41 =>
        ∃ n42 : Int, rd h41 (Addr.add (Addr.mk (Array.size h2) 0 none) 0) = some (Value.int .i64 n42) ∧ ∃ n43 : Int, rd h41 (Addr.add (Addr.mk (Array.size h2) 0 none) 1) = some (Value.int .i64 n43) ∧ ∃ x44 : Nat, rd h41 (Addr.add (Addr.mk (Array.size h2) 0 none) 2) = some (Value.float .f64 x44) ∧ ∃ s45 : ByteArray, rd h41 (Addr.add (Addr.mk (Array.size h2) 0 none) 3) = some (Value.string s45) ∧ S_index_Index_Find p3 n42 n43 x44 s45 h41 fun (vs46 : List Value) (h47 : Hp) =>
        ∃ l48 : Sl, ∃ l49 : Sl, vs46 = [(Value.slice l48.a l48.n l48.c), (Value.slice l49.a l49.n l49.c)] ∧
        (if (n39 == (0 : Int)) = true then (∃ n50 : Int, rd h47 (Addr.add (Addr.mk (Array.size h35) 0 none) 0) = some (Value.int .i64 n50) ∧
            (if (n50 == (1 : Int)) = true then (∃ n51 : Int, rd h47 (Addr.add (Addr.mk (Array.size h35) 0 none) 1) = some (Value.int .i64 n51) ∧
                (if (n51 == (2 : Int)) = true then (wth (Array.push h47 (Obj.cells #[(Value.int .i64 (1 : Int)), (Value.int .i64 (3 : Int)), (Value.int .i64 (7 : Int))] T_int)) fun h52 =>
                    S_liverykeep_Ints ⟨l48.a, l48.n, l48.c⟩ ⟨(some (Addr.mk (Array.size h47) 0 none)), 3, 3⟩ h52 fun (vs53 : List Value) (h54 : Hp) =>
                    ∃ b55 : Bool, vs53 = [(Value.bool b55)] ∧
                    (if b55 = true then (wth (Array.push h54 (Obj.cells #[(Value.int .i64 (1 : Int)), (Value.int .i64 (2 : Int))] T_int)) fun h56 =>
                        S_liverykeep_Ints ⟨l49.a, l49.n, l49.c⟩ ⟨(some (Addr.mk (Array.size h54) 0 none)), 2, 2⟩ h56 fun (vs57 : List Value) (h58 : Hp) =>
                        ∃ b59 : Bool, vs57 = [(Value.bool b59)] ∧
                        (if b59 = true then (∃ n60 : Int, rd h58 (Addr.add (Addr.mk (Array.size h2) 0 none) 0) = some (Value.int .i64 n60) ∧ ∃ n61 : Int, rd h58 (Addr.add (Addr.mk (Array.size h2) 0 none) 1) = some (Value.int .i64 n61) ∧ ∃ x62 : Nat, rd h58 (Addr.add (Addr.mk (Array.size h2) 0 none) 2) = some (Value.float .f64 x62) ∧ ∃ s63 : ByteArray, rd h58 (Addr.add (Addr.mk (Array.size h2) 0 none) 3) = some (Value.string s63) ∧ S_index_Index_Has p3 n60 n61 x62 s63 (3 : Int) h58 fun (vs64 : List Value) (h65 : Hp) =>
                            ∃ b66 : Bool, vs64 = [(Value.bool b66)] ∧
                            (if b66 = true then (S_index_Index_Len p3 h65 fun (vs67 : List Value) (h68 : Hp) =>
                                ∃ n69 : Int, vs67 = [(Value.int .i64 n69)] ∧
                                Q [(Value.bool (n69 == (3 : Int)))] h68) else
                              (Q [(Value.bool false)] h65))) else
                          (Q [(Value.bool false)] h58))) else
                      (Q [(Value.bool false)] h54))) else
                  (Q [(Value.bool false)] h47))) else
              (Q [(Value.bool false)] h47))) else
          (Q [(Value.bool false)] h47))))) → J7 [(Value.bool b8)] h9) →
(if (n4 != (0 : Int)) = true then (J7 [(Value.bool true)] h6) else
  (J7 [(Value.bool (Option.isNone p3))] h6))
def A_liverylaw11_wakes : Ann := (.mk none ⟨[], []⟩ .nil (.mk none ⟨[], []⟩ .nil (.mk none ⟨[], []⟩ .nil (.mk none ⟨[], []⟩ (.mk none ⟨[], []⟩ (.mk (some ⟨[1, 3], [(19, (.c .bool))]⟩) ⟨[], []⟩ .nil .nil) .nil) .nil))))
theorem E_liverylaw11_wakes (h : Hp) (Q : List Value → Hp → Prop) : cw PP 71 (fun _ => []) (bodyOf Tryd.f8) A_liverylaw11_wakes (finQ PP (Tryd.f8.results.toList) Q) (argFr []) h = F_liverylaw11_wakes h Q := by kernel_rfl
theorem O_liverylaw11_wakes {h : Hp} {Q : List Value → Hp → Prop} (H : F_liverylaw11_wakes h Q) : S_liverylaw11_wakes h Q :=
  fn_of_cw (hs := (fun _ => [])) (ann := A_liverylaw11_wakes) (args := []) mixedPP Tryd.func8 (c := bodyOf Tryd.f8) (by kernel_rfl) (by kernel_rfl) (by kernel_rfl) (Eq.mpr (E_liverylaw11_wakes h Q) H)
def F_slices_Delete_sstring_string (g0_s : Sl) (g1_i : Int) (g2_j : Int) (h : Hp) (Q : List Value → Hp → Prop) : Prop :=
(0 ≤ g1_i ∧ g1_i ≤ g2_j ∧ g2_j ≤ (g0_s.n : Int) ∧ (g0_s.n : Int) ≤ (g0_s.c : Nat)) ∧ (if (g1_i == g2_j) = true then
  (Q [(Value.slice g0_s.a g0_s.n g0_s.c)] h) else
  ((0 ≤ g1_i ∧ g1_i ≤ (g0_s.c : Nat)) ∧ (0 ≤ g2_j ∧ g2_j ≤ (g0_s.n : Nat)) ∧ ∃ cs4 : List Value, cellsAt h (slAd g0_s.a (Int.toNat g2_j) g0_s.c 1) ((g0_s.n - (Int.toNat g2_j)) * 1) cs4 ∧ appS PP T_string 16 1 h ⟨(slAd g0_s.a 0 g0_s.c 1), ((Int.toNat g1_i) - 0), (g0_s.c - 0)⟩ (g0_s.n - (Int.toNat g2_j)) cs4 fun (l1 : Sl) (h2 : Hp) =>
    (0 ≤ (l1.n : Int) ∧ (l1.n : Int) ≤ (g0_s.n : Int) ∧ (g0_s.n : Int) ≤ (l1.c : Nat)) ∧ (List.all (Array.toList (zc PP T_string)) oneCell = true ∧ ∀ a : Addr, (slAd l1.a (Int.toNat (l1.n : Int)) l1.c 1) = some a → stOk h2 a (((Int.toNat (g0_s.n : Int)) - (Int.toNat (l1.n : Int))) * Array.size (zc PP T_string))) ∧ wth (cpHp h2 (if ((Int.toNat (g0_s.n : Int)) - (Int.toNat (l1.n : Int))) = 0 then none else (slAd l1.a (Int.toNat (l1.n : Int)) l1.c 1)) (Array.toList (Builtin.zeroCells (zc PP T_string) ((Int.toNat (g0_s.n : Int)) - (Int.toNat (l1.n : Int)))))) fun h3 =>
    Q [(Value.slice l1.a l1.n l1.c)] h3))
def A_slices_Delete_sstring_string : Ann := .nil
theorem E_slices_Delete_sstring_string (g0_s : Sl) (g1_i : Int) (g2_j : Int) (h : Hp) (Q : List Value → Hp → Prop) : cw PP 33 (fun _ => []) (bodyOf Tryd.f38) A_slices_Delete_sstring_string (finQ PP (Tryd.f38.results.toList) Q) (argFr [(Value.slice g0_s.a g0_s.n g0_s.c), (Value.int .i64 g1_i), (Value.int .i64 g2_j)]) h = F_slices_Delete_sstring_string g0_s g1_i g2_j h Q := by kernel_rfl
theorem O_slices_Delete_sstring_string (g0_s : Sl) (g1_i : Int) (g2_j : Int) {h : Hp} {Q : List Value → Hp → Prop} (H : F_slices_Delete_sstring_string g0_s g1_i g2_j h Q) : S_slices_Delete_sstring_string g0_s g1_i g2_j h Q :=
  fn_of_cw (hs := (fun _ => [])) (ann := A_slices_Delete_sstring_string) (args := [(Value.slice g0_s.a g0_s.n g0_s.c), (Value.int .i64 g1_i), (Value.int .i64 g2_j)]) mixedPP Tryd.func38 (c := bodyOf Tryd.f38) (by kernel_rfl) (by kernel_rfl) (by kernel_rfl) (Eq.mpr (E_slices_Delete_sstring_string g0_s g1_i g2_j h Q) H)
def F_slices_Delete_spleaf_one_pleaf_one (g0_s : Sl) (g1_i : Int) (g2_j : Int) (h : Hp) (Q : List Value → Hp → Prop) : Prop :=
(0 ≤ g1_i ∧ g1_i ≤ g2_j ∧ g2_j ≤ (g0_s.n : Int) ∧ (g0_s.n : Int) ≤ (g0_s.c : Nat)) ∧ (if (g1_i == g2_j) = true then
  (Q [(Value.slice g0_s.a g0_s.n g0_s.c)] h) else
  ((0 ≤ g1_i ∧ g1_i ≤ (g0_s.c : Nat)) ∧ (0 ≤ g2_j ∧ g2_j ≤ (g0_s.n : Nat)) ∧ ∃ cs4 : List Value, cellsAt h (slAd g0_s.a (Int.toNat g2_j) g0_s.c 1) ((g0_s.n - (Int.toNat g2_j)) * 1) cs4 ∧ appS PP T_pleaf_one 8 1 h ⟨(slAd g0_s.a 0 g0_s.c 1), ((Int.toNat g1_i) - 0), (g0_s.c - 0)⟩ (g0_s.n - (Int.toNat g2_j)) cs4 fun (l1 : Sl) (h2 : Hp) =>
    (0 ≤ (l1.n : Int) ∧ (l1.n : Int) ≤ (g0_s.n : Int) ∧ (g0_s.n : Int) ≤ (l1.c : Nat)) ∧ (List.all (Array.toList (zc PP T_pleaf_one)) oneCell = true ∧ ∀ a : Addr, (slAd l1.a (Int.toNat (l1.n : Int)) l1.c 1) = some a → stOk h2 a (((Int.toNat (g0_s.n : Int)) - (Int.toNat (l1.n : Int))) * Array.size (zc PP T_pleaf_one))) ∧ wth (cpHp h2 (if ((Int.toNat (g0_s.n : Int)) - (Int.toNat (l1.n : Int))) = 0 then none else (slAd l1.a (Int.toNat (l1.n : Int)) l1.c 1)) (Array.toList (Builtin.zeroCells (zc PP T_pleaf_one) ((Int.toNat (g0_s.n : Int)) - (Int.toNat (l1.n : Int)))))) fun h3 =>
    Q [(Value.slice l1.a l1.n l1.c)] h3))
def A_slices_Delete_spleaf_one_pleaf_one : Ann := .nil
theorem E_slices_Delete_spleaf_one_pleaf_one (g0_s : Sl) (g1_i : Int) (g2_j : Int) (h : Hp) (Q : List Value → Hp → Prop) : cw PP 33 (fun _ => []) (bodyOf Tryd.f39) A_slices_Delete_spleaf_one_pleaf_one (finQ PP (Tryd.f39.results.toList) Q) (argFr [(Value.slice g0_s.a g0_s.n g0_s.c), (Value.int .i64 g1_i), (Value.int .i64 g2_j)]) h = F_slices_Delete_spleaf_one_pleaf_one g0_s g1_i g2_j h Q := by kernel_rfl
theorem O_slices_Delete_spleaf_one_pleaf_one (g0_s : Sl) (g1_i : Int) (g2_j : Int) {h : Hp} {Q : List Value → Hp → Prop} (H : F_slices_Delete_spleaf_one_pleaf_one g0_s g1_i g2_j h Q) : S_slices_Delete_spleaf_one_pleaf_one g0_s g1_i g2_j h Q :=
  fn_of_cw (hs := (fun _ => [])) (ann := A_slices_Delete_spleaf_one_pleaf_one) (args := [(Value.slice g0_s.a g0_s.n g0_s.c), (Value.int .i64 g1_i), (Value.int .i64 g2_j)]) mixedPP Tryd.func39 (c := bodyOf Tryd.f39) (by kernel_rfl) (by kernel_rfl) (by kernel_rfl) (Eq.mpr (E_slices_Delete_spleaf_one_pleaf_one g0_s g1_i g2_j h Q) H)
def F_leaf_Leaves_Remove (g0_x : Option Addr) (g1_k : ByteArray) (h : Hp) (Q : List Value → Hp → Prop) : Prop :=
wth (Array.push h (Obj.cells #[(Value.int .i64 (0 : Int)), (Value.int .i64 (0 : Int))] T_leaf_Move)) fun h1 =>
(if (Option.isNone g0_x) = true then
  (stOk h1 (Addr.mk (Array.size h) 0 none) 2 ∧ wth (wrs h1 (Addr.mk (Array.size h) 0 none) 0 [(Value.int .i64 (0 : Int)), (Value.int .i64 (0 : Int))]) fun h2 =>
    ∃ n3 : Int, rd h2 (Addr.add (Addr.mk (Array.size h) 0 none) 0) = some (Value.int .i64 n3) ∧ ∃ n4 : Int, rd h2 (Addr.add (Addr.mk (Array.size h) 0 none) 1) = some (Value.int .i64 n4) ∧ Q [(Value.int .i64 (0 : Int)), (Value.agg #[(Value.int .i64 n3), (Value.int .i64 n4)]), (Value.int .i64 (1 : Int))] h2) else
  (S_leaf_Leaves_at g0_x g1_k h1 fun (vs5 : List Value) (h6 : Hp) =>
    ∃ n7 : Int, vs5 = [(Value.int .i64 n7)] ∧
    nilW g0_x fun a8 => ∃ l9 : Sl, rd h6 (Addr.add a8 1) = some (Value.slice l9.a l9.n l9.c) ∧
    nilW l9.a fun a10 => ixOk n7 l9.n (∃ p11 : Option Addr, rd h6 (Addr.add a10 (Int.toNat n7 * 1)) = some (Value.pointer p11) ∧
      nilW p11 fun a12 => ∃ l13 : Sl, rd h6 (Addr.add a12 2) = some (Value.slice l13.a l13.n l13.c) ∧
      S_slices_BinarySearch_sstring_string ⟨l13.a, l13.n, l13.c⟩ g1_k h6 fun (vs14 : List Value) (h15 : Hp) =>
      ∃ n16 : Int, ∃ b17 : Bool, vs14 = [(Value.int .i64 n16), (Value.bool b17)] ∧
      (if (!b17) = true then
        (stOk h15 (Addr.mk (Array.size h) 0 none) 2 ∧ wth (wrs h15 (Addr.mk (Array.size h) 0 none) 0 [(Value.int .i64 (0 : Int)), (Value.int .i64 (0 : Int))]) fun h18 =>
          ∃ n19 : Int, rd h18 (Addr.add (Addr.mk (Array.size h) 0 none) 0) = some (Value.int .i64 n19) ∧ ∃ n20 : Int, rd h18 (Addr.add (Addr.mk (Array.size h) 0 none) 1) = some (Value.int .i64 n20) ∧ Q [(Value.int .i64 (0 : Int)), (Value.agg #[(Value.int .i64 n19), (Value.int .i64 n20)]), (Value.int .i64 (60 : Int))] h18) else
        (nilW p11 fun a21 => ∃ l22 : Sl, rd h15 (Addr.add a21 2) = some (Value.slice l22.a l22.n l22.c) ∧
          S_slices_Delete_sstring_string ⟨l22.a, l22.n, l22.c⟩ n16 (IntKind.wrap .i64 (n16 + (1 : Int))) h15 fun (vs23 : List Value) (h24 : Hp) =>
          ∃ l25 : Sl, vs23 = [(Value.slice l25.a l25.n l25.c)] ∧
          nilW p11 fun a26 => stOk h24 (Addr.add a26 2) 1 ∧ wth (wrs h24 (Addr.add a26 2) 0 [(Value.slice l25.a l25.n l25.c)]) fun h27 =>
          ∀ J28 : List Value → Hp → Prop, (∀ b29 : Bool, ∀ h30 : Hp, ((if b29 = true then
                (nilW p11 fun a31 => ∃ n32 : Int, rd h30 (Addr.add a31 0) = some (Value.int .i64 n32) ∧
                  stOk h30 (Addr.mk (Array.size h) 0 none) 2 ∧ wth (wrs h30 (Addr.mk (Array.size h) 0 none) 0 [(Value.int .i64 (0 : Int)), (Value.int .i64 (0 : Int))]) fun h33 =>
                  ∃ n34 : Int, rd h33 (Addr.add (Addr.mk (Array.size h) 0 none) 0) = some (Value.int .i64 n34) ∧ ∃ n35 : Int, rd h33 (Addr.add (Addr.mk (Array.size h) 0 none) 1) = some (Value.int .i64 n35) ∧ Q [(Value.int .i64 n32), (Value.agg #[(Value.int .i64 n34), (Value.int .i64 n35)]), (Value.int .i64 (0 : Int))] h33) else
                (nilW g0_x fun a36 => ∃ l37 : Sl, rd h30 (Addr.add a36 1) = some (Value.slice l37.a l37.n l37.c) ∧
                  S_slices_Delete_spleaf_one_pleaf_one ⟨l37.a, l37.n, l37.c⟩ n7 (IntKind.wrap .i64 (n7 + (1 : Int))) h30 fun (vs38 : List Value) (h39 : Hp) =>
                  ∃ l40 : Sl, vs38 = [(Value.slice l40.a l40.n l40.c)] ∧
                  nilW g0_x fun a41 => stOk h39 (Addr.add a41 1) 1 ∧ wth (wrs h39 (Addr.add a41 1) 0 [(Value.slice l40.a l40.n l40.c)]) fun h42 =>
                  nilW p11 fun a43 => ∃ n44 : Int, rd h42 (Addr.add a43 0) = some (Value.int .i64 n44) ∧
                  nilW p11 fun a45 => ∃ n46 : Int, rd h42 (Addr.add a45 0) = some (Value.int .i64 n46) ∧
                  nilW g0_x fun a47 => ∃ l48 : Sl, rd h42 (Addr.add a47 1) = some (Value.slice l48.a l48.n l48.c) ∧
                  nilW l48.a fun a49 => ixOk (mxI (IntKind.wrap .i64 (n7 - (1 : Int))) (0 : Int)) l48.n (∃ p50 : Option Addr, rd h42 (Addr.add a49 (Int.toNat (mxI (IntKind.wrap .i64 (n7 - (1 : Int))) (0 : Int)) * 1)) = some (Value.pointer p50) ∧
                    nilW p50 fun a51 => ∃ n52 : Int, rd h42 (Addr.add a51 0) = some (Value.int .i64 n52) ∧
                    stOk h42 (Addr.mk (Array.size h) 0 none) 2 ∧ wth (wrs h42 (Addr.mk (Array.size h) 0 none) 0 [(Value.int .i64 n46), (Value.int .i64 n52)]) fun h53 =>
                    ∃ n54 : Int, rd h53 (Addr.add (Addr.mk (Array.size h) 0 none) 0) = some (Value.int .i64 n54) ∧ ∃ n55 : Int, rd h53 (Addr.add (Addr.mk (Array.size h) 0 none) 1) = some (Value.int .i64 n55) ∧ Q [(Value.int .i64 n44), (Value.agg #[(Value.int .i64 n54), (Value.int .i64 n55)]), (Value.int .i64 (0 : Int))] h53)))) → J28 [(Value.bool b29)] h30) →
          nilW p11 fun a56 => ∃ l57 : Sl, rd h27 (Addr.add a56 2) = some (Value.slice l57.a l57.n l57.c) ∧
          (if (decide ((l57.n : Int) > (0 : Int))) = true then (J28 [(Value.bool true)] h27) else
            (nilW g0_x fun a58 => ∃ l59 : Sl, rd h27 (Addr.add a58 1) = some (Value.slice l59.a l59.n l59.c) ∧
              J28 [(Value.bool ((l59.n : Int) == (1 : Int)))] h27)))))))
def A_leaf_Leaves_Remove : Ann := (.mk none ⟨[], []⟩ .nil (.mk none ⟨[], []⟩ .nil (.mk none ⟨[], []⟩ .nil (.mk none ⟨[], []⟩ .nil (.mk none ⟨[], []⟩ .nil (.mk none ⟨[], []⟩ .nil (.mk none ⟨[], []⟩ .nil (.mk none ⟨[], []⟩ (.mk none ⟨[], []⟩ (.mk (some ⟨[0, 5, 7, 8], [(60, (.c .bool))]⟩) ⟨[], []⟩ .nil .nil) .nil) .nil))))))))
theorem E_leaf_Leaves_Remove (g0_x : Option Addr) (g1_k : ByteArray) (h : Hp) (Q : List Value → Hp → Prop) : cw PP 98 (fun _ => []) (bodyOf Tryd.f23) A_leaf_Leaves_Remove (finQ PP (Tryd.f23.results.toList) Q) (argFr [(Value.pointer g0_x), (Value.string g1_k)]) h = F_leaf_Leaves_Remove g0_x g1_k h Q := by kernel_rfl
theorem O_leaf_Leaves_Remove (g0_x : Option Addr) (g1_k : ByteArray) {h : Hp} {Q : List Value → Hp → Prop} (H : F_leaf_Leaves_Remove g0_x g1_k h Q) : S_leaf_Leaves_Remove g0_x g1_k h Q :=
  fn_of_cw (hs := (fun _ => [])) (ann := A_leaf_Leaves_Remove) (args := [(Value.pointer g0_x), (Value.string g1_k)]) mixedPP Tryd.func23 (c := bodyOf Tryd.f23) (by kernel_rfl) (by kernel_rfl) (by kernel_rfl) (Eq.mpr (E_leaf_Leaves_Remove g0_x g1_k h Q) H)
def F_index_Index_Drop (g0_x : Option Addr) (g1_v_0 : Int) (g1_v_1 : Int) (g1_v_2 : Nat) (g1_v_3 : ByteArray) (g2_tid : Int) (h : Hp) (Q : List Value → Hp → Prop) : Prop :=
wth (Array.push h (Obj.cells #[(Value.int .i64 g1_v_0), (Value.int .i64 g1_v_1), (Value.float .f64 g1_v_2), (Value.string g1_v_3)] T_api_Value)) fun h1 =>
wth (Array.push h1 (Obj.cells #[(Value.int .i64 (0 : Int)), (Value.int .i64 (0 : Int))] T_leaf_Move)) fun h2 =>
(if (Option.isNone g0_x) = true then
  (stOk h2 (Addr.mk (Array.size h1) 0 none) 2 ∧ wth (wrs h2 (Addr.mk (Array.size h1) 0 none) 0 [(Value.int .i64 (0 : Int)), (Value.int .i64 (0 : Int))]) fun h3 =>
    ∃ n4 : Int, rd h3 (Addr.add (Addr.mk (Array.size h1) 0 none) 0) = some (Value.int .i64 n4) ∧ ∃ n5 : Int, rd h3 (Addr.add (Addr.mk (Array.size h1) 0 none) 1) = some (Value.int .i64 n5) ∧ Q [(Value.int .i64 (0 : Int)), (Value.agg #[(Value.int .i64 n4), (Value.int .i64 n5)]), (Value.int .i64 (1 : Int))] h3) else
  (∃ n6 : Int, rd h2 (Addr.add (Addr.mk (Array.size h) 0 none) 0) = some (Value.int .i64 n6) ∧ ∃ n7 : Int, rd h2 (Addr.add (Addr.mk (Array.size h) 0 none) 1) = some (Value.int .i64 n7) ∧ ∃ x8 : Nat, rd h2 (Addr.add (Addr.mk (Array.size h) 0 none) 2) = some (Value.float .f64 x8) ∧ ∃ s9 : ByteArray, rd h2 (Addr.add (Addr.mk (Array.size h) 0 none) 3) = some (Value.string s9) ∧ S_key_Entry n6 n7 x8 s9 g2_tid h2 fun (vs10 : List Value) (h11 : Hp) =>
    ∃ s12 : ByteArray, ∃ n13 : Int, vs10 = [(Value.string s12), (Value.int .i64 n13)] ∧
    (if (n13 != (0 : Int)) = true then
      (stOk h11 (Addr.mk (Array.size h1) 0 none) 2 ∧ wth (wrs h11 (Addr.mk (Array.size h1) 0 none) 0 [(Value.int .i64 (0 : Int)), (Value.int .i64 (0 : Int))]) fun h14 =>
        ∃ n15 : Int, rd h14 (Addr.add (Addr.mk (Array.size h1) 0 none) 0) = some (Value.int .i64 n15) ∧ ∃ n16 : Int, rd h14 (Addr.add (Addr.mk (Array.size h1) 0 none) 1) = some (Value.int .i64 n16) ∧ Q [(Value.int .i64 (0 : Int)), (Value.agg #[(Value.int .i64 n15), (Value.int .i64 n16)]), (Value.int .i64 n13)] h14) else
      (nilW g0_x fun a17 => ∃ p18 : Option Addr, rd h11 (Addr.add a17 0) = some (Value.pointer p18) ∧
        S_leaf_Leaves_Remove p18 s12 h11 fun (vs19 : List Value) (h20 : Hp) =>
        ∃ n21 : Int, ∃ n22 : Int, ∃ n23 : Int, ∃ n24 : Int, vs19 = [(Value.int .i64 n21), (Value.agg #[(Value.int .i64 n22), (Value.int .i64 n23)]), (Value.int .i64 n24)] ∧
        stOk h20 (Addr.mk (Array.size h1) 0 none) 2 ∧ wth (wrs h20 (Addr.mk (Array.size h1) 0 none) 0 [(Value.int .i64 n22), (Value.int .i64 n23)]) fun h25 =>
        ∃ n26 : Int, rd h25 (Addr.add (Addr.mk (Array.size h1) 0 none) 0) = some (Value.int .i64 n26) ∧ ∃ n27 : Int, rd h25 (Addr.add (Addr.mk (Array.size h1) 0 none) 1) = some (Value.int .i64 n27) ∧ Q [(Value.int .i64 n21), (Value.agg #[(Value.int .i64 n26), (Value.int .i64 n27)]), (Value.int .i64 n24)] h25))))
def A_index_Index_Drop : Ann := .nil
theorem E_index_Index_Drop (g0_x : Option Addr) (g1_v_0 : Int) (g1_v_1 : Int) (g1_v_2 : Nat) (g1_v_3 : ByteArray) (g2_tid : Int) (h : Hp) (Q : List Value → Hp → Prop) : cw PP 33 (fun _ => []) (bodyOf Tryd.f9) A_index_Index_Drop (finQ PP (Tryd.f9.results.toList) Q) (argFr [(Value.pointer g0_x), (Value.agg #[(Value.int .i64 g1_v_0), (Value.int .i64 g1_v_1), (Value.float .f64 g1_v_2), (Value.string g1_v_3)]), (Value.int .i64 g2_tid)]) h = F_index_Index_Drop g0_x g1_v_0 g1_v_1 g1_v_2 g1_v_3 g2_tid h Q := by kernel_rfl
theorem O_index_Index_Drop (g0_x : Option Addr) (g1_v_0 : Int) (g1_v_1 : Int) (g1_v_2 : Nat) (g1_v_3 : ByteArray) (g2_tid : Int) {h : Hp} {Q : List Value → Hp → Prop} (H : F_index_Index_Drop g0_x g1_v_0 g1_v_1 g1_v_2 g1_v_3 g2_tid h Q) : S_index_Index_Drop g0_x g1_v_0 g1_v_1 g1_v_2 g1_v_3 g2_tid h Q :=
  fn_of_cw (hs := (fun _ => [])) (ann := A_index_Index_Drop) (args := [(Value.pointer g0_x), (Value.agg #[(Value.int .i64 g1_v_0), (Value.int .i64 g1_v_1), (Value.float .f64 g1_v_2), (Value.string g1_v_3)]), (Value.int .i64 g2_tid)]) mixedPP Tryd.func9 (c := bodyOf Tryd.f9) (by kernel_rfl) (by kernel_rfl) (by kernel_rfl) (Eq.mpr (E_index_Index_Drop g0_x g1_v_0 g1_v_1 g1_v_2 g1_v_3 g2_tid h Q) H)
def F_index_Index_Range (g0_x : Option Addr) (g1_v_0 : Int) (g1_v_1 : Int) (g1_v_2 : Nat) (g1_v_3 : ByteArray) (g2_w_0 : Int) (g2_w_1 : Int) (g2_w_2 : Nat) (g2_w_3 : ByteArray) (h : Hp) (Q : List Value → Hp → Prop) : Prop :=
wth (Array.push h (Obj.cells #[(Value.int .i64 g1_v_0), (Value.int .i64 g1_v_1), (Value.float .f64 g1_v_2), (Value.string g1_v_3)] T_api_Value)) fun h1 =>
wth (Array.push h1 (Obj.cells #[(Value.int .i64 g2_w_0), (Value.int .i64 g2_w_1), (Value.float .f64 g2_w_2), (Value.string g2_w_3)] T_api_Value)) fun h2 =>
∃ n3 : Int, rd h2 (Addr.add (Addr.mk (Array.size h) 0 none) 0) = some (Value.int .i64 n3) ∧ ∃ n4 : Int, rd h2 (Addr.add (Addr.mk (Array.size h) 0 none) 1) = some (Value.int .i64 n4) ∧ ∃ x5 : Nat, rd h2 (Addr.add (Addr.mk (Array.size h) 0 none) 2) = some (Value.float .f64 x5) ∧ ∃ s6 : ByteArray, rd h2 (Addr.add (Addr.mk (Array.size h) 0 none) 3) = some (Value.string s6) ∧ S_key_Least n3 n4 x5 s6 h2 fun (vs7 : List Value) (h8 : Hp) =>
∃ s9 : ByteArray, ∃ n10 : Int, vs7 = [(Value.string s9), (Value.int .i64 n10)] ∧
∃ n11 : Int, rd h8 (Addr.add (Addr.mk (Array.size h1) 0 none) 0) = some (Value.int .i64 n11) ∧ ∃ n12 : Int, rd h8 (Addr.add (Addr.mk (Array.size h1) 0 none) 1) = some (Value.int .i64 n12) ∧ ∃ x13 : Nat, rd h8 (Addr.add (Addr.mk (Array.size h1) 0 none) 2) = some (Value.float .f64 x13) ∧ ∃ s14 : ByteArray, rd h8 (Addr.add (Addr.mk (Array.size h1) 0 none) 3) = some (Value.string s14) ∧ S_key_Least n11 n12 x13 s14 h8 fun (vs15 : List Value) (h16 : Hp) =>
∃ s17 : ByteArray, ∃ n18 : Int, vs15 = [(Value.string s17), (Value.int .i64 n18)] ∧
∀ J19 : List Value → Hp → Prop, (∀ b20 : Bool, ∀ h21 : Hp, ((if b20 = true then
      (Q [(Value.slice none 0 0), (Value.slice none 0 0)] h21) else
      (S_index_Index_between g0_x s9 s17 h21 fun (vs22 : List Value) (h23 : Hp) =>
        ∃ l24 : Sl, ∃ l25 : Sl, vs22 = [(Value.slice l24.a l24.n l24.c), (Value.slice l25.a l25.n l25.c)] ∧
        Q [(Value.slice l24.a l24.n l24.c), (Value.slice l25.a l25.n l25.c)] h23))) → J19 [(Value.bool b20)] h21) →
(if (Option.isNone g0_x) = true then (J19 [(Value.bool true)] h16) else
  ((if (n10 != (0 : Int)) = true then (J19 [(Value.bool true)] h16) else
      (J19 [(Value.bool (n18 != (0 : Int)))] h16))))
def A_index_Index_Range : Ann := (.mk none ⟨[], []⟩ .nil (.mk none ⟨[], []⟩ .nil (.mk none ⟨[], []⟩ .nil (.mk none ⟨[], []⟩ (.mk none ⟨[], []⟩ (.mk (some ⟨[0, 8, 10], [(31, (.c .bool))]⟩) ⟨[], []⟩ .nil .nil) .nil) .nil))))
theorem E_index_Index_Range (g0_x : Option Addr) (g1_v_0 : Int) (g1_v_1 : Int) (g1_v_2 : Nat) (g1_v_3 : ByteArray) (g2_w_0 : Int) (g2_w_1 : Int) (g2_w_2 : Nat) (g2_w_3 : ByteArray) (h : Hp) (Q : List Value → Hp → Prop) : cw PP 38 (fun _ => []) (bodyOf Tryd.f11) A_index_Index_Range (finQ PP (Tryd.f11.results.toList) Q) (argFr [(Value.pointer g0_x), (Value.agg #[(Value.int .i64 g1_v_0), (Value.int .i64 g1_v_1), (Value.float .f64 g1_v_2), (Value.string g1_v_3)]), (Value.agg #[(Value.int .i64 g2_w_0), (Value.int .i64 g2_w_1), (Value.float .f64 g2_w_2), (Value.string g2_w_3)])]) h = F_index_Index_Range g0_x g1_v_0 g1_v_1 g1_v_2 g1_v_3 g2_w_0 g2_w_1 g2_w_2 g2_w_3 h Q := by kernel_rfl
theorem O_index_Index_Range (g0_x : Option Addr) (g1_v_0 : Int) (g1_v_1 : Int) (g1_v_2 : Nat) (g1_v_3 : ByteArray) (g2_w_0 : Int) (g2_w_1 : Int) (g2_w_2 : Nat) (g2_w_3 : ByteArray) {h : Hp} {Q : List Value → Hp → Prop} (H : F_index_Index_Range g0_x g1_v_0 g1_v_1 g1_v_2 g1_v_3 g2_w_0 g2_w_1 g2_w_2 g2_w_3 h Q) : S_index_Index_Range g0_x g1_v_0 g1_v_1 g1_v_2 g1_v_3 g2_w_0 g2_w_1 g2_w_2 g2_w_3 h Q :=
  fn_of_cw (hs := (fun _ => [])) (ann := A_index_Index_Range) (args := [(Value.pointer g0_x), (Value.agg #[(Value.int .i64 g1_v_0), (Value.int .i64 g1_v_1), (Value.float .f64 g1_v_2), (Value.string g1_v_3)]), (Value.agg #[(Value.int .i64 g2_w_0), (Value.int .i64 g2_w_1), (Value.float .f64 g2_w_2), (Value.string g2_w_3)])]) mixedPP Tryd.func11 (c := bodyOf Tryd.f11) (by kernel_rfl) (by kernel_rfl) (by kernel_rfl) (Eq.mpr (E_index_Index_Range g0_x g1_v_0 g1_v_1 g1_v_2 g1_v_3 g2_w_0 g2_w_1 g2_w_2 g2_w_3 h Q) H)
def F_liverylaw11_IndexParts (g0_l : Sl) (g1_n_0 : Int) (g1_n_1 : Int) (g1_n_2 : Int) (h : Hp) (Q : List Value → Hp → Prop) : Prop :=
wth (Array.push h (Obj.cells #[(Value.int .i8 g1_n_0), (Value.int .i8 g1_n_1), (Value.int .i8 g1_n_2)] T_3_int8)) fun h1 =>
S_index_New (3 : Int) h1 fun (vs2 : List Value) (h3 : Hp) =>
∃ p4 : Option Addr, ∃ n5 : Int, vs2 = [(Value.pointer p4), (Value.int .i64 n5)] ∧
∀ J6 : List Value → Hp → Prop, (∀ b7 : Bool, ∀ h8 : Hp, ((if b7 = true then
      (∀ J9 : List Value → Hp → Prop, (∀ b10 : Bool, ∀ h11 : Hp, (Q [(Value.bool b10)] h11) → J9 [(Value.bool b10)] h11) →
        (if (n5 == (0 : Int)) = true then (S_liverylaw11_wakes  h8 fun (vs12 : List Value) (h13 : Hp) =>
            ∃ b14 : Bool, vs12 = [(Value.bool b14)] ∧
            J9 [(Value.bool b14)] h13) else
          (J9 [(Value.bool false)] h8))) else
      (∀ X15 : List Value → Hp → Prop, (∀ n16 : Int, ∀ h17 : Hp, ((if (decide (n16 < (g0_l.n : Int))) = true then
              (∀ J18 : List Value → Hp → Prop, (∀ h19 : Hp, (X15 [(Value.int .i64 (IntKind.wrap .i64 (n16 + (1 : Int))))] h19) → J18 [] h19) →
                nilW g0_l.a fun a20 => ixOk n16 g0_l.n (∃ n21 : Int, rd h17 (Addr.add (Addr.add a20 (Int.toNat n16 * 10)) 0) = some (Value.int .i64 n21) ∧
                  (if (n21 == (1 : Int)) = true then
                    (nilW g0_l.a fun a22 => ixOk n16 g0_l.n (∃ n23 : Int, rd h17 (Addr.add (Addr.add (Addr.add a22 (Int.toNat n16 * 10)) 2) 0) = some (Value.int .i64 n23) ∧ ∃ n24 : Int, rd h17 (Addr.add (Addr.add (Addr.add a22 (Int.toNat n16 * 10)) 2) 1) = some (Value.int .i64 n24) ∧ ∃ x25 : Nat, rd h17 (Addr.add (Addr.add (Addr.add a22 (Int.toNat n16 * 10)) 2) 2) = some (Value.float .f64 x25) ∧ ∃ s26 : ByteArray, rd h17 (Addr.add (Addr.add (Addr.add a22 (Int.toNat n16 * 10)) 2) 3) = some (Value.string s26) ∧ nilW g0_l.a fun a27 => ixOk n16 g0_l.n (∃ n28 : Int, rd h17 (Addr.add (Addr.add a27 (Int.toNat n16 * 10)) 1) = some (Value.int .i64 n28) ∧
                          S_index_Index_Drop p4 n23 n24 x25 s26 n28 h17 fun (vs29 : List Value) (h30 : Hp) =>
                          ∃ n31 : Int, ∃ n32 : Int, ∃ n33 : Int, ∃ n34 : Int, vs29 = [(Value.int .i64 n31), (Value.agg #[(Value.int .i64 n32), (Value.int .i64 n33)]), (Value.int .i64 n34)] ∧
                          J18 [] h30))) else
                    (nilW g0_l.a fun a35 => ixOk n16 g0_l.n (∃ n36 : Int, rd h17 (Addr.add (Addr.add (Addr.add a35 (Int.toNat n16 * 10)) 2) 0) = some (Value.int .i64 n36) ∧ ∃ n37 : Int, rd h17 (Addr.add (Addr.add (Addr.add a35 (Int.toNat n16 * 10)) 2) 1) = some (Value.int .i64 n37) ∧ ∃ x38 : Nat, rd h17 (Addr.add (Addr.add (Addr.add a35 (Int.toNat n16 * 10)) 2) 2) = some (Value.float .f64 x38) ∧ ∃ s39 : ByteArray, rd h17 (Addr.add (Addr.add (Addr.add a35 (Int.toNat n16 * 10)) 2) 3) = some (Value.string s39) ∧ nilW g0_l.a fun a40 => ixOk n16 g0_l.n (∃ n41 : Int, rd h17 (Addr.add (Addr.add a40 (Int.toNat n16 * 10)) 1) = some (Value.int .i64 n41) ∧
                          S_index_Index_Add p4 n36 n37 x38 s39 n41 h17 fun (vs42 : List Value) (h43 : Hp) =>
                          ∃ n44 : Int, ∃ n45 : Int, ∃ n46 : Int, ∃ n47 : Int, vs42 = [(Value.int .i64 n44), (Value.agg #[(Value.int .i64 n45), (Value.int .i64 n46)]), (Value.int .i64 n47)] ∧
                          J18 [] h43)))))) else
              (ixOk (0 : Int) 3 (∃ n48 : Int, rd h17 (Addr.add (Addr.mk (Array.size h) 0 none) (Int.toNat (0 : Int) * 1)) = some (Value.int .i8 n48) ∧
                  ixOk (1 : Int) 3 (∃ n49 : Int, rd h17 (Addr.add (Addr.mk (Array.size h) 0 none) (Int.toNat (1 : Int) * 1)) = some (Value.int .i8 n49) ∧
                    ixOk (2 : Int) 3 (∃ n50 : Int, rd h17 (Addr.add (Addr.mk (Array.size h) 0 none) (Int.toNat (2 : Int) * 1)) = some (Value.int .i8 n50) ∧
                      ixOk (0 : Int) 3 (∃ n51 : Int, rd h17 (Addr.add (Addr.mk (Array.size h) 0 none) (Int.toNat (0 : Int) * 1)) = some (Value.int .i8 n51) ∧
                        ixOk (1 : Int) 3 (∃ n52 : Int, rd h17 (Addr.add (Addr.mk (Array.size h) 0 none) (Int.toNat (1 : Int) * 1)) = some (Value.int .i8 n52) ∧
                          ixOk (2 : Int) 3 (∃ n53 : Int, rd h17 (Addr.add (Addr.mk (Array.size h) 0 none) (Int.toNat (2 : Int) * 1)) = some (Value.int .i8 n53) ∧
                            ixOk (0 : Int) 3 (∃ n54 : Int, rd h17 (Addr.add (Addr.mk (Array.size h) 0 none) (Int.toNat (0 : Int) * 1)) = some (Value.int .i8 n54) ∧
                              ixOk (1 : Int) 3 (∃ n55 : Int, rd h17 (Addr.add (Addr.mk (Array.size h) 0 none) (Int.toNat (1 : Int) * 1)) = some (Value.int .i8 n55) ∧
                                ixOk (2 : Int) 3 (∃ n56 : Int, rd h17 (Addr.add (Addr.mk (Array.size h) 0 none) (Int.toNat (2 : Int) * 1)) = some (Value.int .i8 n56) ∧
                                  wth (Array.push h17 (Obj.cells #[(Value.int .i64 (0 : Int)), (Value.int .i64 (0 : Int)), (Value.float .f64 0), (Value.string (ByteArray.mk #[])), (Value.int .i64 (0 : Int)), (Value.int .i64 (0 : Int)), (Value.float .f64 0), (Value.string (ByteArray.mk #[])), (Value.int .i64 (0 : Int)), (Value.int .i64 (0 : Int)), (Value.float .f64 0), (Value.string (ByteArray.mk #[]))] T_3_api_Value)) fun h57 =>
                                  stOk h57 (Addr.mk (Array.size h17) 0 none) 12 ∧ wth (wrs h57 (Addr.mk (Array.size h17) 0 none) 0 [(Value.int .i64 (2 : Int)), (Value.int .i64 (IntKind.wrap .i64 (mnI (mnI n48 n49) n50))), (Value.float .f64 0), (Value.string (ByteArray.mk #[])), (Value.int .i64 (2 : Int)), (Value.int .i64 (IntKind.wrap .i64 ((IntKind.wrap .i64 ((IntKind.wrap .i64 ((IntKind.wrap .i64 ((IntKind.wrap .i64 n51) + (IntKind.wrap .i64 n52))) + (IntKind.wrap .i64 n53))) - (IntKind.wrap .i64 (mnI (mnI n48 n49) n50)))) - (IntKind.wrap .i64 (mxI (mxI n54 n55) n56))))), (Value.float .f64 0), (Value.string (ByteArray.mk #[])), (Value.int .i64 (2 : Int)), (Value.int .i64 (IntKind.wrap .i64 (mxI (mxI n54 n55) n56))), (Value.float .f64 0), (Value.string (ByteArray.mk #[]))]) fun h58 =>
                                  ixOk (0 : Int) 3 (∃ n59 : Int, rd h58 (Addr.add (Addr.add (Addr.mk (Array.size h17) 0 none) (Int.toNat (0 : Int) * 4)) 0) = some (Value.int .i64 n59) ∧ ∃ n60 : Int, rd h58 (Addr.add (Addr.add (Addr.mk (Array.size h17) 0 none) (Int.toNat (0 : Int) * 4)) 1) = some (Value.int .i64 n60) ∧ ∃ x61 : Nat, rd h58 (Addr.add (Addr.add (Addr.mk (Array.size h17) 0 none) (Int.toNat (0 : Int) * 4)) 2) = some (Value.float .f64 x61) ∧ ∃ s62 : ByteArray, rd h58 (Addr.add (Addr.add (Addr.mk (Array.size h17) 0 none) (Int.toNat (0 : Int) * 4)) 3) = some (Value.string s62) ∧ ixOk (2 : Int) 3 (∃ n63 : Int, rd h58 (Addr.add (Addr.add (Addr.mk (Array.size h17) 0 none) (Int.toNat (2 : Int) * 4)) 0) = some (Value.int .i64 n63) ∧ ∃ n64 : Int, rd h58 (Addr.add (Addr.add (Addr.mk (Array.size h17) 0 none) (Int.toNat (2 : Int) * 4)) 1) = some (Value.int .i64 n64) ∧ ∃ x65 : Nat, rd h58 (Addr.add (Addr.add (Addr.mk (Array.size h17) 0 none) (Int.toNat (2 : Int) * 4)) 2) = some (Value.float .f64 x65) ∧ ∃ s66 : ByteArray, rd h58 (Addr.add (Addr.add (Addr.mk (Array.size h17) 0 none) (Int.toNat (2 : Int) * 4)) 3) = some (Value.string s66) ∧ S_index_Index_Range p4 n59 n60 x61 s62 n63 n64 x65 s66 h58 fun (vs67 : List Value) (h68 : Hp) =>
                                      ∃ l69 : Sl, ∃ l70 : Sl, vs67 = [(Value.slice l69.a l69.n l69.c), (Value.slice l70.a l70.n l70.c)] ∧
                                      ixOk (0 : Int) 3 (∃ n71 : Int, rd h68 (Addr.add (Addr.add (Addr.mk (Array.size h17) 0 none) (Int.toNat (0 : Int) * 4)) 0) = some (Value.int .i64 n71) ∧ ∃ n72 : Int, rd h68 (Addr.add (Addr.add (Addr.mk (Array.size h17) 0 none) (Int.toNat (0 : Int) * 4)) 1) = some (Value.int .i64 n72) ∧ ∃ x73 : Nat, rd h68 (Addr.add (Addr.add (Addr.mk (Array.size h17) 0 none) (Int.toNat (0 : Int) * 4)) 2) = some (Value.float .f64 x73) ∧ ∃ s74 : ByteArray, rd h68 (Addr.add (Addr.add (Addr.mk (Array.size h17) 0 none) (Int.toNat (0 : Int) * 4)) 3) = some (Value.string s74) ∧ ixOk (1 : Int) 3 (∃ n75 : Int, rd h68 (Addr.add (Addr.add (Addr.mk (Array.size h17) 0 none) (Int.toNat (1 : Int) * 4)) 0) = some (Value.int .i64 n75) ∧ ∃ n76 : Int, rd h68 (Addr.add (Addr.add (Addr.mk (Array.size h17) 0 none) (Int.toNat (1 : Int) * 4)) 1) = some (Value.int .i64 n76) ∧ ∃ x77 : Nat, rd h68 (Addr.add (Addr.add (Addr.mk (Array.size h17) 0 none) (Int.toNat (1 : Int) * 4)) 2) = some (Value.float .f64 x77) ∧ ∃ s78 : ByteArray, rd h68 (Addr.add (Addr.add (Addr.mk (Array.size h17) 0 none) (Int.toNat (1 : Int) * 4)) 3) = some (Value.string s78) ∧ S_index_Index_Range p4 n71 n72 x73 s74 n75 n76 x77 s78 h68 fun (vs79 : List Value) (h80 : Hp) =>
                                          ∃ l81 : Sl, ∃ l82 : Sl, vs79 = [(Value.slice l81.a l81.n l81.c), (Value.slice l82.a l82.n l82.c)] ∧
                                          ixOk (1 : Int) 3 (∃ n83 : Int, rd h80 (Addr.add (Addr.add (Addr.mk (Array.size h17) 0 none) (Int.toNat (1 : Int) * 4)) 0) = some (Value.int .i64 n83) ∧ ∃ n84 : Int, rd h80 (Addr.add (Addr.add (Addr.mk (Array.size h17) 0 none) (Int.toNat (1 : Int) * 4)) 1) = some (Value.int .i64 n84) ∧ ∃ x85 : Nat, rd h80 (Addr.add (Addr.add (Addr.mk (Array.size h17) 0 none) (Int.toNat (1 : Int) * 4)) 2) = some (Value.float .f64 x85) ∧ ∃ s86 : ByteArray, rd h80 (Addr.add (Addr.add (Addr.mk (Array.size h17) 0 none) (Int.toNat (1 : Int) * 4)) 3) = some (Value.string s86) ∧ ixOk (2 : Int) 3 (∃ n87 : Int, rd h80 (Addr.add (Addr.add (Addr.mk (Array.size h17) 0 none) (Int.toNat (2 : Int) * 4)) 0) = some (Value.int .i64 n87) ∧ ∃ n88 : Int, rd h80 (Addr.add (Addr.add (Addr.mk (Array.size h17) 0 none) (Int.toNat (2 : Int) * 4)) 1) = some (Value.int .i64 n88) ∧ ∃ x89 : Nat, rd h80 (Addr.add (Addr.add (Addr.mk (Array.size h17) 0 none) (Int.toNat (2 : Int) * 4)) 2) = some (Value.float .f64 x89) ∧ ∃ s90 : ByteArray, rd h80 (Addr.add (Addr.add (Addr.mk (Array.size h17) 0 none) (Int.toNat (2 : Int) * 4)) 3) = some (Value.string s90) ∧ S_index_Index_Range p4 n83 n84 x85 s86 n87 n88 x89 s90 h80 fun (vs91 : List Value) (h92 : Hp) =>
                                              ∃ l93 : Sl, ∃ l94 : Sl, vs91 = [(Value.slice l93.a l93.n l93.c), (Value.slice l94.a l94.n l94.c)] ∧
                                              wth (Array.push h92 (Obj.cells #[] T_int)) fun h95 =>
                                              ∃ cs126 : List Value, cellsAt h95 l81.a (l81.n * 1) cs126 ∧ appS PP T_int 8 1 h95 ⟨(some (Addr.mk (Array.size h92) 0 none)), 0, 0⟩ l81.n cs126 fun (l96 : Sl) (h97 : Hp) =>
                                              ∃ cs125 : List Value, cellsAt h97 l93.a (l93.n * 1) cs125 ∧ appS PP T_int 8 1 h97 ⟨l96.a, l96.n, l96.c⟩ l93.n cs125 fun (l98 : Sl) (h99 : Hp) =>
                                              S_liverykeep_Ints ⟨l69.a, l69.n, l69.c⟩ ⟨l98.a, l98.n, l98.c⟩ h99 fun (vs100 : List Value) (h101 : Hp) =>
                                              ∃ b102 : Bool, vs100 = [(Value.bool b102)] ∧
                                              (if (!b102) = true then
                                                (Q [(Value.bool false)] h101) else
                                                (ixOk (0 : Int) 3 (∃ n103 : Int, rd h101 (Addr.add (Addr.add (Addr.mk (Array.size h17) 0 none) (Int.toNat (0 : Int) * 4)) 0) = some (Value.int .i64 n103) ∧ ∃ n104 : Int, rd h101 (Addr.add (Addr.add (Addr.mk (Array.size h17) 0 none) (Int.toNat (0 : Int) * 4)) 1) = some (Value.int .i64 n104) ∧ ∃ x105 : Nat, rd h101 (Addr.add (Addr.add (Addr.mk (Array.size h17) 0 none) (Int.toNat (0 : Int) * 4)) 2) = some (Value.float .f64 x105) ∧ ∃ s106 : ByteArray, rd h101 (Addr.add (Addr.add (Addr.mk (Array.size h17) 0 none) (Int.toNat (0 : Int) * 4)) 3) = some (Value.string s106) ∧ S_index_Index_Find p4 n103 n104 x105 s106 h101 fun (vs107 : List Value) (h108 : Hp) =>
                                                    ∃ l109 : Sl, ∃ l110 : Sl, vs107 = [(Value.slice l109.a l109.n l109.c), (Value.slice l110.a l110.n l110.c)] ∧
                                                    ixOk (0 : Int) 3 (∃ n111 : Int, rd h108 (Addr.add (Addr.add (Addr.mk (Array.size h17) 0 none) (Int.toNat (0 : Int) * 4)) 0) = some (Value.int .i64 n111) ∧ ∃ n112 : Int, rd h108 (Addr.add (Addr.add (Addr.mk (Array.size h17) 0 none) (Int.toNat (0 : Int) * 4)) 1) = some (Value.int .i64 n112) ∧ ∃ x113 : Nat, rd h108 (Addr.add (Addr.add (Addr.mk (Array.size h17) 0 none) (Int.toNat (0 : Int) * 4)) 2) = some (Value.float .f64 x113) ∧ ∃ s114 : ByteArray, rd h108 (Addr.add (Addr.add (Addr.mk (Array.size h17) 0 none) (Int.toNat (0 : Int) * 4)) 3) = some (Value.string s114) ∧ S_index_Index_Range p4 n111 n112 x113 s114 (2 : Int) (IntKind.wrap .i64 ((IntKind.wrap .i64 (mnI (mnI n48 n49) n50)) + (1 : Int))) 0 (ByteArray.mk #[]) h108 fun (vs115 : List Value) (h116 : Hp) =>
                                                      ∃ l117 : Sl, ∃ l118 : Sl, vs115 = [(Value.slice l117.a l117.n l117.c), (Value.slice l118.a l118.n l118.c)] ∧
                                                      S_liverykeep_Ints ⟨l109.a, l109.n, l109.c⟩ ⟨l117.a, l117.n, l117.c⟩ h116 fun (vs119 : List Value) (h120 : Hp) =>
                                                      ∃ b121 : Bool, vs119 = [(Value.bool b121)] ∧
                                                      (if b121 = true then (S_liverylaw11_wakes  h120 fun (vs122 : List Value) (h123 : Hp) =>
                                                          ∃ b124 : Bool, vs122 = [(Value.bool b124)] ∧
                                                          Q [(Value.bool b124)] h123) else
                                                        (Q [(Value.bool false)] h120)))))))))))))))))))))))) → X15 [(Value.int .i64 n16)] h17) →
        X15 [(Value.int .i64 (0 : Int))] h8))) → J6 [(Value.bool b7)] h8) →
(if (n5 != (0 : Int)) = true then (J6 [(Value.bool true)] h3) else
  (S_liverylaw11_fair ⟨g0_l.a, g0_l.n, g0_l.c⟩ h3 fun (vs127 : List Value) (h128 : Hp) =>
    ∃ b129 : Bool, vs127 = [(Value.bool b129)] ∧
    J6 [(Value.bool (!b129))] h128))
def A_liverylaw11_IndexParts : Ann := (.mk none ⟨[], []⟩ .nil (.mk none ⟨[], []⟩ .nil (.mk none ⟨[], []⟩ (.mk none ⟨[], []⟩ (.mk (some ⟨[0, 3, 5, 6], [(32, (.c .bool))]⟩) ⟨[], []⟩ .nil .nil) (.mk none ⟨[], []⟩ (.mk none ⟨[], []⟩ (.mk (some ⟨[], [(4, (.c .bool))]⟩) ⟨[], []⟩ .nil .nil) .nil) .nil)) (.mk none ⟨[], []⟩ (.mk none ⟨[], []⟩ .nil (.mk none ⟨[], []⟩ (.mk none ⟨[0, 3, 5], [(7, (.c (.int .i64)))]⟩ (.mk none ⟨[], []⟩ .nil (.mk none ⟨[], []⟩ (.mk (some ⟨[0, 3, 5, 7], []⟩) ⟨[], []⟩ .nil .nil) .nil)) .nil) .nil)) .nil))))
theorem E_liverylaw11_IndexParts (g0_l : Sl) (g1_n_0 : Int) (g1_n_1 : Int) (g1_n_2 : Int) (h : Hp) (Q : List Value → Hp → Prop) : cw PP 171 (fun _ => []) (bodyOf Tryd.f3) A_liverylaw11_IndexParts (finQ PP (Tryd.f3.results.toList) Q) (argFr [(Value.slice g0_l.a g0_l.n g0_l.c), (Value.agg #[(Value.int .i8 g1_n_0), (Value.int .i8 g1_n_1), (Value.int .i8 g1_n_2)])]) h = F_liverylaw11_IndexParts g0_l g1_n_0 g1_n_1 g1_n_2 h Q := by kernel_rfl
theorem O_liverylaw11_IndexParts (g0_l : Sl) (g1_n_0 : Int) (g1_n_1 : Int) (g1_n_2 : Int) {h : Hp} {Q : List Value → Hp → Prop} (H : F_liverylaw11_IndexParts g0_l g1_n_0 g1_n_1 g1_n_2 h Q) : S_liverylaw11_IndexParts g0_l g1_n_0 g1_n_1 g1_n_2 h Q :=
  fn_of_cw (hs := (fun _ => [])) (ann := A_liverylaw11_IndexParts) (args := [(Value.slice g0_l.a g0_l.n g0_l.c), (Value.agg #[(Value.int .i8 g1_n_0), (Value.int .i8 g1_n_1), (Value.int .i8 g1_n_2)])]) mixedPP Tryd.func3 (c := bodyOf Tryd.f3) (by kernel_rfl) (by kernel_rfl) (by kernel_rfl) (Eq.mpr (E_liverylaw11_IndexParts g0_l g1_n_0 g1_n_1 g1_n_2 h Q) H)
def F_liveryref02_plain (g0_f : Nat) (h : Hp) (Q : List Value → Hp → Prop) : Prop :=
S_math_Float64bits g0_f h fun (vs1 : List Value) (h2 : Hp) =>
∃ n3 : Int, vs1 = [(Value.int .u64 n3)] ∧
Q [(Value.bool (n3 == (0 : Int)))] h2
def A_liveryref02_plain : Ann := .nil
theorem E_liveryref02_plain (g0_f : Nat) (h : Hp) (Q : List Value → Hp → Prop) : cw PP 6 (fun _ => []) (bodyOf Tryd.f28) A_liveryref02_plain (finQ PP (Tryd.f28.results.toList) Q) (argFr [(Value.float .f64 g0_f)]) h = F_liveryref02_plain g0_f h Q := by kernel_rfl
theorem O_liveryref02_plain (g0_f : Nat) {h : Hp} {Q : List Value → Hp → Prop} (H : F_liveryref02_plain g0_f h Q) : S_liveryref02_plain g0_f h Q :=
  fn_of_cw (hs := (fun _ => [])) (ann := A_liveryref02_plain) (args := [(Value.float .f64 g0_f)]) mixedPP Tryd.func28 (c := bodyOf Tryd.f28) (by kernel_rfl) (by kernel_rfl) (by kernel_rfl) (Eq.mpr (E_liveryref02_plain g0_f h Q) H)
def F_math_IsNaN (g0_f : Nat) (h : Hp) (Q : List Value → Hp → Prop) : Prop :=
Q [(Value.bool ((FloatKind.format .f64).order g0_f g0_f != some .eq))] h
def A_math_IsNaN : Ann := .nil
theorem E_math_IsNaN (g0_f : Nat) (h : Hp) (Q : List Value → Hp → Prop) : cw PP 6 (fun _ => []) (bodyOf Tryd.f61) A_math_IsNaN (finQ PP (Tryd.f61.results.toList) Q) (argFr [(Value.float .f64 g0_f)]) h = F_math_IsNaN g0_f h Q := by kernel_rfl
theorem O_math_IsNaN (g0_f : Nat) {h : Hp} {Q : List Value → Hp → Prop} (H : F_math_IsNaN g0_f h Q) : S_math_IsNaN g0_f h Q :=
  fn_of_cw (hs := (fun _ => [])) (ann := A_math_IsNaN) (args := [(Value.float .f64 g0_f)]) mixedPP Tryd.func61 (c := bodyOf Tryd.f61) (by kernel_rfl) (by kernel_rfl) (by kernel_rfl) (Eq.mpr (E_math_IsNaN g0_f h Q) H)
def F_liveryref01_Canon (g0_f : Nat) (h : Hp) (Q : List Value → Hp → Prop) : Prop :=
S_math_IsNaN g0_f h fun (vs1 : List Value) (h2 : Hp) =>
∃ b3 : Bool, vs1 = [(Value.bool b3)] ∧
(if b3 = true then
  (S_math_Float64frombits (9221120237041090560 : Int) h2 fun (vs4 : List Value) (h5 : Hp) =>
    ∃ x6 : Nat, vs4 = [(Value.float .f64 x6)] ∧
    Q [(Value.float .f64 x6)] h5) else
  ((if ((FloatKind.format .f64).order g0_f 0 == some .eq) = true then
      (Q [(Value.float .f64 0)] h2) else
      (Q [(Value.float .f64 g0_f)] h2))))
def A_liveryref01_Canon : Ann := .nil
theorem E_liveryref01_Canon (g0_f : Nat) (h : Hp) (Q : List Value → Hp → Prop) : cw PP 9 (fun _ => []) (bodyOf Tryd.f46) A_liveryref01_Canon (finQ PP (Tryd.f46.results.toList) Q) (argFr [(Value.float .f64 g0_f)]) h = F_liveryref01_Canon g0_f h Q := by kernel_rfl
theorem O_liveryref01_Canon (g0_f : Nat) {h : Hp} {Q : List Value → Hp → Prop} (H : F_liveryref01_Canon g0_f h Q) : S_liveryref01_Canon g0_f h Q :=
  fn_of_cw (hs := (fun _ => [])) (ann := A_liveryref01_Canon) (args := [(Value.float .f64 g0_f)]) mixedPP Tryd.func46 (c := bodyOf Tryd.f46) (by kernel_rfl) (by kernel_rfl) (by kernel_rfl) (Eq.mpr (E_liveryref01_Canon g0_f h Q) H)
def F_liveryref01_Is (g0_f : Nat) (h : Hp) (Q : List Value → Hp → Prop) : Prop :=
S_math_Float64bits g0_f h fun (vs1 : List Value) (h2 : Hp) =>
∃ n3 : Int, vs1 = [(Value.int .u64 n3)] ∧
S_liveryref01_Canon g0_f h2 fun (vs4 : List Value) (h5 : Hp) =>
∃ x6 : Nat, vs4 = [(Value.float .f64 x6)] ∧
S_math_Float64bits x6 h5 fun (vs7 : List Value) (h8 : Hp) =>
∃ n9 : Int, vs7 = [(Value.int .u64 n9)] ∧
Q [(Value.bool (n3 == n9))] h8
def A_liveryref01_Is : Ann := .nil
theorem E_liveryref01_Is (g0_f : Nat) (h : Hp) (Q : List Value → Hp → Prop) : cw PP 9 (fun _ => []) (bodyOf Tryd.f29) A_liveryref01_Is (finQ PP (Tryd.f29.results.toList) Q) (argFr [(Value.float .f64 g0_f)]) h = F_liveryref01_Is g0_f h Q := by kernel_rfl
theorem O_liveryref01_Is (g0_f : Nat) {h : Hp} {Q : List Value → Hp → Prop} (H : F_liveryref01_Is g0_f h Q) : S_liveryref01_Is g0_f h Q :=
  fn_of_cw (hs := (fun _ => [])) (ann := A_liveryref01_Is) (args := [(Value.float .f64 g0_f)]) mixedPP Tryd.func29 (c := bodyOf Tryd.f29) (by kernel_rfl) (by kernel_rfl) (by kernel_rfl) (Eq.mpr (E_liveryref01_Is g0_f h Q) H)
def F_liveryref02_Good (g0_v_0 : Int) (g0_v_1 : Int) (g0_v_2 : Nat) (g0_v_3 : ByteArray) (h : Hp) (Q : List Value → Hp → Prop) : Prop :=
wth (Array.push h (Obj.cells #[(Value.int .i64 g0_v_0), (Value.int .i64 g0_v_1), (Value.float .f64 g0_v_2), (Value.string g0_v_3)] T_api_Value)) fun h1 =>
∃ n2 : Int, rd h1 (Addr.add (Addr.mk (Array.size h) 0 none) 0) = some (Value.int .i64 n2) ∧
(if (n2 == (0 : Int)) = true then
  (∀ J3 : List Value → Hp → Prop, (∀ b4 : Bool, ∀ h5 : Hp, (Q [(Value.bool b4)] h5) → J3 [(Value.bool b4)] h5) →
    ∃ n6 : Int, rd h1 (Addr.add (Addr.mk (Array.size h) 0 none) 1) = some (Value.int .i64 n6) ∧
    (if (n6 == (0 : Int)) = true then (∃ x7 : Nat, rd h1 (Addr.add (Addr.mk (Array.size h) 0 none) 2) = some (Value.float .f64 x7) ∧
        S_liveryref02_plain x7 h1 fun (vs8 : List Value) (h9 : Hp) =>
        ∃ b10 : Bool, vs8 = [(Value.bool b10)] ∧
        (if b10 = true then (∃ s11 : ByteArray, rd h9 (Addr.add (Addr.mk (Array.size h) 0 none) 3) = some (Value.string s11) ∧
            J3 [(Value.bool ((ByteArray.toList s11) == (ByteArray.toList (ByteArray.mk #[]))))] h9) else
          (J3 [(Value.bool false)] h9))) else
      (J3 [(Value.bool false)] h1))) else
  ((if (n2 == (1 : Int)) = true then
      (∀ J12 : List Value → Hp → Prop, (∀ b13 : Bool, ∀ h14 : Hp, (Q [(Value.bool b13)] h14) → J12 [(Value.bool b13)] h14) →
        ∃ n15 : Int, rd h1 (Addr.add (Addr.mk (Array.size h) 0 none) 1) = some (Value.int .i64 n15) ∧
        (if (n15 == (0 : Int)) = true then (∃ x16 : Nat, rd h1 (Addr.add (Addr.mk (Array.size h) 0 none) 2) = some (Value.float .f64 x16) ∧
            S_liveryref02_plain x16 h1 fun (vs17 : List Value) (h18 : Hp) =>
            ∃ b19 : Bool, vs17 = [(Value.bool b19)] ∧
            (if b19 = true then (∃ s20 : ByteArray, rd h18 (Addr.add (Addr.mk (Array.size h) 0 none) 3) = some (Value.string s20) ∧
                J12 [(Value.bool ((ByteArray.toList s20) == (ByteArray.toList (ByteArray.mk #[]))))] h18) else
              (J12 [(Value.bool false)] h18))) else
          (∃ n21 : Int, rd h1 (Addr.add (Addr.mk (Array.size h) 0 none) 1) = some (Value.int .i64 n21) ∧
            (if (n21 == (1 : Int)) = true then (∃ x22 : Nat, rd h1 (Addr.add (Addr.mk (Array.size h) 0 none) 2) = some (Value.float .f64 x22) ∧
                S_liveryref02_plain x22 h1 fun (vs23 : List Value) (h24 : Hp) =>
                ∃ b25 : Bool, vs23 = [(Value.bool b25)] ∧
                (if b25 = true then (∃ s26 : ByteArray, rd h24 (Addr.add (Addr.mk (Array.size h) 0 none) 3) = some (Value.string s26) ∧
                    J12 [(Value.bool ((ByteArray.toList s26) == (ByteArray.toList (ByteArray.mk #[]))))] h24) else
                  (J12 [(Value.bool false)] h24))) else
              (J12 [(Value.bool false)] h1))))) else
      ((if (n2 == (2 : Int)) = true then
          (∀ J27 : List Value → Hp → Prop, (∀ b28 : Bool, ∀ h29 : Hp, (Q [(Value.bool b28)] h29) → J27 [(Value.bool b28)] h29) →
            ∃ x30 : Nat, rd h1 (Addr.add (Addr.mk (Array.size h) 0 none) 2) = some (Value.float .f64 x30) ∧
            S_liveryref02_plain x30 h1 fun (vs31 : List Value) (h32 : Hp) =>
            ∃ b33 : Bool, vs31 = [(Value.bool b33)] ∧
            (if b33 = true then (∃ s34 : ByteArray, rd h32 (Addr.add (Addr.mk (Array.size h) 0 none) 3) = some (Value.string s34) ∧
                J27 [(Value.bool ((ByteArray.toList s34) == (ByteArray.toList (ByteArray.mk #[]))))] h32) else
              (J27 [(Value.bool false)] h32))) else
          ((if (n2 == (3 : Int)) = true then
              (∀ J35 : List Value → Hp → Prop, (∀ b36 : Bool, ∀ h37 : Hp, (Q [(Value.bool b36)] h37) → J35 [(Value.bool b36)] h37) →
                ∃ n38 : Int, rd h1 (Addr.add (Addr.mk (Array.size h) 0 none) 1) = some (Value.int .i64 n38) ∧
                (if (n38 == (0 : Int)) = true then (∃ x39 : Nat, rd h1 (Addr.add (Addr.mk (Array.size h) 0 none) 2) = some (Value.float .f64 x39) ∧
                    S_liveryref01_Is x39 h1 fun (vs40 : List Value) (h41 : Hp) =>
                    ∃ b42 : Bool, vs40 = [(Value.bool b42)] ∧
                    (if b42 = true then (∃ s43 : ByteArray, rd h41 (Addr.add (Addr.mk (Array.size h) 0 none) 3) = some (Value.string s43) ∧
                        J35 [(Value.bool ((ByteArray.toList s43) == (ByteArray.toList (ByteArray.mk #[]))))] h41) else
                      (J35 [(Value.bool false)] h41))) else
                  (J35 [(Value.bool false)] h1))) else
              ((if (n2 == (4 : Int)) = true then
                  (∀ J44 : List Value → Hp → Prop, (∀ b45 : Bool, ∀ h46 : Hp, (Q [(Value.bool b45)] h46) → J44 [(Value.bool b45)] h46) →
                    ∃ n47 : Int, rd h1 (Addr.add (Addr.mk (Array.size h) 0 none) 1) = some (Value.int .i64 n47) ∧
                    (if (n47 == (0 : Int)) = true then (∃ x48 : Nat, rd h1 (Addr.add (Addr.mk (Array.size h) 0 none) 2) = some (Value.float .f64 x48) ∧
                        S_liveryref02_plain x48 h1 fun (vs49 : List Value) (h50 : Hp) =>
                        ∃ b51 : Bool, vs49 = [(Value.bool b51)] ∧
                        (if b51 = true then (∃ s52 : ByteArray, rd h50 (Addr.add (Addr.mk (Array.size h) 0 none) 3) = some (Value.string s52) ∧
                            J44 [(Value.bool (decide ((ByteArray.size s52 : Int) ≤ (256 : Int))))] h50) else
                          (J44 [(Value.bool false)] h50))) else
                      (J44 [(Value.bool false)] h1))) else
                  (Q [(Value.bool false)] h1))))))))))
def A_liveryref02_Good : Ann := (.mk none ⟨[], []⟩ .nil (.mk none ⟨[], []⟩ (.mk none ⟨[], []⟩ .nil (.mk none ⟨[], []⟩ (.mk none ⟨[], []⟩ .nil (.mk none ⟨[], []⟩ (.mk none ⟨[], []⟩ (.mk (some ⟨[], [(2, (.c .bool))]⟩) ⟨[], []⟩ .nil .nil) .nil) (.mk none ⟨[], []⟩ .nil (.mk none ⟨[], []⟩ (.mk none ⟨[], []⟩ (.mk (some ⟨[], [(2, (.c .bool))]⟩) ⟨[], []⟩ .nil .nil) .nil) (.mk none ⟨[], []⟩ .nil (.mk none ⟨[], []⟩ (.mk none ⟨[], []⟩ (.mk (some ⟨[], [(2, (.c .bool))]⟩) ⟨[], []⟩ .nil .nil) .nil) (.mk none ⟨[], []⟩ .nil (.mk none ⟨[], []⟩ (.mk none ⟨[], []⟩ (.mk (some ⟨[], [(2, (.c .bool))]⟩) ⟨[], []⟩ .nil .nil) .nil) (.mk none ⟨[], []⟩ .nil (.mk none ⟨[], []⟩ (.mk none ⟨[], []⟩ (.mk (some ⟨[], [(2, (.c .bool))]⟩) ⟨[], []⟩ .nil .nil) .nil) .nil)))))))))) .nil)) .nil))
theorem E_liveryref02_Good (g0_v_0 : Int) (g0_v_1 : Int) (g0_v_2 : Nat) (g0_v_3 : ByteArray) (h : Hp) (Q : List Value → Hp → Prop) : cw PP 81 (fun _ => []) (bodyOf Tryd.f14) A_liveryref02_Good (finQ PP (Tryd.f14.results.toList) Q) (argFr [(Value.agg #[(Value.int .i64 g0_v_0), (Value.int .i64 g0_v_1), (Value.float .f64 g0_v_2), (Value.string g0_v_3)])]) h = F_liveryref02_Good g0_v_0 g0_v_1 g0_v_2 g0_v_3 h Q := by kernel_rfl
theorem O_liveryref02_Good (g0_v_0 : Int) (g0_v_1 : Int) (g0_v_2 : Nat) (g0_v_3 : ByteArray) {h : Hp} {Q : List Value → Hp → Prop} (H : F_liveryref02_Good g0_v_0 g0_v_1 g0_v_2 g0_v_3 h Q) : S_liveryref02_Good g0_v_0 g0_v_1 g0_v_2 g0_v_3 h Q :=
  fn_of_cw (hs := (fun _ => [])) (ann := A_liveryref02_Good) (args := [(Value.agg #[(Value.int .i64 g0_v_0), (Value.int .i64 g0_v_1), (Value.float .f64 g0_v_2), (Value.string g0_v_3)])]) mixedPP Tryd.func14 (c := bodyOf Tryd.f14) (by kernel_rfl) (by kernel_rfl) (by kernel_rfl) (Eq.mpr (E_liveryref02_Good g0_v_0 g0_v_1 g0_v_2 g0_v_3 h Q) H)
def F_liveryref01_rank (g0_f : Nat) (h : Hp) (Q : List Value → Hp → Prop) : Prop :=
S_math_IsNaN g0_f h fun (vs1 : List Value) (h2 : Hp) =>
∃ b3 : Bool, vs1 = [(Value.bool b3)] ∧
(if b3 = true then
  (Q [(Value.int .i64 (1 : Int))] h2) else
  (Q [(Value.int .i64 (0 : Int))] h2))
def A_liveryref01_rank : Ann := .nil
theorem E_liveryref01_rank (g0_f : Nat) (h : Hp) (Q : List Value → Hp → Prop) : cw PP 5 (fun _ => []) (bodyOf Tryd.f47) A_liveryref01_rank (finQ PP (Tryd.f47.results.toList) Q) (argFr [(Value.float .f64 g0_f)]) h = F_liveryref01_rank g0_f h Q := by kernel_rfl
theorem O_liveryref01_rank (g0_f : Nat) {h : Hp} {Q : List Value → Hp → Prop} (H : F_liveryref01_rank g0_f h Q) : S_liveryref01_rank g0_f h Q :=
  fn_of_cw (hs := (fun _ => [])) (ann := A_liveryref01_rank) (args := [(Value.float .f64 g0_f)]) mixedPP Tryd.func47 (c := bodyOf Tryd.f47) (by kernel_rfl) (by kernel_rfl) (by kernel_rfl) (Eq.mpr (E_liveryref01_rank g0_f h Q) H)
def F_liveryref01_Compare (g0_a : Nat) (g1_b : Nat) (h : Hp) (Q : List Value → Hp → Prop) : Prop :=
S_liveryref01_rank g0_a h fun (vs1 : List Value) (h2 : Hp) =>
∃ n3 : Int, vs1 = [(Value.int .i64 n3)] ∧
S_liveryref01_rank g1_b h2 fun (vs4 : List Value) (h5 : Hp) =>
∃ n6 : Int, vs4 = [(Value.int .i64 n6)] ∧
(if (n3 != n6) = true then
  (S_liveryref01_rank g0_a h5 fun (vs7 : List Value) (h8 : Hp) =>
    ∃ n9 : Int, vs7 = [(Value.int .i64 n9)] ∧
    S_liveryref01_rank g1_b h8 fun (vs10 : List Value) (h11 : Hp) =>
    ∃ n12 : Int, vs10 = [(Value.int .i64 n12)] ∧
    Q [(Value.int .i64 (IntKind.wrap .i64 (n9 - n12)))] h11) else
  (S_liveryref01_rank g0_a h5 fun (vs13 : List Value) (h14 : Hp) =>
    ∃ n15 : Int, vs13 = [(Value.int .i64 n15)] ∧
    (if (n15 == (1 : Int)) = true then
      (Q [(Value.int .i64 (0 : Int))] h14) else
      ((if ((FloatKind.format .f64).order g0_a g1_b == some .lt) = true then
          (Q [(Value.int .i64 (-1 : Int))] h14) else
          ((if ((FloatKind.format .f64).order g0_a g1_b == some .gt) = true then
              (Q [(Value.int .i64 (1 : Int))] h14) else
              (Q [(Value.int .i64 (0 : Int))] h14))))))))
def A_liveryref01_Compare : Ann := .nil
theorem E_liveryref01_Compare (g0_a : Nat) (g1_b : Nat) (h : Hp) (Q : List Value → Hp → Prop) : cw PP 28 (fun _ => []) (bodyOf Tryd.f30) A_liveryref01_Compare (finQ PP (Tryd.f30.results.toList) Q) (argFr [(Value.float .f64 g0_a), (Value.float .f64 g1_b)]) h = F_liveryref01_Compare g0_a g1_b h Q := by kernel_rfl
theorem O_liveryref01_Compare (g0_a : Nat) (g1_b : Nat) {h : Hp} {Q : List Value → Hp → Prop} (H : F_liveryref01_Compare g0_a g1_b h Q) : S_liveryref01_Compare g0_a g1_b h Q :=
  fn_of_cw (hs := (fun _ => [])) (ann := A_liveryref01_Compare) (args := [(Value.float .f64 g0_a), (Value.float .f64 g1_b)]) mixedPP Tryd.func30 (c := bodyOf Tryd.f30) (by kernel_rfl) (by kernel_rfl) (by kernel_rfl) (Eq.mpr (E_liveryref01_Compare g0_a g1_b h Q) H)
def F_liveryref02_Compare (g0_a_0 : Int) (g0_a_1 : Int) (g0_a_2 : Nat) (g0_a_3 : ByteArray) (g1_b_0 : Int) (g1_b_1 : Int) (g1_b_2 : Nat) (g1_b_3 : ByteArray) (h : Hp) (Q : List Value → Hp → Prop) : Prop :=
wth (Array.push h (Obj.cells #[(Value.int .i64 g0_a_0), (Value.int .i64 g0_a_1), (Value.float .f64 g0_a_2), (Value.string g0_a_3)] T_api_Value)) fun h1 =>
wth (Array.push h1 (Obj.cells #[(Value.int .i64 g1_b_0), (Value.int .i64 g1_b_1), (Value.float .f64 g1_b_2), (Value.string g1_b_3)] T_api_Value)) fun h2 =>
∃ n3 : Int, rd h2 (Addr.add (Addr.mk (Array.size h) 0 none) 0) = some (Value.int .i64 n3) ∧
∃ n4 : Int, rd h2 (Addr.add (Addr.mk (Array.size h1) 0 none) 0) = some (Value.int .i64 n4) ∧
(if (decide (n3 < n4)) = true then
  (Q [(Value.int .i64 (-1 : Int))] h2) else
  (∃ n5 : Int, rd h2 (Addr.add (Addr.mk (Array.size h) 0 none) 0) = some (Value.int .i64 n5) ∧
    ∃ n6 : Int, rd h2 (Addr.add (Addr.mk (Array.size h1) 0 none) 0) = some (Value.int .i64 n6) ∧
    (if (decide (n5 > n6)) = true then
      (Q [(Value.int .i64 (1 : Int))] h2) else
      (∃ n7 : Int, rd h2 (Addr.add (Addr.mk (Array.size h) 0 none) 1) = some (Value.int .i64 n7) ∧
        ∃ n8 : Int, rd h2 (Addr.add (Addr.mk (Array.size h1) 0 none) 1) = some (Value.int .i64 n8) ∧
        (if (decide (n7 < n8)) = true then
          (Q [(Value.int .i64 (-1 : Int))] h2) else
          (∃ n9 : Int, rd h2 (Addr.add (Addr.mk (Array.size h) 0 none) 1) = some (Value.int .i64 n9) ∧
            ∃ n10 : Int, rd h2 (Addr.add (Addr.mk (Array.size h1) 0 none) 1) = some (Value.int .i64 n10) ∧
            (if (decide (n9 > n10)) = true then
              (Q [(Value.int .i64 (1 : Int))] h2) else
              (∃ x11 : Nat, rd h2 (Addr.add (Addr.mk (Array.size h) 0 none) 2) = some (Value.float .f64 x11) ∧
                ∃ x12 : Nat, rd h2 (Addr.add (Addr.mk (Array.size h1) 0 none) 2) = some (Value.float .f64 x12) ∧
                S_liveryref01_Compare x11 x12 h2 fun (vs13 : List Value) (h14 : Hp) =>
                ∃ n15 : Int, vs13 = [(Value.int .i64 n15)] ∧
                (if (n15 != (0 : Int)) = true then
                  (Q [(Value.int .i64 n15)] h14) else
                  (∃ s16 : ByteArray, rd h14 (Addr.add (Addr.mk (Array.size h) 0 none) 3) = some (Value.string s16) ∧
                    ∃ s17 : ByteArray, rd h14 (Addr.add (Addr.mk (Array.size h1) 0 none) 3) = some (Value.string s17) ∧
                    (if (Op.bytesLess (ByteArray.toList s16) (ByteArray.toList s17)) = true then
                      (Q [(Value.int .i64 (-1 : Int))] h14) else
                      (∃ s18 : ByteArray, rd h14 (Addr.add (Addr.mk (Array.size h) 0 none) 3) = some (Value.string s18) ∧
                        ∃ s19 : ByteArray, rd h14 (Addr.add (Addr.mk (Array.size h1) 0 none) 3) = some (Value.string s19) ∧
                        (if (!(Op.bytesLess (ByteArray.toList s18) (ByteArray.toList s19) || (ByteArray.toList s18) == (ByteArray.toList s19))) = true then
                          (Q [(Value.int .i64 (1 : Int))] h14) else
                          (Q [(Value.int .i64 (0 : Int))] h14))))))))))))))
def A_liveryref02_Compare : Ann := .nil
theorem E_liveryref02_Compare (g0_a_0 : Int) (g0_a_1 : Int) (g0_a_2 : Nat) (g0_a_3 : ByteArray) (g1_b_0 : Int) (g1_b_1 : Int) (g1_b_2 : Nat) (g1_b_3 : ByteArray) (h : Hp) (Q : List Value → Hp → Prop) : cw PP 50 (fun _ => []) (bodyOf Tryd.f15) A_liveryref02_Compare (finQ PP (Tryd.f15.results.toList) Q) (argFr [(Value.agg #[(Value.int .i64 g0_a_0), (Value.int .i64 g0_a_1), (Value.float .f64 g0_a_2), (Value.string g0_a_3)]), (Value.agg #[(Value.int .i64 g1_b_0), (Value.int .i64 g1_b_1), (Value.float .f64 g1_b_2), (Value.string g1_b_3)])]) h = F_liveryref02_Compare g0_a_0 g0_a_1 g0_a_2 g0_a_3 g1_b_0 g1_b_1 g1_b_2 g1_b_3 h Q := by kernel_rfl
theorem O_liveryref02_Compare (g0_a_0 : Int) (g0_a_1 : Int) (g0_a_2 : Nat) (g0_a_3 : ByteArray) (g1_b_0 : Int) (g1_b_1 : Int) (g1_b_2 : Nat) (g1_b_3 : ByteArray) {h : Hp} {Q : List Value → Hp → Prop} (H : F_liveryref02_Compare g0_a_0 g0_a_1 g0_a_2 g0_a_3 g1_b_0 g1_b_1 g1_b_2 g1_b_3 h Q) : S_liveryref02_Compare g0_a_0 g0_a_1 g0_a_2 g0_a_3 g1_b_0 g1_b_1 g1_b_2 g1_b_3 h Q :=
  fn_of_cw (hs := (fun _ => [])) (ann := A_liveryref02_Compare) (args := [(Value.agg #[(Value.int .i64 g0_a_0), (Value.int .i64 g0_a_1), (Value.float .f64 g0_a_2), (Value.string g0_a_3)]), (Value.agg #[(Value.int .i64 g1_b_0), (Value.int .i64 g1_b_1), (Value.float .f64 g1_b_2), (Value.string g1_b_3)])]) mixedPP Tryd.func15 (c := bodyOf Tryd.f15) (by kernel_rfl) (by kernel_rfl) (by kernel_rfl) (Eq.mpr (E_liveryref02_Compare g0_a_0 g0_a_1 g0_a_2 g0_a_3 g1_b_0 g1_b_1 g1_b_2 g1_b_3 h Q) H)
def F_liverykeep_Has (g0_l : Sl) (g1_n : Int) (h : Hp) (Q : List Value → Hp → Prop) : Prop :=
∀ X1 : List Value → Hp → Prop, (∀ n2 : Int, ∀ h3 : Hp, ((if (decide (n2 < (g0_l.n : Int))) = true then
      (nilW g0_l.a fun a4 => ixOk n2 g0_l.n (∃ n5 : Int, rd h3 (Addr.add a4 (Int.toNat n2 * 1)) = some (Value.int .i64 n5) ∧
          (if (n5 == g1_n) = true then
            (Q [(Value.bool true)] h3) else
            (X1 [(Value.int .i64 (IntKind.wrap .i64 (n2 + (1 : Int))))] h3)))) else
      (Q [(Value.bool false)] h3))) → X1 [(Value.int .i64 n2)] h3) →
X1 [(Value.int .i64 (0 : Int))] h
def A_liverykeep_Has : Ann := (.mk none ⟨[], []⟩ .nil (.mk none ⟨[], []⟩ (.mk none ⟨[], []⟩ .nil (.mk none ⟨[], []⟩ (.mk none ⟨[0, 1], [(5, (.c (.int .i64)))]⟩ .nil .nil) .nil)) .nil))
theorem E_liverykeep_Has (g0_l : Sl) (g1_n : Int) (h : Hp) (Q : List Value → Hp → Prop) : cw PP 18 (fun _ => []) (bodyOf Tryd.f16) A_liverykeep_Has (finQ PP (Tryd.f16.results.toList) Q) (argFr [(Value.slice g0_l.a g0_l.n g0_l.c), (Value.int .i64 g1_n)]) h = F_liverykeep_Has g0_l g1_n h Q := by kernel_rfl
theorem O_liverykeep_Has (g0_l : Sl) (g1_n : Int) {h : Hp} {Q : List Value → Hp → Prop} (H : F_liverykeep_Has g0_l g1_n h Q) : S_liverykeep_Has g0_l g1_n h Q :=
  fn_of_cw (hs := (fun _ => [])) (ann := A_liverykeep_Has) (args := [(Value.slice g0_l.a g0_l.n g0_l.c), (Value.int .i64 g1_n)]) mixedPP Tryd.func16 (c := bodyOf Tryd.f16) (by kernel_rfl) (by kernel_rfl) (by kernel_rfl) (Eq.mpr (E_liverykeep_Has g0_l g1_n h Q) H)
def F_liverylaw11_IndexFinds (g0_l : Sl) (g1_v_0 : Int) (g1_v_1 : Int) (g1_v_2 : Nat) (g1_v_3 : ByteArray) (g2_w_0 : Int) (g2_w_1 : Int) (g2_w_2 : Nat) (g2_w_3 : ByteArray) (h : Hp) (Q : List Value → Hp → Prop) : Prop :=
wth (Array.push h (Obj.cells #[(Value.int .i64 g1_v_0), (Value.int .i64 g1_v_1), (Value.float .f64 g1_v_2), (Value.string g1_v_3)] T_api_Value)) fun h1 =>
wth (Array.push h1 (Obj.cells #[(Value.int .i64 g2_w_0), (Value.int .i64 g2_w_1), (Value.float .f64 g2_w_2), (Value.string g2_w_3)] T_api_Value)) fun h2 =>
S_index_New (4 : Int) h2 fun (vs3 : List Value) (h4 : Hp) =>
∃ p5 : Option Addr, ∃ n6 : Int, vs3 = [(Value.pointer p5), (Value.int .i64 n6)] ∧
∀ J7 : List Value → Hp → Prop, (∀ b8 : Bool, ∀ h9 : Hp, ((if b8 = true then
      (∀ J10 : List Value → Hp → Prop, (∀ b11 : Bool, ∀ h12 : Hp, (Q [(Value.bool b11)] h12) → J10 [(Value.bool b11)] h12) →
        (if (n6 == (0 : Int)) = true then (S_liverylaw11_wakes  h9 fun (vs13 : List Value) (h14 : Hp) =>
            ∃ b15 : Bool, vs13 = [(Value.bool b15)] ∧
            J10 [(Value.bool b15)] h14) else
          (J10 [(Value.bool false)] h9))) else
      (∀ X16 : List Value → Hp → Prop, (∀ l17 : Sl, ∀ n18 : Int, ∀ h19 : Hp, ((if (decide (n18 < (g0_l.n : Int))) = true then
              (∀ J20 : List Value → Hp → Prop, (∀ l21 : Sl, ∀ h22 : Hp, (X16 [(Value.slice l21.a l21.n l21.c), (Value.int .i64 (IntKind.wrap .i64 (n18 + (1 : Int))))] h22) → J20 [(Value.slice l21.a l21.n l21.c)] h22) →
                nilW g0_l.a fun a23 => ixOk n18 g0_l.n (∃ n24 : Int, rd h19 (Addr.add (Addr.add a23 (Int.toNat n18 * 10)) 0) = some (Value.int .i64 n24) ∧ ∃ n25 : Int, rd h19 (Addr.add (Addr.add a23 (Int.toNat n18 * 10)) 1) = some (Value.int .i64 n25) ∧ ∃ n26 : Int, rd h19 (Addr.add (Addr.add a23 (Int.toNat n18 * 10)) 2) = some (Value.int .i64 n26) ∧ ∃ n27 : Int, rd h19 (Addr.add (Addr.add a23 (Int.toNat n18 * 10)) 3) = some (Value.int .i64 n27) ∧ ∃ x28 : Nat, rd h19 (Addr.add (Addr.add a23 (Int.toNat n18 * 10)) 4) = some (Value.float .f64 x28) ∧ ∃ s29 : ByteArray, rd h19 (Addr.add (Addr.add a23 (Int.toNat n18 * 10)) 5) = some (Value.string s29) ∧ ∃ n30 : Int, rd h19 (Addr.add (Addr.add a23 (Int.toNat n18 * 10)) 6) = some (Value.int .i64 n30) ∧ ∃ n31 : Int, rd h19 (Addr.add (Addr.add a23 (Int.toNat n18 * 10)) 7) = some (Value.int .i64 n31) ∧ ∃ x32 : Nat, rd h19 (Addr.add (Addr.add a23 (Int.toNat n18 * 10)) 8) = some (Value.float .f64 x32) ∧ ∃ s33 : ByteArray, rd h19 (Addr.add (Addr.add a23 (Int.toNat n18 * 10)) 9) = some (Value.string s33) ∧ wth (Array.push h19 (Obj.cells #[(Value.int .i64 (0 : Int)), (Value.int .i64 (0 : Int)), (Value.int .i64 (0 : Int)), (Value.int .i64 (0 : Int)), (Value.float .f64 0), (Value.string (ByteArray.mk #[])), (Value.int .i64 (0 : Int)), (Value.int .i64 (0 : Int)), (Value.float .f64 0), (Value.string (ByteArray.mk #[]))] T_liverylaw11_Step)) fun h34 =>
                  stOk h34 (Addr.mk (Array.size h19) 0 none) 10 ∧ wth (wrs h34 (Addr.mk (Array.size h19) 0 none) 0 [(Value.int .i64 n24), (Value.int .i64 n25), (Value.int .i64 n26), (Value.int .i64 n27), (Value.float .f64 x28), (Value.string s29), (Value.int .i64 n30), (Value.int .i64 n31), (Value.float .f64 x32), (Value.string s33)]) fun h35 =>
                  ∃ n36 : Int, rd h35 (Addr.add (Addr.mk (Array.size h19) 0 none) 0) = some (Value.int .i64 n36) ∧
                  (if (n36 == (0 : Int)) = true then
                    (∃ n37 : Int, rd h35 (Addr.add (Addr.add (Addr.mk (Array.size h19) 0 none) 2) 0) = some (Value.int .i64 n37) ∧ ∃ n38 : Int, rd h35 (Addr.add (Addr.add (Addr.mk (Array.size h19) 0 none) 2) 1) = some (Value.int .i64 n38) ∧ ∃ x39 : Nat, rd h35 (Addr.add (Addr.add (Addr.mk (Array.size h19) 0 none) 2) 2) = some (Value.float .f64 x39) ∧ ∃ s40 : ByteArray, rd h35 (Addr.add (Addr.add (Addr.mk (Array.size h19) 0 none) 2) 3) = some (Value.string s40) ∧ ∃ n41 : Int, rd h35 (Addr.add (Addr.mk (Array.size h19) 0 none) 1) = some (Value.int .i64 n41) ∧
                      S_index_Index_Add p5 n37 n38 x39 s40 n41 h35 fun (vs42 : List Value) (h43 : Hp) =>
                      ∃ n44 : Int, ∃ n45 : Int, ∃ n46 : Int, ∃ n47 : Int, vs42 = [(Value.int .i64 n44), (Value.agg #[(Value.int .i64 n45), (Value.int .i64 n46)]), (Value.int .i64 n47)] ∧
                      wth (Array.push h43 (Obj.cells #[(Value.int .i64 (0 : Int)), (Value.int .i64 (0 : Int))] T_leaf_Move)) fun h48 =>
                      stOk h48 (Addr.mk (Array.size h43) 0 none) 2 ∧ wth (wrs h48 (Addr.mk (Array.size h43) 0 none) 0 [(Value.int .i64 n45), (Value.int .i64 n46)]) fun h49 =>
                      ∀ J50 : List Value → Hp → Prop, (∀ l51 : Sl, ∀ h52 : Hp, (J20 [(Value.slice l51.a l51.n l51.c)] h52) → J50 [(Value.slice l51.a l51.n l51.c)] h52) →
                      (if (n47 == (0 : Int)) = true then
                        (∃ n53 : Int, rd h49 (Addr.add (Addr.mk (Array.size h19) 0 none) 0) = some (Value.int .i64 n53) ∧ ∃ n54 : Int, rd h49 (Addr.add (Addr.mk (Array.size h19) 0 none) 1) = some (Value.int .i64 n54) ∧ ∃ n55 : Int, rd h49 (Addr.add (Addr.mk (Array.size h19) 0 none) 2) = some (Value.int .i64 n55) ∧ ∃ n56 : Int, rd h49 (Addr.add (Addr.mk (Array.size h19) 0 none) 3) = some (Value.int .i64 n56) ∧ ∃ x57 : Nat, rd h49 (Addr.add (Addr.mk (Array.size h19) 0 none) 4) = some (Value.float .f64 x57) ∧ ∃ s58 : ByteArray, rd h49 (Addr.add (Addr.mk (Array.size h19) 0 none) 5) = some (Value.string s58) ∧ ∃ n59 : Int, rd h49 (Addr.add (Addr.mk (Array.size h19) 0 none) 6) = some (Value.int .i64 n59) ∧ ∃ n60 : Int, rd h49 (Addr.add (Addr.mk (Array.size h19) 0 none) 7) = some (Value.int .i64 n60) ∧ ∃ x61 : Nat, rd h49 (Addr.add (Addr.mk (Array.size h19) 0 none) 8) = some (Value.float .f64 x61) ∧ ∃ s62 : ByteArray, rd h49 (Addr.add (Addr.mk (Array.size h19) 0 none) 9) = some (Value.string s62) ∧ wth (Array.push h49 (Obj.cells #[(Value.int .i64 n53), (Value.int .i64 n54), (Value.int .i64 n55), (Value.int .i64 n56), (Value.float .f64 x57), (Value.string s58), (Value.int .i64 n59), (Value.int .i64 n60), (Value.float .f64 x61), (Value.string s62)] T_liverylaw11_Step)) fun h63 =>
                          ∃ cs66 : List Value, cellsAt h63 (some (Addr.mk (Array.size h49) 0 none)) (1 * 10) cs66 ∧ appS PP T_liverylaw11_Step 96 10 h63 ⟨l17.a, l17.n, l17.c⟩ 1 cs66 fun (l64 : Sl) (h65 : Hp) =>
                          J50 [(Value.slice l64.a l64.n l64.c)] h65) else
                        (J50 [(Value.slice l17.a l17.n l17.c)] h49))) else
                    (∃ n67 : Int, rd h35 (Addr.add (Addr.add (Addr.mk (Array.size h19) 0 none) 2) 0) = some (Value.int .i64 n67) ∧ ∃ n68 : Int, rd h35 (Addr.add (Addr.add (Addr.mk (Array.size h19) 0 none) 2) 1) = some (Value.int .i64 n68) ∧ ∃ x69 : Nat, rd h35 (Addr.add (Addr.add (Addr.mk (Array.size h19) 0 none) 2) 2) = some (Value.float .f64 x69) ∧ ∃ s70 : ByteArray, rd h35 (Addr.add (Addr.add (Addr.mk (Array.size h19) 0 none) 2) 3) = some (Value.string s70) ∧ ∃ n71 : Int, rd h35 (Addr.add (Addr.mk (Array.size h19) 0 none) 1) = some (Value.int .i64 n71) ∧
                      S_index_Index_Drop p5 n67 n68 x69 s70 n71 h35 fun (vs72 : List Value) (h73 : Hp) =>
                      ∃ n74 : Int, ∃ n75 : Int, ∃ n76 : Int, ∃ n77 : Int, vs72 = [(Value.int .i64 n74), (Value.agg #[(Value.int .i64 n75), (Value.int .i64 n76)]), (Value.int .i64 n77)] ∧
                      ∀ X78 : List Value → Hp → Prop, (∀ l79 : Sl, ∀ n80 : Int, ∀ h81 : Hp, ((if (decide (n80 < (l17.n : Int))) = true then
                            (∀ J82 : List Value → Hp → Prop, (∀ l83 : Sl, ∀ h84 : Hp, (X78 [(Value.slice l83.a l83.n l83.c), (Value.int .i64 (IntKind.wrap .i64 (n80 + (1 : Int))))] h84) → J82 [(Value.slice l83.a l83.n l83.c)] h84) →
                              ∀ J85 : List Value → Hp → Prop, (∀ b86 : Bool, ∀ h87 : Hp, ((if b86 = true then
                                    (nilW l17.a fun a88 => ixOk n80 l17.n (∃ n89 : Int, rd h87 (Addr.add (Addr.add a88 (Int.toNat n80 * 10)) 0) = some (Value.int .i64 n89) ∧ ∃ n90 : Int, rd h87 (Addr.add (Addr.add a88 (Int.toNat n80 * 10)) 1) = some (Value.int .i64 n90) ∧ ∃ n91 : Int, rd h87 (Addr.add (Addr.add a88 (Int.toNat n80 * 10)) 2) = some (Value.int .i64 n91) ∧ ∃ n92 : Int, rd h87 (Addr.add (Addr.add a88 (Int.toNat n80 * 10)) 3) = some (Value.int .i64 n92) ∧ ∃ x93 : Nat, rd h87 (Addr.add (Addr.add a88 (Int.toNat n80 * 10)) 4) = some (Value.float .f64 x93) ∧ ∃ s94 : ByteArray, rd h87 (Addr.add (Addr.add a88 (Int.toNat n80 * 10)) 5) = some (Value.string s94) ∧ ∃ n95 : Int, rd h87 (Addr.add (Addr.add a88 (Int.toNat n80 * 10)) 6) = some (Value.int .i64 n95) ∧ ∃ n96 : Int, rd h87 (Addr.add (Addr.add a88 (Int.toNat n80 * 10)) 7) = some (Value.int .i64 n96) ∧ ∃ x97 : Nat, rd h87 (Addr.add (Addr.add a88 (Int.toNat n80 * 10)) 8) = some (Value.float .f64 x97) ∧ ∃ s98 : ByteArray, rd h87 (Addr.add (Addr.add a88 (Int.toNat n80 * 10)) 9) = some (Value.string s98) ∧ wth (Array.push h87 (Obj.cells #[(Value.int .i64 n89), (Value.int .i64 n90), (Value.int .i64 n91), (Value.int .i64 n92), (Value.float .f64 x93), (Value.string s94), (Value.int .i64 n95), (Value.int .i64 n96), (Value.float .f64 x97), (Value.string s98)] T_liverylaw11_Step)) fun h99 =>
                                        ∃ cs102 : List Value, cellsAt h99 (some (Addr.mk (Array.size h87) 0 none)) (1 * 10) cs102 ∧ appS PP T_liverylaw11_Step 96 10 h99 ⟨l79.a, l79.n, l79.c⟩ 1 cs102 fun (l100 : Sl) (h101 : Hp) =>
                                        J82 [(Value.slice l100.a l100.n l100.c)] h101)) else
                                    (J82 [(Value.slice l79.a l79.n l79.c)] h87))) → J85 [(Value.bool b86)] h87) →
                              nilW l17.a fun a103 => ixOk n80 l17.n (∃ n104 : Int, rd h81 (Addr.add (Addr.add a103 (Int.toNat n80 * 10)) 1) = some (Value.int .i64 n104) ∧
                                ∃ n105 : Int, rd h81 (Addr.add (Addr.mk (Array.size h19) 0 none) 1) = some (Value.int .i64 n105) ∧
                                (if (n104 != n105) = true then (J85 [(Value.bool true)] h81) else
                                  (∃ n106 : Int, rd h81 (Addr.add (Addr.add (Addr.mk (Array.size h19) 0 none) 2) 0) = some (Value.int .i64 n106) ∧ ∃ n107 : Int, rd h81 (Addr.add (Addr.add (Addr.mk (Array.size h19) 0 none) 2) 1) = some (Value.int .i64 n107) ∧ ∃ x108 : Nat, rd h81 (Addr.add (Addr.add (Addr.mk (Array.size h19) 0 none) 2) 2) = some (Value.float .f64 x108) ∧ ∃ s109 : ByteArray, rd h81 (Addr.add (Addr.add (Addr.mk (Array.size h19) 0 none) 2) 3) = some (Value.string s109) ∧ S_liveryref02_Good n106 n107 x108 s109 h81 fun (vs110 : List Value) (h111 : Hp) =>
                                    ∃ b112 : Bool, vs110 = [(Value.bool b112)] ∧
                                    (if (!b112) = true then (J85 [(Value.bool true)] h111) else
                                      (nilW l17.a fun a113 => ixOk n80 l17.n (∃ n114 : Int, rd h111 (Addr.add (Addr.add (Addr.add a113 (Int.toNat n80 * 10)) 2) 0) = some (Value.int .i64 n114) ∧ ∃ n115 : Int, rd h111 (Addr.add (Addr.add (Addr.add a113 (Int.toNat n80 * 10)) 2) 1) = some (Value.int .i64 n115) ∧ ∃ x116 : Nat, rd h111 (Addr.add (Addr.add (Addr.add a113 (Int.toNat n80 * 10)) 2) 2) = some (Value.float .f64 x116) ∧ ∃ s117 : ByteArray, rd h111 (Addr.add (Addr.add (Addr.add a113 (Int.toNat n80 * 10)) 2) 3) = some (Value.string s117) ∧ ∃ n118 : Int, rd h111 (Addr.add (Addr.add (Addr.mk (Array.size h19) 0 none) 2) 0) = some (Value.int .i64 n118) ∧ ∃ n119 : Int, rd h111 (Addr.add (Addr.add (Addr.mk (Array.size h19) 0 none) 2) 1) = some (Value.int .i64 n119) ∧ ∃ x120 : Nat, rd h111 (Addr.add (Addr.add (Addr.mk (Array.size h19) 0 none) 2) 2) = some (Value.float .f64 x120) ∧ ∃ s121 : ByteArray, rd h111 (Addr.add (Addr.add (Addr.mk (Array.size h19) 0 none) 2) 3) = some (Value.string s121) ∧ S_liveryref02_Compare n114 n115 x116 s117 n118 n119 x120 s121 h111 fun (vs122 : List Value) (h123 : Hp) =>
                                          ∃ n124 : Int, vs122 = [(Value.int .i64 n124)] ∧
                                          J85 [(Value.bool (n124 != (0 : Int)))] h123))))))) else
                            (J20 [(Value.slice l79.a l79.n l79.c)] h81))) → X78 [(Value.slice l79.a l79.n l79.c), (Value.int .i64 n80)] h81) →
                      X78 [(Value.slice none 0 0), (Value.int .i64 (0 : Int))] h73)))) else
              (∃ n125 : Int, rd h19 (Addr.add (Addr.mk (Array.size h) 0 none) 0) = some (Value.int .i64 n125) ∧ ∃ n126 : Int, rd h19 (Addr.add (Addr.mk (Array.size h) 0 none) 1) = some (Value.int .i64 n126) ∧ ∃ x127 : Nat, rd h19 (Addr.add (Addr.mk (Array.size h) 0 none) 2) = some (Value.float .f64 x127) ∧ ∃ s128 : ByteArray, rd h19 (Addr.add (Addr.mk (Array.size h) 0 none) 3) = some (Value.string s128) ∧ S_index_Index_Find p5 n125 n126 x127 s128 h19 fun (vs129 : List Value) (h130 : Hp) =>
                ∃ l131 : Sl, ∃ l132 : Sl, vs129 = [(Value.slice l131.a l131.n l131.c), (Value.slice l132.a l132.n l132.c)] ∧
                ∃ n133 : Int, rd h130 (Addr.add (Addr.mk (Array.size h) 0 none) 0) = some (Value.int .i64 n133) ∧ ∃ n134 : Int, rd h130 (Addr.add (Addr.mk (Array.size h) 0 none) 1) = some (Value.int .i64 n134) ∧ ∃ x135 : Nat, rd h130 (Addr.add (Addr.mk (Array.size h) 0 none) 2) = some (Value.float .f64 x135) ∧ ∃ s136 : ByteArray, rd h130 (Addr.add (Addr.mk (Array.size h) 0 none) 3) = some (Value.string s136) ∧ ∃ n137 : Int, rd h130 (Addr.add (Addr.mk (Array.size h1) 0 none) 0) = some (Value.int .i64 n137) ∧ ∃ n138 : Int, rd h130 (Addr.add (Addr.mk (Array.size h1) 0 none) 1) = some (Value.int .i64 n138) ∧ ∃ x139 : Nat, rd h130 (Addr.add (Addr.mk (Array.size h1) 0 none) 2) = some (Value.float .f64 x139) ∧ ∃ s140 : ByteArray, rd h130 (Addr.add (Addr.mk (Array.size h1) 0 none) 3) = some (Value.string s140) ∧ S_index_Index_Range p5 n133 n134 x135 s136 n137 n138 x139 s140 h130 fun (vs141 : List Value) (h142 : Hp) =>
                ∃ l143 : Sl, ∃ l144 : Sl, vs141 = [(Value.slice l143.a l143.n l143.c), (Value.slice l144.a l144.n l144.c)] ∧
                ∀ X145 : List Value → Hp → Prop, (∀ n146 : Int, ∀ n147 : Int, ∀ n148 : Int, ∀ h149 : Hp, ((if (decide (n148 < (l17.n : Int))) = true then
                      (∀ J150 : List Value → Hp → Prop, (∀ n151 : Int, ∀ n152 : Int, ∀ h153 : Hp, (X145 [(Value.int .i64 n151), (Value.int .i64 n152), (Value.int .i64 (IntKind.wrap .i64 (n148 + (1 : Int))))] h153) → J150 [(Value.int .i64 n151), (Value.int .i64 n152)] h153) →
                        nilW l17.a fun a154 => ixOk n148 l17.n (∃ n155 : Int, rd h149 (Addr.add (Addr.add (Addr.add a154 (Int.toNat n148 * 10)) 2) 0) = some (Value.int .i64 n155) ∧ ∃ n156 : Int, rd h149 (Addr.add (Addr.add (Addr.add a154 (Int.toNat n148 * 10)) 2) 1) = some (Value.int .i64 n156) ∧ ∃ x157 : Nat, rd h149 (Addr.add (Addr.add (Addr.add a154 (Int.toNat n148 * 10)) 2) 2) = some (Value.float .f64 x157) ∧ ∃ s158 : ByteArray, rd h149 (Addr.add (Addr.add (Addr.add a154 (Int.toNat n148 * 10)) 2) 3) = some (Value.string s158) ∧ ∃ n159 : Int, rd h149 (Addr.add (Addr.mk (Array.size h) 0 none) 0) = some (Value.int .i64 n159) ∧ ∃ n160 : Int, rd h149 (Addr.add (Addr.mk (Array.size h) 0 none) 1) = some (Value.int .i64 n160) ∧ ∃ x161 : Nat, rd h149 (Addr.add (Addr.mk (Array.size h) 0 none) 2) = some (Value.float .f64 x161) ∧ ∃ s162 : ByteArray, rd h149 (Addr.add (Addr.mk (Array.size h) 0 none) 3) = some (Value.string s162) ∧ S_liveryref02_Compare n155 n156 x157 s158 n159 n160 x161 s162 h149 fun (vs163 : List Value) (h164 : Hp) =>
                          ∃ n165 : Int, vs163 = [(Value.int .i64 n165)] ∧
                          ∀ J166 : List Value → Hp → Prop, (∀ n167 : Int, ∀ h168 : Hp, (∀ J169 : List Value → Hp → Prop, (∀ b170 : Bool, ∀ h171 : Hp, ((if b170 = true then
                                    (nilW l17.a fun a172 => ixOk n148 l17.n (∃ n173 : Int, rd h171 (Addr.add (Addr.add a172 (Int.toNat n148 * 10)) 1) = some (Value.int .i64 n173) ∧
                                        S_liverykeep_Has ⟨l143.a, l143.n, l143.c⟩ n173 h171 fun (vs174 : List Value) (h175 : Hp) =>
                                        ∃ b176 : Bool, vs174 = [(Value.bool b176)] ∧
                                        (if (!b176) = true then
                                          (Q [(Value.bool false)] h175) else
                                          (J150 [(Value.int .i64 n167), (Value.int .i64 (IntKind.wrap .i64 (n147 + (1 : Int))))] h175)))) else
                                    (J150 [(Value.int .i64 n167), (Value.int .i64 n147)] h171))) → J169 [(Value.bool b170)] h171) →
                              nilW l17.a fun a177 => ixOk n148 l17.n (∃ n178 : Int, rd h168 (Addr.add (Addr.add (Addr.add a177 (Int.toNat n148 * 10)) 2) 0) = some (Value.int .i64 n178) ∧ ∃ n179 : Int, rd h168 (Addr.add (Addr.add (Addr.add a177 (Int.toNat n148 * 10)) 2) 1) = some (Value.int .i64 n179) ∧ ∃ x180 : Nat, rd h168 (Addr.add (Addr.add (Addr.add a177 (Int.toNat n148 * 10)) 2) 2) = some (Value.float .f64 x180) ∧ ∃ s181 : ByteArray, rd h168 (Addr.add (Addr.add (Addr.add a177 (Int.toNat n148 * 10)) 2) 3) = some (Value.string s181) ∧ ∃ n182 : Int, rd h168 (Addr.add (Addr.mk (Array.size h) 0 none) 0) = some (Value.int .i64 n182) ∧ ∃ n183 : Int, rd h168 (Addr.add (Addr.mk (Array.size h) 0 none) 1) = some (Value.int .i64 n183) ∧ ∃ x184 : Nat, rd h168 (Addr.add (Addr.mk (Array.size h) 0 none) 2) = some (Value.float .f64 x184) ∧ ∃ s185 : ByteArray, rd h168 (Addr.add (Addr.mk (Array.size h) 0 none) 3) = some (Value.string s185) ∧ S_liveryref02_Compare n178 n179 x180 s181 n182 n183 x184 s185 h168 fun (vs186 : List Value) (h187 : Hp) =>
                                ∃ n188 : Int, vs186 = [(Value.int .i64 n188)] ∧
                                (if (decide (n188 ≥ (0 : Int))) = true then (nilW l17.a fun a189 => ixOk n148 l17.n (∃ n190 : Int, rd h187 (Addr.add (Addr.add (Addr.add a189 (Int.toNat n148 * 10)) 2) 0) = some (Value.int .i64 n190) ∧ ∃ n191 : Int, rd h187 (Addr.add (Addr.add (Addr.add a189 (Int.toNat n148 * 10)) 2) 1) = some (Value.int .i64 n191) ∧ ∃ x192 : Nat, rd h187 (Addr.add (Addr.add (Addr.add a189 (Int.toNat n148 * 10)) 2) 2) = some (Value.float .f64 x192) ∧ ∃ s193 : ByteArray, rd h187 (Addr.add (Addr.add (Addr.add a189 (Int.toNat n148 * 10)) 2) 3) = some (Value.string s193) ∧ ∃ n194 : Int, rd h187 (Addr.add (Addr.mk (Array.size h1) 0 none) 0) = some (Value.int .i64 n194) ∧ ∃ n195 : Int, rd h187 (Addr.add (Addr.mk (Array.size h1) 0 none) 1) = some (Value.int .i64 n195) ∧ ∃ x196 : Nat, rd h187 (Addr.add (Addr.mk (Array.size h1) 0 none) 2) = some (Value.float .f64 x196) ∧ ∃ s197 : ByteArray, rd h187 (Addr.add (Addr.mk (Array.size h1) 0 none) 3) = some (Value.string s197) ∧ S_liveryref02_Compare n190 n191 x192 s193 n194 n195 x196 s197 h187 fun (vs198 : List Value) (h199 : Hp) =>
                                      ∃ n200 : Int, vs198 = [(Value.int .i64 n200)] ∧
                                      J169 [(Value.bool (decide (n200 < (0 : Int))))] h199)) else
                                  (J169 [(Value.bool false)] h187)))) → J166 [(Value.int .i64 n167)] h168) →
                          (if (n165 == (0 : Int)) = true then
                            (nilW l17.a fun a201 => ixOk n148 l17.n (∃ n202 : Int, rd h164 (Addr.add (Addr.add a201 (Int.toNat n148 * 10)) 1) = some (Value.int .i64 n202) ∧
                                S_liverykeep_Has ⟨l131.a, l131.n, l131.c⟩ n202 h164 fun (vs203 : List Value) (h204 : Hp) =>
                                ∃ b205 : Bool, vs203 = [(Value.bool b205)] ∧
                                (if (!b205) = true then
                                  (Q [(Value.bool false)] h204) else
                                  (J166 [(Value.int .i64 (IntKind.wrap .i64 (n146 + (1 : Int))))] h204)))) else
                            (J166 [(Value.int .i64 n146)] h164)))) else
                      (∀ X206 : List Value → Hp → Prop, (∀ n207 : Int, ∀ h208 : Hp, ((if (decide (n207 < (l131.n : Int))) = true then
                              (nilW l131.a fun a209 => ixOk (IntKind.wrap .i64 (n207 - (1 : Int))) l131.n (∃ n210 : Int, rd h208 (Addr.add a209 (Int.toNat (IntKind.wrap .i64 (n207 - (1 : Int))) * 1)) = some (Value.int .i64 n210) ∧
                                  nilW l131.a fun a211 => ixOk n207 l131.n (∃ n212 : Int, rd h208 (Addr.add a211 (Int.toNat n207 * 1)) = some (Value.int .i64 n212) ∧
                                    (if (decide (n210 ≥ n212)) = true then
                                      (Q [(Value.bool false)] h208) else
                                      (X206 [(Value.int .i64 (IntKind.wrap .i64 (n207 + (1 : Int))))] h208))))) else
                              ((if ((l131.n : Int) == n146) = true then ((if ((l143.n : Int) == n147) = true then (S_index_Index_Len p5 h208 fun (vs213 : List Value) (h214 : Hp) =>
                                        ∃ n215 : Int, vs213 = [(Value.int .i64 n215)] ∧
                                        (if (n215 == (l17.n : Int)) = true then (S_liverylaw11_wakes  h214 fun (vs216 : List Value) (h217 : Hp) =>
                                            ∃ b218 : Bool, vs216 = [(Value.bool b218)] ∧
                                            Q [(Value.bool b218)] h217) else
                                          (Q [(Value.bool false)] h214))) else
                                      (Q [(Value.bool false)] h208))) else
                                  (Q [(Value.bool false)] h208))))) → X206 [(Value.int .i64 n207)] h208) →
                        X206 [(Value.int .i64 (1 : Int))] h149))) → X145 [(Value.int .i64 n146), (Value.int .i64 n147), (Value.int .i64 n148)] h149) →
                X145 [(Value.int .i64 (0 : Int)), (Value.int .i64 (0 : Int)), (Value.int .i64 (0 : Int))] h142))) → X16 [(Value.slice l17.a l17.n l17.c), (Value.int .i64 n18)] h19) →
        X16 [(Value.slice none 0 0), (Value.int .i64 (0 : Int))] h9))) → J7 [(Value.bool b8)] h9) →
(if (n6 != (0 : Int)) = true then (J7 [(Value.bool true)] h4) else
  (S_liverylaw11_fair ⟨g0_l.a, g0_l.n, g0_l.c⟩ h4 fun (vs219 : List Value) (h220 : Hp) =>
    ∃ b221 : Bool, vs219 = [(Value.bool b221)] ∧
    (if (!b221) = true then (J7 [(Value.bool true)] h220) else
      (∃ n222 : Int, rd h220 (Addr.add (Addr.mk (Array.size h) 0 none) 0) = some (Value.int .i64 n222) ∧ ∃ n223 : Int, rd h220 (Addr.add (Addr.mk (Array.size h) 0 none) 1) = some (Value.int .i64 n223) ∧ ∃ x224 : Nat, rd h220 (Addr.add (Addr.mk (Array.size h) 0 none) 2) = some (Value.float .f64 x224) ∧ ∃ s225 : ByteArray, rd h220 (Addr.add (Addr.mk (Array.size h) 0 none) 3) = some (Value.string s225) ∧ S_liveryref02_Good n222 n223 x224 s225 h220 fun (vs226 : List Value) (h227 : Hp) =>
        ∃ b228 : Bool, vs226 = [(Value.bool b228)] ∧
        (if (!b228) = true then (J7 [(Value.bool true)] h227) else
          (∃ n229 : Int, rd h227 (Addr.add (Addr.mk (Array.size h1) 0 none) 0) = some (Value.int .i64 n229) ∧ ∃ n230 : Int, rd h227 (Addr.add (Addr.mk (Array.size h1) 0 none) 1) = some (Value.int .i64 n230) ∧ ∃ x231 : Nat, rd h227 (Addr.add (Addr.mk (Array.size h1) 0 none) 2) = some (Value.float .f64 x231) ∧ ∃ s232 : ByteArray, rd h227 (Addr.add (Addr.mk (Array.size h1) 0 none) 3) = some (Value.string s232) ∧ S_liveryref02_Good n229 n230 x231 s232 h227 fun (vs233 : List Value) (h234 : Hp) =>
            ∃ b235 : Bool, vs233 = [(Value.bool b235)] ∧
            J7 [(Value.bool (!b235))] h234))))))
def A_liverylaw11_IndexFinds : Ann := (.mk none ⟨[], []⟩ .nil (.mk none ⟨[], []⟩ .nil (.mk none ⟨[], []⟩ (.mk none ⟨[], []⟩ (.mk (some ⟨[0, 4, 5, 7, 8], [(45, (.c .bool))]⟩) ⟨[], []⟩ .nil .nil) (.mk none ⟨[], []⟩ (.mk none ⟨[], []⟩ (.mk (some ⟨[], [(6, (.c .bool))]⟩) ⟨[], []⟩ .nil .nil) .nil) .nil)) (.mk none ⟨[], []⟩ .nil (.mk none ⟨[], []⟩ (.mk none ⟨[], []⟩ .nil (.mk none ⟨[], []⟩ (.mk none ⟨[0, 4, 5, 7], [(9, (.c .sl)), (10, (.c (.int .i64)))]⟩ (.mk none ⟨[], []⟩ .nil (.mk none ⟨[], []⟩ (.mk (some ⟨[0, 4, 5, 7, 10], [(9, (.c .sl))]⟩) ⟨[], []⟩ (.mk none ⟨[], []⟩ .nil (.mk none ⟨[], []⟩ (.mk none ⟨[], []⟩ .nil (.mk none ⟨[], []⟩ (.mk none ⟨[], []⟩ (.mk none ⟨[], []⟩ .nil (.mk none ⟨[], []⟩ .nil (.mk (some ⟨[0, 4, 5, 7, 10], [(9, (.c .sl))]⟩) ⟨[], []⟩ .nil .nil))) .nil) .nil)) (.mk none ⟨[], []⟩ .nil (.mk none ⟨[], []⟩ .nil (.mk none ⟨[], []⟩ (.mk none ⟨[], []⟩ .nil (.mk none ⟨[], []⟩ (.mk none ⟨[0, 4, 5, 7, 9, 10, 11], [(15, (.c .sl)), (16, (.c (.int .i64)))]⟩ (.mk none ⟨[], []⟩ .nil (.mk none ⟨[], []⟩ (.mk (some ⟨[0, 4, 5, 7, 9, 10, 11, 16], [(15, (.c .sl))]⟩) ⟨[], []⟩ (.mk none ⟨[], []⟩ (.mk (some ⟨[0, 4, 5, 7, 9, 10, 11, 15, 16], [(116, (.c .bool))]⟩) ⟨[], []⟩ .nil .nil) .nil) .nil) .nil)) .nil) .nil)) .nil))))) .nil) .nil)) .nil) .nil)) (.mk none ⟨[], []⟩ .nil (.mk none ⟨[], []⟩ .nil (.mk none ⟨[], []⟩ .nil (.mk none ⟨[], []⟩ (.mk none ⟨[], []⟩ .nil (.mk none ⟨[], []⟩ (.mk none ⟨[4, 5, 7, 9, 17, 19], [(21, (.c (.int .i64))), (22, (.c (.int .i64))), (23, (.c (.int .i64)))]⟩ (.mk none ⟨[], []⟩ .nil (.mk none ⟨[], []⟩ (.mk (some ⟨[4, 5, 7, 9, 17, 19, 23], [(21, (.c (.int .i64))), (22, (.c (.int .i64)))]⟩) ⟨[], []⟩ (.mk none ⟨[], []⟩ (.mk none ⟨[], []⟩ .nil (.mk (some ⟨[4, 5, 7, 9, 17, 19, 22, 23], [(21, (.c (.int .i64)))]⟩) ⟨[], []⟩ .nil .nil)) (.mk none ⟨[], []⟩ (.mk (some ⟨[4, 5, 7, 9, 17, 19, 21, 22, 23], [(179, (.c .bool))]⟩) ⟨[], []⟩ .nil .nil) .nil)) .nil) .nil)) .nil) .nil)) (.mk none ⟨[], []⟩ (.mk none ⟨[], []⟩ .nil (.mk none ⟨[], []⟩ (.mk none ⟨[7, 9, 17, 19, 21, 22], [(24, (.c (.int .i64)))]⟩ .nil .nil) .nil)) .nil))))))))))
theorem E_liverylaw11_IndexFinds (g0_l : Sl) (g1_v_0 : Int) (g1_v_1 : Int) (g1_v_2 : Nat) (g1_v_3 : ByteArray) (g2_w_0 : Int) (g2_w_1 : Int) (g2_w_2 : Nat) (g2_w_3 : ByteArray) (h : Hp) (Q : List Value → Hp → Prop) : cw PP 226 (fun _ => []) (bodyOf Tryd.f4) A_liverylaw11_IndexFinds (finQ PP (Tryd.f4.results.toList) Q) (argFr [(Value.slice g0_l.a g0_l.n g0_l.c), (Value.agg #[(Value.int .i64 g1_v_0), (Value.int .i64 g1_v_1), (Value.float .f64 g1_v_2), (Value.string g1_v_3)]), (Value.agg #[(Value.int .i64 g2_w_0), (Value.int .i64 g2_w_1), (Value.float .f64 g2_w_2), (Value.string g2_w_3)])]) h = F_liverylaw11_IndexFinds g0_l g1_v_0 g1_v_1 g1_v_2 g1_v_3 g2_w_0 g2_w_1 g2_w_2 g2_w_3 h Q := by kernel_rfl
theorem O_liverylaw11_IndexFinds (g0_l : Sl) (g1_v_0 : Int) (g1_v_1 : Int) (g1_v_2 : Nat) (g1_v_3 : ByteArray) (g2_w_0 : Int) (g2_w_1 : Int) (g2_w_2 : Nat) (g2_w_3 : ByteArray) {h : Hp} {Q : List Value → Hp → Prop} (H : F_liverylaw11_IndexFinds g0_l g1_v_0 g1_v_1 g1_v_2 g1_v_3 g2_w_0 g2_w_1 g2_w_2 g2_w_3 h Q) : S_liverylaw11_IndexFinds g0_l g1_v_0 g1_v_1 g1_v_2 g1_v_3 g2_w_0 g2_w_1 g2_w_2 g2_w_3 h Q :=
  fn_of_cw (hs := (fun _ => [])) (ann := A_liverylaw11_IndexFinds) (args := [(Value.slice g0_l.a g0_l.n g0_l.c), (Value.agg #[(Value.int .i64 g1_v_0), (Value.int .i64 g1_v_1), (Value.float .f64 g1_v_2), (Value.string g1_v_3)]), (Value.agg #[(Value.int .i64 g2_w_0), (Value.int .i64 g2_w_1), (Value.float .f64 g2_w_2), (Value.string g2_w_3)])]) mixedPP Tryd.func4 (c := bodyOf Tryd.f4) (by kernel_rfl) (by kernel_rfl) (by kernel_rfl) (Eq.mpr (E_liverylaw11_IndexFinds g0_l g1_v_0 g1_v_1 g1_v_2 g1_v_3 g2_w_0 g2_w_1 g2_w_2 g2_w_3 h Q) H)
def F_leaf_Leaves_All (g0_x : Option Addr) (h : Hp) (Q : List Value → Hp → Prop) : Prop :=
(if (Option.isNone g0_x) = true then
  (Q [(Value.slice none 0 0)] h) else
  (nilW g0_x fun a1 => ∃ l2 : Sl, rd h (Addr.add a1 1) = some (Value.slice l2.a l2.n l2.c) ∧
    ∀ X3 : List Value → Hp → Prop, (∀ l4 : Sl, ∀ n5 : Int, ∀ h6 : Hp, ((if (decide (n5 < (l2.n : Int))) = true then
          (nilW l2.a fun a7 => ixOk n5 l2.n (∃ p8 : Option Addr, rd h6 (Addr.add a7 (Int.toNat n5 * 1)) = some (Value.pointer p8) ∧
              nilW p8 fun a9 => ∃ n10 : Int, rd h6 (Addr.add a9 0) = some (Value.int .i64 n10) ∧
              wth (Array.push h6 (Obj.cells #[(Value.int .i64 n10)] T_int)) fun h11 =>
              ∃ cs14 : List Value, cellsAt h11 (some (Addr.mk (Array.size h6) 0 none)) (1 * 1) cs14 ∧ appS PP T_int 8 1 h11 ⟨l4.a, l4.n, l4.c⟩ 1 cs14 fun (l12 : Sl) (h13 : Hp) =>
              X3 [(Value.slice l12.a l12.n l12.c), (Value.int .i64 (IntKind.wrap .i64 (n5 + (1 : Int))))] h13)) else
          (Q [(Value.slice l4.a l4.n l4.c)] h6))) → X3 [(Value.slice l4.a l4.n l4.c), (Value.int .i64 n5)] h6) →
    X3 [(Value.slice none 0 0), (Value.int .i64 (0 : Int))] h))
def A_leaf_Leaves_All : Ann := (.mk none ⟨[], []⟩ .nil (.mk none ⟨[], []⟩ .nil (.mk none ⟨[], []⟩ .nil (.mk none ⟨[], []⟩ (.mk none ⟨[], []⟩ .nil (.mk none ⟨[], []⟩ (.mk none ⟨[11, 12], [(3, (.c .sl)), (13, (.c (.int .i64)))]⟩ .nil .nil) .nil)) .nil))))
theorem E_leaf_Leaves_All (g0_x : Option Addr) (h : Hp) (Q : List Value → Hp → Prop) : cw PP 26 (fun _ => []) (bodyOf Tryd.f33) A_leaf_Leaves_All (finQ PP (Tryd.f33.results.toList) Q) (argFr [(Value.pointer g0_x)]) h = F_leaf_Leaves_All g0_x h Q := by kernel_rfl
theorem O_leaf_Leaves_All (g0_x : Option Addr) {h : Hp} {Q : List Value → Hp → Prop} (H : F_leaf_Leaves_All g0_x h Q) : S_leaf_Leaves_All g0_x h Q :=
  fn_of_cw (hs := (fun _ => [])) (ann := A_leaf_Leaves_All) (args := [(Value.pointer g0_x)]) mixedPP Tryd.func33 (c := bodyOf Tryd.f33) (by kernel_rfl) (by kernel_rfl) (by kernel_rfl) (Eq.mpr (E_leaf_Leaves_All g0_x h Q) H)
def F_index_Index_Leaves (g0_x : Option Addr) (h : Hp) (Q : List Value → Hp → Prop) : Prop :=
(if (Option.isNone g0_x) = true then
  (Q [(Value.slice none 0 0)] h) else
  (nilW g0_x fun a1 => ∃ p2 : Option Addr, rd h (Addr.add a1 0) = some (Value.pointer p2) ∧
    S_leaf_Leaves_All p2 h fun (vs3 : List Value) (h4 : Hp) =>
    ∃ l5 : Sl, vs3 = [(Value.slice l5.a l5.n l5.c)] ∧
    Q [(Value.slice l5.a l5.n l5.c)] h4))
def A_index_Index_Leaves : Ann := .nil
theorem E_index_Index_Leaves (g0_x : Option Addr) (h : Hp) (Q : List Value → Hp → Prop) : cw PP 10 (fun _ => []) (bodyOf Tryd.f20) A_index_Index_Leaves (finQ PP (Tryd.f20.results.toList) Q) (argFr [(Value.pointer g0_x)]) h = F_index_Index_Leaves g0_x h Q := by kernel_rfl
theorem O_index_Index_Leaves (g0_x : Option Addr) {h : Hp} {Q : List Value → Hp → Prop} (H : F_index_Index_Leaves g0_x h Q) : S_index_Index_Leaves g0_x h Q :=
  fn_of_cw (hs := (fun _ => [])) (ann := A_index_Index_Leaves) (args := [(Value.pointer g0_x)]) mixedPP Tryd.func20 (c := bodyOf Tryd.f20) (by kernel_rfl) (by kernel_rfl) (by kernel_rfl) (Eq.mpr (E_index_Index_Leaves g0_x h Q) H)
def F_liverylaw11_IndexNone (g0_v_0 : Int) (g0_v_1 : Int) (g0_v_2 : Nat) (g0_v_3 : ByteArray) (g1_tid : Int) (h : Hp) (Q : List Value → Hp → Prop) : Prop :=
wth (Array.push h (Obj.cells #[(Value.int .i64 g0_v_0), (Value.int .i64 g0_v_1), (Value.float .f64 g0_v_2), (Value.string g0_v_3)] T_api_Value)) fun h1 =>
∃ n2 : Int, rd h1 (Addr.add (Addr.mk (Array.size h) 0 none) 0) = some (Value.int .i64 n2) ∧ ∃ n3 : Int, rd h1 (Addr.add (Addr.mk (Array.size h) 0 none) 1) = some (Value.int .i64 n3) ∧ ∃ x4 : Nat, rd h1 (Addr.add (Addr.mk (Array.size h) 0 none) 2) = some (Value.float .f64 x4) ∧ ∃ s5 : ByteArray, rd h1 (Addr.add (Addr.mk (Array.size h) 0 none) 3) = some (Value.string s5) ∧ S_liverykeep_LargeValue n2 n3 x4 s5 h1 fun (vs6 : List Value) (h7 : Hp) =>
∃ b8 : Bool, vs6 = [(Value.bool b8)] ∧
(if b8 = true then
  (S_liverylaw11_wakes  h7 fun (vs9 : List Value) (h10 : Hp) =>
    ∃ b11 : Bool, vs9 = [(Value.bool b11)] ∧
    Q [(Value.bool b11)] h10) else
  (∃ n12 : Int, rd h7 (Addr.add (Addr.mk (Array.size h) 0 none) 0) = some (Value.int .i64 n12) ∧ ∃ n13 : Int, rd h7 (Addr.add (Addr.mk (Array.size h) 0 none) 1) = some (Value.int .i64 n13) ∧ ∃ x14 : Nat, rd h7 (Addr.add (Addr.mk (Array.size h) 0 none) 2) = some (Value.float .f64 x14) ∧ ∃ s15 : ByteArray, rd h7 (Addr.add (Addr.mk (Array.size h) 0 none) 3) = some (Value.string s15) ∧ S_index_Index_Add none n12 n13 x14 s15 g1_tid h7 fun (vs16 : List Value) (h17 : Hp) =>
    ∃ n18 : Int, ∃ n19 : Int, ∃ n20 : Int, ∃ n21 : Int, vs16 = [(Value.int .i64 n18), (Value.agg #[(Value.int .i64 n19), (Value.int .i64 n20)]), (Value.int .i64 n21)] ∧
    wth (Array.push h17 (Obj.cells #[(Value.int .i64 (0 : Int)), (Value.int .i64 (0 : Int))] T_leaf_Move)) fun h22 =>
    stOk h22 (Addr.mk (Array.size h17) 0 none) 2 ∧ wth (wrs h22 (Addr.mk (Array.size h17) 0 none) 0 [(Value.int .i64 n19), (Value.int .i64 n20)]) fun h23 =>
    ∃ n24 : Int, rd h23 (Addr.add (Addr.mk (Array.size h) 0 none) 0) = some (Value.int .i64 n24) ∧ ∃ n25 : Int, rd h23 (Addr.add (Addr.mk (Array.size h) 0 none) 1) = some (Value.int .i64 n25) ∧ ∃ x26 : Nat, rd h23 (Addr.add (Addr.mk (Array.size h) 0 none) 2) = some (Value.float .f64 x26) ∧ ∃ s27 : ByteArray, rd h23 (Addr.add (Addr.mk (Array.size h) 0 none) 3) = some (Value.string s27) ∧ S_index_Index_Drop none n24 n25 x26 s27 g1_tid h23 fun (vs28 : List Value) (h29 : Hp) =>
    ∃ n30 : Int, ∃ n31 : Int, ∃ n32 : Int, ∃ n33 : Int, vs28 = [(Value.int .i64 n30), (Value.agg #[(Value.int .i64 n31), (Value.int .i64 n32)]), (Value.int .i64 n33)] ∧
    wth (Array.push h29 (Obj.cells #[(Value.int .i64 (0 : Int)), (Value.int .i64 (0 : Int))] T_leaf_Move)) fun h34 =>
    stOk h34 (Addr.mk (Array.size h29) 0 none) 2 ∧ wth (wrs h34 (Addr.mk (Array.size h29) 0 none) 0 [(Value.int .i64 n31), (Value.int .i64 n32)]) fun h35 =>
    ∃ n36 : Int, rd h35 (Addr.add (Addr.mk (Array.size h) 0 none) 0) = some (Value.int .i64 n36) ∧ ∃ n37 : Int, rd h35 (Addr.add (Addr.mk (Array.size h) 0 none) 1) = some (Value.int .i64 n37) ∧ ∃ x38 : Nat, rd h35 (Addr.add (Addr.mk (Array.size h) 0 none) 2) = some (Value.float .f64 x38) ∧ ∃ s39 : ByteArray, rd h35 (Addr.add (Addr.mk (Array.size h) 0 none) 3) = some (Value.string s39) ∧ S_index_Index_Find none n36 n37 x38 s39 h35 fun (vs40 : List Value) (h41 : Hp) =>
    ∃ l42 : Sl, ∃ l43 : Sl, vs40 = [(Value.slice l42.a l42.n l42.c), (Value.slice l43.a l43.n l43.c)] ∧
    ∃ n44 : Int, rd h41 (Addr.add (Addr.mk (Array.size h) 0 none) 0) = some (Value.int .i64 n44) ∧ ∃ n45 : Int, rd h41 (Addr.add (Addr.mk (Array.size h) 0 none) 1) = some (Value.int .i64 n45) ∧ ∃ x46 : Nat, rd h41 (Addr.add (Addr.mk (Array.size h) 0 none) 2) = some (Value.float .f64 x46) ∧ ∃ s47 : ByteArray, rd h41 (Addr.add (Addr.mk (Array.size h) 0 none) 3) = some (Value.string s47) ∧ ∃ n48 : Int, rd h41 (Addr.add (Addr.mk (Array.size h) 0 none) 0) = some (Value.int .i64 n48) ∧ ∃ n49 : Int, rd h41 (Addr.add (Addr.mk (Array.size h) 0 none) 1) = some (Value.int .i64 n49) ∧ ∃ x50 : Nat, rd h41 (Addr.add (Addr.mk (Array.size h) 0 none) 2) = some (Value.float .f64 x50) ∧ ∃ s51 : ByteArray, rd h41 (Addr.add (Addr.mk (Array.size h) 0 none) 3) = some (Value.string s51) ∧ S_index_Index_Range none n44 n45 x46 s47 n48 n49 x50 s51 h41 fun (vs52 : List Value) (h53 : Hp) =>
    ∃ l54 : Sl, ∃ l55 : Sl, vs52 = [(Value.slice l54.a l54.n l54.c), (Value.slice l55.a l55.n l55.c)] ∧
    (if (n18 == (0 : Int)) = true then (∃ n56 : Int, rd h53 (Addr.add (Addr.mk (Array.size h17) 0 none) 1) = some (Value.int .i64 n56) ∧
        (if (n56 == (0 : Int)) = true then ((if (n21 == (1 : Int)) = true then ((if (n30 == (0 : Int)) = true then (∃ n57 : Int, rd h53 (Addr.add (Addr.mk (Array.size h29) 0 none) 1) = some (Value.int .i64 n57) ∧
                    (if (n57 == (0 : Int)) = true then ((if (n33 == (1 : Int)) = true then ((if ((l42.n : Int) == (0 : Int)) = true then ((if ((l43.n : Int) == (0 : Int)) = true then ((if ((l54.n : Int) == (0 : Int)) = true then ((if ((l55.n : Int) == (0 : Int)) = true then (∃ n58 : Int, rd h53 (Addr.add (Addr.mk (Array.size h) 0 none) 0) = some (Value.int .i64 n58) ∧ ∃ n59 : Int, rd h53 (Addr.add (Addr.mk (Array.size h) 0 none) 1) = some (Value.int .i64 n59) ∧ ∃ x60 : Nat, rd h53 (Addr.add (Addr.mk (Array.size h) 0 none) 2) = some (Value.float .f64 x60) ∧ ∃ s61 : ByteArray, rd h53 (Addr.add (Addr.mk (Array.size h) 0 none) 3) = some (Value.string s61) ∧ S_index_Index_Has none n58 n59 x60 s61 g1_tid h53 fun (vs62 : List Value) (h63 : Hp) =>
                                            ∃ b64 : Bool, vs62 = [(Value.bool b64)] ∧
                                            (if (!b64) = true then (S_index_Index_Len none h63 fun (vs65 : List Value) (h66 : Hp) =>
                                                ∃ n67 : Int, vs65 = [(Value.int .i64 n67)] ∧
                                                (if (n67 == (0 : Int)) = true then (S_index_Index_Leaves none h66 fun (vs68 : List Value) (h69 : Hp) =>
                                                    ∃ l70 : Sl, vs68 = [(Value.slice l70.a l70.n l70.c)] ∧
                                                    (if ((l70.n : Int) == (0 : Int)) = true then (S_liverylaw11_wakes  h69 fun (vs71 : List Value) (h72 : Hp) =>
                                                        ∃ b73 : Bool, vs71 = [(Value.bool b73)] ∧
                                                        Q [(Value.bool b73)] h72) else
                                                      (Q [(Value.bool false)] h69))) else
                                                  (Q [(Value.bool false)] h66))) else
                                              (Q [(Value.bool false)] h63))) else
                                          (Q [(Value.bool false)] h53))) else
                                      (Q [(Value.bool false)] h53))) else
                                  (Q [(Value.bool false)] h53))) else
                              (Q [(Value.bool false)] h53))) else
                          (Q [(Value.bool false)] h53))) else
                      (Q [(Value.bool false)] h53))) else
                  (Q [(Value.bool false)] h53))) else
              (Q [(Value.bool false)] h53))) else
          (Q [(Value.bool false)] h53))) else
      (Q [(Value.bool false)] h53))))
def A_liverylaw11_IndexNone : Ann := .nil
theorem E_liverylaw11_IndexNone (g0_v_0 : Int) (g0_v_1 : Int) (g0_v_2 : Nat) (g0_v_3 : ByteArray) (g1_tid : Int) (h : Hp) (Q : List Value → Hp → Prop) : cw PP 113 (fun _ => []) (bodyOf Tryd.f5) A_liverylaw11_IndexNone (finQ PP (Tryd.f5.results.toList) Q) (argFr [(Value.agg #[(Value.int .i64 g0_v_0), (Value.int .i64 g0_v_1), (Value.float .f64 g0_v_2), (Value.string g0_v_3)]), (Value.int .i64 g1_tid)]) h = F_liverylaw11_IndexNone g0_v_0 g0_v_1 g0_v_2 g0_v_3 g1_tid h Q := by kernel_rfl
theorem O_liverylaw11_IndexNone (g0_v_0 : Int) (g0_v_1 : Int) (g0_v_2 : Nat) (g0_v_3 : ByteArray) (g1_tid : Int) {h : Hp} {Q : List Value → Hp → Prop} (H : F_liverylaw11_IndexNone g0_v_0 g0_v_1 g0_v_2 g0_v_3 g1_tid h Q) : S_liverylaw11_IndexNone g0_v_0 g0_v_1 g0_v_2 g0_v_3 g1_tid h Q :=
  fn_of_cw (hs := (fun _ => [])) (ann := A_liverylaw11_IndexNone) (args := [(Value.agg #[(Value.int .i64 g0_v_0), (Value.int .i64 g0_v_1), (Value.float .f64 g0_v_2), (Value.string g0_v_3)]), (Value.int .i64 g1_tid)]) mixedPP Tryd.func5 (c := bodyOf Tryd.f5) (by kernel_rfl) (by kernel_rfl) (by kernel_rfl) (Eq.mpr (E_liverylaw11_IndexNone g0_v_0 g0_v_1 g0_v_2 g0_v_3 g1_tid h Q) H)
def F_leaf_Leaves_Range (g0_x : Option Addr) (g1_from : ByteArray) (g2_to : ByteArray) (h : Hp) (Q : List Value → Hp → Prop) : Prop :=
∀ J1 : List Value → Hp → Prop, (∀ b2 : Bool, ∀ h3 : Hp, ((if b2 = true then
      (Q [(Value.slice none 0 0), (Value.slice none 0 0)] h3) else
      (nilW g0_x fun a4 => ∃ l5 : Sl, rd h3 (Addr.add a4 1) = some (Value.slice l5.a l5.n l5.c) ∧
        ∀ J6 : List Value → Hp → Prop, (∀ n7 : Int, ∀ h8 : Hp, (nilW g0_x fun a9 => ∃ l10 : Sl, rd h8 (Addr.add a9 1) = some (Value.slice l10.a l10.n l10.c) ∧
            S_leaf_Leaves_at g0_x g1_from h8 fun (vs11 : List Value) (h12 : Hp) =>
            ∃ n13 : Int, vs11 = [(Value.int .i64 n13)] ∧
            rd h12 (Addr.add a9 1) = some (Value.slice l10.a l10.n l10.c) ∧ (0 ≤ n13 ∧ n13 ≤ (IntKind.wrap .i64 (n7 + (1 : Int))) ∧ (IntKind.wrap .i64 (n7 + (1 : Int))) ≤ (l10.c : Nat)) ∧ ∀ X14 : List Value → Hp → Prop, (∀ l15 : Sl, ∀ l16 : Sl, ∀ n17 : Int, ∀ h18 : Hp, ((if (decide (n17 < ((((Int.toNat (IntKind.wrap .i64 (n7 + (1 : Int)))) - (Int.toNat n13)) : Nat) : Int))) = true then
                  (nilW (slAd l10.a (Int.toNat n13) l10.c 1) fun a19 => ixOk n17 ((Int.toNat (IntKind.wrap .i64 (n7 + (1 : Int)))) - (Int.toNat n13)) (∃ p20 : Option Addr, rd h18 (Addr.add a19 (Int.toNat n17 * 1)) = some (Value.pointer p20) ∧
                      nilW p20 fun a21 => ∃ n22 : Int, rd h18 (Addr.add a21 0) = some (Value.int .i64 n22) ∧
                      wth (Array.push h18 (Obj.cells #[(Value.int .i64 n22)] T_int)) fun h23 =>
                      ∃ cs44 : List Value, cellsAt h23 (some (Addr.mk (Array.size h18) 0 none)) (1 * 1) cs44 ∧ appS PP T_int 8 1 h23 ⟨l16.a, l16.n, l16.c⟩ 1 cs44 fun (l24 : Sl) (h25 : Hp) =>
                      nilW p20 fun a26 => ∃ l27 : Sl, rd h25 (Addr.add a26 2) = some (Value.slice l27.a l27.n l27.c) ∧
                      ∀ X28 : List Value → Hp → Prop, (∀ l29 : Sl, ∀ n30 : Int, ∀ h31 : Hp, ((if (decide (n30 < (l27.n : Int))) = true then
                            (∀ J32 : List Value → Hp → Prop, (∀ l33 : Sl, ∀ h34 : Hp, (X28 [(Value.slice l33.a l33.n l33.c), (Value.int .i64 (IntKind.wrap .i64 (n30 + (1 : Int))))] h34) → J32 [(Value.slice l33.a l33.n l33.c)] h34) →
                              nilW l27.a fun a35 => ixOk n30 l27.n (∃ s36 : ByteArray, rd h31 (Addr.add a35 (Int.toNat n30 * 1)) = some (Value.string s36) ∧
                                ∀ J37 : List Value → Hp → Prop, (∀ b38 : Bool, ∀ h39 : Hp, ((if b38 = true then
                                      (wth (Array.push h39 (Obj.cells #[(Value.string s36)] T_string)) fun h40 =>
                                        ∃ cs43 : List Value, cellsAt h40 (some (Addr.mk (Array.size h39) 0 none)) (1 * 1) cs43 ∧ appS PP T_string 16 1 h40 ⟨l29.a, l29.n, l29.c⟩ 1 cs43 fun (l41 : Sl) (h42 : Hp) =>
                                        J32 [(Value.slice l41.a l41.n l41.c)] h42) else
                                      (J32 [(Value.slice l29.a l29.n l29.c)] h39))) → J37 [(Value.bool b38)] h39) →
                                (if (!(Op.bytesLess (ByteArray.toList s36) (ByteArray.toList g1_from))) = true then ((if ((ByteArray.toList g2_to) == (ByteArray.toList (ByteArray.mk #[]))) = true then (J37 [(Value.bool true)] h31) else
                                      (J37 [(Value.bool (Op.bytesLess (ByteArray.toList s36) (ByteArray.toList g2_to)))] h31))) else
                                  (J37 [(Value.bool false)] h31)))) else
                            (X14 [(Value.slice l29.a l29.n l29.c), (Value.slice l24.a l24.n l24.c), (Value.int .i64 (IntKind.wrap .i64 (n17 + (1 : Int))))] h31))) → X28 [(Value.slice l29.a l29.n l29.c), (Value.int .i64 n30)] h31) →
                      X28 [(Value.slice l15.a l15.n l15.c), (Value.int .i64 (0 : Int))] h25)) else
                  (Q [(Value.slice l15.a l15.n l15.c), (Value.slice l16.a l16.n l16.c)] h18))) → X14 [(Value.slice l15.a l15.n l15.c), (Value.slice l16.a l16.n l16.c), (Value.int .i64 n17)] h18) →
            X14 [(Value.slice none 0 0), (Value.slice none 0 0), (Value.int .i64 (0 : Int))] h12) → J6 [(Value.int .i64 n7)] h8) →
        (if (!((ByteArray.toList g2_to) == (ByteArray.toList (ByteArray.mk #[])))) = true then
          (S_leaf_Leaves_at g0_x g2_to h3 fun (vs45 : List Value) (h46 : Hp) =>
            ∃ n47 : Int, vs45 = [(Value.int .i64 n47)] ∧
            J6 [(Value.int .i64 n47)] h46) else
          (J6 [(Value.int .i64 (IntKind.wrap .i64 ((l5.n : Int) - (1 : Int))))] h3))))) → J1 [(Value.bool b2)] h3) →
(if (Option.isNone g0_x) = true then (J1 [(Value.bool true)] h) else
  ((if (!((ByteArray.toList g2_to) == (ByteArray.toList (ByteArray.mk #[])))) = true then (J1 [(Value.bool (Op.bytesLess (ByteArray.toList g2_to) (ByteArray.toList g1_from) || (ByteArray.toList g2_to) == (ByteArray.toList g1_from)))] h) else
      (J1 [(Value.bool false)] h))))
def A_leaf_Leaves_Range : Ann := (.mk none ⟨[], []⟩ .nil (.mk none ⟨[], []⟩ (.mk none ⟨[], []⟩ (.mk (some ⟨[0, 1, 2, 6, 7], [(23, (.c .bool))]⟩) ⟨[], []⟩ .nil .nil) .nil) (.mk none ⟨[], []⟩ .nil (.mk none ⟨[], []⟩ (.mk none ⟨[], []⟩ .nil (.mk (some ⟨[0, 1, 2, 6, 7], [(8, (.c (.int .i64)))]⟩) ⟨[], []⟩ .nil .nil)) (.mk none ⟨[], []⟩ (.mk none ⟨[], []⟩ .nil (.mk none ⟨[], []⟩ (.mk none ⟨[1, 2, 44, 45], [(6, (.c .sl)), (7, (.c .sl)), (46, (.c (.int .i64)))]⟩ (.mk none ⟨[], []⟩ .nil (.mk none ⟨[], []⟩ .nil (.mk none ⟨[], []⟩ (.mk none ⟨[], []⟩ (.mk none ⟨[], []⟩ .nil (.mk none ⟨[], []⟩ .nil (.mk none ⟨[], []⟩ .nil (.mk none ⟨[], []⟩ (.mk none ⟨[1, 2, 7, 44, 45, 46, 60, 61], [(6, (.c .sl)), (62, (.c (.int .i64)))]⟩ (.mk none ⟨[], []⟩ .nil (.mk none ⟨[], []⟩ .nil (.mk none ⟨[], []⟩ (.mk (some ⟨[1, 2, 7, 44, 45, 46, 60, 61, 62], [(6, (.c .sl))]⟩) ⟨[], []⟩ (.mk none ⟨[], []⟩ .nil (.mk none ⟨[], []⟩ (.mk (some ⟨[1, 2, 6, 7, 12, 44, 45, 46, 60, 61, 62], [(77, (.c .bool))]⟩) ⟨[], []⟩ .nil .nil) .nil)) .nil) .nil))) .nil) .nil)))) .nil) .nil))) .nil) .nil)) .nil)))))
theorem E_leaf_Leaves_Range (g0_x : Option Addr) (g1_from : ByteArray) (g2_to : ByteArray) (h : Hp) (Q : List Value → Hp → Prop) : cw PP 86 (fun _ => []) (bodyOf Tryd.f43) A_leaf_Leaves_Range (finQ PP (Tryd.f43.results.toList) Q) (argFr [(Value.pointer g0_x), (Value.string g1_from), (Value.string g2_to)]) h = F_leaf_Leaves_Range g0_x g1_from g2_to h Q := by kernel_rfl
theorem O_leaf_Leaves_Range (g0_x : Option Addr) (g1_from : ByteArray) (g2_to : ByteArray) {h : Hp} {Q : List Value → Hp → Prop} (H : F_leaf_Leaves_Range g0_x g1_from g2_to h Q) : S_leaf_Leaves_Range g0_x g1_from g2_to h Q :=
  fn_of_cw (hs := (fun _ => [])) (ann := A_leaf_Leaves_Range) (args := [(Value.pointer g0_x), (Value.string g1_from), (Value.string g2_to)]) mixedPP Tryd.func43 (c := bodyOf Tryd.f43) (by kernel_rfl) (by kernel_rfl) (by kernel_rfl) (Eq.mpr (E_leaf_Leaves_Range g0_x g1_from g2_to h Q) H)
def F_index_entries (g0_keys : Sl) (h : Hp) (Q : List Value → Hp → Prop) : Prop :=
wth (Array.push h (Obj.cells #[(Value.slice g0_keys.a g0_keys.n g0_keys.c)] T_sstring)) fun h1 =>
Q [(Value.func (.func 59) #[] #[(Value.pointer (some (Addr.mk (Array.size h) 0 none)))])] h1
def A_index_entries : Ann := .nil
theorem E_index_entries (g0_keys : Sl) (h : Hp) (Q : List Value → Hp → Prop) : cw PP 4 (fun _ => []) (bodyOf Tryd.f44) A_index_entries (finQ PP (Tryd.f44.results.toList) Q) (argFr [(Value.slice g0_keys.a g0_keys.n g0_keys.c)]) h = F_index_entries g0_keys h Q := by kernel_rfl
theorem O_index_entries (g0_keys : Sl) {h : Hp} {Q : List Value → Hp → Prop} (H : F_index_entries g0_keys h Q) : S_index_entries g0_keys h Q :=
  fn_of_cw (hs := (fun _ => [])) (ann := A_index_entries) (args := [(Value.slice g0_keys.a g0_keys.n g0_keys.c)]) mixedPP Tryd.func44 (c := bodyOf Tryd.f44) (by kernel_rfl) (by kernel_rfl) (by kernel_rfl) (Eq.mpr (E_index_entries g0_keys h Q) H)
def F_key_wide (g0_s : ByteArray) (h : Hp) (Q : List Value → Hp → Prop) : Prop :=
(if (decide ((ByteArray.size g0_s : Int) < (8 : Int))) = true then
  (Q [(Value.int .u64 (0 : Int)), (Value.string (ByteArray.mk #[])), (Value.bool false)] h) else
  (∀ X1 : List Value → Hp → Prop, (∀ n2 : Int, ∀ n3 : Int, ∀ h4 : Hp, ((if (decide (n3 < (8 : Int))) = true then
          (shOk (8 : Int) (ixOk n3 (ByteArray.size g0_s) (X1 [(Value.int .u64 (iOr .u64 (iShl .u64 n2 (8 : Int)) (IntKind.wrap .u64 (strIx g0_s n3)))), (Value.int .i64 (IntKind.wrap .i64 (n3 + (1 : Int))))] h4))) else
          ((0 ≤ (8 : Int) ∧ (8 : Int) ≤ ((ByteArray.size g0_s) : Nat)) ∧ Q [(Value.int .u64 n2), (Value.string (ByteArray.extract g0_s (Int.toNat (8 : Int)) (ByteArray.size g0_s))), (Value.bool true)] h4))) → X1 [(Value.int .u64 n2), (Value.int .i64 n3)] h4) →
    X1 [(Value.int .u64 (0 : Int)), (Value.int .i64 (0 : Int))] h))
def A_key_wide : Ann := (.mk none ⟨[], []⟩ .nil (.mk none ⟨[], []⟩ .nil (.mk none ⟨[], []⟩ (.mk none ⟨[], []⟩ .nil (.mk none ⟨[], []⟩ (.mk none ⟨[0], [(2, (.c (.int .u64))), (9, (.c (.int .i64)))]⟩ .nil .nil) .nil)) .nil)))
theorem E_key_wide (g0_s : ByteArray) (h : Hp) (Q : List Value → Hp → Prop) : cw PP 23 (fun _ => []) (bodyOf Tryd.f86) A_key_wide (finQ PP (Tryd.f86.results.toList) Q) (argFr [(Value.string g0_s)]) h = F_key_wide g0_s h Q := by kernel_rfl
theorem O_key_wide (g0_s : ByteArray) {h : Hp} {Q : List Value → Hp → Prop} (H : F_key_wide g0_s h Q) : S_key_wide g0_s h Q :=
  fn_of_cw (hs := (fun _ => [])) (ann := A_key_wide) (args := [(Value.string g0_s)]) mixedPP Tryd.func86 (c := bodyOf Tryd.f86) (by kernel_rfl) (by kernel_rfl) (by kernel_rfl) (Eq.mpr (E_key_wide g0_s h Q) H)
def F_float_Is (g0_f : Nat) (h : Hp) (Q : List Value → Hp → Prop) : Prop :=
S_math_Float64bits g0_f h fun (vs1 : List Value) (h2 : Hp) =>
∃ n3 : Int, vs1 = [(Value.int .u64 n3)] ∧
S_float_Canon g0_f h2 fun (vs4 : List Value) (h5 : Hp) =>
∃ x6 : Nat, vs4 = [(Value.float .f64 x6)] ∧
S_math_Float64bits x6 h5 fun (vs7 : List Value) (h8 : Hp) =>
∃ n9 : Int, vs7 = [(Value.int .u64 n9)] ∧
Q [(Value.bool (n3 == n9))] h8
def A_float_Is : Ann := .nil
theorem E_float_Is (g0_f : Nat) (h : Hp) (Q : List Value → Hp → Prop) : cw PP 9 (fun _ => []) (bodyOf Tryd.f78) A_float_Is (finQ PP (Tryd.f78.results.toList) Q) (argFr [(Value.float .f64 g0_f)]) h = F_float_Is g0_f h Q := by kernel_rfl
theorem O_float_Is (g0_f : Nat) {h : Hp} {Q : List Value → Hp → Prop} (H : F_float_Is g0_f h Q) : S_float_Is g0_f h Q :=
  fn_of_cw (hs := (fun _ => [])) (ann := A_float_Is) (args := [(Value.float .f64 g0_f)]) mixedPP Tryd.func78 (c := bodyOf Tryd.f78) (by kernel_rfl) (by kernel_rfl) (by kernel_rfl) (Eq.mpr (E_float_Is g0_f h Q) H)
def F_float_From (g0_u : Int) (h : Hp) (Q : List Value → Hp → Prop) : Prop :=
∀ J1 : List Value → Hp → Prop, (∀ n2 : Int, ∀ h3 : Hp, (S_math_Float64frombits n2 h3 fun (vs4 : List Value) (h5 : Hp) =>
    ∃ x6 : Nat, vs4 = [(Value.float .f64 x6)] ∧
    S_float_Is x6 h5 fun (vs7 : List Value) (h8 : Hp) =>
    ∃ b9 : Bool, vs7 = [(Value.bool b9)] ∧
    (if (!b9) = true then
      (Q [(Value.float .f64 0), (Value.bool false)] h8) else
      (Q [(Value.float .f64 x6), (Value.bool true)] h8))) → J1 [(Value.int .u64 n2)] h3) →
(if ((iAnd .u64 g0_u (9223372036854775808 : Int)) != (0 : Int)) = true then
  (J1 [(Value.int .u64 (iAndNot .u64 g0_u (9223372036854775808 : Int)))] h) else
  (J1 [(Value.int .u64 (iXor .u64 (IntKind.max .u64) g0_u))] h))
def A_float_From : Ann := (.mk none ⟨[], []⟩ .nil (.mk none ⟨[], []⟩ .nil (.mk none ⟨[], []⟩ (.mk none ⟨[], []⟩ .nil (.mk (some ⟨[], [(4, (.c (.int .u64)))]⟩) ⟨[], []⟩ .nil .nil)) .nil)))
theorem E_float_From (g0_u : Int) (h : Hp) (Q : List Value → Hp → Prop) : cw PP 19 (fun _ => []) (bodyOf Tryd.f87) A_float_From (finQ PP (Tryd.f87.results.toList) Q) (argFr [(Value.int .u64 g0_u)]) h = F_float_From g0_u h Q := by kernel_rfl
theorem O_float_From (g0_u : Int) {h : Hp} {Q : List Value → Hp → Prop} (H : F_float_From g0_u h Q) : S_float_From g0_u h Q :=
  fn_of_cw (hs := (fun _ => [])) (ann := A_float_From) (args := [(Value.int .u64 g0_u)]) mixedPP Tryd.func87 (c := bodyOf Tryd.f87) (by kernel_rfl) (by kernel_rfl) (by kernel_rfl) (Eq.mpr (E_float_From g0_u h Q) H)
def F_key_text (g0_s : ByteArray) (h : Hp) (Q : List Value → Hp → Prop) : Prop :=
wth (Array.push h (Obj.cells #[(Value.pointer none), (Value.slice none 0 0)] T_strings_Builder)) fun h1 =>
∀ X2 : List Value → Hp → Prop, (∀ s3 : ByteArray, ∀ h4 : Hp, (S_strings_IndexByte s3 (0 : Int) h4 fun (vs5 : List Value) (h6 : Hp) =>
    ∃ n7 : Int, vs5 = [(Value.int .i64 n7)] ∧
    ∀ J8 : List Value → Hp → Prop, (∀ b9 : Bool, ∀ h10 : Hp, ((if b9 = true then
          (Q [(Value.string (ByteArray.mk #[])), (Value.string (ByteArray.mk #[])), (Value.bool false)] h10) else
          ((0 ≤ n7 ∧ n7 ≤ ((ByteArray.size s3) : Nat)) ∧ S_strings_Builder_WriteString (some (Addr.mk (Array.size h) 0 none)) (ByteArray.extract s3 0 (Int.toNat n7)) h10 fun (vs11 : List Value) (h12 : Hp) =>
            ∃ n13 : Int, ∃ v14 : Value, vs11 = [(Value.int .i64 n13), v14] ∧
            (0 ≤ n7 ∧ n7 ≤ (IntKind.wrap .i64 (n7 + (2 : Int))) ∧ (IntKind.wrap .i64 (n7 + (2 : Int))) ≤ ((ByteArray.size s3) : Nat)) ∧ (if ((ByteArray.toList (ByteArray.extract s3 (Int.toNat n7) (Int.toNat (IntKind.wrap .i64 (n7 + (2 : Int)))))) == (ByteArray.toList (ByteArray.mk #[0, 1]))) = true then
              ((0 ≤ (IntKind.wrap .i64 (n7 + (2 : Int))) ∧ (IntKind.wrap .i64 (n7 + (2 : Int))) ≤ ((ByteArray.size s3) : Nat)) ∧ S_strings_Builder_String (some (Addr.mk (Array.size h) 0 none)) h12 fun (vs15 : List Value) (h16 : Hp) =>
                ∃ s17 : ByteArray, vs15 = [(Value.string s17)] ∧
                Q [(Value.string s17), (Value.string (ByteArray.extract s3 (Int.toNat (IntKind.wrap .i64 (n7 + (2 : Int)))) (ByteArray.size s3))), (Value.bool true)] h16) else
              ((if ((ByteArray.toList (ByteArray.extract s3 (Int.toNat n7) (Int.toNat (IntKind.wrap .i64 (n7 + (2 : Int)))))) == (ByteArray.toList (ByteArray.mk #[0, 255]))) = true then
                  (S_strings_Builder_WriteByte (some (Addr.mk (Array.size h) 0 none)) (0 : Int) h12 fun (vs18 : List Value) (h19 : Hp) =>
                    ∃ v20 : Value, vs18 = [v20] ∧
                    (0 ≤ (IntKind.wrap .i64 (n7 + (2 : Int))) ∧ (IntKind.wrap .i64 (n7 + (2 : Int))) ≤ ((ByteArray.size s3) : Nat)) ∧ X2 [(Value.string (ByteArray.extract s3 (Int.toNat (IntKind.wrap .i64 (n7 + (2 : Int)))) (ByteArray.size s3)))] h19) else
                  (Q [(Value.string (ByteArray.mk #[])), (Value.string (ByteArray.mk #[])), (Value.bool false)] h12))))))) → J8 [(Value.bool b9)] h10) →
    (if (decide (n7 < (0 : Int))) = true then (J8 [(Value.bool true)] h6) else
      (J8 [(Value.bool ((IntKind.wrap .i64 (n7 + (1 : Int))) == (ByteArray.size s3 : Int)))] h6))) → X2 [(Value.string s3)] h4) →
X2 [(Value.string g0_s)] h1
def A_key_text : Ann := (.mk none ⟨[], []⟩ .nil (.mk none ⟨[], []⟩ .nil (.mk none ⟨[], []⟩ (.mk none ⟨[5], [(0, (.c .str))]⟩ (.mk none ⟨[], []⟩ (.mk none ⟨[], []⟩ .nil (.mk none ⟨[], []⟩ (.mk none ⟨[], []⟩ (.mk (some ⟨[0, 5, 6], [(17, (.c .bool))]⟩) ⟨[], []⟩ .nil .nil) .nil) .nil)) .nil) .nil) .nil)))
theorem E_key_text (g0_s : ByteArray) (h : Hp) (Q : List Value → Hp → Prop) : cw PP 41 (fun _ => []) (bodyOf Tryd.f88) A_key_text (finQ PP (Tryd.f88.results.toList) Q) (argFr [(Value.string g0_s)]) h = F_key_text g0_s h Q := by kernel_rfl
theorem O_key_text (g0_s : ByteArray) {h : Hp} {Q : List Value → Hp → Prop} (H : F_key_text g0_s h Q) : S_key_text g0_s h Q :=
  fn_of_cw (hs := (fun _ => [])) (ann := A_key_text) (args := [(Value.string g0_s)]) mixedPP Tryd.func88 (c := bodyOf Tryd.f88) (by kernel_rfl) (by kernel_rfl) (by kernel_rfl) (Eq.mpr (E_key_text g0_s h Q) H)
def F_key_first (g0_k : ByteArray) (h : Hp) (Q : List Value → Hp → Prop) : Prop :=
wth (Array.push h (Obj.cells #[(Value.int .i64 (0 : Int)), (Value.int .i64 (0 : Int)), (Value.float .f64 0), (Value.string (ByteArray.mk #[]))] T_api_Value)) fun h1 =>
(if ((ByteArray.toList g0_k) == (ByteArray.toList (ByteArray.mk #[]))) = true then
  (stOk h1 (Addr.mk (Array.size h) 0 none) 4 ∧ wth (wrs h1 (Addr.mk (Array.size h) 0 none) 0 [(Value.int .i64 (0 : Int)), (Value.int .i64 (0 : Int)), (Value.float .f64 0), (Value.string (ByteArray.mk #[]))]) fun h2 =>
    ∃ n3 : Int, rd h2 (Addr.add (Addr.mk (Array.size h) 0 none) 0) = some (Value.int .i64 n3) ∧ ∃ n4 : Int, rd h2 (Addr.add (Addr.mk (Array.size h) 0 none) 1) = some (Value.int .i64 n4) ∧ ∃ x5 : Nat, rd h2 (Addr.add (Addr.mk (Array.size h) 0 none) 2) = some (Value.float .f64 x5) ∧ ∃ s6 : ByteArray, rd h2 (Addr.add (Addr.mk (Array.size h) 0 none) 3) = some (Value.string s6) ∧ Q [(Value.agg #[(Value.int .i64 n3), (Value.int .i64 n4), (Value.float .f64 x5), (Value.string s6)]), (Value.string (ByteArray.mk #[])), (Value.bool false)] h2) else
  (ixOk (0 : Int) (ByteArray.size g0_k) ((0 ≤ (1 : Int) ∧ (1 : Int) ≤ ((ByteArray.size g0_k) : Nat)) ∧ stOk h1 (Addr.add (Addr.mk (Array.size h) 0 none) 0) 1 ∧ wth (wrs h1 (Addr.add (Addr.mk (Array.size h) 0 none) 0) 0 [(Value.int .i64 (IntKind.wrap .i64 (strIx g0_k (0 : Int))))]) fun h7 =>
      ∃ n8 : Int, rd h7 (Addr.add (Addr.mk (Array.size h) 0 none) 0) = some (Value.int .i64 n8) ∧
      ∀ J9 : List Value → Hp → Prop, (∀ s10 : ByteArray, ∀ b11 : Bool, ∀ h12 : Hp, (∀ J13 : List Value → Hp → Prop, (∀ b14 : Bool, ∀ h15 : Hp, ((if b14 = true then
                (stOk h15 (Addr.mk (Array.size h) 0 none) 4 ∧ wth (wrs h15 (Addr.mk (Array.size h) 0 none) 0 [(Value.int .i64 (0 : Int)), (Value.int .i64 (0 : Int)), (Value.float .f64 0), (Value.string (ByteArray.mk #[]))]) fun h16 =>
                  ∃ n17 : Int, rd h16 (Addr.add (Addr.mk (Array.size h) 0 none) 0) = some (Value.int .i64 n17) ∧ ∃ n18 : Int, rd h16 (Addr.add (Addr.mk (Array.size h) 0 none) 1) = some (Value.int .i64 n18) ∧ ∃ x19 : Nat, rd h16 (Addr.add (Addr.mk (Array.size h) 0 none) 2) = some (Value.float .f64 x19) ∧ ∃ s20 : ByteArray, rd h16 (Addr.add (Addr.mk (Array.size h) 0 none) 3) = some (Value.string s20) ∧ Q [(Value.agg #[(Value.int .i64 n17), (Value.int .i64 n18), (Value.float .f64 x19), (Value.string s20)]), (Value.string (ByteArray.mk #[])), (Value.bool false)] h16) else
                (∃ n21 : Int, rd h15 (Addr.add (Addr.mk (Array.size h) 0 none) 0) = some (Value.int .i64 n21) ∧ ∃ n22 : Int, rd h15 (Addr.add (Addr.mk (Array.size h) 0 none) 1) = some (Value.int .i64 n22) ∧ ∃ x23 : Nat, rd h15 (Addr.add (Addr.mk (Array.size h) 0 none) 2) = some (Value.float .f64 x23) ∧ ∃ s24 : ByteArray, rd h15 (Addr.add (Addr.mk (Array.size h) 0 none) 3) = some (Value.string s24) ∧ stOk h15 (Addr.mk (Array.size h) 0 none) 4 ∧ wth (wrs h15 (Addr.mk (Array.size h) 0 none) 0 [(Value.int .i64 n21), (Value.int .i64 n22), (Value.float .f64 x23), (Value.string s24)]) fun h25 =>
                  ∃ n26 : Int, rd h25 (Addr.add (Addr.mk (Array.size h) 0 none) 0) = some (Value.int .i64 n26) ∧ ∃ n27 : Int, rd h25 (Addr.add (Addr.mk (Array.size h) 0 none) 1) = some (Value.int .i64 n27) ∧ ∃ x28 : Nat, rd h25 (Addr.add (Addr.mk (Array.size h) 0 none) 2) = some (Value.float .f64 x28) ∧ ∃ s29 : ByteArray, rd h25 (Addr.add (Addr.mk (Array.size h) 0 none) 3) = some (Value.string s29) ∧ Q [(Value.agg #[(Value.int .i64 n26), (Value.int .i64 n27), (Value.float .f64 x28), (Value.string s29)]), (Value.string s10), (Value.bool true)] h25))) → J13 [(Value.bool b14)] h15) →
          (if (!b11) = true then (J13 [(Value.bool true)] h12) else
            (∃ n30 : Int, rd h12 (Addr.add (Addr.mk (Array.size h) 0 none) 0) = some (Value.int .i64 n30) ∧ ∃ n31 : Int, rd h12 (Addr.add (Addr.mk (Array.size h) 0 none) 1) = some (Value.int .i64 n31) ∧ ∃ x32 : Nat, rd h12 (Addr.add (Addr.mk (Array.size h) 0 none) 2) = some (Value.float .f64 x32) ∧ ∃ s33 : ByteArray, rd h12 (Addr.add (Addr.mk (Array.size h) 0 none) 3) = some (Value.string s33) ∧ S_value_Good n30 n31 x32 s33 h12 fun (vs34 : List Value) (h35 : Hp) =>
              ∃ b36 : Bool, vs34 = [(Value.bool b36)] ∧
              J13 [(Value.bool (!b36))] h35))) → J9 [(Value.string s10), (Value.bool b11)] h12) →
      (if (n8 == (0 : Int)) = true then
        (J9 [(Value.string (ByteArray.extract g0_k (Int.toNat (1 : Int)) (ByteArray.size g0_k))), (Value.bool true)] h7) else
        ((if (n8 == (1 : Int)) = true then
            ((if ((ByteArray.toList (ByteArray.extract g0_k (Int.toNat (1 : Int)) (ByteArray.size g0_k))) == (ByteArray.toList (ByteArray.mk #[]))) = true then
                (stOk h7 (Addr.mk (Array.size h) 0 none) 4 ∧ wth (wrs h7 (Addr.mk (Array.size h) 0 none) 0 [(Value.int .i64 (0 : Int)), (Value.int .i64 (0 : Int)), (Value.float .f64 0), (Value.string (ByteArray.mk #[]))]) fun h37 =>
                  ∃ n38 : Int, rd h37 (Addr.add (Addr.mk (Array.size h) 0 none) 0) = some (Value.int .i64 n38) ∧ ∃ n39 : Int, rd h37 (Addr.add (Addr.mk (Array.size h) 0 none) 1) = some (Value.int .i64 n39) ∧ ∃ x40 : Nat, rd h37 (Addr.add (Addr.mk (Array.size h) 0 none) 2) = some (Value.float .f64 x40) ∧ ∃ s41 : ByteArray, rd h37 (Addr.add (Addr.mk (Array.size h) 0 none) 3) = some (Value.string s41) ∧ Q [(Value.agg #[(Value.int .i64 n38), (Value.int .i64 n39), (Value.float .f64 x40), (Value.string s41)]), (Value.string (ByteArray.mk #[])), (Value.bool false)] h37) else
                (ixOk (0 : Int) (ByteArray.size (ByteArray.extract g0_k (Int.toNat (1 : Int)) (ByteArray.size g0_k))) ((0 ≤ (1 : Int) ∧ (1 : Int) ≤ ((ByteArray.size (ByteArray.extract g0_k (Int.toNat (1 : Int)) (ByteArray.size g0_k))) : Nat)) ∧ stOk h7 (Addr.add (Addr.mk (Array.size h) 0 none) 1) 1 ∧ wth (wrs h7 (Addr.add (Addr.mk (Array.size h) 0 none) 1) 0 [(Value.int .i64 (IntKind.wrap .i64 (strIx (ByteArray.extract g0_k (Int.toNat (1 : Int)) (ByteArray.size g0_k)) (0 : Int))))]) fun h42 =>
                    J9 [(Value.string (ByteArray.extract (ByteArray.extract g0_k (Int.toNat (1 : Int)) (ByteArray.size g0_k)) (Int.toNat (1 : Int)) (ByteArray.size (ByteArray.extract g0_k (Int.toNat (1 : Int)) (ByteArray.size g0_k))))), (Value.bool true)] h42)))) else
            ((if (n8 == (2 : Int)) = true then
                (S_key_wide (ByteArray.extract g0_k (Int.toNat (1 : Int)) (ByteArray.size g0_k)) h7 fun (vs43 : List Value) (h44 : Hp) =>
                  ∃ n45 : Int, ∃ s46 : ByteArray, ∃ b47 : Bool, vs43 = [(Value.int .u64 n45), (Value.string s46), (Value.bool b47)] ∧
                  stOk h44 (Addr.add (Addr.mk (Array.size h) 0 none) 1) 1 ∧ wth (wrs h44 (Addr.add (Addr.mk (Array.size h) 0 none) 1) 0 [(Value.int .i64 (IntKind.wrap .i64 (iXor .u64 n45 (9223372036854775808 : Int))))]) fun h48 =>
                  J9 [(Value.string s46), (Value.bool b47)] h48) else
                ((if (n8 == (3 : Int)) = true then
                    (S_key_wide (ByteArray.extract g0_k (Int.toNat (1 : Int)) (ByteArray.size g0_k)) h7 fun (vs49 : List Value) (h50 : Hp) =>
                      ∃ n51 : Int, ∃ s52 : ByteArray, ∃ b53 : Bool, vs49 = [(Value.int .u64 n51), (Value.string s52), (Value.bool b53)] ∧
                      S_float_From n51 h50 fun (vs54 : List Value) (h55 : Hp) =>
                      ∃ x56 : Nat, ∃ b57 : Bool, vs54 = [(Value.float .f64 x56), (Value.bool b57)] ∧
                      (if b53 = true then (stOk h55 (Addr.add (Addr.mk (Array.size h) 0 none) 2) 1 ∧ wth (wrs h55 (Addr.add (Addr.mk (Array.size h) 0 none) 2) 0 [(Value.float .f64 x56)]) fun h58 =>
                          J9 [(Value.string s52), (Value.bool b57)] h58) else
                        (stOk h55 (Addr.add (Addr.mk (Array.size h) 0 none) 2) 1 ∧ wth (wrs h55 (Addr.add (Addr.mk (Array.size h) 0 none) 2) 0 [(Value.float .f64 x56)]) fun h59 =>
                          J9 [(Value.string s52), (Value.bool false)] h59))) else
                    ((if (n8 == (4 : Int)) = true then
                        (S_key_text (ByteArray.extract g0_k (Int.toNat (1 : Int)) (ByteArray.size g0_k)) h7 fun (vs60 : List Value) (h61 : Hp) =>
                          ∃ s62 : ByteArray, ∃ s63 : ByteArray, ∃ b64 : Bool, vs60 = [(Value.string s62), (Value.string s63), (Value.bool b64)] ∧
                          stOk h61 (Addr.add (Addr.mk (Array.size h) 0 none) 3) 1 ∧ wth (wrs h61 (Addr.add (Addr.mk (Array.size h) 0 none) 3) 0 [(Value.string s62)]) fun h65 =>
                          J9 [(Value.string s63), (Value.bool b64)] h65) else
                        (J9 [(Value.string (ByteArray.extract g0_k (Int.toNat (1 : Int)) (ByteArray.size g0_k))), (Value.bool true)] h7)))))))))))))
def A_key_first : Ann := (.mk none ⟨[], []⟩ .nil (.mk none ⟨[], []⟩ .nil (.mk none ⟨[], []⟩ .nil (.mk none ⟨[], []⟩ .nil (.mk none ⟨[], []⟩ (.mk none ⟨[], []⟩ .nil (.mk (some ⟨[2], [(3, (.c .str)), (4, (.c .bool))]⟩) ⟨[], []⟩ .nil .nil)) (.mk none ⟨[], []⟩ (.mk none ⟨[], []⟩ (.mk (some ⟨[2, 3], [(78, (.c .bool))]⟩) ⟨[], []⟩ .nil .nil) .nil) .nil))))))
theorem E_key_first (g0_k : ByteArray) (h : Hp) (Q : List Value → Hp → Prop) : cw PP 82 (fun _ => []) (bodyOf Tryd.f76) A_key_first (finQ PP (Tryd.f76.results.toList) Q) (argFr [(Value.string g0_k)]) h = F_key_first g0_k h Q := by kernel_rfl
theorem O_key_first (g0_k : ByteArray) {h : Hp} {Q : List Value → Hp → Prop} (H : F_key_first g0_k h Q) : S_key_first g0_k h Q :=
  fn_of_cw (hs := (fun _ => [])) (ann := A_key_first) (args := [(Value.string g0_k)]) mixedPP Tryd.func76 (c := bodyOf Tryd.f76) (by kernel_rfl) (by kernel_rfl) (by kernel_rfl) (Eq.mpr (E_key_first g0_k h Q) H)
def F_key_Split (g0_e : ByteArray) (h : Hp) (Q : List Value → Hp → Prop) : Prop :=
wth (Array.push h (Obj.cells #[(Value.int .i64 (0 : Int)), (Value.int .i64 (0 : Int)), (Value.float .f64 0), (Value.string (ByteArray.mk #[]))] T_api_Value)) fun h1 =>
S_key_first g0_e h1 fun (vs2 : List Value) (h3 : Hp) =>
∃ n4 : Int, ∃ n5 : Int, ∃ x6 : Nat, ∃ s7 : ByteArray, ∃ s8 : ByteArray, ∃ b9 : Bool, vs2 = [(Value.agg #[(Value.int .i64 n4), (Value.int .i64 n5), (Value.float .f64 x6), (Value.string s7)]), (Value.string s8), (Value.bool b9)] ∧
stOk h3 (Addr.mk (Array.size h) 0 none) 4 ∧ wth (wrs h3 (Addr.mk (Array.size h) 0 none) 0 [(Value.int .i64 n4), (Value.int .i64 n5), (Value.float .f64 x6), (Value.string s7)]) fun h10 =>
∀ J11 : List Value → Hp → Prop, (∀ b12 : Bool, ∀ h13 : Hp, ((if b12 = true then
      (stOk h13 (Addr.mk (Array.size h) 0 none) 4 ∧ wth (wrs h13 (Addr.mk (Array.size h) 0 none) 0 [(Value.int .i64 (0 : Int)), (Value.int .i64 (0 : Int)), (Value.float .f64 0), (Value.string (ByteArray.mk #[]))]) fun h14 =>
        ∃ n15 : Int, rd h14 (Addr.add (Addr.mk (Array.size h) 0 none) 0) = some (Value.int .i64 n15) ∧ ∃ n16 : Int, rd h14 (Addr.add (Addr.mk (Array.size h) 0 none) 1) = some (Value.int .i64 n16) ∧ ∃ x17 : Nat, rd h14 (Addr.add (Addr.mk (Array.size h) 0 none) 2) = some (Value.float .f64 x17) ∧ ∃ s18 : ByteArray, rd h14 (Addr.add (Addr.mk (Array.size h) 0 none) 3) = some (Value.string s18) ∧ Q [(Value.agg #[(Value.int .i64 n15), (Value.int .i64 n16), (Value.float .f64 x17), (Value.string s18)]), (Value.int .i64 (0 : Int)), (Value.int .i64 (11 : Int))] h14) else
      (∃ n19 : Int, rd h13 (Addr.add (Addr.mk (Array.size h) 0 none) 0) = some (Value.int .i64 n19) ∧ ∃ n20 : Int, rd h13 (Addr.add (Addr.mk (Array.size h) 0 none) 1) = some (Value.int .i64 n20) ∧ ∃ x21 : Nat, rd h13 (Addr.add (Addr.mk (Array.size h) 0 none) 2) = some (Value.float .f64 x21) ∧ ∃ s22 : ByteArray, rd h13 (Addr.add (Addr.mk (Array.size h) 0 none) 3) = some (Value.string s22) ∧ ixOk (0 : Int) (ByteArray.size s8) (shOk (8 : Int) (ixOk (1 : Int) (ByteArray.size s8) (stOk h13 (Addr.mk (Array.size h) 0 none) 4 ∧ wth (wrs h13 (Addr.mk (Array.size h) 0 none) 0 [(Value.int .i64 n19), (Value.int .i64 n20), (Value.float .f64 x21), (Value.string s22)]) fun h23 =>
              ∃ n24 : Int, rd h23 (Addr.add (Addr.mk (Array.size h) 0 none) 0) = some (Value.int .i64 n24) ∧ ∃ n25 : Int, rd h23 (Addr.add (Addr.mk (Array.size h) 0 none) 1) = some (Value.int .i64 n25) ∧ ∃ x26 : Nat, rd h23 (Addr.add (Addr.mk (Array.size h) 0 none) 2) = some (Value.float .f64 x26) ∧ ∃ s27 : ByteArray, rd h23 (Addr.add (Addr.mk (Array.size h) 0 none) 3) = some (Value.string s27) ∧ Q [(Value.agg #[(Value.int .i64 n24), (Value.int .i64 n25), (Value.float .f64 x26), (Value.string s27)]), (Value.int .i64 (iOr .i64 (iShl .i64 (IntKind.wrap .i64 (strIx s8 (0 : Int))) (8 : Int)) (IntKind.wrap .i64 (strIx s8 (1 : Int))))), (Value.int .i64 (0 : Int))] h23)))))) → J11 [(Value.bool b12)] h13) →
(if (!b9) = true then (J11 [(Value.bool true)] h10) else
  (J11 [(Value.bool ((ByteArray.size s8 : Int) != (2 : Int)))] h10))
def A_key_Split : Ann := (.mk none ⟨[], []⟩ .nil (.mk none ⟨[], []⟩ .nil (.mk none ⟨[], []⟩ (.mk none ⟨[], []⟩ (.mk (some ⟨[2, 5], [(19, (.c .bool))]⟩) ⟨[], []⟩ .nil .nil) .nil) .nil)))
theorem E_key_Split (g0_e : ByteArray) (h : Hp) (Q : List Value → Hp → Prop) : cw PP 30 (fun _ => []) (bodyOf Tryd.f60) A_key_Split (finQ PP (Tryd.f60.results.toList) Q) (argFr [(Value.string g0_e)]) h = F_key_Split g0_e h Q := by kernel_rfl
theorem O_key_Split (g0_e : ByteArray) {h : Hp} {Q : List Value → Hp → Prop} (H : F_key_Split g0_e h Q) : S_key_Split g0_e h Q :=
  fn_of_cw (hs := (fun _ => [])) (ann := A_key_Split) (args := [(Value.string g0_e)]) mixedPP Tryd.func60 (c := bodyOf Tryd.f60) (by kernel_rfl) (by kernel_rfl) (by kernel_rfl) (Eq.mpr (E_key_Split g0_e h Q) H)
def F_index_entries_1 (g0_yield_f : Nat) (g0_yield_c : Array Value) (g1_x : Addr) (h : Hp) (Q : List Value → Hp → Prop) : Prop :=
∃ l1 : Sl, rd h g1_x = some (Value.slice l1.a l1.n l1.c) ∧
∀ X2 : List Value → Hp → Prop, (∀ n3 : Int, ∀ h4 : Hp, ((if (decide (n3 < (l1.n : Int))) = true then
      (nilW l1.a fun a5 => ixOk n3 l1.n (∃ s6 : ByteArray, rd h4 (Addr.add a5 (Int.toNat n3 * 1)) = some (Value.string s6) ∧
          S_key_Split s6 h4 fun (vs7 : List Value) (h8 : Hp) =>
          ∃ n9 : Int, ∃ n10 : Int, ∃ x11 : Nat, ∃ s12 : ByteArray, ∃ n13 : Int, ∃ n14 : Int, vs7 = [(Value.agg #[(Value.int .i64 n9), (Value.int .i64 n10), (Value.float .f64 x11), (Value.string s12)]), (Value.int .i64 n13), (Value.int .i64 n14)] ∧
          wth (Array.push h8 (Obj.cells #[(Value.int .i64 (0 : Int)), (Value.int .i64 (0 : Int)), (Value.float .f64 0), (Value.string (ByteArray.mk #[]))] T_api_Value)) fun h15 =>
          stOk h15 (Addr.mk (Array.size h8) 0 none) 4 ∧ wth (wrs h15 (Addr.mk (Array.size h8) 0 none) 0 [(Value.int .i64 n9), (Value.int .i64 n10), (Value.float .f64 x11), (Value.string s12)]) fun h16 =>
          ∀ J17 : List Value → Hp → Prop, (∀ b18 : Bool, ∀ h19 : Hp, ((if b18 = true then
                (Q [] h19) else
                (X2 [(Value.int .i64 (IntKind.wrap .i64 (n3 + (1 : Int))))] h19))) → J17 [(Value.bool b18)] h19) →
          (if (n14 == (0 : Int)) = true then (Fn PP g0_yield_f ((#[] ++ #[(Value.int .i64 n13)]) ++ g0_yield_c) h16 fun (vs20 : List Value) (h21 : Hp) =>
              ∃ b22 : Bool, vs20 = [(Value.bool b22)] ∧
              J17 [(Value.bool (!b22))] h21) else
            (J17 [(Value.bool false)] h16)))) else
      (Q [] h4))) → X2 [(Value.int .i64 n3)] h4) →
X2 [(Value.int .i64 (0 : Int))] h
def A_index_entries_1 : Ann := (.mk none ⟨[], []⟩ .nil (.mk none ⟨[], []⟩ (.mk none ⟨[0, 8, 9], [(10, (.c (.int .i64)))]⟩ (.mk none ⟨[], []⟩ .nil (.mk none ⟨[], []⟩ .nil (.mk none ⟨[], []⟩ (.mk none ⟨[], []⟩ (.mk none ⟨[], []⟩ .nil (.mk none ⟨[], []⟩ .nil (.mk none ⟨[], []⟩ (.mk (some ⟨[0, 8, 9, 10], [(27, (.c .bool))]⟩) ⟨[], []⟩ .nil .nil) .nil))) .nil) .nil))) .nil) .nil))
theorem E_index_entries_1 (g0_yield_f : Nat) (g0_yield_c : Array Value) (g1_x : Addr) (h : Hp) (Q : List Value → Hp → Prop) : cw PP 29 (fun _ => []) (bodyOf Tryd.f59) A_index_entries_1 (finQ PP (Tryd.f59.results.toList) Q) (argFr [(Value.func (.func g0_yield_f) #[] g0_yield_c), (Value.pointer (some g1_x))]) h = F_index_entries_1 g0_yield_f g0_yield_c g1_x h Q := by kernel_rfl
theorem O_index_entries_1 (g0_yield_f : Nat) (g0_yield_c : Array Value) (g1_x : Addr) {h : Hp} {Q : List Value → Hp → Prop} (H : F_index_entries_1 g0_yield_f g0_yield_c g1_x h Q) : S_index_entries_1 g0_yield_f g0_yield_c g1_x h Q :=
  fn_of_cw (hs := (fun _ => [])) (ann := A_index_entries_1) (args := [(Value.func (.func g0_yield_f) #[] g0_yield_c), (Value.pointer (some g1_x))]) mixedPP Tryd.func59 (c := bodyOf Tryd.f59) (by kernel_rfl) (by kernel_rfl) (by kernel_rfl) (Eq.mpr (E_index_entries_1 g0_yield_f g0_yield_c g1_x h Q) H)
def F_value_own_bare (g0_v_0 : Int) (g0_v_1 : Int) (g0_v_2 : Nat) (g0_v_3 : ByteArray) (g1_n : Bool) (g2_f : Bool) (g3_s : Bool) (h : Hp) (Q : List Value → Hp → Prop) : Prop :=
wth (Array.push h (Obj.cells #[(Value.int .i64 g0_v_0), (Value.int .i64 g0_v_1), (Value.float .f64 g0_v_2), (Value.string g0_v_3)] T_value_own)) fun h1 =>
(if g1_n = true then ((if g2_f = true then ((if g3_s = true then (Q [(Value.bool true)] h1) else
          (∃ s2 : ByteArray, rd h1 (Addr.add (Addr.mk (Array.size h) 0 none) 3) = some (Value.string s2) ∧
            Q [(Value.bool ((ByteArray.toList s2) == (ByteArray.toList (ByteArray.mk #[]))))] h1))) else
      (∃ x3 : Nat, rd h1 (Addr.add (Addr.mk (Array.size h) 0 none) 2) = some (Value.float .f64 x3) ∧
        S_math_Float64bits x3 h1 fun (vs4 : List Value) (h5 : Hp) =>
        ∃ n6 : Int, vs4 = [(Value.int .u64 n6)] ∧
        (if (n6 == (0 : Int)) = true then ((if g3_s = true then (Q [(Value.bool true)] h5) else
              (∃ s7 : ByteArray, rd h5 (Addr.add (Addr.mk (Array.size h) 0 none) 3) = some (Value.string s7) ∧
                Q [(Value.bool ((ByteArray.toList s7) == (ByteArray.toList (ByteArray.mk #[]))))] h5))) else
          (Q [(Value.bool false)] h5))))) else
  (∃ n8 : Int, rd h1 (Addr.add (Addr.mk (Array.size h) 0 none) 1) = some (Value.int .i64 n8) ∧
    (if (n8 == (0 : Int)) = true then ((if g2_f = true then ((if g3_s = true then (Q [(Value.bool true)] h1) else
              (∃ s9 : ByteArray, rd h1 (Addr.add (Addr.mk (Array.size h) 0 none) 3) = some (Value.string s9) ∧
                Q [(Value.bool ((ByteArray.toList s9) == (ByteArray.toList (ByteArray.mk #[]))))] h1))) else
          (∃ x10 : Nat, rd h1 (Addr.add (Addr.mk (Array.size h) 0 none) 2) = some (Value.float .f64 x10) ∧
            S_math_Float64bits x10 h1 fun (vs11 : List Value) (h12 : Hp) =>
            ∃ n13 : Int, vs11 = [(Value.int .u64 n13)] ∧
            (if (n13 == (0 : Int)) = true then ((if g3_s = true then (Q [(Value.bool true)] h12) else
                  (∃ s14 : ByteArray, rd h12 (Addr.add (Addr.mk (Array.size h) 0 none) 3) = some (Value.string s14) ∧
                    Q [(Value.bool ((ByteArray.toList s14) == (ByteArray.toList (ByteArray.mk #[]))))] h12))) else
              (Q [(Value.bool false)] h12))))) else
      (Q [(Value.bool false)] h1))))
def A_value_own_bare : Ann := .nil
theorem E_value_own_bare (g0_v_0 : Int) (g0_v_1 : Int) (g0_v_2 : Nat) (g0_v_3 : ByteArray) (g1_n : Bool) (g2_f : Bool) (g3_s : Bool) (h : Hp) (Q : List Value → Hp → Prop) : cw PP 32 (fun _ => []) (bodyOf Tryd.f77) A_value_own_bare (finQ PP (Tryd.f77.results.toList) Q) (argFr [(Value.agg #[(Value.int .i64 g0_v_0), (Value.int .i64 g0_v_1), (Value.float .f64 g0_v_2), (Value.string g0_v_3)]), (Value.bool g1_n), (Value.bool g2_f), (Value.bool g3_s)]) h = F_value_own_bare g0_v_0 g0_v_1 g0_v_2 g0_v_3 g1_n g2_f g3_s h Q := by kernel_rfl
theorem O_value_own_bare (g0_v_0 : Int) (g0_v_1 : Int) (g0_v_2 : Nat) (g0_v_3 : ByteArray) (g1_n : Bool) (g2_f : Bool) (g3_s : Bool) {h : Hp} {Q : List Value → Hp → Prop} (H : F_value_own_bare g0_v_0 g0_v_1 g0_v_2 g0_v_3 g1_n g2_f g3_s h Q) : S_value_own_bare g0_v_0 g0_v_1 g0_v_2 g0_v_3 g1_n g2_f g3_s h Q :=
  fn_of_cw (hs := (fun _ => [])) (ann := A_value_own_bare) (args := [(Value.agg #[(Value.int .i64 g0_v_0), (Value.int .i64 g0_v_1), (Value.float .f64 g0_v_2), (Value.string g0_v_3)]), (Value.bool g1_n), (Value.bool g2_f), (Value.bool g3_s)]) mixedPP Tryd.func77 (c := bodyOf Tryd.f77) (by kernel_rfl) (by kernel_rfl) (by kernel_rfl) (Eq.mpr (E_value_own_bare g0_v_0 g0_v_1 g0_v_2 g0_v_3 g1_n g2_f g3_s h Q) H)
def F_value_own_null (g0_v_0 : Int) (g0_v_1 : Int) (g0_v_2 : Nat) (g0_v_3 : ByteArray) (h : Hp) (Q : List Value → Hp → Prop) : Prop :=
wth (Array.push h (Obj.cells #[(Value.int .i64 g0_v_0), (Value.int .i64 g0_v_1), (Value.float .f64 g0_v_2), (Value.string g0_v_3)] T_value_own)) fun h1 =>
∃ n2 : Int, rd h1 (Addr.add (Addr.mk (Array.size h) 0 none) 0) = some (Value.int .i64 n2) ∧ ∃ n3 : Int, rd h1 (Addr.add (Addr.mk (Array.size h) 0 none) 1) = some (Value.int .i64 n3) ∧ ∃ x4 : Nat, rd h1 (Addr.add (Addr.mk (Array.size h) 0 none) 2) = some (Value.float .f64 x4) ∧ ∃ s5 : ByteArray, rd h1 (Addr.add (Addr.mk (Array.size h) 0 none) 3) = some (Value.string s5) ∧ S_value_own_bare n2 n3 x4 s5 false false false h1 fun (vs6 : List Value) (h7 : Hp) =>
∃ b8 : Bool, vs6 = [(Value.bool b8)] ∧
Q [(Value.bool b8)] h7
def A_value_own_null : Ann := .nil
theorem E_value_own_null (g0_v_0 : Int) (g0_v_1 : Int) (g0_v_2 : Nat) (g0_v_3 : ByteArray) (h : Hp) (Q : List Value → Hp → Prop) : cw PP 5 (fun _ => []) (bodyOf Tryd.f63) A_value_own_null (finQ PP (Tryd.f63.results.toList) Q) (argFr [(Value.agg #[(Value.int .i64 g0_v_0), (Value.int .i64 g0_v_1), (Value.float .f64 g0_v_2), (Value.string g0_v_3)])]) h = F_value_own_null g0_v_0 g0_v_1 g0_v_2 g0_v_3 h Q := by kernel_rfl
theorem O_value_own_null (g0_v_0 : Int) (g0_v_1 : Int) (g0_v_2 : Nat) (g0_v_3 : ByteArray) {h : Hp} {Q : List Value → Hp → Prop} (H : F_value_own_null g0_v_0 g0_v_1 g0_v_2 g0_v_3 h Q) : S_value_own_null g0_v_0 g0_v_1 g0_v_2 g0_v_3 h Q :=
  fn_of_cw (hs := (fun _ => [])) (ann := A_value_own_null) (args := [(Value.agg #[(Value.int .i64 g0_v_0), (Value.int .i64 g0_v_1), (Value.float .f64 g0_v_2), (Value.string g0_v_3)])]) mixedPP Tryd.func63 (c := bodyOf Tryd.f63) (by kernel_rfl) (by kernel_rfl) (by kernel_rfl) (Eq.mpr (E_value_own_null g0_v_0 g0_v_1 g0_v_2 g0_v_3 h Q) H)
def F_value_own_bool (g0_v_0 : Int) (g0_v_1 : Int) (g0_v_2 : Nat) (g0_v_3 : ByteArray) (h : Hp) (Q : List Value → Hp → Prop) : Prop :=
wth (Array.push h (Obj.cells #[(Value.int .i64 g0_v_0), (Value.int .i64 g0_v_1), (Value.float .f64 g0_v_2), (Value.string g0_v_3)] T_value_own)) fun h1 =>
∃ n2 : Int, rd h1 (Addr.add (Addr.mk (Array.size h) 0 none) 0) = some (Value.int .i64 n2) ∧ ∃ n3 : Int, rd h1 (Addr.add (Addr.mk (Array.size h) 0 none) 1) = some (Value.int .i64 n3) ∧ ∃ x4 : Nat, rd h1 (Addr.add (Addr.mk (Array.size h) 0 none) 2) = some (Value.float .f64 x4) ∧ ∃ s5 : ByteArray, rd h1 (Addr.add (Addr.mk (Array.size h) 0 none) 3) = some (Value.string s5) ∧ S_value_own_bare n2 n3 x4 s5 true false false h1 fun (vs6 : List Value) (h7 : Hp) =>
∃ b8 : Bool, vs6 = [(Value.bool b8)] ∧
(if b8 = true then (∃ n9 : Int, rd h7 (Addr.add (Addr.mk (Array.size h) 0 none) 1) = some (Value.int .i64 n9) ∧
    (if (n9 == (0 : Int)) = true then (Q [(Value.bool true)] h7) else
      (∃ n10 : Int, rd h7 (Addr.add (Addr.mk (Array.size h) 0 none) 1) = some (Value.int .i64 n10) ∧
        Q [(Value.bool (n10 == (1 : Int)))] h7))) else
  (Q [(Value.bool false)] h7))
def A_value_own_bool : Ann := .nil
theorem E_value_own_bool (g0_v_0 : Int) (g0_v_1 : Int) (g0_v_2 : Nat) (g0_v_3 : ByteArray) (h : Hp) (Q : List Value → Hp → Prop) : cw PP 15 (fun _ => []) (bodyOf Tryd.f64) A_value_own_bool (finQ PP (Tryd.f64.results.toList) Q) (argFr [(Value.agg #[(Value.int .i64 g0_v_0), (Value.int .i64 g0_v_1), (Value.float .f64 g0_v_2), (Value.string g0_v_3)])]) h = F_value_own_bool g0_v_0 g0_v_1 g0_v_2 g0_v_3 h Q := by kernel_rfl
theorem O_value_own_bool (g0_v_0 : Int) (g0_v_1 : Int) (g0_v_2 : Nat) (g0_v_3 : ByteArray) {h : Hp} {Q : List Value → Hp → Prop} (H : F_value_own_bool g0_v_0 g0_v_1 g0_v_2 g0_v_3 h Q) : S_value_own_bool g0_v_0 g0_v_1 g0_v_2 g0_v_3 h Q :=
  fn_of_cw (hs := (fun _ => [])) (ann := A_value_own_bool) (args := [(Value.agg #[(Value.int .i64 g0_v_0), (Value.int .i64 g0_v_1), (Value.float .f64 g0_v_2), (Value.string g0_v_3)])]) mixedPP Tryd.func64 (c := bodyOf Tryd.f64) (by kernel_rfl) (by kernel_rfl) (by kernel_rfl) (Eq.mpr (E_value_own_bool g0_v_0 g0_v_1 g0_v_2 g0_v_3 h Q) H)
def F_value_own_int (g0_v_0 : Int) (g0_v_1 : Int) (g0_v_2 : Nat) (g0_v_3 : ByteArray) (h : Hp) (Q : List Value → Hp → Prop) : Prop :=
wth (Array.push h (Obj.cells #[(Value.int .i64 g0_v_0), (Value.int .i64 g0_v_1), (Value.float .f64 g0_v_2), (Value.string g0_v_3)] T_value_own)) fun h1 =>
∃ n2 : Int, rd h1 (Addr.add (Addr.mk (Array.size h) 0 none) 0) = some (Value.int .i64 n2) ∧ ∃ n3 : Int, rd h1 (Addr.add (Addr.mk (Array.size h) 0 none) 1) = some (Value.int .i64 n3) ∧ ∃ x4 : Nat, rd h1 (Addr.add (Addr.mk (Array.size h) 0 none) 2) = some (Value.float .f64 x4) ∧ ∃ s5 : ByteArray, rd h1 (Addr.add (Addr.mk (Array.size h) 0 none) 3) = some (Value.string s5) ∧ S_value_own_bare n2 n3 x4 s5 true false false h1 fun (vs6 : List Value) (h7 : Hp) =>
∃ b8 : Bool, vs6 = [(Value.bool b8)] ∧
Q [(Value.bool b8)] h7
def A_value_own_int : Ann := .nil
theorem E_value_own_int (g0_v_0 : Int) (g0_v_1 : Int) (g0_v_2 : Nat) (g0_v_3 : ByteArray) (h : Hp) (Q : List Value → Hp → Prop) : cw PP 5 (fun _ => []) (bodyOf Tryd.f65) A_value_own_int (finQ PP (Tryd.f65.results.toList) Q) (argFr [(Value.agg #[(Value.int .i64 g0_v_0), (Value.int .i64 g0_v_1), (Value.float .f64 g0_v_2), (Value.string g0_v_3)])]) h = F_value_own_int g0_v_0 g0_v_1 g0_v_2 g0_v_3 h Q := by kernel_rfl
theorem O_value_own_int (g0_v_0 : Int) (g0_v_1 : Int) (g0_v_2 : Nat) (g0_v_3 : ByteArray) {h : Hp} {Q : List Value → Hp → Prop} (H : F_value_own_int g0_v_0 g0_v_1 g0_v_2 g0_v_3 h Q) : S_value_own_int g0_v_0 g0_v_1 g0_v_2 g0_v_3 h Q :=
  fn_of_cw (hs := (fun _ => [])) (ann := A_value_own_int) (args := [(Value.agg #[(Value.int .i64 g0_v_0), (Value.int .i64 g0_v_1), (Value.float .f64 g0_v_2), (Value.string g0_v_3)])]) mixedPP Tryd.func65 (c := bodyOf Tryd.f65) (by kernel_rfl) (by kernel_rfl) (by kernel_rfl) (Eq.mpr (E_value_own_int g0_v_0 g0_v_1 g0_v_2 g0_v_3 h Q) H)
def F_value_own_float (g0_v_0 : Int) (g0_v_1 : Int) (g0_v_2 : Nat) (g0_v_3 : ByteArray) (h : Hp) (Q : List Value → Hp → Prop) : Prop :=
wth (Array.push h (Obj.cells #[(Value.int .i64 g0_v_0), (Value.int .i64 g0_v_1), (Value.float .f64 g0_v_2), (Value.string g0_v_3)] T_value_own)) fun h1 =>
∃ n2 : Int, rd h1 (Addr.add (Addr.mk (Array.size h) 0 none) 0) = some (Value.int .i64 n2) ∧ ∃ n3 : Int, rd h1 (Addr.add (Addr.mk (Array.size h) 0 none) 1) = some (Value.int .i64 n3) ∧ ∃ x4 : Nat, rd h1 (Addr.add (Addr.mk (Array.size h) 0 none) 2) = some (Value.float .f64 x4) ∧ ∃ s5 : ByteArray, rd h1 (Addr.add (Addr.mk (Array.size h) 0 none) 3) = some (Value.string s5) ∧ S_value_own_bare n2 n3 x4 s5 false true false h1 fun (vs6 : List Value) (h7 : Hp) =>
∃ b8 : Bool, vs6 = [(Value.bool b8)] ∧
(if b8 = true then (∃ x9 : Nat, rd h7 (Addr.add (Addr.mk (Array.size h) 0 none) 2) = some (Value.float .f64 x9) ∧
    S_float_Is x9 h7 fun (vs10 : List Value) (h11 : Hp) =>
    ∃ b12 : Bool, vs10 = [(Value.bool b12)] ∧
    Q [(Value.bool b12)] h11) else
  (Q [(Value.bool false)] h7))
def A_value_own_float : Ann := .nil
theorem E_value_own_float (g0_v_0 : Int) (g0_v_1 : Int) (g0_v_2 : Nat) (g0_v_3 : ByteArray) (h : Hp) (Q : List Value → Hp → Prop) : cw PP 10 (fun _ => []) (bodyOf Tryd.f66) A_value_own_float (finQ PP (Tryd.f66.results.toList) Q) (argFr [(Value.agg #[(Value.int .i64 g0_v_0), (Value.int .i64 g0_v_1), (Value.float .f64 g0_v_2), (Value.string g0_v_3)])]) h = F_value_own_float g0_v_0 g0_v_1 g0_v_2 g0_v_3 h Q := by kernel_rfl
theorem O_value_own_float (g0_v_0 : Int) (g0_v_1 : Int) (g0_v_2 : Nat) (g0_v_3 : ByteArray) {h : Hp} {Q : List Value → Hp → Prop} (H : F_value_own_float g0_v_0 g0_v_1 g0_v_2 g0_v_3 h Q) : S_value_own_float g0_v_0 g0_v_1 g0_v_2 g0_v_3 h Q :=
  fn_of_cw (hs := (fun _ => [])) (ann := A_value_own_float) (args := [(Value.agg #[(Value.int .i64 g0_v_0), (Value.int .i64 g0_v_1), (Value.float .f64 g0_v_2), (Value.string g0_v_3)])]) mixedPP Tryd.func66 (c := bodyOf Tryd.f66) (by kernel_rfl) (by kernel_rfl) (by kernel_rfl) (Eq.mpr (E_value_own_float g0_v_0 g0_v_1 g0_v_2 g0_v_3 h Q) H)
def F_value_own_text (g0_v_0 : Int) (g0_v_1 : Int) (g0_v_2 : Nat) (g0_v_3 : ByteArray) (h : Hp) (Q : List Value → Hp → Prop) : Prop :=
wth (Array.push h (Obj.cells #[(Value.int .i64 g0_v_0), (Value.int .i64 g0_v_1), (Value.float .f64 g0_v_2), (Value.string g0_v_3)] T_value_own)) fun h1 =>
∃ n2 : Int, rd h1 (Addr.add (Addr.mk (Array.size h) 0 none) 0) = some (Value.int .i64 n2) ∧ ∃ n3 : Int, rd h1 (Addr.add (Addr.mk (Array.size h) 0 none) 1) = some (Value.int .i64 n3) ∧ ∃ x4 : Nat, rd h1 (Addr.add (Addr.mk (Array.size h) 0 none) 2) = some (Value.float .f64 x4) ∧ ∃ s5 : ByteArray, rd h1 (Addr.add (Addr.mk (Array.size h) 0 none) 3) = some (Value.string s5) ∧ S_value_own_bare n2 n3 x4 s5 false false true h1 fun (vs6 : List Value) (h7 : Hp) =>
∃ b8 : Bool, vs6 = [(Value.bool b8)] ∧
(if b8 = true then (∃ s9 : ByteArray, rd h7 (Addr.add (Addr.mk (Array.size h) 0 none) 3) = some (Value.string s9) ∧
    Q [(Value.bool (decide ((ByteArray.size s9 : Int) ≤ (256 : Int))))] h7) else
  (Q [(Value.bool false)] h7))
def A_value_own_text : Ann := .nil
theorem E_value_own_text (g0_v_0 : Int) (g0_v_1 : Int) (g0_v_2 : Nat) (g0_v_3 : ByteArray) (h : Hp) (Q : List Value → Hp → Prop) : cw PP 11 (fun _ => []) (bodyOf Tryd.f67) A_value_own_text (finQ PP (Tryd.f67.results.toList) Q) (argFr [(Value.agg #[(Value.int .i64 g0_v_0), (Value.int .i64 g0_v_1), (Value.float .f64 g0_v_2), (Value.string g0_v_3)])]) h = F_value_own_text g0_v_0 g0_v_1 g0_v_2 g0_v_3 h Q := by kernel_rfl
theorem O_value_own_text (g0_v_0 : Int) (g0_v_1 : Int) (g0_v_2 : Nat) (g0_v_3 : ByteArray) {h : Hp} {Q : List Value → Hp → Prop} (H : F_value_own_text g0_v_0 g0_v_1 g0_v_2 g0_v_3 h Q) : S_value_own_text g0_v_0 g0_v_1 g0_v_2 g0_v_3 h Q :=
  fn_of_cw (hs := (fun _ => [])) (ann := A_value_own_text) (args := [(Value.agg #[(Value.int .i64 g0_v_0), (Value.int .i64 g0_v_1), (Value.float .f64 g0_v_2), (Value.string g0_v_3)])]) mixedPP Tryd.func67 (c := bodyOf Tryd.f67) (by kernel_rfl) (by kernel_rfl) (by kernel_rfl) (Eq.mpr (E_value_own_text g0_v_0 g0_v_1 g0_v_2 g0_v_3 h Q) H)
end Go.Lift

/- Printed by lift.py: each Go function of this seat as a Prop over the heap, and that the Go code comes to it. -/
import Derived.Test.YtmlcjckocgnjfaaGreatDoorLvL
import Derived.Test.YtmlcjckocgnjfaaGreatDoorProg
set_option linter.unusedSimpArgs false
set_option linter.unusedVariables false
namespace Go.Lift
open Go Go.Proofs
set_option maxRecDepth 100000
noncomputable abbrev PP : Program := Tryz.prog
theorem mixedPP : PP.follows .mixedOrders = true := by kernel_rfl
def bodyOf (f : Func) : Code := f.body.getD .skip
abbrev T_int : TypeId := 3
abbrev T_uint8 : TypeId := 5
abbrev T_string : TypeId := 9
abbrev T_api_Value : TypeId := 34
abbrev T_liverylaw11_Step : TypeId := 36
abbrev T_leaf_Move : TypeId := 38
abbrev T_liveryref10_Did : TypeId := 42
abbrev T_liveryref11_Span : TypeId := 48
abbrev T_liveryref11_Index : TypeId := 57
abbrev T_index_Index : TypeId := 64
abbrev T_liveryref10_Leaves : TypeId := 82
abbrev T_sstring : TypeId := 83
abbrev T_liveryref10_Leaf : TypeId := 85
abbrev T_pleaf_one : TypeId := 86
abbrev T_leaf_one : TypeId := 88
abbrev T_leaf_Leaves : TypeId := 91
abbrev T_liveryref10_Span : TypeId := 109
abbrev T_liveryref03_Got : TypeId := 112
abbrev T_liveryref02_Read : TypeId := 130
abbrev T_value_own : TypeId := 134
abbrev T_strings_Builder : TypeId := 140
abbrev T_liveryref01_Got : TypeId := 152
abbrev T_utf8_acceptRange : TypeId := 176
/-- main.main -/
def S_main_main (h : Hp) (Q : List Value → Hp → Prop) : Prop := Fn PP 0 #[] h Q
/-- gosem.cut -/
def S_gosem_cut (h : Hp) (Q : List Value → Hp → Prop) : Prop := Fn PP 1 #[] h Q
/-- gosem.cut.init -/
def S_gosem_cut_init (h : Hp) (Q : List Value → Hp → Prop) : Prop := Fn PP 2 #[] h Q
/-- livery/leaf.New -/
def S_leaf_New (g0_fan : Int) (h : Hp) (Q : List Value → Hp → Prop) : Prop := Fn PP 23 #[(Value.int .i64 g0_fan)] h Q
/-- livery/index.New -/
def S_index_New (g0_fan : Int) (h : Hp) (Q : List Value → Hp → Prop) : Prop := Fn PP 4 #[(Value.int .i64 g0_fan)] h Q
/-- livery/liveryref10.New -/
def S_liveryref10_New (g0_fan : Int) (h : Hp) (Q : List Value → Hp → Prop) : Prop := Fn PP 24 #[(Value.int .i64 g0_fan)] h Q
/-- livery/liveryref11.New -/
def S_liveryref11_New (g0_fan : Int) (h : Hp) (Q : List Value → Hp → Prop) : Prop := Fn PP 5 #[(Value.int .i64 g0_fan)] h Q
/-- livery/liverykeep.LargeValue -/
def S_liverykeep_LargeValue (g0_v_0 : Int) (g0_v_1 : Int) (g0_v_2 : Nat) (g0_v_3 : ByteArray) (h : Hp) (Q : List Value → Hp → Prop) : Prop := Fn PP 25 #[(Value.agg #[(Value.int .i64 g0_v_0), (Value.int .i64 g0_v_1), (Value.float .f64 g0_v_2), (Value.string g0_v_3)])] h Q
/-- livery/liverylaw11.fair -/
def S_liverylaw11_fair (g0_l : Sl) (h : Hp) (Q : List Value → Hp → Prop) : Prop := Fn PP 6 #[(Value.slice g0_l.a g0_l.n g0_l.c)] h Q
/-- strings.Join -/
def S_strings_Join (g0_elems : Sl) (g1_sep : ByteArray) (h : Hp) (Q : List Value → Hp → Prop) : Prop := Fn PP 63 #[(Value.slice g0_elems.a g0_elems.n g0_elems.c), (Value.string g1_sep)] h Q
/-- livery/key.joined -/
def S_key_joined (g0_l : Sl) (h : Hp) (Q : List Value → Hp → Prop) : Prop := Fn PP 44 #[(Value.slice g0_l.a g0_l.n g0_l.c)] h Q
/-- livery/value.Good -/
def S_value_Good (g0_v_0 : Int) (g0_v_1 : Int) (g0_v_2 : Nat) (g0_v_3 : ByteArray) (h : Hp) (Q : List Value → Hp → Prop) : Prop := Fn PP 59 #[(Value.agg #[(Value.int .i64 g0_v_0), (Value.int .i64 g0_v_1), (Value.float .f64 g0_v_2), (Value.string g0_v_3)])] h Q
/-- livery/key.eight -/
def S_key_eight (g0_u : Int) (h : Hp) (Q : List Value → Hp → Prop) : Prop := Fn PP 60 #[(Value.int .u64 g0_u)] h Q
/-- math.Float64bits -/
def S_math_Float64bits (g0_x : Nat) (h : Hp) (Q : List Value → Hp → Prop) : Prop := Fn PP 82 #[(Value.float .f64 g0_x)] h Q
/-- math.Float64frombits -/
def S_math_Float64frombits (g0_x : Int) (h : Hp) (Q : List Value → Hp → Prop) : Prop := Fn PP 101 #[(Value.int .u64 g0_x)] h Q
/-- livery/float.Canon -/
def S_float_Canon (g0_f : Nat) (h : Hp) (Q : List Value → Hp → Prop) : Prop := Fn PP 83 #[(Value.float .f64 g0_f)] h Q
/-- livery/float.Bits -/
def S_float_Bits (g0_f : Nat) (h : Hp) (Q : List Value → Hp → Prop) : Prop := Fn PP 61 #[(Value.float .f64 g0_f)] h Q
/-- internal/bytealg.MakeNoZero -/
def S_internal_bytealg_MakeNoZero (g0_x : Int) (h : Hp) (Q : List Value → Hp → Prop) : Prop := Fn PP 117 #[(Value.int .i64 g0_x)] h Q
/-- (*strings.Builder).grow -/
def S_strings_Builder_grow (g0_b : Option Addr) (g1_n : Int) (h : Hp) (Q : List Value → Hp → Prop) : Prop := Fn PP 106 #[(Value.pointer g0_b), (Value.int .i64 g1_n)] h Q
/-- (*strings.Builder).Grow -/
def S_strings_Builder_Grow (g0_b : Option Addr) (g1_n : Int) (h : Hp) (Q : List Value → Hp → Prop) : Prop := Fn PP 85 #[(Value.pointer g0_b), (Value.int .i64 g1_n)] h Q
/-- (*strings.Builder).WriteString -/
def S_strings_Builder_WriteString (g0_b : Option Addr) (g1_s : ByteArray) (h : Hp) (Q : List Value → Hp → Prop) : Prop := Fn PP 86 #[(Value.pointer g0_b), (Value.string g1_s)] h Q
/-- (*strings.Builder).String -/
def S_strings_Builder_String (g0_b : Option Addr) (h : Hp) (Q : List Value → Hp → Prop) : Prop := Fn PP 87 #[(Value.pointer g0_b)] h Q
/-- internal/bytealg.IndexByteString -/
def S_internal_bytealg_IndexByteString (g0_x : ByteArray) (g1_x : Int) (h : Hp) (Q : List Value → Hp → Prop) : Prop := Fn PP 124 #[(Value.string g0_x), (Value.int .u8 g1_x)] h Q
/-- internal/stringslite.IndexByte -/
def S_internal_stringslite_IndexByte (g0_s : ByteArray) (g1_c : Int) (h : Hp) (Q : List Value → Hp → Prop) : Prop := Fn PP 120 #[(Value.string g0_s), (Value.int .u8 g1_c)] h Q
/-- internal/bytealg.IndexString -/
def S_internal_bytealg_IndexString (g0_x : ByteArray) (g1_x : ByteArray) (h : Hp) (Q : List Value → Hp → Prop) : Prop := Fn PP 121 #[(Value.string g0_x), (Value.string g1_x)] h Q
/-- internal/bytealg.Cutover -/
def S_internal_bytealg_Cutover (g0_n : Int) (h : Hp) (Q : List Value → Hp → Prop) : Prop := Fn PP 122 #[(Value.int .i64 g0_n)] h Q
/-- internal/bytealg.hashStr[string] -/
def S_internal_bytealg_hashStr_string (g0_sep : ByteArray) (h : Hp) (Q : List Value → Hp → Prop) : Prop := Fn PP 125 #[(Value.string g0_sep)] h Q
/-- internal/bytealg.IndexRabinKarp[string] -/
def S_internal_bytealg_IndexRabinKarp_string (g0_s : ByteArray) (g1_sep : ByteArray) (h : Hp) (Q : List Value → Hp → Prop) : Prop := Fn PP 123 #[(Value.string g0_s), (Value.string g1_sep)] h Q
/-- internal/stringslite.Index -/
def S_internal_stringslite_Index (g0_s : ByteArray) (g1_substr : ByteArray) (h : Hp) (Q : List Value → Hp → Prop) : Prop := Fn PP 114 #[(Value.string g0_s), (Value.string g1_substr)] h Q
/-- strings.Index -/
def S_strings_Index (g0_s : ByteArray) (g1_substr : ByteArray) (h : Hp) (Q : List Value → Hp → Prop) : Prop := Fn PP 103 #[(Value.string g0_s), (Value.string g1_substr)] h Q
/-- unicode/utf8.RuneCountInString -/
def S_unicode_utf8_RuneCountInString (g0_s : ByteArray) (h : Hp) (Q : List Value → Hp → Prop) : Prop := Fn PP 112 #[(Value.string g0_s)] h Q
/-- internal/bytealg.CountString -/
def S_internal_bytealg_CountString (g0_x : ByteArray) (g1_x : Int) (h : Hp) (Q : List Value → Hp → Prop) : Prop := Fn PP 113 #[(Value.string g0_x), (Value.int .u8 g1_x)] h Q
/-- strings.Count -/
def S_strings_Count (g0_s : ByteArray) (g1_substr : ByteArray) (h : Hp) (Q : List Value → Hp → Prop) : Prop := Fn PP 102 #[(Value.string g0_s), (Value.string g1_substr)] h Q
/-- unicode/utf8.decodeRuneInStringSlow -/
def S_unicode_utf8_decodeRuneInStringSlow (g0_s : ByteArray) (h : Hp) (Q : List Value → Hp → Prop) : Prop := Fn PP 115 #[(Value.string g0_s)] h Q
/-- unicode/utf8.DecodeRuneInString -/
def S_unicode_utf8_DecodeRuneInString (g0_s : ByteArray) (h : Hp) (Q : List Value → Hp → Prop) : Prop := Fn PP 104 #[(Value.string g0_s)] h Q
/-- strings.Replace -/
def S_strings_Replace (g0_s : ByteArray) (g1_old : ByteArray) (g2_new : ByteArray) (g3_n : Int) (h : Hp) (Q : List Value → Hp → Prop) : Prop := Fn PP 84 #[(Value.string g0_s), (Value.string g1_old), (Value.string g2_new), (Value.int .i64 g3_n)] h Q
/-- strings.ReplaceAll -/
def S_strings_ReplaceAll (g0_s : ByteArray) (g1_old : ByteArray) (g2_new : ByteArray) (h : Hp) (Q : List Value → Hp → Prop) : Prop := Fn PP 62 #[(Value.string g0_s), (Value.string g1_old), (Value.string g2_new)] h Q
/-- livery/key.Of -/
def S_key_Of (g0_v_0 : Int) (g0_v_1 : Int) (g0_v_2 : Nat) (g0_v_3 : ByteArray) (h : Hp) (Q : List Value → Hp → Prop) : Prop := Fn PP 43 #[(Value.agg #[(Value.int .i64 g0_v_0), (Value.int .i64 g0_v_1), (Value.float .f64 g0_v_2), (Value.string g0_v_3)])] h Q
/-- livery/key.Entry -/
def S_key_Entry (g0_v_0 : Int) (g0_v_1 : Int) (g0_v_2 : Nat) (g0_v_3 : ByteArray) (g1_n : Int) (h : Hp) (Q : List Value → Hp → Prop) : Prop := Fn PP 26 #[(Value.agg #[(Value.int .i64 g0_v_0), (Value.int .i64 g0_v_1), (Value.float .f64 g0_v_2), (Value.string g0_v_3)]), (Value.int .i64 g1_n)] h Q
/-- (*livery/leaf.Leaves).at -/
def S_leaf_Leaves_at (g0_x : Option Addr) (g1_k : ByteArray) (h : Hp) (Q : List Value → Hp → Prop) : Prop := Fn PP 45 #[(Value.pointer g0_x), (Value.string g1_k)] h Q
/-- cmp.isNaN[string] -/
def S_cmp_isNaN_string (g0_x : ByteArray) (h : Hp) (Q : List Value → Hp → Prop) : Prop := Fn PP 88 #[(Value.string g0_x)] h Q
/-- cmp.Less[string] -/
def S_cmp_Less_string (g0_x : ByteArray) (g1_y : ByteArray) (h : Hp) (Q : List Value → Hp → Prop) : Prop := Fn PP 64 #[(Value.string g0_x), (Value.string g1_y)] h Q
/-- slices.isNaN[string] -/
def S_slices_isNaN_string (g0_x : ByteArray) (h : Hp) (Q : List Value → Hp → Prop) : Prop := Fn PP 65 #[(Value.string g0_x)] h Q
/-- slices.BinarySearch[[]string,string] -/
def S_slices_BinarySearch_sstring_string (g0_x : Sl) (g1_target : ByteArray) (h : Hp) (Q : List Value → Hp → Prop) : Prop := Fn PP 46 #[(Value.slice g0_x.a g0_x.n g0_x.c), (Value.string g1_target)] h Q
/-- slices.overlaps[string] -/
def S_slices_overlaps_string (g0_x : Sl) (g1_x : Sl) (h : Hp) (Q : List Value → Hp → Prop) : Prop := Fn PP 66 #[(Value.slice g0_x.a g0_x.n g0_x.c), (Value.slice g1_x.a g1_x.n g1_x.c)] h Q
/-- slices.Reverse[[]string,string] -/
def S_slices_Reverse_sstring_string (g0_s : Sl) (h : Hp) (Q : List Value → Hp → Prop) : Prop := Fn PP 107 #[(Value.slice g0_s.a g0_s.n g0_s.c)] h Q
/-- slices.rotateLeft[string] -/
def S_slices_rotateLeft_string (g0_s : Sl) (g1_r : Int) (h : Hp) (Q : List Value → Hp → Prop) : Prop := Fn PP 89 #[(Value.slice g0_s.a g0_s.n g0_s.c), (Value.int .i64 g1_r)] h Q
/-- slices.rotateRight[string] -/
def S_slices_rotateRight_string (g0_s : Sl) (g1_r : Int) (h : Hp) (Q : List Value → Hp → Prop) : Prop := Fn PP 67 #[(Value.slice g0_s.a g0_s.n g0_s.c), (Value.int .i64 g1_r)] h Q
/-- slices.Insert[[]string,string] -/
def S_slices_Insert_sstring_string (g0_s : Sl) (g1_i : Int) (g2_v : Sl) (h : Hp) (Q : List Value → Hp → Prop) : Prop := Fn PP 47 #[(Value.slice g0_s.a g0_s.n g0_s.c), (Value.int .i64 g1_i), (Value.slice g2_v.a g2_v.n g2_v.c)] h Q
/-- slices.Clone[[]string,string] -/
def S_slices_Clone_sstring_string (g0_s : Sl) (h : Hp) (Q : List Value → Hp → Prop) : Prop := Fn PP 48 #[(Value.slice g0_s.a g0_s.n g0_s.c)] h Q
/-- slices.overlaps[*livery/leaf.one] -/
def S_slices_overlaps_pleaf_one (g0_x : Sl) (g1_x : Sl) (h : Hp) (Q : List Value → Hp → Prop) : Prop := Fn PP 68 #[(Value.slice g0_x.a g0_x.n g0_x.c), (Value.slice g1_x.a g1_x.n g1_x.c)] h Q
/-- slices.Reverse[[]*livery/leaf.one,*livery/leaf.one] -/
def S_slices_Reverse_spleaf_one_pleaf_one (g0_s : Sl) (h : Hp) (Q : List Value → Hp → Prop) : Prop := Fn PP 108 #[(Value.slice g0_s.a g0_s.n g0_s.c)] h Q
/-- slices.rotateLeft[*livery/leaf.one] -/
def S_slices_rotateLeft_pleaf_one (g0_s : Sl) (g1_r : Int) (h : Hp) (Q : List Value → Hp → Prop) : Prop := Fn PP 90 #[(Value.slice g0_s.a g0_s.n g0_s.c), (Value.int .i64 g1_r)] h Q
/-- slices.rotateRight[*livery/leaf.one] -/
def S_slices_rotateRight_pleaf_one (g0_s : Sl) (g1_r : Int) (h : Hp) (Q : List Value → Hp → Prop) : Prop := Fn PP 69 #[(Value.slice g0_s.a g0_s.n g0_s.c), (Value.int .i64 g1_r)] h Q
/-- slices.Insert[[]*livery/leaf.one,*livery/leaf.one] -/
def S_slices_Insert_spleaf_one_pleaf_one (g0_s : Sl) (g1_i : Int) (g2_v : Sl) (h : Hp) (Q : List Value → Hp → Prop) : Prop := Fn PP 49 #[(Value.slice g0_s.a g0_s.n g0_s.c), (Value.int .i64 g1_i), (Value.slice g2_v.a g2_v.n g2_v.c)] h Q
/-- (*livery/leaf.Leaves).Insert -/
def S_leaf_Leaves_Insert (g0_x : Option Addr) (g1_k : ByteArray) (h : Hp) (Q : List Value → Hp → Prop) : Prop := Fn PP 27 #[(Value.pointer g0_x), (Value.string g1_k)] h Q
/-- (*livery/index.Index).Add -/
def S_index_Index_Add (g0_x : Option Addr) (g1_v_0 : Int) (g1_v_1 : Int) (g1_v_2 : Nat) (g1_v_3 : ByteArray) (g2_tid : Int) (h : Hp) (Q : List Value → Hp → Prop) : Prop := Fn PP 8 #[(Value.pointer g0_x), (Value.agg #[(Value.int .i64 g1_v_0), (Value.int .i64 g1_v_1), (Value.float .f64 g1_v_2), (Value.string g1_v_3)]), (Value.int .i64 g2_tid)] h Q
/-- livery/key.Least -/
def S_key_Least (g0_v_0 : Int) (g0_v_1 : Int) (g0_v_2 : Nat) (g0_v_3 : ByteArray) (h : Hp) (Q : List Value → Hp → Prop) : Prop := Fn PP 32 #[(Value.agg #[(Value.int .i64 g0_v_0), (Value.int .i64 g0_v_1), (Value.float .f64 g0_v_2), (Value.string g0_v_3)])] h Q
/-- livery/key.After -/
def S_key_After (g0_v_0 : Int) (g0_v_1 : Int) (g0_v_2 : Nat) (g0_v_3 : ByteArray) (h : Hp) (Q : List Value → Hp → Prop) : Prop := Fn PP 33 #[(Value.agg #[(Value.int .i64 g0_v_0), (Value.int .i64 g0_v_1), (Value.float .f64 g0_v_2), (Value.string g0_v_3)])] h Q
/-- (*livery/index.Index).between -/
def S_index_Index_between (g0_x : Option Addr) (g1_from : ByteArray) (g2_to : ByteArray) (h : Hp) (Q : List Value → Hp → Prop) : Prop := Fn PP 34 #[(Value.pointer g0_x), (Value.string g1_from), (Value.string g2_to)] h Q
/-- (*livery/index.Index).Find -/
def S_index_Index_Find (g0_x : Option Addr) (g1_v_0 : Int) (g1_v_1 : Int) (g1_v_2 : Nat) (g1_v_3 : ByteArray) (h : Hp) (Q : List Value → Hp → Prop) : Prop := Fn PP 12 #[(Value.pointer g0_x), (Value.agg #[(Value.int .i64 g1_v_0), (Value.int .i64 g1_v_1), (Value.float .f64 g1_v_2), (Value.string g1_v_3)])] h Q
/-- livery/liverykeep.Ints -/
def S_liverykeep_Ints (g0_a : Sl) (g1_b : Sl) (h : Hp) (Q : List Value → Hp → Prop) : Prop := Fn PP 16 #[(Value.slice g0_a.a g0_a.n g0_a.c), (Value.slice g1_b.a g1_b.n g1_b.c)] h Q
/-- (*livery/leaf.Leaves).Has -/
def S_leaf_Leaves_Has (g0_x : Option Addr) (g1_k : ByteArray) (h : Hp) (Q : List Value → Hp → Prop) : Prop := Fn PP 39 #[(Value.pointer g0_x), (Value.string g1_k)] h Q
/-- (*livery/index.Index).Has -/
def S_index_Index_Has (g0_x : Option Addr) (g1_v_0 : Int) (g1_v_1 : Int) (g1_v_2 : Nat) (g1_v_3 : ByteArray) (g2_tid : Int) (h : Hp) (Q : List Value → Hp → Prop) : Prop := Fn PP 17 #[(Value.pointer g0_x), (Value.agg #[(Value.int .i64 g1_v_0), (Value.int .i64 g1_v_1), (Value.float .f64 g1_v_2), (Value.string g1_v_3)]), (Value.int .i64 g2_tid)] h Q
/-- (*livery/leaf.Leaves).Len -/
def S_leaf_Leaves_Len (g0_x : Option Addr) (h : Hp) (Q : List Value → Hp → Prop) : Prop := Fn PP 41 #[(Value.pointer g0_x)] h Q
/-- (*livery/index.Index).Len -/
def S_index_Index_Len (g0_x : Option Addr) (h : Hp) (Q : List Value → Hp → Prop) : Prop := Fn PP 19 #[(Value.pointer g0_x)] h Q
/-- livery/liverylaw11.wakes -/
def S_liverylaw11_wakes (h : Hp) (Q : List Value → Hp → Prop) : Prop := Fn PP 7 #[] h Q
/-- livery/liveryref02.plain -/
def S_liveryref02_plain (g0_f : Nat) (h : Hp) (Q : List Value → Hp → Prop) : Prop := Fn PP 91 #[(Value.float .f64 g0_f)] h Q
/-- math.IsNaN -/
def S_math_IsNaN (g0_f : Nat) (h : Hp) (Q : List Value → Hp → Prop) : Prop := Fn PP 98 #[(Value.float .f64 g0_f)] h Q
/-- livery/liveryref01.Canon -/
def S_liveryref01_Canon (g0_f : Nat) (h : Hp) (Q : List Value → Hp → Prop) : Prop := Fn PP 93 #[(Value.float .f64 g0_f)] h Q
/-- livery/liveryref01.Is -/
def S_liveryref01_Is (g0_f : Nat) (h : Hp) (Q : List Value → Hp → Prop) : Prop := Fn PP 92 #[(Value.float .f64 g0_f)] h Q
/-- livery/liveryref02.Good -/
def S_liveryref02_Good (g0_v_0 : Int) (g0_v_1 : Int) (g0_v_2 : Nat) (g0_v_3 : ByteArray) (h : Hp) (Q : List Value → Hp → Prop) : Prop := Fn PP 70 #[(Value.agg #[(Value.int .i64 g0_v_0), (Value.int .i64 g0_v_1), (Value.float .f64 g0_v_2), (Value.string g0_v_3)])] h Q
/-- livery/liveryref02.Eight -/
def S_liveryref02_Eight (g0_u : Int) (h : Hp) (Q : List Value → Hp → Prop) : Prop := Fn PP 71 #[(Value.int .u64 g0_u)] h Q
/-- livery/liveryref01.Bits -/
def S_liveryref01_Bits (g0_f : Nat) (h : Hp) (Q : List Value → Hp → Prop) : Prop := Fn PP 72 #[(Value.float .f64 g0_f)] h Q
/-- livery/liveryref03.Of -/
def S_liveryref03_Of (g0_v_0 : Int) (g0_v_1 : Int) (g0_v_2 : Nat) (g0_v_3 : ByteArray) (h : Hp) (Q : List Value → Hp → Prop) : Prop := Fn PP 50 #[(Value.agg #[(Value.int .i64 g0_v_0), (Value.int .i64 g0_v_1), (Value.float .f64 g0_v_2), (Value.string g0_v_3)])] h Q
/-- livery/liveryref03.Entry -/
def S_liveryref03_Entry (g0_v_0 : Int) (g0_v_1 : Int) (g0_v_2 : Nat) (g0_v_3 : ByteArray) (g1_n : Int) (h : Hp) (Q : List Value → Hp → Prop) : Prop := Fn PP 28 #[(Value.agg #[(Value.int .i64 g0_v_0), (Value.int .i64 g0_v_1), (Value.float .f64 g0_v_2), (Value.string g0_v_3)]), (Value.int .i64 g1_n)] h Q
/-- (*livery/liveryref10.Leaves).at -/
def S_liveryref10_Leaves_at (g0_x : Option Addr) (g1_k : ByteArray) (h : Hp) (Q : List Value → Hp → Prop) : Prop := Fn PP 51 #[(Value.pointer g0_x), (Value.string g1_k)] h Q
/-- (*livery/liveryref10.Leaves).Has -/
def S_liveryref10_Leaves_Has (g0_x : Option Addr) (g1_k : ByteArray) (h : Hp) (Q : List Value → Hp → Prop) : Prop := Fn PP 40 #[(Value.pointer g0_x), (Value.string g1_k)] h Q
/-- (*livery/liveryref10.Leaves).Insert -/
def S_liveryref10_Leaves_Insert (g0_x : Option Addr) (g1_k : ByteArray) (h : Hp) (Q : List Value → Hp → Prop) : Prop := Fn PP 29 #[(Value.pointer g0_x), (Value.string g1_k)] h Q
/-- (*livery/liveryref11.Index).Add -/
def S_liveryref11_Index_Add (g0_x : Option Addr) (g1_v_0 : Int) (g1_v_1 : Int) (g1_v_2 : Nat) (g1_v_3 : ByteArray) (g2_tid : Int) (h : Hp) (Q : List Value → Hp → Prop) : Prop := Fn PP 9 #[(Value.pointer g0_x), (Value.agg #[(Value.int .i64 g1_v_0), (Value.int .i64 g1_v_1), (Value.float .f64 g1_v_2), (Value.string g1_v_3)]), (Value.int .i64 g2_tid)] h Q
/-- slices.Delete[[]string,string] -/
def S_slices_Delete_sstring_string (g0_s : Sl) (g1_i : Int) (g2_j : Int) (h : Hp) (Q : List Value → Hp → Prop) : Prop := Fn PP 52 #[(Value.slice g0_s.a g0_s.n g0_s.c), (Value.int .i64 g1_i), (Value.int .i64 g2_j)] h Q
/-- slices.Delete[[]*livery/leaf.one,*livery/leaf.one] -/
def S_slices_Delete_spleaf_one_pleaf_one (g0_s : Sl) (g1_i : Int) (g2_j : Int) (h : Hp) (Q : List Value → Hp → Prop) : Prop := Fn PP 53 #[(Value.slice g0_s.a g0_s.n g0_s.c), (Value.int .i64 g1_i), (Value.int .i64 g2_j)] h Q
/-- (*livery/leaf.Leaves).Remove -/
def S_leaf_Leaves_Remove (g0_x : Option Addr) (g1_k : ByteArray) (h : Hp) (Q : List Value → Hp → Prop) : Prop := Fn PP 30 #[(Value.pointer g0_x), (Value.string g1_k)] h Q
/-- (*livery/index.Index).Drop -/
def S_index_Index_Drop (g0_x : Option Addr) (g1_v_0 : Int) (g1_v_1 : Int) (g1_v_2 : Nat) (g1_v_3 : ByteArray) (g2_tid : Int) (h : Hp) (Q : List Value → Hp → Prop) : Prop := Fn PP 10 #[(Value.pointer g0_x), (Value.agg #[(Value.int .i64 g1_v_0), (Value.int .i64 g1_v_1), (Value.float .f64 g1_v_2), (Value.string g1_v_3)]), (Value.int .i64 g2_tid)] h Q
/-- (*livery/liveryref10.Leaves).Remove -/
def S_liveryref10_Leaves_Remove (g0_x : Option Addr) (g1_k : ByteArray) (h : Hp) (Q : List Value → Hp → Prop) : Prop := Fn PP 31 #[(Value.pointer g0_x), (Value.string g1_k)] h Q
/-- (*livery/liveryref11.Index).Drop -/
def S_liveryref11_Index_Drop (g0_x : Option Addr) (g1_v_0 : Int) (g1_v_1 : Int) (g1_v_2 : Nat) (g1_v_3 : ByteArray) (g2_tid : Int) (h : Hp) (Q : List Value → Hp → Prop) : Prop := Fn PP 11 #[(Value.pointer g0_x), (Value.agg #[(Value.int .i64 g1_v_0), (Value.int .i64 g1_v_1), (Value.float .f64 g1_v_2), (Value.string g1_v_3)]), (Value.int .i64 g2_tid)] h Q
/-- livery/liveryref03.Least -/
def S_liveryref03_Least (g0_v_0 : Int) (g0_v_1 : Int) (g0_v_2 : Nat) (g0_v_3 : ByteArray) (h : Hp) (Q : List Value → Hp → Prop) : Prop := Fn PP 35 #[(Value.agg #[(Value.int .i64 g0_v_0), (Value.int .i64 g0_v_1), (Value.float .f64 g0_v_2), (Value.string g0_v_3)])] h Q
/-- livery/liveryref03.After -/
def S_liveryref03_After (g0_v_0 : Int) (g0_v_1 : Int) (g0_v_2 : Nat) (g0_v_3 : ByteArray) (h : Hp) (Q : List Value → Hp → Prop) : Prop := Fn PP 36 #[(Value.agg #[(Value.int .i64 g0_v_0), (Value.int .i64 g0_v_1), (Value.float .f64 g0_v_2), (Value.string g0_v_3)])] h Q
/-- (*livery/liveryref10.Leaves).Range -/
def S_liveryref10_Leaves_Range (g0_x : Option Addr) (g1_from : ByteArray) (g2_to : ByteArray) (h : Hp) (Q : List Value → Hp → Prop) : Prop := Fn PP 56 #[(Value.pointer g0_x), (Value.string g1_from), (Value.string g2_to)] h Q
/-- livery/liveryref02.Number -/
def S_liveryref02_Number (g0_s : ByteArray) (h : Hp) (Q : List Value → Hp → Prop) : Prop := Fn PP 95 #[(Value.string g0_s)] h Q
/-- livery/liveryref01.From -/
def S_liveryref01_From (g0_u : Int) (h : Hp) (Q : List Value → Hp → Prop) : Prop := Fn PP 96 #[(Value.int .u64 g0_u)] h Q
/-- livery/liveryref03.text -/
def S_liveryref03_text (g0_k : ByteArray) (h : Hp) (Q : List Value → Hp → Prop) : Prop := Fn PP 97 #[(Value.string g0_k)] h Q
/-- livery/liveryref03.read -/
def S_liveryref03_read (g0_k : ByteArray) (h : Hp) (Q : List Value → Hp → Prop) : Prop := Fn PP 75 #[(Value.string g0_k)] h Q
/-- livery/liveryref03.Split -/
def S_liveryref03_Split (g0_e : ByteArray) (h : Hp) (Q : List Value → Hp → Prop) : Prop := Fn PP 57 #[(Value.string g0_e)] h Q
/-- (*livery/liveryref11.Index).span -/
def S_liveryref11_Index_span (g0_x : Option Addr) (g1_from : ByteArray) (g2_to : ByteArray) (h : Hp) (Q : List Value → Hp → Prop) : Prop := Fn PP 37 #[(Value.pointer g0_x), (Value.string g1_from), (Value.string g2_to)] h Q
/-- (*livery/liveryref11.Index).Find -/
def S_liveryref11_Index_Find (g0_x : Option Addr) (g1_v_0 : Int) (g1_v_1 : Int) (g1_v_2 : Nat) (g1_v_3 : ByteArray) (h : Hp) (Q : List Value → Hp → Prop) : Prop := Fn PP 13 #[(Value.pointer g0_x), (Value.agg #[(Value.int .i64 g1_v_0), (Value.int .i64 g1_v_1), (Value.float .f64 g1_v_2), (Value.string g1_v_3)])] h Q
/-- (*livery/index.Index).Range -/
def S_index_Index_Range (g0_x : Option Addr) (g1_v_0 : Int) (g1_v_1 : Int) (g1_v_2 : Nat) (g1_v_3 : ByteArray) (g2_w_0 : Int) (g2_w_1 : Int) (g2_w_2 : Nat) (g2_w_3 : ByteArray) (h : Hp) (Q : List Value → Hp → Prop) : Prop := Fn PP 14 #[(Value.pointer g0_x), (Value.agg #[(Value.int .i64 g1_v_0), (Value.int .i64 g1_v_1), (Value.float .f64 g1_v_2), (Value.string g1_v_3)]), (Value.agg #[(Value.int .i64 g2_w_0), (Value.int .i64 g2_w_1), (Value.float .f64 g2_w_2), (Value.string g2_w_3)])] h Q
/-- livery/liveryref01.rank -/
def S_liveryref01_rank (g0_f : Nat) (h : Hp) (Q : List Value → Hp → Prop) : Prop := Fn PP 76 #[(Value.float .f64 g0_f)] h Q
/-- livery/liveryref01.Compare -/
def S_liveryref01_Compare (g0_a : Nat) (g1_b : Nat) (h : Hp) (Q : List Value → Hp → Prop) : Prop := Fn PP 58 #[(Value.float .f64 g0_a), (Value.float .f64 g1_b)] h Q
/-- livery/liveryref02.Compare -/
def S_liveryref02_Compare (g0_a_0 : Int) (g0_a_1 : Int) (g0_a_2 : Nat) (g0_a_3 : ByteArray) (g1_b_0 : Int) (g1_b_1 : Int) (g1_b_2 : Nat) (g1_b_3 : ByteArray) (h : Hp) (Q : List Value → Hp → Prop) : Prop := Fn PP 38 #[(Value.agg #[(Value.int .i64 g0_a_0), (Value.int .i64 g0_a_1), (Value.float .f64 g0_a_2), (Value.string g0_a_3)]), (Value.agg #[(Value.int .i64 g1_b_0), (Value.int .i64 g1_b_1), (Value.float .f64 g1_b_2), (Value.string g1_b_3)])] h Q
/-- (*livery/liveryref11.Index).Range -/
def S_liveryref11_Index_Range (g0_x : Option Addr) (g1_v_0 : Int) (g1_v_1 : Int) (g1_v_2 : Nat) (g1_v_3 : ByteArray) (g2_w_0 : Int) (g2_w_1 : Int) (g2_w_2 : Nat) (g2_w_3 : ByteArray) (h : Hp) (Q : List Value → Hp → Prop) : Prop := Fn PP 15 #[(Value.pointer g0_x), (Value.agg #[(Value.int .i64 g1_v_0), (Value.int .i64 g1_v_1), (Value.float .f64 g1_v_2), (Value.string g1_v_3)]), (Value.agg #[(Value.int .i64 g2_w_0), (Value.int .i64 g2_w_1), (Value.float .f64 g2_w_2), (Value.string g2_w_3)])] h Q
/-- (*livery/liveryref11.Index).Has -/
def S_liveryref11_Index_Has (g0_x : Option Addr) (g1_v_0 : Int) (g1_v_1 : Int) (g1_v_2 : Nat) (g1_v_3 : ByteArray) (g2_tid : Int) (h : Hp) (Q : List Value → Hp → Prop) : Prop := Fn PP 18 #[(Value.pointer g0_x), (Value.agg #[(Value.int .i64 g1_v_0), (Value.int .i64 g1_v_1), (Value.float .f64 g1_v_2), (Value.string g1_v_3)]), (Value.int .i64 g2_tid)] h Q
/-- (*livery/liveryref10.Leaves).Len -/
def S_liveryref10_Leaves_Len (g0_x : Option Addr) (h : Hp) (Q : List Value → Hp → Prop) : Prop := Fn PP 20 #[(Value.pointer g0_x)] h Q
/-- (*livery/leaf.Leaves).All -/
def S_leaf_Leaves_All (g0_x : Option Addr) (h : Hp) (Q : List Value → Hp → Prop) : Prop := Fn PP 42 #[(Value.pointer g0_x)] h Q
/-- (*livery/index.Index).Leaves -/
def S_index_Index_Leaves (g0_x : Option Addr) (h : Hp) (Q : List Value → Hp → Prop) : Prop := Fn PP 21 #[(Value.pointer g0_x)] h Q
/-- (*livery/liveryref10.Leaves).All -/
def S_liveryref10_Leaves_All (g0_x : Option Addr) (h : Hp) (Q : List Value → Hp → Prop) : Prop := Fn PP 22 #[(Value.pointer g0_x)] h Q
/-- livery/liverylaw11.IndexPlays -/
def S_liverylaw11_IndexPlays (g0_fan : Int) (g1_l : Sl) (h : Hp) (Q : List Value → Hp → Prop) : Prop := Fn PP 3 #[(Value.int .i64 g0_fan), (Value.slice g1_l.a g1_l.n g1_l.c)] h Q
/-- (*livery/leaf.Leaves).Range -/
def S_leaf_Leaves_Range (g0_x : Option Addr) (g1_from : ByteArray) (g2_to : ByteArray) (h : Hp) (Q : List Value → Hp → Prop) : Prop := Fn PP 54 #[(Value.pointer g0_x), (Value.string g1_from), (Value.string g2_to)] h Q
/-- livery/index.entries -/
def S_index_entries (g0_keys : Sl) (h : Hp) (Q : List Value → Hp → Prop) : Prop := Fn PP 55 #[(Value.slice g0_keys.a g0_keys.n g0_keys.c)] h Q
/-- livery/key.wide -/
def S_key_wide (g0_s : ByteArray) (h : Hp) (Q : List Value → Hp → Prop) : Prop := Fn PP 109 #[(Value.string g0_s)] h Q
/-- livery/float.Is -/
def S_float_Is (g0_f : Nat) (h : Hp) (Q : List Value → Hp → Prop) : Prop := Fn PP 100 #[(Value.float .f64 g0_f)] h Q
/-- livery/float.From -/
def S_float_From (g0_u : Int) (h : Hp) (Q : List Value → Hp → Prop) : Prop := Fn PP 110 #[(Value.int .u64 g0_u)] h Q
/-- strings.IndexByte -/
def S_strings_IndexByte (g0_s : ByteArray) (g1_c : Int) (h : Hp) (Q : List Value → Hp → Prop) : Prop := Fn PP 118 #[(Value.string g0_s), (Value.int .u8 g1_c)] h Q
/-- (*strings.Builder).WriteByte -/
def S_strings_Builder_WriteByte (g0_b : Option Addr) (g1_c : Int) (h : Hp) (Q : List Value → Hp → Prop) : Prop := Fn PP 119 #[(Value.pointer g0_b), (Value.int .u8 g1_c)] h Q
/-- livery/key.text -/
def S_key_text (g0_s : ByteArray) (h : Hp) (Q : List Value → Hp → Prop) : Prop := Fn PP 111 #[(Value.string g0_s)] h Q
/-- livery/key.first -/
def S_key_first (g0_k : ByteArray) (h : Hp) (Q : List Value → Hp → Prop) : Prop := Fn PP 94 #[(Value.string g0_k)] h Q
/-- livery/key.Split -/
def S_key_Split (g0_e : ByteArray) (h : Hp) (Q : List Value → Hp → Prop) : Prop := Fn PP 74 #[(Value.string g0_e)] h Q
/-- livery/index.entries$1 -/
def S_index_entries_1 (g0_yield_f : Nat) (g0_yield_c : Array Value) (g1_x : Addr) (h : Hp) (Q : List Value → Hp → Prop) : Prop := Fn PP 73 #[(Value.func (.func g0_yield_f) #[] g0_yield_c), (Value.pointer (some g1_x))] h Q
/-- (livery/value.own).bare -/
def S_value_own_bare (g0_v_0 : Int) (g0_v_1 : Int) (g0_v_2 : Nat) (g0_v_3 : ByteArray) (g1_n : Bool) (g2_f : Bool) (g3_s : Bool) (h : Hp) (Q : List Value → Hp → Prop) : Prop := Fn PP 99 #[(Value.agg #[(Value.int .i64 g0_v_0), (Value.int .i64 g0_v_1), (Value.float .f64 g0_v_2), (Value.string g0_v_3)]), (Value.bool g1_n), (Value.bool g2_f), (Value.bool g3_s)] h Q
/-- (livery/value.own).null -/
def S_value_own_null (g0_v_0 : Int) (g0_v_1 : Int) (g0_v_2 : Nat) (g0_v_3 : ByteArray) (h : Hp) (Q : List Value → Hp → Prop) : Prop := Fn PP 77 #[(Value.agg #[(Value.int .i64 g0_v_0), (Value.int .i64 g0_v_1), (Value.float .f64 g0_v_2), (Value.string g0_v_3)])] h Q
/-- (livery/value.own).bool -/
def S_value_own_bool (g0_v_0 : Int) (g0_v_1 : Int) (g0_v_2 : Nat) (g0_v_3 : ByteArray) (h : Hp) (Q : List Value → Hp → Prop) : Prop := Fn PP 78 #[(Value.agg #[(Value.int .i64 g0_v_0), (Value.int .i64 g0_v_1), (Value.float .f64 g0_v_2), (Value.string g0_v_3)])] h Q
/-- (livery/value.own).int -/
def S_value_own_int (g0_v_0 : Int) (g0_v_1 : Int) (g0_v_2 : Nat) (g0_v_3 : ByteArray) (h : Hp) (Q : List Value → Hp → Prop) : Prop := Fn PP 79 #[(Value.agg #[(Value.int .i64 g0_v_0), (Value.int .i64 g0_v_1), (Value.float .f64 g0_v_2), (Value.string g0_v_3)])] h Q
/-- (livery/value.own).float -/
def S_value_own_float (g0_v_0 : Int) (g0_v_1 : Int) (g0_v_2 : Nat) (g0_v_3 : ByteArray) (h : Hp) (Q : List Value → Hp → Prop) : Prop := Fn PP 80 #[(Value.agg #[(Value.int .i64 g0_v_0), (Value.int .i64 g0_v_1), (Value.float .f64 g0_v_2), (Value.string g0_v_3)])] h Q
/-- (livery/value.own).text -/
def S_value_own_text (g0_v_0 : Int) (g0_v_1 : Int) (g0_v_2 : Nat) (g0_v_3 : ByteArray) (h : Hp) (Q : List Value → Hp → Prop) : Prop := Fn PP 81 #[(Value.agg #[(Value.int .i64 g0_v_0), (Value.int .i64 g0_v_1), (Value.float .f64 g0_v_2), (Value.string g0_v_3)])] h Q
/-- (*strings.Builder).copyCheck -/
def S_strings_Builder_copyCheck (g0_b : Option Addr) (h : Hp) (Q : List Value → Hp → Prop) : Prop := Fn PP 105 #[(Value.pointer g0_b)] h Q
/-- internal/abi.NoEscape -/
def S_internal_abi_NoEscape (g0_x : Option Addr) (h : Hp) (Q : List Value → Hp → Prop) : Prop := Fn PP 116 #[(Value.pointer g0_x)] h Q
/-- (runtime.boundsError).Error -/
def S_runtime_boundsError_Error (g0_x_0 : Int) (g0_x_1 : Int) (g0_x_2 : Bool) (g0_x_3 : Int) (h : Hp) (Q : List Value → Hp → Prop) : Prop := Fn PP 126 #[(Value.agg #[(Value.int .i64 g0_x_0), (Value.int .i64 g0_x_1), (Value.bool g0_x_2), (Value.int .u8 g0_x_3)])] h Q
/-- (runtime.boundsError).RuntimeError -/
def S_runtime_boundsError_RuntimeError (g0_x_0 : Int) (g0_x_1 : Int) (g0_x_2 : Bool) (g0_x_3 : Int) (h : Hp) (Q : List Value → Hp → Prop) : Prop := Fn PP 127 #[(Value.agg #[(Value.int .i64 g0_x_0), (Value.int .i64 g0_x_1), (Value.bool g0_x_2), (Value.int .u8 g0_x_3)])] h Q
/-- (runtime.errorString).Error -/
def S_runtime_errorString_Error (g0_x : ByteArray) (h : Hp) (Q : List Value → Hp → Prop) : Prop := Fn PP 128 #[(Value.string g0_x)] h Q
/-- (runtime.errorString).RuntimeError -/
def S_runtime_errorString_RuntimeError (g0_x : ByteArray) (h : Hp) (Q : List Value → Hp → Prop) : Prop := Fn PP 129 #[(Value.string g0_x)] h Q
/-- (runtime.plainError).Error -/
def S_runtime_plainError_Error (g0_x : ByteArray) (h : Hp) (Q : List Value → Hp → Prop) : Prop := Fn PP 130 #[(Value.string g0_x)] h Q
/-- (runtime.plainError).RuntimeError -/
def S_runtime_plainError_RuntimeError (g0_x : ByteArray) (h : Hp) (Q : List Value → Hp → Prop) : Prop := Fn PP 131 #[(Value.string g0_x)] h Q
/-- (runtime.errorAddressString).Error -/
def S_runtime_errorAddressString_Error (g0_x_0 : ByteArray) (g0_x_1 : Int) (h : Hp) (Q : List Value → Hp → Prop) : Prop := Fn PP 132 #[(Value.agg #[(Value.string g0_x_0), (Value.int .u64 g0_x_1)])] h Q
/-- (runtime.errorAddressString).RuntimeError -/
def S_runtime_errorAddressString_RuntimeError (g0_x_0 : ByteArray) (g0_x_1 : Int) (h : Hp) (Q : List Value → Hp → Prop) : Prop := Fn PP 133 #[(Value.agg #[(Value.string g0_x_0), (Value.int .u64 g0_x_1)])] h Q
/-- (*runtime.TypeAssertionError).Error -/
def S_runtime_TypeAssertionError_Error (g0_x : Option Addr) (h : Hp) (Q : List Value → Hp → Prop) : Prop := Fn PP 134 #[(Value.pointer g0_x)] h Q
/-- (*runtime.TypeAssertionError).RuntimeError -/
def S_runtime_TypeAssertionError_RuntimeError (g0_x : Option Addr) (h : Hp) (Q : List Value → Hp → Prop) : Prop := Fn PP 135 #[(Value.pointer g0_x)] h Q
/-- (*runtime.PanicNilError).Error -/
def S_runtime_PanicNilError_Error (g0_x : Option Addr) (h : Hp) (Q : List Value → Hp → Prop) : Prop := Fn PP 136 #[(Value.pointer g0_x)] h Q
/-- (*runtime.PanicNilError).RuntimeError -/
def S_runtime_PanicNilError_RuntimeError (g0_x : Option Addr) (h : Hp) (Q : List Value → Hp → Prop) : Prop := Fn PP 137 #[(Value.pointer g0_x)] h Q
/-- (*internal/abi.Type).Align -/
def S_internal_abi_Type_Align (g0_x : Option Addr) (h : Hp) (Q : List Value → Hp → Prop) : Prop := Fn PP 138 #[(Value.pointer g0_x)] h Q
/-- (internal/runtime/maps.unhashableTypeError).Error -/
def S_internal_runtime_maps_unhashableTypeError_Error (g0_x_0 : Option Addr) (h : Hp) (Q : List Value → Hp → Prop) : Prop := Fn PP 139 #[(Value.agg #[(Value.pointer g0_x_0)])] h Q
/-- (internal/runtime/maps.unhashableTypeError).RuntimeError -/
def S_internal_runtime_maps_unhashableTypeError_RuntimeError (g0_x_0 : Option Addr) (h : Hp) (Q : List Value → Hp → Prop) : Prop := Fn PP 140 #[(Value.agg #[(Value.pointer g0_x_0)])] h Q
/-- (livery/api.Errno).Error -/
def S_api_Errno_Error (g0_x : Int) (h : Hp) (Q : List Value → Hp → Prop) : Prop := Fn PP 141 #[(Value.int .i64 g0_x)] h Q
/-- (*strings.Builder).Reset -/
def S_strings_Builder_Reset (g0_x : Option Addr) (h : Hp) (Q : List Value → Hp → Prop) : Prop := Fn PP 142 #[(Value.pointer g0_x)] h Q
/-- (internal/abi.Kind).String -/
def S_internal_abi_Kind_String (g0_x : Int) (h : Hp) (Q : List Value → Hp → Prop) : Prop := Fn PP 143 #[(Value.int .u8 g0_x)] h Q
/-- var's door: gosem.cut.vars holds initialisers alone; see the manifest's row cutvarsword (look 11, test files too) -/
def S_var_s_door_gosem_cut_vars_holds_initialisers_alone_see_the_manifest_s_row_cutvarsword_look_11_test_files_too (h : Hp) (Q : List Value → Hp → Prop) : Prop := Fn PP 144 #[] h Q
/-- var's door: the look of gosem.cut.vars went over the folder that the caller named as the repository's root (look 11) -/
def S_var_s_door_the_look_of_gosem_cut_vars_went_over_the_folder_that_the_caller_named_as_the_repository_s_root_look_11 (h : Hp) (Q : List Value → Hp → Prop) : Prop := Fn PP 145 #[] h Q
/-- var's door: unicode/utf8.acceptRanges is laid by its own initialiser, plain data (look 11) -/
def S_var_s_door_unicode_utf8_acceptRanges_is_laid_by_its_own_initialiser_plain_data_look_11 (h : Hp) (Q : List Value → Hp → Prop) : Prop := Fn PP 146 #[] h Q
/-- var's door: unicode/utf8.first is laid by its text alone (pinned 1) -/
def S_var_s_door_unicode_utf8_first_is_laid_by_its_text_alone_pinned_1 (h : Hp) (Q : List Value → Hp → Prop) : Prop := Fn PP 147 #[] h Q
/-- gosem.cut.vars -/
def S_gosem_cut_vars (h : Hp) (Q : List Value → Hp → Prop) : Prop := Fn PP 148 #[] h Q
def F_leaf_New (g0_fan : Int) (h : Hp) (Q : List Value → Hp → Prop) : Prop :=
∀ J1 : List Value → Hp → Prop, (∀ b2 : Bool, ∀ h3 : Hp, ((if b2 = true then
      (Q [(Value.pointer none), (Value.int .i64 (1 : Int))] h3) else
      (wth (Array.push h3 (Obj.cells #[(Value.int .i64 (1 : Int)), (Value.string (ByteArray.mk #[])), (Value.slice none 0 0)] T_leaf_one)) fun h4 =>
        wth (Array.push h4 (Obj.cells #[(Value.pointer (some (Addr.mk (Array.size h3) 0 none)))] T_pleaf_one)) fun h5 =>
        wth (Array.push h5 (Obj.cells #[(Value.int .i64 g0_fan), (Value.slice (some (Addr.mk (Array.size h4) 0 none)) 1 1), (Value.int .i64 (2 : Int))] T_leaf_Leaves)) fun h6 =>
        Q [(Value.pointer (some (Addr.mk (Array.size h5) 0 none))), (Value.int .i64 (0 : Int))] h6))) → J1 [(Value.bool b2)] h3) →
(if (decide (g0_fan < (2 : Int))) = true then (J1 [(Value.bool true)] h) else
  (J1 [(Value.bool (decide (g0_fan > (64 : Int))))] h))
def A_leaf_New : Ann := (.mk none ⟨[], []⟩ .nil (.mk none ⟨[], []⟩ (.mk none ⟨[], []⟩ (.mk (some ⟨[0], [(9, (.c .bool))]⟩) ⟨[], []⟩ .nil .nil) .nil) .nil))
theorem E_leaf_New (g0_fan : Int) (h : Hp) (Q : List Value → Hp → Prop) : cw PP 16 (fun _ => []) (bodyOf Tryz.f23) A_leaf_New (finQ PP (Tryz.f23.results.toList) Q) (argFr [(Value.int .i64 g0_fan)]) h = F_leaf_New g0_fan h Q := by kernel_rfl
theorem O_leaf_New (g0_fan : Int) {h : Hp} {Q : List Value → Hp → Prop} (H : F_leaf_New g0_fan h Q) : S_leaf_New g0_fan h Q :=
  fn_of_cw (hs := (fun _ => [])) (ann := A_leaf_New) (args := [(Value.int .i64 g0_fan)]) mixedPP Tryz.func23 (c := bodyOf Tryz.f23) (by kernel_rfl) (by kernel_rfl) (by kernel_rfl) (Eq.mpr (E_leaf_New g0_fan h Q) H)
def F_index_New (g0_fan : Int) (h : Hp) (Q : List Value → Hp → Prop) : Prop :=
S_leaf_New g0_fan h fun (vs1 : List Value) (h2 : Hp) =>
∃ p3 : Option Addr, ∃ n4 : Int, vs1 = [(Value.pointer p3), (Value.int .i64 n4)] ∧
(if (n4 != (0 : Int)) = true then
  (Q [(Value.pointer none), (Value.int .i64 n4)] h2) else
  (wth (Array.push h2 (Obj.cells #[(Value.pointer p3)] T_index_Index)) fun h5 =>
    Q [(Value.pointer (some (Addr.mk (Array.size h2) 0 none))), (Value.int .i64 (0 : Int))] h5))
def A_index_New : Ann := .nil
theorem E_index_New (g0_fan : Int) (h : Hp) (Q : List Value → Hp → Prop) : cw PP 17 (fun _ => []) (bodyOf Tryz.f4) A_index_New (finQ PP (Tryz.f4.results.toList) Q) (argFr [(Value.int .i64 g0_fan)]) h = F_index_New g0_fan h Q := by kernel_rfl
theorem O_index_New (g0_fan : Int) {h : Hp} {Q : List Value → Hp → Prop} (H : F_index_New g0_fan h Q) : S_index_New g0_fan h Q :=
  fn_of_cw (hs := (fun _ => [])) (ann := A_index_New) (args := [(Value.int .i64 g0_fan)]) mixedPP Tryz.func4 (c := bodyOf Tryz.f4) (by kernel_rfl) (by kernel_rfl) (by kernel_rfl) (Eq.mpr (E_index_New g0_fan h Q) H)
def F_liveryref10_New (g0_fan : Int) (h : Hp) (Q : List Value → Hp → Prop) : Prop :=
∀ J1 : List Value → Hp → Prop, (∀ b2 : Bool, ∀ h3 : Hp, ((if b2 = true then
      (Q [(Value.pointer none), (Value.int .i64 (1 : Int))] h3) else
      (wth (Array.push h3 (Obj.cells #[(Value.int .i64 (1 : Int)), (Value.bool true), (Value.string (ByteArray.mk #[])), (Value.slice none 0 0)] T_liveryref10_Leaf)) fun h4 =>
        wth (Array.push h4 (Obj.cells #[(Value.slice (some (Addr.mk (Array.size h3) 0 none)) 1 1), (Value.int .i64 g0_fan), (Value.int .i64 (2 : Int))] T_liveryref10_Leaves)) fun h5 =>
        Q [(Value.pointer (some (Addr.mk (Array.size h4) 0 none))), (Value.int .i64 (0 : Int))] h5))) → J1 [(Value.bool b2)] h3) →
(if (decide (g0_fan < (2 : Int))) = true then (J1 [(Value.bool true)] h) else
  (J1 [(Value.bool (decide (g0_fan > (64 : Int))))] h))
def A_liveryref10_New : Ann := (.mk none ⟨[], []⟩ .nil (.mk none ⟨[], []⟩ (.mk none ⟨[], []⟩ (.mk (some ⟨[0], [(9, (.c .bool))]⟩) ⟨[], []⟩ .nil .nil) .nil) .nil))
theorem E_liveryref10_New (g0_fan : Int) (h : Hp) (Q : List Value → Hp → Prop) : cw PP 15 (fun _ => []) (bodyOf Tryz.f24) A_liveryref10_New (finQ PP (Tryz.f24.results.toList) Q) (argFr [(Value.int .i64 g0_fan)]) h = F_liveryref10_New g0_fan h Q := by kernel_rfl
theorem O_liveryref10_New (g0_fan : Int) {h : Hp} {Q : List Value → Hp → Prop} (H : F_liveryref10_New g0_fan h Q) : S_liveryref10_New g0_fan h Q :=
  fn_of_cw (hs := (fun _ => [])) (ann := A_liveryref10_New) (args := [(Value.int .i64 g0_fan)]) mixedPP Tryz.func24 (c := bodyOf Tryz.f24) (by kernel_rfl) (by kernel_rfl) (by kernel_rfl) (Eq.mpr (E_liveryref10_New g0_fan h Q) H)
def F_liveryref11_New (g0_fan : Int) (h : Hp) (Q : List Value → Hp → Prop) : Prop :=
S_liveryref10_New g0_fan h fun (vs1 : List Value) (h2 : Hp) =>
∃ p3 : Option Addr, ∃ n4 : Int, vs1 = [(Value.pointer p3), (Value.int .i64 n4)] ∧
(if (n4 != (0 : Int)) = true then
  (Q [(Value.pointer none), (Value.int .i64 n4)] h2) else
  (wth (Array.push h2 (Obj.cells #[(Value.pointer p3)] T_liveryref11_Index)) fun h5 =>
    Q [(Value.pointer (some (Addr.mk (Array.size h2) 0 none))), (Value.int .i64 (0 : Int))] h5))
def A_liveryref11_New : Ann := .nil
theorem E_liveryref11_New (g0_fan : Int) (h : Hp) (Q : List Value → Hp → Prop) : cw PP 17 (fun _ => []) (bodyOf Tryz.f5) A_liveryref11_New (finQ PP (Tryz.f5.results.toList) Q) (argFr [(Value.int .i64 g0_fan)]) h = F_liveryref11_New g0_fan h Q := by kernel_rfl
theorem O_liveryref11_New (g0_fan : Int) {h : Hp} {Q : List Value → Hp → Prop} (H : F_liveryref11_New g0_fan h Q) : S_liveryref11_New g0_fan h Q :=
  fn_of_cw (hs := (fun _ => [])) (ann := A_liveryref11_New) (args := [(Value.int .i64 g0_fan)]) mixedPP Tryz.func5 (c := bodyOf Tryz.f5) (by kernel_rfl) (by kernel_rfl) (by kernel_rfl) (Eq.mpr (E_liveryref11_New g0_fan h Q) H)
def F_liverykeep_LargeValue (g0_v_0 : Int) (g0_v_1 : Int) (g0_v_2 : Nat) (g0_v_3 : ByteArray) (h : Hp) (Q : List Value → Hp → Prop) : Prop :=
wth (Array.push h (Obj.cells #[(Value.int .i64 g0_v_0), (Value.int .i64 g0_v_1), (Value.float .f64 g0_v_2), (Value.string g0_v_3)] T_api_Value)) fun h1 =>
∃ s2 : ByteArray, rd h1 (Addr.add (Addr.mk (Array.size h) 0 none) 3) = some (Value.string s2) ∧
Q [(Value.bool (decide ((ByteArray.size s2 : Int) > (2000 : Int))))] h1
def A_liverykeep_LargeValue : Ann := .nil
theorem E_liverykeep_LargeValue (g0_v_0 : Int) (g0_v_1 : Int) (g0_v_2 : Nat) (g0_v_3 : ByteArray) (h : Hp) (Q : List Value → Hp → Prop) : cw PP 7 (fun _ => []) (bodyOf Tryz.f25) A_liverykeep_LargeValue (finQ PP (Tryz.f25.results.toList) Q) (argFr [(Value.agg #[(Value.int .i64 g0_v_0), (Value.int .i64 g0_v_1), (Value.float .f64 g0_v_2), (Value.string g0_v_3)])]) h = F_liverykeep_LargeValue g0_v_0 g0_v_1 g0_v_2 g0_v_3 h Q := by kernel_rfl
theorem O_liverykeep_LargeValue (g0_v_0 : Int) (g0_v_1 : Int) (g0_v_2 : Nat) (g0_v_3 : ByteArray) {h : Hp} {Q : List Value → Hp → Prop} (H : F_liverykeep_LargeValue g0_v_0 g0_v_1 g0_v_2 g0_v_3 h Q) : S_liverykeep_LargeValue g0_v_0 g0_v_1 g0_v_2 g0_v_3 h Q :=
  fn_of_cw (hs := (fun _ => [])) (ann := A_liverykeep_LargeValue) (args := [(Value.agg #[(Value.int .i64 g0_v_0), (Value.int .i64 g0_v_1), (Value.float .f64 g0_v_2), (Value.string g0_v_3)])]) mixedPP Tryz.func25 (c := bodyOf Tryz.f25) (by kernel_rfl) (by kernel_rfl) (by kernel_rfl) (Eq.mpr (E_liverykeep_LargeValue g0_v_0 g0_v_1 g0_v_2 g0_v_3 h Q) H)
def F_liverylaw11_fair (g0_l : Sl) (h : Hp) (Q : List Value → Hp → Prop) : Prop :=
∀ X1 : List Value → Hp → Prop, (∀ n2 : Int, ∀ h3 : Hp, ((if (decide (n2 < (g0_l.n : Int))) = true then
      (∀ J4 : List Value → Hp → Prop, (∀ b5 : Bool, ∀ h6 : Hp, ((if b5 = true then
              (Q [(Value.bool false)] h6) else
              (X1 [(Value.int .i64 (IntKind.wrap .i64 (n2 + (1 : Int))))] h6))) → J4 [(Value.bool b5)] h6) →
        nilW g0_l.a fun a7 => ixOk n2 g0_l.n (∃ n8 : Int, rd h3 (Addr.add (Addr.add (Addr.add a7 (Int.toNat n2 * 10)) 2) 0) = some (Value.int .i64 n8) ∧ ∃ n9 : Int, rd h3 (Addr.add (Addr.add (Addr.add a7 (Int.toNat n2 * 10)) 2) 1) = some (Value.int .i64 n9) ∧ ∃ x10 : Nat, rd h3 (Addr.add (Addr.add (Addr.add a7 (Int.toNat n2 * 10)) 2) 2) = some (Value.float .f64 x10) ∧ ∃ s11 : ByteArray, rd h3 (Addr.add (Addr.add (Addr.add a7 (Int.toNat n2 * 10)) 2) 3) = some (Value.string s11) ∧ S_liverykeep_LargeValue n8 n9 x10 s11 h3 fun (vs12 : List Value) (h13 : Hp) =>
          ∃ b14 : Bool, vs12 = [(Value.bool b14)] ∧
          (if b14 = true then (J4 [(Value.bool true)] h13) else
            (nilW g0_l.a fun a15 => ixOk n2 g0_l.n (∃ n16 : Int, rd h13 (Addr.add (Addr.add (Addr.add a15 (Int.toNat n2 * 10)) 6) 0) = some (Value.int .i64 n16) ∧ ∃ n17 : Int, rd h13 (Addr.add (Addr.add (Addr.add a15 (Int.toNat n2 * 10)) 6) 1) = some (Value.int .i64 n17) ∧ ∃ x18 : Nat, rd h13 (Addr.add (Addr.add (Addr.add a15 (Int.toNat n2 * 10)) 6) 2) = some (Value.float .f64 x18) ∧ ∃ s19 : ByteArray, rd h13 (Addr.add (Addr.add (Addr.add a15 (Int.toNat n2 * 10)) 6) 3) = some (Value.string s19) ∧ S_liverykeep_LargeValue n16 n17 x18 s19 h13 fun (vs20 : List Value) (h21 : Hp) =>
                ∃ b22 : Bool, vs20 = [(Value.bool b22)] ∧
                J4 [(Value.bool b22)] h21))))) else
      (Q [(Value.bool (decide ((g0_l.n : Int) ≤ (150 : Int))))] h3))) → X1 [(Value.int .i64 n2)] h3) →
X1 [(Value.int .i64 (0 : Int))] h
def A_liverylaw11_fair : Ann := (.mk none ⟨[], []⟩ .nil (.mk none ⟨[], []⟩ (.mk none ⟨[], []⟩ .nil (.mk none ⟨[], []⟩ (.mk none ⟨[0], [(3, (.c (.int .i64)))]⟩ (.mk none ⟨[], []⟩ .nil (.mk none ⟨[], []⟩ (.mk none ⟨[], []⟩ (.mk none ⟨[], []⟩ (.mk (some ⟨[0, 3], [(23, (.c .bool))]⟩) ⟨[], []⟩ .nil .nil) .nil) .nil) .nil)) .nil) .nil)) .nil))
theorem E_liverylaw11_fair (g0_l : Sl) (h : Hp) (Q : List Value → Hp → Prop) : cw PP 27 (fun _ => []) (bodyOf Tryz.f6) A_liverylaw11_fair (finQ PP (Tryz.f6.results.toList) Q) (argFr [(Value.slice g0_l.a g0_l.n g0_l.c)]) h = F_liverylaw11_fair g0_l h Q := by kernel_rfl
theorem O_liverylaw11_fair (g0_l : Sl) {h : Hp} {Q : List Value → Hp → Prop} (H : F_liverylaw11_fair g0_l h Q) : S_liverylaw11_fair g0_l h Q :=
  fn_of_cw (hs := (fun _ => [])) (ann := A_liverylaw11_fair) (args := [(Value.slice g0_l.a g0_l.n g0_l.c)]) mixedPP Tryz.func6 (c := bodyOf Tryz.f6) (by kernel_rfl) (by kernel_rfl) (by kernel_rfl) (Eq.mpr (E_liverylaw11_fair g0_l h Q) H)
def F_key_joined (g0_l : Sl) (h : Hp) (Q : List Value → Hp → Prop) : Prop :=
S_strings_Join ⟨g0_l.a, g0_l.n, g0_l.c⟩ (ByteArray.mk #[]) h fun (vs1 : List Value) (h2 : Hp) =>
∃ s3 : ByteArray, vs1 = [(Value.string s3)] ∧
Q [(Value.string s3)] h2
def A_key_joined : Ann := .nil
theorem E_key_joined (g0_l : Sl) (h : Hp) (Q : List Value → Hp → Prop) : cw PP 5 (fun _ => []) (bodyOf Tryz.f44) A_key_joined (finQ PP (Tryz.f44.results.toList) Q) (argFr [(Value.slice g0_l.a g0_l.n g0_l.c)]) h = F_key_joined g0_l h Q := by kernel_rfl
theorem O_key_joined (g0_l : Sl) {h : Hp} {Q : List Value → Hp → Prop} (H : F_key_joined g0_l h Q) : S_key_joined g0_l h Q :=
  fn_of_cw (hs := (fun _ => [])) (ann := A_key_joined) (args := [(Value.slice g0_l.a g0_l.n g0_l.c)]) mixedPP Tryz.func44 (c := bodyOf Tryz.f44) (by kernel_rfl) (by kernel_rfl) (by kernel_rfl) (Eq.mpr (E_key_joined g0_l h Q) H)
def F_value_Good (g0_v_0 : Int) (g0_v_1 : Int) (g0_v_2 : Nat) (g0_v_3 : ByteArray) (h : Hp) (Q : List Value → Hp → Prop) : Prop :=
wth (Array.push h (Obj.cells #[(Value.int .i64 g0_v_0), (Value.int .i64 g0_v_1), (Value.float .f64 g0_v_2), (Value.string g0_v_3)] T_api_Value)) fun h1 =>
wth (Array.push h1 (Obj.map #[] 0)) fun h2 =>
∃ (m3 : Nat) (es4 : Array MapEntry) (c5 : Nat), (some (Array.size h1)) = some m3 ∧ h2[m3]? = some (.map es4 c5) ∧ KeysLike (Value.int .i64 (0 : Int)) es4 ∧ wth (Array.setIfInBounds h2 m3 (mput (Value.int .i64 (0 : Int)) (Value.func (.func 77) #[] #[]) es4 c5)) fun h6 =>
∃ (m7 : Nat) (es8 : Array MapEntry) (c9 : Nat), (some (Array.size h1)) = some m7 ∧ h6[m7]? = some (.map es8 c9) ∧ KeysLike (Value.int .i64 (1 : Int)) es8 ∧ wth (Array.setIfInBounds h6 m7 (mput (Value.int .i64 (1 : Int)) (Value.func (.func 78) #[] #[]) es8 c9)) fun h10 =>
∃ (m11 : Nat) (es12 : Array MapEntry) (c13 : Nat), (some (Array.size h1)) = some m11 ∧ h10[m11]? = some (.map es12 c13) ∧ KeysLike (Value.int .i64 (2 : Int)) es12 ∧ wth (Array.setIfInBounds h10 m11 (mput (Value.int .i64 (2 : Int)) (Value.func (.func 79) #[] #[]) es12 c13)) fun h14 =>
∃ (m15 : Nat) (es16 : Array MapEntry) (c17 : Nat), (some (Array.size h1)) = some m15 ∧ h14[m15]? = some (.map es16 c17) ∧ KeysLike (Value.int .i64 (3 : Int)) es16 ∧ wth (Array.setIfInBounds h14 m15 (mput (Value.int .i64 (3 : Int)) (Value.func (.func 80) #[] #[]) es16 c17)) fun h18 =>
∃ (m19 : Nat) (es20 : Array MapEntry) (c21 : Nat), (some (Array.size h1)) = some m19 ∧ h18[m19]? = some (.map es20 c21) ∧ KeysLike (Value.int .i64 (4 : Int)) es20 ∧ wth (Array.setIfInBounds h18 m19 (mput (Value.int .i64 (4 : Int)) (Value.func (.func 81) #[] #[]) es20 c21)) fun h22 =>
∃ n23 : Int, rd h22 (Addr.add (Addr.mk (Array.size h) 0 none) 0) = some (Value.int .i64 n23) ∧
∃ es24 : Array MapEntry, mapAt h22 (some (Array.size h1)) es24 ∧ KeysLike (Value.int .i64 n23) es24 ∧ ((∃ f25 : Nat, ∃ cs26 : Array Value, mgetD (Value.int .i64 n23) es24 Value.nilFunc = (Value.func (.func f25) #[] cs26) ∧
    ∃ n28 : Int, rd h22 (Addr.add (Addr.mk (Array.size h) 0 none) 0) = some (Value.int .i64 n28) ∧ ∃ n29 : Int, rd h22 (Addr.add (Addr.mk (Array.size h) 0 none) 1) = some (Value.int .i64 n29) ∧ ∃ x30 : Nat, rd h22 (Addr.add (Addr.mk (Array.size h) 0 none) 2) = some (Value.float .f64 x30) ∧ ∃ s31 : ByteArray, rd h22 (Addr.add (Addr.mk (Array.size h) 0 none) 3) = some (Value.string s31) ∧ Fn PP f25 ((#[] ++ #[(Value.agg #[(Value.int .i64 n28), (Value.int .i64 n29), (Value.float .f64 x30), (Value.string s31)])]) ++ cs26) h22 fun (vs32 : List Value) (h33 : Hp) =>
    ∃ b34 : Bool, vs32 = [(Value.bool b34)] ∧
    Q [(Value.bool b34)] h33) ∨
  (mgetD (Value.int .i64 n23) es24 Value.nilFunc = Value.nilFunc ∧
    Q [(Value.bool false)] h22))
def A_value_Good : Ann := .nil
theorem E_value_Good (g0_v_0 : Int) (g0_v_1 : Int) (g0_v_2 : Nat) (g0_v_3 : ByteArray) (h : Hp) (Q : List Value → Hp → Prop) : cw PP 18 (fun _ => []) (bodyOf Tryz.f59) A_value_Good (finQ PP (Tryz.f59.results.toList) Q) (argFr [(Value.agg #[(Value.int .i64 g0_v_0), (Value.int .i64 g0_v_1), (Value.float .f64 g0_v_2), (Value.string g0_v_3)])]) h = F_value_Good g0_v_0 g0_v_1 g0_v_2 g0_v_3 h Q := by kernel_rfl
theorem O_value_Good (g0_v_0 : Int) (g0_v_1 : Int) (g0_v_2 : Nat) (g0_v_3 : ByteArray) {h : Hp} {Q : List Value → Hp → Prop} (H : F_value_Good g0_v_0 g0_v_1 g0_v_2 g0_v_3 h Q) : S_value_Good g0_v_0 g0_v_1 g0_v_2 g0_v_3 h Q :=
  fn_of_cw (hs := (fun _ => [])) (ann := A_value_Good) (args := [(Value.agg #[(Value.int .i64 g0_v_0), (Value.int .i64 g0_v_1), (Value.float .f64 g0_v_2), (Value.string g0_v_3)])]) mixedPP Tryz.func59 (c := bodyOf Tryz.f59) (by kernel_rfl) (by kernel_rfl) (by kernel_rfl) (Eq.mpr (E_value_Good g0_v_0 g0_v_1 g0_v_2 g0_v_3 h Q) H)
def F_key_eight (g0_u : Int) (h : Hp) (Q : List Value → Hp → Prop) : Prop :=
mkOk (8 : Int) (8 : Int) 1 (wth (Array.push h (Obj.cells (mkCells (zc PP T_uint8) (Int.toNat (8 : Int) * 1)) T_uint8)) fun h1 =>
  ∀ X2 : List Value → Hp → Prop, (∀ n3 : Int, ∀ h4 : Hp, ((if (decide (n3 < (((Int.toNat (8 : Int)) : Nat) : Int))) = true then
        (shOk (IntKind.wrap .i64 ((56 : Int) - (IntKind.wrap .i64 ((8 : Int) * n3)))) (nilW (some (Addr.mk (Array.size h) 0 none)) fun a5 => ixOk n3 (Int.toNat (8 : Int)) (stOk h4 (Addr.add a5 (Int.toNat n3 * 1)) 1 ∧ wth (wrs h4 (Addr.add a5 (Int.toNat n3 * 1)) 0 [(Value.int .u8 (IntKind.wrap .u8 (iShr .u64 g0_u (IntKind.wrap .i64 ((56 : Int) - (IntKind.wrap .i64 ((8 : Int) * n3)))))))]) fun h6 =>
              X2 [(Value.int .i64 (IntKind.wrap .i64 (n3 + (1 : Int))))] h6))) else
        (∃ s7 : ByteArray, bytesAt h4 (some (Addr.mk (Array.size h) 0 none)) (Int.toNat (8 : Int)) s7 ∧
          Q [(Value.string s7)] h4))) → X2 [(Value.int .i64 n3)] h4) →
  X2 [(Value.int .i64 (0 : Int))] h1)
def A_key_eight : Ann := (.mk none ⟨[], []⟩ .nil (.mk none ⟨[], []⟩ .nil (.mk none ⟨[], []⟩ (.mk none ⟨[], []⟩ .nil (.mk none ⟨[], []⟩ (.mk none ⟨[0, 3, 7], [(8, (.c (.int .i64)))]⟩ .nil .nil) .nil)) .nil)))
theorem E_key_eight (g0_u : Int) (h : Hp) (Q : List Value → Hp → Prop) : cw PP 23 (fun _ => []) (bodyOf Tryz.f60) A_key_eight (finQ PP (Tryz.f60.results.toList) Q) (argFr [(Value.int .u64 g0_u)]) h = F_key_eight g0_u h Q := by kernel_rfl
theorem O_key_eight (g0_u : Int) {h : Hp} {Q : List Value → Hp → Prop} (H : F_key_eight g0_u h Q) : S_key_eight g0_u h Q :=
  fn_of_cw (hs := (fun _ => [])) (ann := A_key_eight) (args := [(Value.int .u64 g0_u)]) mixedPP Tryz.func60 (c := bodyOf Tryz.f60) (by kernel_rfl) (by kernel_rfl) (by kernel_rfl) (Eq.mpr (E_key_eight g0_u h Q) H)
def F_float_Canon (g0_f : Nat) (h : Hp) (Q : List Value → Hp → Prop) : Prop :=
(if ((FloatKind.format .f64).order g0_f g0_f != some .eq) = true then
  (S_math_Float64frombits (9221120237041090560 : Int) h fun (vs1 : List Value) (h2 : Hp) =>
    ∃ x3 : Nat, vs1 = [(Value.float .f64 x3)] ∧
    Q [(Value.float .f64 x3)] h2) else
  ((if ((FloatKind.format .f64).order g0_f 0 == some .eq) = true then
      (Q [(Value.float .f64 0)] h) else
      (Q [(Value.float .f64 g0_f)] h))))
def A_float_Canon : Ann := .nil
theorem E_float_Canon (g0_f : Nat) (h : Hp) (Q : List Value → Hp → Prop) : cw PP 12 (fun _ => []) (bodyOf Tryz.f83) A_float_Canon (finQ PP (Tryz.f83.results.toList) Q) (argFr [(Value.float .f64 g0_f)]) h = F_float_Canon g0_f h Q := by kernel_rfl
theorem O_float_Canon (g0_f : Nat) {h : Hp} {Q : List Value → Hp → Prop} (H : F_float_Canon g0_f h Q) : S_float_Canon g0_f h Q :=
  fn_of_cw (hs := (fun _ => [])) (ann := A_float_Canon) (args := [(Value.float .f64 g0_f)]) mixedPP Tryz.func83 (c := bodyOf Tryz.f83) (by kernel_rfl) (by kernel_rfl) (by kernel_rfl) (Eq.mpr (E_float_Canon g0_f h Q) H)
def F_float_Bits (g0_f : Nat) (h : Hp) (Q : List Value → Hp → Prop) : Prop :=
S_float_Canon g0_f h fun (vs1 : List Value) (h2 : Hp) =>
∃ x3 : Nat, vs1 = [(Value.float .f64 x3)] ∧
S_math_Float64bits x3 h2 fun (vs4 : List Value) (h5 : Hp) =>
∃ n6 : Int, vs4 = [(Value.int .u64 n6)] ∧
(if ((iAnd .u64 n6 (9223372036854775808 : Int)) != (0 : Int)) = true then
  (Q [(Value.int .u64 (iXor .u64 (IntKind.max .u64) n6))] h5) else
  (Q [(Value.int .u64 (iOr .u64 n6 (9223372036854775808 : Int)))] h5))
def A_float_Bits : Ann := .nil
theorem E_float_Bits (g0_f : Nat) (h : Hp) (Q : List Value → Hp → Prop) : cw PP 14 (fun _ => []) (bodyOf Tryz.f61) A_float_Bits (finQ PP (Tryz.f61.results.toList) Q) (argFr [(Value.float .f64 g0_f)]) h = F_float_Bits g0_f h Q := by kernel_rfl
theorem O_float_Bits (g0_f : Nat) {h : Hp} {Q : List Value → Hp → Prop} (H : F_float_Bits g0_f h Q) : S_float_Bits g0_f h Q :=
  fn_of_cw (hs := (fun _ => [])) (ann := A_float_Bits) (args := [(Value.float .f64 g0_f)]) mixedPP Tryz.func61 (c := bodyOf Tryz.f61) (by kernel_rfl) (by kernel_rfl) (by kernel_rfl) (Eq.mpr (E_float_Bits g0_f h Q) H)
def F_key_Of (g0_v_0 : Int) (g0_v_1 : Int) (g0_v_2 : Nat) (g0_v_3 : ByteArray) (h : Hp) (Q : List Value → Hp → Prop) : Prop :=
wth (Array.push h (Obj.cells #[(Value.int .i64 g0_v_0), (Value.int .i64 g0_v_1), (Value.float .f64 g0_v_2), (Value.string g0_v_3)] T_api_Value)) fun h1 =>
∃ n2 : Int, rd h1 (Addr.add (Addr.mk (Array.size h) 0 none) 0) = some (Value.int .i64 n2) ∧ ∃ n3 : Int, rd h1 (Addr.add (Addr.mk (Array.size h) 0 none) 1) = some (Value.int .i64 n3) ∧ ∃ x4 : Nat, rd h1 (Addr.add (Addr.mk (Array.size h) 0 none) 2) = some (Value.float .f64 x4) ∧ ∃ s5 : ByteArray, rd h1 (Addr.add (Addr.mk (Array.size h) 0 none) 3) = some (Value.string s5) ∧ S_value_Good n2 n3 x4 s5 h1 fun (vs6 : List Value) (h7 : Hp) =>
∃ b8 : Bool, vs6 = [(Value.bool b8)] ∧
(if (!b8) = true then
  (Q [(Value.string (ByteArray.mk #[])), (Value.int .i64 (11 : Int))] h7) else
  (∃ n9 : Int, rd h7 (Addr.add (Addr.mk (Array.size h) 0 none) 0) = some (Value.int .i64 n9) ∧
    wth (Array.push h7 (Obj.cells #[(Value.int .u8 (IntKind.wrap .u8 n9))] T_uint8)) fun h10 =>
    ∃ s11 : ByteArray, bytesAt h10 (some (Addr.mk (Array.size h7) 0 none)) 1 s11 ∧
    ∃ n12 : Int, rd h10 (Addr.add (Addr.mk (Array.size h) 0 none) 0) = some (Value.int .i64 n12) ∧
    (if (n12 == (1 : Int)) = true then
      (∃ n13 : Int, rd h10 (Addr.add (Addr.mk (Array.size h) 0 none) 1) = some (Value.int .i64 n13) ∧
        wth (Array.push h10 (Obj.cells #[(Value.int .u8 (IntKind.wrap .u8 n13))] T_uint8)) fun h14 =>
        ∃ s15 : ByteArray, bytesAt h14 (some (Addr.mk (Array.size h10) 0 none)) 1 s15 ∧
        wth (Array.push h14 (Obj.cells #[(Value.string s11), (Value.string s15)] T_string)) fun h16 =>
        S_key_joined ⟨(some (Addr.mk (Array.size h14) 0 none)), 2, 2⟩ h16 fun (vs17 : List Value) (h18 : Hp) =>
        ∃ s19 : ByteArray, vs17 = [(Value.string s19)] ∧
        Q [(Value.string s19), (Value.int .i64 (0 : Int))] h18) else
      ((if (n12 == (2 : Int)) = true then
          (∃ n20 : Int, rd h10 (Addr.add (Addr.mk (Array.size h) 0 none) 1) = some (Value.int .i64 n20) ∧
            S_key_eight (iXor .u64 (IntKind.wrap .u64 n20) (9223372036854775808 : Int)) h10 fun (vs21 : List Value) (h22 : Hp) =>
            ∃ s23 : ByteArray, vs21 = [(Value.string s23)] ∧
            wth (Array.push h22 (Obj.cells #[(Value.string s11), (Value.string s23)] T_string)) fun h24 =>
            S_key_joined ⟨(some (Addr.mk (Array.size h22) 0 none)), 2, 2⟩ h24 fun (vs25 : List Value) (h26 : Hp) =>
            ∃ s27 : ByteArray, vs25 = [(Value.string s27)] ∧
            Q [(Value.string s27), (Value.int .i64 (0 : Int))] h26) else
          ((if (n12 == (3 : Int)) = true then
              (∃ x28 : Nat, rd h10 (Addr.add (Addr.mk (Array.size h) 0 none) 2) = some (Value.float .f64 x28) ∧
                S_float_Bits x28 h10 fun (vs29 : List Value) (h30 : Hp) =>
                ∃ n31 : Int, vs29 = [(Value.int .u64 n31)] ∧
                S_key_eight n31 h30 fun (vs32 : List Value) (h33 : Hp) =>
                ∃ s34 : ByteArray, vs32 = [(Value.string s34)] ∧
                wth (Array.push h33 (Obj.cells #[(Value.string s11), (Value.string s34)] T_string)) fun h35 =>
                S_key_joined ⟨(some (Addr.mk (Array.size h33) 0 none)), 2, 2⟩ h35 fun (vs36 : List Value) (h37 : Hp) =>
                ∃ s38 : ByteArray, vs36 = [(Value.string s38)] ∧
                Q [(Value.string s38), (Value.int .i64 (0 : Int))] h37) else
              ((if (n12 == (4 : Int)) = true then
                  (∃ s39 : ByteArray, rd h10 (Addr.add (Addr.mk (Array.size h) 0 none) 3) = some (Value.string s39) ∧
                    S_strings_ReplaceAll s39 (ByteArray.mk #[0]) (ByteArray.mk #[0, 255]) h10 fun (vs40 : List Value) (h41 : Hp) =>
                    ∃ s42 : ByteArray, vs40 = [(Value.string s42)] ∧
                    wth (Array.push h41 (Obj.cells #[(Value.string s11), (Value.string s42), (Value.string (ByteArray.mk #[0, 1]))] T_string)) fun h43 =>
                    S_key_joined ⟨(some (Addr.mk (Array.size h41) 0 none)), 3, 3⟩ h43 fun (vs44 : List Value) (h45 : Hp) =>
                    ∃ s46 : ByteArray, vs44 = [(Value.string s46)] ∧
                    Q [(Value.string s46), (Value.int .i64 (0 : Int))] h45) else
                  (Q [(Value.string s11), (Value.int .i64 (0 : Int))] h10))))))))))
def A_key_Of : Ann := .nil
theorem E_key_Of (g0_v_0 : Int) (g0_v_1 : Int) (g0_v_2 : Nat) (g0_v_3 : ByteArray) (h : Hp) (Q : List Value → Hp → Prop) : cw PP 53 (fun _ => []) (bodyOf Tryz.f43) A_key_Of (finQ PP (Tryz.f43.results.toList) Q) (argFr [(Value.agg #[(Value.int .i64 g0_v_0), (Value.int .i64 g0_v_1), (Value.float .f64 g0_v_2), (Value.string g0_v_3)])]) h = F_key_Of g0_v_0 g0_v_1 g0_v_2 g0_v_3 h Q := by kernel_rfl
theorem O_key_Of (g0_v_0 : Int) (g0_v_1 : Int) (g0_v_2 : Nat) (g0_v_3 : ByteArray) {h : Hp} {Q : List Value → Hp → Prop} (H : F_key_Of g0_v_0 g0_v_1 g0_v_2 g0_v_3 h Q) : S_key_Of g0_v_0 g0_v_1 g0_v_2 g0_v_3 h Q :=
  fn_of_cw (hs := (fun _ => [])) (ann := A_key_Of) (args := [(Value.agg #[(Value.int .i64 g0_v_0), (Value.int .i64 g0_v_1), (Value.float .f64 g0_v_2), (Value.string g0_v_3)])]) mixedPP Tryz.func43 (c := bodyOf Tryz.f43) (by kernel_rfl) (by kernel_rfl) (by kernel_rfl) (Eq.mpr (E_key_Of g0_v_0 g0_v_1 g0_v_2 g0_v_3 h Q) H)
def F_key_Entry (g0_v_0 : Int) (g0_v_1 : Int) (g0_v_2 : Nat) (g0_v_3 : ByteArray) (g1_n : Int) (h : Hp) (Q : List Value → Hp → Prop) : Prop :=
wth (Array.push h (Obj.cells #[(Value.int .i64 g0_v_0), (Value.int .i64 g0_v_1), (Value.float .f64 g0_v_2), (Value.string g0_v_3)] T_api_Value)) fun h1 =>
∃ n2 : Int, rd h1 (Addr.add (Addr.mk (Array.size h) 0 none) 0) = some (Value.int .i64 n2) ∧ ∃ n3 : Int, rd h1 (Addr.add (Addr.mk (Array.size h) 0 none) 1) = some (Value.int .i64 n3) ∧ ∃ x4 : Nat, rd h1 (Addr.add (Addr.mk (Array.size h) 0 none) 2) = some (Value.float .f64 x4) ∧ ∃ s5 : ByteArray, rd h1 (Addr.add (Addr.mk (Array.size h) 0 none) 3) = some (Value.string s5) ∧ S_key_Of n2 n3 x4 s5 h1 fun (vs6 : List Value) (h7 : Hp) =>
∃ s8 : ByteArray, ∃ n9 : Int, vs6 = [(Value.string s8), (Value.int .i64 n9)] ∧
(if (n9 != (0 : Int)) = true then
  (Q [(Value.string (ByteArray.mk #[])), (Value.int .i64 n9)] h7) else
  (∀ J10 : List Value → Hp → Prop, (∀ b11 : Bool, ∀ h12 : Hp, ((if b11 = true then
          (Q [(Value.string (ByteArray.mk #[])), (Value.int .i64 (1 : Int))] h12) else
          (shOk (8 : Int) (wth (Array.push h12 (Obj.cells #[(Value.int .u8 (IntKind.wrap .u8 (iShr .i64 g1_n (8 : Int)))), (Value.int .u8 (IntKind.wrap .u8 g1_n))] T_uint8)) fun h13 =>
              ∃ s14 : ByteArray, bytesAt h13 (some (Addr.mk (Array.size h12) 0 none)) 2 s14 ∧
              wth (Array.push h13 (Obj.cells #[(Value.string s8), (Value.string s14)] T_string)) fun h15 =>
              S_key_joined ⟨(some (Addr.mk (Array.size h13) 0 none)), 2, 2⟩ h15 fun (vs16 : List Value) (h17 : Hp) =>
              ∃ s18 : ByteArray, vs16 = [(Value.string s18)] ∧
              Q [(Value.string s18), (Value.int .i64 (0 : Int))] h17)))) → J10 [(Value.bool b11)] h12) →
    (if (decide (g1_n < (0 : Int))) = true then (J10 [(Value.bool true)] h7) else
      (J10 [(Value.bool (decide (g1_n > (65535 : Int))))] h7))))
def A_key_Entry : Ann := (.mk none ⟨[], []⟩ .nil (.mk none ⟨[], []⟩ .nil (.mk none ⟨[], []⟩ (.mk none ⟨[], []⟩ (.mk none ⟨[], []⟩ .nil (.mk none ⟨[], []⟩ .nil (.mk none ⟨[], []⟩ (.mk (some ⟨[1, 6], [(17, (.c .bool))]⟩) ⟨[], []⟩ .nil .nil) .nil))) .nil) .nil)))
theorem E_key_Entry (g0_v_0 : Int) (g0_v_1 : Int) (g0_v_2 : Nat) (g0_v_3 : ByteArray) (g1_n : Int) (h : Hp) (Q : List Value → Hp → Prop) : cw PP 34 (fun _ => []) (bodyOf Tryz.f26) A_key_Entry (finQ PP (Tryz.f26.results.toList) Q) (argFr [(Value.agg #[(Value.int .i64 g0_v_0), (Value.int .i64 g0_v_1), (Value.float .f64 g0_v_2), (Value.string g0_v_3)]), (Value.int .i64 g1_n)]) h = F_key_Entry g0_v_0 g0_v_1 g0_v_2 g0_v_3 g1_n h Q := by kernel_rfl
theorem O_key_Entry (g0_v_0 : Int) (g0_v_1 : Int) (g0_v_2 : Nat) (g0_v_3 : ByteArray) (g1_n : Int) {h : Hp} {Q : List Value → Hp → Prop} (H : F_key_Entry g0_v_0 g0_v_1 g0_v_2 g0_v_3 g1_n h Q) : S_key_Entry g0_v_0 g0_v_1 g0_v_2 g0_v_3 g1_n h Q :=
  fn_of_cw (hs := (fun _ => [])) (ann := A_key_Entry) (args := [(Value.agg #[(Value.int .i64 g0_v_0), (Value.int .i64 g0_v_1), (Value.float .f64 g0_v_2), (Value.string g0_v_3)]), (Value.int .i64 g1_n)]) mixedPP Tryz.func26 (c := bodyOf Tryz.f26) (by kernel_rfl) (by kernel_rfl) (by kernel_rfl) (Eq.mpr (E_key_Entry g0_v_0 g0_v_1 g0_v_2 g0_v_3 g1_n h Q) H)
def F_leaf_Leaves_at (g0_x : Option Addr) (g1_k : ByteArray) (h : Hp) (Q : List Value → Hp → Prop) : Prop :=
nilW g0_x fun a1 => ∃ l2 : Sl, rd h (Addr.add a1 1) = some (Value.slice l2.a l2.n l2.c) ∧
∀ J3 : List Value → Hp → Prop, (∀ n4 : Int, ∀ h5 : Hp, (Q [(Value.int .i64 n4)] h5) → J3 [(Value.int .i64 n4)] h5) →
∀ X6 : List Value → Hp → Prop, (∀ n7 : Int, ∀ n8 : Int, ∀ h9 : Hp, ((if (decide (n8 < (l2.n : Int))) = true then
      (nilW l2.a fun a10 => ixOk n8 l2.n (∃ p11 : Option Addr, rd h9 (Addr.add a10 (Int.toNat n8 * 1)) = some (Value.pointer p11) ∧
          ∀ J12 : List Value → Hp → Prop, (∀ b13 : Bool, ∀ h14 : Hp, ((if b13 = true then
                (J3 [(Value.int .i64 n7)] h14) else
                (X6 [(Value.int .i64 n8), (Value.int .i64 (IntKind.wrap .i64 (n8 + (1 : Int))))] h14))) → J12 [(Value.bool b13)] h14) →
          (if (decide (n8 > (0 : Int))) = true then (nilW p11 fun a15 => ∃ s16 : ByteArray, rd h9 (Addr.add a15 1) = some (Value.string s16) ∧
              J12 [(Value.bool (!(Op.bytesLess (ByteArray.toList s16) (ByteArray.toList g1_k) || (ByteArray.toList s16) == (ByteArray.toList g1_k))))] h9) else
            (J12 [(Value.bool false)] h9)))) else
      (J3 [(Value.int .i64 n7)] h9))) → X6 [(Value.int .i64 n7), (Value.int .i64 n8)] h9) →
X6 [(Value.int .i64 (0 : Int)), (Value.int .i64 (0 : Int))] h
def A_leaf_Leaves_at : Ann := (.mk none ⟨[], []⟩ .nil (.mk none ⟨[], []⟩ (.mk none ⟨[], []⟩ .nil (.mk none ⟨[], []⟩ .nil (.mk none ⟨[], []⟩ (.mk none ⟨[], []⟩ .nil (.mk (some ⟨[], [(5, (.c (.int .i64)))]⟩) ⟨[], []⟩ (.mk none ⟨[1, 11, 12], [(5, (.c (.int .i64))), (13, (.c (.int .i64)))]⟩ (.mk none ⟨[], []⟩ .nil (.mk none ⟨[], []⟩ .nil (.mk none ⟨[], []⟩ (.mk none ⟨[], []⟩ (.mk none ⟨[], []⟩ .nil (.mk none ⟨[], []⟩ (.mk none ⟨[], []⟩ (.mk (some ⟨[1, 5, 6, 11, 12, 13], [(27, (.c .bool))]⟩) ⟨[], []⟩ .nil .nil) .nil) .nil)) .nil) .nil))) .nil) .nil)) .nil))) .nil))
theorem E_leaf_Leaves_at (g0_x : Option Addr) (g1_k : ByteArray) (h : Hp) (Q : List Value → Hp → Prop) : cw PP 31 (fun _ => []) (bodyOf Tryz.f45) A_leaf_Leaves_at (finQ PP (Tryz.f45.results.toList) Q) (argFr [(Value.pointer g0_x), (Value.string g1_k)]) h = F_leaf_Leaves_at g0_x g1_k h Q := by kernel_rfl
theorem O_leaf_Leaves_at (g0_x : Option Addr) (g1_k : ByteArray) {h : Hp} {Q : List Value → Hp → Prop} (H : F_leaf_Leaves_at g0_x g1_k h Q) : S_leaf_Leaves_at g0_x g1_k h Q :=
  fn_of_cw (hs := (fun _ => [])) (ann := A_leaf_Leaves_at) (args := [(Value.pointer g0_x), (Value.string g1_k)]) mixedPP Tryz.func45 (c := bodyOf Tryz.f45) (by kernel_rfl) (by kernel_rfl) (by kernel_rfl) (Eq.mpr (E_leaf_Leaves_at g0_x g1_k h Q) H)
def F_cmp_isNaN_string (g0_x : ByteArray) (h : Hp) (Q : List Value → Hp → Prop) : Prop :=
Q [(Value.bool (!((ByteArray.toList g0_x) == (ByteArray.toList g0_x))))] h
def A_cmp_isNaN_string : Ann := .nil
theorem E_cmp_isNaN_string (g0_x : ByteArray) (h : Hp) (Q : List Value → Hp → Prop) : cw PP 6 (fun _ => []) (bodyOf Tryz.f88) A_cmp_isNaN_string (finQ PP (Tryz.f88.results.toList) Q) (argFr [(Value.string g0_x)]) h = F_cmp_isNaN_string g0_x h Q := by kernel_rfl
theorem O_cmp_isNaN_string (g0_x : ByteArray) {h : Hp} {Q : List Value → Hp → Prop} (H : F_cmp_isNaN_string g0_x h Q) : S_cmp_isNaN_string g0_x h Q :=
  fn_of_cw (hs := (fun _ => [])) (ann := A_cmp_isNaN_string) (args := [(Value.string g0_x)]) mixedPP Tryz.func88 (c := bodyOf Tryz.f88) (by kernel_rfl) (by kernel_rfl) (by kernel_rfl) (Eq.mpr (E_cmp_isNaN_string g0_x h Q) H)
def F_cmp_Less_string (g0_x : ByteArray) (g1_y : ByteArray) (h : Hp) (Q : List Value → Hp → Prop) : Prop :=
S_cmp_isNaN_string g0_x h fun (vs1 : List Value) (h2 : Hp) =>
∃ b3 : Bool, vs1 = [(Value.bool b3)] ∧
(if b3 = true then (S_cmp_isNaN_string g1_y h2 fun (vs4 : List Value) (h5 : Hp) =>
    ∃ b6 : Bool, vs4 = [(Value.bool b6)] ∧
    (if (!b6) = true then (Q [(Value.bool true)] h5) else
      (Q [(Value.bool (Op.bytesLess (ByteArray.toList g0_x) (ByteArray.toList g1_y)))] h5))) else
  (Q [(Value.bool (Op.bytesLess (ByteArray.toList g0_x) (ByteArray.toList g1_y)))] h2))
def A_cmp_Less_string : Ann := .nil
theorem E_cmp_Less_string (g0_x : ByteArray) (g1_y : ByteArray) (h : Hp) (Q : List Value → Hp → Prop) : cw PP 17 (fun _ => []) (bodyOf Tryz.f64) A_cmp_Less_string (finQ PP (Tryz.f64.results.toList) Q) (argFr [(Value.string g0_x), (Value.string g1_y)]) h = F_cmp_Less_string g0_x g1_y h Q := by kernel_rfl
theorem O_cmp_Less_string (g0_x : ByteArray) (g1_y : ByteArray) {h : Hp} {Q : List Value → Hp → Prop} (H : F_cmp_Less_string g0_x g1_y h Q) : S_cmp_Less_string g0_x g1_y h Q :=
  fn_of_cw (hs := (fun _ => [])) (ann := A_cmp_Less_string) (args := [(Value.string g0_x), (Value.string g1_y)]) mixedPP Tryz.func64 (c := bodyOf Tryz.f64) (by kernel_rfl) (by kernel_rfl) (by kernel_rfl) (Eq.mpr (E_cmp_Less_string g0_x g1_y h Q) H)
def F_slices_isNaN_string (g0_x : ByteArray) (h : Hp) (Q : List Value → Hp → Prop) : Prop :=
Q [(Value.bool (!((ByteArray.toList g0_x) == (ByteArray.toList g0_x))))] h
def A_slices_isNaN_string : Ann := .nil
theorem E_slices_isNaN_string (g0_x : ByteArray) (h : Hp) (Q : List Value → Hp → Prop) : cw PP 6 (fun _ => []) (bodyOf Tryz.f65) A_slices_isNaN_string (finQ PP (Tryz.f65.results.toList) Q) (argFr [(Value.string g0_x)]) h = F_slices_isNaN_string g0_x h Q := by kernel_rfl
theorem O_slices_isNaN_string (g0_x : ByteArray) {h : Hp} {Q : List Value → Hp → Prop} (H : F_slices_isNaN_string g0_x h Q) : S_slices_isNaN_string g0_x h Q :=
  fn_of_cw (hs := (fun _ => [])) (ann := A_slices_isNaN_string) (args := [(Value.string g0_x)]) mixedPP Tryz.func65 (c := bodyOf Tryz.f65) (by kernel_rfl) (by kernel_rfl) (by kernel_rfl) (Eq.mpr (E_slices_isNaN_string g0_x h Q) H)
def F_slices_BinarySearch_sstring_string (g0_x : Sl) (g1_target : ByteArray) (h : Hp) (Q : List Value → Hp → Prop) : Prop :=
∀ X1 : List Value → Hp → Prop, (∀ n2 : Int, ∀ n3 : Int, ∀ h4 : Hp, ((if (decide (n2 < n3)) = true then
      (shOk (1 : Int) (nilW g0_x.a fun a5 => ixOk (IntKind.wrap .i64 (iShr .u64 (IntKind.wrap .u64 (IntKind.wrap .i64 (n2 + n3))) (1 : Int))) g0_x.n (∃ s6 : ByteArray, rd h4 (Addr.add a5 (Int.toNat (IntKind.wrap .i64 (iShr .u64 (IntKind.wrap .u64 (IntKind.wrap .i64 (n2 + n3))) (1 : Int))) * 1)) = some (Value.string s6) ∧
            S_cmp_Less_string s6 g1_target h4 fun (vs7 : List Value) (h8 : Hp) =>
            ∃ b9 : Bool, vs7 = [(Value.bool b9)] ∧
            (if b9 = true then
              (X1 [(Value.int .i64 (IntKind.wrap .i64 ((IntKind.wrap .i64 (iShr .u64 (IntKind.wrap .u64 (IntKind.wrap .i64 (n2 + n3))) (1 : Int))) + (1 : Int)))), (Value.int .i64 n3)] h8) else
              (X1 [(Value.int .i64 n2), (Value.int .i64 (IntKind.wrap .i64 (iShr .u64 (IntKind.wrap .u64 (IntKind.wrap .i64 (n2 + n3))) (1 : Int))))] h8))))) else
      ((if (decide (n2 < (g0_x.n : Int))) = true then (nilW g0_x.a fun a10 => ixOk n2 g0_x.n (∃ s11 : ByteArray, rd h4 (Addr.add a10 (Int.toNat n2 * 1)) = some (Value.string s11) ∧
              (if ((ByteArray.toList s11) == (ByteArray.toList g1_target)) = true then (Q [(Value.int .i64 n2), (Value.bool true)] h4) else
                (nilW g0_x.a fun a12 => ixOk n2 g0_x.n (∃ s13 : ByteArray, rd h4 (Addr.add a12 (Int.toNat n2 * 1)) = some (Value.string s13) ∧
                    S_slices_isNaN_string s13 h4 fun (vs14 : List Value) (h15 : Hp) =>
                    ∃ b16 : Bool, vs14 = [(Value.bool b16)] ∧
                    (if b16 = true then (S_slices_isNaN_string g1_target h15 fun (vs17 : List Value) (h18 : Hp) =>
                        ∃ b19 : Bool, vs17 = [(Value.bool b19)] ∧
                        Q [(Value.int .i64 n2), (Value.bool b19)] h18) else
                      (Q [(Value.int .i64 n2), (Value.bool false)] h15))))))) else
          (Q [(Value.int .i64 n2), (Value.bool false)] h4))))) → X1 [(Value.int .i64 n2), (Value.int .i64 n3)] h4) →
X1 [(Value.int .i64 (0 : Int)), (Value.int .i64 (g0_x.n : Int))] h
def A_slices_BinarySearch_sstring_string : Ann := (.mk none ⟨[], []⟩ .nil (.mk none ⟨[], []⟩ .nil (.mk none ⟨[], []⟩ .nil (.mk none ⟨[], []⟩ (.mk none ⟨[], []⟩ (.mk none ⟨[0, 1, 6], [(7, (.c (.int .i64))), (8, (.c (.int .i64)))]⟩ .nil .nil) .nil) .nil))))
theorem E_slices_BinarySearch_sstring_string (g0_x : Sl) (g1_target : ByteArray) (h : Hp) (Q : List Value → Hp → Prop) : cw PP 54 (fun _ => []) (bodyOf Tryz.f46) A_slices_BinarySearch_sstring_string (finQ PP (Tryz.f46.results.toList) Q) (argFr [(Value.slice g0_x.a g0_x.n g0_x.c), (Value.string g1_target)]) h = F_slices_BinarySearch_sstring_string g0_x g1_target h Q := by kernel_rfl
theorem O_slices_BinarySearch_sstring_string (g0_x : Sl) (g1_target : ByteArray) {h : Hp} {Q : List Value → Hp → Prop} (H : F_slices_BinarySearch_sstring_string g0_x g1_target h Q) : S_slices_BinarySearch_sstring_string g0_x g1_target h Q :=
  fn_of_cw (hs := (fun _ => [])) (ann := A_slices_BinarySearch_sstring_string) (args := [(Value.slice g0_x.a g0_x.n g0_x.c), (Value.string g1_target)]) mixedPP Tryz.func46 (c := bodyOf Tryz.f46) (by kernel_rfl) (by kernel_rfl) (by kernel_rfl) (Eq.mpr (E_slices_BinarySearch_sstring_string g0_x g1_target h Q) H)
def F_slices_Insert_sstring_string (g0_s : Sl) (g1_i : Int) (g2_v : Sl) (h : Hp) (Q : List Value → Hp → Prop) : Prop :=
(0 ≤ g1_i ∧ g1_i ≤ (g0_s.n : Nat)) ∧ (if ((g2_v.n : Int) == (0 : Int)) = true then
  (Q [(Value.slice g0_s.a g0_s.n g0_s.c)] h) else
  ((if (g1_i == (g0_s.n : Int)) = true then
      (∃ cs3 : List Value, cellsAt h g2_v.a (g2_v.n * 1) cs3 ∧ appS PP T_string 16 1 h ⟨g0_s.a, g0_s.n, g0_s.c⟩ g2_v.n cs3 fun (l1 : Sl) (h2 : Hp) =>
        Q [(Value.slice l1.a l1.n l1.c)] h2) else
      ((if (decide ((IntKind.wrap .i64 ((g0_s.n : Int) + (g2_v.n : Int))) > ((g0_s.c : Nat) : Int))) = true then
          ((0 ≤ g1_i ∧ g1_i ≤ (g0_s.c : Nat)) ∧ (0 ≤ (IntKind.wrap .i64 ((IntKind.wrap .i64 ((g0_s.n : Int) + (g2_v.n : Int))) - g1_i)) ∧ (IntKind.wrap .i64 ((IntKind.wrap .i64 ((g0_s.n : Int) + (g2_v.n : Int))) - g1_i)) < 2 ^ 63 ∧ (IntKind.wrap .i64 ((IntKind.wrap .i64 ((g0_s.n : Int) + (g2_v.n : Int))) - g1_i)) * (16 : Nat) ≤ 2 ^ 47) ∧ appS PP T_string 16 1 h ⟨(slAd g0_s.a 0 g0_s.c 1), ((Int.toNat g1_i) - 0), (g0_s.c - 0)⟩ (Int.toNat (IntKind.wrap .i64 ((IntKind.wrap .i64 ((g0_s.n : Int) + (g2_v.n : Int))) - g1_i))) (Array.toList (Builtin.zeroCells (zc PP T_string) (Int.toNat (IntKind.wrap .i64 ((IntKind.wrap .i64 ((g0_s.n : Int) + (g2_v.n : Int))) - g1_i))))) fun (l4 : Sl) (h5 : Hp) =>
            (0 ≤ g1_i ∧ g1_i ≤ (l4.n : Nat)) ∧ ∃ cs6 : List Value, cellsAt h5 g2_v.a ((Nat.min g2_v.n (l4.n - (Int.toNat g1_i))) * 1) cs6 ∧ cpOk h5 (slAd l4.a (Int.toNat g1_i) l4.c 1) ((Nat.min g2_v.n (l4.n - (Int.toNat g1_i))) * 1) cs6 ∧ wth (cpHp h5 (slAd l4.a (Int.toNat g1_i) l4.c 1) cs6) fun h7 =>
            (0 ≤ (IntKind.wrap .i64 (g1_i + (g2_v.n : Int))) ∧ (IntKind.wrap .i64 (g1_i + (g2_v.n : Int))) ≤ (l4.n : Nat)) ∧ (0 ≤ g1_i ∧ g1_i ≤ (g0_s.n : Nat)) ∧ ∃ cs8 : List Value, cellsAt h7 (slAd g0_s.a (Int.toNat g1_i) g0_s.c 1) ((Nat.min (g0_s.n - (Int.toNat g1_i)) (l4.n - (Int.toNat (IntKind.wrap .i64 (g1_i + (g2_v.n : Int)))))) * 1) cs8 ∧ cpOk h7 (slAd l4.a (Int.toNat (IntKind.wrap .i64 (g1_i + (g2_v.n : Int)))) l4.c 1) ((Nat.min (g0_s.n - (Int.toNat g1_i)) (l4.n - (Int.toNat (IntKind.wrap .i64 (g1_i + (g2_v.n : Int)))))) * 1) cs8 ∧ wth (cpHp h7 (slAd l4.a (Int.toNat (IntKind.wrap .i64 (g1_i + (g2_v.n : Int)))) l4.c 1) cs8) fun h9 =>
            Q [(Value.slice l4.a l4.n l4.c)] h9) else
          ((0 ≤ (IntKind.wrap .i64 ((g0_s.n : Int) + (g2_v.n : Int))) ∧ (IntKind.wrap .i64 ((g0_s.n : Int) + (g2_v.n : Int))) ≤ (g0_s.c : Nat)) ∧ (0 ≤ (IntKind.wrap .i64 (g1_i + (g2_v.n : Int))) ∧ (IntKind.wrap .i64 (g1_i + (g2_v.n : Int))) ≤ (((Int.toNat (IntKind.wrap .i64 ((g0_s.n : Int) + (g2_v.n : Int)))) - 0) : Nat)) ∧ S_slices_overlaps_string ⟨g2_v.a, g2_v.n, g2_v.c⟩ ⟨(slAd (slAd g0_s.a 0 g0_s.c 1) (Int.toNat (IntKind.wrap .i64 (g1_i + (g2_v.n : Int)))) (g0_s.c - 0) 1), (((Int.toNat (IntKind.wrap .i64 ((g0_s.n : Int) + (g2_v.n : Int)))) - 0) - (Int.toNat (IntKind.wrap .i64 (g1_i + (g2_v.n : Int))))), ((g0_s.c - 0) - (Int.toNat (IntKind.wrap .i64 (g1_i + (g2_v.n : Int)))))⟩ h fun (vs10 : List Value) (h11 : Hp) =>
            ∃ b12 : Bool, vs10 = [(Value.bool b12)] ∧
            (if (!b12) = true then
              ((0 ≤ (IntKind.wrap .i64 (g1_i + (g2_v.n : Int))) ∧ (IntKind.wrap .i64 (g1_i + (g2_v.n : Int))) ≤ (((Int.toNat (IntKind.wrap .i64 ((g0_s.n : Int) + (g2_v.n : Int)))) - 0) : Nat)) ∧ (0 ≤ g1_i ∧ g1_i ≤ (((Int.toNat (IntKind.wrap .i64 ((g0_s.n : Int) + (g2_v.n : Int)))) - 0) : Nat)) ∧ ∃ cs13 : List Value, cellsAt h11 (slAd (slAd g0_s.a 0 g0_s.c 1) (Int.toNat g1_i) (g0_s.c - 0) 1) ((Nat.min (((Int.toNat (IntKind.wrap .i64 ((g0_s.n : Int) + (g2_v.n : Int)))) - 0) - (Int.toNat g1_i)) (((Int.toNat (IntKind.wrap .i64 ((g0_s.n : Int) + (g2_v.n : Int)))) - 0) - (Int.toNat (IntKind.wrap .i64 (g1_i + (g2_v.n : Int)))))) * 1) cs13 ∧ cpOk h11 (slAd (slAd g0_s.a 0 g0_s.c 1) (Int.toNat (IntKind.wrap .i64 (g1_i + (g2_v.n : Int)))) (g0_s.c - 0) 1) ((Nat.min (((Int.toNat (IntKind.wrap .i64 ((g0_s.n : Int) + (g2_v.n : Int)))) - 0) - (Int.toNat g1_i)) (((Int.toNat (IntKind.wrap .i64 ((g0_s.n : Int) + (g2_v.n : Int)))) - 0) - (Int.toNat (IntKind.wrap .i64 (g1_i + (g2_v.n : Int)))))) * 1) cs13 ∧ wth (cpHp h11 (slAd (slAd g0_s.a 0 g0_s.c 1) (Int.toNat (IntKind.wrap .i64 (g1_i + (g2_v.n : Int)))) (g0_s.c - 0) 1) cs13) fun h14 =>
                (0 ≤ g1_i ∧ g1_i ≤ (((Int.toNat (IntKind.wrap .i64 ((g0_s.n : Int) + (g2_v.n : Int)))) - 0) : Nat)) ∧ ∃ cs15 : List Value, cellsAt h14 g2_v.a ((Nat.min g2_v.n (((Int.toNat (IntKind.wrap .i64 ((g0_s.n : Int) + (g2_v.n : Int)))) - 0) - (Int.toNat g1_i))) * 1) cs15 ∧ cpOk h14 (slAd (slAd g0_s.a 0 g0_s.c 1) (Int.toNat g1_i) (g0_s.c - 0) 1) ((Nat.min g2_v.n (((Int.toNat (IntKind.wrap .i64 ((g0_s.n : Int) + (g2_v.n : Int)))) - 0) - (Int.toNat g1_i))) * 1) cs15 ∧ wth (cpHp h14 (slAd (slAd g0_s.a 0 g0_s.c 1) (Int.toNat g1_i) (g0_s.c - 0) 1) cs15) fun h16 =>
                Q [(Value.slice (slAd g0_s.a 0 g0_s.c 1) ((Int.toNat (IntKind.wrap .i64 ((g0_s.n : Int) + (g2_v.n : Int)))) - 0) (g0_s.c - 0))] h16) else
              ((0 ≤ (g0_s.n : Int) ∧ (g0_s.n : Int) ≤ (((Int.toNat (IntKind.wrap .i64 ((g0_s.n : Int) + (g2_v.n : Int)))) - 0) : Nat)) ∧ ∃ cs17 : List Value, cellsAt h11 g2_v.a ((Nat.min g2_v.n (((Int.toNat (IntKind.wrap .i64 ((g0_s.n : Int) + (g2_v.n : Int)))) - 0) - (Int.toNat (g0_s.n : Int)))) * 1) cs17 ∧ cpOk h11 (slAd (slAd g0_s.a 0 g0_s.c 1) (Int.toNat (g0_s.n : Int)) (g0_s.c - 0) 1) ((Nat.min g2_v.n (((Int.toNat (IntKind.wrap .i64 ((g0_s.n : Int) + (g2_v.n : Int)))) - 0) - (Int.toNat (g0_s.n : Int)))) * 1) cs17 ∧ wth (cpHp h11 (slAd (slAd g0_s.a 0 g0_s.c 1) (Int.toNat (g0_s.n : Int)) (g0_s.c - 0) 1) cs17) fun h18 =>
                (0 ≤ g1_i ∧ g1_i ≤ (((Int.toNat (IntKind.wrap .i64 ((g0_s.n : Int) + (g2_v.n : Int)))) - 0) : Nat)) ∧ S_slices_rotateRight_string ⟨(slAd (slAd g0_s.a 0 g0_s.c 1) (Int.toNat g1_i) (g0_s.c - 0) 1), (((Int.toNat (IntKind.wrap .i64 ((g0_s.n : Int) + (g2_v.n : Int)))) - 0) - (Int.toNat g1_i)), ((g0_s.c - 0) - (Int.toNat g1_i))⟩ (g2_v.n : Int) h18 fun (vs19 : List Value) (h20 : Hp) =>
                vs19 = [] ∧
                Q [(Value.slice (slAd g0_s.a 0 g0_s.c 1) ((Int.toNat (IntKind.wrap .i64 ((g0_s.n : Int) + (g2_v.n : Int)))) - 0) (g0_s.c - 0))] h20))))))))
def A_slices_Insert_sstring_string : Ann := .nil
theorem E_slices_Insert_sstring_string (g0_s : Sl) (g1_i : Int) (g2_v : Sl) (h : Hp) (Q : List Value → Hp → Prop) : cw PP 95 (fun _ => []) (bodyOf Tryz.f47) A_slices_Insert_sstring_string (finQ PP (Tryz.f47.results.toList) Q) (argFr [(Value.slice g0_s.a g0_s.n g0_s.c), (Value.int .i64 g1_i), (Value.slice g2_v.a g2_v.n g2_v.c)]) h = F_slices_Insert_sstring_string g0_s g1_i g2_v h Q := by kernel_rfl
theorem O_slices_Insert_sstring_string (g0_s : Sl) (g1_i : Int) (g2_v : Sl) {h : Hp} {Q : List Value → Hp → Prop} (H : F_slices_Insert_sstring_string g0_s g1_i g2_v h Q) : S_slices_Insert_sstring_string g0_s g1_i g2_v h Q :=
  fn_of_cw (hs := (fun _ => [])) (ann := A_slices_Insert_sstring_string) (args := [(Value.slice g0_s.a g0_s.n g0_s.c), (Value.int .i64 g1_i), (Value.slice g2_v.a g2_v.n g2_v.c)]) mixedPP Tryz.func47 (c := bodyOf Tryz.f47) (by kernel_rfl) (by kernel_rfl) (by kernel_rfl) (Eq.mpr (E_slices_Insert_sstring_string g0_s g1_i g2_v h Q) H)
def F_slices_Clone_sstring_string (g0_s : Sl) (h : Hp) (Q : List Value → Hp → Prop) : Prop :=
(if (Option.isNone g0_s.a) = true then
  (Q [(Value.slice none 0 0)] h) else
  (wth (Array.push h (Obj.cells #[] T_string)) fun h1 =>
    ∃ cs4 : List Value, cellsAt h1 g0_s.a (g0_s.n * 1) cs4 ∧ appS PP T_string 16 1 h1 ⟨(some (Addr.mk (Array.size h) 0 none)), 0, 0⟩ g0_s.n cs4 fun (l2 : Sl) (h3 : Hp) =>
    Q [(Value.slice l2.a l2.n l2.c)] h3))
def A_slices_Clone_sstring_string : Ann := .nil
theorem E_slices_Clone_sstring_string (g0_s : Sl) (h : Hp) (Q : List Value → Hp → Prop) : cw PP 8 (fun _ => []) (bodyOf Tryz.f48) A_slices_Clone_sstring_string (finQ PP (Tryz.f48.results.toList) Q) (argFr [(Value.slice g0_s.a g0_s.n g0_s.c)]) h = F_slices_Clone_sstring_string g0_s h Q := by kernel_rfl
theorem O_slices_Clone_sstring_string (g0_s : Sl) {h : Hp} {Q : List Value → Hp → Prop} (H : F_slices_Clone_sstring_string g0_s h Q) : S_slices_Clone_sstring_string g0_s h Q :=
  fn_of_cw (hs := (fun _ => [])) (ann := A_slices_Clone_sstring_string) (args := [(Value.slice g0_s.a g0_s.n g0_s.c)]) mixedPP Tryz.func48 (c := bodyOf Tryz.f48) (by kernel_rfl) (by kernel_rfl) (by kernel_rfl) (Eq.mpr (E_slices_Clone_sstring_string g0_s h Q) H)
def F_slices_Insert_spleaf_one_pleaf_one (g0_s : Sl) (g1_i : Int) (g2_v : Sl) (h : Hp) (Q : List Value → Hp → Prop) : Prop :=
(0 ≤ g1_i ∧ g1_i ≤ (g0_s.n : Nat)) ∧ (if ((g2_v.n : Int) == (0 : Int)) = true then
  (Q [(Value.slice g0_s.a g0_s.n g0_s.c)] h) else
  ((if (g1_i == (g0_s.n : Int)) = true then
      (∃ cs3 : List Value, cellsAt h g2_v.a (g2_v.n * 1) cs3 ∧ appS PP T_pleaf_one 8 1 h ⟨g0_s.a, g0_s.n, g0_s.c⟩ g2_v.n cs3 fun (l1 : Sl) (h2 : Hp) =>
        Q [(Value.slice l1.a l1.n l1.c)] h2) else
      ((if (decide ((IntKind.wrap .i64 ((g0_s.n : Int) + (g2_v.n : Int))) > ((g0_s.c : Nat) : Int))) = true then
          ((0 ≤ g1_i ∧ g1_i ≤ (g0_s.c : Nat)) ∧ (0 ≤ (IntKind.wrap .i64 ((IntKind.wrap .i64 ((g0_s.n : Int) + (g2_v.n : Int))) - g1_i)) ∧ (IntKind.wrap .i64 ((IntKind.wrap .i64 ((g0_s.n : Int) + (g2_v.n : Int))) - g1_i)) < 2 ^ 63 ∧ (IntKind.wrap .i64 ((IntKind.wrap .i64 ((g0_s.n : Int) + (g2_v.n : Int))) - g1_i)) * (8 : Nat) ≤ 2 ^ 47) ∧ appS PP T_pleaf_one 8 1 h ⟨(slAd g0_s.a 0 g0_s.c 1), ((Int.toNat g1_i) - 0), (g0_s.c - 0)⟩ (Int.toNat (IntKind.wrap .i64 ((IntKind.wrap .i64 ((g0_s.n : Int) + (g2_v.n : Int))) - g1_i))) (Array.toList (Builtin.zeroCells (zc PP T_pleaf_one) (Int.toNat (IntKind.wrap .i64 ((IntKind.wrap .i64 ((g0_s.n : Int) + (g2_v.n : Int))) - g1_i))))) fun (l4 : Sl) (h5 : Hp) =>
            (0 ≤ g1_i ∧ g1_i ≤ (l4.n : Nat)) ∧ ∃ cs6 : List Value, cellsAt h5 g2_v.a ((Nat.min g2_v.n (l4.n - (Int.toNat g1_i))) * 1) cs6 ∧ cpOk h5 (slAd l4.a (Int.toNat g1_i) l4.c 1) ((Nat.min g2_v.n (l4.n - (Int.toNat g1_i))) * 1) cs6 ∧ wth (cpHp h5 (slAd l4.a (Int.toNat g1_i) l4.c 1) cs6) fun h7 =>
            (0 ≤ (IntKind.wrap .i64 (g1_i + (g2_v.n : Int))) ∧ (IntKind.wrap .i64 (g1_i + (g2_v.n : Int))) ≤ (l4.n : Nat)) ∧ (0 ≤ g1_i ∧ g1_i ≤ (g0_s.n : Nat)) ∧ ∃ cs8 : List Value, cellsAt h7 (slAd g0_s.a (Int.toNat g1_i) g0_s.c 1) ((Nat.min (g0_s.n - (Int.toNat g1_i)) (l4.n - (Int.toNat (IntKind.wrap .i64 (g1_i + (g2_v.n : Int)))))) * 1) cs8 ∧ cpOk h7 (slAd l4.a (Int.toNat (IntKind.wrap .i64 (g1_i + (g2_v.n : Int)))) l4.c 1) ((Nat.min (g0_s.n - (Int.toNat g1_i)) (l4.n - (Int.toNat (IntKind.wrap .i64 (g1_i + (g2_v.n : Int)))))) * 1) cs8 ∧ wth (cpHp h7 (slAd l4.a (Int.toNat (IntKind.wrap .i64 (g1_i + (g2_v.n : Int)))) l4.c 1) cs8) fun h9 =>
            Q [(Value.slice l4.a l4.n l4.c)] h9) else
          ((0 ≤ (IntKind.wrap .i64 ((g0_s.n : Int) + (g2_v.n : Int))) ∧ (IntKind.wrap .i64 ((g0_s.n : Int) + (g2_v.n : Int))) ≤ (g0_s.c : Nat)) ∧ (0 ≤ (IntKind.wrap .i64 (g1_i + (g2_v.n : Int))) ∧ (IntKind.wrap .i64 (g1_i + (g2_v.n : Int))) ≤ (((Int.toNat (IntKind.wrap .i64 ((g0_s.n : Int) + (g2_v.n : Int)))) - 0) : Nat)) ∧ S_slices_overlaps_pleaf_one ⟨g2_v.a, g2_v.n, g2_v.c⟩ ⟨(slAd (slAd g0_s.a 0 g0_s.c 1) (Int.toNat (IntKind.wrap .i64 (g1_i + (g2_v.n : Int)))) (g0_s.c - 0) 1), (((Int.toNat (IntKind.wrap .i64 ((g0_s.n : Int) + (g2_v.n : Int)))) - 0) - (Int.toNat (IntKind.wrap .i64 (g1_i + (g2_v.n : Int))))), ((g0_s.c - 0) - (Int.toNat (IntKind.wrap .i64 (g1_i + (g2_v.n : Int)))))⟩ h fun (vs10 : List Value) (h11 : Hp) =>
            ∃ b12 : Bool, vs10 = [(Value.bool b12)] ∧
            (if (!b12) = true then
              ((0 ≤ (IntKind.wrap .i64 (g1_i + (g2_v.n : Int))) ∧ (IntKind.wrap .i64 (g1_i + (g2_v.n : Int))) ≤ (((Int.toNat (IntKind.wrap .i64 ((g0_s.n : Int) + (g2_v.n : Int)))) - 0) : Nat)) ∧ (0 ≤ g1_i ∧ g1_i ≤ (((Int.toNat (IntKind.wrap .i64 ((g0_s.n : Int) + (g2_v.n : Int)))) - 0) : Nat)) ∧ ∃ cs13 : List Value, cellsAt h11 (slAd (slAd g0_s.a 0 g0_s.c 1) (Int.toNat g1_i) (g0_s.c - 0) 1) ((Nat.min (((Int.toNat (IntKind.wrap .i64 ((g0_s.n : Int) + (g2_v.n : Int)))) - 0) - (Int.toNat g1_i)) (((Int.toNat (IntKind.wrap .i64 ((g0_s.n : Int) + (g2_v.n : Int)))) - 0) - (Int.toNat (IntKind.wrap .i64 (g1_i + (g2_v.n : Int)))))) * 1) cs13 ∧ cpOk h11 (slAd (slAd g0_s.a 0 g0_s.c 1) (Int.toNat (IntKind.wrap .i64 (g1_i + (g2_v.n : Int)))) (g0_s.c - 0) 1) ((Nat.min (((Int.toNat (IntKind.wrap .i64 ((g0_s.n : Int) + (g2_v.n : Int)))) - 0) - (Int.toNat g1_i)) (((Int.toNat (IntKind.wrap .i64 ((g0_s.n : Int) + (g2_v.n : Int)))) - 0) - (Int.toNat (IntKind.wrap .i64 (g1_i + (g2_v.n : Int)))))) * 1) cs13 ∧ wth (cpHp h11 (slAd (slAd g0_s.a 0 g0_s.c 1) (Int.toNat (IntKind.wrap .i64 (g1_i + (g2_v.n : Int)))) (g0_s.c - 0) 1) cs13) fun h14 =>
                (0 ≤ g1_i ∧ g1_i ≤ (((Int.toNat (IntKind.wrap .i64 ((g0_s.n : Int) + (g2_v.n : Int)))) - 0) : Nat)) ∧ ∃ cs15 : List Value, cellsAt h14 g2_v.a ((Nat.min g2_v.n (((Int.toNat (IntKind.wrap .i64 ((g0_s.n : Int) + (g2_v.n : Int)))) - 0) - (Int.toNat g1_i))) * 1) cs15 ∧ cpOk h14 (slAd (slAd g0_s.a 0 g0_s.c 1) (Int.toNat g1_i) (g0_s.c - 0) 1) ((Nat.min g2_v.n (((Int.toNat (IntKind.wrap .i64 ((g0_s.n : Int) + (g2_v.n : Int)))) - 0) - (Int.toNat g1_i))) * 1) cs15 ∧ wth (cpHp h14 (slAd (slAd g0_s.a 0 g0_s.c 1) (Int.toNat g1_i) (g0_s.c - 0) 1) cs15) fun h16 =>
                Q [(Value.slice (slAd g0_s.a 0 g0_s.c 1) ((Int.toNat (IntKind.wrap .i64 ((g0_s.n : Int) + (g2_v.n : Int)))) - 0) (g0_s.c - 0))] h16) else
              ((0 ≤ (g0_s.n : Int) ∧ (g0_s.n : Int) ≤ (((Int.toNat (IntKind.wrap .i64 ((g0_s.n : Int) + (g2_v.n : Int)))) - 0) : Nat)) ∧ ∃ cs17 : List Value, cellsAt h11 g2_v.a ((Nat.min g2_v.n (((Int.toNat (IntKind.wrap .i64 ((g0_s.n : Int) + (g2_v.n : Int)))) - 0) - (Int.toNat (g0_s.n : Int)))) * 1) cs17 ∧ cpOk h11 (slAd (slAd g0_s.a 0 g0_s.c 1) (Int.toNat (g0_s.n : Int)) (g0_s.c - 0) 1) ((Nat.min g2_v.n (((Int.toNat (IntKind.wrap .i64 ((g0_s.n : Int) + (g2_v.n : Int)))) - 0) - (Int.toNat (g0_s.n : Int)))) * 1) cs17 ∧ wth (cpHp h11 (slAd (slAd g0_s.a 0 g0_s.c 1) (Int.toNat (g0_s.n : Int)) (g0_s.c - 0) 1) cs17) fun h18 =>
                (0 ≤ g1_i ∧ g1_i ≤ (((Int.toNat (IntKind.wrap .i64 ((g0_s.n : Int) + (g2_v.n : Int)))) - 0) : Nat)) ∧ S_slices_rotateRight_pleaf_one ⟨(slAd (slAd g0_s.a 0 g0_s.c 1) (Int.toNat g1_i) (g0_s.c - 0) 1), (((Int.toNat (IntKind.wrap .i64 ((g0_s.n : Int) + (g2_v.n : Int)))) - 0) - (Int.toNat g1_i)), ((g0_s.c - 0) - (Int.toNat g1_i))⟩ (g2_v.n : Int) h18 fun (vs19 : List Value) (h20 : Hp) =>
                vs19 = [] ∧
                Q [(Value.slice (slAd g0_s.a 0 g0_s.c 1) ((Int.toNat (IntKind.wrap .i64 ((g0_s.n : Int) + (g2_v.n : Int)))) - 0) (g0_s.c - 0))] h20))))))))
def A_slices_Insert_spleaf_one_pleaf_one : Ann := .nil
theorem E_slices_Insert_spleaf_one_pleaf_one (g0_s : Sl) (g1_i : Int) (g2_v : Sl) (h : Hp) (Q : List Value → Hp → Prop) : cw PP 95 (fun _ => []) (bodyOf Tryz.f49) A_slices_Insert_spleaf_one_pleaf_one (finQ PP (Tryz.f49.results.toList) Q) (argFr [(Value.slice g0_s.a g0_s.n g0_s.c), (Value.int .i64 g1_i), (Value.slice g2_v.a g2_v.n g2_v.c)]) h = F_slices_Insert_spleaf_one_pleaf_one g0_s g1_i g2_v h Q := by kernel_rfl
theorem O_slices_Insert_spleaf_one_pleaf_one (g0_s : Sl) (g1_i : Int) (g2_v : Sl) {h : Hp} {Q : List Value → Hp → Prop} (H : F_slices_Insert_spleaf_one_pleaf_one g0_s g1_i g2_v h Q) : S_slices_Insert_spleaf_one_pleaf_one g0_s g1_i g2_v h Q :=
  fn_of_cw (hs := (fun _ => [])) (ann := A_slices_Insert_spleaf_one_pleaf_one) (args := [(Value.slice g0_s.a g0_s.n g0_s.c), (Value.int .i64 g1_i), (Value.slice g2_v.a g2_v.n g2_v.c)]) mixedPP Tryz.func49 (c := bodyOf Tryz.f49) (by kernel_rfl) (by kernel_rfl) (by kernel_rfl) (Eq.mpr (E_slices_Insert_spleaf_one_pleaf_one g0_s g1_i g2_v h Q) H)
def F_leaf_Leaves_Insert (g0_x : Option Addr) (g1_k : ByteArray) (h : Hp) (Q : List Value → Hp → Prop) : Prop :=
wth (Array.push h (Obj.cells #[(Value.int .i64 (0 : Int)), (Value.int .i64 (0 : Int))] T_leaf_Move)) fun h1 =>
(if (Option.isNone g0_x) = true then
  (stOk h1 (Addr.mk (Array.size h) 0 none) 2 ∧ wth (wrs h1 (Addr.mk (Array.size h) 0 none) 0 [(Value.int .i64 (0 : Int)), (Value.int .i64 (0 : Int))]) fun h2 =>
    ∃ n3 : Int, rd h2 (Addr.add (Addr.mk (Array.size h) 0 none) 0) = some (Value.int .i64 n3) ∧ ∃ n4 : Int, rd h2 (Addr.add (Addr.mk (Array.size h) 0 none) 1) = some (Value.int .i64 n4) ∧ Q [(Value.int .i64 (0 : Int)), (Value.agg #[(Value.int .i64 n3), (Value.int .i64 n4)]), (Value.int .i64 (1 : Int))] h2) else
  ((if (decide ((ByteArray.size g1_k : Int) > (1024 : Int))) = true then
      (stOk h1 (Addr.mk (Array.size h) 0 none) 2 ∧ wth (wrs h1 (Addr.mk (Array.size h) 0 none) 0 [(Value.int .i64 (0 : Int)), (Value.int .i64 (0 : Int))]) fun h5 =>
        ∃ n6 : Int, rd h5 (Addr.add (Addr.mk (Array.size h) 0 none) 0) = some (Value.int .i64 n6) ∧ ∃ n7 : Int, rd h5 (Addr.add (Addr.mk (Array.size h) 0 none) 1) = some (Value.int .i64 n7) ∧ Q [(Value.int .i64 (0 : Int)), (Value.agg #[(Value.int .i64 n6), (Value.int .i64 n7)]), (Value.int .i64 (2 : Int))] h5) else
      (S_leaf_Leaves_at g0_x g1_k h1 fun (vs8 : List Value) (h9 : Hp) =>
        ∃ n10 : Int, vs8 = [(Value.int .i64 n10)] ∧
        nilW g0_x fun a11 => ∃ l12 : Sl, rd h9 (Addr.add a11 1) = some (Value.slice l12.a l12.n l12.c) ∧
        nilW l12.a fun a13 => ixOk n10 l12.n (∃ p14 : Option Addr, rd h9 (Addr.add a13 (Int.toNat n10 * 1)) = some (Value.pointer p14) ∧
          nilW p14 fun a15 => ∃ l16 : Sl, rd h9 (Addr.add a15 2) = some (Value.slice l16.a l16.n l16.c) ∧
          S_slices_BinarySearch_sstring_string ⟨l16.a, l16.n, l16.c⟩ g1_k h9 fun (vs17 : List Value) (h18 : Hp) =>
          ∃ n19 : Int, ∃ b20 : Bool, vs17 = [(Value.int .i64 n19), (Value.bool b20)] ∧
          (if b20 = true then
            (stOk h18 (Addr.mk (Array.size h) 0 none) 2 ∧ wth (wrs h18 (Addr.mk (Array.size h) 0 none) 0 [(Value.int .i64 (0 : Int)), (Value.int .i64 (0 : Int))]) fun h21 =>
              ∃ n22 : Int, rd h21 (Addr.add (Addr.mk (Array.size h) 0 none) 0) = some (Value.int .i64 n22) ∧ ∃ n23 : Int, rd h21 (Addr.add (Addr.mk (Array.size h) 0 none) 1) = some (Value.int .i64 n23) ∧ Q [(Value.int .i64 (0 : Int)), (Value.agg #[(Value.int .i64 n22), (Value.int .i64 n23)]), (Value.int .i64 (62 : Int))] h21) else
            (nilW p14 fun a24 => ∃ l25 : Sl, rd h18 (Addr.add a24 2) = some (Value.slice l25.a l25.n l25.c) ∧
              wth (Array.push h18 (Obj.cells #[(Value.string g1_k)] T_string)) fun h26 =>
              S_slices_Insert_sstring_string ⟨l25.a, l25.n, l25.c⟩ n19 ⟨(some (Addr.mk (Array.size h18) 0 none)), 1, 1⟩ h26 fun (vs27 : List Value) (h28 : Hp) =>
              ∃ l29 : Sl, vs27 = [(Value.slice l29.a l29.n l29.c)] ∧
              nilW p14 fun a30 => stOk h28 (Addr.add a30 2) 1 ∧ wth (wrs h28 (Addr.add a30 2) 0 [(Value.slice l29.a l29.n l29.c)]) fun h31 =>
              nilW p14 fun a32 => ∃ l33 : Sl, rd h31 (Addr.add a32 2) = some (Value.slice l33.a l33.n l33.c) ∧
              nilW g0_x fun a34 => ∃ n35 : Int, rd h31 (Addr.add a34 0) = some (Value.int .i64 n35) ∧
              (if (decide ((l33.n : Int) ≤ n35)) = true then
                (nilW p14 fun a36 => ∃ n37 : Int, rd h31 (Addr.add a36 0) = some (Value.int .i64 n37) ∧
                  stOk h31 (Addr.mk (Array.size h) 0 none) 2 ∧ wth (wrs h31 (Addr.mk (Array.size h) 0 none) 0 [(Value.int .i64 (0 : Int)), (Value.int .i64 (0 : Int))]) fun h38 =>
                  ∃ n39 : Int, rd h38 (Addr.add (Addr.mk (Array.size h) 0 none) 0) = some (Value.int .i64 n39) ∧ ∃ n40 : Int, rd h38 (Addr.add (Addr.mk (Array.size h) 0 none) 1) = some (Value.int .i64 n40) ∧ Q [(Value.int .i64 n37), (Value.agg #[(Value.int .i64 n39), (Value.int .i64 n40)]), (Value.int .i64 (0 : Int))] h38) else
                (nilW p14 fun a41 => ∃ l42 : Sl, rd h31 (Addr.add a41 2) = some (Value.slice l42.a l42.n l42.c) ∧
                  divOk (2 : Int) (nilW g0_x fun a43 => ∃ n44 : Int, rd h31 (Addr.add a43 2) = some (Value.int .i64 n44) ∧
                    nilW p14 fun a45 => ∃ l46 : Sl, rd h31 (Addr.add a45 2) = some (Value.slice l46.a l46.n l46.c) ∧
                    nilW l46.a fun a47 => ixOk (IntKind.wrap .i64 (Int.tdiv (IntKind.wrap .i64 ((l42.n : Int) + (1 : Int))) (2 : Int))) l46.n (∃ s48 : ByteArray, rd h31 (Addr.add a47 (Int.toNat (IntKind.wrap .i64 (Int.tdiv (IntKind.wrap .i64 ((l42.n : Int) + (1 : Int))) (2 : Int))) * 1)) = some (Value.string s48) ∧
                      nilW p14 fun a49 => ∃ l50 : Sl, rd h31 (Addr.add a49 2) = some (Value.slice l50.a l50.n l50.c) ∧
                      (0 ≤ (IntKind.wrap .i64 (Int.tdiv (IntKind.wrap .i64 ((l42.n : Int) + (1 : Int))) (2 : Int))) ∧ (IntKind.wrap .i64 (Int.tdiv (IntKind.wrap .i64 ((l42.n : Int) + (1 : Int))) (2 : Int))) ≤ (l50.n : Nat)) ∧ S_slices_Clone_sstring_string ⟨(slAd l50.a (Int.toNat (IntKind.wrap .i64 (Int.tdiv (IntKind.wrap .i64 ((l42.n : Int) + (1 : Int))) (2 : Int)))) l50.c 1), (l50.n - (Int.toNat (IntKind.wrap .i64 (Int.tdiv (IntKind.wrap .i64 ((l42.n : Int) + (1 : Int))) (2 : Int))))), (l50.c - (Int.toNat (IntKind.wrap .i64 (Int.tdiv (IntKind.wrap .i64 ((l42.n : Int) + (1 : Int))) (2 : Int)))))⟩ h31 fun (vs51 : List Value) (h52 : Hp) =>
                      ∃ l53 : Sl, vs51 = [(Value.slice l53.a l53.n l53.c)] ∧
                      rd h52 (Addr.add a47 (Int.toNat (IntKind.wrap .i64 (Int.tdiv (IntKind.wrap .i64 ((l42.n : Int) + (1 : Int))) (2 : Int))) * 1)) = some (Value.string s48) ∧ rd h52 (Addr.add a45 2) = some (Value.slice l46.a l46.n l46.c) ∧ rd h52 (Addr.add a43 2) = some (Value.int .i64 n44) ∧ wth (Array.push h52 (Obj.cells #[(Value.int .i64 n44), (Value.string s48), (Value.slice l53.a l53.n l53.c)] T_leaf_one)) fun h54 =>
                      nilW p14 fun a55 => ∃ l56 : Sl, rd h54 (Addr.add a55 2) = some (Value.slice l56.a l56.n l56.c) ∧
                      (0 ≤ (IntKind.wrap .i64 (Int.tdiv (IntKind.wrap .i64 ((l42.n : Int) + (1 : Int))) (2 : Int))) ∧ (IntKind.wrap .i64 (Int.tdiv (IntKind.wrap .i64 ((l42.n : Int) + (1 : Int))) (2 : Int))) ≤ (l56.c : Nat)) ∧ S_slices_Clone_sstring_string ⟨(slAd l56.a 0 l56.c 1), ((Int.toNat (IntKind.wrap .i64 (Int.tdiv (IntKind.wrap .i64 ((l42.n : Int) + (1 : Int))) (2 : Int)))) - 0), (l56.c - 0)⟩ h54 fun (vs57 : List Value) (h58 : Hp) =>
                      ∃ l59 : Sl, vs57 = [(Value.slice l59.a l59.n l59.c)] ∧
                      nilW p14 fun a60 => stOk h58 (Addr.add a60 2) 1 ∧ wth (wrs h58 (Addr.add a60 2) 0 [(Value.slice l59.a l59.n l59.c)]) fun h61 =>
                      nilW g0_x fun a62 => ∃ n63 : Int, rd h61 (Addr.add a62 2) = some (Value.int .i64 n63) ∧
                      nilW g0_x fun a64 => stOk h61 (Addr.add a64 2) 1 ∧ wth (wrs h61 (Addr.add a64 2) 0 [(Value.int .i64 (IntKind.wrap .i64 (n63 + (1 : Int))))]) fun h65 =>
                      nilW g0_x fun a66 => ∃ l67 : Sl, rd h65 (Addr.add a66 1) = some (Value.slice l67.a l67.n l67.c) ∧
                      wth (Array.push h65 (Obj.cells #[(Value.pointer (some (Addr.mk (Array.size h52) 0 none)))] T_pleaf_one)) fun h68 =>
                      S_slices_Insert_spleaf_one_pleaf_one ⟨l67.a, l67.n, l67.c⟩ (IntKind.wrap .i64 (n10 + (1 : Int))) ⟨(some (Addr.mk (Array.size h65) 0 none)), 1, 1⟩ h68 fun (vs69 : List Value) (h70 : Hp) =>
                      ∃ l71 : Sl, vs69 = [(Value.slice l71.a l71.n l71.c)] ∧
                      nilW g0_x fun a72 => stOk h70 (Addr.add a72 1) 1 ∧ wth (wrs h70 (Addr.add a72 1) 0 [(Value.slice l71.a l71.n l71.c)]) fun h73 =>
                      nilW p14 fun a74 => ∃ n75 : Int, rd h73 (Addr.add a74 0) = some (Value.int .i64 n75) ∧
                      nilW (some (Addr.mk (Array.size h52) 0 none)) fun a76 => ∃ n77 : Int, rd h73 (Addr.add a76 0) = some (Value.int .i64 n77) ∧
                      stOk h73 (Addr.mk (Array.size h) 0 none) 2 ∧ wth (wrs h73 (Addr.mk (Array.size h) 0 none) 0 [(Value.int .i64 n75), (Value.int .i64 n77)]) fun h78 =>
                      (if (decide (n19 < (IntKind.wrap .i64 (Int.tdiv (IntKind.wrap .i64 ((l42.n : Int) + (1 : Int))) (2 : Int))))) = true then
                        (nilW p14 fun a79 => ∃ n80 : Int, rd h78 (Addr.add a79 0) = some (Value.int .i64 n80) ∧
                          ∃ n81 : Int, rd h78 (Addr.add (Addr.mk (Array.size h) 0 none) 0) = some (Value.int .i64 n81) ∧ ∃ n82 : Int, rd h78 (Addr.add (Addr.mk (Array.size h) 0 none) 1) = some (Value.int .i64 n82) ∧ stOk h78 (Addr.mk (Array.size h) 0 none) 2 ∧ wth (wrs h78 (Addr.mk (Array.size h) 0 none) 0 [(Value.int .i64 n81), (Value.int .i64 n82)]) fun h83 =>
                          ∃ n84 : Int, rd h83 (Addr.add (Addr.mk (Array.size h) 0 none) 0) = some (Value.int .i64 n84) ∧ ∃ n85 : Int, rd h83 (Addr.add (Addr.mk (Array.size h) 0 none) 1) = some (Value.int .i64 n85) ∧ Q [(Value.int .i64 n80), (Value.agg #[(Value.int .i64 n84), (Value.int .i64 n85)]), (Value.int .i64 (0 : Int))] h83) else
                        (nilW (some (Addr.mk (Array.size h52) 0 none)) fun a86 => ∃ n87 : Int, rd h78 (Addr.add a86 0) = some (Value.int .i64 n87) ∧
                          ∃ n88 : Int, rd h78 (Addr.add (Addr.mk (Array.size h) 0 none) 0) = some (Value.int .i64 n88) ∧ ∃ n89 : Int, rd h78 (Addr.add (Addr.mk (Array.size h) 0 none) 1) = some (Value.int .i64 n89) ∧ stOk h78 (Addr.mk (Array.size h) 0 none) 2 ∧ wth (wrs h78 (Addr.mk (Array.size h) 0 none) 0 [(Value.int .i64 n88), (Value.int .i64 n89)]) fun h90 =>
                          ∃ n91 : Int, rd h90 (Addr.add (Addr.mk (Array.size h) 0 none) 0) = some (Value.int .i64 n91) ∧ ∃ n92 : Int, rd h90 (Addr.add (Addr.mk (Array.size h) 0 none) 1) = some (Value.int .i64 n92) ∧ Q [(Value.int .i64 n87), (Value.agg #[(Value.int .i64 n91), (Value.int .i64 n92)]), (Value.int .i64 (0 : Int))] h90)))))))))))))
def A_leaf_Leaves_Insert : Ann := .nil
theorem E_leaf_Leaves_Insert (g0_x : Option Addr) (g1_k : ByteArray) (h : Hp) (Q : List Value → Hp → Prop) : cw PP 147 (fun _ => []) (bodyOf Tryz.f27) A_leaf_Leaves_Insert (finQ PP (Tryz.f27.results.toList) Q) (argFr [(Value.pointer g0_x), (Value.string g1_k)]) h = F_leaf_Leaves_Insert g0_x g1_k h Q := by kernel_rfl
theorem O_leaf_Leaves_Insert (g0_x : Option Addr) (g1_k : ByteArray) {h : Hp} {Q : List Value → Hp → Prop} (H : F_leaf_Leaves_Insert g0_x g1_k h Q) : S_leaf_Leaves_Insert g0_x g1_k h Q :=
  fn_of_cw (hs := (fun _ => [])) (ann := A_leaf_Leaves_Insert) (args := [(Value.pointer g0_x), (Value.string g1_k)]) mixedPP Tryz.func27 (c := bodyOf Tryz.f27) (by kernel_rfl) (by kernel_rfl) (by kernel_rfl) (Eq.mpr (E_leaf_Leaves_Insert g0_x g1_k h Q) H)
def F_index_Index_Add (g0_x : Option Addr) (g1_v_0 : Int) (g1_v_1 : Int) (g1_v_2 : Nat) (g1_v_3 : ByteArray) (g2_tid : Int) (h : Hp) (Q : List Value → Hp → Prop) : Prop :=
wth (Array.push h (Obj.cells #[(Value.int .i64 g1_v_0), (Value.int .i64 g1_v_1), (Value.float .f64 g1_v_2), (Value.string g1_v_3)] T_api_Value)) fun h1 =>
wth (Array.push h1 (Obj.cells #[(Value.int .i64 (0 : Int)), (Value.int .i64 (0 : Int))] T_leaf_Move)) fun h2 =>
(if (Option.isNone g0_x) = true then
  (stOk h2 (Addr.mk (Array.size h1) 0 none) 2 ∧ wth (wrs h2 (Addr.mk (Array.size h1) 0 none) 0 [(Value.int .i64 (0 : Int)), (Value.int .i64 (0 : Int))]) fun h3 =>
    ∃ n4 : Int, rd h3 (Addr.add (Addr.mk (Array.size h1) 0 none) 0) = some (Value.int .i64 n4) ∧ ∃ n5 : Int, rd h3 (Addr.add (Addr.mk (Array.size h1) 0 none) 1) = some (Value.int .i64 n5) ∧ Q [(Value.int .i64 (0 : Int)), (Value.agg #[(Value.int .i64 n4), (Value.int .i64 n5)]), (Value.int .i64 (1 : Int))] h3) else
  (∃ n6 : Int, rd h2 (Addr.add (Addr.mk (Array.size h) 0 none) 0) = some (Value.int .i64 n6) ∧ ∃ n7 : Int, rd h2 (Addr.add (Addr.mk (Array.size h) 0 none) 1) = some (Value.int .i64 n7) ∧ ∃ x8 : Nat, rd h2 (Addr.add (Addr.mk (Array.size h) 0 none) 2) = some (Value.float .f64 x8) ∧ ∃ s9 : ByteArray, rd h2 (Addr.add (Addr.mk (Array.size h) 0 none) 3) = some (Value.string s9) ∧ S_key_Entry n6 n7 x8 s9 g2_tid h2 fun (vs10 : List Value) (h11 : Hp) =>
    ∃ s12 : ByteArray, ∃ n13 : Int, vs10 = [(Value.string s12), (Value.int .i64 n13)] ∧
    (if (n13 != (0 : Int)) = true then
      (stOk h11 (Addr.mk (Array.size h1) 0 none) 2 ∧ wth (wrs h11 (Addr.mk (Array.size h1) 0 none) 0 [(Value.int .i64 (0 : Int)), (Value.int .i64 (0 : Int))]) fun h14 =>
        ∃ n15 : Int, rd h14 (Addr.add (Addr.mk (Array.size h1) 0 none) 0) = some (Value.int .i64 n15) ∧ ∃ n16 : Int, rd h14 (Addr.add (Addr.mk (Array.size h1) 0 none) 1) = some (Value.int .i64 n16) ∧ Q [(Value.int .i64 (0 : Int)), (Value.agg #[(Value.int .i64 n15), (Value.int .i64 n16)]), (Value.int .i64 n13)] h14) else
      (nilW g0_x fun a17 => ∃ p18 : Option Addr, rd h11 (Addr.add a17 0) = some (Value.pointer p18) ∧
        S_leaf_Leaves_Insert p18 s12 h11 fun (vs19 : List Value) (h20 : Hp) =>
        ∃ n21 : Int, ∃ n22 : Int, ∃ n23 : Int, ∃ n24 : Int, vs19 = [(Value.int .i64 n21), (Value.agg #[(Value.int .i64 n22), (Value.int .i64 n23)]), (Value.int .i64 n24)] ∧
        stOk h20 (Addr.mk (Array.size h1) 0 none) 2 ∧ wth (wrs h20 (Addr.mk (Array.size h1) 0 none) 0 [(Value.int .i64 n22), (Value.int .i64 n23)]) fun h25 =>
        ∃ n26 : Int, rd h25 (Addr.add (Addr.mk (Array.size h1) 0 none) 0) = some (Value.int .i64 n26) ∧ ∃ n27 : Int, rd h25 (Addr.add (Addr.mk (Array.size h1) 0 none) 1) = some (Value.int .i64 n27) ∧ Q [(Value.int .i64 n21), (Value.agg #[(Value.int .i64 n26), (Value.int .i64 n27)]), (Value.int .i64 n24)] h25))))
def A_index_Index_Add : Ann := .nil
theorem E_index_Index_Add (g0_x : Option Addr) (g1_v_0 : Int) (g1_v_1 : Int) (g1_v_2 : Nat) (g1_v_3 : ByteArray) (g2_tid : Int) (h : Hp) (Q : List Value → Hp → Prop) : cw PP 33 (fun _ => []) (bodyOf Tryz.f8) A_index_Index_Add (finQ PP (Tryz.f8.results.toList) Q) (argFr [(Value.pointer g0_x), (Value.agg #[(Value.int .i64 g1_v_0), (Value.int .i64 g1_v_1), (Value.float .f64 g1_v_2), (Value.string g1_v_3)]), (Value.int .i64 g2_tid)]) h = F_index_Index_Add g0_x g1_v_0 g1_v_1 g1_v_2 g1_v_3 g2_tid h Q := by kernel_rfl
theorem O_index_Index_Add (g0_x : Option Addr) (g1_v_0 : Int) (g1_v_1 : Int) (g1_v_2 : Nat) (g1_v_3 : ByteArray) (g2_tid : Int) {h : Hp} {Q : List Value → Hp → Prop} (H : F_index_Index_Add g0_x g1_v_0 g1_v_1 g1_v_2 g1_v_3 g2_tid h Q) : S_index_Index_Add g0_x g1_v_0 g1_v_1 g1_v_2 g1_v_3 g2_tid h Q :=
  fn_of_cw (hs := (fun _ => [])) (ann := A_index_Index_Add) (args := [(Value.pointer g0_x), (Value.agg #[(Value.int .i64 g1_v_0), (Value.int .i64 g1_v_1), (Value.float .f64 g1_v_2), (Value.string g1_v_3)]), (Value.int .i64 g2_tid)]) mixedPP Tryz.func8 (c := bodyOf Tryz.f8) (by kernel_rfl) (by kernel_rfl) (by kernel_rfl) (Eq.mpr (E_index_Index_Add g0_x g1_v_0 g1_v_1 g1_v_2 g1_v_3 g2_tid h Q) H)
def F_key_Least (g0_v_0 : Int) (g0_v_1 : Int) (g0_v_2 : Nat) (g0_v_3 : ByteArray) (h : Hp) (Q : List Value → Hp → Prop) : Prop :=
wth (Array.push h (Obj.cells #[(Value.int .i64 g0_v_0), (Value.int .i64 g0_v_1), (Value.float .f64 g0_v_2), (Value.string g0_v_3)] T_api_Value)) fun h1 =>
∃ n2 : Int, rd h1 (Addr.add (Addr.mk (Array.size h) 0 none) 0) = some (Value.int .i64 n2) ∧ ∃ n3 : Int, rd h1 (Addr.add (Addr.mk (Array.size h) 0 none) 1) = some (Value.int .i64 n3) ∧ ∃ x4 : Nat, rd h1 (Addr.add (Addr.mk (Array.size h) 0 none) 2) = some (Value.float .f64 x4) ∧ ∃ s5 : ByteArray, rd h1 (Addr.add (Addr.mk (Array.size h) 0 none) 3) = some (Value.string s5) ∧ S_key_Entry n2 n3 x4 s5 (0 : Int) h1 fun (vs6 : List Value) (h7 : Hp) =>
∃ s8 : ByteArray, ∃ n9 : Int, vs6 = [(Value.string s8), (Value.int .i64 n9)] ∧
Q [(Value.string s8), (Value.int .i64 n9)] h7
def A_key_Least : Ann := .nil
theorem E_key_Least (g0_v_0 : Int) (g0_v_1 : Int) (g0_v_2 : Nat) (g0_v_3 : ByteArray) (h : Hp) (Q : List Value → Hp → Prop) : cw PP 8 (fun _ => []) (bodyOf Tryz.f32) A_key_Least (finQ PP (Tryz.f32.results.toList) Q) (argFr [(Value.agg #[(Value.int .i64 g0_v_0), (Value.int .i64 g0_v_1), (Value.float .f64 g0_v_2), (Value.string g0_v_3)])]) h = F_key_Least g0_v_0 g0_v_1 g0_v_2 g0_v_3 h Q := by kernel_rfl
theorem O_key_Least (g0_v_0 : Int) (g0_v_1 : Int) (g0_v_2 : Nat) (g0_v_3 : ByteArray) {h : Hp} {Q : List Value → Hp → Prop} (H : F_key_Least g0_v_0 g0_v_1 g0_v_2 g0_v_3 h Q) : S_key_Least g0_v_0 g0_v_1 g0_v_2 g0_v_3 h Q :=
  fn_of_cw (hs := (fun _ => [])) (ann := A_key_Least) (args := [(Value.agg #[(Value.int .i64 g0_v_0), (Value.int .i64 g0_v_1), (Value.float .f64 g0_v_2), (Value.string g0_v_3)])]) mixedPP Tryz.func32 (c := bodyOf Tryz.f32) (by kernel_rfl) (by kernel_rfl) (by kernel_rfl) (Eq.mpr (E_key_Least g0_v_0 g0_v_1 g0_v_2 g0_v_3 h Q) H)
def F_key_After (g0_v_0 : Int) (g0_v_1 : Int) (g0_v_2 : Nat) (g0_v_3 : ByteArray) (h : Hp) (Q : List Value → Hp → Prop) : Prop :=
wth (Array.push h (Obj.cells #[(Value.int .i64 g0_v_0), (Value.int .i64 g0_v_1), (Value.float .f64 g0_v_2), (Value.string g0_v_3)] T_api_Value)) fun h1 =>
∃ n2 : Int, rd h1 (Addr.add (Addr.mk (Array.size h) 0 none) 0) = some (Value.int .i64 n2) ∧ ∃ n3 : Int, rd h1 (Addr.add (Addr.mk (Array.size h) 0 none) 1) = some (Value.int .i64 n3) ∧ ∃ x4 : Nat, rd h1 (Addr.add (Addr.mk (Array.size h) 0 none) 2) = some (Value.float .f64 x4) ∧ ∃ s5 : ByteArray, rd h1 (Addr.add (Addr.mk (Array.size h) 0 none) 3) = some (Value.string s5) ∧ S_key_Entry n2 n3 x4 s5 (65535 : Int) h1 fun (vs6 : List Value) (h7 : Hp) =>
∃ s8 : ByteArray, ∃ n9 : Int, vs6 = [(Value.string s8), (Value.int .i64 n9)] ∧
(if (n9 != (0 : Int)) = true then
  (Q [(Value.string (ByteArray.mk #[])), (Value.int .i64 n9)] h7) else
  (wth (Array.push h7 (Obj.cells #[(Value.string s8), (Value.string (ByteArray.mk #[0]))] T_string)) fun h10 =>
    S_key_joined ⟨(some (Addr.mk (Array.size h7) 0 none)), 2, 2⟩ h10 fun (vs11 : List Value) (h12 : Hp) =>
    ∃ s13 : ByteArray, vs11 = [(Value.string s13)] ∧
    Q [(Value.string s13), (Value.int .i64 (0 : Int))] h12))
def A_key_After : Ann := .nil
theorem E_key_After (g0_v_0 : Int) (g0_v_1 : Int) (g0_v_2 : Nat) (g0_v_3 : ByteArray) (h : Hp) (Q : List Value → Hp → Prop) : cw PP 17 (fun _ => []) (bodyOf Tryz.f33) A_key_After (finQ PP (Tryz.f33.results.toList) Q) (argFr [(Value.agg #[(Value.int .i64 g0_v_0), (Value.int .i64 g0_v_1), (Value.float .f64 g0_v_2), (Value.string g0_v_3)])]) h = F_key_After g0_v_0 g0_v_1 g0_v_2 g0_v_3 h Q := by kernel_rfl
theorem O_key_After (g0_v_0 : Int) (g0_v_1 : Int) (g0_v_2 : Nat) (g0_v_3 : ByteArray) {h : Hp} {Q : List Value → Hp → Prop} (H : F_key_After g0_v_0 g0_v_1 g0_v_2 g0_v_3 h Q) : S_key_After g0_v_0 g0_v_1 g0_v_2 g0_v_3 h Q :=
  fn_of_cw (hs := (fun _ => [])) (ann := A_key_After) (args := [(Value.agg #[(Value.int .i64 g0_v_0), (Value.int .i64 g0_v_1), (Value.float .f64 g0_v_2), (Value.string g0_v_3)])]) mixedPP Tryz.func33 (c := bodyOf Tryz.f33) (by kernel_rfl) (by kernel_rfl) (by kernel_rfl) (Eq.mpr (E_key_After g0_v_0 g0_v_1 g0_v_2 g0_v_3 h Q) H)
def F_index_Index_Find (g0_x : Option Addr) (g1_v_0 : Int) (g1_v_1 : Int) (g1_v_2 : Nat) (g1_v_3 : ByteArray) (h : Hp) (Q : List Value → Hp → Prop) : Prop :=
wth (Array.push h (Obj.cells #[(Value.int .i64 g1_v_0), (Value.int .i64 g1_v_1), (Value.float .f64 g1_v_2), (Value.string g1_v_3)] T_api_Value)) fun h1 =>
∃ n2 : Int, rd h1 (Addr.add (Addr.mk (Array.size h) 0 none) 0) = some (Value.int .i64 n2) ∧ ∃ n3 : Int, rd h1 (Addr.add (Addr.mk (Array.size h) 0 none) 1) = some (Value.int .i64 n3) ∧ ∃ x4 : Nat, rd h1 (Addr.add (Addr.mk (Array.size h) 0 none) 2) = some (Value.float .f64 x4) ∧ ∃ s5 : ByteArray, rd h1 (Addr.add (Addr.mk (Array.size h) 0 none) 3) = some (Value.string s5) ∧ S_key_Least n2 n3 x4 s5 h1 fun (vs6 : List Value) (h7 : Hp) =>
∃ s8 : ByteArray, ∃ n9 : Int, vs6 = [(Value.string s8), (Value.int .i64 n9)] ∧
∃ n10 : Int, rd h7 (Addr.add (Addr.mk (Array.size h) 0 none) 0) = some (Value.int .i64 n10) ∧ ∃ n11 : Int, rd h7 (Addr.add (Addr.mk (Array.size h) 0 none) 1) = some (Value.int .i64 n11) ∧ ∃ x12 : Nat, rd h7 (Addr.add (Addr.mk (Array.size h) 0 none) 2) = some (Value.float .f64 x12) ∧ ∃ s13 : ByteArray, rd h7 (Addr.add (Addr.mk (Array.size h) 0 none) 3) = some (Value.string s13) ∧ S_key_After n10 n11 x12 s13 h7 fun (vs14 : List Value) (h15 : Hp) =>
∃ s16 : ByteArray, ∃ n17 : Int, vs14 = [(Value.string s16), (Value.int .i64 n17)] ∧
∀ J18 : List Value → Hp → Prop, (∀ b19 : Bool, ∀ h20 : Hp, ((if b19 = true then
      (Q [(Value.slice none 0 0), (Value.slice none 0 0)] h20) else
      (S_index_Index_between g0_x s8 s16 h20 fun (vs21 : List Value) (h22 : Hp) =>
        ∃ l23 : Sl, ∃ l24 : Sl, vs21 = [(Value.slice l23.a l23.n l23.c), (Value.slice l24.a l24.n l24.c)] ∧
        Q [(Value.slice l23.a l23.n l23.c), (Value.slice l24.a l24.n l24.c)] h22))) → J18 [(Value.bool b19)] h20) →
(if (Option.isNone g0_x) = true then (J18 [(Value.bool true)] h15) else
  ((if (n9 != (0 : Int)) = true then (J18 [(Value.bool true)] h15) else
      (J18 [(Value.bool (n17 != (0 : Int)))] h15))))
def A_index_Index_Find : Ann := (.mk none ⟨[], []⟩ .nil (.mk none ⟨[], []⟩ .nil (.mk none ⟨[], []⟩ .nil (.mk none ⟨[], []⟩ (.mk none ⟨[], []⟩ (.mk (some ⟨[0, 6, 8], [(29, (.c .bool))]⟩) ⟨[], []⟩ .nil .nil) .nil) .nil))))
theorem E_index_Index_Find (g0_x : Option Addr) (g1_v_0 : Int) (g1_v_1 : Int) (g1_v_2 : Nat) (g1_v_3 : ByteArray) (h : Hp) (Q : List Value → Hp → Prop) : cw PP 36 (fun _ => []) (bodyOf Tryz.f12) A_index_Index_Find (finQ PP (Tryz.f12.results.toList) Q) (argFr [(Value.pointer g0_x), (Value.agg #[(Value.int .i64 g1_v_0), (Value.int .i64 g1_v_1), (Value.float .f64 g1_v_2), (Value.string g1_v_3)])]) h = F_index_Index_Find g0_x g1_v_0 g1_v_1 g1_v_2 g1_v_3 h Q := by kernel_rfl
theorem O_index_Index_Find (g0_x : Option Addr) (g1_v_0 : Int) (g1_v_1 : Int) (g1_v_2 : Nat) (g1_v_3 : ByteArray) {h : Hp} {Q : List Value → Hp → Prop} (H : F_index_Index_Find g0_x g1_v_0 g1_v_1 g1_v_2 g1_v_3 h Q) : S_index_Index_Find g0_x g1_v_0 g1_v_1 g1_v_2 g1_v_3 h Q :=
  fn_of_cw (hs := (fun _ => [])) (ann := A_index_Index_Find) (args := [(Value.pointer g0_x), (Value.agg #[(Value.int .i64 g1_v_0), (Value.int .i64 g1_v_1), (Value.float .f64 g1_v_2), (Value.string g1_v_3)])]) mixedPP Tryz.func12 (c := bodyOf Tryz.f12) (by kernel_rfl) (by kernel_rfl) (by kernel_rfl) (Eq.mpr (E_index_Index_Find g0_x g1_v_0 g1_v_1 g1_v_2 g1_v_3 h Q) H)
def F_liverykeep_Ints (g0_a : Sl) (g1_b : Sl) (h : Hp) (Q : List Value → Hp → Prop) : Prop :=
(if ((g0_a.n : Int) != (g1_b.n : Int)) = true then
  (Q [(Value.bool false)] h) else
  (∀ X1 : List Value → Hp → Prop, (∀ n2 : Int, ∀ h3 : Hp, ((if (decide (n2 < (g0_a.n : Int))) = true then
          (nilW g0_a.a fun a4 => ixOk n2 g0_a.n (∃ n5 : Int, rd h3 (Addr.add a4 (Int.toNat n2 * 1)) = some (Value.int .i64 n5) ∧
              nilW g1_b.a fun a6 => ixOk n2 g1_b.n (∃ n7 : Int, rd h3 (Addr.add a6 (Int.toNat n2 * 1)) = some (Value.int .i64 n7) ∧
                (if (n5 != n7) = true then
                  (Q [(Value.bool false)] h3) else
                  (X1 [(Value.int .i64 (IntKind.wrap .i64 (n2 + (1 : Int))))] h3))))) else
          (Q [(Value.bool true)] h3))) → X1 [(Value.int .i64 n2)] h3) →
    X1 [(Value.int .i64 (0 : Int))] h))
def A_liverykeep_Ints : Ann := (.mk none ⟨[], []⟩ .nil (.mk none ⟨[], []⟩ .nil (.mk none ⟨[], []⟩ (.mk none ⟨[], []⟩ .nil (.mk none ⟨[], []⟩ (.mk none ⟨[0, 1], [(5, (.c (.int .i64)))]⟩ .nil .nil) .nil)) .nil)))
theorem E_liverykeep_Ints (g0_a : Sl) (g1_b : Sl) (h : Hp) (Q : List Value → Hp → Prop) : cw PP 26 (fun _ => []) (bodyOf Tryz.f16) A_liverykeep_Ints (finQ PP (Tryz.f16.results.toList) Q) (argFr [(Value.slice g0_a.a g0_a.n g0_a.c), (Value.slice g1_b.a g1_b.n g1_b.c)]) h = F_liverykeep_Ints g0_a g1_b h Q := by kernel_rfl
theorem O_liverykeep_Ints (g0_a : Sl) (g1_b : Sl) {h : Hp} {Q : List Value → Hp → Prop} (H : F_liverykeep_Ints g0_a g1_b h Q) : S_liverykeep_Ints g0_a g1_b h Q :=
  fn_of_cw (hs := (fun _ => [])) (ann := A_liverykeep_Ints) (args := [(Value.slice g0_a.a g0_a.n g0_a.c), (Value.slice g1_b.a g1_b.n g1_b.c)]) mixedPP Tryz.func16 (c := bodyOf Tryz.f16) (by kernel_rfl) (by kernel_rfl) (by kernel_rfl) (Eq.mpr (E_liverykeep_Ints g0_a g1_b h Q) H)
def F_leaf_Leaves_Has (g0_x : Option Addr) (g1_k : ByteArray) (h : Hp) (Q : List Value → Hp → Prop) : Prop :=
(if (Option.isNone g0_x) = true then
  (Q [(Value.bool false)] h) else
  (nilW g0_x fun a1 => ∃ l2 : Sl, rd h (Addr.add a1 1) = some (Value.slice l2.a l2.n l2.c) ∧
    S_leaf_Leaves_at g0_x g1_k h fun (vs3 : List Value) (h4 : Hp) =>
    ∃ n5 : Int, vs3 = [(Value.int .i64 n5)] ∧
    rd h4 (Addr.add a1 1) = some (Value.slice l2.a l2.n l2.c) ∧ nilW l2.a fun a6 => ixOk n5 l2.n (∃ p7 : Option Addr, rd h4 (Addr.add a6 (Int.toNat n5 * 1)) = some (Value.pointer p7) ∧
      nilW p7 fun a8 => ∃ l9 : Sl, rd h4 (Addr.add a8 2) = some (Value.slice l9.a l9.n l9.c) ∧
      S_slices_BinarySearch_sstring_string ⟨l9.a, l9.n, l9.c⟩ g1_k h4 fun (vs10 : List Value) (h11 : Hp) =>
      ∃ n12 : Int, ∃ b13 : Bool, vs10 = [(Value.int .i64 n12), (Value.bool b13)] ∧
      Q [(Value.bool b13)] h11)))
def A_leaf_Leaves_Has : Ann := .nil
theorem E_leaf_Leaves_Has (g0_x : Option Addr) (g1_k : ByteArray) (h : Hp) (Q : List Value → Hp → Prop) : cw PP 27 (fun _ => []) (bodyOf Tryz.f39) A_leaf_Leaves_Has (finQ PP (Tryz.f39.results.toList) Q) (argFr [(Value.pointer g0_x), (Value.string g1_k)]) h = F_leaf_Leaves_Has g0_x g1_k h Q := by kernel_rfl
theorem O_leaf_Leaves_Has (g0_x : Option Addr) (g1_k : ByteArray) {h : Hp} {Q : List Value → Hp → Prop} (H : F_leaf_Leaves_Has g0_x g1_k h Q) : S_leaf_Leaves_Has g0_x g1_k h Q :=
  fn_of_cw (hs := (fun _ => [])) (ann := A_leaf_Leaves_Has) (args := [(Value.pointer g0_x), (Value.string g1_k)]) mixedPP Tryz.func39 (c := bodyOf Tryz.f39) (by kernel_rfl) (by kernel_rfl) (by kernel_rfl) (Eq.mpr (E_leaf_Leaves_Has g0_x g1_k h Q) H)
def F_index_Index_Has (g0_x : Option Addr) (g1_v_0 : Int) (g1_v_1 : Int) (g1_v_2 : Nat) (g1_v_3 : ByteArray) (g2_tid : Int) (h : Hp) (Q : List Value → Hp → Prop) : Prop :=
wth (Array.push h (Obj.cells #[(Value.int .i64 g1_v_0), (Value.int .i64 g1_v_1), (Value.float .f64 g1_v_2), (Value.string g1_v_3)] T_api_Value)) fun h1 =>
∃ n2 : Int, rd h1 (Addr.add (Addr.mk (Array.size h) 0 none) 0) = some (Value.int .i64 n2) ∧ ∃ n3 : Int, rd h1 (Addr.add (Addr.mk (Array.size h) 0 none) 1) = some (Value.int .i64 n3) ∧ ∃ x4 : Nat, rd h1 (Addr.add (Addr.mk (Array.size h) 0 none) 2) = some (Value.float .f64 x4) ∧ ∃ s5 : ByteArray, rd h1 (Addr.add (Addr.mk (Array.size h) 0 none) 3) = some (Value.string s5) ∧ S_key_Entry n2 n3 x4 s5 g2_tid h1 fun (vs6 : List Value) (h7 : Hp) =>
∃ s8 : ByteArray, ∃ n9 : Int, vs6 = [(Value.string s8), (Value.int .i64 n9)] ∧
(if (!(Option.isNone g0_x)) = true then ((if (n9 == (0 : Int)) = true then (nilW g0_x fun a10 => ∃ p11 : Option Addr, rd h7 (Addr.add a10 0) = some (Value.pointer p11) ∧
        S_leaf_Leaves_Has p11 s8 h7 fun (vs12 : List Value) (h13 : Hp) =>
        ∃ b14 : Bool, vs12 = [(Value.bool b14)] ∧
        Q [(Value.bool b14)] h13) else
      (Q [(Value.bool false)] h7))) else
  (Q [(Value.bool false)] h7))
def A_index_Index_Has : Ann := .nil
theorem E_index_Index_Has (g0_x : Option Addr) (g1_v_0 : Int) (g1_v_1 : Int) (g1_v_2 : Nat) (g1_v_3 : ByteArray) (g2_tid : Int) (h : Hp) (Q : List Value → Hp → Prop) : cw PP 29 (fun _ => []) (bodyOf Tryz.f17) A_index_Index_Has (finQ PP (Tryz.f17.results.toList) Q) (argFr [(Value.pointer g0_x), (Value.agg #[(Value.int .i64 g1_v_0), (Value.int .i64 g1_v_1), (Value.float .f64 g1_v_2), (Value.string g1_v_3)]), (Value.int .i64 g2_tid)]) h = F_index_Index_Has g0_x g1_v_0 g1_v_1 g1_v_2 g1_v_3 g2_tid h Q := by kernel_rfl
theorem O_index_Index_Has (g0_x : Option Addr) (g1_v_0 : Int) (g1_v_1 : Int) (g1_v_2 : Nat) (g1_v_3 : ByteArray) (g2_tid : Int) {h : Hp} {Q : List Value → Hp → Prop} (H : F_index_Index_Has g0_x g1_v_0 g1_v_1 g1_v_2 g1_v_3 g2_tid h Q) : S_index_Index_Has g0_x g1_v_0 g1_v_1 g1_v_2 g1_v_3 g2_tid h Q :=
  fn_of_cw (hs := (fun _ => [])) (ann := A_index_Index_Has) (args := [(Value.pointer g0_x), (Value.agg #[(Value.int .i64 g1_v_0), (Value.int .i64 g1_v_1), (Value.float .f64 g1_v_2), (Value.string g1_v_3)]), (Value.int .i64 g2_tid)]) mixedPP Tryz.func17 (c := bodyOf Tryz.f17) (by kernel_rfl) (by kernel_rfl) (by kernel_rfl) (Eq.mpr (E_index_Index_Has g0_x g1_v_0 g1_v_1 g1_v_2 g1_v_3 g2_tid h Q) H)
def F_leaf_Leaves_Len (g0_x : Option Addr) (h : Hp) (Q : List Value → Hp → Prop) : Prop :=
∀ J1 : List Value → Hp → Prop, (∀ n2 : Int, ∀ h3 : Hp, (Q [(Value.int .i64 n2)] h3) → J1 [(Value.int .i64 n2)] h3) →
(if (!(Option.isNone g0_x)) = true then
  (nilW g0_x fun a4 => ∃ l5 : Sl, rd h (Addr.add a4 1) = some (Value.slice l5.a l5.n l5.c) ∧
    ∀ X6 : List Value → Hp → Prop, (∀ n7 : Int, ∀ n8 : Int, ∀ h9 : Hp, ((if (decide (n8 < (l5.n : Int))) = true then
          (nilW l5.a fun a10 => ixOk n8 l5.n (∃ p11 : Option Addr, rd h9 (Addr.add a10 (Int.toNat n8 * 1)) = some (Value.pointer p11) ∧
              nilW p11 fun a12 => ∃ l13 : Sl, rd h9 (Addr.add a12 2) = some (Value.slice l13.a l13.n l13.c) ∧
              X6 [(Value.int .i64 (IntKind.wrap .i64 (n7 + (l13.n : Int)))), (Value.int .i64 (IntKind.wrap .i64 (n8 + (1 : Int))))] h9)) else
          (J1 [(Value.int .i64 n7)] h9))) → X6 [(Value.int .i64 n7), (Value.int .i64 n8)] h9) →
    X6 [(Value.int .i64 (0 : Int)), (Value.int .i64 (0 : Int))] h) else
  (J1 [(Value.int .i64 (0 : Int))] h))
def A_leaf_Leaves_Len : Ann := (.mk none ⟨[], []⟩ .nil (.mk none ⟨[], []⟩ .nil (.mk none ⟨[], []⟩ (.mk none ⟨[], []⟩ .nil (.mk (some ⟨[], [(3, (.c (.int .i64)))]⟩) ⟨[], []⟩ (.mk none ⟨[], []⟩ .nil (.mk none ⟨[], []⟩ (.mk none ⟨[11, 12], [(3, (.c (.int .i64))), (13, (.c (.int .i64)))]⟩ .nil .nil) .nil)) .nil)) .nil)))
theorem E_leaf_Leaves_Len (g0_x : Option Addr) (h : Hp) (Q : List Value → Hp → Prop) : cw PP 26 (fun _ => []) (bodyOf Tryz.f41) A_leaf_Leaves_Len (finQ PP (Tryz.f41.results.toList) Q) (argFr [(Value.pointer g0_x)]) h = F_leaf_Leaves_Len g0_x h Q := by kernel_rfl
theorem O_leaf_Leaves_Len (g0_x : Option Addr) {h : Hp} {Q : List Value → Hp → Prop} (H : F_leaf_Leaves_Len g0_x h Q) : S_leaf_Leaves_Len g0_x h Q :=
  fn_of_cw (hs := (fun _ => [])) (ann := A_leaf_Leaves_Len) (args := [(Value.pointer g0_x)]) mixedPP Tryz.func41 (c := bodyOf Tryz.f41) (by kernel_rfl) (by kernel_rfl) (by kernel_rfl) (Eq.mpr (E_leaf_Leaves_Len g0_x h Q) H)
def F_index_Index_Len (g0_x : Option Addr) (h : Hp) (Q : List Value → Hp → Prop) : Prop :=
(if (Option.isNone g0_x) = true then
  (Q [(Value.int .i64 (0 : Int))] h) else
  (nilW g0_x fun a1 => ∃ p2 : Option Addr, rd h (Addr.add a1 0) = some (Value.pointer p2) ∧
    S_leaf_Leaves_Len p2 h fun (vs3 : List Value) (h4 : Hp) =>
    ∃ n5 : Int, vs3 = [(Value.int .i64 n5)] ∧
    Q [(Value.int .i64 n5)] h4))
def A_index_Index_Len : Ann := .nil
theorem E_index_Index_Len (g0_x : Option Addr) (h : Hp) (Q : List Value → Hp → Prop) : cw PP 10 (fun _ => []) (bodyOf Tryz.f19) A_index_Index_Len (finQ PP (Tryz.f19.results.toList) Q) (argFr [(Value.pointer g0_x)]) h = F_index_Index_Len g0_x h Q := by kernel_rfl
theorem O_index_Index_Len (g0_x : Option Addr) {h : Hp} {Q : List Value → Hp → Prop} (H : F_index_Index_Len g0_x h Q) : S_index_Index_Len g0_x h Q :=
  fn_of_cw (hs := (fun _ => [])) (ann := A_index_Index_Len) (args := [(Value.pointer g0_x)]) mixedPP Tryz.func19 (c := bodyOf Tryz.f19) (by kernel_rfl) (by kernel_rfl) (by kernel_rfl) (Eq.mpr (E_index_Index_Len g0_x h Q) H)
def F_liverylaw11_wakes (h : Hp) (Q : List Value → Hp → Prop) : Prop :=
S_index_New (2 : Int) h fun (vs1 : List Value) (h2 : Hp) =>
∃ p3 : Option Addr, ∃ n4 : Int, vs1 = [(Value.pointer p3), (Value.int .i64 n4)] ∧
wth (Array.push h2 (Obj.cells #[(Value.int .i64 (0 : Int)), (Value.int .i64 (0 : Int)), (Value.float .f64 0), (Value.string (ByteArray.mk #[]))] T_api_Value)) fun h5 =>
stOk h5 (Addr.mk (Array.size h2) 0 none) 4 ∧ wth (wrs h5 (Addr.mk (Array.size h2) 0 none) 0 [(Value.int .i64 (2 : Int)), (Value.int .i64 (5 : Int)), (Value.float .f64 0), (Value.string (ByteArray.mk #[]))]) fun h6 =>
∀ J7 : List Value → Hp → Prop, (∀ b8 : Bool, ∀ h9 : Hp, ((if b8 = true then
      (Q [(Value.bool false)] h9) else
      (∃ n10 : Int, rd h9 (Addr.add (Addr.mk (Array.size h2) 0 none) 0) = some (Value.int .i64 n10) ∧ ∃ n11 : Int, rd h9 (Addr.add (Addr.mk (Array.size h2) 0 none) 1) = some (Value.int .i64 n11) ∧ ∃ x12 : Nat, rd h9 (Addr.add (Addr.mk (Array.size h2) 0 none) 2) = some (Value.float .f64 x12) ∧ ∃ s13 : ByteArray, rd h9 (Addr.add (Addr.mk (Array.size h2) 0 none) 3) = some (Value.string s13) ∧ S_index_Index_Add p3 n10 n11 x12 s13 (3 : Int) h9 fun (vs14 : List Value) (h15 : Hp) =>
        ∃ n16 : Int, ∃ n17 : Int, ∃ n18 : Int, ∃ n19 : Int, vs14 = [(Value.int .i64 n16), (Value.agg #[(Value.int .i64 n17), (Value.int .i64 n18)]), (Value.int .i64 n19)] ∧
        ∃ n20 : Int, rd h15 (Addr.add (Addr.mk (Array.size h2) 0 none) 0) = some (Value.int .i64 n20) ∧ ∃ n21 : Int, rd h15 (Addr.add (Addr.mk (Array.size h2) 0 none) 1) = some (Value.int .i64 n21) ∧ ∃ x22 : Nat, rd h15 (Addr.add (Addr.mk (Array.size h2) 0 none) 2) = some (Value.float .f64 x22) ∧ ∃ s23 : ByteArray, rd h15 (Addr.add (Addr.mk (Array.size h2) 0 none) 3) = some (Value.string s23) ∧ S_index_Index_Add p3 n20 n21 x22 s23 (1 : Int) h15 fun (vs24 : List Value) (h25 : Hp) =>
        ∃ n26 : Int, ∃ n27 : Int, ∃ n28 : Int, ∃ n29 : Int, vs24 = [(Value.int .i64 n26), (Value.agg #[(Value.int .i64 n27), (Value.int .i64 n28)]), (Value.int .i64 n29)] ∧
        ∃ n30 : Int, rd h25 (Addr.add (Addr.mk (Array.size h2) 0 none) 0) = some (Value.int .i64 n30) ∧ ∃ n31 : Int, rd h25 (Addr.add (Addr.mk (Array.size h2) 0 none) 1) = some (Value.int .i64 n31) ∧ ∃ x32 : Nat, rd h25 (Addr.add (Addr.mk (Array.size h2) 0 none) 2) = some (Value.float .f64 x32) ∧ ∃ s33 : ByteArray, rd h25 (Addr.add (Addr.mk (Array.size h2) 0 none) 3) = some (Value.string s33) ∧ S_index_Index_Add p3 n30 n31 x32 s33 (7 : Int) h25 fun (vs34 : List Value) (h35 : Hp) =>
        ∃ n36 : Int, ∃ n37 : Int, ∃ n38 : Int, ∃ n39 : Int, vs34 = [(Value.int .i64 n36), (Value.agg #[(Value.int .i64 n37), (Value.int .i64 n38)]), (Value.int .i64 n39)] ∧
        wth (Array.push h35 (Obj.cells #[(Value.int .i64 (0 : Int)), (Value.int .i64 (0 : Int))] T_leaf_Move)) fun h40 =>
        stOk h40 (Addr.mk (Array.size h35) 0 none) 2 ∧ wth (wrs h40 (Addr.mk (Array.size h35) 0 none) 0 [(Value.int .i64 n37), (Value.int .i64 n38)]) fun h41 =>
        ∃ n42 : Int, rd h41 (Addr.add (Addr.mk (Array.size h2) 0 none) 0) = some (Value.int .i64 n42) ∧ ∃ n43 : Int, rd h41 (Addr.add (Addr.mk (Array.size h2) 0 none) 1) = some (Value.int .i64 n43) ∧ ∃ x44 : Nat, rd h41 (Addr.add (Addr.mk (Array.size h2) 0 none) 2) = some (Value.float .f64 x44) ∧ ∃ s45 : ByteArray, rd h41 (Addr.add (Addr.mk (Array.size h2) 0 none) 3) = some (Value.string s45) ∧ S_index_Index_Find p3 n42 n43 x44 s45 h41 fun (vs46 : List Value) (h47 : Hp) =>
        ∃ l48 : Sl, ∃ l49 : Sl, vs46 = [(Value.slice l48.a l48.n l48.c), (Value.slice l49.a l49.n l49.c)] ∧
        (if (n39 == (0 : Int)) = true then (∃ n50 : Int, rd h47 (Addr.add (Addr.mk (Array.size h35) 0 none) 0) = some (Value.int .i64 n50) ∧
            (if (n50 == (1 : Int)) = true then (∃ n51 : Int, rd h47 (Addr.add (Addr.mk (Array.size h35) 0 none) 1) = some (Value.int .i64 n51) ∧
                (if (n51 == (2 : Int)) = true then (wth (Array.push h47 (Obj.cells #[(Value.int .i64 (1 : Int)), (Value.int .i64 (3 : Int)), (Value.int .i64 (7 : Int))] T_int)) fun h52 =>
                    S_liverykeep_Ints ⟨l48.a, l48.n, l48.c⟩ ⟨(some (Addr.mk (Array.size h47) 0 none)), 3, 3⟩ h52 fun (vs53 : List Value) (h54 : Hp) =>
                    ∃ b55 : Bool, vs53 = [(Value.bool b55)] ∧
                    (if b55 = true then (wth (Array.push h54 (Obj.cells #[(Value.int .i64 (1 : Int)), (Value.int .i64 (2 : Int))] T_int)) fun h56 =>
                        S_liverykeep_Ints ⟨l49.a, l49.n, l49.c⟩ ⟨(some (Addr.mk (Array.size h54) 0 none)), 2, 2⟩ h56 fun (vs57 : List Value) (h58 : Hp) =>
                        ∃ b59 : Bool, vs57 = [(Value.bool b59)] ∧
                        (if b59 = true then (∃ n60 : Int, rd h58 (Addr.add (Addr.mk (Array.size h2) 0 none) 0) = some (Value.int .i64 n60) ∧ ∃ n61 : Int, rd h58 (Addr.add (Addr.mk (Array.size h2) 0 none) 1) = some (Value.int .i64 n61) ∧ ∃ x62 : Nat, rd h58 (Addr.add (Addr.mk (Array.size h2) 0 none) 2) = some (Value.float .f64 x62) ∧ ∃ s63 : ByteArray, rd h58 (Addr.add (Addr.mk (Array.size h2) 0 none) 3) = some (Value.string s63) ∧ S_index_Index_Has p3 n60 n61 x62 s63 (3 : Int) h58 fun (vs64 : List Value) (h65 : Hp) =>
                            ∃ b66 : Bool, vs64 = [(Value.bool b66)] ∧
                            (if b66 = true then (S_index_Index_Len p3 h65 fun (vs67 : List Value) (h68 : Hp) =>
                                ∃ n69 : Int, vs67 = [(Value.int .i64 n69)] ∧
                                Q [(Value.bool (n69 == (3 : Int)))] h68) else
                              (Q [(Value.bool false)] h65))) else
                          (Q [(Value.bool false)] h58))) else
                      (Q [(Value.bool false)] h54))) else
                  (Q [(Value.bool false)] h47))) else
              (Q [(Value.bool false)] h47))) else
          (Q [(Value.bool false)] h47))))) → J7 [(Value.bool b8)] h9) →
(if (n4 != (0 : Int)) = true then (J7 [(Value.bool true)] h6) else
  (J7 [(Value.bool (Option.isNone p3))] h6))
def A_liverylaw11_wakes : Ann := (.mk none ⟨[], []⟩ .nil (.mk none ⟨[], []⟩ .nil (.mk none ⟨[], []⟩ .nil (.mk none ⟨[], []⟩ (.mk none ⟨[], []⟩ (.mk (some ⟨[1, 3], [(19, (.c .bool))]⟩) ⟨[], []⟩ .nil .nil) .nil) .nil))))
theorem E_liverylaw11_wakes (h : Hp) (Q : List Value → Hp → Prop) : cw PP 71 (fun _ => []) (bodyOf Tryz.f7) A_liverylaw11_wakes (finQ PP (Tryz.f7.results.toList) Q) (argFr []) h = F_liverylaw11_wakes h Q := by kernel_rfl
theorem O_liverylaw11_wakes {h : Hp} {Q : List Value → Hp → Prop} (H : F_liverylaw11_wakes h Q) : S_liverylaw11_wakes h Q :=
  fn_of_cw (hs := (fun _ => [])) (ann := A_liverylaw11_wakes) (args := []) mixedPP Tryz.func7 (c := bodyOf Tryz.f7) (by kernel_rfl) (by kernel_rfl) (by kernel_rfl) (Eq.mpr (E_liverylaw11_wakes h Q) H)
def F_liveryref02_plain (g0_f : Nat) (h : Hp) (Q : List Value → Hp → Prop) : Prop :=
S_math_Float64bits g0_f h fun (vs1 : List Value) (h2 : Hp) =>
∃ n3 : Int, vs1 = [(Value.int .u64 n3)] ∧
Q [(Value.bool (n3 == (0 : Int)))] h2
def A_liveryref02_plain : Ann := .nil
theorem E_liveryref02_plain (g0_f : Nat) (h : Hp) (Q : List Value → Hp → Prop) : cw PP 6 (fun _ => []) (bodyOf Tryz.f91) A_liveryref02_plain (finQ PP (Tryz.f91.results.toList) Q) (argFr [(Value.float .f64 g0_f)]) h = F_liveryref02_plain g0_f h Q := by kernel_rfl
theorem O_liveryref02_plain (g0_f : Nat) {h : Hp} {Q : List Value → Hp → Prop} (H : F_liveryref02_plain g0_f h Q) : S_liveryref02_plain g0_f h Q :=
  fn_of_cw (hs := (fun _ => [])) (ann := A_liveryref02_plain) (args := [(Value.float .f64 g0_f)]) mixedPP Tryz.func91 (c := bodyOf Tryz.f91) (by kernel_rfl) (by kernel_rfl) (by kernel_rfl) (Eq.mpr (E_liveryref02_plain g0_f h Q) H)
def F_math_IsNaN (g0_f : Nat) (h : Hp) (Q : List Value → Hp → Prop) : Prop :=
Q [(Value.bool ((FloatKind.format .f64).order g0_f g0_f != some .eq))] h
def A_math_IsNaN : Ann := .nil
theorem E_math_IsNaN (g0_f : Nat) (h : Hp) (Q : List Value → Hp → Prop) : cw PP 6 (fun _ => []) (bodyOf Tryz.f98) A_math_IsNaN (finQ PP (Tryz.f98.results.toList) Q) (argFr [(Value.float .f64 g0_f)]) h = F_math_IsNaN g0_f h Q := by kernel_rfl
theorem O_math_IsNaN (g0_f : Nat) {h : Hp} {Q : List Value → Hp → Prop} (H : F_math_IsNaN g0_f h Q) : S_math_IsNaN g0_f h Q :=
  fn_of_cw (hs := (fun _ => [])) (ann := A_math_IsNaN) (args := [(Value.float .f64 g0_f)]) mixedPP Tryz.func98 (c := bodyOf Tryz.f98) (by kernel_rfl) (by kernel_rfl) (by kernel_rfl) (Eq.mpr (E_math_IsNaN g0_f h Q) H)
def F_liveryref01_Canon (g0_f : Nat) (h : Hp) (Q : List Value → Hp → Prop) : Prop :=
S_math_IsNaN g0_f h fun (vs1 : List Value) (h2 : Hp) =>
∃ b3 : Bool, vs1 = [(Value.bool b3)] ∧
(if b3 = true then
  (S_math_Float64frombits (9221120237041090560 : Int) h2 fun (vs4 : List Value) (h5 : Hp) =>
    ∃ x6 : Nat, vs4 = [(Value.float .f64 x6)] ∧
    Q [(Value.float .f64 x6)] h5) else
  ((if ((FloatKind.format .f64).order g0_f 0 == some .eq) = true then
      (Q [(Value.float .f64 0)] h2) else
      (Q [(Value.float .f64 g0_f)] h2))))
def A_liveryref01_Canon : Ann := .nil
theorem E_liveryref01_Canon (g0_f : Nat) (h : Hp) (Q : List Value → Hp → Prop) : cw PP 9 (fun _ => []) (bodyOf Tryz.f93) A_liveryref01_Canon (finQ PP (Tryz.f93.results.toList) Q) (argFr [(Value.float .f64 g0_f)]) h = F_liveryref01_Canon g0_f h Q := by kernel_rfl
theorem O_liveryref01_Canon (g0_f : Nat) {h : Hp} {Q : List Value → Hp → Prop} (H : F_liveryref01_Canon g0_f h Q) : S_liveryref01_Canon g0_f h Q :=
  fn_of_cw (hs := (fun _ => [])) (ann := A_liveryref01_Canon) (args := [(Value.float .f64 g0_f)]) mixedPP Tryz.func93 (c := bodyOf Tryz.f93) (by kernel_rfl) (by kernel_rfl) (by kernel_rfl) (Eq.mpr (E_liveryref01_Canon g0_f h Q) H)
def F_liveryref01_Is (g0_f : Nat) (h : Hp) (Q : List Value → Hp → Prop) : Prop :=
S_math_Float64bits g0_f h fun (vs1 : List Value) (h2 : Hp) =>
∃ n3 : Int, vs1 = [(Value.int .u64 n3)] ∧
S_liveryref01_Canon g0_f h2 fun (vs4 : List Value) (h5 : Hp) =>
∃ x6 : Nat, vs4 = [(Value.float .f64 x6)] ∧
S_math_Float64bits x6 h5 fun (vs7 : List Value) (h8 : Hp) =>
∃ n9 : Int, vs7 = [(Value.int .u64 n9)] ∧
Q [(Value.bool (n3 == n9))] h8
def A_liveryref01_Is : Ann := .nil
theorem E_liveryref01_Is (g0_f : Nat) (h : Hp) (Q : List Value → Hp → Prop) : cw PP 9 (fun _ => []) (bodyOf Tryz.f92) A_liveryref01_Is (finQ PP (Tryz.f92.results.toList) Q) (argFr [(Value.float .f64 g0_f)]) h = F_liveryref01_Is g0_f h Q := by kernel_rfl
theorem O_liveryref01_Is (g0_f : Nat) {h : Hp} {Q : List Value → Hp → Prop} (H : F_liveryref01_Is g0_f h Q) : S_liveryref01_Is g0_f h Q :=
  fn_of_cw (hs := (fun _ => [])) (ann := A_liveryref01_Is) (args := [(Value.float .f64 g0_f)]) mixedPP Tryz.func92 (c := bodyOf Tryz.f92) (by kernel_rfl) (by kernel_rfl) (by kernel_rfl) (Eq.mpr (E_liveryref01_Is g0_f h Q) H)
def F_liveryref02_Good (g0_v_0 : Int) (g0_v_1 : Int) (g0_v_2 : Nat) (g0_v_3 : ByteArray) (h : Hp) (Q : List Value → Hp → Prop) : Prop :=
wth (Array.push h (Obj.cells #[(Value.int .i64 g0_v_0), (Value.int .i64 g0_v_1), (Value.float .f64 g0_v_2), (Value.string g0_v_3)] T_api_Value)) fun h1 =>
∃ n2 : Int, rd h1 (Addr.add (Addr.mk (Array.size h) 0 none) 0) = some (Value.int .i64 n2) ∧
(if (n2 == (0 : Int)) = true then
  (∀ J3 : List Value → Hp → Prop, (∀ b4 : Bool, ∀ h5 : Hp, (Q [(Value.bool b4)] h5) → J3 [(Value.bool b4)] h5) →
    ∃ n6 : Int, rd h1 (Addr.add (Addr.mk (Array.size h) 0 none) 1) = some (Value.int .i64 n6) ∧
    (if (n6 == (0 : Int)) = true then (∃ x7 : Nat, rd h1 (Addr.add (Addr.mk (Array.size h) 0 none) 2) = some (Value.float .f64 x7) ∧
        S_liveryref02_plain x7 h1 fun (vs8 : List Value) (h9 : Hp) =>
        ∃ b10 : Bool, vs8 = [(Value.bool b10)] ∧
        (if b10 = true then (∃ s11 : ByteArray, rd h9 (Addr.add (Addr.mk (Array.size h) 0 none) 3) = some (Value.string s11) ∧
            J3 [(Value.bool ((ByteArray.toList s11) == (ByteArray.toList (ByteArray.mk #[]))))] h9) else
          (J3 [(Value.bool false)] h9))) else
      (J3 [(Value.bool false)] h1))) else
  ((if (n2 == (1 : Int)) = true then
      (∀ J12 : List Value → Hp → Prop, (∀ b13 : Bool, ∀ h14 : Hp, (Q [(Value.bool b13)] h14) → J12 [(Value.bool b13)] h14) →
        ∃ n15 : Int, rd h1 (Addr.add (Addr.mk (Array.size h) 0 none) 1) = some (Value.int .i64 n15) ∧
        (if (n15 == (0 : Int)) = true then (∃ x16 : Nat, rd h1 (Addr.add (Addr.mk (Array.size h) 0 none) 2) = some (Value.float .f64 x16) ∧
            S_liveryref02_plain x16 h1 fun (vs17 : List Value) (h18 : Hp) =>
            ∃ b19 : Bool, vs17 = [(Value.bool b19)] ∧
            (if b19 = true then (∃ s20 : ByteArray, rd h18 (Addr.add (Addr.mk (Array.size h) 0 none) 3) = some (Value.string s20) ∧
                J12 [(Value.bool ((ByteArray.toList s20) == (ByteArray.toList (ByteArray.mk #[]))))] h18) else
              (J12 [(Value.bool false)] h18))) else
          (∃ n21 : Int, rd h1 (Addr.add (Addr.mk (Array.size h) 0 none) 1) = some (Value.int .i64 n21) ∧
            (if (n21 == (1 : Int)) = true then (∃ x22 : Nat, rd h1 (Addr.add (Addr.mk (Array.size h) 0 none) 2) = some (Value.float .f64 x22) ∧
                S_liveryref02_plain x22 h1 fun (vs23 : List Value) (h24 : Hp) =>
                ∃ b25 : Bool, vs23 = [(Value.bool b25)] ∧
                (if b25 = true then (∃ s26 : ByteArray, rd h24 (Addr.add (Addr.mk (Array.size h) 0 none) 3) = some (Value.string s26) ∧
                    J12 [(Value.bool ((ByteArray.toList s26) == (ByteArray.toList (ByteArray.mk #[]))))] h24) else
                  (J12 [(Value.bool false)] h24))) else
              (J12 [(Value.bool false)] h1))))) else
      ((if (n2 == (2 : Int)) = true then
          (∀ J27 : List Value → Hp → Prop, (∀ b28 : Bool, ∀ h29 : Hp, (Q [(Value.bool b28)] h29) → J27 [(Value.bool b28)] h29) →
            ∃ x30 : Nat, rd h1 (Addr.add (Addr.mk (Array.size h) 0 none) 2) = some (Value.float .f64 x30) ∧
            S_liveryref02_plain x30 h1 fun (vs31 : List Value) (h32 : Hp) =>
            ∃ b33 : Bool, vs31 = [(Value.bool b33)] ∧
            (if b33 = true then (∃ s34 : ByteArray, rd h32 (Addr.add (Addr.mk (Array.size h) 0 none) 3) = some (Value.string s34) ∧
                J27 [(Value.bool ((ByteArray.toList s34) == (ByteArray.toList (ByteArray.mk #[]))))] h32) else
              (J27 [(Value.bool false)] h32))) else
          ((if (n2 == (3 : Int)) = true then
              (∀ J35 : List Value → Hp → Prop, (∀ b36 : Bool, ∀ h37 : Hp, (Q [(Value.bool b36)] h37) → J35 [(Value.bool b36)] h37) →
                ∃ n38 : Int, rd h1 (Addr.add (Addr.mk (Array.size h) 0 none) 1) = some (Value.int .i64 n38) ∧
                (if (n38 == (0 : Int)) = true then (∃ x39 : Nat, rd h1 (Addr.add (Addr.mk (Array.size h) 0 none) 2) = some (Value.float .f64 x39) ∧
                    S_liveryref01_Is x39 h1 fun (vs40 : List Value) (h41 : Hp) =>
                    ∃ b42 : Bool, vs40 = [(Value.bool b42)] ∧
                    (if b42 = true then (∃ s43 : ByteArray, rd h41 (Addr.add (Addr.mk (Array.size h) 0 none) 3) = some (Value.string s43) ∧
                        J35 [(Value.bool ((ByteArray.toList s43) == (ByteArray.toList (ByteArray.mk #[]))))] h41) else
                      (J35 [(Value.bool false)] h41))) else
                  (J35 [(Value.bool false)] h1))) else
              ((if (n2 == (4 : Int)) = true then
                  (∀ J44 : List Value → Hp → Prop, (∀ b45 : Bool, ∀ h46 : Hp, (Q [(Value.bool b45)] h46) → J44 [(Value.bool b45)] h46) →
                    ∃ n47 : Int, rd h1 (Addr.add (Addr.mk (Array.size h) 0 none) 1) = some (Value.int .i64 n47) ∧
                    (if (n47 == (0 : Int)) = true then (∃ x48 : Nat, rd h1 (Addr.add (Addr.mk (Array.size h) 0 none) 2) = some (Value.float .f64 x48) ∧
                        S_liveryref02_plain x48 h1 fun (vs49 : List Value) (h50 : Hp) =>
                        ∃ b51 : Bool, vs49 = [(Value.bool b51)] ∧
                        (if b51 = true then (∃ s52 : ByteArray, rd h50 (Addr.add (Addr.mk (Array.size h) 0 none) 3) = some (Value.string s52) ∧
                            J44 [(Value.bool (decide ((ByteArray.size s52 : Int) ≤ (256 : Int))))] h50) else
                          (J44 [(Value.bool false)] h50))) else
                      (J44 [(Value.bool false)] h1))) else
                  (Q [(Value.bool false)] h1))))))))))
def A_liveryref02_Good : Ann := (.mk none ⟨[], []⟩ .nil (.mk none ⟨[], []⟩ (.mk none ⟨[], []⟩ .nil (.mk none ⟨[], []⟩ (.mk none ⟨[], []⟩ .nil (.mk none ⟨[], []⟩ (.mk none ⟨[], []⟩ (.mk (some ⟨[], [(2, (.c .bool))]⟩) ⟨[], []⟩ .nil .nil) .nil) (.mk none ⟨[], []⟩ .nil (.mk none ⟨[], []⟩ (.mk none ⟨[], []⟩ (.mk (some ⟨[], [(2, (.c .bool))]⟩) ⟨[], []⟩ .nil .nil) .nil) (.mk none ⟨[], []⟩ .nil (.mk none ⟨[], []⟩ (.mk none ⟨[], []⟩ (.mk (some ⟨[], [(2, (.c .bool))]⟩) ⟨[], []⟩ .nil .nil) .nil) (.mk none ⟨[], []⟩ .nil (.mk none ⟨[], []⟩ (.mk none ⟨[], []⟩ (.mk (some ⟨[], [(2, (.c .bool))]⟩) ⟨[], []⟩ .nil .nil) .nil) (.mk none ⟨[], []⟩ .nil (.mk none ⟨[], []⟩ (.mk none ⟨[], []⟩ (.mk (some ⟨[], [(2, (.c .bool))]⟩) ⟨[], []⟩ .nil .nil) .nil) .nil)))))))))) .nil)) .nil))
theorem E_liveryref02_Good (g0_v_0 : Int) (g0_v_1 : Int) (g0_v_2 : Nat) (g0_v_3 : ByteArray) (h : Hp) (Q : List Value → Hp → Prop) : cw PP 81 (fun _ => []) (bodyOf Tryz.f70) A_liveryref02_Good (finQ PP (Tryz.f70.results.toList) Q) (argFr [(Value.agg #[(Value.int .i64 g0_v_0), (Value.int .i64 g0_v_1), (Value.float .f64 g0_v_2), (Value.string g0_v_3)])]) h = F_liveryref02_Good g0_v_0 g0_v_1 g0_v_2 g0_v_3 h Q := by kernel_rfl
theorem O_liveryref02_Good (g0_v_0 : Int) (g0_v_1 : Int) (g0_v_2 : Nat) (g0_v_3 : ByteArray) {h : Hp} {Q : List Value → Hp → Prop} (H : F_liveryref02_Good g0_v_0 g0_v_1 g0_v_2 g0_v_3 h Q) : S_liveryref02_Good g0_v_0 g0_v_1 g0_v_2 g0_v_3 h Q :=
  fn_of_cw (hs := (fun _ => [])) (ann := A_liveryref02_Good) (args := [(Value.agg #[(Value.int .i64 g0_v_0), (Value.int .i64 g0_v_1), (Value.float .f64 g0_v_2), (Value.string g0_v_3)])]) mixedPP Tryz.func70 (c := bodyOf Tryz.f70) (by kernel_rfl) (by kernel_rfl) (by kernel_rfl) (Eq.mpr (E_liveryref02_Good g0_v_0 g0_v_1 g0_v_2 g0_v_3 h Q) H)
def F_liveryref02_Eight (g0_u : Int) (h : Hp) (Q : List Value → Hp → Prop) : Prop :=
mkOk (8 : Int) (8 : Int) 1 (wth (Array.push h (Obj.cells (mkCells (zc PP T_uint8) (Int.toNat (8 : Int) * 1)) T_uint8)) fun h1 =>
  ∀ X2 : List Value → Hp → Prop, (∀ n3 : Int, ∀ n4 : Int, ∀ h5 : Hp, ((if (decide (n4 ≥ (0 : Int))) = true then
        (divOk (256 : Int) (nilW (some (Addr.mk (Array.size h) 0 none)) fun a6 => ixOk n4 (Int.toNat (8 : Int)) (stOk h5 (Addr.add a6 (Int.toNat n4 * 1)) 1 ∧ wth (wrs h5 (Addr.add a6 (Int.toNat n4 * 1)) 0 [(Value.int .u8 (IntKind.wrap .u8 (Int.tmod n3 (256 : Int))))]) fun h7 =>
              divOk (256 : Int) (X2 [(Value.int .u64 (IntKind.wrap .u64 (Int.tdiv n3 (256 : Int)))), (Value.int .i64 (IntKind.wrap .i64 (n4 - (1 : Int))))] h7)))) else
        (∃ s8 : ByteArray, bytesAt h5 (some (Addr.mk (Array.size h) 0 none)) (Int.toNat (8 : Int)) s8 ∧
          Q [(Value.string s8)] h5))) → X2 [(Value.int .u64 n3), (Value.int .i64 n4)] h5) →
  X2 [(Value.int .u64 g0_u), (Value.int .i64 (7 : Int))] h1)
def A_liveryref02_Eight : Ann := (.mk none ⟨[], []⟩ .nil (.mk none ⟨[], []⟩ .nil (.mk none ⟨[], []⟩ (.mk none ⟨[], []⟩ .nil (.mk none ⟨[], []⟩ (.mk none ⟨[3], [(0, (.c (.int .u64))), (4, (.c (.int .i64)))]⟩ .nil .nil) .nil)) .nil)))
theorem E_liveryref02_Eight (g0_u : Int) (h : Hp) (Q : List Value → Hp → Prop) : cw PP 20 (fun _ => []) (bodyOf Tryz.f71) A_liveryref02_Eight (finQ PP (Tryz.f71.results.toList) Q) (argFr [(Value.int .u64 g0_u)]) h = F_liveryref02_Eight g0_u h Q := by kernel_rfl
theorem O_liveryref02_Eight (g0_u : Int) {h : Hp} {Q : List Value → Hp → Prop} (H : F_liveryref02_Eight g0_u h Q) : S_liveryref02_Eight g0_u h Q :=
  fn_of_cw (hs := (fun _ => [])) (ann := A_liveryref02_Eight) (args := [(Value.int .u64 g0_u)]) mixedPP Tryz.func71 (c := bodyOf Tryz.f71) (by kernel_rfl) (by kernel_rfl) (by kernel_rfl) (Eq.mpr (E_liveryref02_Eight g0_u h Q) H)
def F_liveryref01_Bits (g0_f : Nat) (h : Hp) (Q : List Value → Hp → Prop) : Prop :=
S_liveryref01_Canon g0_f h fun (vs1 : List Value) (h2 : Hp) =>
∃ x3 : Nat, vs1 = [(Value.float .f64 x3)] ∧
S_math_Float64bits x3 h2 fun (vs4 : List Value) (h5 : Hp) =>
∃ n6 : Int, vs4 = [(Value.int .u64 n6)] ∧
(if (decide (n6 ≥ (9223372036854775808 : Int))) = true then
  (Q [(Value.int .u64 (iXor .u64 (IntKind.max .u64) n6))] h5) else
  (Q [(Value.int .u64 (IntKind.wrap .u64 (n6 + (9223372036854775808 : Int))))] h5))
def A_liveryref01_Bits : Ann := .nil
theorem E_liveryref01_Bits (g0_f : Nat) (h : Hp) (Q : List Value → Hp → Prop) : cw PP 13 (fun _ => []) (bodyOf Tryz.f72) A_liveryref01_Bits (finQ PP (Tryz.f72.results.toList) Q) (argFr [(Value.float .f64 g0_f)]) h = F_liveryref01_Bits g0_f h Q := by kernel_rfl
theorem O_liveryref01_Bits (g0_f : Nat) {h : Hp} {Q : List Value → Hp → Prop} (H : F_liveryref01_Bits g0_f h Q) : S_liveryref01_Bits g0_f h Q :=
  fn_of_cw (hs := (fun _ => [])) (ann := A_liveryref01_Bits) (args := [(Value.float .f64 g0_f)]) mixedPP Tryz.func72 (c := bodyOf Tryz.f72) (by kernel_rfl) (by kernel_rfl) (by kernel_rfl) (Eq.mpr (E_liveryref01_Bits g0_f h Q) H)
def F_liveryref03_Of (g0_v_0 : Int) (g0_v_1 : Int) (g0_v_2 : Nat) (g0_v_3 : ByteArray) (h : Hp) (Q : List Value → Hp → Prop) : Prop :=
wth (Array.push h (Obj.cells #[(Value.int .i64 g0_v_0), (Value.int .i64 g0_v_1), (Value.float .f64 g0_v_2), (Value.string g0_v_3)] T_api_Value)) fun h1 =>
∃ n2 : Int, rd h1 (Addr.add (Addr.mk (Array.size h) 0 none) 0) = some (Value.int .i64 n2) ∧ ∃ n3 : Int, rd h1 (Addr.add (Addr.mk (Array.size h) 0 none) 1) = some (Value.int .i64 n3) ∧ ∃ x4 : Nat, rd h1 (Addr.add (Addr.mk (Array.size h) 0 none) 2) = some (Value.float .f64 x4) ∧ ∃ s5 : ByteArray, rd h1 (Addr.add (Addr.mk (Array.size h) 0 none) 3) = some (Value.string s5) ∧ S_liveryref02_Good n2 n3 x4 s5 h1 fun (vs6 : List Value) (h7 : Hp) =>
∃ b8 : Bool, vs6 = [(Value.bool b8)] ∧
(if (!b8) = true then
  (Q [(Value.string (ByteArray.mk #[])), (Value.int .i64 (11 : Int))] h7) else
  (∃ n9 : Int, rd h7 (Addr.add (Addr.mk (Array.size h) 0 none) 0) = some (Value.int .i64 n9) ∧
    wth (Array.push h7 (Obj.cells #[(Value.int .u8 (IntKind.wrap .u8 n9))] T_uint8)) fun h10 =>
    ∃ s11 : ByteArray, bytesAt h10 (some (Addr.mk (Array.size h7) 0 none)) 1 s11 ∧
    ∃ n12 : Int, rd h10 (Addr.add (Addr.mk (Array.size h) 0 none) 0) = some (Value.int .i64 n12) ∧
    (if (n12 == (1 : Int)) = true then
      (∃ n13 : Int, rd h10 (Addr.add (Addr.mk (Array.size h) 0 none) 1) = some (Value.int .i64 n13) ∧
        wth (Array.push h10 (Obj.cells #[(Value.int .u8 (IntKind.wrap .u8 n13))] T_uint8)) fun h14 =>
        ∃ s15 : ByteArray, bytesAt h14 (some (Addr.mk (Array.size h10) 0 none)) 1 s15 ∧
        catOk s11 s15 (Q [(Value.string (s11 ++ s15)), (Value.int .i64 (0 : Int))] h14)) else
      ((if (n12 == (2 : Int)) = true then
          (∃ n16 : Int, rd h10 (Addr.add (Addr.mk (Array.size h) 0 none) 1) = some (Value.int .i64 n16) ∧
            S_liveryref02_Eight (iXor .u64 (IntKind.wrap .u64 n16) (9223372036854775808 : Int)) h10 fun (vs17 : List Value) (h18 : Hp) =>
            ∃ s19 : ByteArray, vs17 = [(Value.string s19)] ∧
            catOk s11 s19 (Q [(Value.string (s11 ++ s19)), (Value.int .i64 (0 : Int))] h18)) else
          ((if (n12 == (3 : Int)) = true then
              (∃ x20 : Nat, rd h10 (Addr.add (Addr.mk (Array.size h) 0 none) 2) = some (Value.float .f64 x20) ∧
                S_liveryref01_Bits x20 h10 fun (vs21 : List Value) (h22 : Hp) =>
                ∃ n23 : Int, vs21 = [(Value.int .u64 n23)] ∧
                S_liveryref02_Eight n23 h22 fun (vs24 : List Value) (h25 : Hp) =>
                ∃ s26 : ByteArray, vs24 = [(Value.string s26)] ∧
                catOk s11 s26 (Q [(Value.string (s11 ++ s26)), (Value.int .i64 (0 : Int))] h25)) else
              ((if (n12 == (4 : Int)) = true then
                  (∀ X27 : List Value → Hp → Prop, (∀ s28 : ByteArray, ∀ n29 : Int, ∀ h30 : Hp, (∃ s31 : ByteArray, rd h30 (Addr.add (Addr.mk (Array.size h) 0 none) 3) = some (Value.string s31) ∧
                        (if (decide (n29 < (ByteArray.size s31 : Int))) = true then
                          (∀ J32 : List Value → Hp → Prop, (∀ s33 : ByteArray, ∀ h34 : Hp, (X27 [(Value.string s33), (Value.int .i64 (IntKind.wrap .i64 (n29 + (1 : Int))))] h34) → J32 [(Value.string s33)] h34) →
                            ∃ s35 : ByteArray, rd h30 (Addr.add (Addr.mk (Array.size h) 0 none) 3) = some (Value.string s35) ∧
                            ixOk n29 (ByteArray.size s35) (wth (Array.push h30 (Obj.cells #[(Value.int .u8 (strIx s35 n29))] T_uint8)) fun h36 =>
                              ∃ s37 : ByteArray, bytesAt h36 (some (Addr.mk (Array.size h30) 0 none)) 1 s37 ∧
                              catOk s28 s37 (∃ s38 : ByteArray, rd h36 (Addr.add (Addr.mk (Array.size h) 0 none) 3) = some (Value.string s38) ∧
                                ixOk n29 (ByteArray.size s38) ((if ((strIx s38 n29) == (0 : Int)) = true then
                                    (catOk (s28 ++ s37) (ByteArray.mk #[255]) (J32 [(Value.string ((s28 ++ s37) ++ (ByteArray.mk #[255])))] h36)) else
                                    (J32 [(Value.string (s28 ++ s37))] h36)))))) else
                          (catOk s28 (ByteArray.mk #[0, 1]) (Q [(Value.string (s28 ++ (ByteArray.mk #[0, 1]))), (Value.int .i64 (0 : Int))] h30)))) → X27 [(Value.string s28), (Value.int .i64 n29)] h30) →
                    X27 [(Value.string s11), (Value.int .i64 (0 : Int))] h10) else
                  (Q [(Value.string s11), (Value.int .i64 (0 : Int))] h10))))))))))
def A_liveryref03_Of : Ann := (.mk none ⟨[], []⟩ .nil (.mk none ⟨[], []⟩ .nil (.mk none ⟨[], []⟩ .nil (.mk none ⟨[], []⟩ (.mk none ⟨[], []⟩ .nil (.mk none ⟨[], []⟩ (.mk none ⟨[], []⟩ .nil (.mk none ⟨[], []⟩ .nil (.mk none ⟨[], []⟩ .nil (.mk none ⟨[], []⟩ .nil (.mk none ⟨[], []⟩ .nil (.mk none ⟨[], []⟩ .nil (.mk none ⟨[], []⟩ .nil (.mk none ⟨[], []⟩ (.mk none ⟨[], []⟩ (.mk none ⟨[], []⟩ .nil (.mk none ⟨[], []⟩ (.mk none ⟨[1], [(4, (.c .str)), (5, (.c (.int .i64)))]⟩ (.mk none ⟨[], []⟩ .nil (.mk none ⟨[], []⟩ (.mk (some ⟨[1, 5], [(4, (.c .str))]⟩) ⟨[], []⟩ .nil .nil) .nil)) .nil) .nil)) .nil) .nil)))))))) .nil)) .nil))))
theorem E_liveryref03_Of (g0_v_0 : Int) (g0_v_1 : Int) (g0_v_2 : Nat) (g0_v_3 : ByteArray) (h : Hp) (Q : List Value → Hp → Prop) : cw PP 69 (fun _ => []) (bodyOf Tryz.f50) A_liveryref03_Of (finQ PP (Tryz.f50.results.toList) Q) (argFr [(Value.agg #[(Value.int .i64 g0_v_0), (Value.int .i64 g0_v_1), (Value.float .f64 g0_v_2), (Value.string g0_v_3)])]) h = F_liveryref03_Of g0_v_0 g0_v_1 g0_v_2 g0_v_3 h Q := by kernel_rfl
theorem O_liveryref03_Of (g0_v_0 : Int) (g0_v_1 : Int) (g0_v_2 : Nat) (g0_v_3 : ByteArray) {h : Hp} {Q : List Value → Hp → Prop} (H : F_liveryref03_Of g0_v_0 g0_v_1 g0_v_2 g0_v_3 h Q) : S_liveryref03_Of g0_v_0 g0_v_1 g0_v_2 g0_v_3 h Q :=
  fn_of_cw (hs := (fun _ => [])) (ann := A_liveryref03_Of) (args := [(Value.agg #[(Value.int .i64 g0_v_0), (Value.int .i64 g0_v_1), (Value.float .f64 g0_v_2), (Value.string g0_v_3)])]) mixedPP Tryz.func50 (c := bodyOf Tryz.f50) (by kernel_rfl) (by kernel_rfl) (by kernel_rfl) (Eq.mpr (E_liveryref03_Of g0_v_0 g0_v_1 g0_v_2 g0_v_3 h Q) H)
def F_liveryref03_Entry (g0_v_0 : Int) (g0_v_1 : Int) (g0_v_2 : Nat) (g0_v_3 : ByteArray) (g1_n : Int) (h : Hp) (Q : List Value → Hp → Prop) : Prop :=
wth (Array.push h (Obj.cells #[(Value.int .i64 g0_v_0), (Value.int .i64 g0_v_1), (Value.float .f64 g0_v_2), (Value.string g0_v_3)] T_api_Value)) fun h1 =>
∃ n2 : Int, rd h1 (Addr.add (Addr.mk (Array.size h) 0 none) 0) = some (Value.int .i64 n2) ∧ ∃ n3 : Int, rd h1 (Addr.add (Addr.mk (Array.size h) 0 none) 1) = some (Value.int .i64 n3) ∧ ∃ x4 : Nat, rd h1 (Addr.add (Addr.mk (Array.size h) 0 none) 2) = some (Value.float .f64 x4) ∧ ∃ s5 : ByteArray, rd h1 (Addr.add (Addr.mk (Array.size h) 0 none) 3) = some (Value.string s5) ∧ S_liveryref03_Of n2 n3 x4 s5 h1 fun (vs6 : List Value) (h7 : Hp) =>
∃ s8 : ByteArray, ∃ n9 : Int, vs6 = [(Value.string s8), (Value.int .i64 n9)] ∧
(if (n9 != (0 : Int)) = true then
  (Q [(Value.string (ByteArray.mk #[])), (Value.int .i64 n9)] h7) else
  (∀ J10 : List Value → Hp → Prop, (∀ b11 : Bool, ∀ h12 : Hp, ((if b11 = true then
          (Q [(Value.string (ByteArray.mk #[])), (Value.int .i64 (1 : Int))] h12) else
          (divOk (256 : Int) (divOk (256 : Int) (wth (Array.push h12 (Obj.cells #[(Value.int .u8 (IntKind.wrap .u8 (IntKind.wrap .i64 (Int.tdiv g1_n (256 : Int))))), (Value.int .u8 (IntKind.wrap .u8 (Int.tmod g1_n (256 : Int))))] T_uint8)) fun h13 =>
                ∃ s14 : ByteArray, bytesAt h13 (some (Addr.mk (Array.size h12) 0 none)) 2 s14 ∧
                catOk s8 s14 (Q [(Value.string (s8 ++ s14)), (Value.int .i64 (0 : Int))] h13)))))) → J10 [(Value.bool b11)] h12) →
    (if (decide (g1_n < (0 : Int))) = true then (J10 [(Value.bool true)] h7) else
      (J10 [(Value.bool (decide (g1_n > (65535 : Int))))] h7))))
def A_liveryref03_Entry : Ann := (.mk none ⟨[], []⟩ .nil (.mk none ⟨[], []⟩ .nil (.mk none ⟨[], []⟩ .nil (.mk none ⟨[], []⟩ (.mk none ⟨[], []⟩ (.mk (some ⟨[1, 6], [(21, (.c .bool))]⟩) ⟨[], []⟩ .nil .nil) .nil) .nil))))
theorem E_liveryref03_Entry (g0_v_0 : Int) (g0_v_1 : Int) (g0_v_2 : Nat) (g0_v_3 : ByteArray) (g1_n : Int) (h : Hp) (Q : List Value → Hp → Prop) : cw PP 32 (fun _ => []) (bodyOf Tryz.f28) A_liveryref03_Entry (finQ PP (Tryz.f28.results.toList) Q) (argFr [(Value.agg #[(Value.int .i64 g0_v_0), (Value.int .i64 g0_v_1), (Value.float .f64 g0_v_2), (Value.string g0_v_3)]), (Value.int .i64 g1_n)]) h = F_liveryref03_Entry g0_v_0 g0_v_1 g0_v_2 g0_v_3 g1_n h Q := by kernel_rfl
theorem O_liveryref03_Entry (g0_v_0 : Int) (g0_v_1 : Int) (g0_v_2 : Nat) (g0_v_3 : ByteArray) (g1_n : Int) {h : Hp} {Q : List Value → Hp → Prop} (H : F_liveryref03_Entry g0_v_0 g0_v_1 g0_v_2 g0_v_3 g1_n h Q) : S_liveryref03_Entry g0_v_0 g0_v_1 g0_v_2 g0_v_3 g1_n h Q :=
  fn_of_cw (hs := (fun _ => [])) (ann := A_liveryref03_Entry) (args := [(Value.agg #[(Value.int .i64 g0_v_0), (Value.int .i64 g0_v_1), (Value.float .f64 g0_v_2), (Value.string g0_v_3)]), (Value.int .i64 g1_n)]) mixedPP Tryz.func28 (c := bodyOf Tryz.f28) (by kernel_rfl) (by kernel_rfl) (by kernel_rfl) (Eq.mpr (E_liveryref03_Entry g0_v_0 g0_v_1 g0_v_2 g0_v_3 g1_n h Q) H)
def F_liveryref10_Leaves_at (g0_x : Option Addr) (g1_k : ByteArray) (h : Hp) (Q : List Value → Hp → Prop) : Prop :=
∀ X1 : List Value → Hp → Prop, (∀ n2 : Int, ∀ n3 : Int, ∀ h4 : Hp, (nilW g0_x fun a5 => ∃ l6 : Sl, rd h4 (Addr.add a5 0) = some (Value.slice l6.a l6.n l6.c) ∧
    (if (decide (n3 < (l6.n : Int))) = true then
      (∀ J7 : List Value → Hp → Prop, (∀ n8 : Int, ∀ h9 : Hp, (X1 [(Value.int .i64 n8), (Value.int .i64 (IntKind.wrap .i64 (n3 + (1 : Int))))] h9) → J7 [(Value.int .i64 n8)] h9) →
        ∀ J10 : List Value → Hp → Prop, (∀ b11 : Bool, ∀ h12 : Hp, ((if b11 = true then
              (J7 [(Value.int .i64 n3)] h12) else
              (J7 [(Value.int .i64 n2)] h12))) → J10 [(Value.bool b11)] h12) →
        nilW g0_x fun a13 => ∃ l14 : Sl, rd h4 (Addr.add a13 0) = some (Value.slice l14.a l14.n l14.c) ∧
        nilW l14.a fun a15 => ixOk n3 l14.n (∃ b16 : Bool, rd h4 (Addr.add (Addr.add a15 (Int.toNat n3 * 4)) 1) = some (Value.bool b16) ∧
          (if b16 = true then (J10 [(Value.bool true)] h4) else
            (nilW g0_x fun a17 => ∃ l18 : Sl, rd h4 (Addr.add a17 0) = some (Value.slice l18.a l18.n l18.c) ∧
              nilW l18.a fun a19 => ixOk n3 l18.n (∃ s20 : ByteArray, rd h4 (Addr.add (Addr.add a19 (Int.toNat n3 * 4)) 2) = some (Value.string s20) ∧
                J10 [(Value.bool (Op.bytesLess (ByteArray.toList s20) (ByteArray.toList g1_k) || (ByteArray.toList s20) == (ByteArray.toList g1_k)))] h4))))) else
      (Q [(Value.int .i64 n2)] h4))) → X1 [(Value.int .i64 n2), (Value.int .i64 n3)] h4) →
X1 [(Value.int .i64 (0 : Int)), (Value.int .i64 (0 : Int))] h
def A_liveryref10_Leaves_at : Ann := (.mk none ⟨[], []⟩ .nil (.mk none ⟨[], []⟩ .nil (.mk none ⟨[], []⟩ (.mk none ⟨[], []⟩ .nil (.mk none ⟨[], []⟩ (.mk none ⟨[0, 1], [(5, (.c (.int .i64))), (6, (.c (.int .i64)))]⟩ (.mk none ⟨[], []⟩ .nil (.mk none ⟨[], []⟩ (.mk (some ⟨[0, 1, 6], [(5, (.c (.int .i64)))]⟩) ⟨[], []⟩ (.mk none ⟨[], []⟩ (.mk (some ⟨[0, 1, 5, 6], [(35, (.c .bool))]⟩) ⟨[], []⟩ .nil .nil) .nil) .nil) .nil)) .nil) .nil)) .nil)))
theorem E_liveryref10_Leaves_at (g0_x : Option Addr) (g1_k : ByteArray) (h : Hp) (Q : List Value → Hp → Prop) : cw PP 38 (fun _ => []) (bodyOf Tryz.f51) A_liveryref10_Leaves_at (finQ PP (Tryz.f51.results.toList) Q) (argFr [(Value.pointer g0_x), (Value.string g1_k)]) h = F_liveryref10_Leaves_at g0_x g1_k h Q := by kernel_rfl
theorem O_liveryref10_Leaves_at (g0_x : Option Addr) (g1_k : ByteArray) {h : Hp} {Q : List Value → Hp → Prop} (H : F_liveryref10_Leaves_at g0_x g1_k h Q) : S_liveryref10_Leaves_at g0_x g1_k h Q :=
  fn_of_cw (hs := (fun _ => [])) (ann := A_liveryref10_Leaves_at) (args := [(Value.pointer g0_x), (Value.string g1_k)]) mixedPP Tryz.func51 (c := bodyOf Tryz.f51) (by kernel_rfl) (by kernel_rfl) (by kernel_rfl) (Eq.mpr (E_liveryref10_Leaves_at g0_x g1_k h Q) H)
def F_liveryref10_Leaves_Has (g0_x : Option Addr) (g1_k : ByteArray) (h : Hp) (Q : List Value → Hp → Prop) : Prop :=
nilW g0_x fun a1 => ∃ l2 : Sl, rd h (Addr.add a1 0) = some (Value.slice l2.a l2.n l2.c) ∧
S_liveryref10_Leaves_at g0_x g1_k h fun (vs3 : List Value) (h4 : Hp) =>
∃ n5 : Int, vs3 = [(Value.int .i64 n5)] ∧
rd h4 (Addr.add a1 0) = some (Value.slice l2.a l2.n l2.c) ∧ nilW l2.a fun a6 => ixOk n5 l2.n (∃ l7 : Sl, rd h4 (Addr.add (Addr.add a6 (Int.toNat n5 * 4)) 3) = some (Value.slice l7.a l7.n l7.c) ∧
  ∀ X8 : List Value → Hp → Prop, (∀ n9 : Int, ∀ h10 : Hp, ((if (decide (n9 < (l7.n : Int))) = true then
        (nilW l7.a fun a11 => ixOk n9 l7.n (∃ s12 : ByteArray, rd h10 (Addr.add a11 (Int.toNat n9 * 1)) = some (Value.string s12) ∧
            (if ((ByteArray.toList s12) == (ByteArray.toList g1_k)) = true then
              (Q [(Value.bool true)] h10) else
              (X8 [(Value.int .i64 (IntKind.wrap .i64 (n9 + (1 : Int))))] h10)))) else
        (Q [(Value.bool false)] h10))) → X8 [(Value.int .i64 n9)] h10) →
  X8 [(Value.int .i64 (0 : Int))] h4)
def A_liveryref10_Leaves_Has : Ann := (.mk none ⟨[], []⟩ .nil (.mk none ⟨[], []⟩ .nil (.mk none ⟨[], []⟩ (.mk none ⟨[], []⟩ .nil (.mk none ⟨[], []⟩ (.mk none ⟨[1, 5], [(6, (.c (.int .i64)))]⟩ .nil .nil) .nil)) .nil)))
theorem E_liveryref10_Leaves_Has (g0_x : Option Addr) (g1_k : ByteArray) (h : Hp) (Q : List Value → Hp → Prop) : cw PP 29 (fun _ => []) (bodyOf Tryz.f40) A_liveryref10_Leaves_Has (finQ PP (Tryz.f40.results.toList) Q) (argFr [(Value.pointer g0_x), (Value.string g1_k)]) h = F_liveryref10_Leaves_Has g0_x g1_k h Q := by kernel_rfl
theorem O_liveryref10_Leaves_Has (g0_x : Option Addr) (g1_k : ByteArray) {h : Hp} {Q : List Value → Hp → Prop} (H : F_liveryref10_Leaves_Has g0_x g1_k h Q) : S_liveryref10_Leaves_Has g0_x g1_k h Q :=
  fn_of_cw (hs := (fun _ => [])) (ann := A_liveryref10_Leaves_Has) (args := [(Value.pointer g0_x), (Value.string g1_k)]) mixedPP Tryz.func40 (c := bodyOf Tryz.f40) (by kernel_rfl) (by kernel_rfl) (by kernel_rfl) (Eq.mpr (E_liveryref10_Leaves_Has g0_x g1_k h Q) H)
def F_liveryref10_Leaves_Insert (g0_x : Option Addr) (g1_k : ByteArray) (h : Hp) (Q : List Value → Hp → Prop) : Prop :=
wth (Array.push h (Obj.cells #[(Value.int .i64 (0 : Int)), (Value.int .i64 (0 : Int)), (Value.int .i64 (0 : Int)), (Value.int .i64 (0 : Int))] T_liveryref10_Did)) fun h1 =>
(if (decide ((ByteArray.size g1_k : Int) > (1024 : Int))) = true then
  (stOk h1 (Addr.mk (Array.size h) 0 none) 4 ∧ wth (wrs h1 (Addr.mk (Array.size h) 0 none) 0 [(Value.int .i64 (0 : Int)), (Value.int .i64 (0 : Int)), (Value.int .i64 (0 : Int)), (Value.int .i64 (2 : Int))]) fun h2 =>
    ∃ n3 : Int, rd h2 (Addr.add (Addr.mk (Array.size h) 0 none) 0) = some (Value.int .i64 n3) ∧ ∃ n4 : Int, rd h2 (Addr.add (Addr.mk (Array.size h) 0 none) 1) = some (Value.int .i64 n4) ∧ ∃ n5 : Int, rd h2 (Addr.add (Addr.mk (Array.size h) 0 none) 2) = some (Value.int .i64 n5) ∧ ∃ n6 : Int, rd h2 (Addr.add (Addr.mk (Array.size h) 0 none) 3) = some (Value.int .i64 n6) ∧ Q [(Value.agg #[(Value.int .i64 n3), (Value.int .i64 n4), (Value.int .i64 n5), (Value.int .i64 n6)])] h2) else
  (S_liveryref10_Leaves_Has g0_x g1_k h1 fun (vs7 : List Value) (h8 : Hp) =>
    ∃ b9 : Bool, vs7 = [(Value.bool b9)] ∧
    (if b9 = true then
      (stOk h8 (Addr.mk (Array.size h) 0 none) 4 ∧ wth (wrs h8 (Addr.mk (Array.size h) 0 none) 0 [(Value.int .i64 (0 : Int)), (Value.int .i64 (0 : Int)), (Value.int .i64 (0 : Int)), (Value.int .i64 (62 : Int))]) fun h10 =>
        ∃ n11 : Int, rd h10 (Addr.add (Addr.mk (Array.size h) 0 none) 0) = some (Value.int .i64 n11) ∧ ∃ n12 : Int, rd h10 (Addr.add (Addr.mk (Array.size h) 0 none) 1) = some (Value.int .i64 n12) ∧ ∃ n13 : Int, rd h10 (Addr.add (Addr.mk (Array.size h) 0 none) 2) = some (Value.int .i64 n13) ∧ ∃ n14 : Int, rd h10 (Addr.add (Addr.mk (Array.size h) 0 none) 3) = some (Value.int .i64 n14) ∧ Q [(Value.agg #[(Value.int .i64 n11), (Value.int .i64 n12), (Value.int .i64 n13), (Value.int .i64 n14)])] h10) else
      (S_liveryref10_Leaves_at g0_x g1_k h8 fun (vs15 : List Value) (h16 : Hp) =>
        ∃ n17 : Int, vs15 = [(Value.int .i64 n17)] ∧
        nilW g0_x fun a18 => ∃ l19 : Sl, rd h16 (Addr.add a18 0) = some (Value.slice l19.a l19.n l19.c) ∧
        nilW l19.a fun a20 => ixOk n17 l19.n (∃ l21 : Sl, rd h16 (Addr.add (Addr.add a20 (Int.toNat n17 * 4)) 3) = some (Value.slice l21.a l21.n l21.c) ∧
          ∀ X22 : List Value → Hp → Prop, (∀ n23 : Int, ∀ h24 : Hp, (∀ J25 : List Value → Hp → Prop, (∀ b26 : Bool, ∀ h27 : Hp, ((if b26 = true then
                    (X22 [(Value.int .i64 (IntKind.wrap .i64 (n23 + (1 : Int))))] h27) else
                    (∀ J28 : List Value → Hp → Prop, (∀ l29 : Sl, ∀ h30 : Hp, (nilW g0_x fun a31 => ∃ l32 : Sl, rd h30 (Addr.add a31 0) = some (Value.slice l32.a l32.n l32.c) ∧
                          nilW l32.a fun a33 => ixOk n17 l32.n (∃ n34 : Int, rd h30 (Addr.add (Addr.add a33 (Int.toNat n17 * 4)) 0) = some (Value.int .i64 n34) ∧
                            wth (Array.push h30 (Obj.cells #[(Value.int .i64 (0 : Int)), (Value.int .i64 (0 : Int)), (Value.int .i64 (0 : Int)), (Value.int .i64 (0 : Int))] T_liveryref10_Did)) fun h35 =>
                            stOk h35 (Addr.mk (Array.size h30) 0 none) 4 ∧ wth (wrs h35 (Addr.mk (Array.size h30) 0 none) 0 [(Value.int .i64 n34), (Value.int .i64 (0 : Int)), (Value.int .i64 (0 : Int)), (Value.int .i64 (0 : Int))]) fun h36 =>
                            nilW g0_x fun a37 => ∃ n38 : Int, rd h36 (Addr.add a37 1) = some (Value.int .i64 n38) ∧
                            (if (decide ((l29.n : Int) ≤ n38)) = true then
                              (nilW g0_x fun a39 => ∃ l40 : Sl, rd h36 (Addr.add a39 0) = some (Value.slice l40.a l40.n l40.c) ∧
                                nilW l40.a fun a41 => ixOk n17 l40.n (stOk h36 (Addr.add (Addr.add a41 (Int.toNat n17 * 4)) 3) 1 ∧ wth (wrs h36 (Addr.add (Addr.add a41 (Int.toNat n17 * 4)) 3) 0 [(Value.slice l29.a l29.n l29.c)]) fun h42 =>
                                  ∃ n43 : Int, rd h42 (Addr.add (Addr.mk (Array.size h30) 0 none) 0) = some (Value.int .i64 n43) ∧ ∃ n44 : Int, rd h42 (Addr.add (Addr.mk (Array.size h30) 0 none) 1) = some (Value.int .i64 n44) ∧ ∃ n45 : Int, rd h42 (Addr.add (Addr.mk (Array.size h30) 0 none) 2) = some (Value.int .i64 n45) ∧ ∃ n46 : Int, rd h42 (Addr.add (Addr.mk (Array.size h30) 0 none) 3) = some (Value.int .i64 n46) ∧ stOk h42 (Addr.mk (Array.size h) 0 none) 4 ∧ wth (wrs h42 (Addr.mk (Array.size h) 0 none) 0 [(Value.int .i64 n43), (Value.int .i64 n44), (Value.int .i64 n45), (Value.int .i64 n46)]) fun h47 =>
                                  ∃ n48 : Int, rd h47 (Addr.add (Addr.mk (Array.size h) 0 none) 0) = some (Value.int .i64 n48) ∧ ∃ n49 : Int, rd h47 (Addr.add (Addr.mk (Array.size h) 0 none) 1) = some (Value.int .i64 n49) ∧ ∃ n50 : Int, rd h47 (Addr.add (Addr.mk (Array.size h) 0 none) 2) = some (Value.int .i64 n50) ∧ ∃ n51 : Int, rd h47 (Addr.add (Addr.mk (Array.size h) 0 none) 3) = some (Value.int .i64 n51) ∧ Q [(Value.agg #[(Value.int .i64 n48), (Value.int .i64 n49), (Value.int .i64 n50), (Value.int .i64 n51)])] h47)) else
                              (divOk (2 : Int) (∀ J52 : List Value → Hp → Prop, (∀ a53 : Addr, ∀ h54 : Hp, (nilW g0_x fun a55 => ∃ n56 : Int, rd h54 (Addr.add a55 2) = some (Value.int .i64 n56) ∧
                                      nilW g0_x fun a57 => stOk h54 (Addr.add a57 2) 1 ∧ wth (wrs h54 (Addr.add a57 2) 0 [(Value.int .i64 (IntKind.wrap .i64 (n56 + (1 : Int))))]) fun h58 =>
                                      ∃ n59 : Int, rd h58 (Addr.add (Addr.mk (Array.size h30) 0 none) 0) = some (Value.int .i64 n59) ∧
                                      ∃ n60 : Int, rd h58 (Addr.add a53 0) = some (Value.int .i64 n60) ∧
                                      stOk h58 (Addr.add (Addr.mk (Array.size h30) 0 none) 1) 1 ∧ wth (wrs h58 (Addr.add (Addr.mk (Array.size h30) 0 none) 1) 0 [(Value.int .i64 n59)]) fun h61 =>
                                      rd h61 (Addr.add a53 0) = some (Value.int .i64 n60) ∧ stOk h61 (Addr.add (Addr.mk (Array.size h30) 0 none) 2) 1 ∧ wth (wrs h61 (Addr.add (Addr.mk (Array.size h30) 0 none) 2) 0 [(Value.int .i64 n60)]) fun h62 =>
                                      ∀ J63 : List Value → Hp → Prop, (∀ h64 : Hp, (∀ X65 : List Value → Hp → Prop, (∀ l66 : Sl, ∀ n67 : Int, ∀ h68 : Hp, (nilW g0_x fun a69 => ∃ l70 : Sl, rd h68 (Addr.add a69 0) = some (Value.slice l70.a l70.n l70.c) ∧
                                              (if (decide (n67 < (l70.n : Int))) = true then
                                                (∀ J71 : List Value → Hp → Prop, (∀ l72 : Sl, ∀ h73 : Hp, (X65 [(Value.slice l72.a l72.n l72.c), (Value.int .i64 (IntKind.wrap .i64 (n67 + (1 : Int))))] h73) → J71 [(Value.slice l72.a l72.n l72.c)] h73) →
                                                  nilW g0_x fun a74 => ∃ l75 : Sl, rd h68 (Addr.add a74 0) = some (Value.slice l75.a l75.n l75.c) ∧
                                                  nilW l75.a fun a76 => ixOk n67 l75.n (∃ n77 : Int, rd h68 (Addr.add (Addr.add a76 (Int.toNat n67 * 4)) 0) = some (Value.int .i64 n77) ∧ ∃ b78 : Bool, rd h68 (Addr.add (Addr.add a76 (Int.toNat n67 * 4)) 1) = some (Value.bool b78) ∧ ∃ s79 : ByteArray, rd h68 (Addr.add (Addr.add a76 (Int.toNat n67 * 4)) 2) = some (Value.string s79) ∧ ∃ l80 : Sl, rd h68 (Addr.add (Addr.add a76 (Int.toNat n67 * 4)) 3) = some (Value.slice l80.a l80.n l80.c) ∧ wth (Array.push h68 (Obj.cells #[(Value.int .i64 (0 : Int)), (Value.bool false), (Value.string (ByteArray.mk #[])), (Value.slice none 0 0)] T_liveryref10_Leaf)) fun h81 =>
                                                    stOk h81 (Addr.mk (Array.size h68) 0 none) 4 ∧ wth (wrs h81 (Addr.mk (Array.size h68) 0 none) 0 [(Value.int .i64 n77), (Value.bool b78), (Value.string s79), (Value.slice l80.a l80.n l80.c)]) fun h82 =>
                                                    ∀ J83 : List Value → Hp → Prop, (∀ h84 : Hp, (∃ n85 : Int, rd h84 (Addr.add (Addr.mk (Array.size h68) 0 none) 0) = some (Value.int .i64 n85) ∧ ∃ b86 : Bool, rd h84 (Addr.add (Addr.mk (Array.size h68) 0 none) 1) = some (Value.bool b86) ∧ ∃ s87 : ByteArray, rd h84 (Addr.add (Addr.mk (Array.size h68) 0 none) 2) = some (Value.string s87) ∧ ∃ l88 : Sl, rd h84 (Addr.add (Addr.mk (Array.size h68) 0 none) 3) = some (Value.slice l88.a l88.n l88.c) ∧ wth (Array.push h84 (Obj.cells #[(Value.int .i64 n85), (Value.bool b86), (Value.string s87), (Value.slice l88.a l88.n l88.c)] T_liveryref10_Leaf)) fun h89 =>
                                                        ∃ cs100 : List Value, cellsAt h89 (some (Addr.mk (Array.size h84) 0 none)) (1 * 4) cs100 ∧ appS PP T_liveryref10_Leaf 56 4 h89 ⟨l66.a, l66.n, l66.c⟩ 1 cs100 fun (l90 : Sl) (h91 : Hp) =>
                                                        (if (n67 == n17) = true then
                                                          (∃ n92 : Int, rd h91 (Addr.add a53 0) = some (Value.int .i64 n92) ∧ ∃ b93 : Bool, rd h91 (Addr.add a53 1) = some (Value.bool b93) ∧ ∃ s94 : ByteArray, rd h91 (Addr.add a53 2) = some (Value.string s94) ∧ ∃ l95 : Sl, rd h91 (Addr.add a53 3) = some (Value.slice l95.a l95.n l95.c) ∧ wth (Array.push h91 (Obj.cells #[(Value.int .i64 n92), (Value.bool b93), (Value.string s94), (Value.slice l95.a l95.n l95.c)] T_liveryref10_Leaf)) fun h96 =>
                                                            ∃ cs99 : List Value, cellsAt h96 (some (Addr.mk (Array.size h91) 0 none)) (1 * 4) cs99 ∧ appS PP T_liveryref10_Leaf 56 4 h96 ⟨l90.a, l90.n, l90.c⟩ 1 cs99 fun (l97 : Sl) (h98 : Hp) =>
                                                            J71 [(Value.slice l97.a l97.n l97.c)] h98) else
                                                          (J71 [(Value.slice l90.a l90.n l90.c)] h91))) → J83 [] h84) →
                                                    (if (n67 == n17) = true then
                                                      (wth (Array.push h82 (Obj.cells #[] T_string)) fun h101 =>
                                                        (0 ≤ (IntKind.wrap .i64 (Int.tdiv (IntKind.wrap .i64 ((l29.n : Int) + (1 : Int))) (2 : Int))) ∧ (IntKind.wrap .i64 (Int.tdiv (IntKind.wrap .i64 ((l29.n : Int) + (1 : Int))) (2 : Int))) ≤ (l29.c : Nat)) ∧ ∃ cs105 : List Value, cellsAt h101 (slAd l29.a 0 l29.c 1) (((Int.toNat (IntKind.wrap .i64 (Int.tdiv (IntKind.wrap .i64 ((l29.n : Int) + (1 : Int))) (2 : Int)))) - 0) * 1) cs105 ∧ appS PP T_string 16 1 h101 ⟨(some (Addr.mk (Array.size h82) 0 none)), 0, 0⟩ ((Int.toNat (IntKind.wrap .i64 (Int.tdiv (IntKind.wrap .i64 ((l29.n : Int) + (1 : Int))) (2 : Int)))) - 0) cs105 fun (l102 : Sl) (h103 : Hp) =>
                                                        stOk h103 (Addr.add (Addr.mk (Array.size h68) 0 none) 3) 1 ∧ wth (wrs h103 (Addr.add (Addr.mk (Array.size h68) 0 none) 3) 0 [(Value.slice l102.a l102.n l102.c)]) fun h104 =>
                                                        J83 [] h104) else
                                                      (J83 [] h82)))) else
                                                (nilW g0_x fun a106 => stOk h68 (Addr.add a106 0) 1 ∧ wth (wrs h68 (Addr.add a106 0) 0 [(Value.slice l66.a l66.n l66.c)]) fun h107 =>
                                                  ∃ n108 : Int, rd h107 (Addr.add (Addr.mk (Array.size h30) 0 none) 0) = some (Value.int .i64 n108) ∧ ∃ n109 : Int, rd h107 (Addr.add (Addr.mk (Array.size h30) 0 none) 1) = some (Value.int .i64 n109) ∧ ∃ n110 : Int, rd h107 (Addr.add (Addr.mk (Array.size h30) 0 none) 2) = some (Value.int .i64 n110) ∧ ∃ n111 : Int, rd h107 (Addr.add (Addr.mk (Array.size h30) 0 none) 3) = some (Value.int .i64 n111) ∧ stOk h107 (Addr.mk (Array.size h) 0 none) 4 ∧ wth (wrs h107 (Addr.mk (Array.size h) 0 none) 0 [(Value.int .i64 n108), (Value.int .i64 n109), (Value.int .i64 n110), (Value.int .i64 n111)]) fun h112 =>
                                                  ∃ n113 : Int, rd h112 (Addr.add (Addr.mk (Array.size h) 0 none) 0) = some (Value.int .i64 n113) ∧ ∃ n114 : Int, rd h112 (Addr.add (Addr.mk (Array.size h) 0 none) 1) = some (Value.int .i64 n114) ∧ ∃ n115 : Int, rd h112 (Addr.add (Addr.mk (Array.size h) 0 none) 2) = some (Value.int .i64 n115) ∧ ∃ n116 : Int, rd h112 (Addr.add (Addr.mk (Array.size h) 0 none) 3) = some (Value.int .i64 n116) ∧ Q [(Value.agg #[(Value.int .i64 n113), (Value.int .i64 n114), (Value.int .i64 n115), (Value.int .i64 n116)])] h112))) → X65 [(Value.slice l66.a l66.n l66.c), (Value.int .i64 n67)] h68) →
                                          X65 [(Value.slice none 0 0), (Value.int .i64 (0 : Int))] h64) → J63 [] h64) →
                                      (if (decide (n23 ≥ (IntKind.wrap .i64 (Int.tdiv (IntKind.wrap .i64 ((l29.n : Int) + (1 : Int))) (2 : Int))))) = true then
                                        (∃ n117 : Int, rd h62 (Addr.add a53 0) = some (Value.int .i64 n117) ∧
                                          stOk h62 (Addr.add (Addr.mk (Array.size h30) 0 none) 0) 1 ∧ wth (wrs h62 (Addr.add (Addr.mk (Array.size h30) 0 none) 0) 0 [(Value.int .i64 n117)]) fun h118 =>
                                          J63 [] h118) else
                                        (J63 [] h62))) → J52 [(Value.pointer (some a53))] h54) →
                                  nilW g0_x fun a119 => ∃ n120 : Int, rd h36 (Addr.add a119 2) = some (Value.int .i64 n120) ∧
                                  nilW l29.a fun a121 => ixOk (IntKind.wrap .i64 (Int.tdiv (IntKind.wrap .i64 ((l29.n : Int) + (1 : Int))) (2 : Int))) l29.n (∃ s122 : ByteArray, rd h36 (Addr.add a121 (Int.toNat (IntKind.wrap .i64 (Int.tdiv (IntKind.wrap .i64 ((l29.n : Int) + (1 : Int))) (2 : Int))) * 1)) = some (Value.string s122) ∧
                                    (0 ≤ (IntKind.wrap .i64 (Int.tdiv (IntKind.wrap .i64 ((l29.n : Int) + (1 : Int))) (2 : Int))) ∧ (IntKind.wrap .i64 (Int.tdiv (IntKind.wrap .i64 ((l29.n : Int) + (1 : Int))) (2 : Int))) ≤ (l29.n : Nat)) ∧ (wth (Array.push h36 (Obj.cells #[] T_string)) fun h123 =>
                                      rd h123 (Addr.add a121 (Int.toNat (IntKind.wrap .i64 (Int.tdiv (IntKind.wrap .i64 ((l29.n : Int) + (1 : Int))) (2 : Int))) * 1)) = some (Value.string s122) ∧ rd h123 (Addr.add a119 2) = some (Value.int .i64 n120) ∧ (∃ cs128 : List Value, cellsAt h123 (slAd l29.a (Int.toNat (IntKind.wrap .i64 (Int.tdiv (IntKind.wrap .i64 ((l29.n : Int) + (1 : Int))) (2 : Int)))) l29.c 1) ((l29.n - (Int.toNat (IntKind.wrap .i64 (Int.tdiv (IntKind.wrap .i64 ((l29.n : Int) + (1 : Int))) (2 : Int))))) * 1) cs128 ∧ appS PP T_string 16 1 h123 ⟨(some (Addr.mk (Array.size h36) 0 none)), 0, 0⟩ (l29.n - (Int.toNat (IntKind.wrap .i64 (Int.tdiv (IntKind.wrap .i64 ((l29.n : Int) + (1 : Int))) (2 : Int))))) cs128 fun (l124 : Sl) (h125 : Hp) =>
                                        rd h125 (Addr.add a121 (Int.toNat (IntKind.wrap .i64 (Int.tdiv (IntKind.wrap .i64 ((l29.n : Int) + (1 : Int))) (2 : Int))) * 1)) = some (Value.string s122) ∧ rd h125 (Addr.add a119 2) = some (Value.int .i64 n120) ∧ wth (Array.push h125 (Obj.cells #[(Value.int .i64 (0 : Int)), (Value.bool false), (Value.string (ByteArray.mk #[])), (Value.slice none 0 0)] T_liveryref10_Leaf)) fun h126 =>
                                        rd h126 (Addr.add a121 (Int.toNat (IntKind.wrap .i64 (Int.tdiv (IntKind.wrap .i64 ((l29.n : Int) + (1 : Int))) (2 : Int))) * 1)) = some (Value.string s122) ∧ rd h126 (Addr.add a119 2) = some (Value.int .i64 n120) ∧ stOk h126 (Addr.mk (Array.size h125) 0 none) 4 ∧ wth (wrs h126 (Addr.mk (Array.size h125) 0 none) 0 [(Value.int .i64 n120), (Value.bool false), (Value.string s122), (Value.slice l124.a l124.n l124.c)]) fun h127 =>
                                        J52 [(Value.pointer (some (Addr.mk (Array.size h125) 0 none)))] h127) ∧
                                      (wth (Array.push h123 (Obj.cells #[(Value.int .i64 (0 : Int)), (Value.bool false), (Value.string (ByteArray.mk #[])), (Value.slice none 0 0)] T_liveryref10_Leaf)) fun h129 =>
                                        rd h129 (Addr.add a121 (Int.toNat (IntKind.wrap .i64 (Int.tdiv (IntKind.wrap .i64 ((l29.n : Int) + (1 : Int))) (2 : Int))) * 1)) = some (Value.string s122) ∧ rd h129 (Addr.add a119 2) = some (Value.int .i64 n120) ∧ ∃ cs133 : List Value, cellsAt h129 (slAd l29.a (Int.toNat (IntKind.wrap .i64 (Int.tdiv (IntKind.wrap .i64 ((l29.n : Int) + (1 : Int))) (2 : Int)))) l29.c 1) ((l29.n - (Int.toNat (IntKind.wrap .i64 (Int.tdiv (IntKind.wrap .i64 ((l29.n : Int) + (1 : Int))) (2 : Int))))) * 1) cs133 ∧ appS PP T_string 16 1 h129 ⟨(some (Addr.mk (Array.size h36) 0 none)), 0, 0⟩ (l29.n - (Int.toNat (IntKind.wrap .i64 (Int.tdiv (IntKind.wrap .i64 ((l29.n : Int) + (1 : Int))) (2 : Int))))) cs133 fun (l130 : Sl) (h131 : Hp) =>
                                        rd h131 (Addr.add a121 (Int.toNat (IntKind.wrap .i64 (Int.tdiv (IntKind.wrap .i64 ((l29.n : Int) + (1 : Int))) (2 : Int))) * 1)) = some (Value.string s122) ∧ rd h131 (Addr.add a119 2) = some (Value.int .i64 n120) ∧ stOk h131 (Addr.mk (Array.size h123) 0 none) 4 ∧ wth (wrs h131 (Addr.mk (Array.size h123) 0 none) 0 [(Value.int .i64 n120), (Value.bool false), (Value.string s122), (Value.slice l130.a l130.n l130.c)]) fun h132 =>
                                        J52 [(Value.pointer (some (Addr.mk (Array.size h123) 0 none)))] h132)) ∧
                                    (wth (Array.push h36 (Obj.cells #[(Value.int .i64 (0 : Int)), (Value.bool false), (Value.string (ByteArray.mk #[])), (Value.slice none 0 0)] T_liveryref10_Leaf)) fun h134 =>
                                      rd h134 (Addr.add a121 (Int.toNat (IntKind.wrap .i64 (Int.tdiv (IntKind.wrap .i64 ((l29.n : Int) + (1 : Int))) (2 : Int))) * 1)) = some (Value.string s122) ∧ rd h134 (Addr.add a119 2) = some (Value.int .i64 n120) ∧ wth (Array.push h134 (Obj.cells #[] T_string)) fun h135 =>
                                      rd h135 (Addr.add a121 (Int.toNat (IntKind.wrap .i64 (Int.tdiv (IntKind.wrap .i64 ((l29.n : Int) + (1 : Int))) (2 : Int))) * 1)) = some (Value.string s122) ∧ rd h135 (Addr.add a119 2) = some (Value.int .i64 n120) ∧ ∃ cs139 : List Value, cellsAt h135 (slAd l29.a (Int.toNat (IntKind.wrap .i64 (Int.tdiv (IntKind.wrap .i64 ((l29.n : Int) + (1 : Int))) (2 : Int)))) l29.c 1) ((l29.n - (Int.toNat (IntKind.wrap .i64 (Int.tdiv (IntKind.wrap .i64 ((l29.n : Int) + (1 : Int))) (2 : Int))))) * 1) cs139 ∧ appS PP T_string 16 1 h135 ⟨(some (Addr.mk (Array.size h134) 0 none)), 0, 0⟩ (l29.n - (Int.toNat (IntKind.wrap .i64 (Int.tdiv (IntKind.wrap .i64 ((l29.n : Int) + (1 : Int))) (2 : Int))))) cs139 fun (l136 : Sl) (h137 : Hp) =>
                                      rd h137 (Addr.add a121 (Int.toNat (IntKind.wrap .i64 (Int.tdiv (IntKind.wrap .i64 ((l29.n : Int) + (1 : Int))) (2 : Int))) * 1)) = some (Value.string s122) ∧ rd h137 (Addr.add a119 2) = some (Value.int .i64 n120) ∧ stOk h137 (Addr.mk (Array.size h36) 0 none) 4 ∧ wth (wrs h137 (Addr.mk (Array.size h36) 0 none) 0 [(Value.int .i64 n120), (Value.bool false), (Value.string s122), (Value.slice l136.a l136.n l136.c)]) fun h138 =>
                                      J52 [(Value.pointer (some (Addr.mk (Array.size h36) 0 none)))] h138))))))) → J28 [(Value.slice l29.a l29.n l29.c)] h30) →
                      (0 ≤ n23 ∧ n23 ≤ (l21.c : Nat)) ∧ (0 ≤ n23 ∧ n23 ≤ (l21.n : Nat)) ∧ (wth (Array.push h27 (Obj.cells #[] T_string)) fun h140 =>
                        (∃ cs150 : List Value, cellsAt h140 (slAd l21.a 0 l21.c 1) (((Int.toNat n23) - 0) * 1) cs150 ∧ appS PP T_string 16 1 h140 ⟨(some (Addr.mk (Array.size h27) 0 none)), 0, 0⟩ ((Int.toNat n23) - 0) cs150 fun (l141 : Sl) (h142 : Hp) =>
                          wth (Array.push h142 (Obj.cells #[(Value.string g1_k)] T_string)) fun h143 =>
                          ∃ cs149 : List Value, cellsAt h143 (some (Addr.mk (Array.size h142) 0 none)) (1 * 1) cs149 ∧ appS PP T_string 16 1 h143 ⟨l141.a, l141.n, l141.c⟩ 1 cs149 fun (l144 : Sl) (h145 : Hp) =>
                          ∃ cs148 : List Value, cellsAt h145 (slAd l21.a (Int.toNat n23) l21.c 1) ((l21.n - (Int.toNat n23)) * 1) cs148 ∧ appS PP T_string 16 1 h145 ⟨l144.a, l144.n, l144.c⟩ (l21.n - (Int.toNat n23)) cs148 fun (l146 : Sl) (h147 : Hp) =>
                          J28 [(Value.slice l146.a l146.n l146.c)] h147) ∧
                        (wth (Array.push h140 (Obj.cells #[(Value.string g1_k)] T_string)) fun h151 =>
                          ∃ cs160 : List Value, cellsAt h151 (slAd l21.a 0 l21.c 1) (((Int.toNat n23) - 0) * 1) cs160 ∧ appS PP T_string 16 1 h151 ⟨(some (Addr.mk (Array.size h27) 0 none)), 0, 0⟩ ((Int.toNat n23) - 0) cs160 fun (l152 : Sl) (h153 : Hp) =>
                          ∃ cs159 : List Value, cellsAt h153 (some (Addr.mk (Array.size h140) 0 none)) (1 * 1) cs159 ∧ appS PP T_string 16 1 h153 ⟨l152.a, l152.n, l152.c⟩ 1 cs159 fun (l154 : Sl) (h155 : Hp) =>
                          ∃ cs158 : List Value, cellsAt h155 (slAd l21.a (Int.toNat n23) l21.c 1) ((l21.n - (Int.toNat n23)) * 1) cs158 ∧ appS PP T_string 16 1 h155 ⟨l154.a, l154.n, l154.c⟩ (l21.n - (Int.toNat n23)) cs158 fun (l156 : Sl) (h157 : Hp) =>
                          J28 [(Value.slice l156.a l156.n l156.c)] h157)) ∧
                      (wth (Array.push h27 (Obj.cells #[(Value.string g1_k)] T_string)) fun h161 =>
                        wth (Array.push h161 (Obj.cells #[] T_string)) fun h162 =>
                        ∃ cs171 : List Value, cellsAt h162 (slAd l21.a 0 l21.c 1) (((Int.toNat n23) - 0) * 1) cs171 ∧ appS PP T_string 16 1 h162 ⟨(some (Addr.mk (Array.size h161) 0 none)), 0, 0⟩ ((Int.toNat n23) - 0) cs171 fun (l163 : Sl) (h164 : Hp) =>
                        ∃ cs170 : List Value, cellsAt h164 (some (Addr.mk (Array.size h27) 0 none)) (1 * 1) cs170 ∧ appS PP T_string 16 1 h164 ⟨l163.a, l163.n, l163.c⟩ 1 cs170 fun (l165 : Sl) (h166 : Hp) =>
                        ∃ cs169 : List Value, cellsAt h166 (slAd l21.a (Int.toNat n23) l21.c 1) ((l21.n - (Int.toNat n23)) * 1) cs169 ∧ appS PP T_string 16 1 h166 ⟨l165.a, l165.n, l165.c⟩ (l21.n - (Int.toNat n23)) cs169 fun (l167 : Sl) (h168 : Hp) =>
                        J28 [(Value.slice l167.a l167.n l167.c)] h168)))) → J25 [(Value.bool b26)] h27) →
              (if (decide (n23 < (l21.n : Int))) = true then (nilW l21.a fun a172 => ixOk n23 l21.n (∃ s173 : ByteArray, rd h24 (Addr.add a172 (Int.toNat n23 * 1)) = some (Value.string s173) ∧
                    J25 [(Value.bool (Op.bytesLess (ByteArray.toList s173) (ByteArray.toList g1_k)))] h24)) else
                (J25 [(Value.bool false)] h24))) → X22 [(Value.int .i64 n23)] h24) →
          X22 [(Value.int .i64 (0 : Int))] h16)))))
def A_liveryref10_Leaves_Insert : Ann := (.mk none ⟨[], []⟩ .nil (.mk none ⟨[], []⟩ .nil (.mk none ⟨[], []⟩ .nil (.mk none ⟨[], []⟩ .nil (.mk none ⟨[], []⟩ .nil (.mk none ⟨[], []⟩ .nil (.mk none ⟨[], []⟩ (.mk none ⟨[], []⟩ (.mk none ⟨[0, 1, 4, 5, 6], [(7, (.c (.int .i64)))]⟩ (.mk none ⟨[], []⟩ (.mk none ⟨[], []⟩ (.mk (some ⟨[0, 1, 4, 5, 6, 7], [(44, (.c .bool))]⟩) ⟨[], []⟩ .nil .nil) .nil) .nil) .nil) .nil) (.mk none ⟨[], []⟩ (.mk (some ⟨[0, 4, 5, 7], [(6, (.c .sl))]⟩) ⟨[], []⟩ .nil .nil) (.mk none ⟨[], []⟩ .nil (.mk none ⟨[], []⟩ .nil (.mk none ⟨[], []⟩ .nil (.mk none ⟨[], []⟩ (.mk (some ⟨[0, 4, 5, 6, 7, 8, 9], [(10, (.c .adr))]⟩) ⟨[], []⟩ .nil .nil) (.mk none ⟨[], []⟩ .nil (.mk none ⟨[], []⟩ .nil (.mk none ⟨[], []⟩ (.mk none ⟨[], []⟩ .nil (.mk (some ⟨[0, 4, 5, 6, 8, 9, 10], []⟩) ⟨[], []⟩ .nil .nil)) (.mk none ⟨[], []⟩ .nil (.mk none ⟨[], []⟩ (.mk none ⟨[], []⟩ .nil (.mk none ⟨[], []⟩ (.mk none ⟨[0, 4, 5, 6, 8, 9, 10], [(11, (.c .sl)), (12, (.c (.int .i64)))]⟩ (.mk none ⟨[], []⟩ .nil (.mk none ⟨[], []⟩ (.mk (some ⟨[0, 4, 5, 6, 8, 9, 10, 12], [(11, (.c .sl))]⟩) ⟨[], []⟩ (.mk none ⟨[], []⟩ .nil (.mk none ⟨[], []⟩ (.mk none ⟨[], []⟩ .nil (.mk (some ⟨[0, 4, 5, 6, 8, 9, 10, 11, 12, 13], []⟩) ⟨[], []⟩ .nil .nil)) .nil)) .nil) .nil)) .nil) .nil)) .nil)))))))))))))))))
theorem E_liveryref10_Leaves_Insert (g0_x : Option Addr) (g1_k : ByteArray) (h : Hp) (Q : List Value → Hp → Prop) : cw PP 162 (fun _ => []) (bodyOf Tryz.f29) A_liveryref10_Leaves_Insert (finQ PP (Tryz.f29.results.toList) Q) (argFr [(Value.pointer g0_x), (Value.string g1_k)]) h = F_liveryref10_Leaves_Insert g0_x g1_k h Q := by kernel_rfl
theorem O_liveryref10_Leaves_Insert (g0_x : Option Addr) (g1_k : ByteArray) {h : Hp} {Q : List Value → Hp → Prop} (H : F_liveryref10_Leaves_Insert g0_x g1_k h Q) : S_liveryref10_Leaves_Insert g0_x g1_k h Q :=
  fn_of_cw (hs := (fun _ => [])) (ann := A_liveryref10_Leaves_Insert) (args := [(Value.pointer g0_x), (Value.string g1_k)]) mixedPP Tryz.func29 (c := bodyOf Tryz.f29) (by kernel_rfl) (by kernel_rfl) (by kernel_rfl) (Eq.mpr (E_liveryref10_Leaves_Insert g0_x g1_k h Q) H)
def F_liveryref11_Index_Add (g0_x : Option Addr) (g1_v_0 : Int) (g1_v_1 : Int) (g1_v_2 : Nat) (g1_v_3 : ByteArray) (g2_tid : Int) (h : Hp) (Q : List Value → Hp → Prop) : Prop :=
wth (Array.push h (Obj.cells #[(Value.int .i64 g1_v_0), (Value.int .i64 g1_v_1), (Value.float .f64 g1_v_2), (Value.string g1_v_3)] T_api_Value)) fun h1 =>
wth (Array.push h1 (Obj.cells #[(Value.int .i64 (0 : Int)), (Value.int .i64 (0 : Int)), (Value.int .i64 (0 : Int)), (Value.int .i64 (0 : Int))] T_liveryref10_Did)) fun h2 =>
∃ n3 : Int, rd h2 (Addr.add (Addr.mk (Array.size h) 0 none) 0) = some (Value.int .i64 n3) ∧ ∃ n4 : Int, rd h2 (Addr.add (Addr.mk (Array.size h) 0 none) 1) = some (Value.int .i64 n4) ∧ ∃ x5 : Nat, rd h2 (Addr.add (Addr.mk (Array.size h) 0 none) 2) = some (Value.float .f64 x5) ∧ ∃ s6 : ByteArray, rd h2 (Addr.add (Addr.mk (Array.size h) 0 none) 3) = some (Value.string s6) ∧ S_liveryref03_Entry n3 n4 x5 s6 g2_tid h2 fun (vs7 : List Value) (h8 : Hp) =>
∃ s9 : ByteArray, ∃ n10 : Int, vs7 = [(Value.string s9), (Value.int .i64 n10)] ∧
(if (n10 != (0 : Int)) = true then
  (stOk h8 (Addr.mk (Array.size h1) 0 none) 4 ∧ wth (wrs h8 (Addr.mk (Array.size h1) 0 none) 0 [(Value.int .i64 (0 : Int)), (Value.int .i64 (0 : Int)), (Value.int .i64 (0 : Int)), (Value.int .i64 n10)]) fun h11 =>
    ∃ n12 : Int, rd h11 (Addr.add (Addr.mk (Array.size h1) 0 none) 0) = some (Value.int .i64 n12) ∧ ∃ n13 : Int, rd h11 (Addr.add (Addr.mk (Array.size h1) 0 none) 1) = some (Value.int .i64 n13) ∧ ∃ n14 : Int, rd h11 (Addr.add (Addr.mk (Array.size h1) 0 none) 2) = some (Value.int .i64 n14) ∧ ∃ n15 : Int, rd h11 (Addr.add (Addr.mk (Array.size h1) 0 none) 3) = some (Value.int .i64 n15) ∧ Q [(Value.agg #[(Value.int .i64 n12), (Value.int .i64 n13), (Value.int .i64 n14), (Value.int .i64 n15)])] h11) else
  (nilW g0_x fun a16 => ∃ p17 : Option Addr, rd h8 (Addr.add a16 0) = some (Value.pointer p17) ∧
    S_liveryref10_Leaves_Insert p17 s9 h8 fun (vs18 : List Value) (h19 : Hp) =>
    ∃ n20 : Int, ∃ n21 : Int, ∃ n22 : Int, ∃ n23 : Int, vs18 = [(Value.agg #[(Value.int .i64 n20), (Value.int .i64 n21), (Value.int .i64 n22), (Value.int .i64 n23)])] ∧
    stOk h19 (Addr.mk (Array.size h1) 0 none) 4 ∧ wth (wrs h19 (Addr.mk (Array.size h1) 0 none) 0 [(Value.int .i64 n20), (Value.int .i64 n21), (Value.int .i64 n22), (Value.int .i64 n23)]) fun h24 =>
    ∃ n25 : Int, rd h24 (Addr.add (Addr.mk (Array.size h1) 0 none) 0) = some (Value.int .i64 n25) ∧ ∃ n26 : Int, rd h24 (Addr.add (Addr.mk (Array.size h1) 0 none) 1) = some (Value.int .i64 n26) ∧ ∃ n27 : Int, rd h24 (Addr.add (Addr.mk (Array.size h1) 0 none) 2) = some (Value.int .i64 n27) ∧ ∃ n28 : Int, rd h24 (Addr.add (Addr.mk (Array.size h1) 0 none) 3) = some (Value.int .i64 n28) ∧ Q [(Value.agg #[(Value.int .i64 n25), (Value.int .i64 n26), (Value.int .i64 n27), (Value.int .i64 n28)])] h24))
def A_liveryref11_Index_Add : Ann := .nil
theorem E_liveryref11_Index_Add (g0_x : Option Addr) (g1_v_0 : Int) (g1_v_1 : Int) (g1_v_2 : Nat) (g1_v_3 : ByteArray) (g2_tid : Int) (h : Hp) (Q : List Value → Hp → Prop) : cw PP 25 (fun _ => []) (bodyOf Tryz.f9) A_liveryref11_Index_Add (finQ PP (Tryz.f9.results.toList) Q) (argFr [(Value.pointer g0_x), (Value.agg #[(Value.int .i64 g1_v_0), (Value.int .i64 g1_v_1), (Value.float .f64 g1_v_2), (Value.string g1_v_3)]), (Value.int .i64 g2_tid)]) h = F_liveryref11_Index_Add g0_x g1_v_0 g1_v_1 g1_v_2 g1_v_3 g2_tid h Q := by kernel_rfl
theorem O_liveryref11_Index_Add (g0_x : Option Addr) (g1_v_0 : Int) (g1_v_1 : Int) (g1_v_2 : Nat) (g1_v_3 : ByteArray) (g2_tid : Int) {h : Hp} {Q : List Value → Hp → Prop} (H : F_liveryref11_Index_Add g0_x g1_v_0 g1_v_1 g1_v_2 g1_v_3 g2_tid h Q) : S_liveryref11_Index_Add g0_x g1_v_0 g1_v_1 g1_v_2 g1_v_3 g2_tid h Q :=
  fn_of_cw (hs := (fun _ => [])) (ann := A_liveryref11_Index_Add) (args := [(Value.pointer g0_x), (Value.agg #[(Value.int .i64 g1_v_0), (Value.int .i64 g1_v_1), (Value.float .f64 g1_v_2), (Value.string g1_v_3)]), (Value.int .i64 g2_tid)]) mixedPP Tryz.func9 (c := bodyOf Tryz.f9) (by kernel_rfl) (by kernel_rfl) (by kernel_rfl) (Eq.mpr (E_liveryref11_Index_Add g0_x g1_v_0 g1_v_1 g1_v_2 g1_v_3 g2_tid h Q) H)
def F_slices_Delete_sstring_string (g0_s : Sl) (g1_i : Int) (g2_j : Int) (h : Hp) (Q : List Value → Hp → Prop) : Prop :=
(0 ≤ g1_i ∧ g1_i ≤ g2_j ∧ g2_j ≤ (g0_s.n : Int) ∧ (g0_s.n : Int) ≤ (g0_s.c : Nat)) ∧ (if (g1_i == g2_j) = true then
  (Q [(Value.slice g0_s.a g0_s.n g0_s.c)] h) else
  ((0 ≤ g1_i ∧ g1_i ≤ (g0_s.c : Nat)) ∧ (0 ≤ g2_j ∧ g2_j ≤ (g0_s.n : Nat)) ∧ ∃ cs4 : List Value, cellsAt h (slAd g0_s.a (Int.toNat g2_j) g0_s.c 1) ((g0_s.n - (Int.toNat g2_j)) * 1) cs4 ∧ appS PP T_string 16 1 h ⟨(slAd g0_s.a 0 g0_s.c 1), ((Int.toNat g1_i) - 0), (g0_s.c - 0)⟩ (g0_s.n - (Int.toNat g2_j)) cs4 fun (l1 : Sl) (h2 : Hp) =>
    (0 ≤ (l1.n : Int) ∧ (l1.n : Int) ≤ (g0_s.n : Int) ∧ (g0_s.n : Int) ≤ (l1.c : Nat)) ∧ (List.all (Array.toList (zc PP T_string)) oneCell = true ∧ ∀ a : Addr, (slAd l1.a (Int.toNat (l1.n : Int)) l1.c 1) = some a → stOk h2 a (((Int.toNat (g0_s.n : Int)) - (Int.toNat (l1.n : Int))) * Array.size (zc PP T_string))) ∧ wth (cpHp h2 (if ((Int.toNat (g0_s.n : Int)) - (Int.toNat (l1.n : Int))) = 0 then none else (slAd l1.a (Int.toNat (l1.n : Int)) l1.c 1)) (Array.toList (Builtin.zeroCells (zc PP T_string) ((Int.toNat (g0_s.n : Int)) - (Int.toNat (l1.n : Int)))))) fun h3 =>
    Q [(Value.slice l1.a l1.n l1.c)] h3))
def A_slices_Delete_sstring_string : Ann := .nil
theorem E_slices_Delete_sstring_string (g0_s : Sl) (g1_i : Int) (g2_j : Int) (h : Hp) (Q : List Value → Hp → Prop) : cw PP 33 (fun _ => []) (bodyOf Tryz.f52) A_slices_Delete_sstring_string (finQ PP (Tryz.f52.results.toList) Q) (argFr [(Value.slice g0_s.a g0_s.n g0_s.c), (Value.int .i64 g1_i), (Value.int .i64 g2_j)]) h = F_slices_Delete_sstring_string g0_s g1_i g2_j h Q := by kernel_rfl
theorem O_slices_Delete_sstring_string (g0_s : Sl) (g1_i : Int) (g2_j : Int) {h : Hp} {Q : List Value → Hp → Prop} (H : F_slices_Delete_sstring_string g0_s g1_i g2_j h Q) : S_slices_Delete_sstring_string g0_s g1_i g2_j h Q :=
  fn_of_cw (hs := (fun _ => [])) (ann := A_slices_Delete_sstring_string) (args := [(Value.slice g0_s.a g0_s.n g0_s.c), (Value.int .i64 g1_i), (Value.int .i64 g2_j)]) mixedPP Tryz.func52 (c := bodyOf Tryz.f52) (by kernel_rfl) (by kernel_rfl) (by kernel_rfl) (Eq.mpr (E_slices_Delete_sstring_string g0_s g1_i g2_j h Q) H)
def F_slices_Delete_spleaf_one_pleaf_one (g0_s : Sl) (g1_i : Int) (g2_j : Int) (h : Hp) (Q : List Value → Hp → Prop) : Prop :=
(0 ≤ g1_i ∧ g1_i ≤ g2_j ∧ g2_j ≤ (g0_s.n : Int) ∧ (g0_s.n : Int) ≤ (g0_s.c : Nat)) ∧ (if (g1_i == g2_j) = true then
  (Q [(Value.slice g0_s.a g0_s.n g0_s.c)] h) else
  ((0 ≤ g1_i ∧ g1_i ≤ (g0_s.c : Nat)) ∧ (0 ≤ g2_j ∧ g2_j ≤ (g0_s.n : Nat)) ∧ ∃ cs4 : List Value, cellsAt h (slAd g0_s.a (Int.toNat g2_j) g0_s.c 1) ((g0_s.n - (Int.toNat g2_j)) * 1) cs4 ∧ appS PP T_pleaf_one 8 1 h ⟨(slAd g0_s.a 0 g0_s.c 1), ((Int.toNat g1_i) - 0), (g0_s.c - 0)⟩ (g0_s.n - (Int.toNat g2_j)) cs4 fun (l1 : Sl) (h2 : Hp) =>
    (0 ≤ (l1.n : Int) ∧ (l1.n : Int) ≤ (g0_s.n : Int) ∧ (g0_s.n : Int) ≤ (l1.c : Nat)) ∧ (List.all (Array.toList (zc PP T_pleaf_one)) oneCell = true ∧ ∀ a : Addr, (slAd l1.a (Int.toNat (l1.n : Int)) l1.c 1) = some a → stOk h2 a (((Int.toNat (g0_s.n : Int)) - (Int.toNat (l1.n : Int))) * Array.size (zc PP T_pleaf_one))) ∧ wth (cpHp h2 (if ((Int.toNat (g0_s.n : Int)) - (Int.toNat (l1.n : Int))) = 0 then none else (slAd l1.a (Int.toNat (l1.n : Int)) l1.c 1)) (Array.toList (Builtin.zeroCells (zc PP T_pleaf_one) ((Int.toNat (g0_s.n : Int)) - (Int.toNat (l1.n : Int)))))) fun h3 =>
    Q [(Value.slice l1.a l1.n l1.c)] h3))
def A_slices_Delete_spleaf_one_pleaf_one : Ann := .nil
theorem E_slices_Delete_spleaf_one_pleaf_one (g0_s : Sl) (g1_i : Int) (g2_j : Int) (h : Hp) (Q : List Value → Hp → Prop) : cw PP 33 (fun _ => []) (bodyOf Tryz.f53) A_slices_Delete_spleaf_one_pleaf_one (finQ PP (Tryz.f53.results.toList) Q) (argFr [(Value.slice g0_s.a g0_s.n g0_s.c), (Value.int .i64 g1_i), (Value.int .i64 g2_j)]) h = F_slices_Delete_spleaf_one_pleaf_one g0_s g1_i g2_j h Q := by kernel_rfl
theorem O_slices_Delete_spleaf_one_pleaf_one (g0_s : Sl) (g1_i : Int) (g2_j : Int) {h : Hp} {Q : List Value → Hp → Prop} (H : F_slices_Delete_spleaf_one_pleaf_one g0_s g1_i g2_j h Q) : S_slices_Delete_spleaf_one_pleaf_one g0_s g1_i g2_j h Q :=
  fn_of_cw (hs := (fun _ => [])) (ann := A_slices_Delete_spleaf_one_pleaf_one) (args := [(Value.slice g0_s.a g0_s.n g0_s.c), (Value.int .i64 g1_i), (Value.int .i64 g2_j)]) mixedPP Tryz.func53 (c := bodyOf Tryz.f53) (by kernel_rfl) (by kernel_rfl) (by kernel_rfl) (Eq.mpr (E_slices_Delete_spleaf_one_pleaf_one g0_s g1_i g2_j h Q) H)
def F_leaf_Leaves_Remove (g0_x : Option Addr) (g1_k : ByteArray) (h : Hp) (Q : List Value → Hp → Prop) : Prop :=
wth (Array.push h (Obj.cells #[(Value.int .i64 (0 : Int)), (Value.int .i64 (0 : Int))] T_leaf_Move)) fun h1 =>
(if (Option.isNone g0_x) = true then
  (stOk h1 (Addr.mk (Array.size h) 0 none) 2 ∧ wth (wrs h1 (Addr.mk (Array.size h) 0 none) 0 [(Value.int .i64 (0 : Int)), (Value.int .i64 (0 : Int))]) fun h2 =>
    ∃ n3 : Int, rd h2 (Addr.add (Addr.mk (Array.size h) 0 none) 0) = some (Value.int .i64 n3) ∧ ∃ n4 : Int, rd h2 (Addr.add (Addr.mk (Array.size h) 0 none) 1) = some (Value.int .i64 n4) ∧ Q [(Value.int .i64 (0 : Int)), (Value.agg #[(Value.int .i64 n3), (Value.int .i64 n4)]), (Value.int .i64 (1 : Int))] h2) else
  (S_leaf_Leaves_at g0_x g1_k h1 fun (vs5 : List Value) (h6 : Hp) =>
    ∃ n7 : Int, vs5 = [(Value.int .i64 n7)] ∧
    nilW g0_x fun a8 => ∃ l9 : Sl, rd h6 (Addr.add a8 1) = some (Value.slice l9.a l9.n l9.c) ∧
    nilW l9.a fun a10 => ixOk n7 l9.n (∃ p11 : Option Addr, rd h6 (Addr.add a10 (Int.toNat n7 * 1)) = some (Value.pointer p11) ∧
      nilW p11 fun a12 => ∃ l13 : Sl, rd h6 (Addr.add a12 2) = some (Value.slice l13.a l13.n l13.c) ∧
      S_slices_BinarySearch_sstring_string ⟨l13.a, l13.n, l13.c⟩ g1_k h6 fun (vs14 : List Value) (h15 : Hp) =>
      ∃ n16 : Int, ∃ b17 : Bool, vs14 = [(Value.int .i64 n16), (Value.bool b17)] ∧
      (if (!b17) = true then
        (stOk h15 (Addr.mk (Array.size h) 0 none) 2 ∧ wth (wrs h15 (Addr.mk (Array.size h) 0 none) 0 [(Value.int .i64 (0 : Int)), (Value.int .i64 (0 : Int))]) fun h18 =>
          ∃ n19 : Int, rd h18 (Addr.add (Addr.mk (Array.size h) 0 none) 0) = some (Value.int .i64 n19) ∧ ∃ n20 : Int, rd h18 (Addr.add (Addr.mk (Array.size h) 0 none) 1) = some (Value.int .i64 n20) ∧ Q [(Value.int .i64 (0 : Int)), (Value.agg #[(Value.int .i64 n19), (Value.int .i64 n20)]), (Value.int .i64 (60 : Int))] h18) else
        (nilW p11 fun a21 => ∃ l22 : Sl, rd h15 (Addr.add a21 2) = some (Value.slice l22.a l22.n l22.c) ∧
          S_slices_Delete_sstring_string ⟨l22.a, l22.n, l22.c⟩ n16 (IntKind.wrap .i64 (n16 + (1 : Int))) h15 fun (vs23 : List Value) (h24 : Hp) =>
          ∃ l25 : Sl, vs23 = [(Value.slice l25.a l25.n l25.c)] ∧
          nilW p11 fun a26 => stOk h24 (Addr.add a26 2) 1 ∧ wth (wrs h24 (Addr.add a26 2) 0 [(Value.slice l25.a l25.n l25.c)]) fun h27 =>
          ∀ J28 : List Value → Hp → Prop, (∀ b29 : Bool, ∀ h30 : Hp, ((if b29 = true then
                (nilW p11 fun a31 => ∃ n32 : Int, rd h30 (Addr.add a31 0) = some (Value.int .i64 n32) ∧
                  stOk h30 (Addr.mk (Array.size h) 0 none) 2 ∧ wth (wrs h30 (Addr.mk (Array.size h) 0 none) 0 [(Value.int .i64 (0 : Int)), (Value.int .i64 (0 : Int))]) fun h33 =>
                  ∃ n34 : Int, rd h33 (Addr.add (Addr.mk (Array.size h) 0 none) 0) = some (Value.int .i64 n34) ∧ ∃ n35 : Int, rd h33 (Addr.add (Addr.mk (Array.size h) 0 none) 1) = some (Value.int .i64 n35) ∧ Q [(Value.int .i64 n32), (Value.agg #[(Value.int .i64 n34), (Value.int .i64 n35)]), (Value.int .i64 (0 : Int))] h33) else
                (nilW g0_x fun a36 => ∃ l37 : Sl, rd h30 (Addr.add a36 1) = some (Value.slice l37.a l37.n l37.c) ∧
                  S_slices_Delete_spleaf_one_pleaf_one ⟨l37.a, l37.n, l37.c⟩ n7 (IntKind.wrap .i64 (n7 + (1 : Int))) h30 fun (vs38 : List Value) (h39 : Hp) =>
                  ∃ l40 : Sl, vs38 = [(Value.slice l40.a l40.n l40.c)] ∧
                  nilW g0_x fun a41 => stOk h39 (Addr.add a41 1) 1 ∧ wth (wrs h39 (Addr.add a41 1) 0 [(Value.slice l40.a l40.n l40.c)]) fun h42 =>
                  nilW p11 fun a43 => ∃ n44 : Int, rd h42 (Addr.add a43 0) = some (Value.int .i64 n44) ∧
                  nilW p11 fun a45 => ∃ n46 : Int, rd h42 (Addr.add a45 0) = some (Value.int .i64 n46) ∧
                  nilW g0_x fun a47 => ∃ l48 : Sl, rd h42 (Addr.add a47 1) = some (Value.slice l48.a l48.n l48.c) ∧
                  nilW l48.a fun a49 => ixOk (mxI (IntKind.wrap .i64 (n7 - (1 : Int))) (0 : Int)) l48.n (∃ p50 : Option Addr, rd h42 (Addr.add a49 (Int.toNat (mxI (IntKind.wrap .i64 (n7 - (1 : Int))) (0 : Int)) * 1)) = some (Value.pointer p50) ∧
                    nilW p50 fun a51 => ∃ n52 : Int, rd h42 (Addr.add a51 0) = some (Value.int .i64 n52) ∧
                    stOk h42 (Addr.mk (Array.size h) 0 none) 2 ∧ wth (wrs h42 (Addr.mk (Array.size h) 0 none) 0 [(Value.int .i64 n46), (Value.int .i64 n52)]) fun h53 =>
                    ∃ n54 : Int, rd h53 (Addr.add (Addr.mk (Array.size h) 0 none) 0) = some (Value.int .i64 n54) ∧ ∃ n55 : Int, rd h53 (Addr.add (Addr.mk (Array.size h) 0 none) 1) = some (Value.int .i64 n55) ∧ Q [(Value.int .i64 n44), (Value.agg #[(Value.int .i64 n54), (Value.int .i64 n55)]), (Value.int .i64 (0 : Int))] h53)))) → J28 [(Value.bool b29)] h30) →
          nilW p11 fun a56 => ∃ l57 : Sl, rd h27 (Addr.add a56 2) = some (Value.slice l57.a l57.n l57.c) ∧
          (if (decide ((l57.n : Int) > (0 : Int))) = true then (J28 [(Value.bool true)] h27) else
            (nilW g0_x fun a58 => ∃ l59 : Sl, rd h27 (Addr.add a58 1) = some (Value.slice l59.a l59.n l59.c) ∧
              J28 [(Value.bool ((l59.n : Int) == (1 : Int)))] h27)))))))
def A_leaf_Leaves_Remove : Ann := (.mk none ⟨[], []⟩ .nil (.mk none ⟨[], []⟩ .nil (.mk none ⟨[], []⟩ .nil (.mk none ⟨[], []⟩ .nil (.mk none ⟨[], []⟩ .nil (.mk none ⟨[], []⟩ .nil (.mk none ⟨[], []⟩ .nil (.mk none ⟨[], []⟩ (.mk none ⟨[], []⟩ (.mk (some ⟨[0, 5, 7, 8], [(60, (.c .bool))]⟩) ⟨[], []⟩ .nil .nil) .nil) .nil))))))))
theorem E_leaf_Leaves_Remove (g0_x : Option Addr) (g1_k : ByteArray) (h : Hp) (Q : List Value → Hp → Prop) : cw PP 98 (fun _ => []) (bodyOf Tryz.f30) A_leaf_Leaves_Remove (finQ PP (Tryz.f30.results.toList) Q) (argFr [(Value.pointer g0_x), (Value.string g1_k)]) h = F_leaf_Leaves_Remove g0_x g1_k h Q := by kernel_rfl
theorem O_leaf_Leaves_Remove (g0_x : Option Addr) (g1_k : ByteArray) {h : Hp} {Q : List Value → Hp → Prop} (H : F_leaf_Leaves_Remove g0_x g1_k h Q) : S_leaf_Leaves_Remove g0_x g1_k h Q :=
  fn_of_cw (hs := (fun _ => [])) (ann := A_leaf_Leaves_Remove) (args := [(Value.pointer g0_x), (Value.string g1_k)]) mixedPP Tryz.func30 (c := bodyOf Tryz.f30) (by kernel_rfl) (by kernel_rfl) (by kernel_rfl) (Eq.mpr (E_leaf_Leaves_Remove g0_x g1_k h Q) H)
def F_index_Index_Drop (g0_x : Option Addr) (g1_v_0 : Int) (g1_v_1 : Int) (g1_v_2 : Nat) (g1_v_3 : ByteArray) (g2_tid : Int) (h : Hp) (Q : List Value → Hp → Prop) : Prop :=
wth (Array.push h (Obj.cells #[(Value.int .i64 g1_v_0), (Value.int .i64 g1_v_1), (Value.float .f64 g1_v_2), (Value.string g1_v_3)] T_api_Value)) fun h1 =>
wth (Array.push h1 (Obj.cells #[(Value.int .i64 (0 : Int)), (Value.int .i64 (0 : Int))] T_leaf_Move)) fun h2 =>
(if (Option.isNone g0_x) = true then
  (stOk h2 (Addr.mk (Array.size h1) 0 none) 2 ∧ wth (wrs h2 (Addr.mk (Array.size h1) 0 none) 0 [(Value.int .i64 (0 : Int)), (Value.int .i64 (0 : Int))]) fun h3 =>
    ∃ n4 : Int, rd h3 (Addr.add (Addr.mk (Array.size h1) 0 none) 0) = some (Value.int .i64 n4) ∧ ∃ n5 : Int, rd h3 (Addr.add (Addr.mk (Array.size h1) 0 none) 1) = some (Value.int .i64 n5) ∧ Q [(Value.int .i64 (0 : Int)), (Value.agg #[(Value.int .i64 n4), (Value.int .i64 n5)]), (Value.int .i64 (1 : Int))] h3) else
  (∃ n6 : Int, rd h2 (Addr.add (Addr.mk (Array.size h) 0 none) 0) = some (Value.int .i64 n6) ∧ ∃ n7 : Int, rd h2 (Addr.add (Addr.mk (Array.size h) 0 none) 1) = some (Value.int .i64 n7) ∧ ∃ x8 : Nat, rd h2 (Addr.add (Addr.mk (Array.size h) 0 none) 2) = some (Value.float .f64 x8) ∧ ∃ s9 : ByteArray, rd h2 (Addr.add (Addr.mk (Array.size h) 0 none) 3) = some (Value.string s9) ∧ S_key_Entry n6 n7 x8 s9 g2_tid h2 fun (vs10 : List Value) (h11 : Hp) =>
    ∃ s12 : ByteArray, ∃ n13 : Int, vs10 = [(Value.string s12), (Value.int .i64 n13)] ∧
    (if (n13 != (0 : Int)) = true then
      (stOk h11 (Addr.mk (Array.size h1) 0 none) 2 ∧ wth (wrs h11 (Addr.mk (Array.size h1) 0 none) 0 [(Value.int .i64 (0 : Int)), (Value.int .i64 (0 : Int))]) fun h14 =>
        ∃ n15 : Int, rd h14 (Addr.add (Addr.mk (Array.size h1) 0 none) 0) = some (Value.int .i64 n15) ∧ ∃ n16 : Int, rd h14 (Addr.add (Addr.mk (Array.size h1) 0 none) 1) = some (Value.int .i64 n16) ∧ Q [(Value.int .i64 (0 : Int)), (Value.agg #[(Value.int .i64 n15), (Value.int .i64 n16)]), (Value.int .i64 n13)] h14) else
      (nilW g0_x fun a17 => ∃ p18 : Option Addr, rd h11 (Addr.add a17 0) = some (Value.pointer p18) ∧
        S_leaf_Leaves_Remove p18 s12 h11 fun (vs19 : List Value) (h20 : Hp) =>
        ∃ n21 : Int, ∃ n22 : Int, ∃ n23 : Int, ∃ n24 : Int, vs19 = [(Value.int .i64 n21), (Value.agg #[(Value.int .i64 n22), (Value.int .i64 n23)]), (Value.int .i64 n24)] ∧
        stOk h20 (Addr.mk (Array.size h1) 0 none) 2 ∧ wth (wrs h20 (Addr.mk (Array.size h1) 0 none) 0 [(Value.int .i64 n22), (Value.int .i64 n23)]) fun h25 =>
        ∃ n26 : Int, rd h25 (Addr.add (Addr.mk (Array.size h1) 0 none) 0) = some (Value.int .i64 n26) ∧ ∃ n27 : Int, rd h25 (Addr.add (Addr.mk (Array.size h1) 0 none) 1) = some (Value.int .i64 n27) ∧ Q [(Value.int .i64 n21), (Value.agg #[(Value.int .i64 n26), (Value.int .i64 n27)]), (Value.int .i64 n24)] h25))))
def A_index_Index_Drop : Ann := .nil
theorem E_index_Index_Drop (g0_x : Option Addr) (g1_v_0 : Int) (g1_v_1 : Int) (g1_v_2 : Nat) (g1_v_3 : ByteArray) (g2_tid : Int) (h : Hp) (Q : List Value → Hp → Prop) : cw PP 33 (fun _ => []) (bodyOf Tryz.f10) A_index_Index_Drop (finQ PP (Tryz.f10.results.toList) Q) (argFr [(Value.pointer g0_x), (Value.agg #[(Value.int .i64 g1_v_0), (Value.int .i64 g1_v_1), (Value.float .f64 g1_v_2), (Value.string g1_v_3)]), (Value.int .i64 g2_tid)]) h = F_index_Index_Drop g0_x g1_v_0 g1_v_1 g1_v_2 g1_v_3 g2_tid h Q := by kernel_rfl
theorem O_index_Index_Drop (g0_x : Option Addr) (g1_v_0 : Int) (g1_v_1 : Int) (g1_v_2 : Nat) (g1_v_3 : ByteArray) (g2_tid : Int) {h : Hp} {Q : List Value → Hp → Prop} (H : F_index_Index_Drop g0_x g1_v_0 g1_v_1 g1_v_2 g1_v_3 g2_tid h Q) : S_index_Index_Drop g0_x g1_v_0 g1_v_1 g1_v_2 g1_v_3 g2_tid h Q :=
  fn_of_cw (hs := (fun _ => [])) (ann := A_index_Index_Drop) (args := [(Value.pointer g0_x), (Value.agg #[(Value.int .i64 g1_v_0), (Value.int .i64 g1_v_1), (Value.float .f64 g1_v_2), (Value.string g1_v_3)]), (Value.int .i64 g2_tid)]) mixedPP Tryz.func10 (c := bodyOf Tryz.f10) (by kernel_rfl) (by kernel_rfl) (by kernel_rfl) (Eq.mpr (E_index_Index_Drop g0_x g1_v_0 g1_v_1 g1_v_2 g1_v_3 g2_tid h Q) H)
def F_liveryref10_Leaves_Remove (g0_x : Option Addr) (g1_k : ByteArray) (h : Hp) (Q : List Value → Hp → Prop) : Prop :=
wth (Array.push h (Obj.cells #[(Value.int .i64 (0 : Int)), (Value.int .i64 (0 : Int)), (Value.int .i64 (0 : Int)), (Value.int .i64 (0 : Int))] T_liveryref10_Did)) fun h1 =>
S_liveryref10_Leaves_Has g0_x g1_k h1 fun (vs2 : List Value) (h3 : Hp) =>
∃ b4 : Bool, vs2 = [(Value.bool b4)] ∧
(if (!b4) = true then
  (stOk h3 (Addr.mk (Array.size h) 0 none) 4 ∧ wth (wrs h3 (Addr.mk (Array.size h) 0 none) 0 [(Value.int .i64 (0 : Int)), (Value.int .i64 (0 : Int)), (Value.int .i64 (0 : Int)), (Value.int .i64 (60 : Int))]) fun h5 =>
    ∃ n6 : Int, rd h5 (Addr.add (Addr.mk (Array.size h) 0 none) 0) = some (Value.int .i64 n6) ∧ ∃ n7 : Int, rd h5 (Addr.add (Addr.mk (Array.size h) 0 none) 1) = some (Value.int .i64 n7) ∧ ∃ n8 : Int, rd h5 (Addr.add (Addr.mk (Array.size h) 0 none) 2) = some (Value.int .i64 n8) ∧ ∃ n9 : Int, rd h5 (Addr.add (Addr.mk (Array.size h) 0 none) 3) = some (Value.int .i64 n9) ∧ Q [(Value.agg #[(Value.int .i64 n6), (Value.int .i64 n7), (Value.int .i64 n8), (Value.int .i64 n9)])] h5) else
  (S_liveryref10_Leaves_at g0_x g1_k h3 fun (vs10 : List Value) (h11 : Hp) =>
    ∃ n12 : Int, vs10 = [(Value.int .i64 n12)] ∧
    ∀ X13 : List Value → Hp → Prop, (∀ l14 : Sl, ∀ n15 : Int, ∀ h16 : Hp, (nilW g0_x fun a17 => ∃ l18 : Sl, rd h16 (Addr.add a17 0) = some (Value.slice l18.a l18.n l18.c) ∧
        nilW l18.a fun a19 => ixOk n12 l18.n (∃ l20 : Sl, rd h16 (Addr.add (Addr.add a19 (Int.toNat n12 * 4)) 3) = some (Value.slice l20.a l20.n l20.c) ∧
          (if (decide (n15 < (l20.n : Int))) = true then
            (∀ J21 : List Value → Hp → Prop, (∀ l22 : Sl, ∀ h23 : Hp, (X13 [(Value.slice l22.a l22.n l22.c), (Value.int .i64 (IntKind.wrap .i64 (n15 + (1 : Int))))] h23) → J21 [(Value.slice l22.a l22.n l22.c)] h23) →
              nilW g0_x fun a24 => ∃ l25 : Sl, rd h16 (Addr.add a24 0) = some (Value.slice l25.a l25.n l25.c) ∧
              nilW l25.a fun a26 => ixOk n12 l25.n (∃ l27 : Sl, rd h16 (Addr.add (Addr.add a26 (Int.toNat n12 * 4)) 3) = some (Value.slice l27.a l27.n l27.c) ∧
                nilW l27.a fun a28 => ixOk n15 l27.n (∃ s29 : ByteArray, rd h16 (Addr.add a28 (Int.toNat n15 * 1)) = some (Value.string s29) ∧
                  (if (!((ByteArray.toList s29) == (ByteArray.toList g1_k))) = true then
                    (nilW g0_x fun a30 => ∃ l31 : Sl, rd h16 (Addr.add a30 0) = some (Value.slice l31.a l31.n l31.c) ∧
                      nilW l31.a fun a32 => ixOk n12 l31.n (∃ l33 : Sl, rd h16 (Addr.add (Addr.add a32 (Int.toNat n12 * 4)) 3) = some (Value.slice l33.a l33.n l33.c) ∧
                        nilW l33.a fun a34 => ixOk n15 l33.n (∃ s35 : ByteArray, rd h16 (Addr.add a34 (Int.toNat n15 * 1)) = some (Value.string s35) ∧
                          wth (Array.push h16 (Obj.cells #[(Value.string s35)] T_string)) fun h36 =>
                          ∃ cs39 : List Value, cellsAt h36 (some (Addr.mk (Array.size h16) 0 none)) (1 * 1) cs39 ∧ appS PP T_string 16 1 h36 ⟨l14.a, l14.n, l14.c⟩ 1 cs39 fun (l37 : Sl) (h38 : Hp) =>
                          J21 [(Value.slice l37.a l37.n l37.c)] h38))) else
                    (J21 [(Value.slice l14.a l14.n l14.c)] h16))))) else
            (nilW g0_x fun a40 => ∃ l41 : Sl, rd h16 (Addr.add a40 0) = some (Value.slice l41.a l41.n l41.c) ∧
              nilW l41.a fun a42 => ixOk n12 l41.n (∃ n43 : Int, rd h16 (Addr.add (Addr.add a42 (Int.toNat n12 * 4)) 0) = some (Value.int .i64 n43) ∧
                wth (Array.push h16 (Obj.cells #[(Value.int .i64 (0 : Int)), (Value.int .i64 (0 : Int)), (Value.int .i64 (0 : Int)), (Value.int .i64 (0 : Int))] T_liveryref10_Did)) fun h44 =>
                stOk h44 (Addr.mk (Array.size h16) 0 none) 4 ∧ wth (wrs h44 (Addr.mk (Array.size h16) 0 none) 0 [(Value.int .i64 n43), (Value.int .i64 (0 : Int)), (Value.int .i64 (0 : Int)), (Value.int .i64 (0 : Int))]) fun h45 =>
                ∀ J46 : List Value → Hp → Prop, (∀ b47 : Bool, ∀ h48 : Hp, ((if b47 = true then
                      (nilW g0_x fun a49 => ∃ l50 : Sl, rd h48 (Addr.add a49 0) = some (Value.slice l50.a l50.n l50.c) ∧
                        nilW l50.a fun a51 => ixOk n12 l50.n (stOk h48 (Addr.add (Addr.add a51 (Int.toNat n12 * 4)) 3) 1 ∧ wth (wrs h48 (Addr.add (Addr.add a51 (Int.toNat n12 * 4)) 3) 0 [(Value.slice l14.a l14.n l14.c)]) fun h52 =>
                          ∃ n53 : Int, rd h52 (Addr.add (Addr.mk (Array.size h16) 0 none) 0) = some (Value.int .i64 n53) ∧ ∃ n54 : Int, rd h52 (Addr.add (Addr.mk (Array.size h16) 0 none) 1) = some (Value.int .i64 n54) ∧ ∃ n55 : Int, rd h52 (Addr.add (Addr.mk (Array.size h16) 0 none) 2) = some (Value.int .i64 n55) ∧ ∃ n56 : Int, rd h52 (Addr.add (Addr.mk (Array.size h16) 0 none) 3) = some (Value.int .i64 n56) ∧ stOk h52 (Addr.mk (Array.size h) 0 none) 4 ∧ wth (wrs h52 (Addr.mk (Array.size h) 0 none) 0 [(Value.int .i64 n53), (Value.int .i64 n54), (Value.int .i64 n55), (Value.int .i64 n56)]) fun h57 =>
                          ∃ n58 : Int, rd h57 (Addr.add (Addr.mk (Array.size h) 0 none) 0) = some (Value.int .i64 n58) ∧ ∃ n59 : Int, rd h57 (Addr.add (Addr.mk (Array.size h) 0 none) 1) = some (Value.int .i64 n59) ∧ ∃ n60 : Int, rd h57 (Addr.add (Addr.mk (Array.size h) 0 none) 2) = some (Value.int .i64 n60) ∧ ∃ n61 : Int, rd h57 (Addr.add (Addr.mk (Array.size h) 0 none) 3) = some (Value.int .i64 n61) ∧ Q [(Value.agg #[(Value.int .i64 n58), (Value.int .i64 n59), (Value.int .i64 n60), (Value.int .i64 n61)])] h57)) else
                      (∃ n62 : Int, rd h48 (Addr.add (Addr.mk (Array.size h16) 0 none) 0) = some (Value.int .i64 n62) ∧
                        stOk h48 (Addr.add (Addr.mk (Array.size h16) 0 none) 1) 1 ∧ wth (wrs h48 (Addr.add (Addr.mk (Array.size h16) 0 none) 1) 0 [(Value.int .i64 n62)]) fun h63 =>
                        ∀ J64 : List Value → Hp → Prop, (∀ h65 : Hp, (∀ X66 : List Value → Hp → Prop, (∀ l67 : Sl, ∀ n68 : Int, ∀ h69 : Hp, (nilW g0_x fun a70 => ∃ l71 : Sl, rd h69 (Addr.add a70 0) = some (Value.slice l71.a l71.n l71.c) ∧
                                (if (decide (n68 < (l71.n : Int))) = true then
                                  (∀ J72 : List Value → Hp → Prop, (∀ l73 : Sl, ∀ h74 : Hp, (X66 [(Value.slice l73.a l73.n l73.c), (Value.int .i64 (IntKind.wrap .i64 (n68 + (1 : Int))))] h74) → J72 [(Value.slice l73.a l73.n l73.c)] h74) →
                                    nilW g0_x fun a75 => ∃ l76 : Sl, rd h69 (Addr.add a75 0) = some (Value.slice l76.a l76.n l76.c) ∧
                                    nilW l76.a fun a77 => ixOk n68 l76.n (∃ n78 : Int, rd h69 (Addr.add (Addr.add a77 (Int.toNat n68 * 4)) 0) = some (Value.int .i64 n78) ∧ ∃ b79 : Bool, rd h69 (Addr.add (Addr.add a77 (Int.toNat n68 * 4)) 1) = some (Value.bool b79) ∧ ∃ s80 : ByteArray, rd h69 (Addr.add (Addr.add a77 (Int.toNat n68 * 4)) 2) = some (Value.string s80) ∧ ∃ l81 : Sl, rd h69 (Addr.add (Addr.add a77 (Int.toNat n68 * 4)) 3) = some (Value.slice l81.a l81.n l81.c) ∧ wth (Array.push h69 (Obj.cells #[(Value.int .i64 (0 : Int)), (Value.bool false), (Value.string (ByteArray.mk #[])), (Value.slice none 0 0)] T_liveryref10_Leaf)) fun h82 =>
                                      stOk h82 (Addr.mk (Array.size h69) 0 none) 4 ∧ wth (wrs h82 (Addr.mk (Array.size h69) 0 none) 0 [(Value.int .i64 n78), (Value.bool b79), (Value.string s80), (Value.slice l81.a l81.n l81.c)]) fun h83 =>
                                      (if (n68 == n12) = true then
                                        (J72 [(Value.slice l67.a l67.n l67.c)] h83) else
                                        (∀ J84 : List Value → Hp → Prop, (∀ b85 : Bool, ∀ h86 : Hp, (∀ J87 : List Value → Hp → Prop, (∀ h88 : Hp, (∃ n89 : Int, rd h88 (Addr.add (Addr.mk (Array.size h69) 0 none) 0) = some (Value.int .i64 n89) ∧ ∃ b90 : Bool, rd h88 (Addr.add (Addr.mk (Array.size h69) 0 none) 1) = some (Value.bool b90) ∧ ∃ s91 : ByteArray, rd h88 (Addr.add (Addr.mk (Array.size h69) 0 none) 2) = some (Value.string s91) ∧ ∃ l92 : Sl, rd h88 (Addr.add (Addr.mk (Array.size h69) 0 none) 3) = some (Value.slice l92.a l92.n l92.c) ∧ wth (Array.push h88 (Obj.cells #[(Value.int .i64 n89), (Value.bool b90), (Value.string s91), (Value.slice l92.a l92.n l92.c)] T_liveryref10_Leaf)) fun h93 =>
                                                  ∃ cs96 : List Value, cellsAt h93 (some (Addr.mk (Array.size h88) 0 none)) (1 * 4) cs96 ∧ appS PP T_liveryref10_Leaf 56 4 h93 ⟨l67.a, l67.n, l67.c⟩ 1 cs96 fun (l94 : Sl) (h95 : Hp) =>
                                                  J72 [(Value.slice l94.a l94.n l94.c)] h95) → J87 [] h88) →
                                              (if b85 = true then
                                                (stOk h86 (Addr.add (Addr.mk (Array.size h69) 0 none) 1) 1 ∧ wth (wrs h86 (Addr.add (Addr.mk (Array.size h69) 0 none) 1) 0 [(Value.bool true)]) fun h97 =>
                                                  stOk h97 (Addr.add (Addr.mk (Array.size h69) 0 none) 2) 1 ∧ wth (wrs h97 (Addr.add (Addr.mk (Array.size h69) 0 none) 2) 0 [(Value.string (ByteArray.mk #[]))]) fun h98 =>
                                                  J87 [] h98) else
                                                (J87 [] h86))) → J84 [(Value.bool b85)] h86) →
                                          (if (n12 == (0 : Int)) = true then (J84 [(Value.bool (n68 == (1 : Int)))] h83) else
                                            (J84 [(Value.bool false)] h83)))))) else
                                  (nilW g0_x fun a99 => stOk h69 (Addr.add a99 0) 1 ∧ wth (wrs h69 (Addr.add a99 0) 0 [(Value.slice l67.a l67.n l67.c)]) fun h100 =>
                                    ∃ n101 : Int, rd h100 (Addr.add (Addr.mk (Array.size h16) 0 none) 0) = some (Value.int .i64 n101) ∧ ∃ n102 : Int, rd h100 (Addr.add (Addr.mk (Array.size h16) 0 none) 1) = some (Value.int .i64 n102) ∧ ∃ n103 : Int, rd h100 (Addr.add (Addr.mk (Array.size h16) 0 none) 2) = some (Value.int .i64 n103) ∧ ∃ n104 : Int, rd h100 (Addr.add (Addr.mk (Array.size h16) 0 none) 3) = some (Value.int .i64 n104) ∧ stOk h100 (Addr.mk (Array.size h) 0 none) 4 ∧ wth (wrs h100 (Addr.mk (Array.size h) 0 none) 0 [(Value.int .i64 n101), (Value.int .i64 n102), (Value.int .i64 n103), (Value.int .i64 n104)]) fun h105 =>
                                    ∃ n106 : Int, rd h105 (Addr.add (Addr.mk (Array.size h) 0 none) 0) = some (Value.int .i64 n106) ∧ ∃ n107 : Int, rd h105 (Addr.add (Addr.mk (Array.size h) 0 none) 1) = some (Value.int .i64 n107) ∧ ∃ n108 : Int, rd h105 (Addr.add (Addr.mk (Array.size h) 0 none) 2) = some (Value.int .i64 n108) ∧ ∃ n109 : Int, rd h105 (Addr.add (Addr.mk (Array.size h) 0 none) 3) = some (Value.int .i64 n109) ∧ Q [(Value.agg #[(Value.int .i64 n106), (Value.int .i64 n107), (Value.int .i64 n108), (Value.int .i64 n109)])] h105))) → X66 [(Value.slice l67.a l67.n l67.c), (Value.int .i64 n68)] h69) →
                            X66 [(Value.slice none 0 0), (Value.int .i64 (0 : Int))] h65) → J64 [] h65) →
                        (if (decide (n12 > (0 : Int))) = true then
                          (nilW g0_x fun a110 => ∃ l111 : Sl, rd h63 (Addr.add a110 0) = some (Value.slice l111.a l111.n l111.c) ∧
                            nilW l111.a fun a112 => ixOk (IntKind.wrap .i64 (n12 - (1 : Int))) l111.n (∃ n113 : Int, rd h63 (Addr.add (Addr.add a112 (Int.toNat (IntKind.wrap .i64 (n12 - (1 : Int))) * 4)) 0) = some (Value.int .i64 n113) ∧
                              stOk h63 (Addr.add (Addr.mk (Array.size h16) 0 none) 2) 1 ∧ wth (wrs h63 (Addr.add (Addr.mk (Array.size h16) 0 none) 2) 0 [(Value.int .i64 n113)]) fun h114 =>
                              J64 [] h114)) else
                          (nilW g0_x fun a115 => ∃ l116 : Sl, rd h63 (Addr.add a115 0) = some (Value.slice l116.a l116.n l116.c) ∧
                            nilW l116.a fun a117 => ixOk (1 : Int) l116.n (∃ n118 : Int, rd h63 (Addr.add (Addr.add a117 (Int.toNat (1 : Int) * 4)) 0) = some (Value.int .i64 n118) ∧
                              stOk h63 (Addr.add (Addr.mk (Array.size h16) 0 none) 2) 1 ∧ wth (wrs h63 (Addr.add (Addr.mk (Array.size h16) 0 none) 2) 0 [(Value.int .i64 n118)]) fun h119 =>
                              J64 [] h119)))))) → J46 [(Value.bool b47)] h48) →
                (if (decide ((l14.n : Int) > (0 : Int))) = true then (J46 [(Value.bool true)] h45) else
                  (nilW g0_x fun a120 => ∃ l121 : Sl, rd h45 (Addr.add a120 0) = some (Value.slice l121.a l121.n l121.c) ∧
                    J46 [(Value.bool ((l121.n : Int) == (1 : Int)))] h45))))))) → X13 [(Value.slice l14.a l14.n l14.c), (Value.int .i64 n15)] h16) →
    X13 [(Value.slice none 0 0), (Value.int .i64 (0 : Int))] h11))
def A_liveryref10_Leaves_Remove : Ann := (.mk none ⟨[], []⟩ .nil (.mk none ⟨[], []⟩ .nil (.mk none ⟨[], []⟩ .nil (.mk none ⟨[], []⟩ .nil (.mk none ⟨[], []⟩ (.mk none ⟨[], []⟩ .nil (.mk none ⟨[], []⟩ (.mk none ⟨[0, 1, 4, 5], [(6, (.c .sl)), (7, (.c (.int .i64)))]⟩ (.mk none ⟨[], []⟩ .nil (.mk none ⟨[], []⟩ (.mk (some ⟨[0, 1, 4, 5, 7], [(6, (.c .sl))]⟩) ⟨[], []⟩ .nil .nil) .nil)) .nil) .nil)) (.mk none ⟨[], []⟩ .nil (.mk none ⟨[], []⟩ (.mk none ⟨[], []⟩ (.mk (some ⟨[0, 4, 5, 6, 8], [(79, (.c .bool))]⟩) ⟨[], []⟩ .nil .nil) .nil) (.mk none ⟨[], []⟩ .nil (.mk none ⟨[], []⟩ (.mk none ⟨[], []⟩ .nil (.mk (some ⟨[0, 4, 5, 8], []⟩) ⟨[], []⟩ .nil .nil)) (.mk none ⟨[], []⟩ .nil (.mk none ⟨[], []⟩ (.mk none ⟨[], []⟩ .nil (.mk none ⟨[], []⟩ (.mk none ⟨[0, 4, 5, 8], [(9, (.c .sl)), (10, (.c (.int .i64)))]⟩ (.mk none ⟨[], []⟩ .nil (.mk none ⟨[], []⟩ (.mk (some ⟨[0, 4, 5, 8, 10], [(9, (.c .sl))]⟩) ⟨[], []⟩ (.mk none ⟨[], []⟩ .nil (.mk none ⟨[], []⟩ .nil (.mk none ⟨[], []⟩ (.mk none ⟨[], []⟩ (.mk (some ⟨[0, 4, 5, 8, 9, 10, 11], [(136, (.c .bool))]⟩) ⟨[], []⟩ .nil .nil) (.mk (some ⟨[0, 4, 5, 8, 9, 10, 11], []⟩) ⟨[], []⟩ .nil .nil)) .nil))) .nil) .nil)) .nil) .nil)) .nil)))))))))))
theorem E_liveryref10_Leaves_Remove (g0_x : Option Addr) (g1_k : ByteArray) (h : Hp) (Q : List Value → Hp → Prop) : cw PP 148 (fun _ => []) (bodyOf Tryz.f31) A_liveryref10_Leaves_Remove (finQ PP (Tryz.f31.results.toList) Q) (argFr [(Value.pointer g0_x), (Value.string g1_k)]) h = F_liveryref10_Leaves_Remove g0_x g1_k h Q := by kernel_rfl
theorem O_liveryref10_Leaves_Remove (g0_x : Option Addr) (g1_k : ByteArray) {h : Hp} {Q : List Value → Hp → Prop} (H : F_liveryref10_Leaves_Remove g0_x g1_k h Q) : S_liveryref10_Leaves_Remove g0_x g1_k h Q :=
  fn_of_cw (hs := (fun _ => [])) (ann := A_liveryref10_Leaves_Remove) (args := [(Value.pointer g0_x), (Value.string g1_k)]) mixedPP Tryz.func31 (c := bodyOf Tryz.f31) (by kernel_rfl) (by kernel_rfl) (by kernel_rfl) (Eq.mpr (E_liveryref10_Leaves_Remove g0_x g1_k h Q) H)
def F_liveryref11_Index_Drop (g0_x : Option Addr) (g1_v_0 : Int) (g1_v_1 : Int) (g1_v_2 : Nat) (g1_v_3 : ByteArray) (g2_tid : Int) (h : Hp) (Q : List Value → Hp → Prop) : Prop :=
wth (Array.push h (Obj.cells #[(Value.int .i64 g1_v_0), (Value.int .i64 g1_v_1), (Value.float .f64 g1_v_2), (Value.string g1_v_3)] T_api_Value)) fun h1 =>
wth (Array.push h1 (Obj.cells #[(Value.int .i64 (0 : Int)), (Value.int .i64 (0 : Int)), (Value.int .i64 (0 : Int)), (Value.int .i64 (0 : Int))] T_liveryref10_Did)) fun h2 =>
∃ n3 : Int, rd h2 (Addr.add (Addr.mk (Array.size h) 0 none) 0) = some (Value.int .i64 n3) ∧ ∃ n4 : Int, rd h2 (Addr.add (Addr.mk (Array.size h) 0 none) 1) = some (Value.int .i64 n4) ∧ ∃ x5 : Nat, rd h2 (Addr.add (Addr.mk (Array.size h) 0 none) 2) = some (Value.float .f64 x5) ∧ ∃ s6 : ByteArray, rd h2 (Addr.add (Addr.mk (Array.size h) 0 none) 3) = some (Value.string s6) ∧ S_liveryref03_Entry n3 n4 x5 s6 g2_tid h2 fun (vs7 : List Value) (h8 : Hp) =>
∃ s9 : ByteArray, ∃ n10 : Int, vs7 = [(Value.string s9), (Value.int .i64 n10)] ∧
(if (n10 != (0 : Int)) = true then
  (stOk h8 (Addr.mk (Array.size h1) 0 none) 4 ∧ wth (wrs h8 (Addr.mk (Array.size h1) 0 none) 0 [(Value.int .i64 (0 : Int)), (Value.int .i64 (0 : Int)), (Value.int .i64 (0 : Int)), (Value.int .i64 n10)]) fun h11 =>
    ∃ n12 : Int, rd h11 (Addr.add (Addr.mk (Array.size h1) 0 none) 0) = some (Value.int .i64 n12) ∧ ∃ n13 : Int, rd h11 (Addr.add (Addr.mk (Array.size h1) 0 none) 1) = some (Value.int .i64 n13) ∧ ∃ n14 : Int, rd h11 (Addr.add (Addr.mk (Array.size h1) 0 none) 2) = some (Value.int .i64 n14) ∧ ∃ n15 : Int, rd h11 (Addr.add (Addr.mk (Array.size h1) 0 none) 3) = some (Value.int .i64 n15) ∧ Q [(Value.agg #[(Value.int .i64 n12), (Value.int .i64 n13), (Value.int .i64 n14), (Value.int .i64 n15)])] h11) else
  (nilW g0_x fun a16 => ∃ p17 : Option Addr, rd h8 (Addr.add a16 0) = some (Value.pointer p17) ∧
    S_liveryref10_Leaves_Remove p17 s9 h8 fun (vs18 : List Value) (h19 : Hp) =>
    ∃ n20 : Int, ∃ n21 : Int, ∃ n22 : Int, ∃ n23 : Int, vs18 = [(Value.agg #[(Value.int .i64 n20), (Value.int .i64 n21), (Value.int .i64 n22), (Value.int .i64 n23)])] ∧
    stOk h19 (Addr.mk (Array.size h1) 0 none) 4 ∧ wth (wrs h19 (Addr.mk (Array.size h1) 0 none) 0 [(Value.int .i64 n20), (Value.int .i64 n21), (Value.int .i64 n22), (Value.int .i64 n23)]) fun h24 =>
    ∃ n25 : Int, rd h24 (Addr.add (Addr.mk (Array.size h1) 0 none) 0) = some (Value.int .i64 n25) ∧ ∃ n26 : Int, rd h24 (Addr.add (Addr.mk (Array.size h1) 0 none) 1) = some (Value.int .i64 n26) ∧ ∃ n27 : Int, rd h24 (Addr.add (Addr.mk (Array.size h1) 0 none) 2) = some (Value.int .i64 n27) ∧ ∃ n28 : Int, rd h24 (Addr.add (Addr.mk (Array.size h1) 0 none) 3) = some (Value.int .i64 n28) ∧ Q [(Value.agg #[(Value.int .i64 n25), (Value.int .i64 n26), (Value.int .i64 n27), (Value.int .i64 n28)])] h24))
def A_liveryref11_Index_Drop : Ann := .nil
theorem E_liveryref11_Index_Drop (g0_x : Option Addr) (g1_v_0 : Int) (g1_v_1 : Int) (g1_v_2 : Nat) (g1_v_3 : ByteArray) (g2_tid : Int) (h : Hp) (Q : List Value → Hp → Prop) : cw PP 25 (fun _ => []) (bodyOf Tryz.f11) A_liveryref11_Index_Drop (finQ PP (Tryz.f11.results.toList) Q) (argFr [(Value.pointer g0_x), (Value.agg #[(Value.int .i64 g1_v_0), (Value.int .i64 g1_v_1), (Value.float .f64 g1_v_2), (Value.string g1_v_3)]), (Value.int .i64 g2_tid)]) h = F_liveryref11_Index_Drop g0_x g1_v_0 g1_v_1 g1_v_2 g1_v_3 g2_tid h Q := by kernel_rfl
theorem O_liveryref11_Index_Drop (g0_x : Option Addr) (g1_v_0 : Int) (g1_v_1 : Int) (g1_v_2 : Nat) (g1_v_3 : ByteArray) (g2_tid : Int) {h : Hp} {Q : List Value → Hp → Prop} (H : F_liveryref11_Index_Drop g0_x g1_v_0 g1_v_1 g1_v_2 g1_v_3 g2_tid h Q) : S_liveryref11_Index_Drop g0_x g1_v_0 g1_v_1 g1_v_2 g1_v_3 g2_tid h Q :=
  fn_of_cw (hs := (fun _ => [])) (ann := A_liveryref11_Index_Drop) (args := [(Value.pointer g0_x), (Value.agg #[(Value.int .i64 g1_v_0), (Value.int .i64 g1_v_1), (Value.float .f64 g1_v_2), (Value.string g1_v_3)]), (Value.int .i64 g2_tid)]) mixedPP Tryz.func11 (c := bodyOf Tryz.f11) (by kernel_rfl) (by kernel_rfl) (by kernel_rfl) (Eq.mpr (E_liveryref11_Index_Drop g0_x g1_v_0 g1_v_1 g1_v_2 g1_v_3 g2_tid h Q) H)
def F_liveryref03_Least (g0_v_0 : Int) (g0_v_1 : Int) (g0_v_2 : Nat) (g0_v_3 : ByteArray) (h : Hp) (Q : List Value → Hp → Prop) : Prop :=
wth (Array.push h (Obj.cells #[(Value.int .i64 g0_v_0), (Value.int .i64 g0_v_1), (Value.float .f64 g0_v_2), (Value.string g0_v_3)] T_api_Value)) fun h1 =>
∃ n2 : Int, rd h1 (Addr.add (Addr.mk (Array.size h) 0 none) 0) = some (Value.int .i64 n2) ∧ ∃ n3 : Int, rd h1 (Addr.add (Addr.mk (Array.size h) 0 none) 1) = some (Value.int .i64 n3) ∧ ∃ x4 : Nat, rd h1 (Addr.add (Addr.mk (Array.size h) 0 none) 2) = some (Value.float .f64 x4) ∧ ∃ s5 : ByteArray, rd h1 (Addr.add (Addr.mk (Array.size h) 0 none) 3) = some (Value.string s5) ∧ S_liveryref03_Entry n2 n3 x4 s5 (0 : Int) h1 fun (vs6 : List Value) (h7 : Hp) =>
∃ s8 : ByteArray, ∃ n9 : Int, vs6 = [(Value.string s8), (Value.int .i64 n9)] ∧
Q [(Value.string s8), (Value.int .i64 n9)] h7
def A_liveryref03_Least : Ann := .nil
theorem E_liveryref03_Least (g0_v_0 : Int) (g0_v_1 : Int) (g0_v_2 : Nat) (g0_v_3 : ByteArray) (h : Hp) (Q : List Value → Hp → Prop) : cw PP 8 (fun _ => []) (bodyOf Tryz.f35) A_liveryref03_Least (finQ PP (Tryz.f35.results.toList) Q) (argFr [(Value.agg #[(Value.int .i64 g0_v_0), (Value.int .i64 g0_v_1), (Value.float .f64 g0_v_2), (Value.string g0_v_3)])]) h = F_liveryref03_Least g0_v_0 g0_v_1 g0_v_2 g0_v_3 h Q := by kernel_rfl
theorem O_liveryref03_Least (g0_v_0 : Int) (g0_v_1 : Int) (g0_v_2 : Nat) (g0_v_3 : ByteArray) {h : Hp} {Q : List Value → Hp → Prop} (H : F_liveryref03_Least g0_v_0 g0_v_1 g0_v_2 g0_v_3 h Q) : S_liveryref03_Least g0_v_0 g0_v_1 g0_v_2 g0_v_3 h Q :=
  fn_of_cw (hs := (fun _ => [])) (ann := A_liveryref03_Least) (args := [(Value.agg #[(Value.int .i64 g0_v_0), (Value.int .i64 g0_v_1), (Value.float .f64 g0_v_2), (Value.string g0_v_3)])]) mixedPP Tryz.func35 (c := bodyOf Tryz.f35) (by kernel_rfl) (by kernel_rfl) (by kernel_rfl) (Eq.mpr (E_liveryref03_Least g0_v_0 g0_v_1 g0_v_2 g0_v_3 h Q) H)
def F_liveryref03_After (g0_v_0 : Int) (g0_v_1 : Int) (g0_v_2 : Nat) (g0_v_3 : ByteArray) (h : Hp) (Q : List Value → Hp → Prop) : Prop :=
wth (Array.push h (Obj.cells #[(Value.int .i64 g0_v_0), (Value.int .i64 g0_v_1), (Value.float .f64 g0_v_2), (Value.string g0_v_3)] T_api_Value)) fun h1 =>
∃ n2 : Int, rd h1 (Addr.add (Addr.mk (Array.size h) 0 none) 0) = some (Value.int .i64 n2) ∧ ∃ n3 : Int, rd h1 (Addr.add (Addr.mk (Array.size h) 0 none) 1) = some (Value.int .i64 n3) ∧ ∃ x4 : Nat, rd h1 (Addr.add (Addr.mk (Array.size h) 0 none) 2) = some (Value.float .f64 x4) ∧ ∃ s5 : ByteArray, rd h1 (Addr.add (Addr.mk (Array.size h) 0 none) 3) = some (Value.string s5) ∧ S_liveryref03_Entry n2 n3 x4 s5 (65535 : Int) h1 fun (vs6 : List Value) (h7 : Hp) =>
∃ s8 : ByteArray, ∃ n9 : Int, vs6 = [(Value.string s8), (Value.int .i64 n9)] ∧
(if (n9 != (0 : Int)) = true then
  (Q [(Value.string (ByteArray.mk #[])), (Value.int .i64 n9)] h7) else
  (catOk s8 (ByteArray.mk #[0]) (Q [(Value.string (s8 ++ (ByteArray.mk #[0]))), (Value.int .i64 (0 : Int))] h7)))
def A_liveryref03_After : Ann := .nil
theorem E_liveryref03_After (g0_v_0 : Int) (g0_v_1 : Int) (g0_v_2 : Nat) (g0_v_3 : ByteArray) (h : Hp) (Q : List Value → Hp → Prop) : cw PP 16 (fun _ => []) (bodyOf Tryz.f36) A_liveryref03_After (finQ PP (Tryz.f36.results.toList) Q) (argFr [(Value.agg #[(Value.int .i64 g0_v_0), (Value.int .i64 g0_v_1), (Value.float .f64 g0_v_2), (Value.string g0_v_3)])]) h = F_liveryref03_After g0_v_0 g0_v_1 g0_v_2 g0_v_3 h Q := by kernel_rfl
theorem O_liveryref03_After (g0_v_0 : Int) (g0_v_1 : Int) (g0_v_2 : Nat) (g0_v_3 : ByteArray) {h : Hp} {Q : List Value → Hp → Prop} (H : F_liveryref03_After g0_v_0 g0_v_1 g0_v_2 g0_v_3 h Q) : S_liveryref03_After g0_v_0 g0_v_1 g0_v_2 g0_v_3 h Q :=
  fn_of_cw (hs := (fun _ => [])) (ann := A_liveryref03_After) (args := [(Value.agg #[(Value.int .i64 g0_v_0), (Value.int .i64 g0_v_1), (Value.float .f64 g0_v_2), (Value.string g0_v_3)])]) mixedPP Tryz.func36 (c := bodyOf Tryz.f36) (by kernel_rfl) (by kernel_rfl) (by kernel_rfl) (Eq.mpr (E_liveryref03_After g0_v_0 g0_v_1 g0_v_2 g0_v_3 h Q) H)
def F_liveryref10_Leaves_Range (g0_x : Option Addr) (g1_from : ByteArray) (g2_to : ByteArray) (h : Hp) (Q : List Value → Hp → Prop) : Prop :=
wth (Array.push h (Obj.cells #[(Value.slice none 0 0), (Value.slice none 0 0)] T_liveryref10_Span)) fun h1 =>
wth (Array.push h1 (Obj.cells #[(Value.slice none 0 0), (Value.slice none 0 0)] T_liveryref10_Span)) fun h2 =>
∀ J3 : List Value → Hp → Prop, (∀ b4 : Bool, ∀ h5 : Hp, ((if b4 = true then
      (∃ l6 : Sl, rd h5 (Addr.add (Addr.mk (Array.size h1) 0 none) 0) = some (Value.slice l6.a l6.n l6.c) ∧ ∃ l7 : Sl, rd h5 (Addr.add (Addr.mk (Array.size h1) 0 none) 1) = some (Value.slice l7.a l7.n l7.c) ∧ stOk h5 (Addr.mk (Array.size h) 0 none) 2 ∧ wth (wrs h5 (Addr.mk (Array.size h) 0 none) 0 [(Value.slice l6.a l6.n l6.c), (Value.slice l7.a l7.n l7.c)]) fun h8 =>
        ∃ l9 : Sl, rd h8 (Addr.add (Addr.mk (Array.size h) 0 none) 0) = some (Value.slice l9.a l9.n l9.c) ∧ ∃ l10 : Sl, rd h8 (Addr.add (Addr.mk (Array.size h) 0 none) 1) = some (Value.slice l10.a l10.n l10.c) ∧ Q [(Value.agg #[(Value.slice l9.a l9.n l9.c), (Value.slice l10.a l10.n l10.c)])] h8) else
      (nilW g0_x fun a11 => ∃ l12 : Sl, rd h5 (Addr.add a11 0) = some (Value.slice l12.a l12.n l12.c) ∧
        ∀ J13 : List Value → Hp → Prop, (∀ n14 : Int, ∀ h15 : Hp, (S_liveryref10_Leaves_at g0_x g1_from h15 fun (vs16 : List Value) (h17 : Hp) =>
            ∃ n18 : Int, vs16 = [(Value.int .i64 n18)] ∧
            ∀ X19 : List Value → Hp → Prop, (∀ n20 : Int, ∀ h21 : Hp, ((if (decide (n20 ≤ n14)) = true then
                  (∃ l22 : Sl, rd h21 (Addr.add (Addr.mk (Array.size h1) 0 none) 1) = some (Value.slice l22.a l22.n l22.c) ∧
                    nilW g0_x fun a23 => ∃ l24 : Sl, rd h21 (Addr.add a23 0) = some (Value.slice l24.a l24.n l24.c) ∧
                    nilW l24.a fun a25 => ixOk n20 l24.n (∃ n26 : Int, rd h21 (Addr.add (Addr.add a25 (Int.toNat n20 * 4)) 0) = some (Value.int .i64 n26) ∧
                      wth (Array.push h21 (Obj.cells #[(Value.int .i64 n26)] T_int)) fun h27 =>
                      rd h27 (Addr.add (Addr.mk (Array.size h1) 0 none) 1) = some (Value.slice l22.a l22.n l22.c) ∧ ∃ cs55 : List Value, cellsAt h27 (some (Addr.mk (Array.size h21) 0 none)) (1 * 1) cs55 ∧ appS PP T_int 8 1 h27 ⟨l22.a, l22.n, l22.c⟩ 1 cs55 fun (l28 : Sl) (h29 : Hp) =>
                      stOk h29 (Addr.add (Addr.mk (Array.size h1) 0 none) 1) 1 ∧ wth (wrs h29 (Addr.add (Addr.mk (Array.size h1) 0 none) 1) 0 [(Value.slice l28.a l28.n l28.c)]) fun h30 =>
                      ∀ X31 : List Value → Hp → Prop, (∀ n32 : Int, ∀ h33 : Hp, (nilW g0_x fun a34 => ∃ l35 : Sl, rd h33 (Addr.add a34 0) = some (Value.slice l35.a l35.n l35.c) ∧
                          nilW l35.a fun a36 => ixOk n20 l35.n (∃ l37 : Sl, rd h33 (Addr.add (Addr.add a36 (Int.toNat n20 * 4)) 3) = some (Value.slice l37.a l37.n l37.c) ∧
                            (if (decide (n32 < (l37.n : Int))) = true then
                              (∀ J38 : List Value → Hp → Prop, (∀ h39 : Hp, (X31 [(Value.int .i64 (IntKind.wrap .i64 (n32 + (1 : Int))))] h39) → J38 [] h39) →
                                nilW g0_x fun a40 => ∃ l41 : Sl, rd h33 (Addr.add a40 0) = some (Value.slice l41.a l41.n l41.c) ∧
                                nilW l41.a fun a42 => ixOk n20 l41.n (∃ l43 : Sl, rd h33 (Addr.add (Addr.add a42 (Int.toNat n20 * 4)) 3) = some (Value.slice l43.a l43.n l43.c) ∧
                                  nilW l43.a fun a44 => ixOk n32 l43.n (∃ s45 : ByteArray, rd h33 (Addr.add a44 (Int.toNat n32 * 1)) = some (Value.string s45) ∧
                                    ∀ J46 : List Value → Hp → Prop, (∀ b47 : Bool, ∀ h48 : Hp, ((if b47 = true then
                                          (∃ l49 : Sl, rd h48 (Addr.add (Addr.mk (Array.size h1) 0 none) 0) = some (Value.slice l49.a l49.n l49.c) ∧
                                            wth (Array.push h48 (Obj.cells #[(Value.string s45)] T_string)) fun h50 =>
                                            ∃ cs54 : List Value, cellsAt h50 (some (Addr.mk (Array.size h48) 0 none)) (1 * 1) cs54 ∧ appS PP T_string 16 1 h50 ⟨l49.a, l49.n, l49.c⟩ 1 cs54 fun (l51 : Sl) (h52 : Hp) =>
                                            stOk h52 (Addr.add (Addr.mk (Array.size h1) 0 none) 0) 1 ∧ wth (wrs h52 (Addr.add (Addr.mk (Array.size h1) 0 none) 0) 0 [(Value.slice l51.a l51.n l51.c)]) fun h53 =>
                                            J38 [] h53) else
                                          (J38 [] h48))) → J46 [(Value.bool b47)] h48) →
                                    (if (!(Op.bytesLess (ByteArray.toList s45) (ByteArray.toList g1_from))) = true then ((if ((ByteArray.toList g2_to) == (ByteArray.toList (ByteArray.mk #[]))) = true then (J46 [(Value.bool true)] h33) else
                                          (J46 [(Value.bool (Op.bytesLess (ByteArray.toList s45) (ByteArray.toList g2_to)))] h33))) else
                                      (J46 [(Value.bool false)] h33))))) else
                              (X19 [(Value.int .i64 (IntKind.wrap .i64 (n20 + (1 : Int))))] h33)))) → X31 [(Value.int .i64 n32)] h33) →
                      X31 [(Value.int .i64 (0 : Int))] h30)) else
                  (∃ l56 : Sl, rd h21 (Addr.add (Addr.mk (Array.size h1) 0 none) 0) = some (Value.slice l56.a l56.n l56.c) ∧ ∃ l57 : Sl, rd h21 (Addr.add (Addr.mk (Array.size h1) 0 none) 1) = some (Value.slice l57.a l57.n l57.c) ∧ stOk h21 (Addr.mk (Array.size h) 0 none) 2 ∧ wth (wrs h21 (Addr.mk (Array.size h) 0 none) 0 [(Value.slice l56.a l56.n l56.c), (Value.slice l57.a l57.n l57.c)]) fun h58 =>
                    ∃ l59 : Sl, rd h58 (Addr.add (Addr.mk (Array.size h) 0 none) 0) = some (Value.slice l59.a l59.n l59.c) ∧ ∃ l60 : Sl, rd h58 (Addr.add (Addr.mk (Array.size h) 0 none) 1) = some (Value.slice l60.a l60.n l60.c) ∧ Q [(Value.agg #[(Value.slice l59.a l59.n l59.c), (Value.slice l60.a l60.n l60.c)])] h58))) → X19 [(Value.int .i64 n20)] h21) →
            X19 [(Value.int .i64 n18)] h17) → J13 [(Value.int .i64 n14)] h15) →
        (if (!((ByteArray.toList g2_to) == (ByteArray.toList (ByteArray.mk #[])))) = true then
          (S_liveryref10_Leaves_at g0_x g2_to h5 fun (vs61 : List Value) (h62 : Hp) =>
            ∃ n63 : Int, vs61 = [(Value.int .i64 n63)] ∧
            J13 [(Value.int .i64 n63)] h62) else
          (J13 [(Value.int .i64 (IntKind.wrap .i64 ((l12.n : Int) - (1 : Int))))] h5))))) → J3 [(Value.bool b4)] h5) →
(if (!((ByteArray.toList g2_to) == (ByteArray.toList (ByteArray.mk #[])))) = true then (J3 [(Value.bool (Op.bytesLess (ByteArray.toList g2_to) (ByteArray.toList g1_from) || (ByteArray.toList g2_to) == (ByteArray.toList g1_from)))] h2) else
  (J3 [(Value.bool false)] h2))
def A_liveryref10_Leaves_Range : Ann := (.mk none ⟨[], []⟩ .nil (.mk none ⟨[], []⟩ .nil (.mk none ⟨[], []⟩ (.mk none ⟨[], []⟩ (.mk (some ⟨[0, 1, 2, 6, 7], [(18, (.c .bool))]⟩) ⟨[], []⟩ .nil .nil) .nil) (.mk none ⟨[], []⟩ .nil (.mk none ⟨[], []⟩ (.mk none ⟨[], []⟩ .nil (.mk (some ⟨[0, 1, 2, 6, 7], [(8, (.c (.int .i64)))]⟩) ⟨[], []⟩ .nil .nil)) (.mk none ⟨[], []⟩ (.mk none ⟨[], []⟩ .nil (.mk none ⟨[], []⟩ (.mk none ⟨[0, 1, 2, 6, 7, 8], [(9, (.c (.int .i64)))]⟩ (.mk none ⟨[], []⟩ .nil (.mk none ⟨[], []⟩ (.mk none ⟨[], []⟩ (.mk none ⟨[], []⟩ .nil (.mk none ⟨[], []⟩ .nil (.mk none ⟨[], []⟩ (.mk none ⟨[0, 1, 2, 6, 7, 8, 9], [(10, (.c (.int .i64)))]⟩ (.mk none ⟨[], []⟩ .nil (.mk none ⟨[], []⟩ (.mk (some ⟨[0, 1, 2, 6, 7, 8, 9, 10], []⟩) ⟨[], []⟩ (.mk none ⟨[], []⟩ .nil (.mk none ⟨[], []⟩ (.mk (some ⟨[0, 1, 2, 6, 7, 8, 9, 10, 11], [(87, (.c .bool))]⟩) ⟨[], []⟩ .nil .nil) .nil)) .nil) .nil)) .nil) .nil))) .nil) .nil)) .nil) .nil)) .nil))))))
theorem E_liveryref10_Leaves_Range (g0_x : Option Addr) (g1_from : ByteArray) (g2_to : ByteArray) (h : Hp) (Q : List Value → Hp → Prop) : cw PP 95 (fun _ => []) (bodyOf Tryz.f56) A_liveryref10_Leaves_Range (finQ PP (Tryz.f56.results.toList) Q) (argFr [(Value.pointer g0_x), (Value.string g1_from), (Value.string g2_to)]) h = F_liveryref10_Leaves_Range g0_x g1_from g2_to h Q := by kernel_rfl
theorem O_liveryref10_Leaves_Range (g0_x : Option Addr) (g1_from : ByteArray) (g2_to : ByteArray) {h : Hp} {Q : List Value → Hp → Prop} (H : F_liveryref10_Leaves_Range g0_x g1_from g2_to h Q) : S_liveryref10_Leaves_Range g0_x g1_from g2_to h Q :=
  fn_of_cw (hs := (fun _ => [])) (ann := A_liveryref10_Leaves_Range) (args := [(Value.pointer g0_x), (Value.string g1_from), (Value.string g2_to)]) mixedPP Tryz.func56 (c := bodyOf Tryz.f56) (by kernel_rfl) (by kernel_rfl) (by kernel_rfl) (Eq.mpr (E_liveryref10_Leaves_Range g0_x g1_from g2_to h Q) H)
def F_liveryref02_Number (g0_s : ByteArray) (h : Hp) (Q : List Value → Hp → Prop) : Prop :=
∀ X1 : List Value → Hp → Prop, (∀ n2 : Int, ∀ n3 : Int, ∀ h4 : Hp, ((if (decide (n3 < (ByteArray.size g0_s : Int))) = true then
      (ixOk n3 (ByteArray.size g0_s) (X1 [(Value.int .u64 (IntKind.wrap .u64 ((IntKind.wrap .u64 (n2 * (256 : Int))) + (IntKind.wrap .u64 (strIx g0_s n3))))), (Value.int .i64 (IntKind.wrap .i64 (n3 + (1 : Int))))] h4)) else
      (Q [(Value.int .u64 n2)] h4))) → X1 [(Value.int .u64 n2), (Value.int .i64 n3)] h4) →
X1 [(Value.int .u64 (0 : Int)), (Value.int .i64 (0 : Int))] h
def A_liveryref02_Number : Ann := (.mk none ⟨[], []⟩ .nil (.mk none ⟨[], []⟩ .nil (.mk none ⟨[], []⟩ (.mk none ⟨[], []⟩ .nil (.mk none ⟨[], []⟩ (.mk none ⟨[0], [(3, (.c (.int .u64))), (4, (.c (.int .i64)))]⟩ .nil .nil) .nil)) .nil)))
theorem E_liveryref02_Number (g0_s : ByteArray) (h : Hp) (Q : List Value → Hp → Prop) : cw PP 19 (fun _ => []) (bodyOf Tryz.f95) A_liveryref02_Number (finQ PP (Tryz.f95.results.toList) Q) (argFr [(Value.string g0_s)]) h = F_liveryref02_Number g0_s h Q := by kernel_rfl
theorem O_liveryref02_Number (g0_s : ByteArray) {h : Hp} {Q : List Value → Hp → Prop} (H : F_liveryref02_Number g0_s h Q) : S_liveryref02_Number g0_s h Q :=
  fn_of_cw (hs := (fun _ => [])) (ann := A_liveryref02_Number) (args := [(Value.string g0_s)]) mixedPP Tryz.func95 (c := bodyOf Tryz.f95) (by kernel_rfl) (by kernel_rfl) (by kernel_rfl) (Eq.mpr (E_liveryref02_Number g0_s h Q) H)
def F_liveryref01_From (g0_u : Int) (h : Hp) (Q : List Value → Hp → Prop) : Prop :=
wth (Array.push h (Obj.cells #[(Value.float .f64 0), (Value.bool false)] T_liveryref01_Got)) fun h1 =>
∀ J2 : List Value → Hp → Prop, (∀ x3 : Nat, ∀ h4 : Hp, (∀ J5 : List Value → Hp → Prop, (∀ b6 : Bool, ∀ h7 : Hp, ((if b6 = true then
          (stOk h7 (Addr.mk (Array.size h) 0 none) 2 ∧ wth (wrs h7 (Addr.mk (Array.size h) 0 none) 0 [(Value.float .f64 0), (Value.bool false)]) fun h8 =>
            ∃ x9 : Nat, rd h8 (Addr.add (Addr.mk (Array.size h) 0 none) 0) = some (Value.float .f64 x9) ∧ ∃ b10 : Bool, rd h8 (Addr.add (Addr.mk (Array.size h) 0 none) 1) = some (Value.bool b10) ∧ Q [(Value.agg #[(Value.float .f64 x9), (Value.bool b10)])] h8) else
          (stOk h7 (Addr.mk (Array.size h) 0 none) 2 ∧ wth (wrs h7 (Addr.mk (Array.size h) 0 none) 0 [(Value.float .f64 x3), (Value.bool true)]) fun h11 =>
            ∃ x12 : Nat, rd h11 (Addr.add (Addr.mk (Array.size h) 0 none) 0) = some (Value.float .f64 x12) ∧ ∃ b13 : Bool, rd h11 (Addr.add (Addr.mk (Array.size h) 0 none) 1) = some (Value.bool b13) ∧ Q [(Value.agg #[(Value.float .f64 x12), (Value.bool b13)])] h11))) → J5 [(Value.bool b6)] h7) →
    S_liveryref01_Is x3 h4 fun (vs14 : List Value) (h15 : Hp) =>
    ∃ b16 : Bool, vs14 = [(Value.bool b16)] ∧
    (if (!b16) = true then (J5 [(Value.bool true)] h15) else
      (S_liveryref01_Bits x3 h15 fun (vs17 : List Value) (h18 : Hp) =>
        ∃ n19 : Int, vs17 = [(Value.int .u64 n19)] ∧
        J5 [(Value.bool (n19 != g0_u))] h18))) → J2 [(Value.float .f64 x3)] h4) →
(if (decide (g0_u ≥ (9223372036854775808 : Int))) = true then
  (S_math_Float64frombits (IntKind.wrap .u64 (g0_u - (9223372036854775808 : Int))) h1 fun (vs20 : List Value) (h21 : Hp) =>
    ∃ x22 : Nat, vs20 = [(Value.float .f64 x22)] ∧
    J2 [(Value.float .f64 x22)] h21) else
  (S_math_Float64frombits (iXor .u64 (IntKind.max .u64) g0_u) h1 fun (vs23 : List Value) (h24 : Hp) =>
    ∃ x25 : Nat, vs23 = [(Value.float .f64 x25)] ∧
    J2 [(Value.float .f64 x25)] h24))
def A_liveryref01_From : Ann := (.mk none ⟨[], []⟩ .nil (.mk none ⟨[], []⟩ .nil (.mk none ⟨[], []⟩ (.mk none ⟨[], []⟩ .nil (.mk (some ⟨[0, 2], [(3, (.c (.flt .f64)))]⟩) ⟨[], []⟩ .nil .nil)) (.mk none ⟨[], []⟩ (.mk none ⟨[], []⟩ (.mk (some ⟨[2, 3], [(20, (.c .bool))]⟩) ⟨[], []⟩ .nil .nil) .nil) .nil))))
theorem E_liveryref01_From (g0_u : Int) (h : Hp) (Q : List Value → Hp → Prop) : cw PP 24 (fun _ => []) (bodyOf Tryz.f96) A_liveryref01_From (finQ PP (Tryz.f96.results.toList) Q) (argFr [(Value.int .u64 g0_u)]) h = F_liveryref01_From g0_u h Q := by kernel_rfl
theorem O_liveryref01_From (g0_u : Int) {h : Hp} {Q : List Value → Hp → Prop} (H : F_liveryref01_From g0_u h Q) : S_liveryref01_From g0_u h Q :=
  fn_of_cw (hs := (fun _ => [])) (ann := A_liveryref01_From) (args := [(Value.int .u64 g0_u)]) mixedPP Tryz.func96 (c := bodyOf Tryz.f96) (by kernel_rfl) (by kernel_rfl) (by kernel_rfl) (Eq.mpr (E_liveryref01_From g0_u h Q) H)
def F_liveryref03_text (g0_k : ByteArray) (h : Hp) (Q : List Value → Hp → Prop) : Prop :=
wth (Array.push h (Obj.cells #[(Value.int .i64 (0 : Int)), (Value.int .i64 (0 : Int)), (Value.float .f64 0), (Value.string (ByteArray.mk #[])), (Value.int .i64 (0 : Int))] T_liveryref02_Read)) fun h1 =>
∀ X2 : List Value → Hp → Prop, (∀ l3 : Sl, ∀ n4 : Int, ∀ h5 : Hp, ((if (decide (n4 < (ByteArray.size g0_k : Int))) = true then
      (∀ J6 : List Value → Hp → Prop, (∀ l7 : Sl, ∀ n8 : Int, ∀ h9 : Hp, (X2 [(Value.slice l7.a l7.n l7.c), (Value.int .i64 (IntKind.wrap .i64 (n8 + (1 : Int))))] h9) → J6 [(Value.slice l7.a l7.n l7.c), (Value.int .i64 n8)] h9) →
        ixOk n4 (ByteArray.size g0_k) ((if ((strIx g0_k n4) != (0 : Int)) = true then
            (ixOk n4 (ByteArray.size g0_k) (wth (Array.push h5 (Obj.cells #[(Value.int .u8 (strIx g0_k n4))] T_uint8)) fun h10 =>
                ∃ cs13 : List Value, cellsAt h10 (some (Addr.mk (Array.size h5) 0 none)) (1 * 1) cs13 ∧ appS PP T_uint8 1 1 h10 ⟨l3.a, l3.n, l3.c⟩ 1 cs13 fun (l11 : Sl) (h12 : Hp) =>
                J6 [(Value.slice l11.a l11.n l11.c), (Value.int .i64 n4)] h12)) else
            ((if ((IntKind.wrap .i64 (n4 + (1 : Int))) == (ByteArray.size g0_k : Int)) = true then
                (stOk h5 (Addr.mk (Array.size h) 0 none) 5 ∧ wth (wrs h5 (Addr.mk (Array.size h) 0 none) 0 [(Value.int .i64 (0 : Int)), (Value.int .i64 (0 : Int)), (Value.float .f64 0), (Value.string (ByteArray.mk #[])), (Value.int .i64 (0 : Int))]) fun h14 =>
                  ∃ n15 : Int, rd h14 (Addr.add (Addr.mk (Array.size h) 0 none) 0) = some (Value.int .i64 n15) ∧ ∃ n16 : Int, rd h14 (Addr.add (Addr.mk (Array.size h) 0 none) 1) = some (Value.int .i64 n16) ∧ ∃ x17 : Nat, rd h14 (Addr.add (Addr.mk (Array.size h) 0 none) 2) = some (Value.float .f64 x17) ∧ ∃ s18 : ByteArray, rd h14 (Addr.add (Addr.mk (Array.size h) 0 none) 3) = some (Value.string s18) ∧ ∃ n19 : Int, rd h14 (Addr.add (Addr.mk (Array.size h) 0 none) 4) = some (Value.int .i64 n19) ∧ Q [(Value.agg #[(Value.int .i64 n15), (Value.int .i64 n16), (Value.float .f64 x17), (Value.string s18), (Value.int .i64 n19)])] h14) else
                (ixOk (IntKind.wrap .i64 (n4 + (1 : Int))) (ByteArray.size g0_k) ((if ((strIx g0_k (IntKind.wrap .i64 (n4 + (1 : Int)))) == (1 : Int)) = true then
                      (∃ s20 : ByteArray, bytesAt h5 l3.a l3.n s20 ∧
                        stOk h5 (Addr.mk (Array.size h) 0 none) 5 ∧ wth (wrs h5 (Addr.mk (Array.size h) 0 none) 0 [(Value.int .i64 (0 : Int)), (Value.int .i64 (0 : Int)), (Value.float .f64 0), (Value.string s20), (Value.int .i64 (IntKind.wrap .i64 (n4 + (2 : Int))))]) fun h21 =>
                        ∃ n22 : Int, rd h21 (Addr.add (Addr.mk (Array.size h) 0 none) 0) = some (Value.int .i64 n22) ∧ ∃ n23 : Int, rd h21 (Addr.add (Addr.mk (Array.size h) 0 none) 1) = some (Value.int .i64 n23) ∧ ∃ x24 : Nat, rd h21 (Addr.add (Addr.mk (Array.size h) 0 none) 2) = some (Value.float .f64 x24) ∧ ∃ s25 : ByteArray, rd h21 (Addr.add (Addr.mk (Array.size h) 0 none) 3) = some (Value.string s25) ∧ ∃ n26 : Int, rd h21 (Addr.add (Addr.mk (Array.size h) 0 none) 4) = some (Value.int .i64 n26) ∧ Q [(Value.agg #[(Value.int .i64 n22), (Value.int .i64 n23), (Value.float .f64 x24), (Value.string s25), (Value.int .i64 n26)])] h21) else
                      (ixOk (IntKind.wrap .i64 (n4 + (1 : Int))) (ByteArray.size g0_k) ((if ((strIx g0_k (IntKind.wrap .i64 (n4 + (1 : Int)))) != (255 : Int)) = true then
                            (stOk h5 (Addr.mk (Array.size h) 0 none) 5 ∧ wth (wrs h5 (Addr.mk (Array.size h) 0 none) 0 [(Value.int .i64 (0 : Int)), (Value.int .i64 (0 : Int)), (Value.float .f64 0), (Value.string (ByteArray.mk #[])), (Value.int .i64 (0 : Int))]) fun h27 =>
                              ∃ n28 : Int, rd h27 (Addr.add (Addr.mk (Array.size h) 0 none) 0) = some (Value.int .i64 n28) ∧ ∃ n29 : Int, rd h27 (Addr.add (Addr.mk (Array.size h) 0 none) 1) = some (Value.int .i64 n29) ∧ ∃ x30 : Nat, rd h27 (Addr.add (Addr.mk (Array.size h) 0 none) 2) = some (Value.float .f64 x30) ∧ ∃ s31 : ByteArray, rd h27 (Addr.add (Addr.mk (Array.size h) 0 none) 3) = some (Value.string s31) ∧ ∃ n32 : Int, rd h27 (Addr.add (Addr.mk (Array.size h) 0 none) 4) = some (Value.int .i64 n32) ∧ Q [(Value.agg #[(Value.int .i64 n28), (Value.int .i64 n29), (Value.float .f64 x30), (Value.string s31), (Value.int .i64 n32)])] h27) else
                            (wth (Array.push h5 (Obj.cells #[(Value.int .u8 (0 : Int))] T_uint8)) fun h33 =>
                              ∃ cs36 : List Value, cellsAt h33 (some (Addr.mk (Array.size h5) 0 none)) (1 * 1) cs36 ∧ appS PP T_uint8 1 1 h33 ⟨l3.a, l3.n, l3.c⟩ 1 cs36 fun (l34 : Sl) (h35 : Hp) =>
                              J6 [(Value.slice l34.a l34.n l34.c), (Value.int .i64 (IntKind.wrap .i64 (n4 + (1 : Int))))] h35)))))))))))) else
      (stOk h5 (Addr.mk (Array.size h) 0 none) 5 ∧ wth (wrs h5 (Addr.mk (Array.size h) 0 none) 0 [(Value.int .i64 (0 : Int)), (Value.int .i64 (0 : Int)), (Value.float .f64 0), (Value.string (ByteArray.mk #[])), (Value.int .i64 (0 : Int))]) fun h37 =>
        ∃ n38 : Int, rd h37 (Addr.add (Addr.mk (Array.size h) 0 none) 0) = some (Value.int .i64 n38) ∧ ∃ n39 : Int, rd h37 (Addr.add (Addr.mk (Array.size h) 0 none) 1) = some (Value.int .i64 n39) ∧ ∃ x40 : Nat, rd h37 (Addr.add (Addr.mk (Array.size h) 0 none) 2) = some (Value.float .f64 x40) ∧ ∃ s41 : ByteArray, rd h37 (Addr.add (Addr.mk (Array.size h) 0 none) 3) = some (Value.string s41) ∧ ∃ n42 : Int, rd h37 (Addr.add (Addr.mk (Array.size h) 0 none) 4) = some (Value.int .i64 n42) ∧ Q [(Value.agg #[(Value.int .i64 n38), (Value.int .i64 n39), (Value.float .f64 x40), (Value.string s41), (Value.int .i64 n42)])] h37))) → X2 [(Value.slice l3.a l3.n l3.c), (Value.int .i64 n4)] h5) →
X2 [(Value.slice none 0 0), (Value.int .i64 (0 : Int))] h1
def A_liveryref03_text : Ann := (.mk none ⟨[], []⟩ .nil (.mk none ⟨[], []⟩ .nil (.mk none ⟨[], []⟩ (.mk none ⟨[], []⟩ .nil (.mk none ⟨[], []⟩ (.mk none ⟨[0, 2], [(3, (.c .sl)), (4, (.c (.int .i64)))]⟩ (.mk none ⟨[], []⟩ .nil (.mk none ⟨[], []⟩ (.mk (some ⟨[0, 2], [(3, (.c .sl)), (4, (.c (.int .i64)))]⟩) ⟨[], []⟩ .nil .nil) .nil)) .nil) .nil)) .nil)))
theorem E_liveryref03_text (g0_k : ByteArray) (h : Hp) (Q : List Value → Hp → Prop) : cw PP 50 (fun _ => []) (bodyOf Tryz.f97) A_liveryref03_text (finQ PP (Tryz.f97.results.toList) Q) (argFr [(Value.string g0_k)]) h = F_liveryref03_text g0_k h Q := by kernel_rfl
theorem O_liveryref03_text (g0_k : ByteArray) {h : Hp} {Q : List Value → Hp → Prop} (H : F_liveryref03_text g0_k h Q) : S_liveryref03_text g0_k h Q :=
  fn_of_cw (hs := (fun _ => [])) (ann := A_liveryref03_text) (args := [(Value.string g0_k)]) mixedPP Tryz.func97 (c := bodyOf Tryz.f97) (by kernel_rfl) (by kernel_rfl) (by kernel_rfl) (Eq.mpr (E_liveryref03_text g0_k h Q) H)
end Go.Lift

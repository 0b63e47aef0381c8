/- Printed by lift.py: each Go function of this seat as a Prop over the heap, and that the Go code comes to it. -/
import Derived.Test.YtgmnomkhmdeapaaDoorLvL
import Derived.Test.YtgmnomkhmdeapaaDoorProg
set_option linter.unusedSimpArgs false
set_option linter.unusedVariables false
namespace Go.Lift
open Go Go.Proofs
set_option maxRecDepth 100000
noncomputable abbrev PP : Program := Tryd.prog
theorem mixedPP : PP.follows .mixedOrders = true := by kernel_rfl
def bodyOf (f : Func) : Code := f.body.getD .skip
abbrev T_uint8 : TypeId := 5
abbrev T_string : TypeId := 9
abbrev T_api_Value : TypeId := 24
abbrev T_2_uint16 : TypeId := 26
abbrev T_2_api_Value : TypeId := 41
abbrev T_2_string : TypeId := 42
abbrev T_liveryref03_Got : TypeId := 47
abbrev T_liveryref02_Read : TypeId := 68
abbrev T_value_own : TypeId := 72
abbrev T_liveryref01_Got : TypeId := 86
abbrev T_strings_Builder : TypeId := 92
abbrev T_utf8_acceptRange : TypeId := 112
/-- main.main -/
def S_main_main (h : Hp) (Q : List Value → Hp → Prop) : Prop := Fn PP 0 #[] h Q
/-- gosem.cut -/
def S_gosem_cut (h : Hp) (Q : List Value → Hp → Prop) : Prop := Fn PP 1 #[] h Q
/-- gosem.cut.init -/
def S_gosem_cut_init (h : Hp) (Q : List Value → Hp → Prop) : Prop := Fn PP 2 #[] h Q
/-- math.Float64bits -/
def S_math_Float64bits (g0_x : Nat) (h : Hp) (Q : List Value → Hp → Prop) : Prop := Fn PP 35 #[(Value.float .f64 g0_x)] h Q
/-- livery/liveryref02.plain -/
def S_liveryref02_plain (g0_f : Nat) (h : Hp) (Q : List Value → Hp → Prop) : Prop := Fn PP 26 #[(Value.float .f64 g0_f)] h Q
/-- math.IsNaN -/
def S_math_IsNaN (g0_f : Nat) (h : Hp) (Q : List Value → Hp → Prop) : Prop := Fn PP 55 #[(Value.float .f64 g0_f)] h Q
/-- math.Float64frombits -/
def S_math_Float64frombits (g0_x : Int) (h : Hp) (Q : List Value → Hp → Prop) : Prop := Fn PP 56 #[(Value.int .u64 g0_x)] h Q
/-- livery/liveryref01.Canon -/
def S_liveryref01_Canon (g0_f : Nat) (h : Hp) (Q : List Value → Hp → Prop) : Prop := Fn PP 39 #[(Value.float .f64 g0_f)] h Q
/-- livery/liveryref01.Is -/
def S_liveryref01_Is (g0_f : Nat) (h : Hp) (Q : List Value → Hp → Prop) : Prop := Fn PP 27 #[(Value.float .f64 g0_f)] h Q
/-- livery/liveryref02.Good -/
def S_liveryref02_Good (g0_v_0 : Int) (g0_v_1 : Int) (g0_v_2 : Nat) (g0_v_3 : ByteArray) (h : Hp) (Q : List Value → Hp → Prop) : Prop := Fn PP 9 #[(Value.agg #[(Value.int .i64 g0_v_0), (Value.int .i64 g0_v_1), (Value.float .f64 g0_v_2), (Value.string g0_v_3)])] h Q
/-- livery/value.Good -/
def S_value_Good (g0_v_0 : Int) (g0_v_1 : Int) (g0_v_2 : Nat) (g0_v_3 : ByteArray) (h : Hp) (Q : List Value → Hp → Prop) : Prop := Fn PP 28 #[(Value.agg #[(Value.int .i64 g0_v_0), (Value.int .i64 g0_v_1), (Value.float .f64 g0_v_2), (Value.string g0_v_3)])] h Q
/-- strings.Join -/
def S_strings_Join (g0_elems : Sl) (g1_sep : ByteArray) (h : Hp) (Q : List Value → Hp → Prop) : Prop := Fn PP 45 #[(Value.slice g0_elems.a g0_elems.n g0_elems.c), (Value.string g1_sep)] h Q
/-- livery/key.joined -/
def S_key_joined (g0_l : Sl) (h : Hp) (Q : List Value → Hp → Prop) : Prop := Fn PP 29 #[(Value.slice g0_l.a g0_l.n g0_l.c)] h Q
/-- livery/key.eight -/
def S_key_eight (g0_u : Int) (h : Hp) (Q : List Value → Hp → Prop) : Prop := Fn PP 30 #[(Value.int .u64 g0_u)] h Q
/-- livery/float.Canon -/
def S_float_Canon (g0_f : Nat) (h : Hp) (Q : List Value → Hp → Prop) : Prop := Fn PP 46 #[(Value.float .f64 g0_f)] h Q
/-- livery/float.Bits -/
def S_float_Bits (g0_f : Nat) (h : Hp) (Q : List Value → Hp → Prop) : Prop := Fn PP 31 #[(Value.float .f64 g0_f)] h Q
/-- internal/bytealg.MakeNoZero -/
def S_internal_bytealg_MakeNoZero (g0_x : Int) (h : Hp) (Q : List Value → Hp → Prop) : Prop := Fn PP 75 #[(Value.int .i64 g0_x)] h Q
/-- (*strings.Builder).grow -/
def S_strings_Builder_grow (g0_b : Option Addr) (g1_n : Int) (h : Hp) (Q : List Value → Hp → Prop) : Prop := Fn PP 68 #[(Value.pointer g0_b), (Value.int .i64 g1_n)] h Q
/-- (*strings.Builder).Grow -/
def S_strings_Builder_Grow (g0_b : Option Addr) (g1_n : Int) (h : Hp) (Q : List Value → Hp → Prop) : Prop := Fn PP 59 #[(Value.pointer g0_b), (Value.int .i64 g1_n)] h Q
/-- (*strings.Builder).WriteString -/
def S_strings_Builder_WriteString (g0_b : Option Addr) (g1_s : ByteArray) (h : Hp) (Q : List Value → Hp → Prop) : Prop := Fn PP 60 #[(Value.pointer g0_b), (Value.string g1_s)] h Q
/-- (*strings.Builder).String -/
def S_strings_Builder_String (g0_b : Option Addr) (h : Hp) (Q : List Value → Hp → Prop) : Prop := Fn PP 61 #[(Value.pointer g0_b)] h Q
/-- internal/bytealg.IndexByteString -/
def S_internal_bytealg_IndexByteString (g0_x : ByteArray) (g1_x : Int) (h : Hp) (Q : List Value → Hp → Prop) : Prop := Fn PP 79 #[(Value.string g0_x), (Value.int .u8 g1_x)] h Q
/-- internal/stringslite.IndexByte -/
def S_internal_stringslite_IndexByte (g0_s : ByteArray) (g1_c : Int) (h : Hp) (Q : List Value → Hp → Prop) : Prop := Fn PP 73 #[(Value.string g0_s), (Value.int .u8 g1_c)] h Q
/-- internal/bytealg.IndexString -/
def S_internal_bytealg_IndexString (g0_x : ByteArray) (g1_x : ByteArray) (h : Hp) (Q : List Value → Hp → Prop) : Prop := Fn PP 76 #[(Value.string g0_x), (Value.string g1_x)] h Q
/-- internal/bytealg.Cutover -/
def S_internal_bytealg_Cutover (g0_n : Int) (h : Hp) (Q : List Value → Hp → Prop) : Prop := Fn PP 77 #[(Value.int .i64 g0_n)] h Q
/-- internal/bytealg.hashStr[string] -/
def S_internal_bytealg_hashStr_string (g0_sep : ByteArray) (h : Hp) (Q : List Value → Hp → Prop) : Prop := Fn PP 80 #[(Value.string g0_sep)] h Q
/-- internal/bytealg.IndexRabinKarp[string] -/
def S_internal_bytealg_IndexRabinKarp_string (g0_s : ByteArray) (g1_sep : ByteArray) (h : Hp) (Q : List Value → Hp → Prop) : Prop := Fn PP 78 #[(Value.string g0_s), (Value.string g1_sep)] h Q
/-- internal/stringslite.Index -/
def S_internal_stringslite_Index (g0_s : ByteArray) (g1_substr : ByteArray) (h : Hp) (Q : List Value → Hp → Prop) : Prop := Fn PP 71 #[(Value.string g0_s), (Value.string g1_substr)] h Q
/-- strings.Index -/
def S_strings_Index (g0_s : ByteArray) (g1_substr : ByteArray) (h : Hp) (Q : List Value → Hp → Prop) : Prop := Fn PP 63 #[(Value.string g0_s), (Value.string g1_substr)] h Q
/-- unicode/utf8.RuneCountInString -/
def S_unicode_utf8_RuneCountInString (g0_s : ByteArray) (h : Hp) (Q : List Value → Hp → Prop) : Prop := Fn PP 69 #[(Value.string g0_s)] h Q
/-- internal/bytealg.CountString -/
def S_internal_bytealg_CountString (g0_x : ByteArray) (g1_x : Int) (h : Hp) (Q : List Value → Hp → Prop) : Prop := Fn PP 70 #[(Value.string g0_x), (Value.int .u8 g1_x)] h Q
/-- strings.Count -/
def S_strings_Count (g0_s : ByteArray) (g1_substr : ByteArray) (h : Hp) (Q : List Value → Hp → Prop) : Prop := Fn PP 62 #[(Value.string g0_s), (Value.string g1_substr)] h Q
/-- unicode/utf8.decodeRuneInStringSlow -/
def S_unicode_utf8_decodeRuneInStringSlow (g0_s : ByteArray) (h : Hp) (Q : List Value → Hp → Prop) : Prop := Fn PP 72 #[(Value.string g0_s)] h Q
/-- unicode/utf8.DecodeRuneInString -/
def S_unicode_utf8_DecodeRuneInString (g0_s : ByteArray) (h : Hp) (Q : List Value → Hp → Prop) : Prop := Fn PP 64 #[(Value.string g0_s)] h Q
/-- strings.Replace -/
def S_strings_Replace (g0_s : ByteArray) (g1_old : ByteArray) (g2_new : ByteArray) (g3_n : Int) (h : Hp) (Q : List Value → Hp → Prop) : Prop := Fn PP 47 #[(Value.string g0_s), (Value.string g1_old), (Value.string g2_new), (Value.int .i64 g3_n)] h Q
/-- strings.ReplaceAll -/
def S_strings_ReplaceAll (g0_s : ByteArray) (g1_old : ByteArray) (g2_new : ByteArray) (h : Hp) (Q : List Value → Hp → Prop) : Prop := Fn PP 32 #[(Value.string g0_s), (Value.string g1_old), (Value.string g2_new)] h Q
/-- livery/key.Of -/
def S_key_Of (g0_v_0 : Int) (g0_v_1 : Int) (g0_v_2 : Nat) (g0_v_3 : ByteArray) (h : Hp) (Q : List Value → Hp → Prop) : Prop := Fn PP 11 #[(Value.agg #[(Value.int .i64 g0_v_0), (Value.int .i64 g0_v_1), (Value.float .f64 g0_v_2), (Value.string g0_v_3)])] h Q
/-- livery/key.Entry -/
def S_key_Entry (g0_v_0 : Int) (g0_v_1 : Int) (g0_v_2 : Nat) (g0_v_3 : ByteArray) (g1_n : Int) (h : Hp) (Q : List Value → Hp → Prop) : Prop := Fn PP 12 #[(Value.agg #[(Value.int .i64 g0_v_0), (Value.int .i64 g0_v_1), (Value.float .f64 g0_v_2), (Value.string g0_v_3)]), (Value.int .i64 g1_n)] h Q
/-- livery/key.wide -/
def S_key_wide (g0_s : ByteArray) (h : Hp) (Q : List Value → Hp → Prop) : Prop := Fn PP 49 #[(Value.string g0_s)] h Q
/-- livery/float.Is -/
def S_float_Is (g0_f : Nat) (h : Hp) (Q : List Value → Hp → Prop) : Prop := Fn PP 58 #[(Value.float .f64 g0_f)] h Q
/-- livery/float.From -/
def S_float_From (g0_u : Int) (h : Hp) (Q : List Value → Hp → Prop) : Prop := Fn PP 50 #[(Value.int .u64 g0_u)] h Q
/-- strings.IndexByte -/
def S_strings_IndexByte (g0_s : ByteArray) (g1_c : Int) (h : Hp) (Q : List Value → Hp → Prop) : Prop := Fn PP 65 #[(Value.string g0_s), (Value.int .u8 g1_c)] h Q
/-- (*strings.Builder).WriteByte -/
def S_strings_Builder_WriteByte (g0_b : Option Addr) (g1_c : Int) (h : Hp) (Q : List Value → Hp → Prop) : Prop := Fn PP 66 #[(Value.pointer g0_b), (Value.int .u8 g1_c)] h Q
/-- livery/key.text -/
def S_key_text (g0_s : ByteArray) (h : Hp) (Q : List Value → Hp → Prop) : Prop := Fn PP 51 #[(Value.string g0_s)] h Q
/-- livery/key.first -/
def S_key_first (g0_k : ByteArray) (h : Hp) (Q : List Value → Hp → Prop) : Prop := Fn PP 34 #[(Value.string g0_k)] h Q
/-- livery/key.Split -/
def S_key_Split (g0_e : ByteArray) (h : Hp) (Q : List Value → Hp → Prop) : Prop := Fn PP 15 #[(Value.string g0_e)] h Q
/-- livery/liverylaw03.wakes -/
def S_liverylaw03_wakes (h : Hp) (Q : List Value → Hp → Prop) : Prop := Fn PP 10 #[] h Q
/-- livery/liveryref01.rank -/
def S_liveryref01_rank (g0_f : Nat) (h : Hp) (Q : List Value → Hp → Prop) : Prop := Fn PP 48 #[(Value.float .f64 g0_f)] h Q
/-- livery/liveryref01.Compare -/
def S_liveryref01_Compare (g0_a : Nat) (g1_b : Nat) (h : Hp) (Q : List Value → Hp → Prop) : Prop := Fn PP 33 #[(Value.float .f64 g0_a), (Value.float .f64 g1_b)] h Q
/-- livery/liveryref02.Compare -/
def S_liveryref02_Compare (g0_a_0 : Int) (g0_a_1 : Int) (g0_a_2 : Nat) (g0_a_3 : ByteArray) (g1_b_0 : Int) (g1_b_1 : Int) (g1_b_2 : Nat) (g1_b_3 : ByteArray) (h : Hp) (Q : List Value → Hp → Prop) : Prop := Fn PP 13 #[(Value.agg #[(Value.int .i64 g0_a_0), (Value.int .i64 g0_a_1), (Value.float .f64 g0_a_2), (Value.string g0_a_3)]), (Value.agg #[(Value.int .i64 g1_b_0), (Value.int .i64 g1_b_1), (Value.float .f64 g1_b_2), (Value.string g1_b_3)])] h Q
/-- livery/liverylaw03.KeyOrder -/
def S_liverylaw03_KeyOrder (g0_a_0 : Int) (g0_a_1 : Int) (g0_a_2 : Nat) (g0_a_3 : ByteArray) (g1_b_0 : Int) (g1_b_1 : Int) (g1_b_2 : Nat) (g1_b_3 : ByteArray) (g2_w_0 : Int) (g2_w_1 : Int) (h : Hp) (Q : List Value → Hp → Prop) : Prop := Fn PP 3 #[(Value.agg #[(Value.int .i64 g0_a_0), (Value.int .i64 g0_a_1), (Value.float .f64 g0_a_2), (Value.string g0_a_3)]), (Value.agg #[(Value.int .i64 g1_b_0), (Value.int .i64 g1_b_1), (Value.float .f64 g1_b_2), (Value.string g1_b_3)]), (Value.agg #[(Value.int .u16 g2_w_0), (Value.int .u16 g2_w_1)])] h Q
/-- livery/liverykeep.LargeValue -/
def S_liverykeep_LargeValue (g0_v_0 : Int) (g0_v_1 : Int) (g0_v_2 : Nat) (g0_v_3 : ByteArray) (h : Hp) (Q : List Value → Hp → Prop) : Prop := Fn PP 14 #[(Value.agg #[(Value.int .i64 g0_v_0), (Value.int .i64 g0_v_1), (Value.float .f64 g0_v_2), (Value.string g0_v_3)])] h Q
/-- livery/liverykeep.Value -/
def S_liverykeep_Value (g0_a_0 : Int) (g0_a_1 : Int) (g0_a_2 : Nat) (g0_a_3 : ByteArray) (g1_b_0 : Int) (g1_b_1 : Int) (g1_b_2 : Nat) (g1_b_3 : ByteArray) (h : Hp) (Q : List Value → Hp → Prop) : Prop := Fn PP 16 #[(Value.agg #[(Value.int .i64 g0_a_0), (Value.int .i64 g0_a_1), (Value.float .f64 g0_a_2), (Value.string g0_a_3)]), (Value.agg #[(Value.int .i64 g1_b_0), (Value.int .i64 g1_b_1), (Value.float .f64 g1_b_2), (Value.string g1_b_3)])] h Q
/-- livery/key.Value -/
def S_key_Value (g0_k : ByteArray) (h : Hp) (Q : List Value → Hp → Prop) : Prop := Fn PP 17 #[(Value.string g0_k)] h Q
/-- livery/liverylaw03.KeyBack -/
def S_liverylaw03_KeyBack (g0_v_0 : Int) (g0_v_1 : Int) (g0_v_2 : Nat) (g0_v_3 : ByteArray) (g1_n : Int) (g2_k : ByteArray) (h : Hp) (Q : List Value → Hp → Prop) : Prop := Fn PP 4 #[(Value.agg #[(Value.int .i64 g0_v_0), (Value.int .i64 g0_v_1), (Value.float .f64 g0_v_2), (Value.string g0_v_3)]), (Value.int .u16 g1_n), (Value.string g2_k)] h Q
/-- livery/liverylaw03.KeyBegins -/
def S_liverylaw03_KeyBegins (g0_a_0 : Int) (g0_a_1 : Int) (g0_a_2 : Nat) (g0_a_3 : ByteArray) (g0_a_4 : Int) (g0_a_5 : Int) (g0_a_6 : Nat) (g0_a_7 : ByteArray) (g1_b_0 : Int) (g1_b_1 : Int) (g1_b_2 : Nat) (g1_b_3 : ByteArray) (g1_b_4 : Int) (g1_b_5 : Int) (g1_b_6 : Nat) (g1_b_7 : ByteArray) (h : Hp) (Q : List Value → Hp → Prop) : Prop := Fn PP 5 #[(Value.agg #[(Value.int .i64 g0_a_0), (Value.int .i64 g0_a_1), (Value.float .f64 g0_a_2), (Value.string g0_a_3), (Value.int .i64 g0_a_4), (Value.int .i64 g0_a_5), (Value.float .f64 g0_a_6), (Value.string g0_a_7)]), (Value.agg #[(Value.int .i64 g1_b_0), (Value.int .i64 g1_b_1), (Value.float .f64 g1_b_2), (Value.string g1_b_3), (Value.int .i64 g1_b_4), (Value.int .i64 g1_b_5), (Value.float .f64 g1_b_6), (Value.string g1_b_7)])] h Q
/-- livery/liveryref02.Number -/
def S_liveryref02_Number (g0_s : ByteArray) (h : Hp) (Q : List Value → Hp → Prop) : Prop := Fn PP 52 #[(Value.string g0_s)] h Q
/-- livery/liveryref01.Bits -/
def S_liveryref01_Bits (g0_f : Nat) (h : Hp) (Q : List Value → Hp → Prop) : Prop := Fn PP 38 #[(Value.float .f64 g0_f)] h Q
/-- livery/liveryref01.From -/
def S_liveryref01_From (g0_u : Int) (h : Hp) (Q : List Value → Hp → Prop) : Prop := Fn PP 53 #[(Value.int .u64 g0_u)] h Q
/-- livery/liveryref03.text -/
def S_liveryref03_text (g0_k : ByteArray) (h : Hp) (Q : List Value → Hp → Prop) : Prop := Fn PP 54 #[(Value.string g0_k)] h Q
/-- livery/liveryref03.read -/
def S_liveryref03_read (g0_k : ByteArray) (h : Hp) (Q : List Value → Hp → Prop) : Prop := Fn PP 36 #[(Value.string g0_k)] h Q
/-- livery/liveryref03.Value -/
def S_liveryref03_Value (g0_k : ByteArray) (h : Hp) (Q : List Value → Hp → Prop) : Prop := Fn PP 18 #[(Value.string g0_k)] h Q
/-- livery/liveryref03.Split -/
def S_liveryref03_Split (g0_e : ByteArray) (h : Hp) (Q : List Value → Hp → Prop) : Prop := Fn PP 19 #[(Value.string g0_e)] h Q
/-- livery/liverylaw03.KeyReads -/
def S_liverylaw03_KeyReads (g0_k : ByteArray) (h : Hp) (Q : List Value → Hp → Prop) : Prop := Fn PP 6 #[(Value.string g0_k)] h Q
/-- livery/liveryref02.Eight -/
def S_liveryref02_Eight (g0_u : Int) (h : Hp) (Q : List Value → Hp → Prop) : Prop := Fn PP 37 #[(Value.int .u64 g0_u)] h Q
/-- livery/liveryref03.Of -/
def S_liveryref03_Of (g0_v_0 : Int) (g0_v_1 : Int) (g0_v_2 : Nat) (g0_v_3 : ByteArray) (h : Hp) (Q : List Value → Hp → Prop) : Prop := Fn PP 20 #[(Value.agg #[(Value.int .i64 g0_v_0), (Value.int .i64 g0_v_1), (Value.float .f64 g0_v_2), (Value.string g0_v_3)])] h Q
/-- livery/liveryref03.Entry -/
def S_liveryref03_Entry (g0_v_0 : Int) (g0_v_1 : Int) (g0_v_2 : Nat) (g0_v_3 : ByteArray) (g1_n : Int) (h : Hp) (Q : List Value → Hp → Prop) : Prop := Fn PP 21 #[(Value.agg #[(Value.int .i64 g0_v_0), (Value.int .i64 g0_v_1), (Value.float .f64 g0_v_2), (Value.string g0_v_3)]), (Value.int .i64 g1_n)] h Q
/-- livery/key.Least -/
def S_key_Least (g0_v_0 : Int) (g0_v_1 : Int) (g0_v_2 : Nat) (g0_v_3 : ByteArray) (h : Hp) (Q : List Value → Hp → Prop) : Prop := Fn PP 22 #[(Value.agg #[(Value.int .i64 g0_v_0), (Value.int .i64 g0_v_1), (Value.float .f64 g0_v_2), (Value.string g0_v_3)])] h Q
/-- livery/liveryref03.Least -/
def S_liveryref03_Least (g0_v_0 : Int) (g0_v_1 : Int) (g0_v_2 : Nat) (g0_v_3 : ByteArray) (h : Hp) (Q : List Value → Hp → Prop) : Prop := Fn PP 23 #[(Value.agg #[(Value.int .i64 g0_v_0), (Value.int .i64 g0_v_1), (Value.float .f64 g0_v_2), (Value.string g0_v_3)])] h Q
/-- livery/key.After -/
def S_key_After (g0_v_0 : Int) (g0_v_1 : Int) (g0_v_2 : Nat) (g0_v_3 : ByteArray) (h : Hp) (Q : List Value → Hp → Prop) : Prop := Fn PP 24 #[(Value.agg #[(Value.int .i64 g0_v_0), (Value.int .i64 g0_v_1), (Value.float .f64 g0_v_2), (Value.string g0_v_3)])] h Q
/-- livery/liveryref03.After -/
def S_liveryref03_After (g0_v_0 : Int) (g0_v_1 : Int) (g0_v_2 : Nat) (g0_v_3 : ByteArray) (h : Hp) (Q : List Value → Hp → Prop) : Prop := Fn PP 25 #[(Value.agg #[(Value.int .i64 g0_v_0), (Value.int .i64 g0_v_1), (Value.float .f64 g0_v_2), (Value.string g0_v_3)])] h Q
/-- livery/liverylaw03.KeyMakes -/
def S_liverylaw03_KeyMakes (g0_v_0 : Int) (g0_v_1 : Int) (g0_v_2 : Nat) (g0_v_3 : ByteArray) (g1_n : Int) (h : Hp) (Q : List Value → Hp → Prop) : Prop := Fn PP 7 #[(Value.agg #[(Value.int .i64 g0_v_0), (Value.int .i64 g0_v_1), (Value.float .f64 g0_v_2), (Value.string g0_v_3)]), (Value.int .i64 g1_n)] h Q
/-- livery/liverylaw03.KeyBetween -/
def S_liverylaw03_KeyBetween (g0_a_0 : Int) (g0_a_1 : Int) (g0_a_2 : Nat) (g0_a_3 : ByteArray) (g1_b_0 : Int) (g1_b_1 : Int) (g1_b_2 : Nat) (g1_b_3 : ByteArray) (g2_n : Int) (h : Hp) (Q : List Value → Hp → Prop) : Prop := Fn PP 8 #[(Value.agg #[(Value.int .i64 g0_a_0), (Value.int .i64 g0_a_1), (Value.float .f64 g0_a_2), (Value.string g0_a_3)]), (Value.agg #[(Value.int .i64 g1_b_0), (Value.int .i64 g1_b_1), (Value.float .f64 g1_b_2), (Value.string g1_b_3)]), (Value.int .u16 g2_n)] h Q
/-- (livery/value.own).bare -/
def S_value_own_bare (g0_v_0 : Int) (g0_v_1 : Int) (g0_v_2 : Nat) (g0_v_3 : ByteArray) (g1_n : Bool) (g2_f : Bool) (g3_s : Bool) (h : Hp) (Q : List Value → Hp → Prop) : Prop := Fn PP 57 #[(Value.agg #[(Value.int .i64 g0_v_0), (Value.int .i64 g0_v_1), (Value.float .f64 g0_v_2), (Value.string g0_v_3)]), (Value.bool g1_n), (Value.bool g2_f), (Value.bool g3_s)] h Q
/-- (livery/value.own).null -/
def S_value_own_null (g0_v_0 : Int) (g0_v_1 : Int) (g0_v_2 : Nat) (g0_v_3 : ByteArray) (h : Hp) (Q : List Value → Hp → Prop) : Prop := Fn PP 40 #[(Value.agg #[(Value.int .i64 g0_v_0), (Value.int .i64 g0_v_1), (Value.float .f64 g0_v_2), (Value.string g0_v_3)])] h Q
/-- (livery/value.own).bool -/
def S_value_own_bool (g0_v_0 : Int) (g0_v_1 : Int) (g0_v_2 : Nat) (g0_v_3 : ByteArray) (h : Hp) (Q : List Value → Hp → Prop) : Prop := Fn PP 41 #[(Value.agg #[(Value.int .i64 g0_v_0), (Value.int .i64 g0_v_1), (Value.float .f64 g0_v_2), (Value.string g0_v_3)])] h Q
/-- (livery/value.own).int -/
def S_value_own_int (g0_v_0 : Int) (g0_v_1 : Int) (g0_v_2 : Nat) (g0_v_3 : ByteArray) (h : Hp) (Q : List Value → Hp → Prop) : Prop := Fn PP 42 #[(Value.agg #[(Value.int .i64 g0_v_0), (Value.int .i64 g0_v_1), (Value.float .f64 g0_v_2), (Value.string g0_v_3)])] h Q
/-- (livery/value.own).float -/
def S_value_own_float (g0_v_0 : Int) (g0_v_1 : Int) (g0_v_2 : Nat) (g0_v_3 : ByteArray) (h : Hp) (Q : List Value → Hp → Prop) : Prop := Fn PP 43 #[(Value.agg #[(Value.int .i64 g0_v_0), (Value.int .i64 g0_v_1), (Value.float .f64 g0_v_2), (Value.string g0_v_3)])] h Q
/-- (livery/value.own).text -/
def S_value_own_text (g0_v_0 : Int) (g0_v_1 : Int) (g0_v_2 : Nat) (g0_v_3 : ByteArray) (h : Hp) (Q : List Value → Hp → Prop) : Prop := Fn PP 44 #[(Value.agg #[(Value.int .i64 g0_v_0), (Value.int .i64 g0_v_1), (Value.float .f64 g0_v_2), (Value.string g0_v_3)])] h Q
/-- (*strings.Builder).copyCheck -/
def S_strings_Builder_copyCheck (g0_b : Option Addr) (h : Hp) (Q : List Value → Hp → Prop) : Prop := Fn PP 67 #[(Value.pointer g0_b)] h Q
/-- internal/abi.NoEscape -/
def S_internal_abi_NoEscape (g0_x : Option Addr) (h : Hp) (Q : List Value → Hp → Prop) : Prop := Fn PP 74 #[(Value.pointer g0_x)] h Q
/-- (runtime.boundsError).Error -/
def S_runtime_boundsError_Error (g0_x_0 : Int) (g0_x_1 : Int) (g0_x_2 : Bool) (g0_x_3 : Int) (h : Hp) (Q : List Value → Hp → Prop) : Prop := Fn PP 81 #[(Value.agg #[(Value.int .i64 g0_x_0), (Value.int .i64 g0_x_1), (Value.bool g0_x_2), (Value.int .u8 g0_x_3)])] h Q
/-- (runtime.boundsError).RuntimeError -/
def S_runtime_boundsError_RuntimeError (g0_x_0 : Int) (g0_x_1 : Int) (g0_x_2 : Bool) (g0_x_3 : Int) (h : Hp) (Q : List Value → Hp → Prop) : Prop := Fn PP 82 #[(Value.agg #[(Value.int .i64 g0_x_0), (Value.int .i64 g0_x_1), (Value.bool g0_x_2), (Value.int .u8 g0_x_3)])] h Q
/-- (runtime.errorString).Error -/
def S_runtime_errorString_Error (g0_x : ByteArray) (h : Hp) (Q : List Value → Hp → Prop) : Prop := Fn PP 83 #[(Value.string g0_x)] h Q
/-- (runtime.errorString).RuntimeError -/
def S_runtime_errorString_RuntimeError (g0_x : ByteArray) (h : Hp) (Q : List Value → Hp → Prop) : Prop := Fn PP 84 #[(Value.string g0_x)] h Q
/-- (runtime.plainError).Error -/
def S_runtime_plainError_Error (g0_x : ByteArray) (h : Hp) (Q : List Value → Hp → Prop) : Prop := Fn PP 85 #[(Value.string g0_x)] h Q
/-- (runtime.plainError).RuntimeError -/
def S_runtime_plainError_RuntimeError (g0_x : ByteArray) (h : Hp) (Q : List Value → Hp → Prop) : Prop := Fn PP 86 #[(Value.string g0_x)] h Q
/-- (runtime.errorAddressString).Error -/
def S_runtime_errorAddressString_Error (g0_x_0 : ByteArray) (g0_x_1 : Int) (h : Hp) (Q : List Value → Hp → Prop) : Prop := Fn PP 87 #[(Value.agg #[(Value.string g0_x_0), (Value.int .u64 g0_x_1)])] h Q
/-- (runtime.errorAddressString).RuntimeError -/
def S_runtime_errorAddressString_RuntimeError (g0_x_0 : ByteArray) (g0_x_1 : Int) (h : Hp) (Q : List Value → Hp → Prop) : Prop := Fn PP 88 #[(Value.agg #[(Value.string g0_x_0), (Value.int .u64 g0_x_1)])] h Q
/-- (*runtime.TypeAssertionError).Error -/
def S_runtime_TypeAssertionError_Error (g0_x : Option Addr) (h : Hp) (Q : List Value → Hp → Prop) : Prop := Fn PP 89 #[(Value.pointer g0_x)] h Q
/-- (*runtime.TypeAssertionError).RuntimeError -/
def S_runtime_TypeAssertionError_RuntimeError (g0_x : Option Addr) (h : Hp) (Q : List Value → Hp → Prop) : Prop := Fn PP 90 #[(Value.pointer g0_x)] h Q
/-- (*runtime.PanicNilError).Error -/
def S_runtime_PanicNilError_Error (g0_x : Option Addr) (h : Hp) (Q : List Value → Hp → Prop) : Prop := Fn PP 91 #[(Value.pointer g0_x)] h Q
/-- (*runtime.PanicNilError).RuntimeError -/
def S_runtime_PanicNilError_RuntimeError (g0_x : Option Addr) (h : Hp) (Q : List Value → Hp → Prop) : Prop := Fn PP 92 #[(Value.pointer g0_x)] h Q
/-- (*internal/abi.Type).Align -/
def S_internal_abi_Type_Align (g0_x : Option Addr) (h : Hp) (Q : List Value → Hp → Prop) : Prop := Fn PP 93 #[(Value.pointer g0_x)] h Q
/-- (internal/runtime/maps.unhashableTypeError).Error -/
def S_internal_runtime_maps_unhashableTypeError_Error (g0_x_0 : Option Addr) (h : Hp) (Q : List Value → Hp → Prop) : Prop := Fn PP 94 #[(Value.agg #[(Value.pointer g0_x_0)])] h Q
/-- (internal/runtime/maps.unhashableTypeError).RuntimeError -/
def S_internal_runtime_maps_unhashableTypeError_RuntimeError (g0_x_0 : Option Addr) (h : Hp) (Q : List Value → Hp → Prop) : Prop := Fn PP 95 #[(Value.agg #[(Value.pointer g0_x_0)])] h Q
/-- (livery/api.Errno).Error -/
def S_api_Errno_Error (g0_x : Int) (h : Hp) (Q : List Value → Hp → Prop) : Prop := Fn PP 96 #[(Value.int .i64 g0_x)] h Q
/-- (*strings.Builder).Reset -/
def S_strings_Builder_Reset (g0_x : Option Addr) (h : Hp) (Q : List Value → Hp → Prop) : Prop := Fn PP 97 #[(Value.pointer g0_x)] h Q
/-- (internal/abi.Kind).String -/
def S_internal_abi_Kind_String (g0_x : Int) (h : Hp) (Q : List Value → Hp → Prop) : Prop := Fn PP 98 #[(Value.int .u8 g0_x)] h Q
/-- var's door: gosem.cut.vars holds initialisers alone; see the manifest's row cutvarsword (look 11, test files too) -/
def S_var_s_door_gosem_cut_vars_holds_initialisers_alone_see_the_manifest_s_row_cutvarsword_look_11_test_files_too (h : Hp) (Q : List Value → Hp → Prop) : Prop := Fn PP 99 #[] h Q
/-- var's door: the look of gosem.cut.vars went over the folder that the caller named as the repository's root (look 11) -/
def S_var_s_door_the_look_of_gosem_cut_vars_went_over_the_folder_that_the_caller_named_as_the_repository_s_root_look_11 (h : Hp) (Q : List Value → Hp → Prop) : Prop := Fn PP 100 #[] h Q
/-- var's door: unicode/utf8.acceptRanges is laid by its own initialiser, plain data (look 11) -/
def S_var_s_door_unicode_utf8_acceptRanges_is_laid_by_its_own_initialiser_plain_data_look_11 (h : Hp) (Q : List Value → Hp → Prop) : Prop := Fn PP 101 #[] h Q
/-- var's door: unicode/utf8.first is laid by its text alone (pinned 1) -/
def S_var_s_door_unicode_utf8_first_is_laid_by_its_text_alone_pinned_1 (h : Hp) (Q : List Value → Hp → Prop) : Prop := Fn PP 102 #[] h Q
/-- gosem.cut.vars -/
def S_gosem_cut_vars (h : Hp) (Q : List Value → Hp → Prop) : Prop := Fn PP 103 #[] h Q
def F_liveryref02_plain (g0_f : Nat) (h : Hp) (Q : List Value → Hp → Prop) : Prop :=
S_math_Float64bits g0_f h fun (vs1 : List Value) (h2 : Hp) =>
∃ n3 : Int, vs1 = [(Value.int .u64 n3)] ∧
Q [(Value.bool (n3 == (0 : Int)))] h2
def A_liveryref02_plain : Ann := .nil
theorem E_liveryref02_plain (g0_f : Nat) (h : Hp) (Q : List Value → Hp → Prop) : cw PP 6 (fun _ => []) (bodyOf Tryd.f26) A_liveryref02_plain (finQ PP (Tryd.f26.results.toList) Q) (argFr [(Value.float .f64 g0_f)]) h = F_liveryref02_plain g0_f h Q := by kernel_rfl
theorem O_liveryref02_plain (g0_f : Nat) {h : Hp} {Q : List Value → Hp → Prop} (H : F_liveryref02_plain g0_f h Q) : S_liveryref02_plain g0_f h Q :=
  fn_of_cw (hs := (fun _ => [])) (ann := A_liveryref02_plain) (args := [(Value.float .f64 g0_f)]) mixedPP Tryd.func26 (c := bodyOf Tryd.f26) (by kernel_rfl) (by kernel_rfl) (by kernel_rfl) (Eq.mpr (E_liveryref02_plain g0_f h Q) H)
def F_math_IsNaN (g0_f : Nat) (h : Hp) (Q : List Value → Hp → Prop) : Prop :=
Q [(Value.bool ((FloatKind.format .f64).order g0_f g0_f != some .eq))] h
def A_math_IsNaN : Ann := .nil
theorem E_math_IsNaN (g0_f : Nat) (h : Hp) (Q : List Value → Hp → Prop) : cw PP 6 (fun _ => []) (bodyOf Tryd.f55) A_math_IsNaN (finQ PP (Tryd.f55.results.toList) Q) (argFr [(Value.float .f64 g0_f)]) h = F_math_IsNaN g0_f h Q := by kernel_rfl
theorem O_math_IsNaN (g0_f : Nat) {h : Hp} {Q : List Value → Hp → Prop} (H : F_math_IsNaN g0_f h Q) : S_math_IsNaN g0_f h Q :=
  fn_of_cw (hs := (fun _ => [])) (ann := A_math_IsNaN) (args := [(Value.float .f64 g0_f)]) mixedPP Tryd.func55 (c := bodyOf Tryd.f55) (by kernel_rfl) (by kernel_rfl) (by kernel_rfl) (Eq.mpr (E_math_IsNaN g0_f h Q) H)
def F_liveryref01_Canon (g0_f : Nat) (h : Hp) (Q : List Value → Hp → Prop) : Prop :=
S_math_IsNaN g0_f h fun (vs1 : List Value) (h2 : Hp) =>
∃ b3 : Bool, vs1 = [(Value.bool b3)] ∧
(if b3 = true then
  (S_math_Float64frombits (9221120237041090560 : Int) h2 fun (vs4 : List Value) (h5 : Hp) =>
    ∃ x6 : Nat, vs4 = [(Value.float .f64 x6)] ∧
    Q [(Value.float .f64 x6)] h5) else
  ((if ((FloatKind.format .f64).order g0_f 0 == some .eq) = true then
      (Q [(Value.float .f64 0)] h2) else
      (Q [(Value.float .f64 g0_f)] h2))))
def A_liveryref01_Canon : Ann := .nil
theorem E_liveryref01_Canon (g0_f : Nat) (h : Hp) (Q : List Value → Hp → Prop) : cw PP 9 (fun _ => []) (bodyOf Tryd.f39) A_liveryref01_Canon (finQ PP (Tryd.f39.results.toList) Q) (argFr [(Value.float .f64 g0_f)]) h = F_liveryref01_Canon g0_f h Q := by kernel_rfl
theorem O_liveryref01_Canon (g0_f : Nat) {h : Hp} {Q : List Value → Hp → Prop} (H : F_liveryref01_Canon g0_f h Q) : S_liveryref01_Canon g0_f h Q :=
  fn_of_cw (hs := (fun _ => [])) (ann := A_liveryref01_Canon) (args := [(Value.float .f64 g0_f)]) mixedPP Tryd.func39 (c := bodyOf Tryd.f39) (by kernel_rfl) (by kernel_rfl) (by kernel_rfl) (Eq.mpr (E_liveryref01_Canon g0_f h Q) H)
def F_liveryref01_Is (g0_f : Nat) (h : Hp) (Q : List Value → Hp → Prop) : Prop :=
S_math_Float64bits g0_f h fun (vs1 : List Value) (h2 : Hp) =>
∃ n3 : Int, vs1 = [(Value.int .u64 n3)] ∧
S_liveryref01_Canon g0_f h2 fun (vs4 : List Value) (h5 : Hp) =>
∃ x6 : Nat, vs4 = [(Value.float .f64 x6)] ∧
S_math_Float64bits x6 h5 fun (vs7 : List Value) (h8 : Hp) =>
∃ n9 : Int, vs7 = [(Value.int .u64 n9)] ∧
Q [(Value.bool (n3 == n9))] h8
def A_liveryref01_Is : Ann := .nil
theorem E_liveryref01_Is (g0_f : Nat) (h : Hp) (Q : List Value → Hp → Prop) : cw PP 9 (fun _ => []) (bodyOf Tryd.f27) A_liveryref01_Is (finQ PP (Tryd.f27.results.toList) Q) (argFr [(Value.float .f64 g0_f)]) h = F_liveryref01_Is g0_f h Q := by kernel_rfl
theorem O_liveryref01_Is (g0_f : Nat) {h : Hp} {Q : List Value → Hp → Prop} (H : F_liveryref01_Is g0_f h Q) : S_liveryref01_Is g0_f h Q :=
  fn_of_cw (hs := (fun _ => [])) (ann := A_liveryref01_Is) (args := [(Value.float .f64 g0_f)]) mixedPP Tryd.func27 (c := bodyOf Tryd.f27) (by kernel_rfl) (by kernel_rfl) (by kernel_rfl) (Eq.mpr (E_liveryref01_Is g0_f h Q) H)
def F_liveryref02_Good (g0_v_0 : Int) (g0_v_1 : Int) (g0_v_2 : Nat) (g0_v_3 : ByteArray) (h : Hp) (Q : List Value → Hp → Prop) : Prop :=
wth (Array.push h (Obj.cells #[(Value.int .i64 g0_v_0), (Value.int .i64 g0_v_1), (Value.float .f64 g0_v_2), (Value.string g0_v_3)] T_api_Value)) fun h1 =>
∃ n2 : Int, rd h1 (Addr.add (Addr.mk (Array.size h) 0 none) 0) = some (Value.int .i64 n2) ∧
(if (n2 == (0 : Int)) = true then
  (∀ J3 : List Value → Hp → Prop, (∀ b4 : Bool, ∀ h5 : Hp, (Q [(Value.bool b4)] h5) → J3 [(Value.bool b4)] h5) →
    ∃ n6 : Int, rd h1 (Addr.add (Addr.mk (Array.size h) 0 none) 1) = some (Value.int .i64 n6) ∧
    (if (n6 == (0 : Int)) = true then (∃ x7 : Nat, rd h1 (Addr.add (Addr.mk (Array.size h) 0 none) 2) = some (Value.float .f64 x7) ∧
        S_liveryref02_plain x7 h1 fun (vs8 : List Value) (h9 : Hp) =>
        ∃ b10 : Bool, vs8 = [(Value.bool b10)] ∧
        (if b10 = true then (∃ s11 : ByteArray, rd h9 (Addr.add (Addr.mk (Array.size h) 0 none) 3) = some (Value.string s11) ∧
            J3 [(Value.bool ((ByteArray.toList s11) == (ByteArray.toList (ByteArray.mk #[]))))] h9) else
          (J3 [(Value.bool false)] h9))) else
      (J3 [(Value.bool false)] h1))) else
  ((if (n2 == (1 : Int)) = true then
      (∀ J12 : List Value → Hp → Prop, (∀ b13 : Bool, ∀ h14 : Hp, (Q [(Value.bool b13)] h14) → J12 [(Value.bool b13)] h14) →
        ∃ n15 : Int, rd h1 (Addr.add (Addr.mk (Array.size h) 0 none) 1) = some (Value.int .i64 n15) ∧
        (if (n15 == (0 : Int)) = true then (∃ x16 : Nat, rd h1 (Addr.add (Addr.mk (Array.size h) 0 none) 2) = some (Value.float .f64 x16) ∧
            S_liveryref02_plain x16 h1 fun (vs17 : List Value) (h18 : Hp) =>
            ∃ b19 : Bool, vs17 = [(Value.bool b19)] ∧
            (if b19 = true then (∃ s20 : ByteArray, rd h18 (Addr.add (Addr.mk (Array.size h) 0 none) 3) = some (Value.string s20) ∧
                J12 [(Value.bool ((ByteArray.toList s20) == (ByteArray.toList (ByteArray.mk #[]))))] h18) else
              (J12 [(Value.bool false)] h18))) else
          (∃ n21 : Int, rd h1 (Addr.add (Addr.mk (Array.size h) 0 none) 1) = some (Value.int .i64 n21) ∧
            (if (n21 == (1 : Int)) = true then (∃ x22 : Nat, rd h1 (Addr.add (Addr.mk (Array.size h) 0 none) 2) = some (Value.float .f64 x22) ∧
                S_liveryref02_plain x22 h1 fun (vs23 : List Value) (h24 : Hp) =>
                ∃ b25 : Bool, vs23 = [(Value.bool b25)] ∧
                (if b25 = true then (∃ s26 : ByteArray, rd h24 (Addr.add (Addr.mk (Array.size h) 0 none) 3) = some (Value.string s26) ∧
                    J12 [(Value.bool ((ByteArray.toList s26) == (ByteArray.toList (ByteArray.mk #[]))))] h24) else
                  (J12 [(Value.bool false)] h24))) else
              (J12 [(Value.bool false)] h1))))) else
      ((if (n2 == (2 : Int)) = true then
          (∀ J27 : List Value → Hp → Prop, (∀ b28 : Bool, ∀ h29 : Hp, (Q [(Value.bool b28)] h29) → J27 [(Value.bool b28)] h29) →
            ∃ x30 : Nat, rd h1 (Addr.add (Addr.mk (Array.size h) 0 none) 2) = some (Value.float .f64 x30) ∧
            S_liveryref02_plain x30 h1 fun (vs31 : List Value) (h32 : Hp) =>
            ∃ b33 : Bool, vs31 = [(Value.bool b33)] ∧
            (if b33 = true then (∃ s34 : ByteArray, rd h32 (Addr.add (Addr.mk (Array.size h) 0 none) 3) = some (Value.string s34) ∧
                J27 [(Value.bool ((ByteArray.toList s34) == (ByteArray.toList (ByteArray.mk #[]))))] h32) else
              (J27 [(Value.bool false)] h32))) else
          ((if (n2 == (3 : Int)) = true then
              (∀ J35 : List Value → Hp → Prop, (∀ b36 : Bool, ∀ h37 : Hp, (Q [(Value.bool b36)] h37) → J35 [(Value.bool b36)] h37) →
                ∃ n38 : Int, rd h1 (Addr.add (Addr.mk (Array.size h) 0 none) 1) = some (Value.int .i64 n38) ∧
                (if (n38 == (0 : Int)) = true then (∃ x39 : Nat, rd h1 (Addr.add (Addr.mk (Array.size h) 0 none) 2) = some (Value.float .f64 x39) ∧
                    S_liveryref01_Is x39 h1 fun (vs40 : List Value) (h41 : Hp) =>
                    ∃ b42 : Bool, vs40 = [(Value.bool b42)] ∧
                    (if b42 = true then (∃ s43 : ByteArray, rd h41 (Addr.add (Addr.mk (Array.size h) 0 none) 3) = some (Value.string s43) ∧
                        J35 [(Value.bool ((ByteArray.toList s43) == (ByteArray.toList (ByteArray.mk #[]))))] h41) else
                      (J35 [(Value.bool false)] h41))) else
                  (J35 [(Value.bool false)] h1))) else
              ((if (n2 == (4 : Int)) = true then
                  (∀ J44 : List Value → Hp → Prop, (∀ b45 : Bool, ∀ h46 : Hp, (Q [(Value.bool b45)] h46) → J44 [(Value.bool b45)] h46) →
                    ∃ n47 : Int, rd h1 (Addr.add (Addr.mk (Array.size h) 0 none) 1) = some (Value.int .i64 n47) ∧
                    (if (n47 == (0 : Int)) = true then (∃ x48 : Nat, rd h1 (Addr.add (Addr.mk (Array.size h) 0 none) 2) = some (Value.float .f64 x48) ∧
                        S_liveryref02_plain x48 h1 fun (vs49 : List Value) (h50 : Hp) =>
                        ∃ b51 : Bool, vs49 = [(Value.bool b51)] ∧
                        (if b51 = true then (∃ s52 : ByteArray, rd h50 (Addr.add (Addr.mk (Array.size h) 0 none) 3) = some (Value.string s52) ∧
                            J44 [(Value.bool (decide ((ByteArray.size s52 : Int) ≤ (256 : Int))))] h50) else
                          (J44 [(Value.bool false)] h50))) else
                      (J44 [(Value.bool false)] h1))) else
                  (Q [(Value.bool false)] h1))))))))))
def A_liveryref02_Good : Ann := (.mk none ⟨[], []⟩ .nil (.mk none ⟨[], []⟩ (.mk none ⟨[], []⟩ .nil (.mk none ⟨[], []⟩ (.mk none ⟨[], []⟩ .nil (.mk none ⟨[], []⟩ (.mk none ⟨[], []⟩ (.mk (some ⟨[], [(2, (.c .bool))]⟩) ⟨[], []⟩ .nil .nil) .nil) (.mk none ⟨[], []⟩ .nil (.mk none ⟨[], []⟩ (.mk none ⟨[], []⟩ (.mk (some ⟨[], [(2, (.c .bool))]⟩) ⟨[], []⟩ .nil .nil) .nil) (.mk none ⟨[], []⟩ .nil (.mk none ⟨[], []⟩ (.mk none ⟨[], []⟩ (.mk (some ⟨[], [(2, (.c .bool))]⟩) ⟨[], []⟩ .nil .nil) .nil) (.mk none ⟨[], []⟩ .nil (.mk none ⟨[], []⟩ (.mk none ⟨[], []⟩ (.mk (some ⟨[], [(2, (.c .bool))]⟩) ⟨[], []⟩ .nil .nil) .nil) (.mk none ⟨[], []⟩ .nil (.mk none ⟨[], []⟩ (.mk none ⟨[], []⟩ (.mk (some ⟨[], [(2, (.c .bool))]⟩) ⟨[], []⟩ .nil .nil) .nil) .nil)))))))))) .nil)) .nil))
theorem E_liveryref02_Good (g0_v_0 : Int) (g0_v_1 : Int) (g0_v_2 : Nat) (g0_v_3 : ByteArray) (h : Hp) (Q : List Value → Hp → Prop) : cw PP 81 (fun _ => []) (bodyOf Tryd.f9) A_liveryref02_Good (finQ PP (Tryd.f9.results.toList) Q) (argFr [(Value.agg #[(Value.int .i64 g0_v_0), (Value.int .i64 g0_v_1), (Value.float .f64 g0_v_2), (Value.string g0_v_3)])]) h = F_liveryref02_Good g0_v_0 g0_v_1 g0_v_2 g0_v_3 h Q := by kernel_rfl
theorem O_liveryref02_Good (g0_v_0 : Int) (g0_v_1 : Int) (g0_v_2 : Nat) (g0_v_3 : ByteArray) {h : Hp} {Q : List Value → Hp → Prop} (H : F_liveryref02_Good g0_v_0 g0_v_1 g0_v_2 g0_v_3 h Q) : S_liveryref02_Good g0_v_0 g0_v_1 g0_v_2 g0_v_3 h Q :=
  fn_of_cw (hs := (fun _ => [])) (ann := A_liveryref02_Good) (args := [(Value.agg #[(Value.int .i64 g0_v_0), (Value.int .i64 g0_v_1), (Value.float .f64 g0_v_2), (Value.string g0_v_3)])]) mixedPP Tryd.func9 (c := bodyOf Tryd.f9) (by kernel_rfl) (by kernel_rfl) (by kernel_rfl) (Eq.mpr (E_liveryref02_Good g0_v_0 g0_v_1 g0_v_2 g0_v_3 h Q) H)
def F_value_Good (g0_v_0 : Int) (g0_v_1 : Int) (g0_v_2 : Nat) (g0_v_3 : ByteArray) (h : Hp) (Q : List Value → Hp → Prop) : Prop :=
wth (Array.push h (Obj.cells #[(Value.int .i64 g0_v_0), (Value.int .i64 g0_v_1), (Value.float .f64 g0_v_2), (Value.string g0_v_3)] T_api_Value)) fun h1 =>
wth (Array.push h1 (Obj.map #[] 0)) fun h2 =>
∃ (m3 : Nat) (es4 : Array MapEntry) (c5 : Nat), (some (Array.size h1)) = some m3 ∧ h2[m3]? = some (.map es4 c5) ∧ KeysLike (Value.int .i64 (0 : Int)) es4 ∧ wth (Array.setIfInBounds h2 m3 (mput (Value.int .i64 (0 : Int)) (Value.func (.func 40) #[] #[]) es4 c5)) fun h6 =>
∃ (m7 : Nat) (es8 : Array MapEntry) (c9 : Nat), (some (Array.size h1)) = some m7 ∧ h6[m7]? = some (.map es8 c9) ∧ KeysLike (Value.int .i64 (1 : Int)) es8 ∧ wth (Array.setIfInBounds h6 m7 (mput (Value.int .i64 (1 : Int)) (Value.func (.func 41) #[] #[]) es8 c9)) fun h10 =>
∃ (m11 : Nat) (es12 : Array MapEntry) (c13 : Nat), (some (Array.size h1)) = some m11 ∧ h10[m11]? = some (.map es12 c13) ∧ KeysLike (Value.int .i64 (2 : Int)) es12 ∧ wth (Array.setIfInBounds h10 m11 (mput (Value.int .i64 (2 : Int)) (Value.func (.func 42) #[] #[]) es12 c13)) fun h14 =>
∃ (m15 : Nat) (es16 : Array MapEntry) (c17 : Nat), (some (Array.size h1)) = some m15 ∧ h14[m15]? = some (.map es16 c17) ∧ KeysLike (Value.int .i64 (3 : Int)) es16 ∧ wth (Array.setIfInBounds h14 m15 (mput (Value.int .i64 (3 : Int)) (Value.func (.func 43) #[] #[]) es16 c17)) fun h18 =>
∃ (m19 : Nat) (es20 : Array MapEntry) (c21 : Nat), (some (Array.size h1)) = some m19 ∧ h18[m19]? = some (.map es20 c21) ∧ KeysLike (Value.int .i64 (4 : Int)) es20 ∧ wth (Array.setIfInBounds h18 m19 (mput (Value.int .i64 (4 : Int)) (Value.func (.func 44) #[] #[]) es20 c21)) fun h22 =>
∃ n23 : Int, rd h22 (Addr.add (Addr.mk (Array.size h) 0 none) 0) = some (Value.int .i64 n23) ∧
∃ es24 : Array MapEntry, mapAt h22 (some (Array.size h1)) es24 ∧ KeysLike (Value.int .i64 n23) es24 ∧ ((∃ f25 : Nat, ∃ cs26 : Array Value, mgetD (Value.int .i64 n23) es24 Value.nilFunc = (Value.func (.func f25) #[] cs26) ∧
    ∃ n28 : Int, rd h22 (Addr.add (Addr.mk (Array.size h) 0 none) 0) = some (Value.int .i64 n28) ∧ ∃ n29 : Int, rd h22 (Addr.add (Addr.mk (Array.size h) 0 none) 1) = some (Value.int .i64 n29) ∧ ∃ x30 : Nat, rd h22 (Addr.add (Addr.mk (Array.size h) 0 none) 2) = some (Value.float .f64 x30) ∧ ∃ s31 : ByteArray, rd h22 (Addr.add (Addr.mk (Array.size h) 0 none) 3) = some (Value.string s31) ∧ Fn PP f25 ((#[] ++ #[(Value.agg #[(Value.int .i64 n28), (Value.int .i64 n29), (Value.float .f64 x30), (Value.string s31)])]) ++ cs26) h22 fun (vs32 : List Value) (h33 : Hp) =>
    ∃ b34 : Bool, vs32 = [(Value.bool b34)] ∧
    Q [(Value.bool b34)] h33) ∨
  (mgetD (Value.int .i64 n23) es24 Value.nilFunc = Value.nilFunc ∧
    Q [(Value.bool false)] h22))
def A_value_Good : Ann := .nil
theorem E_value_Good (g0_v_0 : Int) (g0_v_1 : Int) (g0_v_2 : Nat) (g0_v_3 : ByteArray) (h : Hp) (Q : List Value → Hp → Prop) : cw PP 18 (fun _ => []) (bodyOf Tryd.f28) A_value_Good (finQ PP (Tryd.f28.results.toList) Q) (argFr [(Value.agg #[(Value.int .i64 g0_v_0), (Value.int .i64 g0_v_1), (Value.float .f64 g0_v_2), (Value.string g0_v_3)])]) h = F_value_Good g0_v_0 g0_v_1 g0_v_2 g0_v_3 h Q := by kernel_rfl
theorem O_value_Good (g0_v_0 : Int) (g0_v_1 : Int) (g0_v_2 : Nat) (g0_v_3 : ByteArray) {h : Hp} {Q : List Value → Hp → Prop} (H : F_value_Good g0_v_0 g0_v_1 g0_v_2 g0_v_3 h Q) : S_value_Good g0_v_0 g0_v_1 g0_v_2 g0_v_3 h Q :=
  fn_of_cw (hs := (fun _ => [])) (ann := A_value_Good) (args := [(Value.agg #[(Value.int .i64 g0_v_0), (Value.int .i64 g0_v_1), (Value.float .f64 g0_v_2), (Value.string g0_v_3)])]) mixedPP Tryd.func28 (c := bodyOf Tryd.f28) (by kernel_rfl) (by kernel_rfl) (by kernel_rfl) (Eq.mpr (E_value_Good g0_v_0 g0_v_1 g0_v_2 g0_v_3 h Q) H)
def F_key_joined (g0_l : Sl) (h : Hp) (Q : List Value → Hp → Prop) : Prop :=
S_strings_Join ⟨g0_l.a, g0_l.n, g0_l.c⟩ (ByteArray.mk #[]) h fun (vs1 : List Value) (h2 : Hp) =>
∃ s3 : ByteArray, vs1 = [(Value.string s3)] ∧
Q [(Value.string s3)] h2
def A_key_joined : Ann := .nil
theorem E_key_joined (g0_l : Sl) (h : Hp) (Q : List Value → Hp → Prop) : cw PP 5 (fun _ => []) (bodyOf Tryd.f29) A_key_joined (finQ PP (Tryd.f29.results.toList) Q) (argFr [(Value.slice g0_l.a g0_l.n g0_l.c)]) h = F_key_joined g0_l h Q := by kernel_rfl
theorem O_key_joined (g0_l : Sl) {h : Hp} {Q : List Value → Hp → Prop} (H : F_key_joined g0_l h Q) : S_key_joined g0_l h Q :=
  fn_of_cw (hs := (fun _ => [])) (ann := A_key_joined) (args := [(Value.slice g0_l.a g0_l.n g0_l.c)]) mixedPP Tryd.func29 (c := bodyOf Tryd.f29) (by kernel_rfl) (by kernel_rfl) (by kernel_rfl) (Eq.mpr (E_key_joined g0_l h Q) H)
def F_key_eight (g0_u : Int) (h : Hp) (Q : List Value → Hp → Prop) : Prop :=
mkOk (8 : Int) (8 : Int) 1 (wth (Array.push h (Obj.cells (mkCells (zc PP T_uint8) (Int.toNat (8 : Int) * 1)) T_uint8)) fun h1 =>
  ∀ X2 : List Value → Hp → Prop, (∀ n3 : Int, ∀ h4 : Hp, ((if (decide (n3 < (((Int.toNat (8 : Int)) : Nat) : Int))) = true then
        (shOk (IntKind.wrap .i64 ((56 : Int) - (IntKind.wrap .i64 ((8 : Int) * n3)))) (nilW (some (Addr.mk (Array.size h) 0 none)) fun a5 => ixOk n3 (Int.toNat (8 : Int)) (stOk h4 (Addr.add a5 (Int.toNat n3 * 1)) 1 ∧ wth (wrs h4 (Addr.add a5 (Int.toNat n3 * 1)) 0 [(Value.int .u8 (IntKind.wrap .u8 (iShr .u64 g0_u (IntKind.wrap .i64 ((56 : Int) - (IntKind.wrap .i64 ((8 : Int) * n3)))))))]) fun h6 =>
              X2 [(Value.int .i64 (IntKind.wrap .i64 (n3 + (1 : Int))))] h6))) else
        (∃ s7 : ByteArray, bytesAt h4 (some (Addr.mk (Array.size h) 0 none)) (Int.toNat (8 : Int)) s7 ∧
          Q [(Value.string s7)] h4))) → X2 [(Value.int .i64 n3)] h4) →
  X2 [(Value.int .i64 (0 : Int))] h1)
def A_key_eight : Ann := (.mk none ⟨[], []⟩ .nil (.mk none ⟨[], []⟩ .nil (.mk none ⟨[], []⟩ (.mk none ⟨[], []⟩ .nil (.mk none ⟨[], []⟩ (.mk none ⟨[0, 3, 7], [(8, (.c (.int .i64)))]⟩ .nil .nil) .nil)) .nil)))
theorem E_key_eight (g0_u : Int) (h : Hp) (Q : List Value → Hp → Prop) : cw PP 23 (fun _ => []) (bodyOf Tryd.f30) A_key_eight (finQ PP (Tryd.f30.results.toList) Q) (argFr [(Value.int .u64 g0_u)]) h = F_key_eight g0_u h Q := by kernel_rfl
theorem O_key_eight (g0_u : Int) {h : Hp} {Q : List Value → Hp → Prop} (H : F_key_eight g0_u h Q) : S_key_eight g0_u h Q :=
  fn_of_cw (hs := (fun _ => [])) (ann := A_key_eight) (args := [(Value.int .u64 g0_u)]) mixedPP Tryd.func30 (c := bodyOf Tryd.f30) (by kernel_rfl) (by kernel_rfl) (by kernel_rfl) (Eq.mpr (E_key_eight g0_u h Q) H)
def F_float_Canon (g0_f : Nat) (h : Hp) (Q : List Value → Hp → Prop) : Prop :=
(if ((FloatKind.format .f64).order g0_f g0_f != some .eq) = true then
  (S_math_Float64frombits (9221120237041090560 : Int) h fun (vs1 : List Value) (h2 : Hp) =>
    ∃ x3 : Nat, vs1 = [(Value.float .f64 x3)] ∧
    Q [(Value.float .f64 x3)] h2) else
  ((if ((FloatKind.format .f64).order g0_f 0 == some .eq) = true then
      (Q [(Value.float .f64 0)] h) else
      (Q [(Value.float .f64 g0_f)] h))))
def A_float_Canon : Ann := .nil
theorem E_float_Canon (g0_f : Nat) (h : Hp) (Q : List Value → Hp → Prop) : cw PP 12 (fun _ => []) (bodyOf Tryd.f46) A_float_Canon (finQ PP (Tryd.f46.results.toList) Q) (argFr [(Value.float .f64 g0_f)]) h = F_float_Canon g0_f h Q := by kernel_rfl
theorem O_float_Canon (g0_f : Nat) {h : Hp} {Q : List Value → Hp → Prop} (H : F_float_Canon g0_f h Q) : S_float_Canon g0_f h Q :=
  fn_of_cw (hs := (fun _ => [])) (ann := A_float_Canon) (args := [(Value.float .f64 g0_f)]) mixedPP Tryd.func46 (c := bodyOf Tryd.f46) (by kernel_rfl) (by kernel_rfl) (by kernel_rfl) (Eq.mpr (E_float_Canon g0_f h Q) H)
def F_float_Bits (g0_f : Nat) (h : Hp) (Q : List Value → Hp → Prop) : Prop :=
S_float_Canon g0_f h fun (vs1 : List Value) (h2 : Hp) =>
∃ x3 : Nat, vs1 = [(Value.float .f64 x3)] ∧
S_math_Float64bits x3 h2 fun (vs4 : List Value) (h5 : Hp) =>
∃ n6 : Int, vs4 = [(Value.int .u64 n6)] ∧
(if ((iAnd .u64 n6 (9223372036854775808 : Int)) != (0 : Int)) = true then
  (Q [(Value.int .u64 (iXor .u64 (IntKind.max .u64) n6))] h5) else
  (Q [(Value.int .u64 (iOr .u64 n6 (9223372036854775808 : Int)))] h5))
def A_float_Bits : Ann := .nil
theorem E_float_Bits (g0_f : Nat) (h : Hp) (Q : List Value → Hp → Prop) : cw PP 14 (fun _ => []) (bodyOf Tryd.f31) A_float_Bits (finQ PP (Tryd.f31.results.toList) Q) (argFr [(Value.float .f64 g0_f)]) h = F_float_Bits g0_f h Q := by kernel_rfl
theorem O_float_Bits (g0_f : Nat) {h : Hp} {Q : List Value → Hp → Prop} (H : F_float_Bits g0_f h Q) : S_float_Bits g0_f h Q :=
  fn_of_cw (hs := (fun _ => [])) (ann := A_float_Bits) (args := [(Value.float .f64 g0_f)]) mixedPP Tryd.func31 (c := bodyOf Tryd.f31) (by kernel_rfl) (by kernel_rfl) (by kernel_rfl) (Eq.mpr (E_float_Bits g0_f h Q) H)
def F_key_Of (g0_v_0 : Int) (g0_v_1 : Int) (g0_v_2 : Nat) (g0_v_3 : ByteArray) (h : Hp) (Q : List Value → Hp → Prop) : Prop :=
wth (Array.push h (Obj.cells #[(Value.int .i64 g0_v_0), (Value.int .i64 g0_v_1), (Value.float .f64 g0_v_2), (Value.string g0_v_3)] T_api_Value)) fun h1 =>
∃ n2 : Int, rd h1 (Addr.add (Addr.mk (Array.size h) 0 none) 0) = some (Value.int .i64 n2) ∧ ∃ n3 : Int, rd h1 (Addr.add (Addr.mk (Array.size h) 0 none) 1) = some (Value.int .i64 n3) ∧ ∃ x4 : Nat, rd h1 (Addr.add (Addr.mk (Array.size h) 0 none) 2) = some (Value.float .f64 x4) ∧ ∃ s5 : ByteArray, rd h1 (Addr.add (Addr.mk (Array.size h) 0 none) 3) = some (Value.string s5) ∧ S_value_Good n2 n3 x4 s5 h1 fun (vs6 : List Value) (h7 : Hp) =>
∃ b8 : Bool, vs6 = [(Value.bool b8)] ∧
(if (!b8) = true then
  (Q [(Value.string (ByteArray.mk #[])), (Value.int .i64 (11 : Int))] h7) else
  (∃ n9 : Int, rd h7 (Addr.add (Addr.mk (Array.size h) 0 none) 0) = some (Value.int .i64 n9) ∧
    wth (Array.push h7 (Obj.cells #[(Value.int .u8 (IntKind.wrap .u8 n9))] T_uint8)) fun h10 =>
    ∃ s11 : ByteArray, bytesAt h10 (some (Addr.mk (Array.size h7) 0 none)) 1 s11 ∧
    ∃ n12 : Int, rd h10 (Addr.add (Addr.mk (Array.size h) 0 none) 0) = some (Value.int .i64 n12) ∧
    (if (n12 == (1 : Int)) = true then
      (∃ n13 : Int, rd h10 (Addr.add (Addr.mk (Array.size h) 0 none) 1) = some (Value.int .i64 n13) ∧
        wth (Array.push h10 (Obj.cells #[(Value.int .u8 (IntKind.wrap .u8 n13))] T_uint8)) fun h14 =>
        ∃ s15 : ByteArray, bytesAt h14 (some (Addr.mk (Array.size h10) 0 none)) 1 s15 ∧
        wth (Array.push h14 (Obj.cells #[(Value.string s11), (Value.string s15)] T_string)) fun h16 =>
        S_key_joined ⟨(some (Addr.mk (Array.size h14) 0 none)), 2, 2⟩ h16 fun (vs17 : List Value) (h18 : Hp) =>
        ∃ s19 : ByteArray, vs17 = [(Value.string s19)] ∧
        Q [(Value.string s19), (Value.int .i64 (0 : Int))] h18) else
      ((if (n12 == (2 : Int)) = true then
          (∃ n20 : Int, rd h10 (Addr.add (Addr.mk (Array.size h) 0 none) 1) = some (Value.int .i64 n20) ∧
            S_key_eight (iXor .u64 (IntKind.wrap .u64 n20) (9223372036854775808 : Int)) h10 fun (vs21 : List Value) (h22 : Hp) =>
            ∃ s23 : ByteArray, vs21 = [(Value.string s23)] ∧
            wth (Array.push h22 (Obj.cells #[(Value.string s11), (Value.string s23)] T_string)) fun h24 =>
            S_key_joined ⟨(some (Addr.mk (Array.size h22) 0 none)), 2, 2⟩ h24 fun (vs25 : List Value) (h26 : Hp) =>
            ∃ s27 : ByteArray, vs25 = [(Value.string s27)] ∧
            Q [(Value.string s27), (Value.int .i64 (0 : Int))] h26) else
          ((if (n12 == (3 : Int)) = true then
              (∃ x28 : Nat, rd h10 (Addr.add (Addr.mk (Array.size h) 0 none) 2) = some (Value.float .f64 x28) ∧
                S_float_Bits x28 h10 fun (vs29 : List Value) (h30 : Hp) =>
                ∃ n31 : Int, vs29 = [(Value.int .u64 n31)] ∧
                S_key_eight n31 h30 fun (vs32 : List Value) (h33 : Hp) =>
                ∃ s34 : ByteArray, vs32 = [(Value.string s34)] ∧
                wth (Array.push h33 (Obj.cells #[(Value.string s11), (Value.string s34)] T_string)) fun h35 =>
                S_key_joined ⟨(some (Addr.mk (Array.size h33) 0 none)), 2, 2⟩ h35 fun (vs36 : List Value) (h37 : Hp) =>
                ∃ s38 : ByteArray, vs36 = [(Value.string s38)] ∧
                Q [(Value.string s38), (Value.int .i64 (0 : Int))] h37) else
              ((if (n12 == (4 : Int)) = true then
                  (∃ s39 : ByteArray, rd h10 (Addr.add (Addr.mk (Array.size h) 0 none) 3) = some (Value.string s39) ∧
                    S_strings_ReplaceAll s39 (ByteArray.mk #[0]) (ByteArray.mk #[0, 255]) h10 fun (vs40 : List Value) (h41 : Hp) =>
                    ∃ s42 : ByteArray, vs40 = [(Value.string s42)] ∧
                    wth (Array.push h41 (Obj.cells #[(Value.string s11), (Value.string s42), (Value.string (ByteArray.mk #[0, 1]))] T_string)) fun h43 =>
                    S_key_joined ⟨(some (Addr.mk (Array.size h41) 0 none)), 3, 3⟩ h43 fun (vs44 : List Value) (h45 : Hp) =>
                    ∃ s46 : ByteArray, vs44 = [(Value.string s46)] ∧
                    Q [(Value.string s46), (Value.int .i64 (0 : Int))] h45) else
                  (Q [(Value.string s11), (Value.int .i64 (0 : Int))] h10))))))))))
def A_key_Of : Ann := .nil
theorem E_key_Of (g0_v_0 : Int) (g0_v_1 : Int) (g0_v_2 : Nat) (g0_v_3 : ByteArray) (h : Hp) (Q : List Value → Hp → Prop) : cw PP 53 (fun _ => []) (bodyOf Tryd.f11) A_key_Of (finQ PP (Tryd.f11.results.toList) Q) (argFr [(Value.agg #[(Value.int .i64 g0_v_0), (Value.int .i64 g0_v_1), (Value.float .f64 g0_v_2), (Value.string g0_v_3)])]) h = F_key_Of g0_v_0 g0_v_1 g0_v_2 g0_v_3 h Q := by kernel_rfl
theorem O_key_Of (g0_v_0 : Int) (g0_v_1 : Int) (g0_v_2 : Nat) (g0_v_3 : ByteArray) {h : Hp} {Q : List Value → Hp → Prop} (H : F_key_Of g0_v_0 g0_v_1 g0_v_2 g0_v_3 h Q) : S_key_Of g0_v_0 g0_v_1 g0_v_2 g0_v_3 h Q :=
  fn_of_cw (hs := (fun _ => [])) (ann := A_key_Of) (args := [(Value.agg #[(Value.int .i64 g0_v_0), (Value.int .i64 g0_v_1), (Value.float .f64 g0_v_2), (Value.string g0_v_3)])]) mixedPP Tryd.func11 (c := bodyOf Tryd.f11) (by kernel_rfl) (by kernel_rfl) (by kernel_rfl) (Eq.mpr (E_key_Of g0_v_0 g0_v_1 g0_v_2 g0_v_3 h Q) H)
def F_key_Entry (g0_v_0 : Int) (g0_v_1 : Int) (g0_v_2 : Nat) (g0_v_3 : ByteArray) (g1_n : Int) (h : Hp) (Q : List Value → Hp → Prop) : Prop :=
wth (Array.push h (Obj.cells #[(Value.int .i64 g0_v_0), (Value.int .i64 g0_v_1), (Value.float .f64 g0_v_2), (Value.string g0_v_3)] T_api_Value)) fun h1 =>
∃ n2 : Int, rd h1 (Addr.add (Addr.mk (Array.size h) 0 none) 0) = some (Value.int .i64 n2) ∧ ∃ n3 : Int, rd h1 (Addr.add (Addr.mk (Array.size h) 0 none) 1) = some (Value.int .i64 n3) ∧ ∃ x4 : Nat, rd h1 (Addr.add (Addr.mk (Array.size h) 0 none) 2) = some (Value.float .f64 x4) ∧ ∃ s5 : ByteArray, rd h1 (Addr.add (Addr.mk (Array.size h) 0 none) 3) = some (Value.string s5) ∧ S_key_Of n2 n3 x4 s5 h1 fun (vs6 : List Value) (h7 : Hp) =>
∃ s8 : ByteArray, ∃ n9 : Int, vs6 = [(Value.string s8), (Value.int .i64 n9)] ∧
(if (n9 != (0 : Int)) = true then
  (Q [(Value.string (ByteArray.mk #[])), (Value.int .i64 n9)] h7) else
  (∀ J10 : List Value → Hp → Prop, (∀ b11 : Bool, ∀ h12 : Hp, ((if b11 = true then
          (Q [(Value.string (ByteArray.mk #[])), (Value.int .i64 (1 : Int))] h12) else
          (shOk (8 : Int) (wth (Array.push h12 (Obj.cells #[(Value.int .u8 (IntKind.wrap .u8 (iShr .i64 g1_n (8 : Int)))), (Value.int .u8 (IntKind.wrap .u8 g1_n))] T_uint8)) fun h13 =>
              ∃ s14 : ByteArray, bytesAt h13 (some (Addr.mk (Array.size h12) 0 none)) 2 s14 ∧
              wth (Array.push h13 (Obj.cells #[(Value.string s8), (Value.string s14)] T_string)) fun h15 =>
              S_key_joined ⟨(some (Addr.mk (Array.size h13) 0 none)), 2, 2⟩ h15 fun (vs16 : List Value) (h17 : Hp) =>
              ∃ s18 : ByteArray, vs16 = [(Value.string s18)] ∧
              Q [(Value.string s18), (Value.int .i64 (0 : Int))] h17)))) → J10 [(Value.bool b11)] h12) →
    (if (decide (g1_n < (0 : Int))) = true then (J10 [(Value.bool true)] h7) else
      (J10 [(Value.bool (decide (g1_n > (65535 : Int))))] h7))))
def A_key_Entry : Ann := (.mk none ⟨[], []⟩ .nil (.mk none ⟨[], []⟩ .nil (.mk none ⟨[], []⟩ (.mk none ⟨[], []⟩ (.mk none ⟨[], []⟩ .nil (.mk none ⟨[], []⟩ .nil (.mk none ⟨[], []⟩ (.mk (some ⟨[1, 6], [(17, (.c .bool))]⟩) ⟨[], []⟩ .nil .nil) .nil))) .nil) .nil)))
theorem E_key_Entry (g0_v_0 : Int) (g0_v_1 : Int) (g0_v_2 : Nat) (g0_v_3 : ByteArray) (g1_n : Int) (h : Hp) (Q : List Value → Hp → Prop) : cw PP 34 (fun _ => []) (bodyOf Tryd.f12) A_key_Entry (finQ PP (Tryd.f12.results.toList) Q) (argFr [(Value.agg #[(Value.int .i64 g0_v_0), (Value.int .i64 g0_v_1), (Value.float .f64 g0_v_2), (Value.string g0_v_3)]), (Value.int .i64 g1_n)]) h = F_key_Entry g0_v_0 g0_v_1 g0_v_2 g0_v_3 g1_n h Q := by kernel_rfl
theorem O_key_Entry (g0_v_0 : Int) (g0_v_1 : Int) (g0_v_2 : Nat) (g0_v_3 : ByteArray) (g1_n : Int) {h : Hp} {Q : List Value → Hp → Prop} (H : F_key_Entry g0_v_0 g0_v_1 g0_v_2 g0_v_3 g1_n h Q) : S_key_Entry g0_v_0 g0_v_1 g0_v_2 g0_v_3 g1_n h Q :=
  fn_of_cw (hs := (fun _ => [])) (ann := A_key_Entry) (args := [(Value.agg #[(Value.int .i64 g0_v_0), (Value.int .i64 g0_v_1), (Value.float .f64 g0_v_2), (Value.string g0_v_3)]), (Value.int .i64 g1_n)]) mixedPP Tryd.func12 (c := bodyOf Tryd.f12) (by kernel_rfl) (by kernel_rfl) (by kernel_rfl) (Eq.mpr (E_key_Entry g0_v_0 g0_v_1 g0_v_2 g0_v_3 g1_n h Q) H)
def F_key_wide (g0_s : ByteArray) (h : Hp) (Q : List Value → Hp → Prop) : Prop :=
(if (decide ((ByteArray.size g0_s : Int) < (8 : Int))) = true then
  (Q [(Value.int .u64 (0 : Int)), (Value.string (ByteArray.mk #[])), (Value.bool false)] h) else
  (∀ X1 : List Value → Hp → Prop, (∀ n2 : Int, ∀ n3 : Int, ∀ h4 : Hp, ((if (decide (n3 < (8 : Int))) = true then
          (shOk (8 : Int) (ixOk n3 (ByteArray.size g0_s) (X1 [(Value.int .u64 (iOr .u64 (iShl .u64 n2 (8 : Int)) (IntKind.wrap .u64 (strIx g0_s n3)))), (Value.int .i64 (IntKind.wrap .i64 (n3 + (1 : Int))))] h4))) else
          ((0 ≤ (8 : Int) ∧ (8 : Int) ≤ ((ByteArray.size g0_s) : Nat)) ∧ Q [(Value.int .u64 n2), (Value.string (ByteArray.extract g0_s (Int.toNat (8 : Int)) (ByteArray.size g0_s))), (Value.bool true)] h4))) → X1 [(Value.int .u64 n2), (Value.int .i64 n3)] h4) →
    X1 [(Value.int .u64 (0 : Int)), (Value.int .i64 (0 : Int))] h))
def A_key_wide : Ann := (.mk none ⟨[], []⟩ .nil (.mk none ⟨[], []⟩ .nil (.mk none ⟨[], []⟩ (.mk none ⟨[], []⟩ .nil (.mk none ⟨[], []⟩ (.mk none ⟨[0], [(2, (.c (.int .u64))), (9, (.c (.int .i64)))]⟩ .nil .nil) .nil)) .nil)))
theorem E_key_wide (g0_s : ByteArray) (h : Hp) (Q : List Value → Hp → Prop) : cw PP 23 (fun _ => []) (bodyOf Tryd.f49) A_key_wide (finQ PP (Tryd.f49.results.toList) Q) (argFr [(Value.string g0_s)]) h = F_key_wide g0_s h Q := by kernel_rfl
theorem O_key_wide (g0_s : ByteArray) {h : Hp} {Q : List Value → Hp → Prop} (H : F_key_wide g0_s h Q) : S_key_wide g0_s h Q :=
  fn_of_cw (hs := (fun _ => [])) (ann := A_key_wide) (args := [(Value.string g0_s)]) mixedPP Tryd.func49 (c := bodyOf Tryd.f49) (by kernel_rfl) (by kernel_rfl) (by kernel_rfl) (Eq.mpr (E_key_wide g0_s h Q) H)
def F_float_Is (g0_f : Nat) (h : Hp) (Q : List Value → Hp → Prop) : Prop :=
S_math_Float64bits g0_f h fun (vs1 : List Value) (h2 : Hp) =>
∃ n3 : Int, vs1 = [(Value.int .u64 n3)] ∧
S_float_Canon g0_f h2 fun (vs4 : List Value) (h5 : Hp) =>
∃ x6 : Nat, vs4 = [(Value.float .f64 x6)] ∧
S_math_Float64bits x6 h5 fun (vs7 : List Value) (h8 : Hp) =>
∃ n9 : Int, vs7 = [(Value.int .u64 n9)] ∧
Q [(Value.bool (n3 == n9))] h8
def A_float_Is : Ann := .nil
theorem E_float_Is (g0_f : Nat) (h : Hp) (Q : List Value → Hp → Prop) : cw PP 9 (fun _ => []) (bodyOf Tryd.f58) A_float_Is (finQ PP (Tryd.f58.results.toList) Q) (argFr [(Value.float .f64 g0_f)]) h = F_float_Is g0_f h Q := by kernel_rfl
theorem O_float_Is (g0_f : Nat) {h : Hp} {Q : List Value → Hp → Prop} (H : F_float_Is g0_f h Q) : S_float_Is g0_f h Q :=
  fn_of_cw (hs := (fun _ => [])) (ann := A_float_Is) (args := [(Value.float .f64 g0_f)]) mixedPP Tryd.func58 (c := bodyOf Tryd.f58) (by kernel_rfl) (by kernel_rfl) (by kernel_rfl) (Eq.mpr (E_float_Is g0_f h Q) H)
def F_float_From (g0_u : Int) (h : Hp) (Q : List Value → Hp → Prop) : Prop :=
∀ J1 : List Value → Hp → Prop, (∀ n2 : Int, ∀ h3 : Hp, (S_math_Float64frombits n2 h3 fun (vs4 : List Value) (h5 : Hp) =>
    ∃ x6 : Nat, vs4 = [(Value.float .f64 x6)] ∧
    S_float_Is x6 h5 fun (vs7 : List Value) (h8 : Hp) =>
    ∃ b9 : Bool, vs7 = [(Value.bool b9)] ∧
    (if (!b9) = true then
      (Q [(Value.float .f64 0), (Value.bool false)] h8) else
      (Q [(Value.float .f64 x6), (Value.bool true)] h8))) → J1 [(Value.int .u64 n2)] h3) →
(if ((iAnd .u64 g0_u (9223372036854775808 : Int)) != (0 : Int)) = true then
  (J1 [(Value.int .u64 (iAndNot .u64 g0_u (9223372036854775808 : Int)))] h) else
  (J1 [(Value.int .u64 (iXor .u64 (IntKind.max .u64) g0_u))] h))
def A_float_From : Ann := (.mk none ⟨[], []⟩ .nil (.mk none ⟨[], []⟩ .nil (.mk none ⟨[], []⟩ (.mk none ⟨[], []⟩ .nil (.mk (some ⟨[], [(4, (.c (.int .u64)))]⟩) ⟨[], []⟩ .nil .nil)) .nil)))
theorem E_float_From (g0_u : Int) (h : Hp) (Q : List Value → Hp → Prop) : cw PP 19 (fun _ => []) (bodyOf Tryd.f50) A_float_From (finQ PP (Tryd.f50.results.toList) Q) (argFr [(Value.int .u64 g0_u)]) h = F_float_From g0_u h Q := by kernel_rfl
theorem O_float_From (g0_u : Int) {h : Hp} {Q : List Value → Hp → Prop} (H : F_float_From g0_u h Q) : S_float_From g0_u h Q :=
  fn_of_cw (hs := (fun _ => [])) (ann := A_float_From) (args := [(Value.int .u64 g0_u)]) mixedPP Tryd.func50 (c := bodyOf Tryd.f50) (by kernel_rfl) (by kernel_rfl) (by kernel_rfl) (Eq.mpr (E_float_From g0_u h Q) H)
def F_key_text (g0_s : ByteArray) (h : Hp) (Q : List Value → Hp → Prop) : Prop :=
wth (Array.push h (Obj.cells #[(Value.pointer none), (Value.slice none 0 0)] T_strings_Builder)) fun h1 =>
∀ X2 : List Value → Hp → Prop, (∀ s3 : ByteArray, ∀ h4 : Hp, (S_strings_IndexByte s3 (0 : Int) h4 fun (vs5 : List Value) (h6 : Hp) =>
    ∃ n7 : Int, vs5 = [(Value.int .i64 n7)] ∧
    ∀ J8 : List Value → Hp → Prop, (∀ b9 : Bool, ∀ h10 : Hp, ((if b9 = true then
          (Q [(Value.string (ByteArray.mk #[])), (Value.string (ByteArray.mk #[])), (Value.bool false)] h10) else
          ((0 ≤ n7 ∧ n7 ≤ ((ByteArray.size s3) : Nat)) ∧ S_strings_Builder_WriteString (some (Addr.mk (Array.size h) 0 none)) (ByteArray.extract s3 0 (Int.toNat n7)) h10 fun (vs11 : List Value) (h12 : Hp) =>
            ∃ n13 : Int, ∃ v14 : Value, vs11 = [(Value.int .i64 n13), v14] ∧
            (0 ≤ n7 ∧ n7 ≤ (IntKind.wrap .i64 (n7 + (2 : Int))) ∧ (IntKind.wrap .i64 (n7 + (2 : Int))) ≤ ((ByteArray.size s3) : Nat)) ∧ (if ((ByteArray.toList (ByteArray.extract s3 (Int.toNat n7) (Int.toNat (IntKind.wrap .i64 (n7 + (2 : Int)))))) == (ByteArray.toList (ByteArray.mk #[0, 1]))) = true then
              ((0 ≤ (IntKind.wrap .i64 (n7 + (2 : Int))) ∧ (IntKind.wrap .i64 (n7 + (2 : Int))) ≤ ((ByteArray.size s3) : Nat)) ∧ S_strings_Builder_String (some (Addr.mk (Array.size h) 0 none)) h12 fun (vs15 : List Value) (h16 : Hp) =>
                ∃ s17 : ByteArray, vs15 = [(Value.string s17)] ∧
                Q [(Value.string s17), (Value.string (ByteArray.extract s3 (Int.toNat (IntKind.wrap .i64 (n7 + (2 : Int)))) (ByteArray.size s3))), (Value.bool true)] h16) else
              ((if ((ByteArray.toList (ByteArray.extract s3 (Int.toNat n7) (Int.toNat (IntKind.wrap .i64 (n7 + (2 : Int)))))) == (ByteArray.toList (ByteArray.mk #[0, 255]))) = true then
                  (S_strings_Builder_WriteByte (some (Addr.mk (Array.size h) 0 none)) (0 : Int) h12 fun (vs18 : List Value) (h19 : Hp) =>
                    ∃ v20 : Value, vs18 = [v20] ∧
                    (0 ≤ (IntKind.wrap .i64 (n7 + (2 : Int))) ∧ (IntKind.wrap .i64 (n7 + (2 : Int))) ≤ ((ByteArray.size s3) : Nat)) ∧ X2 [(Value.string (ByteArray.extract s3 (Int.toNat (IntKind.wrap .i64 (n7 + (2 : Int)))) (ByteArray.size s3)))] h19) else
                  (Q [(Value.string (ByteArray.mk #[])), (Value.string (ByteArray.mk #[])), (Value.bool false)] h12))))))) → J8 [(Value.bool b9)] h10) →
    (if (decide (n7 < (0 : Int))) = true then (J8 [(Value.bool true)] h6) else
      (J8 [(Value.bool ((IntKind.wrap .i64 (n7 + (1 : Int))) == (ByteArray.size s3 : Int)))] h6))) → X2 [(Value.string s3)] h4) →
X2 [(Value.string g0_s)] h1
def A_key_text : Ann := (.mk none ⟨[], []⟩ .nil (.mk none ⟨[], []⟩ .nil (.mk none ⟨[], []⟩ (.mk none ⟨[5], [(0, (.c .str))]⟩ (.mk none ⟨[], []⟩ (.mk none ⟨[], []⟩ .nil (.mk none ⟨[], []⟩ (.mk none ⟨[], []⟩ (.mk (some ⟨[0, 5, 6], [(17, (.c .bool))]⟩) ⟨[], []⟩ .nil .nil) .nil) .nil)) .nil) .nil) .nil)))
theorem E_key_text (g0_s : ByteArray) (h : Hp) (Q : List Value → Hp → Prop) : cw PP 41 (fun _ => []) (bodyOf Tryd.f51) A_key_text (finQ PP (Tryd.f51.results.toList) Q) (argFr [(Value.string g0_s)]) h = F_key_text g0_s h Q := by kernel_rfl
theorem O_key_text (g0_s : ByteArray) {h : Hp} {Q : List Value → Hp → Prop} (H : F_key_text g0_s h Q) : S_key_text g0_s h Q :=
  fn_of_cw (hs := (fun _ => [])) (ann := A_key_text) (args := [(Value.string g0_s)]) mixedPP Tryd.func51 (c := bodyOf Tryd.f51) (by kernel_rfl) (by kernel_rfl) (by kernel_rfl) (Eq.mpr (E_key_text g0_s h Q) H)
def F_key_first (g0_k : ByteArray) (h : Hp) (Q : List Value → Hp → Prop) : Prop :=
wth (Array.push h (Obj.cells #[(Value.int .i64 (0 : Int)), (Value.int .i64 (0 : Int)), (Value.float .f64 0), (Value.string (ByteArray.mk #[]))] T_api_Value)) fun h1 =>
(if ((ByteArray.toList g0_k) == (ByteArray.toList (ByteArray.mk #[]))) = true then
  (stOk h1 (Addr.mk (Array.size h) 0 none) 4 ∧ wth (wrs h1 (Addr.mk (Array.size h) 0 none) 0 [(Value.int .i64 (0 : Int)), (Value.int .i64 (0 : Int)), (Value.float .f64 0), (Value.string (ByteArray.mk #[]))]) fun h2 =>
    ∃ n3 : Int, rd h2 (Addr.add (Addr.mk (Array.size h) 0 none) 0) = some (Value.int .i64 n3) ∧ ∃ n4 : Int, rd h2 (Addr.add (Addr.mk (Array.size h) 0 none) 1) = some (Value.int .i64 n4) ∧ ∃ x5 : Nat, rd h2 (Addr.add (Addr.mk (Array.size h) 0 none) 2) = some (Value.float .f64 x5) ∧ ∃ s6 : ByteArray, rd h2 (Addr.add (Addr.mk (Array.size h) 0 none) 3) = some (Value.string s6) ∧ Q [(Value.agg #[(Value.int .i64 n3), (Value.int .i64 n4), (Value.float .f64 x5), (Value.string s6)]), (Value.string (ByteArray.mk #[])), (Value.bool false)] h2) else
  (ixOk (0 : Int) (ByteArray.size g0_k) ((0 ≤ (1 : Int) ∧ (1 : Int) ≤ ((ByteArray.size g0_k) : Nat)) ∧ stOk h1 (Addr.add (Addr.mk (Array.size h) 0 none) 0) 1 ∧ wth (wrs h1 (Addr.add (Addr.mk (Array.size h) 0 none) 0) 0 [(Value.int .i64 (IntKind.wrap .i64 (strIx g0_k (0 : Int))))]) fun h7 =>
      ∃ n8 : Int, rd h7 (Addr.add (Addr.mk (Array.size h) 0 none) 0) = some (Value.int .i64 n8) ∧
      ∀ J9 : List Value → Hp → Prop, (∀ s10 : ByteArray, ∀ b11 : Bool, ∀ h12 : Hp, (∀ J13 : List Value → Hp → Prop, (∀ b14 : Bool, ∀ h15 : Hp, ((if b14 = true then
                (stOk h15 (Addr.mk (Array.size h) 0 none) 4 ∧ wth (wrs h15 (Addr.mk (Array.size h) 0 none) 0 [(Value.int .i64 (0 : Int)), (Value.int .i64 (0 : Int)), (Value.float .f64 0), (Value.string (ByteArray.mk #[]))]) fun h16 =>
                  ∃ n17 : Int, rd h16 (Addr.add (Addr.mk (Array.size h) 0 none) 0) = some (Value.int .i64 n17) ∧ ∃ n18 : Int, rd h16 (Addr.add (Addr.mk (Array.size h) 0 none) 1) = some (Value.int .i64 n18) ∧ ∃ x19 : Nat, rd h16 (Addr.add (Addr.mk (Array.size h) 0 none) 2) = some (Value.float .f64 x19) ∧ ∃ s20 : ByteArray, rd h16 (Addr.add (Addr.mk (Array.size h) 0 none) 3) = some (Value.string s20) ∧ Q [(Value.agg #[(Value.int .i64 n17), (Value.int .i64 n18), (Value.float .f64 x19), (Value.string s20)]), (Value.string (ByteArray.mk #[])), (Value.bool false)] h16) else
                (∃ n21 : Int, rd h15 (Addr.add (Addr.mk (Array.size h) 0 none) 0) = some (Value.int .i64 n21) ∧ ∃ n22 : Int, rd h15 (Addr.add (Addr.mk (Array.size h) 0 none) 1) = some (Value.int .i64 n22) ∧ ∃ x23 : Nat, rd h15 (Addr.add (Addr.mk (Array.size h) 0 none) 2) = some (Value.float .f64 x23) ∧ ∃ s24 : ByteArray, rd h15 (Addr.add (Addr.mk (Array.size h) 0 none) 3) = some (Value.string s24) ∧ stOk h15 (Addr.mk (Array.size h) 0 none) 4 ∧ wth (wrs h15 (Addr.mk (Array.size h) 0 none) 0 [(Value.int .i64 n21), (Value.int .i64 n22), (Value.float .f64 x23), (Value.string s24)]) fun h25 =>
                  ∃ n26 : Int, rd h25 (Addr.add (Addr.mk (Array.size h) 0 none) 0) = some (Value.int .i64 n26) ∧ ∃ n27 : Int, rd h25 (Addr.add (Addr.mk (Array.size h) 0 none) 1) = some (Value.int .i64 n27) ∧ ∃ x28 : Nat, rd h25 (Addr.add (Addr.mk (Array.size h) 0 none) 2) = some (Value.float .f64 x28) ∧ ∃ s29 : ByteArray, rd h25 (Addr.add (Addr.mk (Array.size h) 0 none) 3) = some (Value.string s29) ∧ Q [(Value.agg #[(Value.int .i64 n26), (Value.int .i64 n27), (Value.float .f64 x28), (Value.string s29)]), (Value.string s10), (Value.bool true)] h25))) → J13 [(Value.bool b14)] h15) →
          (if (!b11) = true then (J13 [(Value.bool true)] h12) else
            (∃ n30 : Int, rd h12 (Addr.add (Addr.mk (Array.size h) 0 none) 0) = some (Value.int .i64 n30) ∧ ∃ n31 : Int, rd h12 (Addr.add (Addr.mk (Array.size h) 0 none) 1) = some (Value.int .i64 n31) ∧ ∃ x32 : Nat, rd h12 (Addr.add (Addr.mk (Array.size h) 0 none) 2) = some (Value.float .f64 x32) ∧ ∃ s33 : ByteArray, rd h12 (Addr.add (Addr.mk (Array.size h) 0 none) 3) = some (Value.string s33) ∧ S_value_Good n30 n31 x32 s33 h12 fun (vs34 : List Value) (h35 : Hp) =>
              ∃ b36 : Bool, vs34 = [(Value.bool b36)] ∧
              J13 [(Value.bool (!b36))] h35))) → J9 [(Value.string s10), (Value.bool b11)] h12) →
      (if (n8 == (0 : Int)) = true then
        (J9 [(Value.string (ByteArray.extract g0_k (Int.toNat (1 : Int)) (ByteArray.size g0_k))), (Value.bool true)] h7) else
        ((if (n8 == (1 : Int)) = true then
            ((if ((ByteArray.toList (ByteArray.extract g0_k (Int.toNat (1 : Int)) (ByteArray.size g0_k))) == (ByteArray.toList (ByteArray.mk #[]))) = true then
                (stOk h7 (Addr.mk (Array.size h) 0 none) 4 ∧ wth (wrs h7 (Addr.mk (Array.size h) 0 none) 0 [(Value.int .i64 (0 : Int)), (Value.int .i64 (0 : Int)), (Value.float .f64 0), (Value.string (ByteArray.mk #[]))]) fun h37 =>
                  ∃ n38 : Int, rd h37 (Addr.add (Addr.mk (Array.size h) 0 none) 0) = some (Value.int .i64 n38) ∧ ∃ n39 : Int, rd h37 (Addr.add (Addr.mk (Array.size h) 0 none) 1) = some (Value.int .i64 n39) ∧ ∃ x40 : Nat, rd h37 (Addr.add (Addr.mk (Array.size h) 0 none) 2) = some (Value.float .f64 x40) ∧ ∃ s41 : ByteArray, rd h37 (Addr.add (Addr.mk (Array.size h) 0 none) 3) = some (Value.string s41) ∧ Q [(Value.agg #[(Value.int .i64 n38), (Value.int .i64 n39), (Value.float .f64 x40), (Value.string s41)]), (Value.string (ByteArray.mk #[])), (Value.bool false)] h37) else
                (ixOk (0 : Int) (ByteArray.size (ByteArray.extract g0_k (Int.toNat (1 : Int)) (ByteArray.size g0_k))) ((0 ≤ (1 : Int) ∧ (1 : Int) ≤ ((ByteArray.size (ByteArray.extract g0_k (Int.toNat (1 : Int)) (ByteArray.size g0_k))) : Nat)) ∧ stOk h7 (Addr.add (Addr.mk (Array.size h) 0 none) 1) 1 ∧ wth (wrs h7 (Addr.add (Addr.mk (Array.size h) 0 none) 1) 0 [(Value.int .i64 (IntKind.wrap .i64 (strIx (ByteArray.extract g0_k (Int.toNat (1 : Int)) (ByteArray.size g0_k)) (0 : Int))))]) fun h42 =>
                    J9 [(Value.string (ByteArray.extract (ByteArray.extract g0_k (Int.toNat (1 : Int)) (ByteArray.size g0_k)) (Int.toNat (1 : Int)) (ByteArray.size (ByteArray.extract g0_k (Int.toNat (1 : Int)) (ByteArray.size g0_k))))), (Value.bool true)] h42)))) else
            ((if (n8 == (2 : Int)) = true then
                (S_key_wide (ByteArray.extract g0_k (Int.toNat (1 : Int)) (ByteArray.size g0_k)) h7 fun (vs43 : List Value) (h44 : Hp) =>
                  ∃ n45 : Int, ∃ s46 : ByteArray, ∃ b47 : Bool, vs43 = [(Value.int .u64 n45), (Value.string s46), (Value.bool b47)] ∧
                  stOk h44 (Addr.add (Addr.mk (Array.size h) 0 none) 1) 1 ∧ wth (wrs h44 (Addr.add (Addr.mk (Array.size h) 0 none) 1) 0 [(Value.int .i64 (IntKind.wrap .i64 (iXor .u64 n45 (9223372036854775808 : Int))))]) fun h48 =>
                  J9 [(Value.string s46), (Value.bool b47)] h48) else
                ((if (n8 == (3 : Int)) = true then
                    (S_key_wide (ByteArray.extract g0_k (Int.toNat (1 : Int)) (ByteArray.size g0_k)) h7 fun (vs49 : List Value) (h50 : Hp) =>
                      ∃ n51 : Int, ∃ s52 : ByteArray, ∃ b53 : Bool, vs49 = [(Value.int .u64 n51), (Value.string s52), (Value.bool b53)] ∧
                      S_float_From n51 h50 fun (vs54 : List Value) (h55 : Hp) =>
                      ∃ x56 : Nat, ∃ b57 : Bool, vs54 = [(Value.float .f64 x56), (Value.bool b57)] ∧
                      (if b53 = true then (stOk h55 (Addr.add (Addr.mk (Array.size h) 0 none) 2) 1 ∧ wth (wrs h55 (Addr.add (Addr.mk (Array.size h) 0 none) 2) 0 [(Value.float .f64 x56)]) fun h58 =>
                          J9 [(Value.string s52), (Value.bool b57)] h58) else
                        (stOk h55 (Addr.add (Addr.mk (Array.size h) 0 none) 2) 1 ∧ wth (wrs h55 (Addr.add (Addr.mk (Array.size h) 0 none) 2) 0 [(Value.float .f64 x56)]) fun h59 =>
                          J9 [(Value.string s52), (Value.bool false)] h59))) else
                    ((if (n8 == (4 : Int)) = true then
                        (S_key_text (ByteArray.extract g0_k (Int.toNat (1 : Int)) (ByteArray.size g0_k)) h7 fun (vs60 : List Value) (h61 : Hp) =>
                          ∃ s62 : ByteArray, ∃ s63 : ByteArray, ∃ b64 : Bool, vs60 = [(Value.string s62), (Value.string s63), (Value.bool b64)] ∧
                          stOk h61 (Addr.add (Addr.mk (Array.size h) 0 none) 3) 1 ∧ wth (wrs h61 (Addr.add (Addr.mk (Array.size h) 0 none) 3) 0 [(Value.string s62)]) fun h65 =>
                          J9 [(Value.string s63), (Value.bool b64)] h65) else
                        (J9 [(Value.string (ByteArray.extract g0_k (Int.toNat (1 : Int)) (ByteArray.size g0_k))), (Value.bool true)] h7)))))))))))))
def A_key_first : Ann := (.mk none ⟨[], []⟩ .nil (.mk none ⟨[], []⟩ .nil (.mk none ⟨[], []⟩ .nil (.mk none ⟨[], []⟩ .nil (.mk none ⟨[], []⟩ (.mk none ⟨[], []⟩ .nil (.mk (some ⟨[2], [(3, (.c .str)), (4, (.c .bool))]⟩) ⟨[], []⟩ .nil .nil)) (.mk none ⟨[], []⟩ (.mk none ⟨[], []⟩ (.mk (some ⟨[2, 3], [(78, (.c .bool))]⟩) ⟨[], []⟩ .nil .nil) .nil) .nil))))))
theorem E_key_first (g0_k : ByteArray) (h : Hp) (Q : List Value → Hp → Prop) : cw PP 82 (fun _ => []) (bodyOf Tryd.f34) A_key_first (finQ PP (Tryd.f34.results.toList) Q) (argFr [(Value.string g0_k)]) h = F_key_first g0_k h Q := by kernel_rfl
theorem O_key_first (g0_k : ByteArray) {h : Hp} {Q : List Value → Hp → Prop} (H : F_key_first g0_k h Q) : S_key_first g0_k h Q :=
  fn_of_cw (hs := (fun _ => [])) (ann := A_key_first) (args := [(Value.string g0_k)]) mixedPP Tryd.func34 (c := bodyOf Tryd.f34) (by kernel_rfl) (by kernel_rfl) (by kernel_rfl) (Eq.mpr (E_key_first g0_k h Q) H)
def F_key_Split (g0_e : ByteArray) (h : Hp) (Q : List Value → Hp → Prop) : Prop :=
wth (Array.push h (Obj.cells #[(Value.int .i64 (0 : Int)), (Value.int .i64 (0 : Int)), (Value.float .f64 0), (Value.string (ByteArray.mk #[]))] T_api_Value)) fun h1 =>
S_key_first g0_e h1 fun (vs2 : List Value) (h3 : Hp) =>
∃ n4 : Int, ∃ n5 : Int, ∃ x6 : Nat, ∃ s7 : ByteArray, ∃ s8 : ByteArray, ∃ b9 : Bool, vs2 = [(Value.agg #[(Value.int .i64 n4), (Value.int .i64 n5), (Value.float .f64 x6), (Value.string s7)]), (Value.string s8), (Value.bool b9)] ∧
stOk h3 (Addr.mk (Array.size h) 0 none) 4 ∧ wth (wrs h3 (Addr.mk (Array.size h) 0 none) 0 [(Value.int .i64 n4), (Value.int .i64 n5), (Value.float .f64 x6), (Value.string s7)]) fun h10 =>
∀ J11 : List Value → Hp → Prop, (∀ b12 : Bool, ∀ h13 : Hp, ((if b12 = true then
      (stOk h13 (Addr.mk (Array.size h) 0 none) 4 ∧ wth (wrs h13 (Addr.mk (Array.size h) 0 none) 0 [(Value.int .i64 (0 : Int)), (Value.int .i64 (0 : Int)), (Value.float .f64 0), (Value.string (ByteArray.mk #[]))]) fun h14 =>
        ∃ n15 : Int, rd h14 (Addr.add (Addr.mk (Array.size h) 0 none) 0) = some (Value.int .i64 n15) ∧ ∃ n16 : Int, rd h14 (Addr.add (Addr.mk (Array.size h) 0 none) 1) = some (Value.int .i64 n16) ∧ ∃ x17 : Nat, rd h14 (Addr.add (Addr.mk (Array.size h) 0 none) 2) = some (Value.float .f64 x17) ∧ ∃ s18 : ByteArray, rd h14 (Addr.add (Addr.mk (Array.size h) 0 none) 3) = some (Value.string s18) ∧ Q [(Value.agg #[(Value.int .i64 n15), (Value.int .i64 n16), (Value.float .f64 x17), (Value.string s18)]), (Value.int .i64 (0 : Int)), (Value.int .i64 (11 : Int))] h14) else
      (∃ n19 : Int, rd h13 (Addr.add (Addr.mk (Array.size h) 0 none) 0) = some (Value.int .i64 n19) ∧ ∃ n20 : Int, rd h13 (Addr.add (Addr.mk (Array.size h) 0 none) 1) = some (Value.int .i64 n20) ∧ ∃ x21 : Nat, rd h13 (Addr.add (Addr.mk (Array.size h) 0 none) 2) = some (Value.float .f64 x21) ∧ ∃ s22 : ByteArray, rd h13 (Addr.add (Addr.mk (Array.size h) 0 none) 3) = some (Value.string s22) ∧ ixOk (0 : Int) (ByteArray.size s8) (shOk (8 : Int) (ixOk (1 : Int) (ByteArray.size s8) (stOk h13 (Addr.mk (Array.size h) 0 none) 4 ∧ wth (wrs h13 (Addr.mk (Array.size h) 0 none) 0 [(Value.int .i64 n19), (Value.int .i64 n20), (Value.float .f64 x21), (Value.string s22)]) fun h23 =>
              ∃ n24 : Int, rd h23 (Addr.add (Addr.mk (Array.size h) 0 none) 0) = some (Value.int .i64 n24) ∧ ∃ n25 : Int, rd h23 (Addr.add (Addr.mk (Array.size h) 0 none) 1) = some (Value.int .i64 n25) ∧ ∃ x26 : Nat, rd h23 (Addr.add (Addr.mk (Array.size h) 0 none) 2) = some (Value.float .f64 x26) ∧ ∃ s27 : ByteArray, rd h23 (Addr.add (Addr.mk (Array.size h) 0 none) 3) = some (Value.string s27) ∧ Q [(Value.agg #[(Value.int .i64 n24), (Value.int .i64 n25), (Value.float .f64 x26), (Value.string s27)]), (Value.int .i64 (iOr .i64 (iShl .i64 (IntKind.wrap .i64 (strIx s8 (0 : Int))) (8 : Int)) (IntKind.wrap .i64 (strIx s8 (1 : Int))))), (Value.int .i64 (0 : Int))] h23)))))) → J11 [(Value.bool b12)] h13) →
(if (!b9) = true then (J11 [(Value.bool true)] h10) else
  (J11 [(Value.bool ((ByteArray.size s8 : Int) != (2 : Int)))] h10))
def A_key_Split : Ann := (.mk none ⟨[], []⟩ .nil (.mk none ⟨[], []⟩ .nil (.mk none ⟨[], []⟩ (.mk none ⟨[], []⟩ (.mk (some ⟨[2, 5], [(19, (.c .bool))]⟩) ⟨[], []⟩ .nil .nil) .nil) .nil)))
theorem E_key_Split (g0_e : ByteArray) (h : Hp) (Q : List Value → Hp → Prop) : cw PP 30 (fun _ => []) (bodyOf Tryd.f15) A_key_Split (finQ PP (Tryd.f15.results.toList) Q) (argFr [(Value.string g0_e)]) h = F_key_Split g0_e h Q := by kernel_rfl
theorem O_key_Split (g0_e : ByteArray) {h : Hp} {Q : List Value → Hp → Prop} (H : F_key_Split g0_e h Q) : S_key_Split g0_e h Q :=
  fn_of_cw (hs := (fun _ => [])) (ann := A_key_Split) (args := [(Value.string g0_e)]) mixedPP Tryd.func15 (c := bodyOf Tryd.f15) (by kernel_rfl) (by kernel_rfl) (by kernel_rfl) (Eq.mpr (E_key_Split g0_e h Q) H)
def F_liverylaw03_wakes (h : Hp) (Q : List Value → Hp → Prop) : Prop :=
S_key_Of (2 : Int) (1 : Int) 0 (ByteArray.mk #[]) h fun (vs1 : List Value) (h2 : Hp) =>
∃ s3 : ByteArray, ∃ n4 : Int, vs1 = [(Value.string s3), (Value.int .i64 n4)] ∧
S_key_Entry (4 : Int) (0 : Int) 0 (ByteArray.mk #[97]) (258 : Int) h2 fun (vs5 : List Value) (h6 : Hp) =>
∃ s7 : ByteArray, ∃ n8 : Int, vs5 = [(Value.string s7), (Value.int .i64 n8)] ∧
S_key_Split s7 h6 fun (vs9 : List Value) (h10 : Hp) =>
∃ n11 : Int, ∃ n12 : Int, ∃ x13 : Nat, ∃ s14 : ByteArray, ∃ n15 : Int, ∃ n16 : Int, vs9 = [(Value.agg #[(Value.int .i64 n11), (Value.int .i64 n12), (Value.float .f64 x13), (Value.string s14)]), (Value.int .i64 n15), (Value.int .i64 n16)] ∧
wth (Array.push h10 (Obj.cells #[(Value.int .i64 (0 : Int)), (Value.int .i64 (0 : Int)), (Value.float .f64 0), (Value.string (ByteArray.mk #[]))] T_api_Value)) fun h17 =>
stOk h17 (Addr.mk (Array.size h10) 0 none) 4 ∧ wth (wrs h17 (Addr.mk (Array.size h10) 0 none) 0 [(Value.int .i64 n11), (Value.int .i64 n12), (Value.float .f64 x13), (Value.string s14)]) fun h18 =>
(if (n4 == (0 : Int)) = true then ((if (n8 == (0 : Int)) = true then ((if (n16 == (0 : Int)) = true then ((if ((ByteArray.toList s3) == (ByteArray.toList (ByteArray.mk #[2, 128, 0, 0, 0, 0, 0, 0, 1]))) = true then (∃ s19 : ByteArray, rd h18 (Addr.add (Addr.mk (Array.size h10) 0 none) 3) = some (Value.string s19) ∧
                (if ((ByteArray.toList s19) == (ByteArray.toList (ByteArray.mk #[97]))) = true then (Q [(Value.bool (n15 == (258 : Int)))] h18) else
                  (Q [(Value.bool false)] h18))) else
              (Q [(Value.bool false)] h18))) else
          (Q [(Value.bool false)] h18))) else
      (Q [(Value.bool false)] h18))) else
  (Q [(Value.bool false)] h18))
def A_liverylaw03_wakes : Ann := .nil
theorem E_liverylaw03_wakes (h : Hp) (Q : List Value → Hp → Prop) : cw PP 47 (fun _ => []) (bodyOf Tryd.f10) A_liverylaw03_wakes (finQ PP (Tryd.f10.results.toList) Q) (argFr []) h = F_liverylaw03_wakes h Q := by kernel_rfl
theorem O_liverylaw03_wakes {h : Hp} {Q : List Value → Hp → Prop} (H : F_liverylaw03_wakes h Q) : S_liverylaw03_wakes h Q :=
  fn_of_cw (hs := (fun _ => [])) (ann := A_liverylaw03_wakes) (args := []) mixedPP Tryd.func10 (c := bodyOf Tryd.f10) (by kernel_rfl) (by kernel_rfl) (by kernel_rfl) (Eq.mpr (E_liverylaw03_wakes h Q) H)
def F_liveryref01_rank (g0_f : Nat) (h : Hp) (Q : List Value → Hp → Prop) : Prop :=
S_math_IsNaN g0_f h fun (vs1 : List Value) (h2 : Hp) =>
∃ b3 : Bool, vs1 = [(Value.bool b3)] ∧
(if b3 = true then
  (Q [(Value.int .i64 (1 : Int))] h2) else
  (Q [(Value.int .i64 (0 : Int))] h2))
def A_liveryref01_rank : Ann := .nil
theorem E_liveryref01_rank (g0_f : Nat) (h : Hp) (Q : List Value → Hp → Prop) : cw PP 5 (fun _ => []) (bodyOf Tryd.f48) A_liveryref01_rank (finQ PP (Tryd.f48.results.toList) Q) (argFr [(Value.float .f64 g0_f)]) h = F_liveryref01_rank g0_f h Q := by kernel_rfl
theorem O_liveryref01_rank (g0_f : Nat) {h : Hp} {Q : List Value → Hp → Prop} (H : F_liveryref01_rank g0_f h Q) : S_liveryref01_rank g0_f h Q :=
  fn_of_cw (hs := (fun _ => [])) (ann := A_liveryref01_rank) (args := [(Value.float .f64 g0_f)]) mixedPP Tryd.func48 (c := bodyOf Tryd.f48) (by kernel_rfl) (by kernel_rfl) (by kernel_rfl) (Eq.mpr (E_liveryref01_rank g0_f h Q) H)
def F_liveryref01_Compare (g0_a : Nat) (g1_b : Nat) (h : Hp) (Q : List Value → Hp → Prop) : Prop :=
S_liveryref01_rank g0_a h fun (vs1 : List Value) (h2 : Hp) =>
∃ n3 : Int, vs1 = [(Value.int .i64 n3)] ∧
S_liveryref01_rank g1_b h2 fun (vs4 : List Value) (h5 : Hp) =>
∃ n6 : Int, vs4 = [(Value.int .i64 n6)] ∧
(if (n3 != n6) = true then
  (S_liveryref01_rank g0_a h5 fun (vs7 : List Value) (h8 : Hp) =>
    ∃ n9 : Int, vs7 = [(Value.int .i64 n9)] ∧
    S_liveryref01_rank g1_b h8 fun (vs10 : List Value) (h11 : Hp) =>
    ∃ n12 : Int, vs10 = [(Value.int .i64 n12)] ∧
    Q [(Value.int .i64 (IntKind.wrap .i64 (n9 - n12)))] h11) else
  (S_liveryref01_rank g0_a h5 fun (vs13 : List Value) (h14 : Hp) =>
    ∃ n15 : Int, vs13 = [(Value.int .i64 n15)] ∧
    (if (n15 == (1 : Int)) = true then
      (Q [(Value.int .i64 (0 : Int))] h14) else
      ((if ((FloatKind.format .f64).order g0_a g1_b == some .lt) = true then
          (Q [(Value.int .i64 (-1 : Int))] h14) else
          ((if ((FloatKind.format .f64).order g0_a g1_b == some .gt) = true then
              (Q [(Value.int .i64 (1 : Int))] h14) else
              (Q [(Value.int .i64 (0 : Int))] h14))))))))
def A_liveryref01_Compare : Ann := .nil
theorem E_liveryref01_Compare (g0_a : Nat) (g1_b : Nat) (h : Hp) (Q : List Value → Hp → Prop) : cw PP 28 (fun _ => []) (bodyOf Tryd.f33) A_liveryref01_Compare (finQ PP (Tryd.f33.results.toList) Q) (argFr [(Value.float .f64 g0_a), (Value.float .f64 g1_b)]) h = F_liveryref01_Compare g0_a g1_b h Q := by kernel_rfl
theorem O_liveryref01_Compare (g0_a : Nat) (g1_b : Nat) {h : Hp} {Q : List Value → Hp → Prop} (H : F_liveryref01_Compare g0_a g1_b h Q) : S_liveryref01_Compare g0_a g1_b h Q :=
  fn_of_cw (hs := (fun _ => [])) (ann := A_liveryref01_Compare) (args := [(Value.float .f64 g0_a), (Value.float .f64 g1_b)]) mixedPP Tryd.func33 (c := bodyOf Tryd.f33) (by kernel_rfl) (by kernel_rfl) (by kernel_rfl) (Eq.mpr (E_liveryref01_Compare g0_a g1_b h Q) H)
def F_liveryref02_Compare (g0_a_0 : Int) (g0_a_1 : Int) (g0_a_2 : Nat) (g0_a_3 : ByteArray) (g1_b_0 : Int) (g1_b_1 : Int) (g1_b_2 : Nat) (g1_b_3 : ByteArray) (h : Hp) (Q : List Value → Hp → Prop) : Prop :=
wth (Array.push h (Obj.cells #[(Value.int .i64 g0_a_0), (Value.int .i64 g0_a_1), (Value.float .f64 g0_a_2), (Value.string g0_a_3)] T_api_Value)) fun h1 =>
wth (Array.push h1 (Obj.cells #[(Value.int .i64 g1_b_0), (Value.int .i64 g1_b_1), (Value.float .f64 g1_b_2), (Value.string g1_b_3)] T_api_Value)) fun h2 =>
∃ n3 : Int, rd h2 (Addr.add (Addr.mk (Array.size h) 0 none) 0) = some (Value.int .i64 n3) ∧
∃ n4 : Int, rd h2 (Addr.add (Addr.mk (Array.size h1) 0 none) 0) = some (Value.int .i64 n4) ∧
(if (decide (n3 < n4)) = true then
  (Q [(Value.int .i64 (-1 : Int))] h2) else
  (∃ n5 : Int, rd h2 (Addr.add (Addr.mk (Array.size h) 0 none) 0) = some (Value.int .i64 n5) ∧
    ∃ n6 : Int, rd h2 (Addr.add (Addr.mk (Array.size h1) 0 none) 0) = some (Value.int .i64 n6) ∧
    (if (decide (n5 > n6)) = true then
      (Q [(Value.int .i64 (1 : Int))] h2) else
      (∃ n7 : Int, rd h2 (Addr.add (Addr.mk (Array.size h) 0 none) 1) = some (Value.int .i64 n7) ∧
        ∃ n8 : Int, rd h2 (Addr.add (Addr.mk (Array.size h1) 0 none) 1) = some (Value.int .i64 n8) ∧
        (if (decide (n7 < n8)) = true then
          (Q [(Value.int .i64 (-1 : Int))] h2) else
          (∃ n9 : Int, rd h2 (Addr.add (Addr.mk (Array.size h) 0 none) 1) = some (Value.int .i64 n9) ∧
            ∃ n10 : Int, rd h2 (Addr.add (Addr.mk (Array.size h1) 0 none) 1) = some (Value.int .i64 n10) ∧
            (if (decide (n9 > n10)) = true then
              (Q [(Value.int .i64 (1 : Int))] h2) else
              (∃ x11 : Nat, rd h2 (Addr.add (Addr.mk (Array.size h) 0 none) 2) = some (Value.float .f64 x11) ∧
                ∃ x12 : Nat, rd h2 (Addr.add (Addr.mk (Array.size h1) 0 none) 2) = some (Value.float .f64 x12) ∧
                S_liveryref01_Compare x11 x12 h2 fun (vs13 : List Value) (h14 : Hp) =>
                ∃ n15 : Int, vs13 = [(Value.int .i64 n15)] ∧
                (if (n15 != (0 : Int)) = true then
                  (Q [(Value.int .i64 n15)] h14) else
                  (∃ s16 : ByteArray, rd h14 (Addr.add (Addr.mk (Array.size h) 0 none) 3) = some (Value.string s16) ∧
                    ∃ s17 : ByteArray, rd h14 (Addr.add (Addr.mk (Array.size h1) 0 none) 3) = some (Value.string s17) ∧
                    (if (Op.bytesLess (ByteArray.toList s16) (ByteArray.toList s17)) = true then
                      (Q [(Value.int .i64 (-1 : Int))] h14) else
                      (∃ s18 : ByteArray, rd h14 (Addr.add (Addr.mk (Array.size h) 0 none) 3) = some (Value.string s18) ∧
                        ∃ s19 : ByteArray, rd h14 (Addr.add (Addr.mk (Array.size h1) 0 none) 3) = some (Value.string s19) ∧
                        (if (!(Op.bytesLess (ByteArray.toList s18) (ByteArray.toList s19) || (ByteArray.toList s18) == (ByteArray.toList s19))) = true then
                          (Q [(Value.int .i64 (1 : Int))] h14) else
                          (Q [(Value.int .i64 (0 : Int))] h14))))))))))))))
def A_liveryref02_Compare : Ann := .nil
theorem E_liveryref02_Compare (g0_a_0 : Int) (g0_a_1 : Int) (g0_a_2 : Nat) (g0_a_3 : ByteArray) (g1_b_0 : Int) (g1_b_1 : Int) (g1_b_2 : Nat) (g1_b_3 : ByteArray) (h : Hp) (Q : List Value → Hp → Prop) : cw PP 50 (fun _ => []) (bodyOf Tryd.f13) A_liveryref02_Compare (finQ PP (Tryd.f13.results.toList) Q) (argFr [(Value.agg #[(Value.int .i64 g0_a_0), (Value.int .i64 g0_a_1), (Value.float .f64 g0_a_2), (Value.string g0_a_3)]), (Value.agg #[(Value.int .i64 g1_b_0), (Value.int .i64 g1_b_1), (Value.float .f64 g1_b_2), (Value.string g1_b_3)])]) h = F_liveryref02_Compare g0_a_0 g0_a_1 g0_a_2 g0_a_3 g1_b_0 g1_b_1 g1_b_2 g1_b_3 h Q := by kernel_rfl
theorem O_liveryref02_Compare (g0_a_0 : Int) (g0_a_1 : Int) (g0_a_2 : Nat) (g0_a_3 : ByteArray) (g1_b_0 : Int) (g1_b_1 : Int) (g1_b_2 : Nat) (g1_b_3 : ByteArray) {h : Hp} {Q : List Value → Hp → Prop} (H : F_liveryref02_Compare g0_a_0 g0_a_1 g0_a_2 g0_a_3 g1_b_0 g1_b_1 g1_b_2 g1_b_3 h Q) : S_liveryref02_Compare g0_a_0 g0_a_1 g0_a_2 g0_a_3 g1_b_0 g1_b_1 g1_b_2 g1_b_3 h Q :=
  fn_of_cw (hs := (fun _ => [])) (ann := A_liveryref02_Compare) (args := [(Value.agg #[(Value.int .i64 g0_a_0), (Value.int .i64 g0_a_1), (Value.float .f64 g0_a_2), (Value.string g0_a_3)]), (Value.agg #[(Value.int .i64 g1_b_0), (Value.int .i64 g1_b_1), (Value.float .f64 g1_b_2), (Value.string g1_b_3)])]) mixedPP Tryd.func13 (c := bodyOf Tryd.f13) (by kernel_rfl) (by kernel_rfl) (by kernel_rfl) (Eq.mpr (E_liveryref02_Compare g0_a_0 g0_a_1 g0_a_2 g0_a_3 g1_b_0 g1_b_1 g1_b_2 g1_b_3 h Q) H)
def F_liverylaw03_KeyOrder (g0_a_0 : Int) (g0_a_1 : Int) (g0_a_2 : Nat) (g0_a_3 : ByteArray) (g1_b_0 : Int) (g1_b_1 : Int) (g1_b_2 : Nat) (g1_b_3 : ByteArray) (g2_w_0 : Int) (g2_w_1 : Int) (h : Hp) (Q : List Value → Hp → Prop) : Prop :=
wth (Array.push h (Obj.cells #[(Value.int .i64 g0_a_0), (Value.int .i64 g0_a_1), (Value.float .f64 g0_a_2), (Value.string g0_a_3)] T_api_Value)) fun h1 =>
wth (Array.push h1 (Obj.cells #[(Value.int .i64 g1_b_0), (Value.int .i64 g1_b_1), (Value.float .f64 g1_b_2), (Value.string g1_b_3)] T_api_Value)) fun h2 =>
wth (Array.push h2 (Obj.cells #[(Value.int .u16 g2_w_0), (Value.int .u16 g2_w_1)] T_2_uint16)) fun h3 =>
ixOk (0 : Int) 2 (∃ n4 : Int, rd h3 (Addr.add (Addr.mk (Array.size h2) 0 none) (Int.toNat (0 : Int) * 1)) = some (Value.int .u16 n4) ∧
  ixOk (1 : Int) 2 (∃ n5 : Int, rd h3 (Addr.add (Addr.mk (Array.size h2) 0 none) (Int.toNat (1 : Int) * 1)) = some (Value.int .u16 n5) ∧
    ∀ J6 : List Value → Hp → Prop, (∀ b7 : Bool, ∀ h8 : Hp, ((if b7 = true then
          (S_liverylaw03_wakes  h8 fun (vs9 : List Value) (h10 : Hp) =>
            ∃ b11 : Bool, vs9 = [(Value.bool b11)] ∧
            Q [(Value.bool b11)] h10) else
          (∃ n12 : Int, rd h8 (Addr.add (Addr.mk (Array.size h) 0 none) 0) = some (Value.int .i64 n12) ∧ ∃ n13 : Int, rd h8 (Addr.add (Addr.mk (Array.size h) 0 none) 1) = some (Value.int .i64 n13) ∧ ∃ x14 : Nat, rd h8 (Addr.add (Addr.mk (Array.size h) 0 none) 2) = some (Value.float .f64 x14) ∧ ∃ s15 : ByteArray, rd h8 (Addr.add (Addr.mk (Array.size h) 0 none) 3) = some (Value.string s15) ∧ S_key_Of n12 n13 x14 s15 h8 fun (vs16 : List Value) (h17 : Hp) =>
            ∃ s18 : ByteArray, ∃ n19 : Int, vs16 = [(Value.string s18), (Value.int .i64 n19)] ∧
            ∃ n20 : Int, rd h17 (Addr.add (Addr.mk (Array.size h1) 0 none) 0) = some (Value.int .i64 n20) ∧ ∃ n21 : Int, rd h17 (Addr.add (Addr.mk (Array.size h1) 0 none) 1) = some (Value.int .i64 n21) ∧ ∃ x22 : Nat, rd h17 (Addr.add (Addr.mk (Array.size h1) 0 none) 2) = some (Value.float .f64 x22) ∧ ∃ s23 : ByteArray, rd h17 (Addr.add (Addr.mk (Array.size h1) 0 none) 3) = some (Value.string s23) ∧ S_key_Of n20 n21 x22 s23 h17 fun (vs24 : List Value) (h25 : Hp) =>
            ∃ s26 : ByteArray, ∃ n27 : Int, vs24 = [(Value.string s26), (Value.int .i64 n27)] ∧
            ∃ n28 : Int, rd h25 (Addr.add (Addr.mk (Array.size h) 0 none) 0) = some (Value.int .i64 n28) ∧ ∃ n29 : Int, rd h25 (Addr.add (Addr.mk (Array.size h) 0 none) 1) = some (Value.int .i64 n29) ∧ ∃ x30 : Nat, rd h25 (Addr.add (Addr.mk (Array.size h) 0 none) 2) = some (Value.float .f64 x30) ∧ ∃ s31 : ByteArray, rd h25 (Addr.add (Addr.mk (Array.size h) 0 none) 3) = some (Value.string s31) ∧ S_key_Entry n28 n29 x30 s31 (IntKind.wrap .i64 n4) h25 fun (vs32 : List Value) (h33 : Hp) =>
            ∃ s34 : ByteArray, ∃ n35 : Int, vs32 = [(Value.string s34), (Value.int .i64 n35)] ∧
            ∃ n36 : Int, rd h33 (Addr.add (Addr.mk (Array.size h1) 0 none) 0) = some (Value.int .i64 n36) ∧ ∃ n37 : Int, rd h33 (Addr.add (Addr.mk (Array.size h1) 0 none) 1) = some (Value.int .i64 n37) ∧ ∃ x38 : Nat, rd h33 (Addr.add (Addr.mk (Array.size h1) 0 none) 2) = some (Value.float .f64 x38) ∧ ∃ s39 : ByteArray, rd h33 (Addr.add (Addr.mk (Array.size h1) 0 none) 3) = some (Value.string s39) ∧ S_key_Entry n36 n37 x38 s39 (IntKind.wrap .i64 n5) h33 fun (vs40 : List Value) (h41 : Hp) =>
            ∃ s42 : ByteArray, ∃ n43 : Int, vs40 = [(Value.string s42), (Value.int .i64 n43)] ∧
            ∀ J44 : List Value → Hp → Prop, (∀ b45 : Bool, ∀ h46 : Hp, ((if b45 = true then
                  (Q [(Value.bool false)] h46) else
                  (∃ n47 : Int, rd h46 (Addr.add (Addr.mk (Array.size h) 0 none) 0) = some (Value.int .i64 n47) ∧ ∃ n48 : Int, rd h46 (Addr.add (Addr.mk (Array.size h) 0 none) 1) = some (Value.int .i64 n48) ∧ ∃ x49 : Nat, rd h46 (Addr.add (Addr.mk (Array.size h) 0 none) 2) = some (Value.float .f64 x49) ∧ ∃ s50 : ByteArray, rd h46 (Addr.add (Addr.mk (Array.size h) 0 none) 3) = some (Value.string s50) ∧ ∃ n51 : Int, rd h46 (Addr.add (Addr.mk (Array.size h1) 0 none) 0) = some (Value.int .i64 n51) ∧ ∃ n52 : Int, rd h46 (Addr.add (Addr.mk (Array.size h1) 0 none) 1) = some (Value.int .i64 n52) ∧ ∃ x53 : Nat, rd h46 (Addr.add (Addr.mk (Array.size h1) 0 none) 2) = some (Value.float .f64 x53) ∧ ∃ s54 : ByteArray, rd h46 (Addr.add (Addr.mk (Array.size h1) 0 none) 3) = some (Value.string s54) ∧ S_liveryref02_Compare n47 n48 x49 s50 n51 n52 x53 s54 h46 fun (vs55 : List Value) (h56 : Hp) =>
                    ∃ n57 : Int, vs55 = [(Value.int .i64 n57)] ∧
                    ∀ J58 : List Value → Hp → Prop, (∀ b59 : Bool, ∀ h60 : Hp, ((if b59 = true then
                          (Q [(Value.bool false)] h60) else
                          ((if (decide (n57 < (0 : Int))) = true then ((if ((Op.bytesLess (ByteArray.toList s34) (ByteArray.toList s42)) == true) = true then ((if (n57 == (0 : Int)) = true then ((if (((ByteArray.toList s34) == (ByteArray.toList s42)) == (n4 == n5)) = true then (S_liverylaw03_wakes  h60 fun (vs61 : List Value) (h62 : Hp) =>
                                            ∃ b63 : Bool, vs61 = [(Value.bool b63)] ∧
                                            Q [(Value.bool b63)] h62) else
                                          (Q [(Value.bool false)] h60))) else
                                      ((if (((ByteArray.toList s34) == (ByteArray.toList s42)) == false) = true then (S_liverylaw03_wakes  h60 fun (vs64 : List Value) (h65 : Hp) =>
                                            ∃ b66 : Bool, vs64 = [(Value.bool b66)] ∧
                                            Q [(Value.bool b66)] h65) else
                                          (Q [(Value.bool false)] h60))))) else
                                  (Q [(Value.bool false)] h60))) else
                              ((if (n57 == (0 : Int)) = true then ((if ((Op.bytesLess (ByteArray.toList s34) (ByteArray.toList s42)) == (decide (n4 < n5))) = true then ((if (n57 == (0 : Int)) = true then ((if (((ByteArray.toList s34) == (ByteArray.toList s42)) == (n4 == n5)) = true then (S_liverylaw03_wakes  h60 fun (vs67 : List Value) (h68 : Hp) =>
                                                ∃ b69 : Bool, vs67 = [(Value.bool b69)] ∧
                                                Q [(Value.bool b69)] h68) else
                                              (Q [(Value.bool false)] h60))) else
                                          ((if (((ByteArray.toList s34) == (ByteArray.toList s42)) == false) = true then (S_liverylaw03_wakes  h60 fun (vs70 : List Value) (h71 : Hp) =>
                                                ∃ b72 : Bool, vs70 = [(Value.bool b72)] ∧
                                                Q [(Value.bool b72)] h71) else
                                              (Q [(Value.bool false)] h60))))) else
                                      (Q [(Value.bool false)] h60))) else
                                  ((if ((Op.bytesLess (ByteArray.toList s34) (ByteArray.toList s42)) == false) = true then ((if (n57 == (0 : Int)) = true then ((if (((ByteArray.toList s34) == (ByteArray.toList s42)) == (n4 == n5)) = true then (S_liverylaw03_wakes  h60 fun (vs73 : List Value) (h74 : Hp) =>
                                                ∃ b75 : Bool, vs73 = [(Value.bool b75)] ∧
                                                Q [(Value.bool b75)] h74) else
                                              (Q [(Value.bool false)] h60))) else
                                          ((if (((ByteArray.toList s34) == (ByteArray.toList s42)) == false) = true then (S_liverylaw03_wakes  h60 fun (vs76 : List Value) (h77 : Hp) =>
                                                ∃ b78 : Bool, vs76 = [(Value.bool b78)] ∧
                                                Q [(Value.bool b78)] h77) else
                                              (Q [(Value.bool false)] h60))))) else
                                      (Q [(Value.bool false)] h60))))))))) → J58 [(Value.bool b59)] h60) →
                    (if (!((Op.bytesLess (ByteArray.toList s18) (ByteArray.toList s26)) == (decide (n57 < (0 : Int))))) = true then (J58 [(Value.bool true)] h56) else
                      (J58 [(Value.bool (!(((ByteArray.toList s18) == (ByteArray.toList s26)) == (n57 == (0 : Int)))))] h56))))) → J44 [(Value.bool b45)] h46) →
            (if (n19 != (0 : Int)) = true then (J44 [(Value.bool true)] h41) else
              ((if (n27 != (0 : Int)) = true then (J44 [(Value.bool true)] h41) else
                  ((if (n35 != (0 : Int)) = true then (J44 [(Value.bool true)] h41) else
                      (J44 [(Value.bool (n43 != (0 : Int)))] h41))))))))) → J6 [(Value.bool b7)] h8) →
    ∃ n79 : Int, rd h3 (Addr.add (Addr.mk (Array.size h) 0 none) 0) = some (Value.int .i64 n79) ∧ ∃ n80 : Int, rd h3 (Addr.add (Addr.mk (Array.size h) 0 none) 1) = some (Value.int .i64 n80) ∧ ∃ x81 : Nat, rd h3 (Addr.add (Addr.mk (Array.size h) 0 none) 2) = some (Value.float .f64 x81) ∧ ∃ s82 : ByteArray, rd h3 (Addr.add (Addr.mk (Array.size h) 0 none) 3) = some (Value.string s82) ∧ S_liveryref02_Good n79 n80 x81 s82 h3 fun (vs83 : List Value) (h84 : Hp) =>
    ∃ b85 : Bool, vs83 = [(Value.bool b85)] ∧
    (if (!b85) = true then (J6 [(Value.bool true)] h84) else
      (∃ n86 : Int, rd h84 (Addr.add (Addr.mk (Array.size h1) 0 none) 0) = some (Value.int .i64 n86) ∧ ∃ n87 : Int, rd h84 (Addr.add (Addr.mk (Array.size h1) 0 none) 1) = some (Value.int .i64 n87) ∧ ∃ x88 : Nat, rd h84 (Addr.add (Addr.mk (Array.size h1) 0 none) 2) = some (Value.float .f64 x88) ∧ ∃ s89 : ByteArray, rd h84 (Addr.add (Addr.mk (Array.size h1) 0 none) 3) = some (Value.string s89) ∧ S_liveryref02_Good n86 n87 x88 s89 h84 fun (vs90 : List Value) (h91 : Hp) =>
        ∃ b92 : Bool, vs90 = [(Value.bool b92)] ∧
        J6 [(Value.bool (!b92))] h91))))
def A_liverylaw03_KeyOrder : Ann := (.mk none ⟨[], []⟩ .nil (.mk none ⟨[], []⟩ .nil (.mk none ⟨[], []⟩ (.mk none ⟨[], []⟩ (.mk (some ⟨[3, 4, 7, 8], [(29, (.c .bool))]⟩) ⟨[], []⟩ .nil .nil) .nil) (.mk none ⟨[], []⟩ .nil (.mk none ⟨[], []⟩ .nil (.mk none ⟨[], []⟩ .nil (.mk none ⟨[], []⟩ .nil (.mk none ⟨[], []⟩ (.mk none ⟨[], []⟩ (.mk (some ⟨[3, 4, 7, 8, 9, 11, 13, 15], [(68, (.c .bool))]⟩) ⟨[], []⟩ .nil .nil) .nil) (.mk none ⟨[], []⟩ .nil (.mk none ⟨[], []⟩ (.mk none ⟨[], []⟩ (.mk (some ⟨[7, 8, 13, 15, 17], [(85, (.c .bool))]⟩) ⟨[], []⟩ .nil .nil) .nil) .nil))))))))))
theorem E_liverylaw03_KeyOrder (g0_a_0 : Int) (g0_a_1 : Int) (g0_a_2 : Nat) (g0_a_3 : ByteArray) (g1_b_0 : Int) (g1_b_1 : Int) (g1_b_2 : Nat) (g1_b_3 : ByteArray) (g2_w_0 : Int) (g2_w_1 : Int) (h : Hp) (Q : List Value → Hp → Prop) : cw PP 117 (fun _ => []) (bodyOf Tryd.f3) A_liverylaw03_KeyOrder (finQ PP (Tryd.f3.results.toList) Q) (argFr [(Value.agg #[(Value.int .i64 g0_a_0), (Value.int .i64 g0_a_1), (Value.float .f64 g0_a_2), (Value.string g0_a_3)]), (Value.agg #[(Value.int .i64 g1_b_0), (Value.int .i64 g1_b_1), (Value.float .f64 g1_b_2), (Value.string g1_b_3)]), (Value.agg #[(Value.int .u16 g2_w_0), (Value.int .u16 g2_w_1)])]) h = F_liverylaw03_KeyOrder g0_a_0 g0_a_1 g0_a_2 g0_a_3 g1_b_0 g1_b_1 g1_b_2 g1_b_3 g2_w_0 g2_w_1 h Q := by kernel_rfl
theorem O_liverylaw03_KeyOrder (g0_a_0 : Int) (g0_a_1 : Int) (g0_a_2 : Nat) (g0_a_3 : ByteArray) (g1_b_0 : Int) (g1_b_1 : Int) (g1_b_2 : Nat) (g1_b_3 : ByteArray) (g2_w_0 : Int) (g2_w_1 : Int) {h : Hp} {Q : List Value → Hp → Prop} (H : F_liverylaw03_KeyOrder g0_a_0 g0_a_1 g0_a_2 g0_a_3 g1_b_0 g1_b_1 g1_b_2 g1_b_3 g2_w_0 g2_w_1 h Q) : S_liverylaw03_KeyOrder g0_a_0 g0_a_1 g0_a_2 g0_a_3 g1_b_0 g1_b_1 g1_b_2 g1_b_3 g2_w_0 g2_w_1 h Q :=
  fn_of_cw (hs := (fun _ => [])) (ann := A_liverylaw03_KeyOrder) (args := [(Value.agg #[(Value.int .i64 g0_a_0), (Value.int .i64 g0_a_1), (Value.float .f64 g0_a_2), (Value.string g0_a_3)]), (Value.agg #[(Value.int .i64 g1_b_0), (Value.int .i64 g1_b_1), (Value.float .f64 g1_b_2), (Value.string g1_b_3)]), (Value.agg #[(Value.int .u16 g2_w_0), (Value.int .u16 g2_w_1)])]) mixedPP Tryd.func3 (c := bodyOf Tryd.f3) (by kernel_rfl) (by kernel_rfl) (by kernel_rfl) (Eq.mpr (E_liverylaw03_KeyOrder g0_a_0 g0_a_1 g0_a_2 g0_a_3 g1_b_0 g1_b_1 g1_b_2 g1_b_3 g2_w_0 g2_w_1 h Q) H)
def F_liverykeep_LargeValue (g0_v_0 : Int) (g0_v_1 : Int) (g0_v_2 : Nat) (g0_v_3 : ByteArray) (h : Hp) (Q : List Value → Hp → Prop) : Prop :=
wth (Array.push h (Obj.cells #[(Value.int .i64 g0_v_0), (Value.int .i64 g0_v_1), (Value.float .f64 g0_v_2), (Value.string g0_v_3)] T_api_Value)) fun h1 =>
∃ s2 : ByteArray, rd h1 (Addr.add (Addr.mk (Array.size h) 0 none) 3) = some (Value.string s2) ∧
Q [(Value.bool (decide ((ByteArray.size s2 : Int) > (2000 : Int))))] h1
def A_liverykeep_LargeValue : Ann := .nil
theorem E_liverykeep_LargeValue (g0_v_0 : Int) (g0_v_1 : Int) (g0_v_2 : Nat) (g0_v_3 : ByteArray) (h : Hp) (Q : List Value → Hp → Prop) : cw PP 7 (fun _ => []) (bodyOf Tryd.f14) A_liverykeep_LargeValue (finQ PP (Tryd.f14.results.toList) Q) (argFr [(Value.agg #[(Value.int .i64 g0_v_0), (Value.int .i64 g0_v_1), (Value.float .f64 g0_v_2), (Value.string g0_v_3)])]) h = F_liverykeep_LargeValue g0_v_0 g0_v_1 g0_v_2 g0_v_3 h Q := by kernel_rfl
theorem O_liverykeep_LargeValue (g0_v_0 : Int) (g0_v_1 : Int) (g0_v_2 : Nat) (g0_v_3 : ByteArray) {h : Hp} {Q : List Value → Hp → Prop} (H : F_liverykeep_LargeValue g0_v_0 g0_v_1 g0_v_2 g0_v_3 h Q) : S_liverykeep_LargeValue g0_v_0 g0_v_1 g0_v_2 g0_v_3 h Q :=
  fn_of_cw (hs := (fun _ => [])) (ann := A_liverykeep_LargeValue) (args := [(Value.agg #[(Value.int .i64 g0_v_0), (Value.int .i64 g0_v_1), (Value.float .f64 g0_v_2), (Value.string g0_v_3)])]) mixedPP Tryd.func14 (c := bodyOf Tryd.f14) (by kernel_rfl) (by kernel_rfl) (by kernel_rfl) (Eq.mpr (E_liverykeep_LargeValue g0_v_0 g0_v_1 g0_v_2 g0_v_3 h Q) H)
def F_liverykeep_Value (g0_a_0 : Int) (g0_a_1 : Int) (g0_a_2 : Nat) (g0_a_3 : ByteArray) (g1_b_0 : Int) (g1_b_1 : Int) (g1_b_2 : Nat) (g1_b_3 : ByteArray) (h : Hp) (Q : List Value → Hp → Prop) : Prop :=
wth (Array.push h (Obj.cells #[(Value.int .i64 g0_a_0), (Value.int .i64 g0_a_1), (Value.float .f64 g0_a_2), (Value.string g0_a_3)] T_api_Value)) fun h1 =>
wth (Array.push h1 (Obj.cells #[(Value.int .i64 g1_b_0), (Value.int .i64 g1_b_1), (Value.float .f64 g1_b_2), (Value.string g1_b_3)] T_api_Value)) fun h2 =>
∃ n3 : Int, rd h2 (Addr.add (Addr.mk (Array.size h) 0 none) 0) = some (Value.int .i64 n3) ∧
∃ n4 : Int, rd h2 (Addr.add (Addr.mk (Array.size h1) 0 none) 0) = some (Value.int .i64 n4) ∧
(if (n3 == n4) = true then (∃ n5 : Int, rd h2 (Addr.add (Addr.mk (Array.size h) 0 none) 1) = some (Value.int .i64 n5) ∧
    ∃ n6 : Int, rd h2 (Addr.add (Addr.mk (Array.size h1) 0 none) 1) = some (Value.int .i64 n6) ∧
    (if (n5 == n6) = true then (∃ x7 : Nat, rd h2 (Addr.add (Addr.mk (Array.size h) 0 none) 2) = some (Value.float .f64 x7) ∧
        ∃ x8 : Nat, rd h2 (Addr.add (Addr.mk (Array.size h1) 0 none) 2) = some (Value.float .f64 x8) ∧
        S_math_Float64bits x7 h2 fun (vs9 : List Value) (h10 : Hp) =>
        ∃ n11 : Int, vs9 = [(Value.int .u64 n11)] ∧
        rd h10 (Addr.add (Addr.mk (Array.size h1) 0 none) 2) = some (Value.float .f64 x8) ∧ S_math_Float64bits x8 h10 fun (vs12 : List Value) (h13 : Hp) =>
        ∃ n14 : Int, vs12 = [(Value.int .u64 n14)] ∧
        (if (n11 == n14) = true then (∃ s15 : ByteArray, rd h13 (Addr.add (Addr.mk (Array.size h) 0 none) 3) = some (Value.string s15) ∧
            ∃ s16 : ByteArray, rd h13 (Addr.add (Addr.mk (Array.size h1) 0 none) 3) = some (Value.string s16) ∧
            Q [(Value.bool ((ByteArray.toList s15) == (ByteArray.toList s16)))] h13) else
          (Q [(Value.bool false)] h13))) else
      (Q [(Value.bool false)] h2))) else
  (Q [(Value.bool false)] h2))
def A_liverykeep_Value : Ann := .nil
theorem E_liverykeep_Value (g0_a_0 : Int) (g0_a_1 : Int) (g0_a_2 : Nat) (g0_a_3 : ByteArray) (g1_b_0 : Int) (g1_b_1 : Int) (g1_b_2 : Nat) (g1_b_3 : ByteArray) (h : Hp) (Q : List Value → Hp → Prop) : cw PP 33 (fun _ => []) (bodyOf Tryd.f16) A_liverykeep_Value (finQ PP (Tryd.f16.results.toList) Q) (argFr [(Value.agg #[(Value.int .i64 g0_a_0), (Value.int .i64 g0_a_1), (Value.float .f64 g0_a_2), (Value.string g0_a_3)]), (Value.agg #[(Value.int .i64 g1_b_0), (Value.int .i64 g1_b_1), (Value.float .f64 g1_b_2), (Value.string g1_b_3)])]) h = F_liverykeep_Value g0_a_0 g0_a_1 g0_a_2 g0_a_3 g1_b_0 g1_b_1 g1_b_2 g1_b_3 h Q := by kernel_rfl
theorem O_liverykeep_Value (g0_a_0 : Int) (g0_a_1 : Int) (g0_a_2 : Nat) (g0_a_3 : ByteArray) (g1_b_0 : Int) (g1_b_1 : Int) (g1_b_2 : Nat) (g1_b_3 : ByteArray) {h : Hp} {Q : List Value → Hp → Prop} (H : F_liverykeep_Value g0_a_0 g0_a_1 g0_a_2 g0_a_3 g1_b_0 g1_b_1 g1_b_2 g1_b_3 h Q) : S_liverykeep_Value g0_a_0 g0_a_1 g0_a_2 g0_a_3 g1_b_0 g1_b_1 g1_b_2 g1_b_3 h Q :=
  fn_of_cw (hs := (fun _ => [])) (ann := A_liverykeep_Value) (args := [(Value.agg #[(Value.int .i64 g0_a_0), (Value.int .i64 g0_a_1), (Value.float .f64 g0_a_2), (Value.string g0_a_3)]), (Value.agg #[(Value.int .i64 g1_b_0), (Value.int .i64 g1_b_1), (Value.float .f64 g1_b_2), (Value.string g1_b_3)])]) mixedPP Tryd.func16 (c := bodyOf Tryd.f16) (by kernel_rfl) (by kernel_rfl) (by kernel_rfl) (Eq.mpr (E_liverykeep_Value g0_a_0 g0_a_1 g0_a_2 g0_a_3 g1_b_0 g1_b_1 g1_b_2 g1_b_3 h Q) H)
def F_key_Value (g0_k : ByteArray) (h : Hp) (Q : List Value → Hp → Prop) : Prop :=
wth (Array.push h (Obj.cells #[(Value.int .i64 (0 : Int)), (Value.int .i64 (0 : Int)), (Value.float .f64 0), (Value.string (ByteArray.mk #[]))] T_api_Value)) fun h1 =>
S_key_first g0_k h1 fun (vs2 : List Value) (h3 : Hp) =>
∃ n4 : Int, ∃ n5 : Int, ∃ x6 : Nat, ∃ s7 : ByteArray, ∃ s8 : ByteArray, ∃ b9 : Bool, vs2 = [(Value.agg #[(Value.int .i64 n4), (Value.int .i64 n5), (Value.float .f64 x6), (Value.string s7)]), (Value.string s8), (Value.bool b9)] ∧
wth (Array.push h3 (Obj.cells #[(Value.int .i64 (0 : Int)), (Value.int .i64 (0 : Int)), (Value.float .f64 0), (Value.string (ByteArray.mk #[]))] T_api_Value)) fun h10 =>
stOk h10 (Addr.mk (Array.size h3) 0 none) 4 ∧ wth (wrs h10 (Addr.mk (Array.size h3) 0 none) 0 [(Value.int .i64 n4), (Value.int .i64 n5), (Value.float .f64 x6), (Value.string s7)]) fun h11 =>
∀ J12 : List Value → Hp → Prop, (∀ b13 : Bool, ∀ h14 : Hp, ((if b13 = true then
      (stOk h14 (Addr.mk (Array.size h) 0 none) 4 ∧ wth (wrs h14 (Addr.mk (Array.size h) 0 none) 0 [(Value.int .i64 (0 : Int)), (Value.int .i64 (0 : Int)), (Value.float .f64 0), (Value.string (ByteArray.mk #[]))]) fun h15 =>
        ∃ n16 : Int, rd h15 (Addr.add (Addr.mk (Array.size h) 0 none) 0) = some (Value.int .i64 n16) ∧ ∃ n17 : Int, rd h15 (Addr.add (Addr.mk (Array.size h) 0 none) 1) = some (Value.int .i64 n17) ∧ ∃ x18 : Nat, rd h15 (Addr.add (Addr.mk (Array.size h) 0 none) 2) = some (Value.float .f64 x18) ∧ ∃ s19 : ByteArray, rd h15 (Addr.add (Addr.mk (Array.size h) 0 none) 3) = some (Value.string s19) ∧ Q [(Value.agg #[(Value.int .i64 n16), (Value.int .i64 n17), (Value.float .f64 x18), (Value.string s19)]), (Value.int .i64 (11 : Int))] h15) else
      (∃ n20 : Int, rd h14 (Addr.add (Addr.mk (Array.size h3) 0 none) 0) = some (Value.int .i64 n20) ∧ ∃ n21 : Int, rd h14 (Addr.add (Addr.mk (Array.size h3) 0 none) 1) = some (Value.int .i64 n21) ∧ ∃ x22 : Nat, rd h14 (Addr.add (Addr.mk (Array.size h3) 0 none) 2) = some (Value.float .f64 x22) ∧ ∃ s23 : ByteArray, rd h14 (Addr.add (Addr.mk (Array.size h3) 0 none) 3) = some (Value.string s23) ∧ stOk h14 (Addr.mk (Array.size h) 0 none) 4 ∧ wth (wrs h14 (Addr.mk (Array.size h) 0 none) 0 [(Value.int .i64 n20), (Value.int .i64 n21), (Value.float .f64 x22), (Value.string s23)]) fun h24 =>
        ∃ n25 : Int, rd h24 (Addr.add (Addr.mk (Array.size h) 0 none) 0) = some (Value.int .i64 n25) ∧ ∃ n26 : Int, rd h24 (Addr.add (Addr.mk (Array.size h) 0 none) 1) = some (Value.int .i64 n26) ∧ ∃ x27 : Nat, rd h24 (Addr.add (Addr.mk (Array.size h) 0 none) 2) = some (Value.float .f64 x27) ∧ ∃ s28 : ByteArray, rd h24 (Addr.add (Addr.mk (Array.size h) 0 none) 3) = some (Value.string s28) ∧ Q [(Value.agg #[(Value.int .i64 n25), (Value.int .i64 n26), (Value.float .f64 x27), (Value.string s28)]), (Value.int .i64 (0 : Int))] h24))) → J12 [(Value.bool b13)] h14) →
(if (!b9) = true then (J12 [(Value.bool true)] h11) else
  (J12 [(Value.bool (!((ByteArray.toList s8) == (ByteArray.toList (ByteArray.mk #[])))))] h11))
def A_key_Value : Ann := (.mk none ⟨[], []⟩ .nil (.mk none ⟨[], []⟩ .nil (.mk none ⟨[], []⟩ (.mk none ⟨[], []⟩ (.mk (some ⟨[2, 4], [(18, (.c .bool))]⟩) ⟨[], []⟩ .nil .nil) .nil) .nil)))
theorem E_key_Value (g0_k : ByteArray) (h : Hp) (Q : List Value → Hp → Prop) : cw PP 21 (fun _ => []) (bodyOf Tryd.f17) A_key_Value (finQ PP (Tryd.f17.results.toList) Q) (argFr [(Value.string g0_k)]) h = F_key_Value g0_k h Q := by kernel_rfl
theorem O_key_Value (g0_k : ByteArray) {h : Hp} {Q : List Value → Hp → Prop} (H : F_key_Value g0_k h Q) : S_key_Value g0_k h Q :=
  fn_of_cw (hs := (fun _ => [])) (ann := A_key_Value) (args := [(Value.string g0_k)]) mixedPP Tryd.func17 (c := bodyOf Tryd.f17) (by kernel_rfl) (by kernel_rfl) (by kernel_rfl) (Eq.mpr (E_key_Value g0_k h Q) H)
def F_liverylaw03_KeyBack (g0_v_0 : Int) (g0_v_1 : Int) (g0_v_2 : Nat) (g0_v_3 : ByteArray) (g1_n : Int) (g2_k : ByteArray) (h : Hp) (Q : List Value → Hp → Prop) : Prop :=
wth (Array.push h (Obj.cells #[(Value.int .i64 g0_v_0), (Value.int .i64 g0_v_1), (Value.float .f64 g0_v_2), (Value.string g0_v_3)] T_api_Value)) fun h1 =>
∀ J2 : List Value → Hp → Prop, (∀ b3 : Bool, ∀ h4 : Hp, ((if b3 = true then
      (S_liverylaw03_wakes  h4 fun (vs5 : List Value) (h6 : Hp) =>
        ∃ b7 : Bool, vs5 = [(Value.bool b7)] ∧
        Q [(Value.bool b7)] h6) else
      (∃ n8 : Int, rd h4 (Addr.add (Addr.mk (Array.size h) 0 none) 0) = some (Value.int .i64 n8) ∧ ∃ n9 : Int, rd h4 (Addr.add (Addr.mk (Array.size h) 0 none) 1) = some (Value.int .i64 n9) ∧ ∃ x10 : Nat, rd h4 (Addr.add (Addr.mk (Array.size h) 0 none) 2) = some (Value.float .f64 x10) ∧ ∃ s11 : ByteArray, rd h4 (Addr.add (Addr.mk (Array.size h) 0 none) 3) = some (Value.string s11) ∧ S_key_Entry n8 n9 x10 s11 (IntKind.wrap .i64 g1_n) h4 fun (vs12 : List Value) (h13 : Hp) =>
        ∃ s14 : ByteArray, ∃ n15 : Int, vs12 = [(Value.string s14), (Value.int .i64 n15)] ∧
        ∀ J16 : List Value → Hp → Prop, (∀ h17 : Hp, (S_key_Value g2_k h17 fun (vs18 : List Value) (h19 : Hp) =>
            ∃ n20 : Int, ∃ n21 : Int, ∃ x22 : Nat, ∃ s23 : ByteArray, ∃ n24 : Int, vs18 = [(Value.agg #[(Value.int .i64 n20), (Value.int .i64 n21), (Value.float .f64 x22), (Value.string s23)]), (Value.int .i64 n24)] ∧
            wth (Array.push h19 (Obj.cells #[(Value.int .i64 (0 : Int)), (Value.int .i64 (0 : Int)), (Value.float .f64 0), (Value.string (ByteArray.mk #[]))] T_api_Value)) fun h25 =>
            stOk h25 (Addr.mk (Array.size h19) 0 none) 4 ∧ wth (wrs h25 (Addr.mk (Array.size h19) 0 none) 0 [(Value.int .i64 n20), (Value.int .i64 n21), (Value.float .f64 x22), (Value.string s23)]) fun h26 =>
            (if (n24 != (0 : Int)) = true then
              (∀ J27 : List Value → Hp → Prop, (∀ b28 : Bool, ∀ h29 : Hp, (Q [(Value.bool b28)] h29) → J27 [(Value.bool b28)] h29) →
                (if (n24 == (11 : Int)) = true then (∃ n30 : Int, rd h26 (Addr.add (Addr.mk (Array.size h19) 0 none) 0) = some (Value.int .i64 n30) ∧
                    (if (n30 == (0 : Int)) = true then (S_liverylaw03_wakes  h26 fun (vs31 : List Value) (h32 : Hp) =>
                        ∃ b33 : Bool, vs31 = [(Value.bool b33)] ∧
                        J27 [(Value.bool b33)] h32) else
                      (J27 [(Value.bool false)] h26))) else
                  (J27 [(Value.bool false)] h26))) else
              (∃ n34 : Int, rd h26 (Addr.add (Addr.mk (Array.size h19) 0 none) 0) = some (Value.int .i64 n34) ∧ ∃ n35 : Int, rd h26 (Addr.add (Addr.mk (Array.size h19) 0 none) 1) = some (Value.int .i64 n35) ∧ ∃ x36 : Nat, rd h26 (Addr.add (Addr.mk (Array.size h19) 0 none) 2) = some (Value.float .f64 x36) ∧ ∃ s37 : ByteArray, rd h26 (Addr.add (Addr.mk (Array.size h19) 0 none) 3) = some (Value.string s37) ∧ S_key_Of n34 n35 x36 s37 h26 fun (vs38 : List Value) (h39 : Hp) =>
                ∃ s40 : ByteArray, ∃ n41 : Int, vs38 = [(Value.string s40), (Value.int .i64 n41)] ∧
                (if (n41 == (0 : Int)) = true then ((if ((ByteArray.toList s40) == (ByteArray.toList g2_k)) = true then (S_liverylaw03_wakes  h39 fun (vs42 : List Value) (h43 : Hp) =>
                        ∃ b44 : Bool, vs42 = [(Value.bool b44)] ∧
                        Q [(Value.bool b44)] h43) else
                      (Q [(Value.bool false)] h39))) else
                  (Q [(Value.bool false)] h39))))) → J16 [] h17) →
        (if (n15 == (0 : Int)) = true then
          (S_key_Split s14 h13 fun (vs45 : List Value) (h46 : Hp) =>
            ∃ n47 : Int, ∃ n48 : Int, ∃ x49 : Nat, ∃ s50 : ByteArray, ∃ n51 : Int, ∃ n52 : Int, vs45 = [(Value.agg #[(Value.int .i64 n47), (Value.int .i64 n48), (Value.float .f64 x49), (Value.string s50)]), (Value.int .i64 n51), (Value.int .i64 n52)] ∧
            wth (Array.push h46 (Obj.cells #[(Value.int .i64 (0 : Int)), (Value.int .i64 (0 : Int)), (Value.float .f64 0), (Value.string (ByteArray.mk #[]))] T_api_Value)) fun h53 =>
            stOk h53 (Addr.mk (Array.size h46) 0 none) 4 ∧ wth (wrs h53 (Addr.mk (Array.size h46) 0 none) 0 [(Value.int .i64 n47), (Value.int .i64 n48), (Value.float .f64 x49), (Value.string s50)]) fun h54 =>
            ∀ J55 : List Value → Hp → Prop, (∀ b56 : Bool, ∀ h57 : Hp, ((if b56 = true then
                  (Q [(Value.bool false)] h57) else
                  (J16 [] h57))) → J55 [(Value.bool b56)] h57) →
            (if (n52 != (0 : Int)) = true then (J55 [(Value.bool true)] h54) else
              ((if (n51 != (IntKind.wrap .i64 g1_n)) = true then (J55 [(Value.bool true)] h54) else
                  (∃ n58 : Int, rd h54 (Addr.add (Addr.mk (Array.size h) 0 none) 0) = some (Value.int .i64 n58) ∧ ∃ n59 : Int, rd h54 (Addr.add (Addr.mk (Array.size h) 0 none) 1) = some (Value.int .i64 n59) ∧ ∃ x60 : Nat, rd h54 (Addr.add (Addr.mk (Array.size h) 0 none) 2) = some (Value.float .f64 x60) ∧ ∃ s61 : ByteArray, rd h54 (Addr.add (Addr.mk (Array.size h) 0 none) 3) = some (Value.string s61) ∧ ∃ n62 : Int, rd h54 (Addr.add (Addr.mk (Array.size h46) 0 none) 0) = some (Value.int .i64 n62) ∧ ∃ n63 : Int, rd h54 (Addr.add (Addr.mk (Array.size h46) 0 none) 1) = some (Value.int .i64 n63) ∧ ∃ x64 : Nat, rd h54 (Addr.add (Addr.mk (Array.size h46) 0 none) 2) = some (Value.float .f64 x64) ∧ ∃ s65 : ByteArray, rd h54 (Addr.add (Addr.mk (Array.size h46) 0 none) 3) = some (Value.string s65) ∧ S_liverykeep_Value n58 n59 x60 s61 n62 n63 x64 s65 h54 fun (vs66 : List Value) (h67 : Hp) =>
                    ∃ b68 : Bool, vs66 = [(Value.bool b68)] ∧
                    J55 [(Value.bool (!b68))] h67))))) else
          (J16 [] h13))))) → J2 [(Value.bool b3)] h4) →
∃ n69 : Int, rd h1 (Addr.add (Addr.mk (Array.size h) 0 none) 0) = some (Value.int .i64 n69) ∧ ∃ n70 : Int, rd h1 (Addr.add (Addr.mk (Array.size h) 0 none) 1) = some (Value.int .i64 n70) ∧ ∃ x71 : Nat, rd h1 (Addr.add (Addr.mk (Array.size h) 0 none) 2) = some (Value.float .f64 x71) ∧ ∃ s72 : ByteArray, rd h1 (Addr.add (Addr.mk (Array.size h) 0 none) 3) = some (Value.string s72) ∧ S_liverykeep_LargeValue n69 n70 x71 s72 h1 fun (vs73 : List Value) (h74 : Hp) =>
∃ b75 : Bool, vs73 = [(Value.bool b75)] ∧
(if b75 = true then (J2 [(Value.bool true)] h74) else
  (J2 [(Value.bool (decide ((ByteArray.size g2_k : Int) > (4000 : Int))))] h74))
def A_liverylaw03_KeyBack : Ann := (.mk none ⟨[], []⟩ .nil (.mk none ⟨[], []⟩ (.mk none ⟨[], []⟩ (.mk (some ⟨[1, 2, 3], [(22, (.c .bool))]⟩) ⟨[], []⟩ .nil .nil) .nil) (.mk none ⟨[], []⟩ (.mk none ⟨[], []⟩ .nil (.mk none ⟨[], []⟩ .nil (.mk (some ⟨[2], []⟩) ⟨[], []⟩ (.mk none ⟨[], []⟩ .nil (.mk none ⟨[], []⟩ (.mk (some ⟨[2], [(52, (.c .bool))]⟩) ⟨[], []⟩ .nil .nil) .nil)) .nil))) (.mk none ⟨[], []⟩ .nil (.mk none ⟨[], []⟩ (.mk none ⟨[], []⟩ .nil (.mk none ⟨[], []⟩ (.mk none ⟨[], []⟩ (.mk (some ⟨[], [(6, (.c .bool))]⟩) ⟨[], []⟩ .nil .nil) .nil) .nil)) .nil)))))
theorem E_liverylaw03_KeyBack (g0_v_0 : Int) (g0_v_1 : Int) (g0_v_2 : Nat) (g0_v_3 : ByteArray) (g1_n : Int) (g2_k : ByteArray) (h : Hp) (Q : List Value → Hp → Prop) : cw PP 85 (fun _ => []) (bodyOf Tryd.f4) A_liverylaw03_KeyBack (finQ PP (Tryd.f4.results.toList) Q) (argFr [(Value.agg #[(Value.int .i64 g0_v_0), (Value.int .i64 g0_v_1), (Value.float .f64 g0_v_2), (Value.string g0_v_3)]), (Value.int .u16 g1_n), (Value.string g2_k)]) h = F_liverylaw03_KeyBack g0_v_0 g0_v_1 g0_v_2 g0_v_3 g1_n g2_k h Q := by kernel_rfl
theorem O_liverylaw03_KeyBack (g0_v_0 : Int) (g0_v_1 : Int) (g0_v_2 : Nat) (g0_v_3 : ByteArray) (g1_n : Int) (g2_k : ByteArray) {h : Hp} {Q : List Value → Hp → Prop} (H : F_liverylaw03_KeyBack g0_v_0 g0_v_1 g0_v_2 g0_v_3 g1_n g2_k h Q) : S_liverylaw03_KeyBack g0_v_0 g0_v_1 g0_v_2 g0_v_3 g1_n g2_k h Q :=
  fn_of_cw (hs := (fun _ => [])) (ann := A_liverylaw03_KeyBack) (args := [(Value.agg #[(Value.int .i64 g0_v_0), (Value.int .i64 g0_v_1), (Value.float .f64 g0_v_2), (Value.string g0_v_3)]), (Value.int .u16 g1_n), (Value.string g2_k)]) mixedPP Tryd.func4 (c := bodyOf Tryd.f4) (by kernel_rfl) (by kernel_rfl) (by kernel_rfl) (Eq.mpr (E_liverylaw03_KeyBack g0_v_0 g0_v_1 g0_v_2 g0_v_3 g1_n g2_k h Q) H)
def F_liverylaw03_KeyBegins (g0_a_0 : Int) (g0_a_1 : Int) (g0_a_2 : Nat) (g0_a_3 : ByteArray) (g0_a_4 : Int) (g0_a_5 : Int) (g0_a_6 : Nat) (g0_a_7 : ByteArray) (g1_b_0 : Int) (g1_b_1 : Int) (g1_b_2 : Nat) (g1_b_3 : ByteArray) (g1_b_4 : Int) (g1_b_5 : Int) (g1_b_6 : Nat) (g1_b_7 : ByteArray) (h : Hp) (Q : List Value → Hp → Prop) : Prop :=
wth (Array.push h (Obj.cells #[(Value.int .i64 g0_a_0), (Value.int .i64 g0_a_1), (Value.float .f64 g0_a_2), (Value.string g0_a_3), (Value.int .i64 g0_a_4), (Value.int .i64 g0_a_5), (Value.float .f64 g0_a_6), (Value.string g0_a_7)] T_2_api_Value)) fun h1 =>
wth (Array.push h1 (Obj.cells #[(Value.int .i64 g1_b_0), (Value.int .i64 g1_b_1), (Value.float .f64 g1_b_2), (Value.string g1_b_3), (Value.int .i64 g1_b_4), (Value.int .i64 g1_b_5), (Value.float .f64 g1_b_6), (Value.string g1_b_7)] T_2_api_Value)) fun h2 =>
wth (Array.push h2 (Obj.cells #[(Value.string (ByteArray.mk #[])), (Value.string (ByteArray.mk #[]))] T_2_string)) fun h3 =>
wth (Array.push h3 (Obj.cells #[(Value.string (ByteArray.mk #[])), (Value.string (ByteArray.mk #[]))] T_2_string)) fun h4 =>
∀ X5 : List Value → Hp → Prop, (∀ n6 : Int, ∀ h7 : Hp, ((if (decide (n6 < (2 : Int))) = true then
      (∀ J8 : List Value → Hp → Prop, (∀ b9 : Bool, ∀ h10 : Hp, ((if b9 = true then
              (S_liverylaw03_wakes  h10 fun (vs11 : List Value) (h12 : Hp) =>
                ∃ b13 : Bool, vs11 = [(Value.bool b13)] ∧
                Q [(Value.bool b13)] h12) else
              (ixOk n6 2 (∃ n14 : Int, rd h10 (Addr.add (Addr.add (Addr.mk (Array.size h) 0 none) (Int.toNat n6 * 4)) 0) = some (Value.int .i64 n14) ∧ ∃ n15 : Int, rd h10 (Addr.add (Addr.add (Addr.mk (Array.size h) 0 none) (Int.toNat n6 * 4)) 1) = some (Value.int .i64 n15) ∧ ∃ x16 : Nat, rd h10 (Addr.add (Addr.add (Addr.mk (Array.size h) 0 none) (Int.toNat n6 * 4)) 2) = some (Value.float .f64 x16) ∧ ∃ s17 : ByteArray, rd h10 (Addr.add (Addr.add (Addr.mk (Array.size h) 0 none) (Int.toNat n6 * 4)) 3) = some (Value.string s17) ∧ S_key_Of n14 n15 x16 s17 h10 fun (vs18 : List Value) (h19 : Hp) =>
                  ∃ s20 : ByteArray, ∃ n21 : Int, vs18 = [(Value.string s20), (Value.int .i64 n21)] ∧
                  ixOk n6 2 (∃ n22 : Int, rd h19 (Addr.add (Addr.add (Addr.mk (Array.size h1) 0 none) (Int.toNat n6 * 4)) 0) = some (Value.int .i64 n22) ∧ ∃ n23 : Int, rd h19 (Addr.add (Addr.add (Addr.mk (Array.size h1) 0 none) (Int.toNat n6 * 4)) 1) = some (Value.int .i64 n23) ∧ ∃ x24 : Nat, rd h19 (Addr.add (Addr.add (Addr.mk (Array.size h1) 0 none) (Int.toNat n6 * 4)) 2) = some (Value.float .f64 x24) ∧ ∃ s25 : ByteArray, rd h19 (Addr.add (Addr.add (Addr.mk (Array.size h1) 0 none) (Int.toNat n6 * 4)) 3) = some (Value.string s25) ∧ S_key_Of n22 n23 x24 s25 h19 fun (vs26 : List Value) (h27 : Hp) =>
                    ∃ s28 : ByteArray, ∃ n29 : Int, vs26 = [(Value.string s28), (Value.int .i64 n29)] ∧
                    ∀ J30 : List Value → Hp → Prop, (∀ b31 : Bool, ∀ h32 : Hp, ((if b31 = true then
                          (Q [(Value.bool false)] h32) else
                          (ixOk n6 2 (stOk h32 (Addr.add (Addr.mk (Array.size h2) 0 none) (Int.toNat n6 * 1)) 1 ∧ wth (wrs h32 (Addr.add (Addr.mk (Array.size h2) 0 none) (Int.toNat n6 * 1)) 0 [(Value.string s20)]) fun h33 =>
                              ixOk n6 2 (stOk h33 (Addr.add (Addr.mk (Array.size h3) 0 none) (Int.toNat n6 * 1)) 1 ∧ wth (wrs h33 (Addr.add (Addr.mk (Array.size h3) 0 none) (Int.toNat n6 * 1)) 0 [(Value.string s28)]) fun h34 =>
                                X5 [(Value.int .i64 (IntKind.wrap .i64 (n6 + (1 : Int))))] h34))))) → J30 [(Value.bool b31)] h32) →
                    (if (n21 != (0 : Int)) = true then (J30 [(Value.bool true)] h27) else
                      ((if (n29 != (0 : Int)) = true then (J30 [(Value.bool true)] h27) else
                          ((if ((ByteArray.toList s20) == (ByteArray.toList (ByteArray.mk #[]))) = true then (J30 [(Value.bool true)] h27) else
                              (J30 [(Value.bool ((ByteArray.toList s28) == (ByteArray.toList (ByteArray.mk #[]))))] h27))))))))))) → J8 [(Value.bool b9)] h10) →
        ixOk n6 2 (∃ n35 : Int, rd h7 (Addr.add (Addr.add (Addr.mk (Array.size h) 0 none) (Int.toNat n6 * 4)) 0) = some (Value.int .i64 n35) ∧ ∃ n36 : Int, rd h7 (Addr.add (Addr.add (Addr.mk (Array.size h) 0 none) (Int.toNat n6 * 4)) 1) = some (Value.int .i64 n36) ∧ ∃ x37 : Nat, rd h7 (Addr.add (Addr.add (Addr.mk (Array.size h) 0 none) (Int.toNat n6 * 4)) 2) = some (Value.float .f64 x37) ∧ ∃ s38 : ByteArray, rd h7 (Addr.add (Addr.add (Addr.mk (Array.size h) 0 none) (Int.toNat n6 * 4)) 3) = some (Value.string s38) ∧ S_liveryref02_Good n35 n36 x37 s38 h7 fun (vs39 : List Value) (h40 : Hp) =>
          ∃ b41 : Bool, vs39 = [(Value.bool b41)] ∧
          (if (!b41) = true then (J8 [(Value.bool true)] h40) else
            (ixOk n6 2 (∃ n42 : Int, rd h40 (Addr.add (Addr.add (Addr.mk (Array.size h1) 0 none) (Int.toNat n6 * 4)) 0) = some (Value.int .i64 n42) ∧ ∃ n43 : Int, rd h40 (Addr.add (Addr.add (Addr.mk (Array.size h1) 0 none) (Int.toNat n6 * 4)) 1) = some (Value.int .i64 n43) ∧ ∃ x44 : Nat, rd h40 (Addr.add (Addr.add (Addr.mk (Array.size h1) 0 none) (Int.toNat n6 * 4)) 2) = some (Value.float .f64 x44) ∧ ∃ s45 : ByteArray, rd h40 (Addr.add (Addr.add (Addr.mk (Array.size h1) 0 none) (Int.toNat n6 * 4)) 3) = some (Value.string s45) ∧ S_liveryref02_Good n42 n43 x44 s45 h40 fun (vs46 : List Value) (h47 : Hp) =>
                ∃ b48 : Bool, vs46 = [(Value.bool b48)] ∧
                J8 [(Value.bool (!b48))] h47))))) else
      (ixOk (0 : Int) 2 (∃ n49 : Int, rd h7 (Addr.add (Addr.add (Addr.mk (Array.size h) 0 none) (Int.toNat (0 : Int) * 4)) 0) = some (Value.int .i64 n49) ∧ ∃ n50 : Int, rd h7 (Addr.add (Addr.add (Addr.mk (Array.size h) 0 none) (Int.toNat (0 : Int) * 4)) 1) = some (Value.int .i64 n50) ∧ ∃ x51 : Nat, rd h7 (Addr.add (Addr.add (Addr.mk (Array.size h) 0 none) (Int.toNat (0 : Int) * 4)) 2) = some (Value.float .f64 x51) ∧ ∃ s52 : ByteArray, rd h7 (Addr.add (Addr.add (Addr.mk (Array.size h) 0 none) (Int.toNat (0 : Int) * 4)) 3) = some (Value.string s52) ∧ ixOk (0 : Int) 2 (∃ n53 : Int, rd h7 (Addr.add (Addr.add (Addr.mk (Array.size h1) 0 none) (Int.toNat (0 : Int) * 4)) 0) = some (Value.int .i64 n53) ∧ ∃ n54 : Int, rd h7 (Addr.add (Addr.add (Addr.mk (Array.size h1) 0 none) (Int.toNat (0 : Int) * 4)) 1) = some (Value.int .i64 n54) ∧ ∃ x55 : Nat, rd h7 (Addr.add (Addr.add (Addr.mk (Array.size h1) 0 none) (Int.toNat (0 : Int) * 4)) 2) = some (Value.float .f64 x55) ∧ ∃ s56 : ByteArray, rd h7 (Addr.add (Addr.add (Addr.mk (Array.size h1) 0 none) (Int.toNat (0 : Int) * 4)) 3) = some (Value.string s56) ∧ S_liveryref02_Compare n49 n50 x51 s52 n53 n54 x55 s56 h7 fun (vs57 : List Value) (h58 : Hp) =>
            ∃ n59 : Int, vs57 = [(Value.int .i64 n59)] ∧
            ∀ J60 : List Value → Hp → Prop, (∀ b61 : Bool, ∀ h62 : Hp, ((if b61 = true then
                  (Q [(Value.bool false)] h62) else
                  (∀ J63 : List Value → Hp → Prop, (∀ n64 : Int, ∀ h65 : Hp, (ixOk (0 : Int) 2 (∃ s66 : ByteArray, rd h65 (Addr.add (Addr.mk (Array.size h2) 0 none) (Int.toNat (0 : Int) * 1)) = some (Value.string s66) ∧
                          ixOk (1 : Int) 2 (∃ s67 : ByteArray, rd h65 (Addr.add (Addr.mk (Array.size h2) 0 none) (Int.toNat (1 : Int) * 1)) = some (Value.string s67) ∧
                            catOk s66 s67 (ixOk (0 : Int) 2 (∃ s68 : ByteArray, rd h65 (Addr.add (Addr.mk (Array.size h3) 0 none) (Int.toNat (0 : Int) * 1)) = some (Value.string s68) ∧
                                ixOk (1 : Int) 2 (∃ s69 : ByteArray, rd h65 (Addr.add (Addr.mk (Array.size h3) 0 none) (Int.toNat (1 : Int) * 1)) = some (Value.string s69) ∧
                                  catOk s68 s69 ((if ((Op.bytesLess (ByteArray.toList (s66 ++ s67)) (ByteArray.toList (s68 ++ s69))) == (decide (n64 < (0 : Int)))) = true then (S_liverylaw03_wakes  h65 fun (vs70 : List Value) (h71 : Hp) =>
                                        ∃ b72 : Bool, vs70 = [(Value.bool b72)] ∧
                                        Q [(Value.bool b72)] h71) else
                                      (Q [(Value.bool false)] h65))))))))) → J63 [(Value.int .i64 n64)] h65) →
                    (if (n59 == (0 : Int)) = true then
                      (ixOk (1 : Int) 2 (∃ n73 : Int, rd h62 (Addr.add (Addr.add (Addr.mk (Array.size h) 0 none) (Int.toNat (1 : Int) * 4)) 0) = some (Value.int .i64 n73) ∧ ∃ n74 : Int, rd h62 (Addr.add (Addr.add (Addr.mk (Array.size h) 0 none) (Int.toNat (1 : Int) * 4)) 1) = some (Value.int .i64 n74) ∧ ∃ x75 : Nat, rd h62 (Addr.add (Addr.add (Addr.mk (Array.size h) 0 none) (Int.toNat (1 : Int) * 4)) 2) = some (Value.float .f64 x75) ∧ ∃ s76 : ByteArray, rd h62 (Addr.add (Addr.add (Addr.mk (Array.size h) 0 none) (Int.toNat (1 : Int) * 4)) 3) = some (Value.string s76) ∧ ixOk (1 : Int) 2 (∃ n77 : Int, rd h62 (Addr.add (Addr.add (Addr.mk (Array.size h1) 0 none) (Int.toNat (1 : Int) * 4)) 0) = some (Value.int .i64 n77) ∧ ∃ n78 : Int, rd h62 (Addr.add (Addr.add (Addr.mk (Array.size h1) 0 none) (Int.toNat (1 : Int) * 4)) 1) = some (Value.int .i64 n78) ∧ ∃ x79 : Nat, rd h62 (Addr.add (Addr.add (Addr.mk (Array.size h1) 0 none) (Int.toNat (1 : Int) * 4)) 2) = some (Value.float .f64 x79) ∧ ∃ s80 : ByteArray, rd h62 (Addr.add (Addr.add (Addr.mk (Array.size h1) 0 none) (Int.toNat (1 : Int) * 4)) 3) = some (Value.string s80) ∧ S_liveryref02_Compare n73 n74 x75 s76 n77 n78 x79 s80 h62 fun (vs81 : List Value) (h82 : Hp) =>
                            ∃ n83 : Int, vs81 = [(Value.int .i64 n83)] ∧
                            J63 [(Value.int .i64 n83)] h82))) else
                      (J63 [(Value.int .i64 n59)] h62))))) → J60 [(Value.bool b61)] h62) →
            (if (n59 != (0 : Int)) = true then (ixOk (0 : Int) 2 (∃ s84 : ByteArray, rd h58 (Addr.add (Addr.mk (Array.size h2) 0 none) (Int.toNat (0 : Int) * 1)) = some (Value.string s84) ∧
                  ixOk (0 : Int) 2 (∃ s85 : ByteArray, rd h58 (Addr.add (Addr.mk (Array.size h3) 0 none) (Int.toNat (0 : Int) * 1)) = some (Value.string s85) ∧
                    (if (decide ((ByteArray.size s84 : Int) ≤ (ByteArray.size s85 : Int))) = true then (ixOk (0 : Int) 2 (∃ s86 : ByteArray, rd h58 (Addr.add (Addr.mk (Array.size h3) 0 none) (Int.toNat (0 : Int) * 1)) = some (Value.string s86) ∧
                          ixOk (0 : Int) 2 (∃ s87 : ByteArray, rd h58 (Addr.add (Addr.mk (Array.size h2) 0 none) (Int.toNat (0 : Int) * 1)) = some (Value.string s87) ∧
                            (0 ≤ (ByteArray.size s87 : Int) ∧ (ByteArray.size s87 : Int) ≤ ((ByteArray.size s86) : Nat)) ∧ ixOk (0 : Int) 2 (∃ s88 : ByteArray, rd h58 (Addr.add (Addr.mk (Array.size h2) 0 none) (Int.toNat (0 : Int) * 1)) = some (Value.string s88) ∧
                              (if ((ByteArray.toList (ByteArray.extract s86 0 (Int.toNat (ByteArray.size s87 : Int)))) == (ByteArray.toList s88)) = true then (J60 [(Value.bool true)] h58) else
                                (ixOk (0 : Int) 2 (∃ s89 : ByteArray, rd h58 (Addr.add (Addr.mk (Array.size h3) 0 none) (Int.toNat (0 : Int) * 1)) = some (Value.string s89) ∧
                                    ixOk (0 : Int) 2 (∃ s90 : ByteArray, rd h58 (Addr.add (Addr.mk (Array.size h2) 0 none) (Int.toNat (0 : Int) * 1)) = some (Value.string s90) ∧
                                      (if (decide ((ByteArray.size s89 : Int) ≤ (ByteArray.size s90 : Int))) = true then (ixOk (0 : Int) 2 (∃ s91 : ByteArray, rd h58 (Addr.add (Addr.mk (Array.size h2) 0 none) (Int.toNat (0 : Int) * 1)) = some (Value.string s91) ∧
                                            ixOk (0 : Int) 2 (∃ s92 : ByteArray, rd h58 (Addr.add (Addr.mk (Array.size h3) 0 none) (Int.toNat (0 : Int) * 1)) = some (Value.string s92) ∧
                                              (0 ≤ (ByteArray.size s92 : Int) ∧ (ByteArray.size s92 : Int) ≤ ((ByteArray.size s91) : Nat)) ∧ ixOk (0 : Int) 2 (∃ s93 : ByteArray, rd h58 (Addr.add (Addr.mk (Array.size h3) 0 none) (Int.toNat (0 : Int) * 1)) = some (Value.string s93) ∧
                                                J60 [(Value.bool ((ByteArray.toList (ByteArray.extract s91 0 (Int.toNat (ByteArray.size s92 : Int)))) == (ByteArray.toList s93)))] h58)))) else
                                        (J60 [(Value.bool false)] h58)))))))))) else
                      (ixOk (0 : Int) 2 (∃ s94 : ByteArray, rd h58 (Addr.add (Addr.mk (Array.size h3) 0 none) (Int.toNat (0 : Int) * 1)) = some (Value.string s94) ∧
                          ixOk (0 : Int) 2 (∃ s95 : ByteArray, rd h58 (Addr.add (Addr.mk (Array.size h2) 0 none) (Int.toNat (0 : Int) * 1)) = some (Value.string s95) ∧
                            (if (decide ((ByteArray.size s94 : Int) ≤ (ByteArray.size s95 : Int))) = true then (ixOk (0 : Int) 2 (∃ s96 : ByteArray, rd h58 (Addr.add (Addr.mk (Array.size h2) 0 none) (Int.toNat (0 : Int) * 1)) = some (Value.string s96) ∧
                                  ixOk (0 : Int) 2 (∃ s97 : ByteArray, rd h58 (Addr.add (Addr.mk (Array.size h3) 0 none) (Int.toNat (0 : Int) * 1)) = some (Value.string s97) ∧
                                    (0 ≤ (ByteArray.size s97 : Int) ∧ (ByteArray.size s97 : Int) ≤ ((ByteArray.size s96) : Nat)) ∧ ixOk (0 : Int) 2 (∃ s98 : ByteArray, rd h58 (Addr.add (Addr.mk (Array.size h3) 0 none) (Int.toNat (0 : Int) * 1)) = some (Value.string s98) ∧
                                      J60 [(Value.bool ((ByteArray.toList (ByteArray.extract s96 0 (Int.toNat (ByteArray.size s97 : Int)))) == (ByteArray.toList s98)))] h58)))) else
                              (J60 [(Value.bool false)] h58))))))))) else
              (J60 [(Value.bool false)] h58))))))) → X5 [(Value.int .i64 n6)] h7) →
X5 [(Value.int .i64 (0 : Int))] h4
def A_liverylaw03_KeyBegins : Ann := (.mk none ⟨[], []⟩ .nil (.mk none ⟨[], []⟩ .nil (.mk none ⟨[], []⟩ (.mk none ⟨[], []⟩ .nil (.mk none ⟨[], []⟩ (.mk none ⟨[2, 3, 5, 6], [(7, (.c (.int .i64)))]⟩ (.mk none ⟨[], []⟩ .nil (.mk none ⟨[], []⟩ (.mk none ⟨[], []⟩ (.mk none ⟨[], []⟩ (.mk none ⟨[], []⟩ (.mk (some ⟨[2, 3, 5, 6, 7], [(28, (.c .bool))]⟩) ⟨[], []⟩ .nil .nil) .nil) (.mk none ⟨[], []⟩ .nil (.mk none ⟨[], []⟩ .nil (.mk none ⟨[], []⟩ (.mk none ⟨[], []⟩ (.mk (some ⟨[2, 3, 5, 6, 7, 8, 10], [(57, (.c .bool))]⟩) ⟨[], []⟩ .nil .nil) .nil) .nil)))) .nil) .nil)) .nil) .nil)) (.mk none ⟨[], []⟩ .nil (.mk none ⟨[], []⟩ (.mk none ⟨[], []⟩ (.mk (some ⟨[2, 3, 5, 6, 12], [(110, (.c .bool))]⟩) ⟨[], []⟩ .nil .nil) .nil) (.mk none ⟨[], []⟩ (.mk none ⟨[], []⟩ .nil (.mk (some ⟨[5, 6], [(12, (.c (.int .i64)))]⟩) ⟨[], []⟩ .nil .nil)) .nil))))))
theorem E_liverylaw03_KeyBegins (g0_a_0 : Int) (g0_a_1 : Int) (g0_a_2 : Nat) (g0_a_3 : ByteArray) (g0_a_4 : Int) (g0_a_5 : Int) (g0_a_6 : Nat) (g0_a_7 : ByteArray) (g1_b_0 : Int) (g1_b_1 : Int) (g1_b_2 : Nat) (g1_b_3 : ByteArray) (g1_b_4 : Int) (g1_b_5 : Int) (g1_b_6 : Nat) (g1_b_7 : ByteArray) (h : Hp) (Q : List Value → Hp → Prop) : cw PP 135 (fun _ => []) (bodyOf Tryd.f5) A_liverylaw03_KeyBegins (finQ PP (Tryd.f5.results.toList) Q) (argFr [(Value.agg #[(Value.int .i64 g0_a_0), (Value.int .i64 g0_a_1), (Value.float .f64 g0_a_2), (Value.string g0_a_3), (Value.int .i64 g0_a_4), (Value.int .i64 g0_a_5), (Value.float .f64 g0_a_6), (Value.string g0_a_7)]), (Value.agg #[(Value.int .i64 g1_b_0), (Value.int .i64 g1_b_1), (Value.float .f64 g1_b_2), (Value.string g1_b_3), (Value.int .i64 g1_b_4), (Value.int .i64 g1_b_5), (Value.float .f64 g1_b_6), (Value.string g1_b_7)])]) h = F_liverylaw03_KeyBegins g0_a_0 g0_a_1 g0_a_2 g0_a_3 g0_a_4 g0_a_5 g0_a_6 g0_a_7 g1_b_0 g1_b_1 g1_b_2 g1_b_3 g1_b_4 g1_b_5 g1_b_6 g1_b_7 h Q := by kernel_rfl
theorem O_liverylaw03_KeyBegins (g0_a_0 : Int) (g0_a_1 : Int) (g0_a_2 : Nat) (g0_a_3 : ByteArray) (g0_a_4 : Int) (g0_a_5 : Int) (g0_a_6 : Nat) (g0_a_7 : ByteArray) (g1_b_0 : Int) (g1_b_1 : Int) (g1_b_2 : Nat) (g1_b_3 : ByteArray) (g1_b_4 : Int) (g1_b_5 : Int) (g1_b_6 : Nat) (g1_b_7 : ByteArray) {h : Hp} {Q : List Value → Hp → Prop} (H : F_liverylaw03_KeyBegins g0_a_0 g0_a_1 g0_a_2 g0_a_3 g0_a_4 g0_a_5 g0_a_6 g0_a_7 g1_b_0 g1_b_1 g1_b_2 g1_b_3 g1_b_4 g1_b_5 g1_b_6 g1_b_7 h Q) : S_liverylaw03_KeyBegins g0_a_0 g0_a_1 g0_a_2 g0_a_3 g0_a_4 g0_a_5 g0_a_6 g0_a_7 g1_b_0 g1_b_1 g1_b_2 g1_b_3 g1_b_4 g1_b_5 g1_b_6 g1_b_7 h Q :=
  fn_of_cw (hs := (fun _ => [])) (ann := A_liverylaw03_KeyBegins) (args := [(Value.agg #[(Value.int .i64 g0_a_0), (Value.int .i64 g0_a_1), (Value.float .f64 g0_a_2), (Value.string g0_a_3), (Value.int .i64 g0_a_4), (Value.int .i64 g0_a_5), (Value.float .f64 g0_a_6), (Value.string g0_a_7)]), (Value.agg #[(Value.int .i64 g1_b_0), (Value.int .i64 g1_b_1), (Value.float .f64 g1_b_2), (Value.string g1_b_3), (Value.int .i64 g1_b_4), (Value.int .i64 g1_b_5), (Value.float .f64 g1_b_6), (Value.string g1_b_7)])]) mixedPP Tryd.func5 (c := bodyOf Tryd.f5) (by kernel_rfl) (by kernel_rfl) (by kernel_rfl) (Eq.mpr (E_liverylaw03_KeyBegins g0_a_0 g0_a_1 g0_a_2 g0_a_3 g0_a_4 g0_a_5 g0_a_6 g0_a_7 g1_b_0 g1_b_1 g1_b_2 g1_b_3 g1_b_4 g1_b_5 g1_b_6 g1_b_7 h Q) H)
def F_liveryref02_Number (g0_s : ByteArray) (h : Hp) (Q : List Value → Hp → Prop) : Prop :=
∀ X1 : List Value → Hp → Prop, (∀ n2 : Int, ∀ n3 : Int, ∀ h4 : Hp, ((if (decide (n3 < (ByteArray.size g0_s : Int))) = true then
      (ixOk n3 (ByteArray.size g0_s) (X1 [(Value.int .u64 (IntKind.wrap .u64 ((IntKind.wrap .u64 (n2 * (256 : Int))) + (IntKind.wrap .u64 (strIx g0_s n3))))), (Value.int .i64 (IntKind.wrap .i64 (n3 + (1 : Int))))] h4)) else
      (Q [(Value.int .u64 n2)] h4))) → X1 [(Value.int .u64 n2), (Value.int .i64 n3)] h4) →
X1 [(Value.int .u64 (0 : Int)), (Value.int .i64 (0 : Int))] h
def A_liveryref02_Number : Ann := (.mk none ⟨[], []⟩ .nil (.mk none ⟨[], []⟩ .nil (.mk none ⟨[], []⟩ (.mk none ⟨[], []⟩ .nil (.mk none ⟨[], []⟩ (.mk none ⟨[0], [(3, (.c (.int .u64))), (4, (.c (.int .i64)))]⟩ .nil .nil) .nil)) .nil)))
theorem E_liveryref02_Number (g0_s : ByteArray) (h : Hp) (Q : List Value → Hp → Prop) : cw PP 19 (fun _ => []) (bodyOf Tryd.f52) A_liveryref02_Number (finQ PP (Tryd.f52.results.toList) Q) (argFr [(Value.string g0_s)]) h = F_liveryref02_Number g0_s h Q := by kernel_rfl
theorem O_liveryref02_Number (g0_s : ByteArray) {h : Hp} {Q : List Value → Hp → Prop} (H : F_liveryref02_Number g0_s h Q) : S_liveryref02_Number g0_s h Q :=
  fn_of_cw (hs := (fun _ => [])) (ann := A_liveryref02_Number) (args := [(Value.string g0_s)]) mixedPP Tryd.func52 (c := bodyOf Tryd.f52) (by kernel_rfl) (by kernel_rfl) (by kernel_rfl) (Eq.mpr (E_liveryref02_Number g0_s h Q) H)
def F_liveryref01_Bits (g0_f : Nat) (h : Hp) (Q : List Value → Hp → Prop) : Prop :=
S_liveryref01_Canon g0_f h fun (vs1 : List Value) (h2 : Hp) =>
∃ x3 : Nat, vs1 = [(Value.float .f64 x3)] ∧
S_math_Float64bits x3 h2 fun (vs4 : List Value) (h5 : Hp) =>
∃ n6 : Int, vs4 = [(Value.int .u64 n6)] ∧
(if (decide (n6 ≥ (9223372036854775808 : Int))) = true then
  (Q [(Value.int .u64 (iXor .u64 (IntKind.max .u64) n6))] h5) else
  (Q [(Value.int .u64 (IntKind.wrap .u64 (n6 + (9223372036854775808 : Int))))] h5))
def A_liveryref01_Bits : Ann := .nil
theorem E_liveryref01_Bits (g0_f : Nat) (h : Hp) (Q : List Value → Hp → Prop) : cw PP 13 (fun _ => []) (bodyOf Tryd.f38) A_liveryref01_Bits (finQ PP (Tryd.f38.results.toList) Q) (argFr [(Value.float .f64 g0_f)]) h = F_liveryref01_Bits g0_f h Q := by kernel_rfl
theorem O_liveryref01_Bits (g0_f : Nat) {h : Hp} {Q : List Value → Hp → Prop} (H : F_liveryref01_Bits g0_f h Q) : S_liveryref01_Bits g0_f h Q :=
  fn_of_cw (hs := (fun _ => [])) (ann := A_liveryref01_Bits) (args := [(Value.float .f64 g0_f)]) mixedPP Tryd.func38 (c := bodyOf Tryd.f38) (by kernel_rfl) (by kernel_rfl) (by kernel_rfl) (Eq.mpr (E_liveryref01_Bits g0_f h Q) H)
def F_liveryref01_From (g0_u : Int) (h : Hp) (Q : List Value → Hp → Prop) : Prop :=
wth (Array.push h (Obj.cells #[(Value.float .f64 0), (Value.bool false)] T_liveryref01_Got)) fun h1 =>
∀ J2 : List Value → Hp → Prop, (∀ x3 : Nat, ∀ h4 : Hp, (∀ J5 : List Value → Hp → Prop, (∀ b6 : Bool, ∀ h7 : Hp, ((if b6 = true then
          (stOk h7 (Addr.mk (Array.size h) 0 none) 2 ∧ wth (wrs h7 (Addr.mk (Array.size h) 0 none) 0 [(Value.float .f64 0), (Value.bool false)]) fun h8 =>
            ∃ x9 : Nat, rd h8 (Addr.add (Addr.mk (Array.size h) 0 none) 0) = some (Value.float .f64 x9) ∧ ∃ b10 : Bool, rd h8 (Addr.add (Addr.mk (Array.size h) 0 none) 1) = some (Value.bool b10) ∧ Q [(Value.agg #[(Value.float .f64 x9), (Value.bool b10)])] h8) else
          (stOk h7 (Addr.mk (Array.size h) 0 none) 2 ∧ wth (wrs h7 (Addr.mk (Array.size h) 0 none) 0 [(Value.float .f64 x3), (Value.bool true)]) fun h11 =>
            ∃ x12 : Nat, rd h11 (Addr.add (Addr.mk (Array.size h) 0 none) 0) = some (Value.float .f64 x12) ∧ ∃ b13 : Bool, rd h11 (Addr.add (Addr.mk (Array.size h) 0 none) 1) = some (Value.bool b13) ∧ Q [(Value.agg #[(Value.float .f64 x12), (Value.bool b13)])] h11))) → J5 [(Value.bool b6)] h7) →
    S_liveryref01_Is x3 h4 fun (vs14 : List Value) (h15 : Hp) =>
    ∃ b16 : Bool, vs14 = [(Value.bool b16)] ∧
    (if (!b16) = true then (J5 [(Value.bool true)] h15) else
      (S_liveryref01_Bits x3 h15 fun (vs17 : List Value) (h18 : Hp) =>
        ∃ n19 : Int, vs17 = [(Value.int .u64 n19)] ∧
        J5 [(Value.bool (n19 != g0_u))] h18))) → J2 [(Value.float .f64 x3)] h4) →
(if (decide (g0_u ≥ (9223372036854775808 : Int))) = true then
  (S_math_Float64frombits (IntKind.wrap .u64 (g0_u - (9223372036854775808 : Int))) h1 fun (vs20 : List Value) (h21 : Hp) =>
    ∃ x22 : Nat, vs20 = [(Value.float .f64 x22)] ∧
    J2 [(Value.float .f64 x22)] h21) else
  (S_math_Float64frombits (iXor .u64 (IntKind.max .u64) g0_u) h1 fun (vs23 : List Value) (h24 : Hp) =>
    ∃ x25 : Nat, vs23 = [(Value.float .f64 x25)] ∧
    J2 [(Value.float .f64 x25)] h24))
def A_liveryref01_From : Ann := (.mk none ⟨[], []⟩ .nil (.mk none ⟨[], []⟩ .nil (.mk none ⟨[], []⟩ (.mk none ⟨[], []⟩ .nil (.mk (some ⟨[0, 2], [(3, (.c (.flt .f64)))]⟩) ⟨[], []⟩ .nil .nil)) (.mk none ⟨[], []⟩ (.mk none ⟨[], []⟩ (.mk (some ⟨[2, 3], [(20, (.c .bool))]⟩) ⟨[], []⟩ .nil .nil) .nil) .nil))))
theorem E_liveryref01_From (g0_u : Int) (h : Hp) (Q : List Value → Hp → Prop) : cw PP 24 (fun _ => []) (bodyOf Tryd.f53) A_liveryref01_From (finQ PP (Tryd.f53.results.toList) Q) (argFr [(Value.int .u64 g0_u)]) h = F_liveryref01_From g0_u h Q := by kernel_rfl
theorem O_liveryref01_From (g0_u : Int) {h : Hp} {Q : List Value → Hp → Prop} (H : F_liveryref01_From g0_u h Q) : S_liveryref01_From g0_u h Q :=
  fn_of_cw (hs := (fun _ => [])) (ann := A_liveryref01_From) (args := [(Value.int .u64 g0_u)]) mixedPP Tryd.func53 (c := bodyOf Tryd.f53) (by kernel_rfl) (by kernel_rfl) (by kernel_rfl) (Eq.mpr (E_liveryref01_From g0_u h Q) H)
def F_liveryref03_text (g0_k : ByteArray) (h : Hp) (Q : List Value → Hp → Prop) : Prop :=
wth (Array.push h (Obj.cells #[(Value.int .i64 (0 : Int)), (Value.int .i64 (0 : Int)), (Value.float .f64 0), (Value.string (ByteArray.mk #[])), (Value.int .i64 (0 : Int))] T_liveryref02_Read)) fun h1 =>
∀ X2 : List Value → Hp → Prop, (∀ l3 : Sl, ∀ n4 : Int, ∀ h5 : Hp, ((if (decide (n4 < (ByteArray.size g0_k : Int))) = true then
      (∀ J6 : List Value → Hp → Prop, (∀ l7 : Sl, ∀ n8 : Int, ∀ h9 : Hp, (X2 [(Value.slice l7.a l7.n l7.c), (Value.int .i64 (IntKind.wrap .i64 (n8 + (1 : Int))))] h9) → J6 [(Value.slice l7.a l7.n l7.c), (Value.int .i64 n8)] h9) →
        ixOk n4 (ByteArray.size g0_k) ((if ((strIx g0_k n4) != (0 : Int)) = true then
            (ixOk n4 (ByteArray.size g0_k) (wth (Array.push h5 (Obj.cells #[(Value.int .u8 (strIx g0_k n4))] T_uint8)) fun h10 =>
                ∃ cs13 : List Value, cellsAt h10 (some (Addr.mk (Array.size h5) 0 none)) (1 * 1) cs13 ∧ appS PP T_uint8 1 1 h10 ⟨l3.a, l3.n, l3.c⟩ 1 cs13 fun (l11 : Sl) (h12 : Hp) =>
                J6 [(Value.slice l11.a l11.n l11.c), (Value.int .i64 n4)] h12)) else
            ((if ((IntKind.wrap .i64 (n4 + (1 : Int))) == (ByteArray.size g0_k : Int)) = true then
                (stOk h5 (Addr.mk (Array.size h) 0 none) 5 ∧ wth (wrs h5 (Addr.mk (Array.size h) 0 none) 0 [(Value.int .i64 (0 : Int)), (Value.int .i64 (0 : Int)), (Value.float .f64 0), (Value.string (ByteArray.mk #[])), (Value.int .i64 (0 : Int))]) fun h14 =>
                  ∃ n15 : Int, rd h14 (Addr.add (Addr.mk (Array.size h) 0 none) 0) = some (Value.int .i64 n15) ∧ ∃ n16 : Int, rd h14 (Addr.add (Addr.mk (Array.size h) 0 none) 1) = some (Value.int .i64 n16) ∧ ∃ x17 : Nat, rd h14 (Addr.add (Addr.mk (Array.size h) 0 none) 2) = some (Value.float .f64 x17) ∧ ∃ s18 : ByteArray, rd h14 (Addr.add (Addr.mk (Array.size h) 0 none) 3) = some (Value.string s18) ∧ ∃ n19 : Int, rd h14 (Addr.add (Addr.mk (Array.size h) 0 none) 4) = some (Value.int .i64 n19) ∧ Q [(Value.agg #[(Value.int .i64 n15), (Value.int .i64 n16), (Value.float .f64 x17), (Value.string s18), (Value.int .i64 n19)])] h14) else
                (ixOk (IntKind.wrap .i64 (n4 + (1 : Int))) (ByteArray.size g0_k) ((if ((strIx g0_k (IntKind.wrap .i64 (n4 + (1 : Int)))) == (1 : Int)) = true then
                      (∃ s20 : ByteArray, bytesAt h5 l3.a l3.n s20 ∧
                        stOk h5 (Addr.mk (Array.size h) 0 none) 5 ∧ wth (wrs h5 (Addr.mk (Array.size h) 0 none) 0 [(Value.int .i64 (0 : Int)), (Value.int .i64 (0 : Int)), (Value.float .f64 0), (Value.string s20), (Value.int .i64 (IntKind.wrap .i64 (n4 + (2 : Int))))]) fun h21 =>
                        ∃ n22 : Int, rd h21 (Addr.add (Addr.mk (Array.size h) 0 none) 0) = some (Value.int .i64 n22) ∧ ∃ n23 : Int, rd h21 (Addr.add (Addr.mk (Array.size h) 0 none) 1) = some (Value.int .i64 n23) ∧ ∃ x24 : Nat, rd h21 (Addr.add (Addr.mk (Array.size h) 0 none) 2) = some (Value.float .f64 x24) ∧ ∃ s25 : ByteArray, rd h21 (Addr.add (Addr.mk (Array.size h) 0 none) 3) = some (Value.string s25) ∧ ∃ n26 : Int, rd h21 (Addr.add (Addr.mk (Array.size h) 0 none) 4) = some (Value.int .i64 n26) ∧ Q [(Value.agg #[(Value.int .i64 n22), (Value.int .i64 n23), (Value.float .f64 x24), (Value.string s25), (Value.int .i64 n26)])] h21) else
                      (ixOk (IntKind.wrap .i64 (n4 + (1 : Int))) (ByteArray.size g0_k) ((if ((strIx g0_k (IntKind.wrap .i64 (n4 + (1 : Int)))) != (255 : Int)) = true then
                            (stOk h5 (Addr.mk (Array.size h) 0 none) 5 ∧ wth (wrs h5 (Addr.mk (Array.size h) 0 none) 0 [(Value.int .i64 (0 : Int)), (Value.int .i64 (0 : Int)), (Value.float .f64 0), (Value.string (ByteArray.mk #[])), (Value.int .i64 (0 : Int))]) fun h27 =>
                              ∃ n28 : Int, rd h27 (Addr.add (Addr.mk (Array.size h) 0 none) 0) = some (Value.int .i64 n28) ∧ ∃ n29 : Int, rd h27 (Addr.add (Addr.mk (Array.size h) 0 none) 1) = some (Value.int .i64 n29) ∧ ∃ x30 : Nat, rd h27 (Addr.add (Addr.mk (Array.size h) 0 none) 2) = some (Value.float .f64 x30) ∧ ∃ s31 : ByteArray, rd h27 (Addr.add (Addr.mk (Array.size h) 0 none) 3) = some (Value.string s31) ∧ ∃ n32 : Int, rd h27 (Addr.add (Addr.mk (Array.size h) 0 none) 4) = some (Value.int .i64 n32) ∧ Q [(Value.agg #[(Value.int .i64 n28), (Value.int .i64 n29), (Value.float .f64 x30), (Value.string s31), (Value.int .i64 n32)])] h27) else
                            (wth (Array.push h5 (Obj.cells #[(Value.int .u8 (0 : Int))] T_uint8)) fun h33 =>
                              ∃ cs36 : List Value, cellsAt h33 (some (Addr.mk (Array.size h5) 0 none)) (1 * 1) cs36 ∧ appS PP T_uint8 1 1 h33 ⟨l3.a, l3.n, l3.c⟩ 1 cs36 fun (l34 : Sl) (h35 : Hp) =>
                              J6 [(Value.slice l34.a l34.n l34.c), (Value.int .i64 (IntKind.wrap .i64 (n4 + (1 : Int))))] h35)))))))))))) else
      (stOk h5 (Addr.mk (Array.size h) 0 none) 5 ∧ wth (wrs h5 (Addr.mk (Array.size h) 0 none) 0 [(Value.int .i64 (0 : Int)), (Value.int .i64 (0 : Int)), (Value.float .f64 0), (Value.string (ByteArray.mk #[])), (Value.int .i64 (0 : Int))]) fun h37 =>
        ∃ n38 : Int, rd h37 (Addr.add (Addr.mk (Array.size h) 0 none) 0) = some (Value.int .i64 n38) ∧ ∃ n39 : Int, rd h37 (Addr.add (Addr.mk (Array.size h) 0 none) 1) = some (Value.int .i64 n39) ∧ ∃ x40 : Nat, rd h37 (Addr.add (Addr.mk (Array.size h) 0 none) 2) = some (Value.float .f64 x40) ∧ ∃ s41 : ByteArray, rd h37 (Addr.add (Addr.mk (Array.size h) 0 none) 3) = some (Value.string s41) ∧ ∃ n42 : Int, rd h37 (Addr.add (Addr.mk (Array.size h) 0 none) 4) = some (Value.int .i64 n42) ∧ Q [(Value.agg #[(Value.int .i64 n38), (Value.int .i64 n39), (Value.float .f64 x40), (Value.string s41), (Value.int .i64 n42)])] h37))) → X2 [(Value.slice l3.a l3.n l3.c), (Value.int .i64 n4)] h5) →
X2 [(Value.slice none 0 0), (Value.int .i64 (0 : Int))] h1
def A_liveryref03_text : Ann := (.mk none ⟨[], []⟩ .nil (.mk none ⟨[], []⟩ .nil (.mk none ⟨[], []⟩ (.mk none ⟨[], []⟩ .nil (.mk none ⟨[], []⟩ (.mk none ⟨[0, 2], [(3, (.c .sl)), (4, (.c (.int .i64)))]⟩ (.mk none ⟨[], []⟩ .nil (.mk none ⟨[], []⟩ (.mk (some ⟨[0, 2], [(3, (.c .sl)), (4, (.c (.int .i64)))]⟩) ⟨[], []⟩ .nil .nil) .nil)) .nil) .nil)) .nil)))
theorem E_liveryref03_text (g0_k : ByteArray) (h : Hp) (Q : List Value → Hp → Prop) : cw PP 50 (fun _ => []) (bodyOf Tryd.f54) A_liveryref03_text (finQ PP (Tryd.f54.results.toList) Q) (argFr [(Value.string g0_k)]) h = F_liveryref03_text g0_k h Q := by kernel_rfl
theorem O_liveryref03_text (g0_k : ByteArray) {h : Hp} {Q : List Value → Hp → Prop} (H : F_liveryref03_text g0_k h Q) : S_liveryref03_text g0_k h Q :=
  fn_of_cw (hs := (fun _ => [])) (ann := A_liveryref03_text) (args := [(Value.string g0_k)]) mixedPP Tryd.func54 (c := bodyOf Tryd.f54) (by kernel_rfl) (by kernel_rfl) (by kernel_rfl) (Eq.mpr (E_liveryref03_text g0_k h Q) H)
def F_liveryref03_read (g0_k : ByteArray) (h : Hp) (Q : List Value → Hp → Prop) : Prop :=
wth (Array.push h (Obj.cells #[(Value.int .i64 (0 : Int)), (Value.int .i64 (0 : Int)), (Value.float .f64 0), (Value.string (ByteArray.mk #[])), (Value.int .i64 (0 : Int))] T_liveryref02_Read)) fun h1 =>
(if ((ByteArray.toList g0_k) == (ByteArray.toList (ByteArray.mk #[]))) = true then
  (stOk h1 (Addr.mk (Array.size h) 0 none) 5 ∧ wth (wrs h1 (Addr.mk (Array.size h) 0 none) 0 [(Value.int .i64 (0 : Int)), (Value.int .i64 (0 : Int)), (Value.float .f64 0), (Value.string (ByteArray.mk #[])), (Value.int .i64 (0 : Int))]) fun h2 =>
    ∃ n3 : Int, rd h2 (Addr.add (Addr.mk (Array.size h) 0 none) 0) = some (Value.int .i64 n3) ∧ ∃ n4 : Int, rd h2 (Addr.add (Addr.mk (Array.size h) 0 none) 1) = some (Value.int .i64 n4) ∧ ∃ x5 : Nat, rd h2 (Addr.add (Addr.mk (Array.size h) 0 none) 2) = some (Value.float .f64 x5) ∧ ∃ s6 : ByteArray, rd h2 (Addr.add (Addr.mk (Array.size h) 0 none) 3) = some (Value.string s6) ∧ ∃ n7 : Int, rd h2 (Addr.add (Addr.mk (Array.size h) 0 none) 4) = some (Value.int .i64 n7) ∧ Q [(Value.agg #[(Value.int .i64 n3), (Value.int .i64 n4), (Value.float .f64 x5), (Value.string s6), (Value.int .i64 n7)])] h2) else
  (ixOk (0 : Int) (ByteArray.size g0_k) (wth (Array.push h1 (Obj.cells #[(Value.int .i64 (0 : Int)), (Value.int .i64 (0 : Int)), (Value.float .f64 0), (Value.string (ByteArray.mk #[]))] T_api_Value)) fun h8 =>
      stOk h8 (Addr.mk (Array.size h1) 0 none) 4 ∧ wth (wrs h8 (Addr.mk (Array.size h1) 0 none) 0 [(Value.int .i64 (IntKind.wrap .i64 (strIx g0_k (0 : Int)))), (Value.int .i64 (0 : Int)), (Value.float .f64 0), (Value.string (ByteArray.mk #[]))]) fun h9 =>
      ∃ n10 : Int, rd h9 (Addr.add (Addr.mk (Array.size h1) 0 none) 0) = some (Value.int .i64 n10) ∧
      ∀ J11 : List Value → Hp → Prop, (∀ n12 : Int, ∀ h13 : Hp, (∃ n14 : Int, rd h13 (Addr.add (Addr.mk (Array.size h1) 0 none) 0) = some (Value.int .i64 n14) ∧ ∃ n15 : Int, rd h13 (Addr.add (Addr.mk (Array.size h1) 0 none) 1) = some (Value.int .i64 n15) ∧ ∃ x16 : Nat, rd h13 (Addr.add (Addr.mk (Array.size h1) 0 none) 2) = some (Value.float .f64 x16) ∧ ∃ s17 : ByteArray, rd h13 (Addr.add (Addr.mk (Array.size h1) 0 none) 3) = some (Value.string s17) ∧ S_liveryref02_Good n14 n15 x16 s17 h13 fun (vs18 : List Value) (h19 : Hp) =>
          ∃ b20 : Bool, vs18 = [(Value.bool b20)] ∧
          (if (!b20) = true then
            (stOk h19 (Addr.mk (Array.size h) 0 none) 5 ∧ wth (wrs h19 (Addr.mk (Array.size h) 0 none) 0 [(Value.int .i64 (0 : Int)), (Value.int .i64 (0 : Int)), (Value.float .f64 0), (Value.string (ByteArray.mk #[])), (Value.int .i64 (0 : Int))]) fun h21 =>
              ∃ n22 : Int, rd h21 (Addr.add (Addr.mk (Array.size h) 0 none) 0) = some (Value.int .i64 n22) ∧ ∃ n23 : Int, rd h21 (Addr.add (Addr.mk (Array.size h) 0 none) 1) = some (Value.int .i64 n23) ∧ ∃ x24 : Nat, rd h21 (Addr.add (Addr.mk (Array.size h) 0 none) 2) = some (Value.float .f64 x24) ∧ ∃ s25 : ByteArray, rd h21 (Addr.add (Addr.mk (Array.size h) 0 none) 3) = some (Value.string s25) ∧ ∃ n26 : Int, rd h21 (Addr.add (Addr.mk (Array.size h) 0 none) 4) = some (Value.int .i64 n26) ∧ Q [(Value.agg #[(Value.int .i64 n22), (Value.int .i64 n23), (Value.float .f64 x24), (Value.string s25), (Value.int .i64 n26)])] h21) else
            (∃ n27 : Int, rd h19 (Addr.add (Addr.mk (Array.size h1) 0 none) 0) = some (Value.int .i64 n27) ∧ ∃ n28 : Int, rd h19 (Addr.add (Addr.mk (Array.size h1) 0 none) 1) = some (Value.int .i64 n28) ∧ ∃ x29 : Nat, rd h19 (Addr.add (Addr.mk (Array.size h1) 0 none) 2) = some (Value.float .f64 x29) ∧ ∃ s30 : ByteArray, rd h19 (Addr.add (Addr.mk (Array.size h1) 0 none) 3) = some (Value.string s30) ∧ stOk h19 (Addr.mk (Array.size h) 0 none) 5 ∧ wth (wrs h19 (Addr.mk (Array.size h) 0 none) 0 [(Value.int .i64 n27), (Value.int .i64 n28), (Value.float .f64 x29), (Value.string s30), (Value.int .i64 n12)]) fun h31 =>
              ∃ n32 : Int, rd h31 (Addr.add (Addr.mk (Array.size h) 0 none) 0) = some (Value.int .i64 n32) ∧ ∃ n33 : Int, rd h31 (Addr.add (Addr.mk (Array.size h) 0 none) 1) = some (Value.int .i64 n33) ∧ ∃ x34 : Nat, rd h31 (Addr.add (Addr.mk (Array.size h) 0 none) 2) = some (Value.float .f64 x34) ∧ ∃ s35 : ByteArray, rd h31 (Addr.add (Addr.mk (Array.size h) 0 none) 3) = some (Value.string s35) ∧ ∃ n36 : Int, rd h31 (Addr.add (Addr.mk (Array.size h) 0 none) 4) = some (Value.int .i64 n36) ∧ Q [(Value.agg #[(Value.int .i64 n32), (Value.int .i64 n33), (Value.float .f64 x34), (Value.string s35), (Value.int .i64 n36)])] h31))) → J11 [(Value.int .i64 n12)] h13) →
      (if (n10 == (1 : Int)) = true then
        ((if (decide ((ByteArray.size g0_k : Int) < (2 : Int))) = true then
            (stOk h9 (Addr.mk (Array.size h) 0 none) 5 ∧ wth (wrs h9 (Addr.mk (Array.size h) 0 none) 0 [(Value.int .i64 (0 : Int)), (Value.int .i64 (0 : Int)), (Value.float .f64 0), (Value.string (ByteArray.mk #[])), (Value.int .i64 (0 : Int))]) fun h37 =>
              ∃ n38 : Int, rd h37 (Addr.add (Addr.mk (Array.size h) 0 none) 0) = some (Value.int .i64 n38) ∧ ∃ n39 : Int, rd h37 (Addr.add (Addr.mk (Array.size h) 0 none) 1) = some (Value.int .i64 n39) ∧ ∃ x40 : Nat, rd h37 (Addr.add (Addr.mk (Array.size h) 0 none) 2) = some (Value.float .f64 x40) ∧ ∃ s41 : ByteArray, rd h37 (Addr.add (Addr.mk (Array.size h) 0 none) 3) = some (Value.string s41) ∧ ∃ n42 : Int, rd h37 (Addr.add (Addr.mk (Array.size h) 0 none) 4) = some (Value.int .i64 n42) ∧ Q [(Value.agg #[(Value.int .i64 n38), (Value.int .i64 n39), (Value.float .f64 x40), (Value.string s41), (Value.int .i64 n42)])] h37) else
            (ixOk (1 : Int) (ByteArray.size g0_k) (stOk h9 (Addr.add (Addr.mk (Array.size h1) 0 none) 1) 1 ∧ wth (wrs h9 (Addr.add (Addr.mk (Array.size h1) 0 none) 1) 0 [(Value.int .i64 (IntKind.wrap .i64 (strIx g0_k (1 : Int))))]) fun h43 =>
                J11 [(Value.int .i64 (2 : Int))] h43)))) else
        ((if (n10 == (2 : Int)) = true then
            ((if (decide ((ByteArray.size g0_k : Int) < (9 : Int))) = true then
                (stOk h9 (Addr.mk (Array.size h) 0 none) 5 ∧ wth (wrs h9 (Addr.mk (Array.size h) 0 none) 0 [(Value.int .i64 (0 : Int)), (Value.int .i64 (0 : Int)), (Value.float .f64 0), (Value.string (ByteArray.mk #[])), (Value.int .i64 (0 : Int))]) fun h44 =>
                  ∃ n45 : Int, rd h44 (Addr.add (Addr.mk (Array.size h) 0 none) 0) = some (Value.int .i64 n45) ∧ ∃ n46 : Int, rd h44 (Addr.add (Addr.mk (Array.size h) 0 none) 1) = some (Value.int .i64 n46) ∧ ∃ x47 : Nat, rd h44 (Addr.add (Addr.mk (Array.size h) 0 none) 2) = some (Value.float .f64 x47) ∧ ∃ s48 : ByteArray, rd h44 (Addr.add (Addr.mk (Array.size h) 0 none) 3) = some (Value.string s48) ∧ ∃ n49 : Int, rd h44 (Addr.add (Addr.mk (Array.size h) 0 none) 4) = some (Value.int .i64 n49) ∧ Q [(Value.agg #[(Value.int .i64 n45), (Value.int .i64 n46), (Value.float .f64 x47), (Value.string s48), (Value.int .i64 n49)])] h44) else
                ((0 ≤ (1 : Int) ∧ (1 : Int) ≤ (9 : Int) ∧ (9 : Int) ≤ ((ByteArray.size g0_k) : Nat)) ∧ S_liveryref02_Number (ByteArray.extract g0_k (Int.toNat (1 : Int)) (Int.toNat (9 : Int))) h9 fun (vs50 : List Value) (h51 : Hp) =>
                  ∃ n52 : Int, vs50 = [(Value.int .u64 n52)] ∧
                  stOk h51 (Addr.add (Addr.mk (Array.size h1) 0 none) 1) 1 ∧ wth (wrs h51 (Addr.add (Addr.mk (Array.size h1) 0 none) 1) 0 [(Value.int .i64 (IntKind.wrap .i64 (iXor .u64 n52 (9223372036854775808 : Int))))]) fun h53 =>
                  J11 [(Value.int .i64 (9 : Int))] h53))) else
            ((if (n10 == (3 : Int)) = true then
                ((if (decide ((ByteArray.size g0_k : Int) < (9 : Int))) = true then
                    (stOk h9 (Addr.mk (Array.size h) 0 none) 5 ∧ wth (wrs h9 (Addr.mk (Array.size h) 0 none) 0 [(Value.int .i64 (0 : Int)), (Value.int .i64 (0 : Int)), (Value.float .f64 0), (Value.string (ByteArray.mk #[])), (Value.int .i64 (0 : Int))]) fun h54 =>
                      ∃ n55 : Int, rd h54 (Addr.add (Addr.mk (Array.size h) 0 none) 0) = some (Value.int .i64 n55) ∧ ∃ n56 : Int, rd h54 (Addr.add (Addr.mk (Array.size h) 0 none) 1) = some (Value.int .i64 n56) ∧ ∃ x57 : Nat, rd h54 (Addr.add (Addr.mk (Array.size h) 0 none) 2) = some (Value.float .f64 x57) ∧ ∃ s58 : ByteArray, rd h54 (Addr.add (Addr.mk (Array.size h) 0 none) 3) = some (Value.string s58) ∧ ∃ n59 : Int, rd h54 (Addr.add (Addr.mk (Array.size h) 0 none) 4) = some (Value.int .i64 n59) ∧ Q [(Value.agg #[(Value.int .i64 n55), (Value.int .i64 n56), (Value.float .f64 x57), (Value.string s58), (Value.int .i64 n59)])] h54) else
                    ((0 ≤ (1 : Int) ∧ (1 : Int) ≤ (9 : Int) ∧ (9 : Int) ≤ ((ByteArray.size g0_k) : Nat)) ∧ S_liveryref02_Number (ByteArray.extract g0_k (Int.toNat (1 : Int)) (Int.toNat (9 : Int))) h9 fun (vs60 : List Value) (h61 : Hp) =>
                      ∃ n62 : Int, vs60 = [(Value.int .u64 n62)] ∧
                      S_liveryref01_From n62 h61 fun (vs63 : List Value) (h64 : Hp) =>
                      ∃ x65 : Nat, ∃ b66 : Bool, vs63 = [(Value.agg #[(Value.float .f64 x65), (Value.bool b66)])] ∧
                      wth (Array.push h64 (Obj.cells #[(Value.float .f64 0), (Value.bool false)] T_liveryref01_Got)) fun h67 =>
                      stOk h67 (Addr.mk (Array.size h64) 0 none) 2 ∧ wth (wrs h67 (Addr.mk (Array.size h64) 0 none) 0 [(Value.float .f64 x65), (Value.bool b66)]) fun h68 =>
                      ∃ b69 : Bool, rd h68 (Addr.add (Addr.mk (Array.size h64) 0 none) 1) = some (Value.bool b69) ∧
                      (if (!b69) = true then
                        (stOk h68 (Addr.mk (Array.size h) 0 none) 5 ∧ wth (wrs h68 (Addr.mk (Array.size h) 0 none) 0 [(Value.int .i64 (0 : Int)), (Value.int .i64 (0 : Int)), (Value.float .f64 0), (Value.string (ByteArray.mk #[])), (Value.int .i64 (0 : Int))]) fun h70 =>
                          ∃ n71 : Int, rd h70 (Addr.add (Addr.mk (Array.size h) 0 none) 0) = some (Value.int .i64 n71) ∧ ∃ n72 : Int, rd h70 (Addr.add (Addr.mk (Array.size h) 0 none) 1) = some (Value.int .i64 n72) ∧ ∃ x73 : Nat, rd h70 (Addr.add (Addr.mk (Array.size h) 0 none) 2) = some (Value.float .f64 x73) ∧ ∃ s74 : ByteArray, rd h70 (Addr.add (Addr.mk (Array.size h) 0 none) 3) = some (Value.string s74) ∧ ∃ n75 : Int, rd h70 (Addr.add (Addr.mk (Array.size h) 0 none) 4) = some (Value.int .i64 n75) ∧ Q [(Value.agg #[(Value.int .i64 n71), (Value.int .i64 n72), (Value.float .f64 x73), (Value.string s74), (Value.int .i64 n75)])] h70) else
                        (∃ x76 : Nat, rd h68 (Addr.add (Addr.mk (Array.size h64) 0 none) 0) = some (Value.float .f64 x76) ∧
                          stOk h68 (Addr.add (Addr.mk (Array.size h1) 0 none) 2) 1 ∧ wth (wrs h68 (Addr.add (Addr.mk (Array.size h1) 0 none) 2) 0 [(Value.float .f64 x76)]) fun h77 =>
                          J11 [(Value.int .i64 (9 : Int))] h77))))) else
                ((if (n10 == (4 : Int)) = true then
                    ((0 ≤ (1 : Int) ∧ (1 : Int) ≤ ((ByteArray.size g0_k) : Nat)) ∧ S_liveryref03_text (ByteArray.extract g0_k (Int.toNat (1 : Int)) (ByteArray.size g0_k)) h9 fun (vs78 : List Value) (h79 : Hp) =>
                      ∃ n80 : Int, ∃ n81 : Int, ∃ x82 : Nat, ∃ s83 : ByteArray, ∃ n84 : Int, vs78 = [(Value.agg #[(Value.int .i64 n80), (Value.int .i64 n81), (Value.float .f64 x82), (Value.string s83), (Value.int .i64 n84)])] ∧
                      wth (Array.push h79 (Obj.cells #[(Value.int .i64 (0 : Int)), (Value.int .i64 (0 : Int)), (Value.float .f64 0), (Value.string (ByteArray.mk #[])), (Value.int .i64 (0 : Int))] T_liveryref02_Read)) fun h85 =>
                      stOk h85 (Addr.mk (Array.size h79) 0 none) 5 ∧ wth (wrs h85 (Addr.mk (Array.size h79) 0 none) 0 [(Value.int .i64 n80), (Value.int .i64 n81), (Value.float .f64 x82), (Value.string s83), (Value.int .i64 n84)]) fun h86 =>
                      ∃ n87 : Int, rd h86 (Addr.add (Addr.mk (Array.size h79) 0 none) 4) = some (Value.int .i64 n87) ∧
                      (if (n87 == (0 : Int)) = true then
                        (stOk h86 (Addr.mk (Array.size h) 0 none) 5 ∧ wth (wrs h86 (Addr.mk (Array.size h) 0 none) 0 [(Value.int .i64 (0 : Int)), (Value.int .i64 (0 : Int)), (Value.float .f64 0), (Value.string (ByteArray.mk #[])), (Value.int .i64 (0 : Int))]) fun h88 =>
                          ∃ n89 : Int, rd h88 (Addr.add (Addr.mk (Array.size h) 0 none) 0) = some (Value.int .i64 n89) ∧ ∃ n90 : Int, rd h88 (Addr.add (Addr.mk (Array.size h) 0 none) 1) = some (Value.int .i64 n90) ∧ ∃ x91 : Nat, rd h88 (Addr.add (Addr.mk (Array.size h) 0 none) 2) = some (Value.float .f64 x91) ∧ ∃ s92 : ByteArray, rd h88 (Addr.add (Addr.mk (Array.size h) 0 none) 3) = some (Value.string s92) ∧ ∃ n93 : Int, rd h88 (Addr.add (Addr.mk (Array.size h) 0 none) 4) = some (Value.int .i64 n93) ∧ Q [(Value.agg #[(Value.int .i64 n89), (Value.int .i64 n90), (Value.float .f64 x91), (Value.string s92), (Value.int .i64 n93)])] h88) else
                        (∃ s94 : ByteArray, rd h86 (Addr.add (Addr.add (Addr.mk (Array.size h79) 0 none) 0) 3) = some (Value.string s94) ∧
                          ∃ n95 : Int, rd h86 (Addr.add (Addr.mk (Array.size h79) 0 none) 4) = some (Value.int .i64 n95) ∧
                          stOk h86 (Addr.add (Addr.mk (Array.size h1) 0 none) 3) 1 ∧ wth (wrs h86 (Addr.add (Addr.mk (Array.size h1) 0 none) 3) 0 [(Value.string s94)]) fun h96 =>
                          rd h96 (Addr.add (Addr.mk (Array.size h79) 0 none) 4) = some (Value.int .i64 n95) ∧ J11 [(Value.int .i64 (IntKind.wrap .i64 ((1 : Int) + n95)))] h96))) else
                    (J11 [(Value.int .i64 (1 : Int))] h9)))))))))))
def A_liveryref03_read : Ann := (.mk none ⟨[], []⟩ .nil (.mk none ⟨[], []⟩ .nil (.mk none ⟨[], []⟩ .nil (.mk none ⟨[], []⟩ .nil (.mk none ⟨[], []⟩ (.mk none ⟨[], []⟩ .nil (.mk (some ⟨[2, 3], [(4, (.c (.int .i64)))]⟩) ⟨[], []⟩ .nil .nil)) .nil)))))
theorem E_liveryref03_read (g0_k : ByteArray) (h : Hp) (Q : List Value → Hp → Prop) : cw PP 78 (fun _ => []) (bodyOf Tryd.f36) A_liveryref03_read (finQ PP (Tryd.f36.results.toList) Q) (argFr [(Value.string g0_k)]) h = F_liveryref03_read g0_k h Q := by kernel_rfl
theorem O_liveryref03_read (g0_k : ByteArray) {h : Hp} {Q : List Value → Hp → Prop} (H : F_liveryref03_read g0_k h Q) : S_liveryref03_read g0_k h Q :=
  fn_of_cw (hs := (fun _ => [])) (ann := A_liveryref03_read) (args := [(Value.string g0_k)]) mixedPP Tryd.func36 (c := bodyOf Tryd.f36) (by kernel_rfl) (by kernel_rfl) (by kernel_rfl) (Eq.mpr (E_liveryref03_read g0_k h Q) H)
def F_liveryref03_Value (g0_k : ByteArray) (h : Hp) (Q : List Value → Hp → Prop) : Prop :=
wth (Array.push h (Obj.cells #[(Value.int .i64 (0 : Int)), (Value.int .i64 (0 : Int)), (Value.float .f64 0), (Value.string (ByteArray.mk #[]))] T_api_Value)) fun h1 =>
S_liveryref03_read g0_k h1 fun (vs2 : List Value) (h3 : Hp) =>
∃ n4 : Int, ∃ n5 : Int, ∃ x6 : Nat, ∃ s7 : ByteArray, ∃ n8 : Int, vs2 = [(Value.agg #[(Value.int .i64 n4), (Value.int .i64 n5), (Value.float .f64 x6), (Value.string s7), (Value.int .i64 n8)])] ∧
wth (Array.push h3 (Obj.cells #[(Value.int .i64 (0 : Int)), (Value.int .i64 (0 : Int)), (Value.float .f64 0), (Value.string (ByteArray.mk #[])), (Value.int .i64 (0 : Int))] T_liveryref02_Read)) fun h9 =>
stOk h9 (Addr.mk (Array.size h3) 0 none) 5 ∧ wth (wrs h9 (Addr.mk (Array.size h3) 0 none) 0 [(Value.int .i64 n4), (Value.int .i64 n5), (Value.float .f64 x6), (Value.string s7), (Value.int .i64 n8)]) fun h10 =>
∀ J11 : List Value → Hp → Prop, (∀ b12 : Bool, ∀ h13 : Hp, ((if b12 = true then
      (stOk h13 (Addr.mk (Array.size h) 0 none) 4 ∧ wth (wrs h13 (Addr.mk (Array.size h) 0 none) 0 [(Value.int .i64 (0 : Int)), (Value.int .i64 (0 : Int)), (Value.float .f64 0), (Value.string (ByteArray.mk #[]))]) fun h14 =>
        ∃ n15 : Int, rd h14 (Addr.add (Addr.mk (Array.size h) 0 none) 0) = some (Value.int .i64 n15) ∧ ∃ n16 : Int, rd h14 (Addr.add (Addr.mk (Array.size h) 0 none) 1) = some (Value.int .i64 n16) ∧ ∃ x17 : Nat, rd h14 (Addr.add (Addr.mk (Array.size h) 0 none) 2) = some (Value.float .f64 x17) ∧ ∃ s18 : ByteArray, rd h14 (Addr.add (Addr.mk (Array.size h) 0 none) 3) = some (Value.string s18) ∧ Q [(Value.agg #[(Value.int .i64 n15), (Value.int .i64 n16), (Value.float .f64 x17), (Value.string s18)]), (Value.int .i64 (11 : Int))] h14) else
      (∃ n19 : Int, rd h13 (Addr.add (Addr.add (Addr.mk (Array.size h3) 0 none) 0) 0) = some (Value.int .i64 n19) ∧ ∃ n20 : Int, rd h13 (Addr.add (Addr.add (Addr.mk (Array.size h3) 0 none) 0) 1) = some (Value.int .i64 n20) ∧ ∃ x21 : Nat, rd h13 (Addr.add (Addr.add (Addr.mk (Array.size h3) 0 none) 0) 2) = some (Value.float .f64 x21) ∧ ∃ s22 : ByteArray, rd h13 (Addr.add (Addr.add (Addr.mk (Array.size h3) 0 none) 0) 3) = some (Value.string s22) ∧ stOk h13 (Addr.mk (Array.size h) 0 none) 4 ∧ wth (wrs h13 (Addr.mk (Array.size h) 0 none) 0 [(Value.int .i64 n19), (Value.int .i64 n20), (Value.float .f64 x21), (Value.string s22)]) fun h23 =>
        ∃ n24 : Int, rd h23 (Addr.add (Addr.mk (Array.size h) 0 none) 0) = some (Value.int .i64 n24) ∧ ∃ n25 : Int, rd h23 (Addr.add (Addr.mk (Array.size h) 0 none) 1) = some (Value.int .i64 n25) ∧ ∃ x26 : Nat, rd h23 (Addr.add (Addr.mk (Array.size h) 0 none) 2) = some (Value.float .f64 x26) ∧ ∃ s27 : ByteArray, rd h23 (Addr.add (Addr.mk (Array.size h) 0 none) 3) = some (Value.string s27) ∧ Q [(Value.agg #[(Value.int .i64 n24), (Value.int .i64 n25), (Value.float .f64 x26), (Value.string s27)]), (Value.int .i64 (0 : Int))] h23))) → J11 [(Value.bool b12)] h13) →
∃ n28 : Int, rd h10 (Addr.add (Addr.mk (Array.size h3) 0 none) 4) = some (Value.int .i64 n28) ∧
(if (n28 == (0 : Int)) = true then (J11 [(Value.bool true)] h10) else
  (∃ n29 : Int, rd h10 (Addr.add (Addr.mk (Array.size h3) 0 none) 4) = some (Value.int .i64 n29) ∧
    J11 [(Value.bool (n29 != (ByteArray.size g0_k : Int)))] h10))
def A_liveryref03_Value : Ann := (.mk none ⟨[], []⟩ .nil (.mk none ⟨[], []⟩ .nil (.mk none ⟨[], []⟩ (.mk none ⟨[], []⟩ (.mk (some ⟨[2, 4], [(16, (.c .bool))]⟩) ⟨[], []⟩ .nil .nil) .nil) .nil)))
theorem E_liveryref03_Value (g0_k : ByteArray) (h : Hp) (Q : List Value → Hp → Prop) : cw PP 20 (fun _ => []) (bodyOf Tryd.f18) A_liveryref03_Value (finQ PP (Tryd.f18.results.toList) Q) (argFr [(Value.string g0_k)]) h = F_liveryref03_Value g0_k h Q := by kernel_rfl
theorem O_liveryref03_Value (g0_k : ByteArray) {h : Hp} {Q : List Value → Hp → Prop} (H : F_liveryref03_Value g0_k h Q) : S_liveryref03_Value g0_k h Q :=
  fn_of_cw (hs := (fun _ => [])) (ann := A_liveryref03_Value) (args := [(Value.string g0_k)]) mixedPP Tryd.func18 (c := bodyOf Tryd.f18) (by kernel_rfl) (by kernel_rfl) (by kernel_rfl) (Eq.mpr (E_liveryref03_Value g0_k h Q) H)
def F_liveryref03_Split (g0_e : ByteArray) (h : Hp) (Q : List Value → Hp → Prop) : Prop :=
wth (Array.push h (Obj.cells #[(Value.int .i64 (0 : Int)), (Value.int .i64 (0 : Int)), (Value.float .f64 0), (Value.string (ByteArray.mk #[])), (Value.int .i64 (0 : Int))] T_liveryref03_Got)) fun h1 =>
S_liveryref03_read g0_e h1 fun (vs2 : List Value) (h3 : Hp) =>
∃ n4 : Int, ∃ n5 : Int, ∃ x6 : Nat, ∃ s7 : ByteArray, ∃ n8 : Int, vs2 = [(Value.agg #[(Value.int .i64 n4), (Value.int .i64 n5), (Value.float .f64 x6), (Value.string s7), (Value.int .i64 n8)])] ∧
wth (Array.push h3 (Obj.cells #[(Value.int .i64 (0 : Int)), (Value.int .i64 (0 : Int)), (Value.float .f64 0), (Value.string (ByteArray.mk #[])), (Value.int .i64 (0 : Int))] T_liveryref02_Read)) fun h9 =>
stOk h9 (Addr.mk (Array.size h3) 0 none) 5 ∧ wth (wrs h9 (Addr.mk (Array.size h3) 0 none) 0 [(Value.int .i64 n4), (Value.int .i64 n5), (Value.float .f64 x6), (Value.string s7), (Value.int .i64 n8)]) fun h10 =>
∀ J11 : List Value → Hp → Prop, (∀ b12 : Bool, ∀ h13 : Hp, ((if b12 = true then
      (stOk h13 (Addr.mk (Array.size h) 0 none) 5 ∧ wth (wrs h13 (Addr.mk (Array.size h) 0 none) 0 [(Value.int .i64 (0 : Int)), (Value.int .i64 (0 : Int)), (Value.float .f64 0), (Value.string (ByteArray.mk #[])), (Value.int .i64 (0 : Int))]) fun h14 =>
        ∃ n15 : Int, rd h14 (Addr.add (Addr.mk (Array.size h) 0 none) 0) = some (Value.int .i64 n15) ∧ ∃ n16 : Int, rd h14 (Addr.add (Addr.mk (Array.size h) 0 none) 1) = some (Value.int .i64 n16) ∧ ∃ x17 : Nat, rd h14 (Addr.add (Addr.mk (Array.size h) 0 none) 2) = some (Value.float .f64 x17) ∧ ∃ s18 : ByteArray, rd h14 (Addr.add (Addr.mk (Array.size h) 0 none) 3) = some (Value.string s18) ∧ ∃ n19 : Int, rd h14 (Addr.add (Addr.mk (Array.size h) 0 none) 4) = some (Value.int .i64 n19) ∧ Q [(Value.agg #[(Value.int .i64 n15), (Value.int .i64 n16), (Value.float .f64 x17), (Value.string s18), (Value.int .i64 n19)]), (Value.int .i64 (11 : Int))] h14) else
      (∃ n20 : Int, rd h13 (Addr.add (Addr.add (Addr.mk (Array.size h3) 0 none) 0) 0) = some (Value.int .i64 n20) ∧ ∃ n21 : Int, rd h13 (Addr.add (Addr.add (Addr.mk (Array.size h3) 0 none) 0) 1) = some (Value.int .i64 n21) ∧ ∃ x22 : Nat, rd h13 (Addr.add (Addr.add (Addr.mk (Array.size h3) 0 none) 0) 2) = some (Value.float .f64 x22) ∧ ∃ s23 : ByteArray, rd h13 (Addr.add (Addr.add (Addr.mk (Array.size h3) 0 none) 0) 3) = some (Value.string s23) ∧ ∃ n24 : Int, rd h13 (Addr.add (Addr.mk (Array.size h3) 0 none) 4) = some (Value.int .i64 n24) ∧
        ixOk n24 (ByteArray.size g0_e) (∃ n25 : Int, rd h13 (Addr.add (Addr.mk (Array.size h3) 0 none) 4) = some (Value.int .i64 n25) ∧
          ixOk (IntKind.wrap .i64 (n25 + (1 : Int))) (ByteArray.size g0_e) (stOk h13 (Addr.mk (Array.size h) 0 none) 5 ∧ wth (wrs h13 (Addr.mk (Array.size h) 0 none) 0 [(Value.int .i64 n20), (Value.int .i64 n21), (Value.float .f64 x22), (Value.string s23), (Value.int .i64 (IntKind.wrap .i64 ((IntKind.wrap .i64 ((IntKind.wrap .i64 (strIx g0_e n24)) * (256 : Int))) + (IntKind.wrap .i64 (strIx g0_e (IntKind.wrap .i64 (n25 + (1 : Int))))))))]) fun h26 =>
            ∃ n27 : Int, rd h26 (Addr.add (Addr.mk (Array.size h) 0 none) 0) = some (Value.int .i64 n27) ∧ ∃ n28 : Int, rd h26 (Addr.add (Addr.mk (Array.size h) 0 none) 1) = some (Value.int .i64 n28) ∧ ∃ x29 : Nat, rd h26 (Addr.add (Addr.mk (Array.size h) 0 none) 2) = some (Value.float .f64 x29) ∧ ∃ s30 : ByteArray, rd h26 (Addr.add (Addr.mk (Array.size h) 0 none) 3) = some (Value.string s30) ∧ ∃ n31 : Int, rd h26 (Addr.add (Addr.mk (Array.size h) 0 none) 4) = some (Value.int .i64 n31) ∧ Q [(Value.agg #[(Value.int .i64 n27), (Value.int .i64 n28), (Value.float .f64 x29), (Value.string s30), (Value.int .i64 n31)]), (Value.int .i64 (0 : Int))] h26))))) → J11 [(Value.bool b12)] h13) →
∃ n32 : Int, rd h10 (Addr.add (Addr.mk (Array.size h3) 0 none) 4) = some (Value.int .i64 n32) ∧
(if (n32 == (0 : Int)) = true then (J11 [(Value.bool true)] h10) else
  (∃ n33 : Int, rd h10 (Addr.add (Addr.mk (Array.size h3) 0 none) 4) = some (Value.int .i64 n33) ∧
    J11 [(Value.bool ((IntKind.wrap .i64 (n33 + (2 : Int))) != (ByteArray.size g0_e : Int)))] h10))
def A_liveryref03_Split : Ann := (.mk none ⟨[], []⟩ .nil (.mk none ⟨[], []⟩ .nil (.mk none ⟨[], []⟩ (.mk none ⟨[], []⟩ (.mk (some ⟨[0, 2, 4], [(17, (.c .bool))]⟩) ⟨[], []⟩ .nil .nil) .nil) .nil)))
theorem E_liveryref03_Split (g0_e : ByteArray) (h : Hp) (Q : List Value → Hp → Prop) : cw PP 35 (fun _ => []) (bodyOf Tryd.f19) A_liveryref03_Split (finQ PP (Tryd.f19.results.toList) Q) (argFr [(Value.string g0_e)]) h = F_liveryref03_Split g0_e h Q := by kernel_rfl
theorem O_liveryref03_Split (g0_e : ByteArray) {h : Hp} {Q : List Value → Hp → Prop} (H : F_liveryref03_Split g0_e h Q) : S_liveryref03_Split g0_e h Q :=
  fn_of_cw (hs := (fun _ => [])) (ann := A_liveryref03_Split) (args := [(Value.string g0_e)]) mixedPP Tryd.func19 (c := bodyOf Tryd.f19) (by kernel_rfl) (by kernel_rfl) (by kernel_rfl) (Eq.mpr (E_liveryref03_Split g0_e h Q) H)
def F_liverylaw03_KeyReads (g0_k : ByteArray) (h : Hp) (Q : List Value → Hp → Prop) : Prop :=
(if (decide ((ByteArray.size g0_k : Int) > (4000 : Int))) = true then
  (S_liverylaw03_wakes  h fun (vs1 : List Value) (h2 : Hp) =>
    ∃ b3 : Bool, vs1 = [(Value.bool b3)] ∧
    Q [(Value.bool b3)] h2) else
  (S_key_Value g0_k h fun (vs4 : List Value) (h5 : Hp) =>
    ∃ n6 : Int, ∃ n7 : Int, ∃ x8 : Nat, ∃ s9 : ByteArray, ∃ n10 : Int, vs4 = [(Value.agg #[(Value.int .i64 n6), (Value.int .i64 n7), (Value.float .f64 x8), (Value.string s9)]), (Value.int .i64 n10)] ∧
    wth (Array.push h5 (Obj.cells #[(Value.int .i64 (0 : Int)), (Value.int .i64 (0 : Int)), (Value.float .f64 0), (Value.string (ByteArray.mk #[]))] T_api_Value)) fun h11 =>
    stOk h11 (Addr.mk (Array.size h5) 0 none) 4 ∧ wth (wrs h11 (Addr.mk (Array.size h5) 0 none) 0 [(Value.int .i64 n6), (Value.int .i64 n7), (Value.float .f64 x8), (Value.string s9)]) fun h12 =>
    S_liveryref03_Value g0_k h12 fun (vs13 : List Value) (h14 : Hp) =>
    ∃ n15 : Int, ∃ n16 : Int, ∃ x17 : Nat, ∃ s18 : ByteArray, ∃ n19 : Int, vs13 = [(Value.agg #[(Value.int .i64 n15), (Value.int .i64 n16), (Value.float .f64 x17), (Value.string s18)]), (Value.int .i64 n19)] ∧
    wth (Array.push h14 (Obj.cells #[(Value.int .i64 (0 : Int)), (Value.int .i64 (0 : Int)), (Value.float .f64 0), (Value.string (ByteArray.mk #[]))] T_api_Value)) fun h20 =>
    stOk h20 (Addr.mk (Array.size h14) 0 none) 4 ∧ wth (wrs h20 (Addr.mk (Array.size h14) 0 none) 0 [(Value.int .i64 n15), (Value.int .i64 n16), (Value.float .f64 x17), (Value.string s18)]) fun h21 =>
    S_key_Split g0_k h21 fun (vs22 : List Value) (h23 : Hp) =>
    ∃ n24 : Int, ∃ n25 : Int, ∃ x26 : Nat, ∃ s27 : ByteArray, ∃ n28 : Int, ∃ n29 : Int, vs22 = [(Value.agg #[(Value.int .i64 n24), (Value.int .i64 n25), (Value.float .f64 x26), (Value.string s27)]), (Value.int .i64 n28), (Value.int .i64 n29)] ∧
    wth (Array.push h23 (Obj.cells #[(Value.int .i64 (0 : Int)), (Value.int .i64 (0 : Int)), (Value.float .f64 0), (Value.string (ByteArray.mk #[]))] T_api_Value)) fun h30 =>
    stOk h30 (Addr.mk (Array.size h23) 0 none) 4 ∧ wth (wrs h30 (Addr.mk (Array.size h23) 0 none) 0 [(Value.int .i64 n24), (Value.int .i64 n25), (Value.float .f64 x26), (Value.string s27)]) fun h31 =>
    S_liveryref03_Split g0_k h31 fun (vs32 : List Value) (h33 : Hp) =>
    ∃ n34 : Int, ∃ n35 : Int, ∃ x36 : Nat, ∃ s37 : ByteArray, ∃ n38 : Int, ∃ n39 : Int, vs32 = [(Value.agg #[(Value.int .i64 n34), (Value.int .i64 n35), (Value.float .f64 x36), (Value.string s37), (Value.int .i64 n38)]), (Value.int .i64 n39)] ∧
    wth (Array.push h33 (Obj.cells #[(Value.int .i64 (0 : Int)), (Value.int .i64 (0 : Int)), (Value.float .f64 0), (Value.string (ByteArray.mk #[])), (Value.int .i64 (0 : Int))] T_liveryref03_Got)) fun h40 =>
    stOk h40 (Addr.mk (Array.size h33) 0 none) 5 ∧ wth (wrs h40 (Addr.mk (Array.size h33) 0 none) 0 [(Value.int .i64 n34), (Value.int .i64 n35), (Value.float .f64 x36), (Value.string s37), (Value.int .i64 n38)]) fun h41 =>
    ∃ n42 : Int, rd h41 (Addr.add (Addr.mk (Array.size h5) 0 none) 0) = some (Value.int .i64 n42) ∧ ∃ n43 : Int, rd h41 (Addr.add (Addr.mk (Array.size h5) 0 none) 1) = some (Value.int .i64 n43) ∧ ∃ x44 : Nat, rd h41 (Addr.add (Addr.mk (Array.size h5) 0 none) 2) = some (Value.float .f64 x44) ∧ ∃ s45 : ByteArray, rd h41 (Addr.add (Addr.mk (Array.size h5) 0 none) 3) = some (Value.string s45) ∧ ∃ n46 : Int, rd h41 (Addr.add (Addr.mk (Array.size h14) 0 none) 0) = some (Value.int .i64 n46) ∧ ∃ n47 : Int, rd h41 (Addr.add (Addr.mk (Array.size h14) 0 none) 1) = some (Value.int .i64 n47) ∧ ∃ x48 : Nat, rd h41 (Addr.add (Addr.mk (Array.size h14) 0 none) 2) = some (Value.float .f64 x48) ∧ ∃ s49 : ByteArray, rd h41 (Addr.add (Addr.mk (Array.size h14) 0 none) 3) = some (Value.string s49) ∧ S_liverykeep_Value n42 n43 x44 s45 n46 n47 x48 s49 h41 fun (vs50 : List Value) (h51 : Hp) =>
    ∃ b52 : Bool, vs50 = [(Value.bool b52)] ∧
    (if b52 = true then ((if (n10 == n19) = true then (∃ n53 : Int, rd h51 (Addr.add (Addr.mk (Array.size h23) 0 none) 0) = some (Value.int .i64 n53) ∧ ∃ n54 : Int, rd h51 (Addr.add (Addr.mk (Array.size h23) 0 none) 1) = some (Value.int .i64 n54) ∧ ∃ x55 : Nat, rd h51 (Addr.add (Addr.mk (Array.size h23) 0 none) 2) = some (Value.float .f64 x55) ∧ ∃ s56 : ByteArray, rd h51 (Addr.add (Addr.mk (Array.size h23) 0 none) 3) = some (Value.string s56) ∧ ∃ n57 : Int, rd h51 (Addr.add (Addr.add (Addr.mk (Array.size h33) 0 none) 0) 0) = some (Value.int .i64 n57) ∧ ∃ n58 : Int, rd h51 (Addr.add (Addr.add (Addr.mk (Array.size h33) 0 none) 0) 1) = some (Value.int .i64 n58) ∧ ∃ x59 : Nat, rd h51 (Addr.add (Addr.add (Addr.mk (Array.size h33) 0 none) 0) 2) = some (Value.float .f64 x59) ∧ ∃ s60 : ByteArray, rd h51 (Addr.add (Addr.add (Addr.mk (Array.size h33) 0 none) 0) 3) = some (Value.string s60) ∧ S_liverykeep_Value n53 n54 x55 s56 n57 n58 x59 s60 h51 fun (vs61 : List Value) (h62 : Hp) =>
            ∃ b63 : Bool, vs61 = [(Value.bool b63)] ∧
            (if b63 = true then (∃ n64 : Int, rd h62 (Addr.add (Addr.mk (Array.size h33) 0 none) 4) = some (Value.int .i64 n64) ∧
                (if (n28 == n64) = true then ((if (n29 == n39) = true then (S_liverylaw03_wakes  h62 fun (vs65 : List Value) (h66 : Hp) =>
                        ∃ b67 : Bool, vs65 = [(Value.bool b67)] ∧
                        Q [(Value.bool b67)] h66) else
                      (Q [(Value.bool false)] h62))) else
                  (Q [(Value.bool false)] h62))) else
              (Q [(Value.bool false)] h62))) else
          (Q [(Value.bool false)] h51))) else
      (Q [(Value.bool false)] h51))))
def A_liverylaw03_KeyReads : Ann := .nil
theorem E_liverylaw03_KeyReads (g0_k : ByteArray) (h : Hp) (Q : List Value → Hp → Prop) : cw PP 65 (fun _ => []) (bodyOf Tryd.f6) A_liverylaw03_KeyReads (finQ PP (Tryd.f6.results.toList) Q) (argFr [(Value.string g0_k)]) h = F_liverylaw03_KeyReads g0_k h Q := by kernel_rfl
theorem O_liverylaw03_KeyReads (g0_k : ByteArray) {h : Hp} {Q : List Value → Hp → Prop} (H : F_liverylaw03_KeyReads g0_k h Q) : S_liverylaw03_KeyReads g0_k h Q :=
  fn_of_cw (hs := (fun _ => [])) (ann := A_liverylaw03_KeyReads) (args := [(Value.string g0_k)]) mixedPP Tryd.func6 (c := bodyOf Tryd.f6) (by kernel_rfl) (by kernel_rfl) (by kernel_rfl) (Eq.mpr (E_liverylaw03_KeyReads g0_k h Q) H)
def F_liveryref02_Eight (g0_u : Int) (h : Hp) (Q : List Value → Hp → Prop) : Prop :=
mkOk (8 : Int) (8 : Int) 1 (wth (Array.push h (Obj.cells (mkCells (zc PP T_uint8) (Int.toNat (8 : Int) * 1)) T_uint8)) fun h1 =>
  ∀ X2 : List Value → Hp → Prop, (∀ n3 : Int, ∀ n4 : Int, ∀ h5 : Hp, ((if (decide (n4 ≥ (0 : Int))) = true then
        (divOk (256 : Int) (nilW (some (Addr.mk (Array.size h) 0 none)) fun a6 => ixOk n4 (Int.toNat (8 : Int)) (stOk h5 (Addr.add a6 (Int.toNat n4 * 1)) 1 ∧ wth (wrs h5 (Addr.add a6 (Int.toNat n4 * 1)) 0 [(Value.int .u8 (IntKind.wrap .u8 (Int.tmod n3 (256 : Int))))]) fun h7 =>
              divOk (256 : Int) (X2 [(Value.int .u64 (IntKind.wrap .u64 (Int.tdiv n3 (256 : Int)))), (Value.int .i64 (IntKind.wrap .i64 (n4 - (1 : Int))))] h7)))) else
        (∃ s8 : ByteArray, bytesAt h5 (some (Addr.mk (Array.size h) 0 none)) (Int.toNat (8 : Int)) s8 ∧
          Q [(Value.string s8)] h5))) → X2 [(Value.int .u64 n3), (Value.int .i64 n4)] h5) →
  X2 [(Value.int .u64 g0_u), (Value.int .i64 (7 : Int))] h1)
def A_liveryref02_Eight : Ann := (.mk none ⟨[], []⟩ .nil (.mk none ⟨[], []⟩ .nil (.mk none ⟨[], []⟩ (.mk none ⟨[], []⟩ .nil (.mk none ⟨[], []⟩ (.mk none ⟨[3], [(0, (.c (.int .u64))), (4, (.c (.int .i64)))]⟩ .nil .nil) .nil)) .nil)))
theorem E_liveryref02_Eight (g0_u : Int) (h : Hp) (Q : List Value → Hp → Prop) : cw PP 20 (fun _ => []) (bodyOf Tryd.f37) A_liveryref02_Eight (finQ PP (Tryd.f37.results.toList) Q) (argFr [(Value.int .u64 g0_u)]) h = F_liveryref02_Eight g0_u h Q := by kernel_rfl
theorem O_liveryref02_Eight (g0_u : Int) {h : Hp} {Q : List Value → Hp → Prop} (H : F_liveryref02_Eight g0_u h Q) : S_liveryref02_Eight g0_u h Q :=
  fn_of_cw (hs := (fun _ => [])) (ann := A_liveryref02_Eight) (args := [(Value.int .u64 g0_u)]) mixedPP Tryd.func37 (c := bodyOf Tryd.f37) (by kernel_rfl) (by kernel_rfl) (by kernel_rfl) (Eq.mpr (E_liveryref02_Eight g0_u h Q) H)
def F_liveryref03_Of (g0_v_0 : Int) (g0_v_1 : Int) (g0_v_2 : Nat) (g0_v_3 : ByteArray) (h : Hp) (Q : List Value → Hp → Prop) : Prop :=
wth (Array.push h (Obj.cells #[(Value.int .i64 g0_v_0), (Value.int .i64 g0_v_1), (Value.float .f64 g0_v_2), (Value.string g0_v_3)] T_api_Value)) fun h1 =>
∃ n2 : Int, rd h1 (Addr.add (Addr.mk (Array.size h) 0 none) 0) = some (Value.int .i64 n2) ∧ ∃ n3 : Int, rd h1 (Addr.add (Addr.mk (Array.size h) 0 none) 1) = some (Value.int .i64 n3) ∧ ∃ x4 : Nat, rd h1 (Addr.add (Addr.mk (Array.size h) 0 none) 2) = some (Value.float .f64 x4) ∧ ∃ s5 : ByteArray, rd h1 (Addr.add (Addr.mk (Array.size h) 0 none) 3) = some (Value.string s5) ∧ S_liveryref02_Good n2 n3 x4 s5 h1 fun (vs6 : List Value) (h7 : Hp) =>
∃ b8 : Bool, vs6 = [(Value.bool b8)] ∧
(if (!b8) = true then
  (Q [(Value.string (ByteArray.mk #[])), (Value.int .i64 (11 : Int))] h7) else
  (∃ n9 : Int, rd h7 (Addr.add (Addr.mk (Array.size h) 0 none) 0) = some (Value.int .i64 n9) ∧
    wth (Array.push h7 (Obj.cells #[(Value.int .u8 (IntKind.wrap .u8 n9))] T_uint8)) fun h10 =>
    ∃ s11 : ByteArray, bytesAt h10 (some (Addr.mk (Array.size h7) 0 none)) 1 s11 ∧
    ∃ n12 : Int, rd h10 (Addr.add (Addr.mk (Array.size h) 0 none) 0) = some (Value.int .i64 n12) ∧
    (if (n12 == (1 : Int)) = true then
      (∃ n13 : Int, rd h10 (Addr.add (Addr.mk (Array.size h) 0 none) 1) = some (Value.int .i64 n13) ∧
        wth (Array.push h10 (Obj.cells #[(Value.int .u8 (IntKind.wrap .u8 n13))] T_uint8)) fun h14 =>
        ∃ s15 : ByteArray, bytesAt h14 (some (Addr.mk (Array.size h10) 0 none)) 1 s15 ∧
        catOk s11 s15 (Q [(Value.string (s11 ++ s15)), (Value.int .i64 (0 : Int))] h14)) else
      ((if (n12 == (2 : Int)) = true then
          (∃ n16 : Int, rd h10 (Addr.add (Addr.mk (Array.size h) 0 none) 1) = some (Value.int .i64 n16) ∧
            S_liveryref02_Eight (iXor .u64 (IntKind.wrap .u64 n16) (9223372036854775808 : Int)) h10 fun (vs17 : List Value) (h18 : Hp) =>
            ∃ s19 : ByteArray, vs17 = [(Value.string s19)] ∧
            catOk s11 s19 (Q [(Value.string (s11 ++ s19)), (Value.int .i64 (0 : Int))] h18)) else
          ((if (n12 == (3 : Int)) = true then
              (∃ x20 : Nat, rd h10 (Addr.add (Addr.mk (Array.size h) 0 none) 2) = some (Value.float .f64 x20) ∧
                S_liveryref01_Bits x20 h10 fun (vs21 : List Value) (h22 : Hp) =>
                ∃ n23 : Int, vs21 = [(Value.int .u64 n23)] ∧
                S_liveryref02_Eight n23 h22 fun (vs24 : List Value) (h25 : Hp) =>
                ∃ s26 : ByteArray, vs24 = [(Value.string s26)] ∧
                catOk s11 s26 (Q [(Value.string (s11 ++ s26)), (Value.int .i64 (0 : Int))] h25)) else
              ((if (n12 == (4 : Int)) = true then
                  (∀ X27 : List Value → Hp → Prop, (∀ s28 : ByteArray, ∀ n29 : Int, ∀ h30 : Hp, (∃ s31 : ByteArray, rd h30 (Addr.add (Addr.mk (Array.size h) 0 none) 3) = some (Value.string s31) ∧
                        (if (decide (n29 < (ByteArray.size s31 : Int))) = true then
                          (∀ J32 : List Value → Hp → Prop, (∀ s33 : ByteArray, ∀ h34 : Hp, (X27 [(Value.string s33), (Value.int .i64 (IntKind.wrap .i64 (n29 + (1 : Int))))] h34) → J32 [(Value.string s33)] h34) →
                            ∃ s35 : ByteArray, rd h30 (Addr.add (Addr.mk (Array.size h) 0 none) 3) = some (Value.string s35) ∧
                            ixOk n29 (ByteArray.size s35) (wth (Array.push h30 (Obj.cells #[(Value.int .u8 (strIx s35 n29))] T_uint8)) fun h36 =>
                              ∃ s37 : ByteArray, bytesAt h36 (some (Addr.mk (Array.size h30) 0 none)) 1 s37 ∧
                              catOk s28 s37 (∃ s38 : ByteArray, rd h36 (Addr.add (Addr.mk (Array.size h) 0 none) 3) = some (Value.string s38) ∧
                                ixOk n29 (ByteArray.size s38) ((if ((strIx s38 n29) == (0 : Int)) = true then
                                    (catOk (s28 ++ s37) (ByteArray.mk #[255]) (J32 [(Value.string ((s28 ++ s37) ++ (ByteArray.mk #[255])))] h36)) else
                                    (J32 [(Value.string (s28 ++ s37))] h36)))))) else
                          (catOk s28 (ByteArray.mk #[0, 1]) (Q [(Value.string (s28 ++ (ByteArray.mk #[0, 1]))), (Value.int .i64 (0 : Int))] h30)))) → X27 [(Value.string s28), (Value.int .i64 n29)] h30) →
                    X27 [(Value.string s11), (Value.int .i64 (0 : Int))] h10) else
                  (Q [(Value.string s11), (Value.int .i64 (0 : Int))] h10))))))))))
def A_liveryref03_Of : Ann := (.mk none ⟨[], []⟩ .nil (.mk none ⟨[], []⟩ .nil (.mk none ⟨[], []⟩ .nil (.mk none ⟨[], []⟩ (.mk none ⟨[], []⟩ .nil (.mk none ⟨[], []⟩ (.mk none ⟨[], []⟩ .nil (.mk none ⟨[], []⟩ .nil (.mk none ⟨[], []⟩ .nil (.mk none ⟨[], []⟩ .nil (.mk none ⟨[], []⟩ .nil (.mk none ⟨[], []⟩ .nil (.mk none ⟨[], []⟩ .nil (.mk none ⟨[], []⟩ (.mk none ⟨[], []⟩ (.mk none ⟨[], []⟩ .nil (.mk none ⟨[], []⟩ (.mk none ⟨[1], [(4, (.c .str)), (5, (.c (.int .i64)))]⟩ (.mk none ⟨[], []⟩ .nil (.mk none ⟨[], []⟩ (.mk (some ⟨[1, 5], [(4, (.c .str))]⟩) ⟨[], []⟩ .nil .nil) .nil)) .nil) .nil)) .nil) .nil)))))))) .nil)) .nil))))
theorem E_liveryref03_Of (g0_v_0 : Int) (g0_v_1 : Int) (g0_v_2 : Nat) (g0_v_3 : ByteArray) (h : Hp) (Q : List Value → Hp → Prop) : cw PP 69 (fun _ => []) (bodyOf Tryd.f20) A_liveryref03_Of (finQ PP (Tryd.f20.results.toList) Q) (argFr [(Value.agg #[(Value.int .i64 g0_v_0), (Value.int .i64 g0_v_1), (Value.float .f64 g0_v_2), (Value.string g0_v_3)])]) h = F_liveryref03_Of g0_v_0 g0_v_1 g0_v_2 g0_v_3 h Q := by kernel_rfl
theorem O_liveryref03_Of (g0_v_0 : Int) (g0_v_1 : Int) (g0_v_2 : Nat) (g0_v_3 : ByteArray) {h : Hp} {Q : List Value → Hp → Prop} (H : F_liveryref03_Of g0_v_0 g0_v_1 g0_v_2 g0_v_3 h Q) : S_liveryref03_Of g0_v_0 g0_v_1 g0_v_2 g0_v_3 h Q :=
  fn_of_cw (hs := (fun _ => [])) (ann := A_liveryref03_Of) (args := [(Value.agg #[(Value.int .i64 g0_v_0), (Value.int .i64 g0_v_1), (Value.float .f64 g0_v_2), (Value.string g0_v_3)])]) mixedPP Tryd.func20 (c := bodyOf Tryd.f20) (by kernel_rfl) (by kernel_rfl) (by kernel_rfl) (Eq.mpr (E_liveryref03_Of g0_v_0 g0_v_1 g0_v_2 g0_v_3 h Q) H)
def F_liveryref03_Entry (g0_v_0 : Int) (g0_v_1 : Int) (g0_v_2 : Nat) (g0_v_3 : ByteArray) (g1_n : Int) (h : Hp) (Q : List Value → Hp → Prop) : Prop :=
wth (Array.push h (Obj.cells #[(Value.int .i64 g0_v_0), (Value.int .i64 g0_v_1), (Value.float .f64 g0_v_2), (Value.string g0_v_3)] T_api_Value)) fun h1 =>
∃ n2 : Int, rd h1 (Addr.add (Addr.mk (Array.size h) 0 none) 0) = some (Value.int .i64 n2) ∧ ∃ n3 : Int, rd h1 (Addr.add (Addr.mk (Array.size h) 0 none) 1) = some (Value.int .i64 n3) ∧ ∃ x4 : Nat, rd h1 (Addr.add (Addr.mk (Array.size h) 0 none) 2) = some (Value.float .f64 x4) ∧ ∃ s5 : ByteArray, rd h1 (Addr.add (Addr.mk (Array.size h) 0 none) 3) = some (Value.string s5) ∧ S_liveryref03_Of n2 n3 x4 s5 h1 fun (vs6 : List Value) (h7 : Hp) =>
∃ s8 : ByteArray, ∃ n9 : Int, vs6 = [(Value.string s8), (Value.int .i64 n9)] ∧
(if (n9 != (0 : Int)) = true then
  (Q [(Value.string (ByteArray.mk #[])), (Value.int .i64 n9)] h7) else
  (∀ J10 : List Value → Hp → Prop, (∀ b11 : Bool, ∀ h12 : Hp, ((if b11 = true then
          (Q [(Value.string (ByteArray.mk #[])), (Value.int .i64 (1 : Int))] h12) else
          (divOk (256 : Int) (divOk (256 : Int) (wth (Array.push h12 (Obj.cells #[(Value.int .u8 (IntKind.wrap .u8 (IntKind.wrap .i64 (Int.tdiv g1_n (256 : Int))))), (Value.int .u8 (IntKind.wrap .u8 (Int.tmod g1_n (256 : Int))))] T_uint8)) fun h13 =>
                ∃ s14 : ByteArray, bytesAt h13 (some (Addr.mk (Array.size h12) 0 none)) 2 s14 ∧
                catOk s8 s14 (Q [(Value.string (s8 ++ s14)), (Value.int .i64 (0 : Int))] h13)))))) → J10 [(Value.bool b11)] h12) →
    (if (decide (g1_n < (0 : Int))) = true then (J10 [(Value.bool true)] h7) else
      (J10 [(Value.bool (decide (g1_n > (65535 : Int))))] h7))))
def A_liveryref03_Entry : Ann := (.mk none ⟨[], []⟩ .nil (.mk none ⟨[], []⟩ .nil (.mk none ⟨[], []⟩ .nil (.mk none ⟨[], []⟩ (.mk none ⟨[], []⟩ (.mk (some ⟨[1, 6], [(21, (.c .bool))]⟩) ⟨[], []⟩ .nil .nil) .nil) .nil))))
theorem E_liveryref03_Entry (g0_v_0 : Int) (g0_v_1 : Int) (g0_v_2 : Nat) (g0_v_3 : ByteArray) (g1_n : Int) (h : Hp) (Q : List Value → Hp → Prop) : cw PP 32 (fun _ => []) (bodyOf Tryd.f21) A_liveryref03_Entry (finQ PP (Tryd.f21.results.toList) Q) (argFr [(Value.agg #[(Value.int .i64 g0_v_0), (Value.int .i64 g0_v_1), (Value.float .f64 g0_v_2), (Value.string g0_v_3)]), (Value.int .i64 g1_n)]) h = F_liveryref03_Entry g0_v_0 g0_v_1 g0_v_2 g0_v_3 g1_n h Q := by kernel_rfl
theorem O_liveryref03_Entry (g0_v_0 : Int) (g0_v_1 : Int) (g0_v_2 : Nat) (g0_v_3 : ByteArray) (g1_n : Int) {h : Hp} {Q : List Value → Hp → Prop} (H : F_liveryref03_Entry g0_v_0 g0_v_1 g0_v_2 g0_v_3 g1_n h Q) : S_liveryref03_Entry g0_v_0 g0_v_1 g0_v_2 g0_v_3 g1_n h Q :=
  fn_of_cw (hs := (fun _ => [])) (ann := A_liveryref03_Entry) (args := [(Value.agg #[(Value.int .i64 g0_v_0), (Value.int .i64 g0_v_1), (Value.float .f64 g0_v_2), (Value.string g0_v_3)]), (Value.int .i64 g1_n)]) mixedPP Tryd.func21 (c := bodyOf Tryd.f21) (by kernel_rfl) (by kernel_rfl) (by kernel_rfl) (Eq.mpr (E_liveryref03_Entry g0_v_0 g0_v_1 g0_v_2 g0_v_3 g1_n h Q) H)
def F_key_Least (g0_v_0 : Int) (g0_v_1 : Int) (g0_v_2 : Nat) (g0_v_3 : ByteArray) (h : Hp) (Q : List Value → Hp → Prop) : Prop :=
wth (Array.push h (Obj.cells #[(Value.int .i64 g0_v_0), (Value.int .i64 g0_v_1), (Value.float .f64 g0_v_2), (Value.string g0_v_3)] T_api_Value)) fun h1 =>
∃ n2 : Int, rd h1 (Addr.add (Addr.mk (Array.size h) 0 none) 0) = some (Value.int .i64 n2) ∧ ∃ n3 : Int, rd h1 (Addr.add (Addr.mk (Array.size h) 0 none) 1) = some (Value.int .i64 n3) ∧ ∃ x4 : Nat, rd h1 (Addr.add (Addr.mk (Array.size h) 0 none) 2) = some (Value.float .f64 x4) ∧ ∃ s5 : ByteArray, rd h1 (Addr.add (Addr.mk (Array.size h) 0 none) 3) = some (Value.string s5) ∧ S_key_Entry n2 n3 x4 s5 (0 : Int) h1 fun (vs6 : List Value) (h7 : Hp) =>
∃ s8 : ByteArray, ∃ n9 : Int, vs6 = [(Value.string s8), (Value.int .i64 n9)] ∧
Q [(Value.string s8), (Value.int .i64 n9)] h7
def A_key_Least : Ann := .nil
theorem E_key_Least (g0_v_0 : Int) (g0_v_1 : Int) (g0_v_2 : Nat) (g0_v_3 : ByteArray) (h : Hp) (Q : List Value → Hp → Prop) : cw PP 8 (fun _ => []) (bodyOf Tryd.f22) A_key_Least (finQ PP (Tryd.f22.results.toList) Q) (argFr [(Value.agg #[(Value.int .i64 g0_v_0), (Value.int .i64 g0_v_1), (Value.float .f64 g0_v_2), (Value.string g0_v_3)])]) h = F_key_Least g0_v_0 g0_v_1 g0_v_2 g0_v_3 h Q := by kernel_rfl
theorem O_key_Least (g0_v_0 : Int) (g0_v_1 : Int) (g0_v_2 : Nat) (g0_v_3 : ByteArray) {h : Hp} {Q : List Value → Hp → Prop} (H : F_key_Least g0_v_0 g0_v_1 g0_v_2 g0_v_3 h Q) : S_key_Least g0_v_0 g0_v_1 g0_v_2 g0_v_3 h Q :=
  fn_of_cw (hs := (fun _ => [])) (ann := A_key_Least) (args := [(Value.agg #[(Value.int .i64 g0_v_0), (Value.int .i64 g0_v_1), (Value.float .f64 g0_v_2), (Value.string g0_v_3)])]) mixedPP Tryd.func22 (c := bodyOf Tryd.f22) (by kernel_rfl) (by kernel_rfl) (by kernel_rfl) (Eq.mpr (E_key_Least g0_v_0 g0_v_1 g0_v_2 g0_v_3 h Q) H)
def F_liveryref03_Least (g0_v_0 : Int) (g0_v_1 : Int) (g0_v_2 : Nat) (g0_v_3 : ByteArray) (h : Hp) (Q : List Value → Hp → Prop) : Prop :=
wth (Array.push h (Obj.cells #[(Value.int .i64 g0_v_0), (Value.int .i64 g0_v_1), (Value.float .f64 g0_v_2), (Value.string g0_v_3)] T_api_Value)) fun h1 =>
∃ n2 : Int, rd h1 (Addr.add (Addr.mk (Array.size h) 0 none) 0) = some (Value.int .i64 n2) ∧ ∃ n3 : Int, rd h1 (Addr.add (Addr.mk (Array.size h) 0 none) 1) = some (Value.int .i64 n3) ∧ ∃ x4 : Nat, rd h1 (Addr.add (Addr.mk (Array.size h) 0 none) 2) = some (Value.float .f64 x4) ∧ ∃ s5 : ByteArray, rd h1 (Addr.add (Addr.mk (Array.size h) 0 none) 3) = some (Value.string s5) ∧ S_liveryref03_Entry n2 n3 x4 s5 (0 : Int) h1 fun (vs6 : List Value) (h7 : Hp) =>
∃ s8 : ByteArray, ∃ n9 : Int, vs6 = [(Value.string s8), (Value.int .i64 n9)] ∧
Q [(Value.string s8), (Value.int .i64 n9)] h7
def A_liveryref03_Least : Ann := .nil
theorem E_liveryref03_Least (g0_v_0 : Int) (g0_v_1 : Int) (g0_v_2 : Nat) (g0_v_3 : ByteArray) (h : Hp) (Q : List Value → Hp → Prop) : cw PP 8 (fun _ => []) (bodyOf Tryd.f23) A_liveryref03_Least (finQ PP (Tryd.f23.results.toList) Q) (argFr [(Value.agg #[(Value.int .i64 g0_v_0), (Value.int .i64 g0_v_1), (Value.float .f64 g0_v_2), (Value.string g0_v_3)])]) h = F_liveryref03_Least g0_v_0 g0_v_1 g0_v_2 g0_v_3 h Q := by kernel_rfl
theorem O_liveryref03_Least (g0_v_0 : Int) (g0_v_1 : Int) (g0_v_2 : Nat) (g0_v_3 : ByteArray) {h : Hp} {Q : List Value → Hp → Prop} (H : F_liveryref03_Least g0_v_0 g0_v_1 g0_v_2 g0_v_3 h Q) : S_liveryref03_Least g0_v_0 g0_v_1 g0_v_2 g0_v_3 h Q :=
  fn_of_cw (hs := (fun _ => [])) (ann := A_liveryref03_Least) (args := [(Value.agg #[(Value.int .i64 g0_v_0), (Value.int .i64 g0_v_1), (Value.float .f64 g0_v_2), (Value.string g0_v_3)])]) mixedPP Tryd.func23 (c := bodyOf Tryd.f23) (by kernel_rfl) (by kernel_rfl) (by kernel_rfl) (Eq.mpr (E_liveryref03_Least g0_v_0 g0_v_1 g0_v_2 g0_v_3 h Q) H)
def F_key_After (g0_v_0 : Int) (g0_v_1 : Int) (g0_v_2 : Nat) (g0_v_3 : ByteArray) (h : Hp) (Q : List Value → Hp → Prop) : Prop :=
wth (Array.push h (Obj.cells #[(Value.int .i64 g0_v_0), (Value.int .i64 g0_v_1), (Value.float .f64 g0_v_2), (Value.string g0_v_3)] T_api_Value)) fun h1 =>
∃ n2 : Int, rd h1 (Addr.add (Addr.mk (Array.size h) 0 none) 0) = some (Value.int .i64 n2) ∧ ∃ n3 : Int, rd h1 (Addr.add (Addr.mk (Array.size h) 0 none) 1) = some (Value.int .i64 n3) ∧ ∃ x4 : Nat, rd h1 (Addr.add (Addr.mk (Array.size h) 0 none) 2) = some (Value.float .f64 x4) ∧ ∃ s5 : ByteArray, rd h1 (Addr.add (Addr.mk (Array.size h) 0 none) 3) = some (Value.string s5) ∧ S_key_Entry n2 n3 x4 s5 (65535 : Int) h1 fun (vs6 : List Value) (h7 : Hp) =>
∃ s8 : ByteArray, ∃ n9 : Int, vs6 = [(Value.string s8), (Value.int .i64 n9)] ∧
(if (n9 != (0 : Int)) = true then
  (Q [(Value.string (ByteArray.mk #[])), (Value.int .i64 n9)] h7) else
  (wth (Array.push h7 (Obj.cells #[(Value.string s8), (Value.string (ByteArray.mk #[0]))] T_string)) fun h10 =>
    S_key_joined ⟨(some (Addr.mk (Array.size h7) 0 none)), 2, 2⟩ h10 fun (vs11 : List Value) (h12 : Hp) =>
    ∃ s13 : ByteArray, vs11 = [(Value.string s13)] ∧
    Q [(Value.string s13), (Value.int .i64 (0 : Int))] h12))
def A_key_After : Ann := .nil
theorem E_key_After (g0_v_0 : Int) (g0_v_1 : Int) (g0_v_2 : Nat) (g0_v_3 : ByteArray) (h : Hp) (Q : List Value → Hp → Prop) : cw PP 17 (fun _ => []) (bodyOf Tryd.f24) A_key_After (finQ PP (Tryd.f24.results.toList) Q) (argFr [(Value.agg #[(Value.int .i64 g0_v_0), (Value.int .i64 g0_v_1), (Value.float .f64 g0_v_2), (Value.string g0_v_3)])]) h = F_key_After g0_v_0 g0_v_1 g0_v_2 g0_v_3 h Q := by kernel_rfl
theorem O_key_After (g0_v_0 : Int) (g0_v_1 : Int) (g0_v_2 : Nat) (g0_v_3 : ByteArray) {h : Hp} {Q : List Value → Hp → Prop} (H : F_key_After g0_v_0 g0_v_1 g0_v_2 g0_v_3 h Q) : S_key_After g0_v_0 g0_v_1 g0_v_2 g0_v_3 h Q :=
  fn_of_cw (hs := (fun _ => [])) (ann := A_key_After) (args := [(Value.agg #[(Value.int .i64 g0_v_0), (Value.int .i64 g0_v_1), (Value.float .f64 g0_v_2), (Value.string g0_v_3)])]) mixedPP Tryd.func24 (c := bodyOf Tryd.f24) (by kernel_rfl) (by kernel_rfl) (by kernel_rfl) (Eq.mpr (E_key_After g0_v_0 g0_v_1 g0_v_2 g0_v_3 h Q) H)
def F_liveryref03_After (g0_v_0 : Int) (g0_v_1 : Int) (g0_v_2 : Nat) (g0_v_3 : ByteArray) (h : Hp) (Q : List Value → Hp → Prop) : Prop :=
wth (Array.push h (Obj.cells #[(Value.int .i64 g0_v_0), (Value.int .i64 g0_v_1), (Value.float .f64 g0_v_2), (Value.string g0_v_3)] T_api_Value)) fun h1 =>
∃ n2 : Int, rd h1 (Addr.add (Addr.mk (Array.size h) 0 none) 0) = some (Value.int .i64 n2) ∧ ∃ n3 : Int, rd h1 (Addr.add (Addr.mk (Array.size h) 0 none) 1) = some (Value.int .i64 n3) ∧ ∃ x4 : Nat, rd h1 (Addr.add (Addr.mk (Array.size h) 0 none) 2) = some (Value.float .f64 x4) ∧ ∃ s5 : ByteArray, rd h1 (Addr.add (Addr.mk (Array.size h) 0 none) 3) = some (Value.string s5) ∧ S_liveryref03_Entry n2 n3 x4 s5 (65535 : Int) h1 fun (vs6 : List Value) (h7 : Hp) =>
∃ s8 : ByteArray, ∃ n9 : Int, vs6 = [(Value.string s8), (Value.int .i64 n9)] ∧
(if (n9 != (0 : Int)) = true then
  (Q [(Value.string (ByteArray.mk #[])), (Value.int .i64 n9)] h7) else
  (catOk s8 (ByteArray.mk #[0]) (Q [(Value.string (s8 ++ (ByteArray.mk #[0]))), (Value.int .i64 (0 : Int))] h7)))
def A_liveryref03_After : Ann := .nil
theorem E_liveryref03_After (g0_v_0 : Int) (g0_v_1 : Int) (g0_v_2 : Nat) (g0_v_3 : ByteArray) (h : Hp) (Q : List Value → Hp → Prop) : cw PP 16 (fun _ => []) (bodyOf Tryd.f25) A_liveryref03_After (finQ PP (Tryd.f25.results.toList) Q) (argFr [(Value.agg #[(Value.int .i64 g0_v_0), (Value.int .i64 g0_v_1), (Value.float .f64 g0_v_2), (Value.string g0_v_3)])]) h = F_liveryref03_After g0_v_0 g0_v_1 g0_v_2 g0_v_3 h Q := by kernel_rfl
theorem O_liveryref03_After (g0_v_0 : Int) (g0_v_1 : Int) (g0_v_2 : Nat) (g0_v_3 : ByteArray) {h : Hp} {Q : List Value → Hp → Prop} (H : F_liveryref03_After g0_v_0 g0_v_1 g0_v_2 g0_v_3 h Q) : S_liveryref03_After g0_v_0 g0_v_1 g0_v_2 g0_v_3 h Q :=
  fn_of_cw (hs := (fun _ => [])) (ann := A_liveryref03_After) (args := [(Value.agg #[(Value.int .i64 g0_v_0), (Value.int .i64 g0_v_1), (Value.float .f64 g0_v_2), (Value.string g0_v_3)])]) mixedPP Tryd.func25 (c := bodyOf Tryd.f25) (by kernel_rfl) (by kernel_rfl) (by kernel_rfl) (Eq.mpr (E_liveryref03_After g0_v_0 g0_v_1 g0_v_2 g0_v_3 h Q) H)
def F_liverylaw03_KeyMakes (g0_v_0 : Int) (g0_v_1 : Int) (g0_v_2 : Nat) (g0_v_3 : ByteArray) (g1_n : Int) (h : Hp) (Q : List Value → Hp → Prop) : Prop :=
wth (Array.push h (Obj.cells #[(Value.int .i64 g0_v_0), (Value.int .i64 g0_v_1), (Value.float .f64 g0_v_2), (Value.string g0_v_3)] T_api_Value)) fun h1 =>
∃ n2 : Int, rd h1 (Addr.add (Addr.mk (Array.size h) 0 none) 0) = some (Value.int .i64 n2) ∧ ∃ n3 : Int, rd h1 (Addr.add (Addr.mk (Array.size h) 0 none) 1) = some (Value.int .i64 n3) ∧ ∃ x4 : Nat, rd h1 (Addr.add (Addr.mk (Array.size h) 0 none) 2) = some (Value.float .f64 x4) ∧ ∃ s5 : ByteArray, rd h1 (Addr.add (Addr.mk (Array.size h) 0 none) 3) = some (Value.string s5) ∧ S_liverykeep_LargeValue n2 n3 x4 s5 h1 fun (vs6 : List Value) (h7 : Hp) =>
∃ b8 : Bool, vs6 = [(Value.bool b8)] ∧
(if b8 = true then
  (S_liverylaw03_wakes  h7 fun (vs9 : List Value) (h10 : Hp) =>
    ∃ b11 : Bool, vs9 = [(Value.bool b11)] ∧
    Q [(Value.bool b11)] h10) else
  (∃ n12 : Int, rd h7 (Addr.add (Addr.mk (Array.size h) 0 none) 0) = some (Value.int .i64 n12) ∧ ∃ n13 : Int, rd h7 (Addr.add (Addr.mk (Array.size h) 0 none) 1) = some (Value.int .i64 n13) ∧ ∃ x14 : Nat, rd h7 (Addr.add (Addr.mk (Array.size h) 0 none) 2) = some (Value.float .f64 x14) ∧ ∃ s15 : ByteArray, rd h7 (Addr.add (Addr.mk (Array.size h) 0 none) 3) = some (Value.string s15) ∧ S_key_Of n12 n13 x14 s15 h7 fun (vs16 : List Value) (h17 : Hp) =>
    ∃ s18 : ByteArray, ∃ n19 : Int, vs16 = [(Value.string s18), (Value.int .i64 n19)] ∧
    ∃ n20 : Int, rd h17 (Addr.add (Addr.mk (Array.size h) 0 none) 0) = some (Value.int .i64 n20) ∧ ∃ n21 : Int, rd h17 (Addr.add (Addr.mk (Array.size h) 0 none) 1) = some (Value.int .i64 n21) ∧ ∃ x22 : Nat, rd h17 (Addr.add (Addr.mk (Array.size h) 0 none) 2) = some (Value.float .f64 x22) ∧ ∃ s23 : ByteArray, rd h17 (Addr.add (Addr.mk (Array.size h) 0 none) 3) = some (Value.string s23) ∧ S_liveryref03_Of n20 n21 x22 s23 h17 fun (vs24 : List Value) (h25 : Hp) =>
    ∃ s26 : ByteArray, ∃ n27 : Int, vs24 = [(Value.string s26), (Value.int .i64 n27)] ∧
    ∃ n28 : Int, rd h25 (Addr.add (Addr.mk (Array.size h) 0 none) 0) = some (Value.int .i64 n28) ∧ ∃ n29 : Int, rd h25 (Addr.add (Addr.mk (Array.size h) 0 none) 1) = some (Value.int .i64 n29) ∧ ∃ x30 : Nat, rd h25 (Addr.add (Addr.mk (Array.size h) 0 none) 2) = some (Value.float .f64 x30) ∧ ∃ s31 : ByteArray, rd h25 (Addr.add (Addr.mk (Array.size h) 0 none) 3) = some (Value.string s31) ∧ S_key_Entry n28 n29 x30 s31 g1_n h25 fun (vs32 : List Value) (h33 : Hp) =>
    ∃ s34 : ByteArray, ∃ n35 : Int, vs32 = [(Value.string s34), (Value.int .i64 n35)] ∧
    ∃ n36 : Int, rd h33 (Addr.add (Addr.mk (Array.size h) 0 none) 0) = some (Value.int .i64 n36) ∧ ∃ n37 : Int, rd h33 (Addr.add (Addr.mk (Array.size h) 0 none) 1) = some (Value.int .i64 n37) ∧ ∃ x38 : Nat, rd h33 (Addr.add (Addr.mk (Array.size h) 0 none) 2) = some (Value.float .f64 x38) ∧ ∃ s39 : ByteArray, rd h33 (Addr.add (Addr.mk (Array.size h) 0 none) 3) = some (Value.string s39) ∧ S_liveryref03_Entry n36 n37 x38 s39 g1_n h33 fun (vs40 : List Value) (h41 : Hp) =>
    ∃ s42 : ByteArray, ∃ n43 : Int, vs40 = [(Value.string s42), (Value.int .i64 n43)] ∧
    ∀ J44 : List Value → Hp → Prop, (∀ b45 : Bool, ∀ h46 : Hp, ((if b45 = true then
          (Q [(Value.bool false)] h46) else
          (∃ n47 : Int, rd h46 (Addr.add (Addr.mk (Array.size h) 0 none) 0) = some (Value.int .i64 n47) ∧ ∃ n48 : Int, rd h46 (Addr.add (Addr.mk (Array.size h) 0 none) 1) = some (Value.int .i64 n48) ∧ ∃ x49 : Nat, rd h46 (Addr.add (Addr.mk (Array.size h) 0 none) 2) = some (Value.float .f64 x49) ∧ ∃ s50 : ByteArray, rd h46 (Addr.add (Addr.mk (Array.size h) 0 none) 3) = some (Value.string s50) ∧ S_key_Least n47 n48 x49 s50 h46 fun (vs51 : List Value) (h52 : Hp) =>
            ∃ s53 : ByteArray, ∃ n54 : Int, vs51 = [(Value.string s53), (Value.int .i64 n54)] ∧
            ∃ n55 : Int, rd h52 (Addr.add (Addr.mk (Array.size h) 0 none) 0) = some (Value.int .i64 n55) ∧ ∃ n56 : Int, rd h52 (Addr.add (Addr.mk (Array.size h) 0 none) 1) = some (Value.int .i64 n56) ∧ ∃ x57 : Nat, rd h52 (Addr.add (Addr.mk (Array.size h) 0 none) 2) = some (Value.float .f64 x57) ∧ ∃ s58 : ByteArray, rd h52 (Addr.add (Addr.mk (Array.size h) 0 none) 3) = some (Value.string s58) ∧ S_liveryref03_Least n55 n56 x57 s58 h52 fun (vs59 : List Value) (h60 : Hp) =>
            ∃ s61 : ByteArray, ∃ n62 : Int, vs59 = [(Value.string s61), (Value.int .i64 n62)] ∧
            ∃ n63 : Int, rd h60 (Addr.add (Addr.mk (Array.size h) 0 none) 0) = some (Value.int .i64 n63) ∧ ∃ n64 : Int, rd h60 (Addr.add (Addr.mk (Array.size h) 0 none) 1) = some (Value.int .i64 n64) ∧ ∃ x65 : Nat, rd h60 (Addr.add (Addr.mk (Array.size h) 0 none) 2) = some (Value.float .f64 x65) ∧ ∃ s66 : ByteArray, rd h60 (Addr.add (Addr.mk (Array.size h) 0 none) 3) = some (Value.string s66) ∧ S_key_After n63 n64 x65 s66 h60 fun (vs67 : List Value) (h68 : Hp) =>
            ∃ s69 : ByteArray, ∃ n70 : Int, vs67 = [(Value.string s69), (Value.int .i64 n70)] ∧
            ∃ n71 : Int, rd h68 (Addr.add (Addr.mk (Array.size h) 0 none) 0) = some (Value.int .i64 n71) ∧ ∃ n72 : Int, rd h68 (Addr.add (Addr.mk (Array.size h) 0 none) 1) = some (Value.int .i64 n72) ∧ ∃ x73 : Nat, rd h68 (Addr.add (Addr.mk (Array.size h) 0 none) 2) = some (Value.float .f64 x73) ∧ ∃ s74 : ByteArray, rd h68 (Addr.add (Addr.mk (Array.size h) 0 none) 3) = some (Value.string s74) ∧ S_liveryref03_After n71 n72 x73 s74 h68 fun (vs75 : List Value) (h76 : Hp) =>
            ∃ s77 : ByteArray, ∃ n78 : Int, vs75 = [(Value.string s77), (Value.int .i64 n78)] ∧
            (if ((ByteArray.toList s53) == (ByteArray.toList s61)) = true then ((if (n54 == n62) = true then ((if ((ByteArray.toList s69) == (ByteArray.toList s77)) = true then ((if (n70 == n78) = true then (S_liverylaw03_wakes  h76 fun (vs79 : List Value) (h80 : Hp) =>
                            ∃ b81 : Bool, vs79 = [(Value.bool b81)] ∧
                            Q [(Value.bool b81)] h80) else
                          (Q [(Value.bool false)] h76))) else
                      (Q [(Value.bool false)] h76))) else
                  (Q [(Value.bool false)] h76))) else
              (Q [(Value.bool false)] h76))))) → J44 [(Value.bool b45)] h46) →
    (if (!((ByteArray.toList s18) == (ByteArray.toList s26))) = true then (J44 [(Value.bool true)] h41) else
      ((if (n19 != n27) = true then (J44 [(Value.bool true)] h41) else
          ((if (!((ByteArray.toList s34) == (ByteArray.toList s42))) = true then (J44 [(Value.bool true)] h41) else
              (J44 [(Value.bool (n35 != n43))] h41))))))))
def A_liverylaw03_KeyMakes : Ann := (.mk none ⟨[], []⟩ .nil (.mk none ⟨[], []⟩ .nil (.mk none ⟨[], []⟩ .nil (.mk none ⟨[], []⟩ .nil (.mk none ⟨[], []⟩ .nil (.mk none ⟨[], []⟩ .nil (.mk none ⟨[], []⟩ (.mk none ⟨[], []⟩ (.mk (some ⟨[2], [(55, (.c .bool))]⟩) ⟨[], []⟩ .nil .nil) .nil) .nil)))))))
theorem E_liverylaw03_KeyMakes (g0_v_0 : Int) (g0_v_1 : Int) (g0_v_2 : Nat) (g0_v_3 : ByteArray) (g1_n : Int) (h : Hp) (Q : List Value → Hp → Prop) : cw PP 97 (fun _ => []) (bodyOf Tryd.f7) A_liverylaw03_KeyMakes (finQ PP (Tryd.f7.results.toList) Q) (argFr [(Value.agg #[(Value.int .i64 g0_v_0), (Value.int .i64 g0_v_1), (Value.float .f64 g0_v_2), (Value.string g0_v_3)]), (Value.int .i64 g1_n)]) h = F_liverylaw03_KeyMakes g0_v_0 g0_v_1 g0_v_2 g0_v_3 g1_n h Q := by kernel_rfl
theorem O_liverylaw03_KeyMakes (g0_v_0 : Int) (g0_v_1 : Int) (g0_v_2 : Nat) (g0_v_3 : ByteArray) (g1_n : Int) {h : Hp} {Q : List Value → Hp → Prop} (H : F_liverylaw03_KeyMakes g0_v_0 g0_v_1 g0_v_2 g0_v_3 g1_n h Q) : S_liverylaw03_KeyMakes g0_v_0 g0_v_1 g0_v_2 g0_v_3 g1_n h Q :=
  fn_of_cw (hs := (fun _ => [])) (ann := A_liverylaw03_KeyMakes) (args := [(Value.agg #[(Value.int .i64 g0_v_0), (Value.int .i64 g0_v_1), (Value.float .f64 g0_v_2), (Value.string g0_v_3)]), (Value.int .i64 g1_n)]) mixedPP Tryd.func7 (c := bodyOf Tryd.f7) (by kernel_rfl) (by kernel_rfl) (by kernel_rfl) (Eq.mpr (E_liverylaw03_KeyMakes g0_v_0 g0_v_1 g0_v_2 g0_v_3 g1_n h Q) H)
def F_liverylaw03_KeyBetween (g0_a_0 : Int) (g0_a_1 : Int) (g0_a_2 : Nat) (g0_a_3 : ByteArray) (g1_b_0 : Int) (g1_b_1 : Int) (g1_b_2 : Nat) (g1_b_3 : ByteArray) (g2_n : Int) (h : Hp) (Q : List Value → Hp → Prop) : Prop :=
wth (Array.push h (Obj.cells #[(Value.int .i64 g0_a_0), (Value.int .i64 g0_a_1), (Value.float .f64 g0_a_2), (Value.string g0_a_3)] T_api_Value)) fun h1 =>
wth (Array.push h1 (Obj.cells #[(Value.int .i64 g1_b_0), (Value.int .i64 g1_b_1), (Value.float .f64 g1_b_2), (Value.string g1_b_3)] T_api_Value)) fun h2 =>
∀ J3 : List Value → Hp → Prop, (∀ b4 : Bool, ∀ h5 : Hp, ((if b4 = true then
      (S_liverylaw03_wakes  h5 fun (vs6 : List Value) (h7 : Hp) =>
        ∃ b8 : Bool, vs6 = [(Value.bool b8)] ∧
        Q [(Value.bool b8)] h7) else
      (∃ n9 : Int, rd h5 (Addr.add (Addr.mk (Array.size h) 0 none) 0) = some (Value.int .i64 n9) ∧ ∃ n10 : Int, rd h5 (Addr.add (Addr.mk (Array.size h) 0 none) 1) = some (Value.int .i64 n10) ∧ ∃ x11 : Nat, rd h5 (Addr.add (Addr.mk (Array.size h) 0 none) 2) = some (Value.float .f64 x11) ∧ ∃ s12 : ByteArray, rd h5 (Addr.add (Addr.mk (Array.size h) 0 none) 3) = some (Value.string s12) ∧ S_key_Least n9 n10 x11 s12 h5 fun (vs13 : List Value) (h14 : Hp) =>
        ∃ s15 : ByteArray, ∃ n16 : Int, vs13 = [(Value.string s15), (Value.int .i64 n16)] ∧
        ∃ n17 : Int, rd h14 (Addr.add (Addr.mk (Array.size h) 0 none) 0) = some (Value.int .i64 n17) ∧ ∃ n18 : Int, rd h14 (Addr.add (Addr.mk (Array.size h) 0 none) 1) = some (Value.int .i64 n18) ∧ ∃ x19 : Nat, rd h14 (Addr.add (Addr.mk (Array.size h) 0 none) 2) = some (Value.float .f64 x19) ∧ ∃ s20 : ByteArray, rd h14 (Addr.add (Addr.mk (Array.size h) 0 none) 3) = some (Value.string s20) ∧ S_key_After n17 n18 x19 s20 h14 fun (vs21 : List Value) (h22 : Hp) =>
        ∃ s23 : ByteArray, ∃ n24 : Int, vs21 = [(Value.string s23), (Value.int .i64 n24)] ∧
        ∃ n25 : Int, rd h22 (Addr.add (Addr.mk (Array.size h) 0 none) 0) = some (Value.int .i64 n25) ∧ ∃ n26 : Int, rd h22 (Addr.add (Addr.mk (Array.size h) 0 none) 1) = some (Value.int .i64 n26) ∧ ∃ x27 : Nat, rd h22 (Addr.add (Addr.mk (Array.size h) 0 none) 2) = some (Value.float .f64 x27) ∧ ∃ s28 : ByteArray, rd h22 (Addr.add (Addr.mk (Array.size h) 0 none) 3) = some (Value.string s28) ∧ S_key_Entry n25 n26 x27 s28 (IntKind.wrap .i64 g2_n) h22 fun (vs29 : List Value) (h30 : Hp) =>
        ∃ s31 : ByteArray, ∃ n32 : Int, vs29 = [(Value.string s31), (Value.int .i64 n32)] ∧
        ∃ n33 : Int, rd h30 (Addr.add (Addr.mk (Array.size h1) 0 none) 0) = some (Value.int .i64 n33) ∧ ∃ n34 : Int, rd h30 (Addr.add (Addr.mk (Array.size h1) 0 none) 1) = some (Value.int .i64 n34) ∧ ∃ x35 : Nat, rd h30 (Addr.add (Addr.mk (Array.size h1) 0 none) 2) = some (Value.float .f64 x35) ∧ ∃ s36 : ByteArray, rd h30 (Addr.add (Addr.mk (Array.size h1) 0 none) 3) = some (Value.string s36) ∧ S_key_Entry n33 n34 x35 s36 (IntKind.wrap .i64 g2_n) h30 fun (vs37 : List Value) (h38 : Hp) =>
        ∃ s39 : ByteArray, ∃ n40 : Int, vs37 = [(Value.string s39), (Value.int .i64 n40)] ∧
        ∀ J41 : List Value → Hp → Prop, (∀ b42 : Bool, ∀ h43 : Hp, ((if b42 = true then
              (Q [(Value.bool false)] h43) else
              ((if (Op.bytesLess (ByteArray.toList s15) (ByteArray.toList s39) || (ByteArray.toList s15) == (ByteArray.toList s39)) = true then (∃ n44 : Int, rd h43 (Addr.add (Addr.mk (Array.size h) 0 none) 0) = some (Value.int .i64 n44) ∧ ∃ n45 : Int, rd h43 (Addr.add (Addr.mk (Array.size h) 0 none) 1) = some (Value.int .i64 n45) ∧ ∃ x46 : Nat, rd h43 (Addr.add (Addr.mk (Array.size h) 0 none) 2) = some (Value.float .f64 x46) ∧ ∃ s47 : ByteArray, rd h43 (Addr.add (Addr.mk (Array.size h) 0 none) 3) = some (Value.string s47) ∧ ∃ n48 : Int, rd h43 (Addr.add (Addr.mk (Array.size h1) 0 none) 0) = some (Value.int .i64 n48) ∧ ∃ n49 : Int, rd h43 (Addr.add (Addr.mk (Array.size h1) 0 none) 1) = some (Value.int .i64 n49) ∧ ∃ x50 : Nat, rd h43 (Addr.add (Addr.mk (Array.size h1) 0 none) 2) = some (Value.float .f64 x50) ∧ ∃ s51 : ByteArray, rd h43 (Addr.add (Addr.mk (Array.size h1) 0 none) 3) = some (Value.string s51) ∧ S_liveryref02_Compare n44 n45 x46 s47 n48 n49 x50 s51 h43 fun (vs52 : List Value) (h53 : Hp) =>
                    ∃ n54 : Int, vs52 = [(Value.int .i64 n54)] ∧
                    (if ((Op.bytesLess (ByteArray.toList s39) (ByteArray.toList s23)) == (n54 == (0 : Int))) = true then (S_liverylaw03_wakes  h53 fun (vs55 : List Value) (h56 : Hp) =>
                        ∃ b57 : Bool, vs55 = [(Value.bool b57)] ∧
                        Q [(Value.bool b57)] h56) else
                      (Q [(Value.bool false)] h53))) else
                  (∃ n58 : Int, rd h43 (Addr.add (Addr.mk (Array.size h) 0 none) 0) = some (Value.int .i64 n58) ∧ ∃ n59 : Int, rd h43 (Addr.add (Addr.mk (Array.size h) 0 none) 1) = some (Value.int .i64 n59) ∧ ∃ x60 : Nat, rd h43 (Addr.add (Addr.mk (Array.size h) 0 none) 2) = some (Value.float .f64 x60) ∧ ∃ s61 : ByteArray, rd h43 (Addr.add (Addr.mk (Array.size h) 0 none) 3) = some (Value.string s61) ∧ ∃ n62 : Int, rd h43 (Addr.add (Addr.mk (Array.size h1) 0 none) 0) = some (Value.int .i64 n62) ∧ ∃ n63 : Int, rd h43 (Addr.add (Addr.mk (Array.size h1) 0 none) 1) = some (Value.int .i64 n63) ∧ ∃ x64 : Nat, rd h43 (Addr.add (Addr.mk (Array.size h1) 0 none) 2) = some (Value.float .f64 x64) ∧ ∃ s65 : ByteArray, rd h43 (Addr.add (Addr.mk (Array.size h1) 0 none) 3) = some (Value.string s65) ∧ S_liveryref02_Compare n58 n59 x60 s61 n62 n63 x64 s65 h43 fun (vs66 : List Value) (h67 : Hp) =>
                    ∃ n68 : Int, vs66 = [(Value.int .i64 n68)] ∧
                    (if (false == (n68 == (0 : Int))) = true then (S_liverylaw03_wakes  h67 fun (vs69 : List Value) (h70 : Hp) =>
                        ∃ b71 : Bool, vs69 = [(Value.bool b71)] ∧
                        Q [(Value.bool b71)] h70) else
                      (Q [(Value.bool false)] h67))))))) → J41 [(Value.bool b42)] h43) →
        (if (n16 != (0 : Int)) = true then (J41 [(Value.bool true)] h38) else
          ((if (n24 != (0 : Int)) = true then (J41 [(Value.bool true)] h38) else
              ((if (n32 != (0 : Int)) = true then (J41 [(Value.bool true)] h38) else
                  ((if (n40 != (0 : Int)) = true then (J41 [(Value.bool true)] h38) else
                      ((if (Op.bytesLess (ByteArray.toList s15) (ByteArray.toList s31) || (ByteArray.toList s15) == (ByteArray.toList s31)) = true then (J41 [(Value.bool (!(Op.bytesLess (ByteArray.toList s31) (ByteArray.toList s23))))] h38) else
                          (J41 [(Value.bool true)] h38))))))))))))) → J3 [(Value.bool b4)] h5) →
∃ n72 : Int, rd h2 (Addr.add (Addr.mk (Array.size h) 0 none) 0) = some (Value.int .i64 n72) ∧ ∃ n73 : Int, rd h2 (Addr.add (Addr.mk (Array.size h) 0 none) 1) = some (Value.int .i64 n73) ∧ ∃ x74 : Nat, rd h2 (Addr.add (Addr.mk (Array.size h) 0 none) 2) = some (Value.float .f64 x74) ∧ ∃ s75 : ByteArray, rd h2 (Addr.add (Addr.mk (Array.size h) 0 none) 3) = some (Value.string s75) ∧ S_liveryref02_Good n72 n73 x74 s75 h2 fun (vs76 : List Value) (h77 : Hp) =>
∃ b78 : Bool, vs76 = [(Value.bool b78)] ∧
(if (!b78) = true then (J3 [(Value.bool true)] h77) else
  (∃ n79 : Int, rd h77 (Addr.add (Addr.mk (Array.size h1) 0 none) 0) = some (Value.int .i64 n79) ∧ ∃ n80 : Int, rd h77 (Addr.add (Addr.mk (Array.size h1) 0 none) 1) = some (Value.int .i64 n80) ∧ ∃ x81 : Nat, rd h77 (Addr.add (Addr.mk (Array.size h1) 0 none) 2) = some (Value.float .f64 x81) ∧ ∃ s82 : ByteArray, rd h77 (Addr.add (Addr.mk (Array.size h1) 0 none) 3) = some (Value.string s82) ∧ S_liveryref02_Good n79 n80 x81 s82 h77 fun (vs83 : List Value) (h84 : Hp) =>
    ∃ b85 : Bool, vs83 = [(Value.bool b85)] ∧
    J3 [(Value.bool (!b85))] h84))
def A_liverylaw03_KeyBetween : Ann := (.mk none ⟨[], []⟩ .nil (.mk none ⟨[], []⟩ (.mk none ⟨[], []⟩ (.mk (some ⟨[2, 3, 4], [(22, (.c .bool))]⟩) ⟨[], []⟩ .nil .nil) .nil) (.mk none ⟨[], []⟩ .nil (.mk none ⟨[], []⟩ .nil (.mk none ⟨[], []⟩ .nil (.mk none ⟨[], []⟩ .nil (.mk none ⟨[], []⟩ (.mk none ⟨[], []⟩ (.mk (some ⟨[3, 4, 7, 9, 13], [(72, (.c .bool))]⟩) ⟨[], []⟩ .nil .nil) .nil) .nil)))))))
theorem E_liverylaw03_KeyBetween (g0_a_0 : Int) (g0_a_1 : Int) (g0_a_2 : Nat) (g0_a_3 : ByteArray) (g1_b_0 : Int) (g1_b_1 : Int) (g1_b_2 : Nat) (g1_b_3 : ByteArray) (g2_n : Int) (h : Hp) (Q : List Value → Hp → Prop) : cw PP 89 (fun _ => []) (bodyOf Tryd.f8) A_liverylaw03_KeyBetween (finQ PP (Tryd.f8.results.toList) Q) (argFr [(Value.agg #[(Value.int .i64 g0_a_0), (Value.int .i64 g0_a_1), (Value.float .f64 g0_a_2), (Value.string g0_a_3)]), (Value.agg #[(Value.int .i64 g1_b_0), (Value.int .i64 g1_b_1), (Value.float .f64 g1_b_2), (Value.string g1_b_3)]), (Value.int .u16 g2_n)]) h = F_liverylaw03_KeyBetween g0_a_0 g0_a_1 g0_a_2 g0_a_3 g1_b_0 g1_b_1 g1_b_2 g1_b_3 g2_n h Q := by kernel_rfl
theorem O_liverylaw03_KeyBetween (g0_a_0 : Int) (g0_a_1 : Int) (g0_a_2 : Nat) (g0_a_3 : ByteArray) (g1_b_0 : Int) (g1_b_1 : Int) (g1_b_2 : Nat) (g1_b_3 : ByteArray) (g2_n : Int) {h : Hp} {Q : List Value → Hp → Prop} (H : F_liverylaw03_KeyBetween g0_a_0 g0_a_1 g0_a_2 g0_a_3 g1_b_0 g1_b_1 g1_b_2 g1_b_3 g2_n h Q) : S_liverylaw03_KeyBetween g0_a_0 g0_a_1 g0_a_2 g0_a_3 g1_b_0 g1_b_1 g1_b_2 g1_b_3 g2_n h Q :=
  fn_of_cw (hs := (fun _ => [])) (ann := A_liverylaw03_KeyBetween) (args := [(Value.agg #[(Value.int .i64 g0_a_0), (Value.int .i64 g0_a_1), (Value.float .f64 g0_a_2), (Value.string g0_a_3)]), (Value.agg #[(Value.int .i64 g1_b_0), (Value.int .i64 g1_b_1), (Value.float .f64 g1_b_2), (Value.string g1_b_3)]), (Value.int .u16 g2_n)]) mixedPP Tryd.func8 (c := bodyOf Tryd.f8) (by kernel_rfl) (by kernel_rfl) (by kernel_rfl) (Eq.mpr (E_liverylaw03_KeyBetween g0_a_0 g0_a_1 g0_a_2 g0_a_3 g1_b_0 g1_b_1 g1_b_2 g1_b_3 g2_n h Q) H)
def F_value_own_bare (g0_v_0 : Int) (g0_v_1 : Int) (g0_v_2 : Nat) (g0_v_3 : ByteArray) (g1_n : Bool) (g2_f : Bool) (g3_s : Bool) (h : Hp) (Q : List Value → Hp → Prop) : Prop :=
wth (Array.push h (Obj.cells #[(Value.int .i64 g0_v_0), (Value.int .i64 g0_v_1), (Value.float .f64 g0_v_2), (Value.string g0_v_3)] T_value_own)) fun h1 =>
(if g1_n = true then ((if g2_f = true then ((if g3_s = true then (Q [(Value.bool true)] h1) else
          (∃ s2 : ByteArray, rd h1 (Addr.add (Addr.mk (Array.size h) 0 none) 3) = some (Value.string s2) ∧
            Q [(Value.bool ((ByteArray.toList s2) == (ByteArray.toList (ByteArray.mk #[]))))] h1))) else
      (∃ x3 : Nat, rd h1 (Addr.add (Addr.mk (Array.size h) 0 none) 2) = some (Value.float .f64 x3) ∧
        S_math_Float64bits x3 h1 fun (vs4 : List Value) (h5 : Hp) =>
        ∃ n6 : Int, vs4 = [(Value.int .u64 n6)] ∧
        (if (n6 == (0 : Int)) = true then ((if g3_s = true then (Q [(Value.bool true)] h5) else
              (∃ s7 : ByteArray, rd h5 (Addr.add (Addr.mk (Array.size h) 0 none) 3) = some (Value.string s7) ∧
                Q [(Value.bool ((ByteArray.toList s7) == (ByteArray.toList (ByteArray.mk #[]))))] h5))) else
          (Q [(Value.bool false)] h5))))) else
  (∃ n8 : Int, rd h1 (Addr.add (Addr.mk (Array.size h) 0 none) 1) = some (Value.int .i64 n8) ∧
    (if (n8 == (0 : Int)) = true then ((if g2_f = true then ((if g3_s = true then (Q [(Value.bool true)] h1) else
              (∃ s9 : ByteArray, rd h1 (Addr.add (Addr.mk (Array.size h) 0 none) 3) = some (Value.string s9) ∧
                Q [(Value.bool ((ByteArray.toList s9) == (ByteArray.toList (ByteArray.mk #[]))))] h1))) else
          (∃ x10 : Nat, rd h1 (Addr.add (Addr.mk (Array.size h) 0 none) 2) = some (Value.float .f64 x10) ∧
            S_math_Float64bits x10 h1 fun (vs11 : List Value) (h12 : Hp) =>
            ∃ n13 : Int, vs11 = [(Value.int .u64 n13)] ∧
            (if (n13 == (0 : Int)) = true then ((if g3_s = true then (Q [(Value.bool true)] h12) else
                  (∃ s14 : ByteArray, rd h12 (Addr.add (Addr.mk (Array.size h) 0 none) 3) = some (Value.string s14) ∧
                    Q [(Value.bool ((ByteArray.toList s14) == (ByteArray.toList (ByteArray.mk #[]))))] h12))) else
              (Q [(Value.bool false)] h12))))) else
      (Q [(Value.bool false)] h1))))
def A_value_own_bare : Ann := .nil
theorem E_value_own_bare (g0_v_0 : Int) (g0_v_1 : Int) (g0_v_2 : Nat) (g0_v_3 : ByteArray) (g1_n : Bool) (g2_f : Bool) (g3_s : Bool) (h : Hp) (Q : List Value → Hp → Prop) : cw PP 32 (fun _ => []) (bodyOf Tryd.f57) A_value_own_bare (finQ PP (Tryd.f57.results.toList) Q) (argFr [(Value.agg #[(Value.int .i64 g0_v_0), (Value.int .i64 g0_v_1), (Value.float .f64 g0_v_2), (Value.string g0_v_3)]), (Value.bool g1_n), (Value.bool g2_f), (Value.bool g3_s)]) h = F_value_own_bare g0_v_0 g0_v_1 g0_v_2 g0_v_3 g1_n g2_f g3_s h Q := by kernel_rfl
theorem O_value_own_bare (g0_v_0 : Int) (g0_v_1 : Int) (g0_v_2 : Nat) (g0_v_3 : ByteArray) (g1_n : Bool) (g2_f : Bool) (g3_s : Bool) {h : Hp} {Q : List Value → Hp → Prop} (H : F_value_own_bare g0_v_0 g0_v_1 g0_v_2 g0_v_3 g1_n g2_f g3_s h Q) : S_value_own_bare g0_v_0 g0_v_1 g0_v_2 g0_v_3 g1_n g2_f g3_s h Q :=
  fn_of_cw (hs := (fun _ => [])) (ann := A_value_own_bare) (args := [(Value.agg #[(Value.int .i64 g0_v_0), (Value.int .i64 g0_v_1), (Value.float .f64 g0_v_2), (Value.string g0_v_3)]), (Value.bool g1_n), (Value.bool g2_f), (Value.bool g3_s)]) mixedPP Tryd.func57 (c := bodyOf Tryd.f57) (by kernel_rfl) (by kernel_rfl) (by kernel_rfl) (Eq.mpr (E_value_own_bare g0_v_0 g0_v_1 g0_v_2 g0_v_3 g1_n g2_f g3_s h Q) H)
def F_value_own_null (g0_v_0 : Int) (g0_v_1 : Int) (g0_v_2 : Nat) (g0_v_3 : ByteArray) (h : Hp) (Q : List Value → Hp → Prop) : Prop :=
wth (Array.push h (Obj.cells #[(Value.int .i64 g0_v_0), (Value.int .i64 g0_v_1), (Value.float .f64 g0_v_2), (Value.string g0_v_3)] T_value_own)) fun h1 =>
∃ n2 : Int, rd h1 (Addr.add (Addr.mk (Array.size h) 0 none) 0) = some (Value.int .i64 n2) ∧ ∃ n3 : Int, rd h1 (Addr.add (Addr.mk (Array.size h) 0 none) 1) = some (Value.int .i64 n3) ∧ ∃ x4 : Nat, rd h1 (Addr.add (Addr.mk (Array.size h) 0 none) 2) = some (Value.float .f64 x4) ∧ ∃ s5 : ByteArray, rd h1 (Addr.add (Addr.mk (Array.size h) 0 none) 3) = some (Value.string s5) ∧ S_value_own_bare n2 n3 x4 s5 false false false h1 fun (vs6 : List Value) (h7 : Hp) =>
∃ b8 : Bool, vs6 = [(Value.bool b8)] ∧
Q [(Value.bool b8)] h7
def A_value_own_null : Ann := .nil
theorem E_value_own_null (g0_v_0 : Int) (g0_v_1 : Int) (g0_v_2 : Nat) (g0_v_3 : ByteArray) (h : Hp) (Q : List Value → Hp → Prop) : cw PP 5 (fun _ => []) (bodyOf Tryd.f40) A_value_own_null (finQ PP (Tryd.f40.results.toList) Q) (argFr [(Value.agg #[(Value.int .i64 g0_v_0), (Value.int .i64 g0_v_1), (Value.float .f64 g0_v_2), (Value.string g0_v_3)])]) h = F_value_own_null g0_v_0 g0_v_1 g0_v_2 g0_v_3 h Q := by kernel_rfl
theorem O_value_own_null (g0_v_0 : Int) (g0_v_1 : Int) (g0_v_2 : Nat) (g0_v_3 : ByteArray) {h : Hp} {Q : List Value → Hp → Prop} (H : F_value_own_null g0_v_0 g0_v_1 g0_v_2 g0_v_3 h Q) : S_value_own_null g0_v_0 g0_v_1 g0_v_2 g0_v_3 h Q :=
  fn_of_cw (hs := (fun _ => [])) (ann := A_value_own_null) (args := [(Value.agg #[(Value.int .i64 g0_v_0), (Value.int .i64 g0_v_1), (Value.float .f64 g0_v_2), (Value.string g0_v_3)])]) mixedPP Tryd.func40 (c := bodyOf Tryd.f40) (by kernel_rfl) (by kernel_rfl) (by kernel_rfl) (Eq.mpr (E_value_own_null g0_v_0 g0_v_1 g0_v_2 g0_v_3 h Q) H)
def F_value_own_bool (g0_v_0 : Int) (g0_v_1 : Int) (g0_v_2 : Nat) (g0_v_3 : ByteArray) (h : Hp) (Q : List Value → Hp → Prop) : Prop :=
wth (Array.push h (Obj.cells #[(Value.int .i64 g0_v_0), (Value.int .i64 g0_v_1), (Value.float .f64 g0_v_2), (Value.string g0_v_3)] T_value_own)) fun h1 =>
∃ n2 : Int, rd h1 (Addr.add (Addr.mk (Array.size h) 0 none) 0) = some (Value.int .i64 n2) ∧ ∃ n3 : Int, rd h1 (Addr.add (Addr.mk (Array.size h) 0 none) 1) = some (Value.int .i64 n3) ∧ ∃ x4 : Nat, rd h1 (Addr.add (Addr.mk (Array.size h) 0 none) 2) = some (Value.float .f64 x4) ∧ ∃ s5 : ByteArray, rd h1 (Addr.add (Addr.mk (Array.size h) 0 none) 3) = some (Value.string s5) ∧ S_value_own_bare n2 n3 x4 s5 true false false h1 fun (vs6 : List Value) (h7 : Hp) =>
∃ b8 : Bool, vs6 = [(Value.bool b8)] ∧
(if b8 = true then (∃ n9 : Int, rd h7 (Addr.add (Addr.mk (Array.size h) 0 none) 1) = some (Value.int .i64 n9) ∧
    (if (n9 == (0 : Int)) = true then (Q [(Value.bool true)] h7) else
      (∃ n10 : Int, rd h7 (Addr.add (Addr.mk (Array.size h) 0 none) 1) = some (Value.int .i64 n10) ∧
        Q [(Value.bool (n10 == (1 : Int)))] h7))) else
  (Q [(Value.bool false)] h7))
def A_value_own_bool : Ann := .nil
theorem E_value_own_bool (g0_v_0 : Int) (g0_v_1 : Int) (g0_v_2 : Nat) (g0_v_3 : ByteArray) (h : Hp) (Q : List Value → Hp → Prop) : cw PP 15 (fun _ => []) (bodyOf Tryd.f41) A_value_own_bool (finQ PP (Tryd.f41.results.toList) Q) (argFr [(Value.agg #[(Value.int .i64 g0_v_0), (Value.int .i64 g0_v_1), (Value.float .f64 g0_v_2), (Value.string g0_v_3)])]) h = F_value_own_bool g0_v_0 g0_v_1 g0_v_2 g0_v_3 h Q := by kernel_rfl
theorem O_value_own_bool (g0_v_0 : Int) (g0_v_1 : Int) (g0_v_2 : Nat) (g0_v_3 : ByteArray) {h : Hp} {Q : List Value → Hp → Prop} (H : F_value_own_bool g0_v_0 g0_v_1 g0_v_2 g0_v_3 h Q) : S_value_own_bool g0_v_0 g0_v_1 g0_v_2 g0_v_3 h Q :=
  fn_of_cw (hs := (fun _ => [])) (ann := A_value_own_bool) (args := [(Value.agg #[(Value.int .i64 g0_v_0), (Value.int .i64 g0_v_1), (Value.float .f64 g0_v_2), (Value.string g0_v_3)])]) mixedPP Tryd.func41 (c := bodyOf Tryd.f41) (by kernel_rfl) (by kernel_rfl) (by kernel_rfl) (Eq.mpr (E_value_own_bool g0_v_0 g0_v_1 g0_v_2 g0_v_3 h Q) H)
def F_value_own_int (g0_v_0 : Int) (g0_v_1 : Int) (g0_v_2 : Nat) (g0_v_3 : ByteArray) (h : Hp) (Q : List Value → Hp → Prop) : Prop :=
wth (Array.push h (Obj.cells #[(Value.int .i64 g0_v_0), (Value.int .i64 g0_v_1), (Value.float .f64 g0_v_2), (Value.string g0_v_3)] T_value_own)) fun h1 =>
∃ n2 : Int, rd h1 (Addr.add (Addr.mk (Array.size h) 0 none) 0) = some (Value.int .i64 n2) ∧ ∃ n3 : Int, rd h1 (Addr.add (Addr.mk (Array.size h) 0 none) 1) = some (Value.int .i64 n3) ∧ ∃ x4 : Nat, rd h1 (Addr.add (Addr.mk (Array.size h) 0 none) 2) = some (Value.float .f64 x4) ∧ ∃ s5 : ByteArray, rd h1 (Addr.add (Addr.mk (Array.size h) 0 none) 3) = some (Value.string s5) ∧ S_value_own_bare n2 n3 x4 s5 true false false h1 fun (vs6 : List Value) (h7 : Hp) =>
∃ b8 : Bool, vs6 = [(Value.bool b8)] ∧
Q [(Value.bool b8)] h7
def A_value_own_int : Ann := .nil
theorem E_value_own_int (g0_v_0 : Int) (g0_v_1 : Int) (g0_v_2 : Nat) (g0_v_3 : ByteArray) (h : Hp) (Q : List Value → Hp → Prop) : cw PP 5 (fun _ => []) (bodyOf Tryd.f42) A_value_own_int (finQ PP (Tryd.f42.results.toList) Q) (argFr [(Value.agg #[(Value.int .i64 g0_v_0), (Value.int .i64 g0_v_1), (Value.float .f64 g0_v_2), (Value.string g0_v_3)])]) h = F_value_own_int g0_v_0 g0_v_1 g0_v_2 g0_v_3 h Q := by kernel_rfl
theorem O_value_own_int (g0_v_0 : Int) (g0_v_1 : Int) (g0_v_2 : Nat) (g0_v_3 : ByteArray) {h : Hp} {Q : List Value → Hp → Prop} (H : F_value_own_int g0_v_0 g0_v_1 g0_v_2 g0_v_3 h Q) : S_value_own_int g0_v_0 g0_v_1 g0_v_2 g0_v_3 h Q :=
  fn_of_cw (hs := (fun _ => [])) (ann := A_value_own_int) (args := [(Value.agg #[(Value.int .i64 g0_v_0), (Value.int .i64 g0_v_1), (Value.float .f64 g0_v_2), (Value.string g0_v_3)])]) mixedPP Tryd.func42 (c := bodyOf Tryd.f42) (by kernel_rfl) (by kernel_rfl) (by kernel_rfl) (Eq.mpr (E_value_own_int g0_v_0 g0_v_1 g0_v_2 g0_v_3 h Q) H)
def F_value_own_float (g0_v_0 : Int) (g0_v_1 : Int) (g0_v_2 : Nat) (g0_v_3 : ByteArray) (h : Hp) (Q : List Value → Hp → Prop) : Prop :=
wth (Array.push h (Obj.cells #[(Value.int .i64 g0_v_0), (Value.int .i64 g0_v_1), (Value.float .f64 g0_v_2), (Value.string g0_v_3)] T_value_own)) fun h1 =>
∃ n2 : Int, rd h1 (Addr.add (Addr.mk (Array.size h) 0 none) 0) = some (Value.int .i64 n2) ∧ ∃ n3 : Int, rd h1 (Addr.add (Addr.mk (Array.size h) 0 none) 1) = some (Value.int .i64 n3) ∧ ∃ x4 : Nat, rd h1 (Addr.add (Addr.mk (Array.size h) 0 none) 2) = some (Value.float .f64 x4) ∧ ∃ s5 : ByteArray, rd h1 (Addr.add (Addr.mk (Array.size h) 0 none) 3) = some (Value.string s5) ∧ S_value_own_bare n2 n3 x4 s5 false true false h1 fun (vs6 : List Value) (h7 : Hp) =>
∃ b8 : Bool, vs6 = [(Value.bool b8)] ∧
(if b8 = true then (∃ x9 : Nat, rd h7 (Addr.add (Addr.mk (Array.size h) 0 none) 2) = some (Value.float .f64 x9) ∧
    S_float_Is x9 h7 fun (vs10 : List Value) (h11 : Hp) =>
    ∃ b12 : Bool, vs10 = [(Value.bool b12)] ∧
    Q [(Value.bool b12)] h11) else
  (Q [(Value.bool false)] h7))
def A_value_own_float : Ann := .nil
theorem E_value_own_float (g0_v_0 : Int) (g0_v_1 : Int) (g0_v_2 : Nat) (g0_v_3 : ByteArray) (h : Hp) (Q : List Value → Hp → Prop) : cw PP 10 (fun _ => []) (bodyOf Tryd.f43) A_value_own_float (finQ PP (Tryd.f43.results.toList) Q) (argFr [(Value.agg #[(Value.int .i64 g0_v_0), (Value.int .i64 g0_v_1), (Value.float .f64 g0_v_2), (Value.string g0_v_3)])]) h = F_value_own_float g0_v_0 g0_v_1 g0_v_2 g0_v_3 h Q := by kernel_rfl
theorem O_value_own_float (g0_v_0 : Int) (g0_v_1 : Int) (g0_v_2 : Nat) (g0_v_3 : ByteArray) {h : Hp} {Q : List Value → Hp → Prop} (H : F_value_own_float g0_v_0 g0_v_1 g0_v_2 g0_v_3 h Q) : S_value_own_float g0_v_0 g0_v_1 g0_v_2 g0_v_3 h Q :=
  fn_of_cw (hs := (fun _ => [])) (ann := A_value_own_float) (args := [(Value.agg #[(Value.int .i64 g0_v_0), (Value.int .i64 g0_v_1), (Value.float .f64 g0_v_2), (Value.string g0_v_3)])]) mixedPP Tryd.func43 (c := bodyOf Tryd.f43) (by kernel_rfl) (by kernel_rfl) (by kernel_rfl) (Eq.mpr (E_value_own_float g0_v_0 g0_v_1 g0_v_2 g0_v_3 h Q) H)
def F_value_own_text (g0_v_0 : Int) (g0_v_1 : Int) (g0_v_2 : Nat) (g0_v_3 : ByteArray) (h : Hp) (Q : List Value → Hp → Prop) : Prop :=
wth (Array.push h (Obj.cells #[(Value.int .i64 g0_v_0), (Value.int .i64 g0_v_1), (Value.float .f64 g0_v_2), (Value.string g0_v_3)] T_value_own)) fun h1 =>
∃ n2 : Int, rd h1 (Addr.add (Addr.mk (Array.size h) 0 none) 0) = some (Value.int .i64 n2) ∧ ∃ n3 : Int, rd h1 (Addr.add (Addr.mk (Array.size h) 0 none) 1) = some (Value.int .i64 n3) ∧ ∃ x4 : Nat, rd h1 (Addr.add (Addr.mk (Array.size h) 0 none) 2) = some (Value.float .f64 x4) ∧ ∃ s5 : ByteArray, rd h1 (Addr.add (Addr.mk (Array.size h) 0 none) 3) = some (Value.string s5) ∧ S_value_own_bare n2 n3 x4 s5 false false true h1 fun (vs6 : List Value) (h7 : Hp) =>
∃ b8 : Bool, vs6 = [(Value.bool b8)] ∧
(if b8 = true then (∃ s9 : ByteArray, rd h7 (Addr.add (Addr.mk (Array.size h) 0 none) 3) = some (Value.string s9) ∧
    Q [(Value.bool (decide ((ByteArray.size s9 : Int) ≤ (256 : Int))))] h7) else
  (Q [(Value.bool false)] h7))
def A_value_own_text : Ann := .nil
theorem E_value_own_text (g0_v_0 : Int) (g0_v_1 : Int) (g0_v_2 : Nat) (g0_v_3 : ByteArray) (h : Hp) (Q : List Value → Hp → Prop) : cw PP 11 (fun _ => []) (bodyOf Tryd.f44) A_value_own_text (finQ PP (Tryd.f44.results.toList) Q) (argFr [(Value.agg #[(Value.int .i64 g0_v_0), (Value.int .i64 g0_v_1), (Value.float .f64 g0_v_2), (Value.string g0_v_3)])]) h = F_value_own_text g0_v_0 g0_v_1 g0_v_2 g0_v_3 h Q := by kernel_rfl
theorem O_value_own_text (g0_v_0 : Int) (g0_v_1 : Int) (g0_v_2 : Nat) (g0_v_3 : ByteArray) {h : Hp} {Q : List Value → Hp → Prop} (H : F_value_own_text g0_v_0 g0_v_1 g0_v_2 g0_v_3 h Q) : S_value_own_text g0_v_0 g0_v_1 g0_v_2 g0_v_3 h Q :=
  fn_of_cw (hs := (fun _ => [])) (ann := A_value_own_text) (args := [(Value.agg #[(Value.int .i64 g0_v_0), (Value.int .i64 g0_v_1), (Value.float .f64 g0_v_2), (Value.string g0_v_3)])]) mixedPP Tryd.func44 (c := bodyOf Tryd.f44) (by kernel_rfl) (by kernel_rfl) (by kernel_rfl) (Eq.mpr (E_value_own_text g0_v_0 g0_v_1 g0_v_2 g0_v_3 h Q) H)
end Go.Lift

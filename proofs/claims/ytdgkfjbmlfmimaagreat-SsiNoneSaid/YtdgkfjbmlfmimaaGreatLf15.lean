/- Printed by lift.py: each Go function of this seat as a Prop over the heap, and that the Go code comes to it. -/
import Derived.Test.YtdgkfjbmlfmimaaGreatLf15a
set_option linter.unusedSimpArgs false
set_option linter.unusedVariables false
namespace Go.Lift
open Go Go.Proofs
set_option maxRecDepth 100000
def F_ssi_Ssi_clean_1 (g0_x : Int) (g1_x : Addr) (h : Hp) (Q : List Value → Hp → Prop) : Prop :=
∃ p1 : Option Addr, rd h g1_x = some (Value.pointer p1) ∧
nilW p1 fun a2 => ∃ p3 : Option Addr, rd h (Addr.add a2 0) = some (Value.pointer p3) ∧
∃ p4 : Option Addr, rd h g1_x = some (Value.pointer p4) ∧
nilW p4 fun a5 => ∃ p6 : Option Addr, rd h (Addr.add a5 0) = some (Value.pointer p6) ∧
S_clog_Log_Csn p3 g0_x h fun (vs7 : List Value) (h8 : Hp) =>
∃ n9 : Int, vs7 = [(Value.int .i64 n9)] ∧
rd h8 (Addr.add a5 0) = some (Value.pointer p6) ∧ rd h8 g1_x = some (Value.pointer p4) ∧ S_clog_Log_Horizon p6 h8 fun (vs10 : List Value) (h11 : Hp) =>
∃ n12 : Int, vs10 = [(Value.int .i64 n12)] ∧
∀ J13 : List Value → Hp → Prop, (∀ h14 : Hp, (Q [(Value.bool (decide (n9 ≤ n12)))] h14) → J13 [] h14) →
(if (decide (n9 ≤ n12)) = true then
  (∃ p15 : Option Addr, rd h11 g1_x = some (Value.pointer p15) ∧
    nilW p15 fun a16 => ∃ p17 : Option Addr, rd h11 (Addr.add a16 1) = some (Value.pointer p17) ∧
    S_siread_Table_Drop p17 g0_x h11 fun (vs18 : List Value) (h19 : Hp) =>
    vs18 = [] ∧
    J13 [] h19) else
  (J13 [] h11))
def A_ssi_Ssi_clean_1 : Ann := (.mk none ⟨[], []⟩ .nil (.mk none ⟨[], []⟩ .nil (.mk none ⟨[], []⟩ (.mk none ⟨[], []⟩ .nil (.mk (some ⟨[4], []⟩) ⟨[], []⟩ .nil .nil)) .nil)))
theorem E_ssi_Ssi_clean_1 (g0_x : Int) (g1_x : Addr) (h : Hp) (Q : List Value → Hp → Prop) : cw PP 25 (fun _ => []) (bodyOf Tryz.f115) A_ssi_Ssi_clean_1 (finQ PP (Tryz.f115.results.toList) Q) (argFr [(Value.int .i64 g0_x), (Value.pointer (some g1_x))]) h = F_ssi_Ssi_clean_1 g0_x g1_x h Q := by kernel_rfl
theorem O_ssi_Ssi_clean_1 (g0_x : Int) (g1_x : Addr) {h : Hp} {Q : List Value → Hp → Prop} (H : F_ssi_Ssi_clean_1 g0_x g1_x h Q) : S_ssi_Ssi_clean_1 g0_x g1_x h Q :=
  fn_of_cw (hs := (fun _ => [])) (ann := A_ssi_Ssi_clean_1) (args := [(Value.int .i64 g0_x), (Value.pointer (some g1_x))]) mixedPP Tryz.func115 (c := bodyOf Tryz.f115) (by kernel_rfl) (by kernel_rfl) (by kernel_rfl) (Eq.mpr (E_ssi_Ssi_clean_1 g0_x g1_x h Q) H)
def F_siread_Table_Drop_1 (g0_x_0 : Int) (g0_x_1 : ByteArray) (g0_x_2 : Int) (g0_x_3 : ByteArray) (g0_x_4 : Int) (h : Hp) (Q : List Value → Hp → Prop) : Prop :=
wth (Array.push h (Obj.cells #[(Value.int .i64 g0_x_0), (Value.string g0_x_1), (Value.int .i64 g0_x_2), (Value.string g0_x_3), (Value.int .i64 g0_x_4)] T_siread_Thing)) fun h1 =>
Q [(Value.bool true)] h1
def A_siread_Table_Drop_1 : Ann := .nil
theorem E_siread_Table_Drop_1 (g0_x_0 : Int) (g0_x_1 : ByteArray) (g0_x_2 : Int) (g0_x_3 : ByteArray) (g0_x_4 : Int) (h : Hp) (Q : List Value → Hp → Prop) : cw PP 3 (fun _ => []) (bodyOf Tryz.f119) A_siread_Table_Drop_1 (finQ PP (Tryz.f119.results.toList) Q) (argFr [(Value.agg #[(Value.int .i64 g0_x_0), (Value.string g0_x_1), (Value.int .i64 g0_x_2), (Value.string g0_x_3), (Value.int .i64 g0_x_4)])]) h = F_siread_Table_Drop_1 g0_x_0 g0_x_1 g0_x_2 g0_x_3 g0_x_4 h Q := by kernel_rfl
theorem O_siread_Table_Drop_1 (g0_x_0 : Int) (g0_x_1 : ByteArray) (g0_x_2 : Int) (g0_x_3 : ByteArray) (g0_x_4 : Int) {h : Hp} {Q : List Value → Hp → Prop} (H : F_siread_Table_Drop_1 g0_x_0 g0_x_1 g0_x_2 g0_x_3 g0_x_4 h Q) : S_siread_Table_Drop_1 g0_x_0 g0_x_1 g0_x_2 g0_x_3 g0_x_4 h Q :=
  fn_of_cw (hs := (fun _ => [])) (ann := A_siread_Table_Drop_1) (args := [(Value.agg #[(Value.int .i64 g0_x_0), (Value.string g0_x_1), (Value.int .i64 g0_x_2), (Value.string g0_x_3), (Value.int .i64 g0_x_4)])]) mixedPP Tryz.func119 (c := bodyOf Tryz.f119) (by kernel_rfl) (by kernel_rfl) (by kernel_rfl) (Eq.mpr (E_siread_Table_Drop_1 g0_x_0 g0_x_1 g0_x_2 g0_x_3 g0_x_4 h Q) H)
def F_edge_Edges_Drop_1 (g0_x_0 : Int) (g0_x_1 : Int) (g1_x : Int) (g2_x : Addr) (h : Hp) (Q : List Value → Hp → Prop) : Prop :=
wth (Array.push h (Obj.cells #[(Value.int .i64 g0_x_0), (Value.int .i64 g0_x_1)] T_2_int)) fun h1 =>
ixOk (0 : Int) 2 (∃ n2 : Int, rd h1 (Addr.add (Addr.mk (Array.size h) 0 none) (Int.toNat (0 : Int) * 1)) = some (Value.int .i64 n2) ∧
  ∃ n3 : Int, rd h1 g2_x = some (Value.int .i64 n3) ∧
  (if (n2 == n3) = true then (Q [(Value.bool true)] h1) else
    (ixOk (1 : Int) 2 (∃ n4 : Int, rd h1 (Addr.add (Addr.mk (Array.size h) 0 none) (Int.toNat (1 : Int) * 1)) = some (Value.int .i64 n4) ∧
        ∃ n5 : Int, rd h1 g2_x = some (Value.int .i64 n5) ∧
        Q [(Value.bool (n4 == n5))] h1))))
def A_edge_Edges_Drop_1 : Ann := .nil
theorem E_edge_Edges_Drop_1 (g0_x_0 : Int) (g0_x_1 : Int) (g1_x : Int) (g2_x : Addr) (h : Hp) (Q : List Value → Hp → Prop) : cw PP 16 (fun _ => []) (bodyOf Tryz.f121) A_edge_Edges_Drop_1 (finQ PP (Tryz.f121.results.toList) Q) (argFr [(Value.agg #[(Value.int .i64 g0_x_0), (Value.int .i64 g0_x_1)]), (Value.int .i64 g1_x), (Value.pointer (some g2_x))]) h = F_edge_Edges_Drop_1 g0_x_0 g0_x_1 g1_x g2_x h Q := by kernel_rfl
theorem O_edge_Edges_Drop_1 (g0_x_0 : Int) (g0_x_1 : Int) (g1_x : Int) (g2_x : Addr) {h : Hp} {Q : List Value → Hp → Prop} (H : F_edge_Edges_Drop_1 g0_x_0 g0_x_1 g1_x g2_x h Q) : S_edge_Edges_Drop_1 g0_x_0 g0_x_1 g1_x g2_x h Q :=
  fn_of_cw (hs := (fun _ => [])) (ann := A_edge_Edges_Drop_1) (args := [(Value.agg #[(Value.int .i64 g0_x_0), (Value.int .i64 g0_x_1)]), (Value.int .i64 g1_x), (Value.pointer (some g2_x))]) mixedPP Tryz.func121 (c := bodyOf Tryz.f121) (by kernel_rfl) (by kernel_rfl) (by kernel_rfl) (Eq.mpr (E_edge_Edges_Drop_1 g0_x_0 g0_x_1 g1_x g2_x h Q) H)
def F_maps_Keys_map_2_int_int_2_int_int_1 (g0_yield_f : Nat) (g0_yield_c : Array Value) (g1_x : Addr) (h : Hp) (Q : List Value → Hp → Prop) : Prop :=
∃ r1 : Option Nat, rd h g1_x = some (Value.map r1) ∧
∃ o2 : Obj, IterOf h r1 o2 ∧ wth (Array.push h o2) fun h3 =>
∀ X4 : List Value → Hp → Prop, (∀ h5 : Hp, ((Addr.off (Addr.mk (Array.size h) 0 none) = 0 ∧ ∃ o6 : Obj, h5[Addr.block (Addr.mk (Array.size h) 0 none)]? = some o6 ∧ IterGood h5 o6 ∧
      (IterEnd h5 o6 → Q [] h5) ∧
      ∀ (k7 v8 : Value) (o9 : Obj), IterStep h5 o6 k7 v8 o9 → wth (Array.setIfInBounds h5 (Addr.block (Addr.mk (Array.size h) 0 none)) o9) fun h10 =>
      (Addr.off (Addr.mk (Array.size h) 0 none) = 0 ∧ ∃ (m11 n12 : Nat) (q13 : Array Nat) (n14 : Nat) (es15 : Array MapEntry) (c16 : Nat) (e17 : MapEntry), h10[Addr.block (Addr.mk (Array.size h) 0 none)]? = some (.mapIter (some m11) n12 q13 c16) ∧ Array.back? q13 = some n14 ∧ h10[m11]? = some (.map es15 c16) ∧ Array.find? (fun x => x.born == n14) es15 = some e17 ∧ ∃ n18 : Int, ∃ n19 : Int, e17.key = (Value.agg #[(Value.int .i64 n18), (Value.int .i64 n19)]) ∧ ∃ v20 : Value, e17.val = v20 ∧ wth (Array.push h10 (Obj.cells #[(Value.int .i64 (0 : Int)), (Value.int .i64 (0 : Int))] T_2_int)) fun h21 =>
        stOk h21 (Addr.mk (Array.size h10) 0 none) 2 ∧ wth (wrs h21 (Addr.mk (Array.size h10) 0 none) 0 [(Value.int .i64 n18), (Value.int .i64 n19)]) fun h22 =>
        ∃ n23 : Int, rd h22 (Addr.add (Addr.mk (Array.size h10) 0 none) 0) = some (Value.int .i64 n23) ∧ ∃ n24 : Int, rd h22 (Addr.add (Addr.mk (Array.size h10) 0 none) 1) = some (Value.int .i64 n24) ∧ Fn PP g0_yield_f ((#[] ++ #[(Value.agg #[(Value.int .i64 n23), (Value.int .i64 n24)])]) ++ g0_yield_c) h22 fun (vs25 : List Value) (h26 : Hp) =>
        ∃ b27 : Bool, vs25 = [(Value.bool b27)] ∧
        (if (!b27) = true then
          (Q [] h26) else
          (X4 [] h26))))) → X4 [] h5) →
X4 [] h3
def A_maps_Keys_map_2_int_int_2_int_int_1 : Ann := (.mk none ⟨[], []⟩ .nil (.mk none ⟨[], []⟩ (.mk none ⟨[0, 5], []⟩ .nil .nil) .nil))
theorem E_maps_Keys_map_2_int_int_2_int_int_1 (g0_yield_f : Nat) (g0_yield_c : Array Value) (g1_x : Addr) (h : Hp) (Q : List Value → Hp → Prop) : cw PP 14 (fun d => if d = 8 then [(.agg [(.int .i64), (.int .i64)]), (.c .any)] else []) (bodyOf Tryz.f124) A_maps_Keys_map_2_int_int_2_int_int_1 (finQ PP (Tryz.f124.results.toList) Q) (argFr [(Value.func (.func g0_yield_f) #[] g0_yield_c), (Value.pointer (some g1_x))]) h = F_maps_Keys_map_2_int_int_2_int_int_1 g0_yield_f g0_yield_c g1_x h Q := by kernel_rfl
theorem O_maps_Keys_map_2_int_int_2_int_int_1 (g0_yield_f : Nat) (g0_yield_c : Array Value) (g1_x : Addr) {h : Hp} {Q : List Value → Hp → Prop} (H : F_maps_Keys_map_2_int_int_2_int_int_1 g0_yield_f g0_yield_c g1_x h Q) : S_maps_Keys_map_2_int_int_2_int_int_1 g0_yield_f g0_yield_c g1_x h Q :=
  fn_of_cw (hs := (fun d => if d = 8 then [(.agg [(.int .i64), (.int .i64)]), (.c .any)] else [])) (ann := A_maps_Keys_map_2_int_int_2_int_int_1) (args := [(Value.func (.func g0_yield_f) #[] g0_yield_c), (Value.pointer (some g1_x))]) mixedPP Tryz.func124 (c := bodyOf Tryz.f124) (by kernel_rfl) (by kernel_rfl) (by kernel_rfl) (Eq.mpr (E_maps_Keys_map_2_int_int_2_int_int_1 g0_yield_f g0_yield_c g1_x h Q) H)
def F_maps_Keys_map_siread_Thing_int_siread_Thing_int_1 (g0_yield_f : Nat) (g0_yield_c : Array Value) (g1_x : Addr) (h : Hp) (Q : List Value → Hp → Prop) : Prop :=
∃ r1 : Option Nat, rd h g1_x = some (Value.map r1) ∧
∃ o2 : Obj, IterOf h r1 o2 ∧ wth (Array.push h o2) fun h3 =>
∀ X4 : List Value → Hp → Prop, (∀ h5 : Hp, ((Addr.off (Addr.mk (Array.size h) 0 none) = 0 ∧ ∃ o6 : Obj, h5[Addr.block (Addr.mk (Array.size h) 0 none)]? = some o6 ∧ IterGood h5 o6 ∧
      (IterEnd h5 o6 → Q [] h5) ∧
      ∀ (k7 v8 : Value) (o9 : Obj), IterStep h5 o6 k7 v8 o9 → wth (Array.setIfInBounds h5 (Addr.block (Addr.mk (Array.size h) 0 none)) o9) fun h10 =>
      (Addr.off (Addr.mk (Array.size h) 0 none) = 0 ∧ ∃ (m11 n12 : Nat) (q13 : Array Nat) (n14 : Nat) (es15 : Array MapEntry) (c16 : Nat) (e17 : MapEntry), h10[Addr.block (Addr.mk (Array.size h) 0 none)]? = some (.mapIter (some m11) n12 q13 c16) ∧ Array.back? q13 = some n14 ∧ h10[m11]? = some (.map es15 c16) ∧ Array.find? (fun x => x.born == n14) es15 = some e17 ∧ ∃ n18 : Int, ∃ s19 : ByteArray, ∃ n20 : Int, ∃ s21 : ByteArray, ∃ n22 : Int, e17.key = (Value.agg #[(Value.int .i64 n18), (Value.string s19), (Value.int .i64 n20), (Value.string s21), (Value.int .i64 n22)]) ∧ ∃ v23 : Value, e17.val = v23 ∧ wth (Array.push h10 (Obj.cells #[(Value.int .i64 (0 : Int)), (Value.string (ByteArray.mk #[])), (Value.int .i64 (0 : Int)), (Value.string (ByteArray.mk #[])), (Value.int .i64 (0 : Int))] T_siread_Thing)) fun h24 =>
        stOk h24 (Addr.mk (Array.size h10) 0 none) 5 ∧ wth (wrs h24 (Addr.mk (Array.size h10) 0 none) 0 [(Value.int .i64 n18), (Value.string s19), (Value.int .i64 n20), (Value.string s21), (Value.int .i64 n22)]) fun h25 =>
        ∃ n26 : Int, rd h25 (Addr.add (Addr.mk (Array.size h10) 0 none) 0) = some (Value.int .i64 n26) ∧ ∃ s27 : ByteArray, rd h25 (Addr.add (Addr.mk (Array.size h10) 0 none) 1) = some (Value.string s27) ∧ ∃ n28 : Int, rd h25 (Addr.add (Addr.mk (Array.size h10) 0 none) 2) = some (Value.int .i64 n28) ∧ ∃ s29 : ByteArray, rd h25 (Addr.add (Addr.mk (Array.size h10) 0 none) 3) = some (Value.string s29) ∧ ∃ n30 : Int, rd h25 (Addr.add (Addr.mk (Array.size h10) 0 none) 4) = some (Value.int .i64 n30) ∧ Fn PP g0_yield_f ((#[] ++ #[(Value.agg #[(Value.int .i64 n26), (Value.string s27), (Value.int .i64 n28), (Value.string s29), (Value.int .i64 n30)])]) ++ g0_yield_c) h25 fun (vs31 : List Value) (h32 : Hp) =>
        ∃ b33 : Bool, vs31 = [(Value.bool b33)] ∧
        (if (!b33) = true then
          (Q [] h32) else
          (X4 [] h32))))) → X4 [] h5) →
X4 [] h3
def A_maps_Keys_map_siread_Thing_int_siread_Thing_int_1 : Ann := (.mk none ⟨[], []⟩ .nil (.mk none ⟨[], []⟩ (.mk none ⟨[0, 5], []⟩ .nil .nil) .nil))
theorem E_maps_Keys_map_siread_Thing_int_siread_Thing_int_1 (g0_yield_f : Nat) (g0_yield_c : Array Value) (g1_x : Addr) (h : Hp) (Q : List Value → Hp → Prop) : cw PP 14 (fun d => if d = 8 then [(.agg [(.int .i64), .str, (.int .i64), .str, (.int .i64)]), (.c .any)] else []) (bodyOf Tryz.f128) A_maps_Keys_map_siread_Thing_int_siread_Thing_int_1 (finQ PP (Tryz.f128.results.toList) Q) (argFr [(Value.func (.func g0_yield_f) #[] g0_yield_c), (Value.pointer (some g1_x))]) h = F_maps_Keys_map_siread_Thing_int_siread_Thing_int_1 g0_yield_f g0_yield_c g1_x h Q := by kernel_rfl
theorem O_maps_Keys_map_siread_Thing_int_siread_Thing_int_1 (g0_yield_f : Nat) (g0_yield_c : Array Value) (g1_x : Addr) {h : Hp} {Q : List Value → Hp → Prop} (H : F_maps_Keys_map_siread_Thing_int_siread_Thing_int_1 g0_yield_f g0_yield_c g1_x h Q) : S_maps_Keys_map_siread_Thing_int_siread_Thing_int_1 g0_yield_f g0_yield_c g1_x h Q :=
  fn_of_cw (hs := (fun d => if d = 8 then [(.agg [(.int .i64), .str, (.int .i64), .str, (.int .i64)]), (.c .any)] else [])) (ann := A_maps_Keys_map_siread_Thing_int_siread_Thing_int_1) (args := [(Value.func (.func g0_yield_f) #[] g0_yield_c), (Value.pointer (some g1_x))]) mixedPP Tryz.func128 (c := bodyOf Tryz.f128) (by kernel_rfl) (by kernel_rfl) (by kernel_rfl) (Eq.mpr (E_maps_Keys_map_siread_Thing_int_siread_Thing_int_1 g0_yield_f g0_yield_c g1_x h Q) H)
def F_siread_Table_take_1 (g0_y_0 : Int) (g0_y_1 : ByteArray) (g0_y_2 : Int) (g0_y_3 : ByteArray) (g0_y_4 : Int) (g1_x : Addr) (h : Hp) (Q : List Value → Hp → Prop) : Prop :=
wth (Array.push h (Obj.cells #[(Value.int .i64 g0_y_0), (Value.string g0_y_1), (Value.int .i64 g0_y_2), (Value.string g0_y_3), (Value.int .i64 g0_y_4)] T_siread_Thing)) fun h1 =>
∃ n2 : Int, rd h1 (Addr.add (Addr.mk (Array.size h) 0 none) 0) = some (Value.int .i64 n2) ∧ ∃ s3 : ByteArray, rd h1 (Addr.add (Addr.mk (Array.size h) 0 none) 1) = some (Value.string s3) ∧ ∃ n4 : Int, rd h1 (Addr.add (Addr.mk (Array.size h) 0 none) 2) = some (Value.int .i64 n4) ∧ ∃ s5 : ByteArray, rd h1 (Addr.add (Addr.mk (Array.size h) 0 none) 3) = some (Value.string s5) ∧ ∃ n6 : Int, rd h1 (Addr.add (Addr.mk (Array.size h) 0 none) 4) = some (Value.int .i64 n6) ∧ S_siread_Thing_fine n2 s3 n4 s5 n6 h1 fun (vs7 : List Value) (h8 : Hp) =>
∃ b9 : Bool, vs7 = [(Value.bool b9)] ∧
(if b9 = true then (∃ n10 : Int, rd h8 (Addr.add (Addr.mk (Array.size h) 0 none) 2) = some (Value.int .i64 n10) ∧
    ∃ n11 : Int, rd h8 (Addr.add g1_x 2) = some (Value.int .i64 n11) ∧
    Q [(Value.bool (n10 == n11))] h8) else
  (Q [(Value.bool false)] h8))
def A_siread_Table_take_1 : Ann := .nil
theorem E_siread_Table_take_1 (g0_y_0 : Int) (g0_y_1 : ByteArray) (g0_y_2 : Int) (g0_y_3 : ByteArray) (g0_y_4 : Int) (g1_x : Addr) (h : Hp) (Q : List Value → Hp → Prop) : cw PP 13 (fun _ => []) (bodyOf Tryz.f150) A_siread_Table_take_1 (finQ PP (Tryz.f150.results.toList) Q) (argFr [(Value.agg #[(Value.int .i64 g0_y_0), (Value.string g0_y_1), (Value.int .i64 g0_y_2), (Value.string g0_y_3), (Value.int .i64 g0_y_4)]), (Value.pointer (some g1_x))]) h = F_siread_Table_take_1 g0_y_0 g0_y_1 g0_y_2 g0_y_3 g0_y_4 g1_x h Q := by kernel_rfl
theorem O_siread_Table_take_1 (g0_y_0 : Int) (g0_y_1 : ByteArray) (g0_y_2 : Int) (g0_y_3 : ByteArray) (g0_y_4 : Int) (g1_x : Addr) {h : Hp} {Q : List Value → Hp → Prop} (H : F_siread_Table_take_1 g0_y_0 g0_y_1 g0_y_2 g0_y_3 g0_y_4 g1_x h Q) : S_siread_Table_take_1 g0_y_0 g0_y_1 g0_y_2 g0_y_3 g0_y_4 g1_x h Q :=
  fn_of_cw (hs := (fun _ => [])) (ann := A_siread_Table_take_1) (args := [(Value.agg #[(Value.int .i64 g0_y_0), (Value.string g0_y_1), (Value.int .i64 g0_y_2), (Value.string g0_y_3), (Value.int .i64 g0_y_4)]), (Value.pointer (some g1_x))]) mixedPP Tryz.func150 (c := bodyOf Tryz.f150) (by kernel_rfl) (by kernel_rfl) (by kernel_rfl) (Eq.mpr (E_siread_Table_take_1 g0_y_0 g0_y_1 g0_y_2 g0_y_3 g0_y_4 g1_x h Q) H)
end Go.Lift

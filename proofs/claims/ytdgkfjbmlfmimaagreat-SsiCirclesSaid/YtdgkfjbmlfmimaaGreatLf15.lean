/- Printed by lift.py: each Go function of this seat as a Prop over the heap, and that the Go code comes to it. -/
import Derived.Test.YtdgkfjbmlfmimaaGreatLf15a
set_option linter.unusedSimpArgs false
set_option linter.unusedVariables false
namespace Go.Lift
open Go Go.Proofs
set_option maxRecDepth 100000
def F_liverylaw15_SsiNone (g0_x_0 : Int) (g0_x_1 : Int) (g0_x_2 : Int) (g0_x_3 : Bool) (g0_x_4 : Int) (g0_x_5 : ByteArray) (g0_x_6 : Int) (g0_x_7 : ByteArray) (g0_x_8 : Int) (h : Hp) (Q : List Value → Hp → Prop) : Prop :=
wth (Array.push h (Obj.cells #[(Value.int .i64 g0_x_0), (Value.int .i64 g0_x_1), (Value.int .i64 g0_x_2), (Value.bool g0_x_3), (Value.int .i64 g0_x_4), (Value.string g0_x_5), (Value.int .i64 g0_x_6), (Value.string g0_x_7), (Value.int .i64 g0_x_8)] T_liverylaw15_Step)) fun h1 =>
∃ n2 : Int, rd h1 (Addr.add (Addr.mk (Array.size h) 0 none) 0) = some (Value.int .i64 n2) ∧ ∃ n3 : Int, rd h1 (Addr.add (Addr.mk (Array.size h) 0 none) 1) = some (Value.int .i64 n3) ∧ ∃ n4 : Int, rd h1 (Addr.add (Addr.mk (Array.size h) 0 none) 2) = some (Value.int .i64 n4) ∧ ∃ b5 : Bool, rd h1 (Addr.add (Addr.mk (Array.size h) 0 none) 3) = some (Value.bool b5) ∧ ∃ n6 : Int, rd h1 (Addr.add (Addr.mk (Array.size h) 0 none) 4) = some (Value.int .i64 n6) ∧ ∃ s7 : ByteArray, rd h1 (Addr.add (Addr.mk (Array.size h) 0 none) 5) = some (Value.string s7) ∧ ∃ n8 : Int, rd h1 (Addr.add (Addr.mk (Array.size h) 0 none) 6) = some (Value.int .i64 n8) ∧ ∃ s9 : ByteArray, rd h1 (Addr.add (Addr.mk (Array.size h) 0 none) 7) = some (Value.string s9) ∧ ∃ n10 : Int, rd h1 (Addr.add (Addr.mk (Array.size h) 0 none) 8) = some (Value.int .i64 n10) ∧ wth (Array.push h1 (Obj.cells #[(Value.int .i64 n2), (Value.int .i64 n3), (Value.int .i64 n4), (Value.bool b5), (Value.int .i64 n6), (Value.string s7), (Value.int .i64 n8), (Value.string s9), (Value.int .i64 n10)] T_liverylaw15_Step)) fun h11 =>
S_liverylaw15_Fair ⟨(some (Addr.mk (Array.size h1) 0 none)), 1, 1⟩ h11 fun (vs12 : List Value) (h13 : Hp) =>
∃ b14 : Bool, vs12 = [(Value.bool b14)] ∧
(if (!b14) = true then
  (S_liverylaw15_wakes  h13 fun (vs15 : List Value) (h16 : Hp) =>
    ∃ b17 : Bool, vs15 = [(Value.bool b17)] ∧
    Q [(Value.bool b17)] h16) else
  (S_ssi_New none (1 : Int) (1 : Int) (1 : Int) h13 fun (vs18 : List Value) (h19 : Hp) =>
    ∃ p20 : Option Addr, ∃ n21 : Int, vs18 = [(Value.pointer p20), (Value.int .i64 n21)] ∧
    ∃ n22 : Int, rd h19 (Addr.add (Addr.mk (Array.size h) 0 none) 1) = some (Value.int .i64 n22) ∧
    ∃ n23 : Int, rd h19 (Addr.add (Addr.add (Addr.mk (Array.size h) 0 none) 4) 0) = some (Value.int .i64 n23) ∧ ∃ s24 : ByteArray, rd h19 (Addr.add (Addr.add (Addr.mk (Array.size h) 0 none) 4) 1) = some (Value.string s24) ∧ ∃ n25 : Int, rd h19 (Addr.add (Addr.add (Addr.mk (Array.size h) 0 none) 4) 2) = some (Value.int .i64 n25) ∧ ∃ s26 : ByteArray, rd h19 (Addr.add (Addr.add (Addr.mk (Array.size h) 0 none) 4) 3) = some (Value.string s26) ∧ ∃ n27 : Int, rd h19 (Addr.add (Addr.add (Addr.mk (Array.size h) 0 none) 4) 4) = some (Value.int .i64 n27) ∧ S_ssi_Ssi_Read none n22 n23 s24 n25 s26 n27 h19 fun (vs28 : List Value) (h29 : Hp) =>
    vs28 = [] ∧
    ∃ n30 : Int, rd h29 (Addr.add (Addr.mk (Array.size h) 0 none) 1) = some (Value.int .i64 n30) ∧
    ∃ n31 : Int, rd h29 (Addr.add (Addr.mk (Array.size h) 0 none) 2) = some (Value.int .i64 n31) ∧
    S_ssi_Ssi_Saw none n30 n31 h29 fun (vs32 : List Value) (h33 : Hp) =>
    vs32 = [] ∧
    ∃ n34 : Int, rd h33 (Addr.add (Addr.mk (Array.size h) 0 none) 1) = some (Value.int .i64 n34) ∧
    ∃ n35 : Int, rd h33 (Addr.add (Addr.add (Addr.mk (Array.size h) 0 none) 4) 0) = some (Value.int .i64 n35) ∧ ∃ s36 : ByteArray, rd h33 (Addr.add (Addr.add (Addr.mk (Array.size h) 0 none) 4) 1) = some (Value.string s36) ∧ ∃ n37 : Int, rd h33 (Addr.add (Addr.add (Addr.mk (Array.size h) 0 none) 4) 2) = some (Value.int .i64 n37) ∧ ∃ s38 : ByteArray, rd h33 (Addr.add (Addr.add (Addr.mk (Array.size h) 0 none) 4) 3) = some (Value.string s38) ∧ ∃ n39 : Int, rd h33 (Addr.add (Addr.add (Addr.mk (Array.size h) 0 none) 4) 4) = some (Value.int .i64 n39) ∧ S_ssi_Ssi_Wrote none n34 n35 s36 n37 s38 n39 h33 fun (vs40 : List Value) (h41 : Hp) =>
    vs40 = [] ∧
    ∃ b42 : Bool, rd h41 (Addr.add (Addr.mk (Array.size h) 0 none) 3) = some (Value.bool b42) ∧
    S_ssi_Ssi_Begin none b42 h41 fun (vs43 : List Value) (h44 : Hp) =>
    ∃ n45 : Int, ∃ n46 : Int, vs43 = [(Value.int .i64 n45), (Value.int .i64 n46)] ∧
    (if (Option.isNone p20) = true then ((if (n21 == (1 : Int)) = true then ((if (n45 == (0 : Int)) = true then ((if (n46 == (1 : Int)) = true then (∃ n47 : Int, rd h44 (Addr.add (Addr.mk (Array.size h) 0 none) 1) = some (Value.int .i64 n47) ∧
                    S_ssi_Ssi_Doomed none n47 h44 fun (vs48 : List Value) (h49 : Hp) =>
                    ∃ b50 : Bool, vs48 = [(Value.bool b50)] ∧
                    (if (!b50) = true then (∃ n51 : Int, rd h49 (Addr.add (Addr.mk (Array.size h) 0 none) 1) = some (Value.int .i64 n51) ∧
                        S_ssi_Ssi_Safe none n51 h49 fun (vs52 : List Value) (h53 : Hp) =>
                        ∃ b54 : Bool, vs52 = [(Value.bool b54)] ∧
                        (if (!b54) = true then (∃ n55 : Int, rd h53 (Addr.add (Addr.mk (Array.size h) 0 none) 1) = some (Value.int .i64 n55) ∧
                            S_ssi_Ssi_Commit none n55 h53 fun (vs56 : List Value) (h57 : Hp) =>
                            ∃ n58 : Int, vs56 = [(Value.int .i64 n58)] ∧
                            (if (n58 == (1 : Int)) = true then (∃ n59 : Int, rd h57 (Addr.add (Addr.mk (Array.size h) 0 none) 1) = some (Value.int .i64 n59) ∧
                                S_ssi_Ssi_Abort none n59 h57 fun (vs60 : List Value) (h61 : Hp) =>
                                ∃ n62 : Int, vs60 = [(Value.int .i64 n62)] ∧
                                (if (n62 == (1 : Int)) = true then (S_ssi_Ssi_Table none h61 fun (vs63 : List Value) (h64 : Hp) =>
                                    ∃ p65 : Option Addr, vs63 = [(Value.pointer p65)] ∧
                                    (if (Option.isNone p65) = true then (S_ssi_Ssi_Edges none h64 fun (vs66 : List Value) (h67 : Hp) =>
                                        ∃ p68 : Option Addr, vs66 = [(Value.pointer p68)] ∧
                                        (if (Option.isNone p68) = true then (S_ssi_Ssi_Log none h67 fun (vs69 : List Value) (h70 : Hp) =>
                                            ∃ p71 : Option Addr, vs69 = [(Value.pointer p71)] ∧
                                            (if (Option.isNone p71) = true then (S_liverylaw15_wakes  h70 fun (vs72 : List Value) (h73 : Hp) =>
                                                ∃ b74 : Bool, vs72 = [(Value.bool b74)] ∧
                                                Q [(Value.bool b74)] h73) else
                                              (Q [(Value.bool false)] h70))) else
                                          (Q [(Value.bool false)] h67))) else
                                      (Q [(Value.bool false)] h64))) else
                                  (Q [(Value.bool false)] h61))) else
                              (Q [(Value.bool false)] h57))) else
                          (Q [(Value.bool false)] h53))) else
                      (Q [(Value.bool false)] h49))) else
                  (Q [(Value.bool false)] h44))) else
              (Q [(Value.bool false)] h44))) else
          (Q [(Value.bool false)] h44))) else
      (Q [(Value.bool false)] h44))))
def A_liverylaw15_SsiNone : Ann := .nil
theorem E_liverylaw15_SsiNone (g0_x_0 : Int) (g0_x_1 : Int) (g0_x_2 : Int) (g0_x_3 : Bool) (g0_x_4 : Int) (g0_x_5 : ByteArray) (g0_x_6 : Int) (g0_x_7 : ByteArray) (g0_x_8 : Int) (h : Hp) (Q : List Value → Hp → Prop) : cw PP 102 (fun _ => []) (bodyOf Tryz.f5) A_liverylaw15_SsiNone (finQ PP (Tryz.f5.results.toList) Q) (argFr [(Value.agg #[(Value.int .i64 g0_x_0), (Value.int .i64 g0_x_1), (Value.int .i64 g0_x_2), (Value.bool g0_x_3), (Value.int .i64 g0_x_4), (Value.string g0_x_5), (Value.int .i64 g0_x_6), (Value.string g0_x_7), (Value.int .i64 g0_x_8)])]) h = F_liverylaw15_SsiNone g0_x_0 g0_x_1 g0_x_2 g0_x_3 g0_x_4 g0_x_5 g0_x_6 g0_x_7 g0_x_8 h Q := by kernel_rfl
theorem O_liverylaw15_SsiNone (g0_x_0 : Int) (g0_x_1 : Int) (g0_x_2 : Int) (g0_x_3 : Bool) (g0_x_4 : Int) (g0_x_5 : ByteArray) (g0_x_6 : Int) (g0_x_7 : ByteArray) (g0_x_8 : Int) {h : Hp} {Q : List Value → Hp → Prop} (H : F_liverylaw15_SsiNone g0_x_0 g0_x_1 g0_x_2 g0_x_3 g0_x_4 g0_x_5 g0_x_6 g0_x_7 g0_x_8 h Q) : S_liverylaw15_SsiNone g0_x_0 g0_x_1 g0_x_2 g0_x_3 g0_x_4 g0_x_5 g0_x_6 g0_x_7 g0_x_8 h Q :=
  fn_of_cw (hs := (fun _ => [])) (ann := A_liverylaw15_SsiNone) (args := [(Value.agg #[(Value.int .i64 g0_x_0), (Value.int .i64 g0_x_1), (Value.int .i64 g0_x_2), (Value.bool g0_x_3), (Value.int .i64 g0_x_4), (Value.string g0_x_5), (Value.int .i64 g0_x_6), (Value.string g0_x_7), (Value.int .i64 g0_x_8)])]) mixedPP Tryz.func5 (c := bodyOf Tryz.f5) (by kernel_rfl) (by kernel_rfl) (by kernel_rfl) (Eq.mpr (E_liverylaw15_SsiNone g0_x_0 g0_x_1 g0_x_2 g0_x_3 g0_x_4 g0_x_5 g0_x_6 g0_x_7 g0_x_8 h Q) H)
def F_liverylaw15_SsiSafe (g0_steps : Sl) (g1_others : Int) (h : Hp) (Q : List Value → Hp → Prop) : Prop :=
S_liverylaw15_Made (3 : Int) (20 : Int) (2 : Int) h fun (vs1 : List Value) (h2 : Hp) =>
∃ p3 : Option Addr, ∃ p4 : Option Addr, ∃ b5 : Bool, vs1 = [(Value.pointer p3), (Value.pointer p4), (Value.bool b5)] ∧
∀ J6 : List Value → Hp → Prop, (∀ b7 : Bool, ∀ h8 : Hp, ((if b7 = true then
      (∀ J9 : List Value → Hp → Prop, (∀ b10 : Bool, ∀ h11 : Hp, (Q [(Value.bool b10)] h11) → J9 [(Value.bool b10)] h11) →
        (if b5 = true then (S_liverylaw15_wakes  h8 fun (vs12 : List Value) (h13 : Hp) =>
            ∃ b14 : Bool, vs12 = [(Value.bool b14)] ∧
            J9 [(Value.bool b14)] h13) else
          (J9 [(Value.bool false)] h8))) else
      (∀ X15 : List Value → Hp → Prop, (∀ n16 : Int, ∀ h17 : Hp, (divOk (4 : Int) ((if (decide (n16 < (Int.tmod (IntKind.wrap .i64 g1_others) (4 : Int)))) = true then
                (S_ssi_Ssi_Begin p3 true h17 fun (vs18 : List Value) (h19 : Hp) =>
                  ∃ n20 : Int, ∃ n21 : Int, vs18 = [(Value.int .i64 n20), (Value.int .i64 n21)] ∧
                  (if (n21 != (0 : Int)) = true then
                    (Q [(Value.bool false)] h19) else
                    (X15 [(Value.int .i64 (IntKind.wrap .i64 (n16 + (1 : Int))))] h19))) else
                (S_ssi_Ssi_Begin p3 true h17 fun (vs22 : List Value) (h23 : Hp) =>
                  ∃ n24 : Int, ∃ n25 : Int, vs22 = [(Value.int .i64 n24), (Value.int .i64 n25)] ∧
                  ∀ J26 : List Value → Hp → Prop, (∀ b27 : Bool, ∀ h28 : Hp, ((if b27 = true then
                        (Q [(Value.bool false)] h28) else
                        (∀ X29 : List Value → Hp → Prop, (∀ n30 : Int, ∀ h31 : Hp, ((if (decide (n30 < (3 : Int))) = true then
                                (S_ssi_Ssi_Begin p3 false h31 fun (vs32 : List Value) (h33 : Hp) =>
                                  ∃ n34 : Int, ∃ n35 : Int, vs32 = [(Value.int .i64 n34), (Value.int .i64 n35)] ∧
                                  ∀ J36 : List Value → Hp → Prop, (∀ b37 : Bool, ∀ h38 : Hp, ((if b37 = true then
                                        (Q [(Value.bool false)] h38) else
                                        (X29 [(Value.int .i64 (IntKind.wrap .i64 (n30 + (1 : Int))))] h38))) → J36 [(Value.bool b37)] h38) →
                                  (if (n35 != (0 : Int)) = true then (J36 [(Value.bool true)] h33) else
                                    (S_ssi_Ssi_Safe p3 n34 h33 fun (vs39 : List Value) (h40 : Hp) =>
                                      ∃ b41 : Bool, vs39 = [(Value.bool b41)] ∧
                                      J36 [(Value.bool b41)] h40))) else
                                (∀ X42 : List Value → Hp → Prop, (∀ n43 : Int, ∀ h44 : Hp, ((if (decide (n43 < (g0_steps.n : Int))) = true then
                                        (nilW g0_steps.a fun a45 => ixOk n43 g0_steps.n (∃ n46 : Int, rd h44 (Addr.add (Addr.add a45 (Int.toNat n43 * 9)) 0) = some (Value.int .i64 n46) ∧ ∃ n47 : Int, rd h44 (Addr.add (Addr.add a45 (Int.toNat n43 * 9)) 1) = some (Value.int .i64 n47) ∧ ∃ n48 : Int, rd h44 (Addr.add (Addr.add a45 (Int.toNat n43 * 9)) 2) = some (Value.int .i64 n48) ∧ ∃ b49 : Bool, rd h44 (Addr.add (Addr.add a45 (Int.toNat n43 * 9)) 3) = some (Value.bool b49) ∧ ∃ n50 : Int, rd h44 (Addr.add (Addr.add a45 (Int.toNat n43 * 9)) 4) = some (Value.int .i64 n50) ∧ ∃ s51 : ByteArray, rd h44 (Addr.add (Addr.add a45 (Int.toNat n43 * 9)) 5) = some (Value.string s51) ∧ ∃ n52 : Int, rd h44 (Addr.add (Addr.add a45 (Int.toNat n43 * 9)) 6) = some (Value.int .i64 n52) ∧ ∃ s53 : ByteArray, rd h44 (Addr.add (Addr.add a45 (Int.toNat n43 * 9)) 7) = some (Value.string s53) ∧ ∃ n54 : Int, rd h44 (Addr.add (Addr.add a45 (Int.toNat n43 * 9)) 8) = some (Value.int .i64 n54) ∧ wth (Array.push h44 (Obj.cells #[(Value.int .i64 (0 : Int)), (Value.int .i64 (0 : Int)), (Value.int .i64 (0 : Int)), (Value.bool false), (Value.int .i64 (0 : Int)), (Value.string (ByteArray.mk #[])), (Value.int .i64 (0 : Int)), (Value.string (ByteArray.mk #[])), (Value.int .i64 (0 : Int))] T_liverylaw15_Step)) fun h55 =>
                                            stOk h55 (Addr.mk (Array.size h44) 0 none) 9 ∧ wth (wrs h55 (Addr.mk (Array.size h44) 0 none) 0 [(Value.int .i64 n46), (Value.int .i64 n47), (Value.int .i64 n48), (Value.bool b49), (Value.int .i64 n50), (Value.string s51), (Value.int .i64 n52), (Value.string s53), (Value.int .i64 n54)]) fun h56 =>
                                            ∃ n57 : Int, rd h56 (Addr.add (Addr.mk (Array.size h44) 0 none) 0) = some (Value.int .i64 n57) ∧
                                            ∀ J58 : List Value → Hp → Prop, (∀ h59 : Hp, (∀ J60 : List Value → Hp → Prop, (∀ b61 : Bool, ∀ h62 : Hp, ((if b61 = true then
                                                      (Q [(Value.bool false)] h62) else
                                                      (X42 [(Value.int .i64 (IntKind.wrap .i64 (n43 + (1 : Int))))] h62))) → J60 [(Value.bool b61)] h62) →
                                                S_ssi_Ssi_Table p3 h59 fun (vs63 : List Value) (h64 : Hp) =>
                                                ∃ p65 : Option Addr, vs63 = [(Value.pointer p65)] ∧
                                                S_siread_Table_Of p65 n24 h64 fun (vs66 : List Value) (h67 : Hp) =>
                                                ∃ l68 : Sl, vs66 = [(Value.slice l68.a l68.n l68.c)] ∧
                                                (if ((l68.n : Int) != (0 : Int)) = true then (J60 [(Value.bool true)] h67) else
                                                  (S_ssi_Ssi_Edges p3 h67 fun (vs69 : List Value) (h70 : Hp) =>
                                                    ∃ p71 : Option Addr, vs69 = [(Value.pointer p71)] ∧
                                                    S_edge_Edges_Out p71 n24 h70 fun (vs72 : List Value) (h73 : Hp) =>
                                                    ∃ l74 : Sl, vs72 = [(Value.slice l74.a l74.n l74.c)] ∧
                                                    (if ((l74.n : Int) != (0 : Int)) = true then (J60 [(Value.bool true)] h73) else
                                                      (S_ssi_Ssi_Edges p3 h73 fun (vs75 : List Value) (h76 : Hp) =>
                                                        ∃ p77 : Option Addr, vs75 = [(Value.pointer p77)] ∧
                                                        S_edge_Edges_In p77 n24 h76 fun (vs78 : List Value) (h79 : Hp) =>
                                                        ∃ l80 : Sl, vs78 = [(Value.slice l80.a l80.n l80.c)] ∧
                                                        (if ((l80.n : Int) != (0 : Int)) = true then (J60 [(Value.bool true)] h79) else
                                                          (S_ssi_Ssi_Doomed p3 n24 h79 fun (vs81 : List Value) (h82 : Hp) =>
                                                            ∃ b83 : Bool, vs81 = [(Value.bool b83)] ∧
                                                            J60 [(Value.bool b83)] h82))))))) → J58 [] h59) →
                                            (if (n57 == (1 : Int)) = true then
                                              (∃ n84 : Int, rd h56 (Addr.add (Addr.mk (Array.size h44) 0 none) 1) = some (Value.int .i64 n84) ∧
                                                (if (n84 != n24) = true then
                                                  (∃ n85 : Int, rd h56 (Addr.add (Addr.mk (Array.size h44) 0 none) 1) = some (Value.int .i64 n85) ∧
                                                    S_ssi_Ssi_Commit p3 n85 h56 fun (vs86 : List Value) (h87 : Hp) =>
                                                    ∃ n88 : Int, vs86 = [(Value.int .i64 n88)] ∧
                                                    J58 [] h87) else
                                                  (J58 [] h56))) else
                                              ((if (n57 == (2 : Int)) = true then
                                                  (∃ n89 : Int, rd h56 (Addr.add (Addr.mk (Array.size h44) 0 none) 1) = some (Value.int .i64 n89) ∧
                                                    (if (n89 != n24) = true then
                                                      (∃ n90 : Int, rd h56 (Addr.add (Addr.mk (Array.size h44) 0 none) 1) = some (Value.int .i64 n90) ∧
                                                        S_ssi_Ssi_Abort p3 n90 h56 fun (vs91 : List Value) (h92 : Hp) =>
                                                        ∃ n93 : Int, vs91 = [(Value.int .i64 n93)] ∧
                                                        J58 [] h92) else
                                                      (J58 [] h56))) else
                                                  ((if (n57 == (3 : Int)) = true then
                                                      (∃ n94 : Int, rd h56 (Addr.add (Addr.add (Addr.mk (Array.size h44) 0 none) 4) 0) = some (Value.int .i64 n94) ∧ ∃ s95 : ByteArray, rd h56 (Addr.add (Addr.add (Addr.mk (Array.size h44) 0 none) 4) 1) = some (Value.string s95) ∧ ∃ n96 : Int, rd h56 (Addr.add (Addr.add (Addr.mk (Array.size h44) 0 none) 4) 2) = some (Value.int .i64 n96) ∧ ∃ s97 : ByteArray, rd h56 (Addr.add (Addr.add (Addr.mk (Array.size h44) 0 none) 4) 3) = some (Value.string s97) ∧ ∃ n98 : Int, rd h56 (Addr.add (Addr.add (Addr.mk (Array.size h44) 0 none) 4) 4) = some (Value.int .i64 n98) ∧ S_ssi_Ssi_Read p3 n24 n94 s95 n96 s97 n98 h56 fun (vs99 : List Value) (h100 : Hp) =>
                                                        vs99 = [] ∧
                                                        J58 [] h100) else
                                                      ((if (n57 == (4 : Int)) = true then
                                                          (∃ n101 : Int, rd h56 (Addr.add (Addr.mk (Array.size h44) 0 none) 1) = some (Value.int .i64 n101) ∧
                                                            S_clog_Log_Reads p4 n101 h56 fun (vs102 : List Value) (h103 : Hp) =>
                                                            ∃ b104 : Bool, vs102 = [(Value.bool b104)] ∧
                                                            (if (!b104) = true then
                                                            (∃ n105 : Int, rd h103 (Addr.add (Addr.mk (Array.size h44) 0 none) 1) = some (Value.int .i64 n105) ∧
                                                            ∃ n106 : Int, rd h103 (Addr.add (Addr.add (Addr.mk (Array.size h44) 0 none) 4) 0) = some (Value.int .i64 n106) ∧ ∃ s107 : ByteArray, rd h103 (Addr.add (Addr.add (Addr.mk (Array.size h44) 0 none) 4) 1) = some (Value.string s107) ∧ ∃ n108 : Int, rd h103 (Addr.add (Addr.add (Addr.mk (Array.size h44) 0 none) 4) 2) = some (Value.int .i64 n108) ∧ ∃ s109 : ByteArray, rd h103 (Addr.add (Addr.add (Addr.mk (Array.size h44) 0 none) 4) 3) = some (Value.string s109) ∧ ∃ n110 : Int, rd h103 (Addr.add (Addr.add (Addr.mk (Array.size h44) 0 none) 4) 4) = some (Value.int .i64 n110) ∧ S_ssi_Ssi_Wrote p3 n105 n106 s107 n108 s109 n110 h103 fun (vs111 : List Value) (h112 : Hp) =>
                                                            vs111 = [] ∧
                                                            J58 [] h112) else
                                                            (J58 [] h103))) else
                                                          ((if (n57 == (5 : Int)) = true then
                                                            (∃ n113 : Int, rd h56 (Addr.add (Addr.mk (Array.size h44) 0 none) 2) = some (Value.int .i64 n113) ∧
                                                            S_ssi_Ssi_Saw p3 n24 n113 h56 fun (vs114 : List Value) (h115 : Hp) =>
                                                            vs114 = [] ∧
                                                            J58 [] h115) else
                                                            (J58 [] h56)))))))))))) else
                                        (S_ssi_Ssi_Commit p3 n24 h44 fun (vs116 : List Value) (h117 : Hp) =>
                                          ∃ n118 : Int, vs116 = [(Value.int .i64 n118)] ∧
                                          (if (n118 == (0 : Int)) = true then (S_liverylaw15_wakes  h117 fun (vs119 : List Value) (h120 : Hp) =>
                                              ∃ b121 : Bool, vs119 = [(Value.bool b121)] ∧
                                              Q [(Value.bool b121)] h120) else
                                            (Q [(Value.bool false)] h117))))) → X42 [(Value.int .i64 n43)] h44) →
                                  X42 [(Value.int .i64 (0 : Int))] h31))) → X29 [(Value.int .i64 n30)] h31) →
                          X29 [(Value.int .i64 (0 : Int))] h28))) → J26 [(Value.bool b27)] h28) →
                  (if (n25 != (0 : Int)) = true then (J26 [(Value.bool true)] h23) else
                    (S_ssi_Ssi_Safe p3 n24 h23 fun (vs122 : List Value) (h123 : Hp) =>
                      ∃ b124 : Bool, vs122 = [(Value.bool b124)] ∧
                      J26 [(Value.bool (!b124))] h123)))))) → X15 [(Value.int .i64 n16)] h17) →
        X15 [(Value.int .i64 (0 : Int))] h8))) → J6 [(Value.bool b7)] h8) →
(if (!b5) = true then (J6 [(Value.bool true)] h2) else
  (S_liverylaw15_Fair ⟨g0_steps.a, g0_steps.n, g0_steps.c⟩ h2 fun (vs125 : List Value) (h126 : Hp) =>
    ∃ b127 : Bool, vs125 = [(Value.bool b127)] ∧
    J6 [(Value.bool (!b127))] h126))
def A_liverylaw15_SsiSafe : Ann := (.mk none ⟨[], []⟩ .nil (.mk none ⟨[], []⟩ .nil (.mk none ⟨[], []⟩ (.mk none ⟨[], []⟩ (.mk (some ⟨[0, 1, 5, 6, 7], [(29, (.c .bool))]⟩) ⟨[], []⟩ .nil .nil) (.mk none ⟨[], []⟩ (.mk none ⟨[], []⟩ (.mk (some ⟨[], [(4, (.c .bool))]⟩) ⟨[], []⟩ .nil .nil) .nil) .nil)) (.mk none ⟨[], []⟩ (.mk none ⟨[], []⟩ .nil (.mk none ⟨[], []⟩ (.mk none ⟨[0, 1, 5, 6], [(8, (.c (.int .i64)))]⟩ .nil .nil) .nil)) (.mk none ⟨[], []⟩ .nil (.mk none ⟨[], []⟩ (.mk none ⟨[], []⟩ (.mk (some ⟨[0, 5, 6, 11], [(60, (.c .bool))]⟩) ⟨[], []⟩ .nil .nil) .nil) (.mk none ⟨[], []⟩ (.mk none ⟨[], []⟩ .nil (.mk none ⟨[], []⟩ (.mk none ⟨[0, 5, 6, 11], [(13, (.c (.int .i64)))]⟩ (.mk none ⟨[], []⟩ .nil (.mk none ⟨[], []⟩ (.mk none ⟨[], []⟩ (.mk none ⟨[], []⟩ .nil (.mk none ⟨[], []⟩ (.mk (some ⟨[0, 5, 6, 11, 13], [(76, (.c .bool))]⟩) ⟨[], []⟩ .nil .nil) .nil)) .nil) .nil)) .nil) .nil)) (.mk none ⟨[], []⟩ (.mk none ⟨[], []⟩ .nil (.mk none ⟨[], []⟩ (.mk none ⟨[0, 5, 6, 11], [(16, (.c (.int .i64)))]⟩ (.mk none ⟨[], []⟩ .nil (.mk none ⟨[], []⟩ (.mk none ⟨[], []⟩ (.mk none ⟨[], []⟩ .nil (.mk none ⟨[], []⟩ (.mk none ⟨[], []⟩ .nil (.mk (some ⟨[0, 5, 6, 11, 16], []⟩) ⟨[], []⟩ .nil .nil)) (.mk none ⟨[], []⟩ (.mk (some ⟨[0, 5, 6, 11, 16], [(162, (.c .bool))]⟩) ⟨[], []⟩ .nil .nil) .nil))) .nil) .nil)) .nil) .nil)) .nil))))))))
theorem E_liverylaw15_SsiSafe (g0_steps : Sl) (g1_others : Int) (h : Hp) (Q : List Value → Hp → Prop) : cw PP 170 (fun _ => []) (bodyOf Tryz.f6) A_liverylaw15_SsiSafe (finQ PP (Tryz.f6.results.toList) Q) (argFr [(Value.slice g0_steps.a g0_steps.n g0_steps.c), (Value.int .u8 g1_others)]) h = F_liverylaw15_SsiSafe g0_steps g1_others h Q := by kernel_rfl
theorem O_liverylaw15_SsiSafe (g0_steps : Sl) (g1_others : Int) {h : Hp} {Q : List Value → Hp → Prop} (H : F_liverylaw15_SsiSafe g0_steps g1_others h Q) : S_liverylaw15_SsiSafe g0_steps g1_others h Q :=
  fn_of_cw (hs := (fun _ => [])) (ann := A_liverylaw15_SsiSafe) (args := [(Value.slice g0_steps.a g0_steps.n g0_steps.c), (Value.int .u8 g1_others)]) mixedPP Tryz.func6 (c := bodyOf Tryz.f6) (by kernel_rfl) (by kernel_rfl) (by kernel_rfl) (Eq.mpr (E_liverylaw15_SsiSafe g0_steps g1_others h Q) H)
def F_siread_Table_Has (g0_t : Option Addr) (g1_xid : Int) (g2_x_0 : Int) (g2_x_1 : ByteArray) (g2_x_2 : Int) (g2_x_3 : ByteArray) (g2_x_4 : Int) (h : Hp) (Q : List Value → Hp → Prop) : Prop :=
wth (Array.push h (Obj.cells #[(Value.int .i64 g2_x_0), (Value.string g2_x_1), (Value.int .i64 g2_x_2), (Value.string g2_x_3), (Value.int .i64 g2_x_4)] T_siread_Thing)) fun h1 =>
(if (!(Option.isNone g0_t)) = true then (nilW g0_t fun a2 => ∃ r3 : Option Nat, rd h1 (Addr.add a2 2) = some (Value.map r3) ∧
    ∃ es4 : Array MapEntry, mapAt h1 r3 es4 ∧ KeysLike (Value.int .i64 g1_xid) es4 ∧ ∃ r5 : Option Nat, mgetD (Value.int .i64 g1_xid) es4 (Value.map none) = (Value.map r5) ∧
    ∃ n7 : Int, rd h1 (Addr.add (Addr.mk (Array.size h) 0 none) 0) = some (Value.int .i64 n7) ∧ ∃ s8 : ByteArray, rd h1 (Addr.add (Addr.mk (Array.size h) 0 none) 1) = some (Value.string s8) ∧ ∃ n9 : Int, rd h1 (Addr.add (Addr.mk (Array.size h) 0 none) 2) = some (Value.int .i64 n9) ∧ ∃ s10 : ByteArray, rd h1 (Addr.add (Addr.mk (Array.size h) 0 none) 3) = some (Value.string s10) ∧ ∃ n11 : Int, rd h1 (Addr.add (Addr.mk (Array.size h) 0 none) 4) = some (Value.int .i64 n11) ∧ ∃ es12 : Array MapEntry, mapAt h1 r5 es12 ∧ KeysLike (Value.agg #[(Value.int .i64 n7), (Value.string s8), (Value.int .i64 n9), (Value.string s10), (Value.int .i64 n11)]) es12 ∧ ∃ n13 : Int, mgetD (Value.agg #[(Value.int .i64 n7), (Value.string s8), (Value.int .i64 n9), (Value.string s10), (Value.int .i64 n11)]) es12 (Value.int .i64 (0 : Int)) = (Value.int .i64 n13) ∧
    Q [(Value.bool (decide (n13 > (0 : Int))))] h1) else
  (Q [(Value.bool false)] h1))
def A_siread_Table_Has : Ann := .nil
theorem E_siread_Table_Has (g0_t : Option Addr) (g1_xid : Int) (g2_x_0 : Int) (g2_x_1 : ByteArray) (g2_x_2 : Int) (g2_x_3 : ByteArray) (g2_x_4 : Int) (h : Hp) (Q : List Value → Hp → Prop) : cw PP 20 (fun _ => []) (bodyOf Tryz.f33) A_siread_Table_Has (finQ PP (Tryz.f33.results.toList) Q) (argFr [(Value.pointer g0_t), (Value.int .i64 g1_xid), (Value.agg #[(Value.int .i64 g2_x_0), (Value.string g2_x_1), (Value.int .i64 g2_x_2), (Value.string g2_x_3), (Value.int .i64 g2_x_4)])]) h = F_siread_Table_Has g0_t g1_xid g2_x_0 g2_x_1 g2_x_2 g2_x_3 g2_x_4 h Q := by kernel_rfl
theorem O_siread_Table_Has (g0_t : Option Addr) (g1_xid : Int) (g2_x_0 : Int) (g2_x_1 : ByteArray) (g2_x_2 : Int) (g2_x_3 : ByteArray) (g2_x_4 : Int) {h : Hp} {Q : List Value → Hp → Prop} (H : F_siread_Table_Has g0_t g1_xid g2_x_0 g2_x_1 g2_x_2 g2_x_3 g2_x_4 h Q) : S_siread_Table_Has g0_t g1_xid g2_x_0 g2_x_1 g2_x_2 g2_x_3 g2_x_4 h Q :=
  fn_of_cw (hs := (fun _ => [])) (ann := A_siread_Table_Has) (args := [(Value.pointer g0_t), (Value.int .i64 g1_xid), (Value.agg #[(Value.int .i64 g2_x_0), (Value.string g2_x_1), (Value.int .i64 g2_x_2), (Value.string g2_x_3), (Value.int .i64 g2_x_4)])]) mixedPP Tryz.func33 (c := bodyOf Tryz.f33) (by kernel_rfl) (by kernel_rfl) (by kernel_rfl) (Eq.mpr (E_siread_Table_Has g0_t g1_xid g2_x_0 g2_x_1 g2_x_2 g2_x_3 g2_x_4 h Q) H)
def F_liverykeep_Ints (g0_a : Sl) (g1_b : Sl) (h : Hp) (Q : List Value → Hp → Prop) : Prop :=
(if ((g0_a.n : Int) != (g1_b.n : Int)) = true then
  (Q [(Value.bool false)] h) else
  (∀ X1 : List Value → Hp → Prop, (∀ n2 : Int, ∀ h3 : Hp, ((if (decide (n2 < (g0_a.n : Int))) = true then
          (nilW g0_a.a fun a4 => ixOk n2 g0_a.n (∃ n5 : Int, rd h3 (Addr.add a4 (Int.toNat n2 * 1)) = some (Value.int .i64 n5) ∧
              nilW g1_b.a fun a6 => ixOk n2 g1_b.n (∃ n7 : Int, rd h3 (Addr.add a6 (Int.toNat n2 * 1)) = some (Value.int .i64 n7) ∧
                (if (n5 != n7) = true then
                  (Q [(Value.bool false)] h3) else
                  (X1 [(Value.int .i64 (IntKind.wrap .i64 (n2 + (1 : Int))))] h3))))) else
          (Q [(Value.bool true)] h3))) → X1 [(Value.int .i64 n2)] h3) →
    X1 [(Value.int .i64 (0 : Int))] h))
def A_liverykeep_Ints : Ann := (.mk none ⟨[], []⟩ .nil (.mk none ⟨[], []⟩ .nil (.mk none ⟨[], []⟩ (.mk none ⟨[], []⟩ .nil (.mk none ⟨[], []⟩ (.mk none ⟨[0, 1], [(5, (.c (.int .i64)))]⟩ .nil .nil) .nil)) .nil)))
theorem E_liverykeep_Ints (g0_a : Sl) (g1_b : Sl) (h : Hp) (Q : List Value → Hp → Prop) : cw PP 26 (fun _ => []) (bodyOf Tryz.f34) A_liverykeep_Ints (finQ PP (Tryz.f34.results.toList) Q) (argFr [(Value.slice g0_a.a g0_a.n g0_a.c), (Value.slice g1_b.a g1_b.n g1_b.c)]) h = F_liverykeep_Ints g0_a g1_b h Q := by kernel_rfl
theorem O_liverykeep_Ints (g0_a : Sl) (g1_b : Sl) {h : Hp} {Q : List Value → Hp → Prop} (H : F_liverykeep_Ints g0_a g1_b h Q) : S_liverykeep_Ints g0_a g1_b h Q :=
  fn_of_cw (hs := (fun _ => [])) (ann := A_liverykeep_Ints) (args := [(Value.slice g0_a.a g0_a.n g0_a.c), (Value.slice g1_b.a g1_b.n g1_b.c)]) mixedPP Tryz.func34 (c := bodyOf Tryz.f34) (by kernel_rfl) (by kernel_rfl) (by kernel_rfl) (Eq.mpr (E_liverykeep_Ints g0_a g1_b h Q) H)
def F_liverylaw15_boolInt (g0_b : Bool) (h : Hp) (Q : List Value → Hp → Prop) : Prop :=
(if g0_b = true then
  (Q [(Value.int .i64 (1 : Int))] h) else
  (Q [(Value.int .i64 (0 : Int))] h))
def A_liverylaw15_boolInt : Ann := .nil
theorem E_liverylaw15_boolInt (g0_b : Bool) (h : Hp) (Q : List Value → Hp → Prop) : cw PP 4 (fun _ => []) (bodyOf Tryz.f35) A_liverylaw15_boolInt (finQ PP (Tryz.f35.results.toList) Q) (argFr [(Value.bool g0_b)]) h = F_liverylaw15_boolInt g0_b h Q := by kernel_rfl
theorem O_liverylaw15_boolInt (g0_b : Bool) {h : Hp} {Q : List Value → Hp → Prop} (H : F_liverylaw15_boolInt g0_b h Q) : S_liverylaw15_boolInt g0_b h Q :=
  fn_of_cw (hs := (fun _ => [])) (ann := A_liverylaw15_boolInt) (args := [(Value.bool g0_b)]) mixedPP Tryz.func35 (c := bodyOf Tryz.f35) (by kernel_rfl) (by kernel_rfl) (by kernel_rfl) (Eq.mpr (E_liverylaw15_boolInt g0_b h Q) H)
def F_liverylaw15_SsiLate (g0_x_0 : Int) (g0_x_1 : ByteArray) (g0_x_2 : Int) (g0_x_3 : ByteArray) (g0_x_4 : Int) (g1_commit : Bool) (h : Hp) (Q : List Value → Hp → Prop) : Prop :=
wth (Array.push h (Obj.cells #[(Value.int .i64 g0_x_0), (Value.string g0_x_1), (Value.int .i64 g0_x_2), (Value.string g0_x_3), (Value.int .i64 g0_x_4)] T_siread_Thing)) fun h1 =>
∀ J2 : List Value → Hp → Prop, (∀ b3 : Bool, ∀ h4 : Hp, ((if b3 = true then
      (S_liverylaw15_wakes  h4 fun (vs5 : List Value) (h6 : Hp) =>
        ∃ b7 : Bool, vs5 = [(Value.bool b7)] ∧
        Q [(Value.bool b7)] h6) else
      (S_liverylaw15_Made (9 : Int) (99 : Int) (9 : Int) h4 fun (vs8 : List Value) (h9 : Hp) =>
        ∃ p10 : Option Addr, ∃ p11 : Option Addr, ∃ b12 : Bool, vs8 = [(Value.pointer p10), (Value.pointer p11), (Value.bool b12)] ∧
        (if (!b12) = true then
          (Q [(Value.bool false)] h9) else
          (∃ n13 : Int, rd h9 (Addr.add (Addr.mk (Array.size h) 0 none) 0) = some (Value.int .i64 n13) ∧
            S_liverykeep_Mod n13 (4 : Int) h9 fun (vs14 : List Value) (h15 : Hp) =>
            ∃ n16 : Int, vs14 = [(Value.int .i64 n16)] ∧
            stOk h15 (Addr.add (Addr.mk (Array.size h) 0 none) 0) 1 ∧ wth (wrs h15 (Addr.add (Addr.mk (Array.size h) 0 none) 0) 0 [(Value.int .i64 (IntKind.wrap .i64 ((1 : Int) + n16)))]) fun h17 =>
            S_ssi_Ssi_Begin p10 false h17 fun (vs18 : List Value) (h19 : Hp) =>
            ∃ n20 : Int, ∃ n21 : Int, vs18 = [(Value.int .i64 n20), (Value.int .i64 n21)] ∧
            S_ssi_Ssi_Begin p10 true h19 fun (vs22 : List Value) (h23 : Hp) =>
            ∃ n24 : Int, ∃ n25 : Int, vs22 = [(Value.int .i64 n24), (Value.int .i64 n25)] ∧
            ∃ n26 : Int, rd h23 (Addr.add (Addr.mk (Array.size h) 0 none) 0) = some (Value.int .i64 n26) ∧ ∃ s27 : ByteArray, rd h23 (Addr.add (Addr.mk (Array.size h) 0 none) 1) = some (Value.string s27) ∧ ∃ n28 : Int, rd h23 (Addr.add (Addr.mk (Array.size h) 0 none) 2) = some (Value.int .i64 n28) ∧ ∃ s29 : ByteArray, rd h23 (Addr.add (Addr.mk (Array.size h) 0 none) 3) = some (Value.string s29) ∧ ∃ n30 : Int, rd h23 (Addr.add (Addr.mk (Array.size h) 0 none) 4) = some (Value.int .i64 n30) ∧ S_ssi_Ssi_Read p10 (2 : Int) n26 s27 n28 s29 n30 h23 fun (vs31 : List Value) (h32 : Hp) =>
            vs31 = [] ∧
            ∀ J33 : List Value → Hp → Prop, (∀ b34 : Bool, ∀ h35 : Hp, ((if b34 = true then
                  (Q [(Value.bool false)] h35) else
                  (∃ n36 : Int, rd h35 (Addr.add (Addr.mk (Array.size h) 0 none) 0) = some (Value.int .i64 n36) ∧ ∃ s37 : ByteArray, rd h35 (Addr.add (Addr.mk (Array.size h) 0 none) 1) = some (Value.string s37) ∧ ∃ n38 : Int, rd h35 (Addr.add (Addr.mk (Array.size h) 0 none) 2) = some (Value.int .i64 n38) ∧ ∃ s39 : ByteArray, rd h35 (Addr.add (Addr.mk (Array.size h) 0 none) 3) = some (Value.string s39) ∧ ∃ n40 : Int, rd h35 (Addr.add (Addr.mk (Array.size h) 0 none) 4) = some (Value.int .i64 n40) ∧ S_ssi_Ssi_Wrote p10 (1 : Int) n36 s37 n38 s39 n40 h35 fun (vs41 : List Value) (h42 : Hp) =>
                    vs41 = [] ∧
                    S_ssi_Ssi_Edges p10 h42 fun (vs43 : List Value) (h44 : Hp) =>
                    ∃ p45 : Option Addr, vs43 = [(Value.pointer p45)] ∧
                    S_edge_Edges_In p45 (1 : Int) h44 fun (vs46 : List Value) (h47 : Hp) =>
                    ∃ l48 : Sl, vs46 = [(Value.slice l48.a l48.n l48.c)] ∧
                    wth (Array.push h47 (Obj.cells #[(Value.int .i64 (2 : Int))] T_int)) fun h49 =>
                    S_liverykeep_Ints ⟨l48.a, l48.n, l48.c⟩ ⟨(some (Addr.mk (Array.size h47) 0 none)), 1, 1⟩ h49 fun (vs50 : List Value) (h51 : Hp) =>
                    ∃ b52 : Bool, vs50 = [(Value.bool b52)] ∧
                    (if (!b52) = true then
                      (Q [(Value.bool false)] h51) else
                      (∀ J53 : List Value → Hp → Prop, (∀ b54 : Bool, ∀ h55 : Hp, ((if b54 = true then
                              (Q [(Value.bool false)] h55) else
                              (S_ssi_Ssi_Table p10 h55 fun (vs56 : List Value) (h57 : Hp) =>
                                ∃ p58 : Option Addr, vs56 = [(Value.pointer p58)] ∧
                                S_siread_Table_Of p58 (2 : Int) h57 fun (vs59 : List Value) (h60 : Hp) =>
                                ∃ l61 : Sl, vs59 = [(Value.slice l61.a l61.n l61.c)] ∧
                                (if ((l61.n : Int) == (0 : Int)) = true then (S_ssi_Ssi_Edges p10 h60 fun (vs62 : List Value) (h63 : Hp) =>
                                    ∃ p64 : Option Addr, vs62 = [(Value.pointer p64)] ∧
                                    S_edge_Edges_All p64 h63 fun (vs65 : List Value) (h66 : Hp) =>
                                    ∃ l67 : Sl, vs65 = [(Value.slice l67.a l67.n l67.c)] ∧
                                    S_liverylaw15_boolInt g1_commit h66 fun (vs68 : List Value) (h69 : Hp) =>
                                    ∃ n70 : Int, vs68 = [(Value.int .i64 n70)] ∧
                                    (if ((l67.n : Int) == n70) = true then (S_liverylaw15_wakes  h69 fun (vs71 : List Value) (h72 : Hp) =>
                                        ∃ b73 : Bool, vs71 = [(Value.bool b73)] ∧
                                        Q [(Value.bool b73)] h72) else
                                      (Q [(Value.bool false)] h69))) else
                                  (Q [(Value.bool false)] h60))))) → J53 [(Value.bool b54)] h55) →
                        (if g1_commit = true then (S_ssi_Ssi_Commit p10 (1 : Int) h51 fun (vs74 : List Value) (h75 : Hp) =>
                            ∃ n76 : Int, vs74 = [(Value.int .i64 n76)] ∧
                            (if (n76 != (0 : Int)) = true then (J53 [(Value.bool true)] h75) else
                              ((if (!g1_commit) = true then (S_ssi_Ssi_Abort p10 (1 : Int) h75 fun (vs77 : List Value) (h78 : Hp) =>
                                    ∃ n79 : Int, vs77 = [(Value.int .i64 n79)] ∧
                                    J53 [(Value.bool (n79 != (0 : Int)))] h78) else
                                  (J53 [(Value.bool false)] h75))))) else
                          ((if (!g1_commit) = true then (S_ssi_Ssi_Abort p10 (1 : Int) h51 fun (vs80 : List Value) (h81 : Hp) =>
                                ∃ n82 : Int, vs80 = [(Value.int .i64 n82)] ∧
                                J53 [(Value.bool (n82 != (0 : Int)))] h81) else
                              (J53 [(Value.bool false)] h51))))))))) → J33 [(Value.bool b34)] h35) →
            S_ssi_Ssi_Safe p10 (2 : Int) h32 fun (vs83 : List Value) (h84 : Hp) =>
            ∃ b85 : Bool, vs83 = [(Value.bool b85)] ∧
            (if b85 = true then (J33 [(Value.bool true)] h84) else
              (∃ n86 : Int, rd h84 (Addr.add (Addr.mk (Array.size h) 0 none) 0) = some (Value.int .i64 n86) ∧ ∃ s87 : ByteArray, rd h84 (Addr.add (Addr.mk (Array.size h) 0 none) 1) = some (Value.string s87) ∧ ∃ n88 : Int, rd h84 (Addr.add (Addr.mk (Array.size h) 0 none) 2) = some (Value.int .i64 n88) ∧ ∃ s89 : ByteArray, rd h84 (Addr.add (Addr.mk (Array.size h) 0 none) 3) = some (Value.string s89) ∧ ∃ n90 : Int, rd h84 (Addr.add (Addr.mk (Array.size h) 0 none) 4) = some (Value.int .i64 n90) ∧ S_ssi_Ssi_Table p10 h84 fun (vs91 : List Value) (h92 : Hp) =>
                ∃ p93 : Option Addr, vs91 = [(Value.pointer p93)] ∧
                rd h92 (Addr.add (Addr.mk (Array.size h) 0 none) 0) = some (Value.int .i64 n86) ∧ rd h92 (Addr.add (Addr.mk (Array.size h) 0 none) 1) = some (Value.string s87) ∧ rd h92 (Addr.add (Addr.mk (Array.size h) 0 none) 2) = some (Value.int .i64 n88) ∧ rd h92 (Addr.add (Addr.mk (Array.size h) 0 none) 3) = some (Value.string s89) ∧ rd h92 (Addr.add (Addr.mk (Array.size h) 0 none) 4) = some (Value.int .i64 n90) ∧ S_siread_Table_Has p93 (2 : Int) n86 s87 n88 s89 n90 h92 fun (vs94 : List Value) (h95 : Hp) =>
                ∃ b96 : Bool, vs94 = [(Value.bool b96)] ∧
                (if (!b96) = true then (J33 [(Value.bool true)] h95) else
                  (S_ssi_Ssi_Commit p10 (2 : Int) h95 fun (vs97 : List Value) (h98 : Hp) =>
                    ∃ n99 : Int, vs97 = [(Value.int .i64 n99)] ∧
                    (if (n99 != (0 : Int)) = true then (J33 [(Value.bool true)] h98) else
                      (∃ n100 : Int, rd h98 (Addr.add (Addr.mk (Array.size h) 0 none) 0) = some (Value.int .i64 n100) ∧ ∃ s101 : ByteArray, rd h98 (Addr.add (Addr.mk (Array.size h) 0 none) 1) = some (Value.string s101) ∧ ∃ n102 : Int, rd h98 (Addr.add (Addr.mk (Array.size h) 0 none) 2) = some (Value.int .i64 n102) ∧ ∃ s103 : ByteArray, rd h98 (Addr.add (Addr.mk (Array.size h) 0 none) 3) = some (Value.string s103) ∧ ∃ n104 : Int, rd h98 (Addr.add (Addr.mk (Array.size h) 0 none) 4) = some (Value.int .i64 n104) ∧ S_ssi_Ssi_Table p10 h98 fun (vs105 : List Value) (h106 : Hp) =>
                        ∃ p107 : Option Addr, vs105 = [(Value.pointer p107)] ∧
                        rd h106 (Addr.add (Addr.mk (Array.size h) 0 none) 0) = some (Value.int .i64 n100) ∧ rd h106 (Addr.add (Addr.mk (Array.size h) 0 none) 1) = some (Value.string s101) ∧ rd h106 (Addr.add (Addr.mk (Array.size h) 0 none) 2) = some (Value.int .i64 n102) ∧ rd h106 (Addr.add (Addr.mk (Array.size h) 0 none) 3) = some (Value.string s103) ∧ rd h106 (Addr.add (Addr.mk (Array.size h) 0 none) 4) = some (Value.int .i64 n104) ∧ S_siread_Table_Has p107 (2 : Int) n100 s101 n102 s103 n104 h106 fun (vs108 : List Value) (h109 : Hp) =>
                        ∃ b110 : Bool, vs108 = [(Value.bool b110)] ∧
                        J33 [(Value.bool (!b110))] h109))))))))))) → J2 [(Value.bool b3)] h4) →
∃ s111 : ByteArray, rd h1 (Addr.add (Addr.mk (Array.size h) 0 none) 1) = some (Value.string s111) ∧
(if (decide ((ByteArray.size s111 : Int) > (100 : Int))) = true then (J2 [(Value.bool true)] h1) else
  (∃ s112 : ByteArray, rd h1 (Addr.add (Addr.mk (Array.size h) 0 none) 3) = some (Value.string s112) ∧
    J2 [(Value.bool (decide ((ByteArray.size s112 : Int) > (100 : Int))))] h1))
def A_liverylaw15_SsiLate : Ann := (.mk none ⟨[], []⟩ .nil (.mk none ⟨[], []⟩ (.mk none ⟨[], []⟩ (.mk (some ⟨[1, 2], [(17, (.c .bool))]⟩) ⟨[], []⟩ .nil .nil) .nil) (.mk none ⟨[], []⟩ .nil (.mk none ⟨[], []⟩ .nil (.mk none ⟨[], []⟩ .nil (.mk none ⟨[], []⟩ .nil (.mk none ⟨[], []⟩ .nil (.mk none ⟨[], []⟩ .nil (.mk none ⟨[], []⟩ (.mk none ⟨[], []⟩ (.mk (some ⟨[1, 2, 5], [(58, (.c .bool))]⟩) ⟨[], []⟩ .nil .nil) .nil) (.mk none ⟨[], []⟩ .nil (.mk none ⟨[], []⟩ .nil (.mk none ⟨[], []⟩ (.mk none ⟨[], []⟩ (.mk (some ⟨[1, 5], [(82, (.c .bool))]⟩) ⟨[], []⟩ .nil .nil) .nil) .nil))))))))))))
theorem E_liverylaw15_SsiLate (g0_x_0 : Int) (g0_x_1 : ByteArray) (g0_x_2 : Int) (g0_x_3 : ByteArray) (g0_x_4 : Int) (g1_commit : Bool) (h : Hp) (Q : List Value → Hp → Prop) : cw PP 100 (fun _ => []) (bodyOf Tryz.f7) A_liverylaw15_SsiLate (finQ PP (Tryz.f7.results.toList) Q) (argFr [(Value.agg #[(Value.int .i64 g0_x_0), (Value.string g0_x_1), (Value.int .i64 g0_x_2), (Value.string g0_x_3), (Value.int .i64 g0_x_4)]), (Value.bool g1_commit)]) h = F_liverylaw15_SsiLate g0_x_0 g0_x_1 g0_x_2 g0_x_3 g0_x_4 g1_commit h Q := by kernel_rfl
theorem O_liverylaw15_SsiLate (g0_x_0 : Int) (g0_x_1 : ByteArray) (g0_x_2 : Int) (g0_x_3 : ByteArray) (g0_x_4 : Int) (g1_commit : Bool) {h : Hp} {Q : List Value → Hp → Prop} (H : F_liverylaw15_SsiLate g0_x_0 g0_x_1 g0_x_2 g0_x_3 g0_x_4 g1_commit h Q) : S_liverylaw15_SsiLate g0_x_0 g0_x_1 g0_x_2 g0_x_3 g0_x_4 g1_commit h Q :=
  fn_of_cw (hs := (fun _ => [])) (ann := A_liverylaw15_SsiLate) (args := [(Value.agg #[(Value.int .i64 g0_x_0), (Value.string g0_x_1), (Value.int .i64 g0_x_2), (Value.string g0_x_3), (Value.int .i64 g0_x_4)]), (Value.bool g1_commit)]) mixedPP Tryz.func7 (c := bodyOf Tryz.f7) (by kernel_rfl) (by kernel_rfl) (by kernel_rfl) (Eq.mpr (E_liverylaw15_SsiLate g0_x_0 g0_x_1 g0_x_2 g0_x_3 g0_x_4 g1_commit h Q) H)
def F_siread_Table_Fine (g0_t : Option Addr) (h : Hp) (Q : List Value → Hp → Prop) : Prop :=
(if (Option.isNone g0_t) = true then
  (Q [(Value.int .i64 (0 : Int))] h) else
  (nilW g0_t fun a1 => ∃ n2 : Int, rd h (Addr.add a1 3) = some (Value.int .i64 n2) ∧
    Q [(Value.int .i64 n2)] h))
def A_siread_Table_Fine : Ann := .nil
theorem E_siread_Table_Fine (g0_t : Option Addr) (h : Hp) (Q : List Value → Hp → Prop) : cw PP 9 (fun _ => []) (bodyOf Tryz.f36) A_siread_Table_Fine (finQ PP (Tryz.f36.results.toList) Q) (argFr [(Value.pointer g0_t)]) h = F_siread_Table_Fine g0_t h Q := by kernel_rfl
theorem O_siread_Table_Fine (g0_t : Option Addr) {h : Hp} {Q : List Value → Hp → Prop} (H : F_siread_Table_Fine g0_t h Q) : S_siread_Table_Fine g0_t h Q :=
  fn_of_cw (hs := (fun _ => [])) (ann := A_siread_Table_Fine) (args := [(Value.pointer g0_t)]) mixedPP Tryz.func36 (c := bodyOf Tryz.f36) (by kernel_rfl) (by kernel_rfl) (by kernel_rfl) (Eq.mpr (E_siread_Table_Fine g0_t h Q) H)
def F_liverylaw15_SsiAlone (g0_n_0 : Int) (g0_n_1 : Int) (g0_n_2 : Int) (g1_steps : Sl) (h : Hp) (Q : List Value → Hp → Prop) : Prop :=
wth (Array.push h (Obj.cells #[(Value.int .u8 g0_n_0), (Value.int .u8 g0_n_1), (Value.int .u8 g0_n_2)] T_3_uint8)) fun h1 =>
ixOk (0 : Int) 3 (∃ n2 : Int, rd h1 (Addr.add (Addr.mk (Array.size h) 0 none) (Int.toNat (0 : Int) * 1)) = some (Value.int .u8 n2) ∧
  divOk (6 : Int) (ixOk (1 : Int) 3 (∃ n3 : Int, rd h1 (Addr.add (Addr.mk (Array.size h) 0 none) (Int.toNat (1 : Int) * 1)) = some (Value.int .u8 n3) ∧
      divOk (20 : Int) (ixOk (2 : Int) 3 (∃ n4 : Int, rd h1 (Addr.add (Addr.mk (Array.size h) 0 none) (Int.toNat (2 : Int) * 1)) = some (Value.int .u8 n4) ∧
          divOk (5 : Int) (S_liverylaw15_Made (IntKind.wrap .i64 ((1 : Int) + (Int.tmod (IntKind.wrap .i64 n2) (6 : Int)))) (IntKind.wrap .i64 ((1 : Int) + (Int.tmod (IntKind.wrap .i64 n3) (20 : Int)))) (Int.tmod (IntKind.wrap .i64 n4) (5 : Int)) h1 fun (vs5 : List Value) (h6 : Hp) =>
            ∃ p7 : Option Addr, ∃ p8 : Option Addr, ∃ b9 : Bool, vs5 = [(Value.pointer p7), (Value.pointer p8), (Value.bool b9)] ∧
            ∀ J10 : List Value → Hp → Prop, (∀ b11 : Bool, ∀ h12 : Hp, ((if b11 = true then
                  (∀ J13 : List Value → Hp → Prop, (∀ b14 : Bool, ∀ h15 : Hp, (Q [(Value.bool b14)] h15) → J13 [(Value.bool b14)] h15) →
                    (if b9 = true then (S_liverylaw15_wakes  h12 fun (vs16 : List Value) (h17 : Hp) =>
                        ∃ b18 : Bool, vs16 = [(Value.bool b18)] ∧
                        J13 [(Value.bool b18)] h17) else
                      (J13 [(Value.bool false)] h12))) else
                  (∀ X19 : List Value → Hp → Prop, (∀ n20 : Int, ∀ n21 : Int, ∀ h22 : Hp, ((if (decide (n21 < (g1_steps.n : Int))) = true then
                          (nilW g1_steps.a fun a23 => ixOk n21 g1_steps.n (∃ n24 : Int, rd h22 (Addr.add (Addr.add a23 (Int.toNat n21 * 9)) 0) = some (Value.int .i64 n24) ∧ ∃ n25 : Int, rd h22 (Addr.add (Addr.add a23 (Int.toNat n21 * 9)) 1) = some (Value.int .i64 n25) ∧ ∃ n26 : Int, rd h22 (Addr.add (Addr.add a23 (Int.toNat n21 * 9)) 2) = some (Value.int .i64 n26) ∧ ∃ b27 : Bool, rd h22 (Addr.add (Addr.add a23 (Int.toNat n21 * 9)) 3) = some (Value.bool b27) ∧ ∃ n28 : Int, rd h22 (Addr.add (Addr.add a23 (Int.toNat n21 * 9)) 4) = some (Value.int .i64 n28) ∧ ∃ s29 : ByteArray, rd h22 (Addr.add (Addr.add a23 (Int.toNat n21 * 9)) 5) = some (Value.string s29) ∧ ∃ n30 : Int, rd h22 (Addr.add (Addr.add a23 (Int.toNat n21 * 9)) 6) = some (Value.int .i64 n30) ∧ ∃ s31 : ByteArray, rd h22 (Addr.add (Addr.add a23 (Int.toNat n21 * 9)) 7) = some (Value.string s31) ∧ ∃ n32 : Int, rd h22 (Addr.add (Addr.add a23 (Int.toNat n21 * 9)) 8) = some (Value.int .i64 n32) ∧ wth (Array.push h22 (Obj.cells #[(Value.int .i64 (0 : Int)), (Value.int .i64 (0 : Int)), (Value.int .i64 (0 : Int)), (Value.bool false), (Value.int .i64 (0 : Int)), (Value.string (ByteArray.mk #[])), (Value.int .i64 (0 : Int)), (Value.string (ByteArray.mk #[])), (Value.int .i64 (0 : Int))] T_liverylaw15_Step)) fun h33 =>
                              stOk h33 (Addr.mk (Array.size h22) 0 none) 9 ∧ wth (wrs h33 (Addr.mk (Array.size h22) 0 none) 0 [(Value.int .i64 n24), (Value.int .i64 n25), (Value.int .i64 n26), (Value.bool b27), (Value.int .i64 n28), (Value.string s29), (Value.int .i64 n30), (Value.string s31), (Value.int .i64 n32)]) fun h34 =>
                              ∀ J35 : List Value → Hp → Prop, (∀ n36 : Int, ∀ h37 : Hp, (∀ J38 : List Value → Hp → Prop, (∀ b39 : Bool, ∀ h40 : Hp, ((if b39 = true then
                                        (Q [(Value.bool false)] h40) else
                                        (∀ J41 : List Value → Hp → Prop, (∀ b42 : Bool, ∀ h43 : Hp, ((if b42 = true then
                                                (Q [(Value.bool false)] h43) else
                                                (X19 [(Value.int .i64 n36), (Value.int .i64 (IntKind.wrap .i64 (n21 + (1 : Int))))] h43))) → J41 [(Value.bool b42)] h43) →
                                          (if (n36 == (0 : Int)) = true then (S_ssi_Ssi_Table p7 h40 fun (vs44 : List Value) (h45 : Hp) =>
                                              ∃ p46 : Option Addr, vs44 = [(Value.pointer p46)] ∧
                                              S_siread_Table_Fine p46 h45 fun (vs47 : List Value) (h48 : Hp) =>
                                              ∃ n49 : Int, vs47 = [(Value.int .i64 n49)] ∧
                                              (if (n49 != (0 : Int)) = true then (J41 [(Value.bool true)] h48) else
                                                (S_ssi_Ssi_Table p7 h48 fun (vs50 : List Value) (h51 : Hp) =>
                                                  ∃ p52 : Option Addr, vs50 = [(Value.pointer p52)] ∧
                                                  S_siread_Table_Of p52 (0 : Int) h51 fun (vs53 : List Value) (h54 : Hp) =>
                                                  ∃ l55 : Sl, vs53 = [(Value.slice l55.a l55.n l55.c)] ∧
                                                  (if ((l55.n : Int) != (0 : Int)) = true then (J41 [(Value.bool true)] h54) else
                                                    (S_ssi_Ssi_Table p7 h54 fun (vs56 : List Value) (h57 : Hp) =>
                                                      ∃ p58 : Option Addr, vs56 = [(Value.pointer p58)] ∧
                                                      S_siread_Table_Old p58 h57 fun (vs59 : List Value) (h60 : Hp) =>
                                                      ∃ n61 : Int, vs59 = [(Value.int .i64 n61)] ∧
                                                      J41 [(Value.bool (n61 != (0 : Int)))] h60))))) else
                                            (J41 [(Value.bool false)] h40))))) → J38 [(Value.bool b39)] h40) →
                                  (if (n36 != (0 : Int)) = true then (S_ssi_Ssi_Doomed p7 n36 h37 fun (vs62 : List Value) (h63 : Hp) =>
                                      ∃ b64 : Bool, vs62 = [(Value.bool b64)] ∧
                                      J38 [(Value.bool b64)] h63) else
                                    (J38 [(Value.bool false)] h37))) → J35 [(Value.int .i64 n36)] h37) →
                              ∀ J65 : List Value → Hp → Prop, (∀ b66 : Bool, ∀ h67 : Hp, ((if b66 = true then
                                    (∃ b68 : Bool, rd h67 (Addr.add (Addr.mk (Array.size h22) 0 none) 3) = some (Value.bool b68) ∧
                                      S_ssi_Ssi_Begin p7 b68 h67 fun (vs69 : List Value) (h70 : Hp) =>
                                      ∃ n71 : Int, ∃ n72 : Int, vs69 = [(Value.int .i64 n71), (Value.int .i64 n72)] ∧
                                      (if (n72 != (0 : Int)) = true then
                                        (Q [(Value.bool false)] h70) else
                                        (J35 [(Value.int .i64 n71)] h70))) else
                                    (∀ J73 : List Value → Hp → Prop, (∀ b74 : Bool, ∀ h75 : Hp, ((if b74 = true then
                                            (S_ssi_Ssi_Commit p7 n20 h75 fun (vs76 : List Value) (h77 : Hp) =>
                                              ∃ n78 : Int, vs76 = [(Value.int .i64 n78)] ∧
                                              (if (n78 != (0 : Int)) = true then
                                                (Q [(Value.bool false)] h77) else
                                                (J35 [(Value.int .i64 (0 : Int))] h77))) else
                                            (∀ J79 : List Value → Hp → Prop, (∀ b80 : Bool, ∀ h81 : Hp, ((if b80 = true then
                                                    (S_ssi_Ssi_Abort p7 n20 h81 fun (vs82 : List Value) (h83 : Hp) =>
                                                      ∃ n84 : Int, vs82 = [(Value.int .i64 n84)] ∧
                                                      J35 [(Value.int .i64 (0 : Int))] h83) else
                                                    (∃ n85 : Int, rd h81 (Addr.add (Addr.mk (Array.size h22) 0 none) 0) = some (Value.int .i64 n85) ∧
                                                      (if (n85 == (3 : Int)) = true then
                                                        (∃ n86 : Int, rd h81 (Addr.add (Addr.add (Addr.mk (Array.size h22) 0 none) 4) 0) = some (Value.int .i64 n86) ∧ ∃ s87 : ByteArray, rd h81 (Addr.add (Addr.add (Addr.mk (Array.size h22) 0 none) 4) 1) = some (Value.string s87) ∧ ∃ n88 : Int, rd h81 (Addr.add (Addr.add (Addr.mk (Array.size h22) 0 none) 4) 2) = some (Value.int .i64 n88) ∧ ∃ s89 : ByteArray, rd h81 (Addr.add (Addr.add (Addr.mk (Array.size h22) 0 none) 4) 3) = some (Value.string s89) ∧ ∃ n90 : Int, rd h81 (Addr.add (Addr.add (Addr.mk (Array.size h22) 0 none) 4) 4) = some (Value.int .i64 n90) ∧ S_ssi_Ssi_Read p7 n20 n86 s87 n88 s89 n90 h81 fun (vs91 : List Value) (h92 : Hp) =>
                                                          vs91 = [] ∧
                                                          J35 [(Value.int .i64 n20)] h92) else
                                                        (∃ n93 : Int, rd h81 (Addr.add (Addr.mk (Array.size h22) 0 none) 0) = some (Value.int .i64 n93) ∧
                                                          (if (n93 == (4 : Int)) = true then
                                                            (∃ n94 : Int, rd h81 (Addr.add (Addr.add (Addr.mk (Array.size h22) 0 none) 4) 0) = some (Value.int .i64 n94) ∧ ∃ s95 : ByteArray, rd h81 (Addr.add (Addr.add (Addr.mk (Array.size h22) 0 none) 4) 1) = some (Value.string s95) ∧ ∃ n96 : Int, rd h81 (Addr.add (Addr.add (Addr.mk (Array.size h22) 0 none) 4) 2) = some (Value.int .i64 n96) ∧ ∃ s97 : ByteArray, rd h81 (Addr.add (Addr.add (Addr.mk (Array.size h22) 0 none) 4) 3) = some (Value.string s97) ∧ ∃ n98 : Int, rd h81 (Addr.add (Addr.add (Addr.mk (Array.size h22) 0 none) 4) 4) = some (Value.int .i64 n98) ∧ S_ssi_Ssi_Wrote p7 n20 n94 s95 n96 s97 n98 h81 fun (vs99 : List Value) (h100 : Hp) =>
                                                            vs99 = [] ∧
                                                            J35 [(Value.int .i64 n20)] h100) else
                                                            (∃ n101 : Int, rd h81 (Addr.add (Addr.mk (Array.size h22) 0 none) 0) = some (Value.int .i64 n101) ∧
                                                            (if (n101 == (5 : Int)) = true then
                                                            (∃ n102 : Int, rd h81 (Addr.add (Addr.mk (Array.size h22) 0 none) 2) = some (Value.int .i64 n102) ∧
                                                            S_ssi_Ssi_Saw p7 n20 n102 h81 fun (vs103 : List Value) (h104 : Hp) =>
                                                            vs103 = [] ∧
                                                            J35 [(Value.int .i64 n20)] h104) else
                                                            (J35 [(Value.int .i64 n20)] h81))))))))) → J79 [(Value.bool b80)] h81) →
                                              ∃ n105 : Int, rd h75 (Addr.add (Addr.mk (Array.size h22) 0 none) 0) = some (Value.int .i64 n105) ∧
                                              (if (n105 == (2 : Int)) = true then (J79 [(Value.bool (n20 != (0 : Int)))] h75) else
                                                (J79 [(Value.bool false)] h75))))) → J73 [(Value.bool b74)] h75) →
                                      ∃ n106 : Int, rd h67 (Addr.add (Addr.mk (Array.size h22) 0 none) 0) = some (Value.int .i64 n106) ∧
                                      (if (n106 == (1 : Int)) = true then (J73 [(Value.bool (n20 != (0 : Int)))] h67) else
                                        (J73 [(Value.bool false)] h67))))) → J65 [(Value.bool b66)] h67) →
                              ∃ n107 : Int, rd h34 (Addr.add (Addr.mk (Array.size h22) 0 none) 0) = some (Value.int .i64 n107) ∧
                              (if (n107 == (0 : Int)) = true then (J65 [(Value.bool (n20 == (0 : Int)))] h34) else
                                (J65 [(Value.bool false)] h34)))) else
                          (S_ssi_Ssi_Edges p7 h22 fun (vs108 : List Value) (h109 : Hp) =>
                            ∃ p110 : Option Addr, vs108 = [(Value.pointer p110)] ∧
                            S_edge_Edges_All p110 h109 fun (vs111 : List Value) (h112 : Hp) =>
                            ∃ l113 : Sl, vs111 = [(Value.slice l113.a l113.n l113.c)] ∧
                            (if ((l113.n : Int) == (0 : Int)) = true then (S_clog_Log_Running p8 h112 fun (vs114 : List Value) (h115 : Hp) =>
                                ∃ l116 : Sl, vs114 = [(Value.slice l116.a l116.n l116.c)] ∧
                                (if (decide ((l116.n : Int) ≤ (1 : Int))) = true then (S_liverylaw15_wakes  h115 fun (vs117 : List Value) (h118 : Hp) =>
                                    ∃ b119 : Bool, vs117 = [(Value.bool b119)] ∧
                                    Q [(Value.bool b119)] h118) else
                                  (Q [(Value.bool false)] h115))) else
                              (Q [(Value.bool false)] h112))))) → X19 [(Value.int .i64 n20), (Value.int .i64 n21)] h22) →
                    X19 [(Value.int .i64 (0 : Int)), (Value.int .i64 (0 : Int))] h12))) → J10 [(Value.bool b11)] h12) →
            (if (!b9) = true then (J10 [(Value.bool true)] h6) else
              (S_liverylaw15_Fair ⟨g1_steps.a, g1_steps.n, g1_steps.c⟩ h6 fun (vs120 : List Value) (h121 : Hp) =>
                ∃ b122 : Bool, vs120 = [(Value.bool b122)] ∧
                J10 [(Value.bool (!b122))] h121))))))))
def A_liverylaw15_SsiAlone : Ann := (.mk none ⟨[], []⟩ .nil (.mk none ⟨[], []⟩ .nil (.mk none ⟨[], []⟩ (.mk none ⟨[], []⟩ (.mk (some ⟨[1, 5, 6, 7], [(38, (.c .bool))]⟩) ⟨[], []⟩ .nil .nil) (.mk none ⟨[], []⟩ (.mk none ⟨[], []⟩ (.mk (some ⟨[], [(4, (.c .bool))]⟩) ⟨[], []⟩ .nil .nil) .nil) .nil)) (.mk none ⟨[], []⟩ .nil (.mk none ⟨[], []⟩ (.mk none ⟨[], []⟩ .nil (.mk none ⟨[], []⟩ (.mk none ⟨[1, 5, 6], [(8, (.c (.int .i64))), (9, (.c (.int .i64)))]⟩ (.mk none ⟨[], []⟩ .nil (.mk none ⟨[], []⟩ (.mk none ⟨[], []⟩ (.mk none ⟨[], []⟩ .nil (.mk none ⟨[], []⟩ (.mk (some ⟨[1, 5, 6, 9], [(8, (.c (.int .i64)))]⟩) ⟨[], []⟩ (.mk none ⟨[], []⟩ (.mk (some ⟨[1, 5, 6, 8, 9, 10], [(53, (.c .bool))]⟩) ⟨[], []⟩ .nil .nil) (.mk none ⟨[], []⟩ .nil (.mk none ⟨[], []⟩ (.mk (some ⟨[1, 5, 6, 8, 9, 10], [(71, (.c .bool))]⟩) ⟨[], []⟩ .nil .nil) (.mk none ⟨[], []⟩ .nil (.mk none ⟨[], []⟩ (.mk (some ⟨[1, 5, 6, 8, 9, 10], [(83, (.c .bool))]⟩) ⟨[], []⟩ .nil .nil) .nil))))) .nil) (.mk none ⟨[], []⟩ (.mk none ⟨[], []⟩ (.mk (some ⟨[1, 5, 6, 8, 9], [(127, (.c .bool))]⟩) ⟨[], []⟩ .nil .nil) .nil) (.mk none ⟨[], []⟩ (.mk (some ⟨[1, 5, 6, 8, 9], [(148, (.c .bool))]⟩) ⟨[], []⟩ .nil .nil) .nil)))) .nil) .nil)) .nil) .nil)) .nil)))))
theorem E_liverylaw15_SsiAlone (g0_n_0 : Int) (g0_n_1 : Int) (g0_n_2 : Int) (g1_steps : Sl) (h : Hp) (Q : List Value → Hp → Prop) : cw PP 163 (fun _ => []) (bodyOf Tryz.f8) A_liverylaw15_SsiAlone (finQ PP (Tryz.f8.results.toList) Q) (argFr [(Value.agg #[(Value.int .u8 g0_n_0), (Value.int .u8 g0_n_1), (Value.int .u8 g0_n_2)]), (Value.slice g1_steps.a g1_steps.n g1_steps.c)]) h = F_liverylaw15_SsiAlone g0_n_0 g0_n_1 g0_n_2 g1_steps h Q := by kernel_rfl
theorem O_liverylaw15_SsiAlone (g0_n_0 : Int) (g0_n_1 : Int) (g0_n_2 : Int) (g1_steps : Sl) {h : Hp} {Q : List Value → Hp → Prop} (H : F_liverylaw15_SsiAlone g0_n_0 g0_n_1 g0_n_2 g1_steps h Q) : S_liverylaw15_SsiAlone g0_n_0 g0_n_1 g0_n_2 g1_steps h Q :=
  fn_of_cw (hs := (fun _ => [])) (ann := A_liverylaw15_SsiAlone) (args := [(Value.agg #[(Value.int .u8 g0_n_0), (Value.int .u8 g0_n_1), (Value.int .u8 g0_n_2)]), (Value.slice g1_steps.a g1_steps.n g1_steps.c)]) mixedPP Tryz.func8 (c := bodyOf Tryz.f8) (by kernel_rfl) (by kernel_rfl) (by kernel_rfl) (Eq.mpr (E_liverylaw15_SsiAlone g0_n_0 g0_n_1 g0_n_2 g1_steps h Q) H)
def F_clog_Log_Clock (g0_l : Option Addr) (h : Hp) (Q : List Value → Hp → Prop) : Prop :=
(if (Option.isNone g0_l) = true then
  (Q [(Value.int .i64 (0 : Int))] h) else
  (nilW g0_l fun a1 => ∃ n2 : Int, rd h (Addr.add a1 805) = some (Value.int .i64 n2) ∧
    Q [(Value.int .i64 n2)] h))
def A_clog_Log_Clock : Ann := .nil
theorem E_clog_Log_Clock (g0_l : Option Addr) (h : Hp) (Q : List Value → Hp → Prop) : cw PP 9 (fun _ => []) (bodyOf Tryz.f145) A_clog_Log_Clock (finQ PP (Tryz.f145.results.toList) Q) (argFr [(Value.pointer g0_l)]) h = F_clog_Log_Clock g0_l h Q := by kernel_rfl
theorem O_clog_Log_Clock (g0_l : Option Addr) {h : Hp} {Q : List Value → Hp → Prop} (H : F_clog_Log_Clock g0_l h Q) : S_clog_Log_Clock g0_l h Q :=
  fn_of_cw (hs := (fun _ => [])) (ann := A_clog_Log_Clock) (args := [(Value.pointer g0_l)]) mixedPP Tryz.func145 (c := bodyOf Tryz.f145) (by kernel_rfl) (by kernel_rfl) (by kernel_rfl) (Eq.mpr (E_clog_Log_Clock g0_l h Q) H)
def F_clog_Log_Horizon (g0_l : Option Addr) (h : Hp) (Q : List Value → Hp → Prop) : Prop :=
S_clog_Log_Clock g0_l h fun (vs1 : List Value) (h2 : Hp) =>
∃ n3 : Int, vs1 = [(Value.int .i64 n3)] ∧
S_clog_Log_Running g0_l h2 fun (vs4 : List Value) (h5 : Hp) =>
∃ l6 : Sl, vs4 = [(Value.slice l6.a l6.n l6.c)] ∧
∀ X7 : List Value → Hp → Prop, (∀ n8 : Int, ∀ n9 : Int, ∀ h10 : Hp, ((if (decide (n9 < (l6.n : Int))) = true then
      (nilW l6.a fun a11 => ixOk n9 l6.n (∃ n12 : Int, rd h10 (Addr.add a11 (Int.toNat n9 * 1)) = some (Value.int .i64 n12) ∧
          nilW g0_l fun a13 => ixOk n12 201 (∃ n14 : Int, rd h10 (Addr.add (Addr.add (Addr.add a13 0) (Int.toNat n12 * 4)) 2) = some (Value.int .i64 n14) ∧
            X7 [(Value.int .i64 (mnI n8 n14)), (Value.int .i64 (IntKind.wrap .i64 (n9 + (1 : Int))))] h10))) else
      (Q [(Value.int .i64 n8)] h10))) → X7 [(Value.int .i64 n8), (Value.int .i64 n9)] h10) →
X7 [(Value.int .i64 n3), (Value.int .i64 (0 : Int))] h5
def A_clog_Log_Horizon : Ann := (.mk none ⟨[], []⟩ .nil (.mk none ⟨[], []⟩ .nil (.mk none ⟨[], []⟩ (.mk none ⟨[], []⟩ .nil (.mk none ⟨[], []⟩ (.mk none ⟨[0, 9, 10], [(3, (.c (.int .i64))), (11, (.c (.int .i64)))]⟩ .nil .nil) .nil)) .nil)))
theorem E_clog_Log_Horizon (g0_l : Option Addr) (h : Hp) (Q : List Value → Hp → Prop) : cw PP 26 (fun _ => []) (bodyOf Tryz.f116) A_clog_Log_Horizon (finQ PP (Tryz.f116.results.toList) Q) (argFr [(Value.pointer g0_l)]) h = F_clog_Log_Horizon g0_l h Q := by kernel_rfl
theorem O_clog_Log_Horizon (g0_l : Option Addr) {h : Hp} {Q : List Value → Hp → Prop} (H : F_clog_Log_Horizon g0_l h Q) : S_clog_Log_Horizon g0_l h Q :=
  fn_of_cw (hs := (fun _ => [])) (ann := A_clog_Log_Horizon) (args := [(Value.pointer g0_l)]) mixedPP Tryz.func116 (c := bodyOf Tryz.f116) (by kernel_rfl) (by kernel_rfl) (by kernel_rfl) (Eq.mpr (E_clog_Log_Horizon g0_l h Q) H)
def F_edge_Edges_Old (g0_e : Option Addr) (g1_xid : Int) (h : Hp) (Q : List Value → Hp → Prop) : Prop :=
S_edge_Edges_none g0_e h fun (vs1 : List Value) (h2 : Hp) =>
∃ b3 : Bool, vs1 = [(Value.bool b3)] ∧
(if b3 = true then
  (Q [(Value.int .i64 (0 : Int))] h2) else
  (nilW g0_e fun a4 => ∃ r5 : Option Nat, rd h2 (Addr.add a4 2) = some (Value.map r5) ∧
    ∃ es6 : Array MapEntry, mapAt h2 r5 es6 ∧ KeysLike (Value.int .i64 g1_xid) es6 ∧ ∃ n7 : Int, mgetD (Value.int .i64 g1_xid) es6 (Value.int .i64 (0 : Int)) = (Value.int .i64 n7) ∧
    Q [(Value.int .i64 n7)] h2))
def A_edge_Edges_Old : Ann := .nil
theorem E_edge_Edges_Old (g0_e : Option Addr) (g1_xid : Int) (h : Hp) (Q : List Value → Hp → Prop) : cw PP 13 (fun _ => []) (bodyOf Tryz.f148) A_edge_Edges_Old (finQ PP (Tryz.f148.results.toList) Q) (argFr [(Value.pointer g0_e), (Value.int .i64 g1_xid)]) h = F_edge_Edges_Old g0_e g1_xid h Q := by kernel_rfl
theorem O_edge_Edges_Old (g0_e : Option Addr) (g1_xid : Int) {h : Hp} {Q : List Value → Hp → Prop} (H : F_edge_Edges_Old g0_e g1_xid h Q) : S_edge_Edges_Old g0_e g1_xid h Q :=
  fn_of_cw (hs := (fun _ => [])) (ann := A_edge_Edges_Old) (args := [(Value.pointer g0_e), (Value.int .i64 g1_xid)]) mixedPP Tryz.func148 (c := bodyOf Tryz.f148) (by kernel_rfl) (by kernel_rfl) (by kernel_rfl) (Eq.mpr (E_edge_Edges_Old g0_e g1_xid h Q) H)
def F_ssi_Ssi_Begin_1 (g0_x : Int) (g1_x : Addr) (h : Hp) (Q : List Value → Hp → Prop) : Prop :=
∃ p1 : Option Addr, rd h g1_x = some (Value.pointer p1) ∧
nilW p1 fun a2 => ∃ p3 : Option Addr, rd h (Addr.add a2 0) = some (Value.pointer p3) ∧
S_clog_Log_Reads p3 g0_x h fun (vs4 : List Value) (h5 : Hp) =>
∃ b6 : Bool, vs4 = [(Value.bool b6)] ∧
Q [(Value.bool (!b6))] h5
def A_ssi_Ssi_Begin_1 : Ann := .nil
theorem E_ssi_Ssi_Begin_1 (g0_x : Int) (g1_x : Addr) (h : Hp) (Q : List Value → Hp → Prop) : cw PP 11 (fun _ => []) (bodyOf Tryz.f52) A_ssi_Ssi_Begin_1 (finQ PP (Tryz.f52.results.toList) Q) (argFr [(Value.int .i64 g0_x), (Value.pointer (some g1_x))]) h = F_ssi_Ssi_Begin_1 g0_x g1_x h Q := by kernel_rfl
theorem O_ssi_Ssi_Begin_1 (g0_x : Int) (g1_x : Addr) {h : Hp} {Q : List Value → Hp → Prop} (H : F_ssi_Ssi_Begin_1 g0_x g1_x h Q) : S_ssi_Ssi_Begin_1 g0_x g1_x h Q :=
  fn_of_cw (hs := (fun _ => [])) (ann := A_ssi_Ssi_Begin_1) (args := [(Value.int .i64 g0_x), (Value.pointer (some g1_x))]) mixedPP Tryz.func52 (c := bodyOf Tryz.f52) (by kernel_rfl) (by kernel_rfl) (by kernel_rfl) (Eq.mpr (E_ssi_Ssi_Begin_1 g0_x g1_x h Q) H)
def F_cmp_Or_int (g0_vals : Sl) (h : Hp) (Q : List Value → Hp → Prop) : Prop :=
∀ X1 : List Value → Hp → Prop, (∀ n2 : Int, ∀ h3 : Hp, ((if (decide (n2 < (g0_vals.n : Int))) = true then
      (nilW g0_vals.a fun a4 => ixOk n2 g0_vals.n (∃ n5 : Int, rd h3 (Addr.add a4 (Int.toNat n2 * 1)) = some (Value.int .i64 n5) ∧
          (if (n5 != (0 : Int)) = true then
            (Q [(Value.int .i64 n5)] h3) else
            (X1 [(Value.int .i64 (IntKind.wrap .i64 (n2 + (1 : Int))))] h3)))) else
      (Q [(Value.int .i64 (0 : Int))] h3))) → X1 [(Value.int .i64 n2)] h3) →
X1 [(Value.int .i64 (0 : Int))] h
def A_cmp_Or_int : Ann := (.mk none ⟨[], []⟩ .nil (.mk none ⟨[], []⟩ .nil (.mk none ⟨[], []⟩ (.mk none ⟨[], []⟩ .nil (.mk none ⟨[], []⟩ (.mk none ⟨[3, 6, 7], [(8, (.c (.int .i64)))]⟩ .nil .nil) .nil)) .nil)))
theorem E_cmp_Or_int (g0_vals : Sl) (h : Hp) (Q : List Value → Hp → Prop) : cw PP 18 (fun _ => []) (bodyOf Tryz.f72) A_cmp_Or_int (finQ PP (Tryz.f72.results.toList) Q) (argFr [(Value.slice g0_vals.a g0_vals.n g0_vals.c)]) h = F_cmp_Or_int g0_vals h Q := by kernel_rfl
theorem O_cmp_Or_int (g0_vals : Sl) {h : Hp} {Q : List Value → Hp → Prop} (H : F_cmp_Or_int g0_vals h Q) : S_cmp_Or_int g0_vals h Q :=
  fn_of_cw (hs := (fun _ => [])) (ann := A_cmp_Or_int) (args := [(Value.slice g0_vals.a g0_vals.n g0_vals.c)]) mixedPP Tryz.func72 (c := bodyOf Tryz.f72) (by kernel_rfl) (by kernel_rfl) (by kernel_rfl) (Eq.mpr (E_cmp_Or_int g0_vals h Q) H)
def F_cmp_Compare_int (g0_x : Int) (g1_y : Int) (h : Hp) (Q : List Value → Hp → Prop) : Prop :=
S_cmp_isNaN_int g0_x h fun (vs1 : List Value) (h2 : Hp) =>
∃ b3 : Bool, vs1 = [(Value.bool b3)] ∧
S_cmp_isNaN_int g1_y h2 fun (vs4 : List Value) (h5 : Hp) =>
∃ b6 : Bool, vs4 = [(Value.bool b6)] ∧
(if b3 = true then
  ((if b6 = true then
      (Q [(Value.int .i64 (0 : Int))] h5) else
      (Q [(Value.int .i64 (-1 : Int))] h5))) else
  ((if b6 = true then
      (Q [(Value.int .i64 (1 : Int))] h5) else
      ((if (decide (g0_x < g1_y)) = true then
          (Q [(Value.int .i64 (-1 : Int))] h5) else
          ((if (decide (g0_x > g1_y)) = true then
              (Q [(Value.int .i64 (1 : Int))] h5) else
              (Q [(Value.int .i64 (0 : Int))] h5))))))))
def A_cmp_Compare_int : Ann := .nil
theorem E_cmp_Compare_int (g0_x : Int) (g1_y : Int) (h : Hp) (Q : List Value → Hp → Prop) : cw PP 20 (fun _ => []) (bodyOf Tryz.f73) A_cmp_Compare_int (finQ PP (Tryz.f73.results.toList) Q) (argFr [(Value.int .i64 g0_x), (Value.int .i64 g1_y)]) h = F_cmp_Compare_int g0_x g1_y h Q := by kernel_rfl
theorem O_cmp_Compare_int (g0_x : Int) (g1_y : Int) {h : Hp} {Q : List Value → Hp → Prop} (H : F_cmp_Compare_int g0_x g1_y h Q) : S_cmp_Compare_int g0_x g1_y h Q :=
  fn_of_cw (hs := (fun _ => [])) (ann := A_cmp_Compare_int) (args := [(Value.int .i64 g0_x), (Value.int .i64 g1_y)]) mixedPP Tryz.func73 (c := bodyOf Tryz.f73) (by kernel_rfl) (by kernel_rfl) (by kernel_rfl) (Eq.mpr (E_cmp_Compare_int g0_x g1_y h Q) H)
def F_edge_Edges_All_1 (g0_a_0 : Int) (g0_a_1 : Int) (g1_b_0 : Int) (g1_b_1 : Int) (h : Hp) (Q : List Value → Hp → Prop) : Prop :=
wth (Array.push h (Obj.cells #[(Value.int .i64 g0_a_0), (Value.int .i64 g0_a_1)] T_2_int)) fun h1 =>
wth (Array.push h1 (Obj.cells #[(Value.int .i64 g1_b_0), (Value.int .i64 g1_b_1)] T_2_int)) fun h2 =>
ixOk (0 : Int) 2 (∃ n3 : Int, rd h2 (Addr.add (Addr.mk (Array.size h) 0 none) (Int.toNat (0 : Int) * 1)) = some (Value.int .i64 n3) ∧
  ixOk (0 : Int) 2 (∃ n4 : Int, rd h2 (Addr.add (Addr.mk (Array.size h1) 0 none) (Int.toNat (0 : Int) * 1)) = some (Value.int .i64 n4) ∧
    ixOk (1 : Int) 2 (∃ n5 : Int, rd h2 (Addr.add (Addr.mk (Array.size h) 0 none) (Int.toNat (1 : Int) * 1)) = some (Value.int .i64 n5) ∧
      ixOk (1 : Int) 2 (∃ n6 : Int, rd h2 (Addr.add (Addr.mk (Array.size h1) 0 none) (Int.toNat (1 : Int) * 1)) = some (Value.int .i64 n6) ∧
        S_cmp_Compare_int n3 n4 h2 fun (vs7 : List Value) (h8 : Hp) =>
        ∃ n9 : Int, vs7 = [(Value.int .i64 n9)] ∧
        rd h8 (Addr.add (Addr.mk (Array.size h1) 0 none) (Int.toNat (1 : Int) * 1)) = some (Value.int .i64 n6) ∧ rd h8 (Addr.add (Addr.mk (Array.size h) 0 none) (Int.toNat (1 : Int) * 1)) = some (Value.int .i64 n5) ∧ S_cmp_Compare_int n5 n6 h8 fun (vs10 : List Value) (h11 : Hp) =>
        ∃ n12 : Int, vs10 = [(Value.int .i64 n12)] ∧
        wth (Array.push h11 (Obj.cells #[(Value.int .i64 n9), (Value.int .i64 n12)] T_int)) fun h13 =>
        S_cmp_Or_int ⟨(some (Addr.mk (Array.size h11) 0 none)), 2, 2⟩ h13 fun (vs14 : List Value) (h15 : Hp) =>
        ∃ n16 : Int, vs14 = [(Value.int .i64 n16)] ∧
        Q [(Value.int .i64 n16)] h15))))
def A_edge_Edges_All_1 : Ann := .nil
theorem E_edge_Edges_All_1 (g0_a_0 : Int) (g0_a_1 : Int) (g1_b_0 : Int) (g1_b_1 : Int) (h : Hp) (Q : List Value → Hp → Prop) : cw PP 17 (fun _ => []) (bodyOf Tryz.f71) A_edge_Edges_All_1 (finQ PP (Tryz.f71.results.toList) Q) (argFr [(Value.agg #[(Value.int .i64 g0_a_0), (Value.int .i64 g0_a_1)]), (Value.agg #[(Value.int .i64 g1_b_0), (Value.int .i64 g1_b_1)])]) h = F_edge_Edges_All_1 g0_a_0 g0_a_1 g1_b_0 g1_b_1 h Q := by kernel_rfl
theorem O_edge_Edges_All_1 (g0_a_0 : Int) (g0_a_1 : Int) (g1_b_0 : Int) (g1_b_1 : Int) {h : Hp} {Q : List Value → Hp → Prop} (H : F_edge_Edges_All_1 g0_a_0 g0_a_1 g1_b_0 g1_b_1 h Q) : S_edge_Edges_All_1 g0_a_0 g0_a_1 g1_b_0 g1_b_1 h Q :=
  fn_of_cw (hs := (fun _ => [])) (ann := A_edge_Edges_All_1) (args := [(Value.agg #[(Value.int .i64 g0_a_0), (Value.int .i64 g0_a_1)]), (Value.agg #[(Value.int .i64 g1_b_0), (Value.int .i64 g1_b_1)])]) mixedPP Tryz.func71 (c := bodyOf Tryz.f71) (by kernel_rfl) (by kernel_rfl) (by kernel_rfl) (Eq.mpr (E_edge_Edges_All_1 g0_a_0 g0_a_1 g1_b_0 g1_b_1 h Q) H)
def F_cmp_isNaN_string (g0_x : ByteArray) (h : Hp) (Q : List Value → Hp → Prop) : Prop :=
Q [(Value.bool (!((ByteArray.toList g0_x) == (ByteArray.toList g0_x))))] h
def A_cmp_isNaN_string : Ann := .nil
theorem E_cmp_isNaN_string (g0_x : ByteArray) (h : Hp) (Q : List Value → Hp → Prop) : cw PP 6 (fun _ => []) (bodyOf Tryz.f158) A_cmp_isNaN_string (finQ PP (Tryz.f158.results.toList) Q) (argFr [(Value.string g0_x)]) h = F_cmp_isNaN_string g0_x h Q := by kernel_rfl
theorem O_cmp_isNaN_string (g0_x : ByteArray) {h : Hp} {Q : List Value → Hp → Prop} (H : F_cmp_isNaN_string g0_x h Q) : S_cmp_isNaN_string g0_x h Q :=
  fn_of_cw (hs := (fun _ => [])) (ann := A_cmp_isNaN_string) (args := [(Value.string g0_x)]) mixedPP Tryz.func158 (c := bodyOf Tryz.f158) (by kernel_rfl) (by kernel_rfl) (by kernel_rfl) (Eq.mpr (E_cmp_isNaN_string g0_x h Q) H)
def F_cmp_Compare_string (g0_x : ByteArray) (g1_y : ByteArray) (h : Hp) (Q : List Value → Hp → Prop) : Prop :=
S_cmp_isNaN_string g0_x h fun (vs1 : List Value) (h2 : Hp) =>
∃ b3 : Bool, vs1 = [(Value.bool b3)] ∧
S_cmp_isNaN_string g1_y h2 fun (vs4 : List Value) (h5 : Hp) =>
∃ b6 : Bool, vs4 = [(Value.bool b6)] ∧
(if b3 = true then
  ((if b6 = true then
      (Q [(Value.int .i64 (0 : Int))] h5) else
      (Q [(Value.int .i64 (-1 : Int))] h5))) else
  ((if b6 = true then
      (Q [(Value.int .i64 (1 : Int))] h5) else
      ((if (Op.bytesLess (ByteArray.toList g0_x) (ByteArray.toList g1_y)) = true then
          (Q [(Value.int .i64 (-1 : Int))] h5) else
          ((if (!(Op.bytesLess (ByteArray.toList g0_x) (ByteArray.toList g1_y) || (ByteArray.toList g0_x) == (ByteArray.toList g1_y))) = true then
              (Q [(Value.int .i64 (1 : Int))] h5) else
              (Q [(Value.int .i64 (0 : Int))] h5))))))))
def A_cmp_Compare_string : Ann := .nil
theorem E_cmp_Compare_string (g0_x : ByteArray) (g1_y : ByteArray) (h : Hp) (Q : List Value → Hp → Prop) : cw PP 20 (fun _ => []) (bodyOf Tryz.f129) A_cmp_Compare_string (finQ PP (Tryz.f129.results.toList) Q) (argFr [(Value.string g0_x), (Value.string g1_y)]) h = F_cmp_Compare_string g0_x g1_y h Q := by kernel_rfl
theorem O_cmp_Compare_string (g0_x : ByteArray) (g1_y : ByteArray) {h : Hp} {Q : List Value → Hp → Prop} (H : F_cmp_Compare_string g0_x g1_y h Q) : S_cmp_Compare_string g0_x g1_y h Q :=
  fn_of_cw (hs := (fun _ => [])) (ann := A_cmp_Compare_string) (args := [(Value.string g0_x), (Value.string g1_y)]) mixedPP Tryz.func129 (c := bodyOf Tryz.f129) (by kernel_rfl) (by kernel_rfl) (by kernel_rfl) (Eq.mpr (E_cmp_Compare_string g0_x g1_y h Q) H)
def F_siread_compare (g0_a_0 : Int) (g0_a_1 : ByteArray) (g0_a_2 : Int) (g0_a_3 : ByteArray) (g0_a_4 : Int) (g1_b_0 : Int) (g1_b_1 : ByteArray) (g1_b_2 : Int) (g1_b_3 : ByteArray) (g1_b_4 : Int) (h : Hp) (Q : List Value → Hp → Prop) : Prop :=
wth (Array.push h (Obj.cells #[(Value.int .i64 g0_a_0), (Value.string g0_a_1), (Value.int .i64 g0_a_2), (Value.string g0_a_3), (Value.int .i64 g0_a_4)] T_siread_Thing)) fun h1 =>
wth (Array.push h1 (Obj.cells #[(Value.int .i64 g1_b_0), (Value.string g1_b_1), (Value.int .i64 g1_b_2), (Value.string g1_b_3), (Value.int .i64 g1_b_4)] T_siread_Thing)) fun h2 =>
∃ n3 : Int, rd h2 (Addr.add (Addr.mk (Array.size h) 0 none) 0) = some (Value.int .i64 n3) ∧
∃ n4 : Int, rd h2 (Addr.add (Addr.mk (Array.size h1) 0 none) 0) = some (Value.int .i64 n4) ∧
∃ s5 : ByteArray, rd h2 (Addr.add (Addr.mk (Array.size h) 0 none) 1) = some (Value.string s5) ∧
∃ s6 : ByteArray, rd h2 (Addr.add (Addr.mk (Array.size h1) 0 none) 1) = some (Value.string s6) ∧
∃ n7 : Int, rd h2 (Addr.add (Addr.mk (Array.size h) 0 none) 2) = some (Value.int .i64 n7) ∧
∃ n8 : Int, rd h2 (Addr.add (Addr.mk (Array.size h1) 0 none) 2) = some (Value.int .i64 n8) ∧
∃ s9 : ByteArray, rd h2 (Addr.add (Addr.mk (Array.size h) 0 none) 3) = some (Value.string s9) ∧
∃ s10 : ByteArray, rd h2 (Addr.add (Addr.mk (Array.size h1) 0 none) 3) = some (Value.string s10) ∧
∃ n11 : Int, rd h2 (Addr.add (Addr.mk (Array.size h) 0 none) 4) = some (Value.int .i64 n11) ∧
∃ n12 : Int, rd h2 (Addr.add (Addr.mk (Array.size h1) 0 none) 4) = some (Value.int .i64 n12) ∧
S_cmp_Compare_int n3 n4 h2 fun (vs13 : List Value) (h14 : Hp) =>
∃ n15 : Int, vs13 = [(Value.int .i64 n15)] ∧
rd h14 (Addr.add (Addr.mk (Array.size h1) 0 none) 4) = some (Value.int .i64 n12) ∧ rd h14 (Addr.add (Addr.mk (Array.size h) 0 none) 4) = some (Value.int .i64 n11) ∧ rd h14 (Addr.add (Addr.mk (Array.size h1) 0 none) 3) = some (Value.string s10) ∧ rd h14 (Addr.add (Addr.mk (Array.size h) 0 none) 3) = some (Value.string s9) ∧ rd h14 (Addr.add (Addr.mk (Array.size h1) 0 none) 2) = some (Value.int .i64 n8) ∧ rd h14 (Addr.add (Addr.mk (Array.size h) 0 none) 2) = some (Value.int .i64 n7) ∧ rd h14 (Addr.add (Addr.mk (Array.size h1) 0 none) 1) = some (Value.string s6) ∧ rd h14 (Addr.add (Addr.mk (Array.size h) 0 none) 1) = some (Value.string s5) ∧ S_cmp_Compare_string s5 s6 h14 fun (vs16 : List Value) (h17 : Hp) =>
∃ n18 : Int, vs16 = [(Value.int .i64 n18)] ∧
rd h17 (Addr.add (Addr.mk (Array.size h1) 0 none) 4) = some (Value.int .i64 n12) ∧ rd h17 (Addr.add (Addr.mk (Array.size h) 0 none) 4) = some (Value.int .i64 n11) ∧ rd h17 (Addr.add (Addr.mk (Array.size h1) 0 none) 3) = some (Value.string s10) ∧ rd h17 (Addr.add (Addr.mk (Array.size h) 0 none) 3) = some (Value.string s9) ∧ rd h17 (Addr.add (Addr.mk (Array.size h1) 0 none) 2) = some (Value.int .i64 n8) ∧ rd h17 (Addr.add (Addr.mk (Array.size h) 0 none) 2) = some (Value.int .i64 n7) ∧ S_cmp_Compare_int n7 n8 h17 fun (vs19 : List Value) (h20 : Hp) =>
∃ n21 : Int, vs19 = [(Value.int .i64 n21)] ∧
rd h20 (Addr.add (Addr.mk (Array.size h1) 0 none) 4) = some (Value.int .i64 n12) ∧ rd h20 (Addr.add (Addr.mk (Array.size h) 0 none) 4) = some (Value.int .i64 n11) ∧ rd h20 (Addr.add (Addr.mk (Array.size h1) 0 none) 3) = some (Value.string s10) ∧ rd h20 (Addr.add (Addr.mk (Array.size h) 0 none) 3) = some (Value.string s9) ∧ S_cmp_Compare_string s9 s10 h20 fun (vs22 : List Value) (h23 : Hp) =>
∃ n24 : Int, vs22 = [(Value.int .i64 n24)] ∧
rd h23 (Addr.add (Addr.mk (Array.size h1) 0 none) 4) = some (Value.int .i64 n12) ∧ rd h23 (Addr.add (Addr.mk (Array.size h) 0 none) 4) = some (Value.int .i64 n11) ∧ S_cmp_Compare_int n11 n12 h23 fun (vs25 : List Value) (h26 : Hp) =>
∃ n27 : Int, vs25 = [(Value.int .i64 n27)] ∧
wth (Array.push h26 (Obj.cells #[(Value.int .i64 n15), (Value.int .i64 n18), (Value.int .i64 n21), (Value.int .i64 n24), (Value.int .i64 n27)] T_int)) fun h28 =>
S_cmp_Or_int ⟨(some (Addr.mk (Array.size h26) 0 none)), 5, 5⟩ h28 fun (vs29 : List Value) (h30 : Hp) =>
∃ n31 : Int, vs29 = [(Value.int .i64 n31)] ∧
Q [(Value.int .i64 n31)] h30
def A_siread_compare : Ann := .nil
theorem E_siread_compare (g0_a_0 : Int) (g0_a_1 : ByteArray) (g0_a_2 : Int) (g0_a_3 : ByteArray) (g0_a_4 : Int) (g1_b_0 : Int) (g1_b_1 : ByteArray) (g1_b_2 : Int) (g1_b_3 : ByteArray) (g1_b_4 : Int) (h : Hp) (Q : List Value → Hp → Prop) : cw PP 32 (fun _ => []) (bodyOf Tryz.f78) A_siread_compare (finQ PP (Tryz.f78.results.toList) Q) (argFr [(Value.agg #[(Value.int .i64 g0_a_0), (Value.string g0_a_1), (Value.int .i64 g0_a_2), (Value.string g0_a_3), (Value.int .i64 g0_a_4)]), (Value.agg #[(Value.int .i64 g1_b_0), (Value.string g1_b_1), (Value.int .i64 g1_b_2), (Value.string g1_b_3), (Value.int .i64 g1_b_4)])]) h = F_siread_compare g0_a_0 g0_a_1 g0_a_2 g0_a_3 g0_a_4 g1_b_0 g1_b_1 g1_b_2 g1_b_3 g1_b_4 h Q := by kernel_rfl
theorem O_siread_compare (g0_a_0 : Int) (g0_a_1 : ByteArray) (g0_a_2 : Int) (g0_a_3 : ByteArray) (g0_a_4 : Int) (g1_b_0 : Int) (g1_b_1 : ByteArray) (g1_b_2 : Int) (g1_b_3 : ByteArray) (g1_b_4 : Int) {h : Hp} {Q : List Value → Hp → Prop} (H : F_siread_compare g0_a_0 g0_a_1 g0_a_2 g0_a_3 g0_a_4 g1_b_0 g1_b_1 g1_b_2 g1_b_3 g1_b_4 h Q) : S_siread_compare g0_a_0 g0_a_1 g0_a_2 g0_a_3 g0_a_4 g1_b_0 g1_b_1 g1_b_2 g1_b_3 g1_b_4 h Q :=
  fn_of_cw (hs := (fun _ => [])) (ann := A_siread_compare) (args := [(Value.agg #[(Value.int .i64 g0_a_0), (Value.string g0_a_1), (Value.int .i64 g0_a_2), (Value.string g0_a_3), (Value.int .i64 g0_a_4)]), (Value.agg #[(Value.int .i64 g1_b_0), (Value.string g1_b_1), (Value.int .i64 g1_b_2), (Value.string g1_b_3), (Value.int .i64 g1_b_4)])]) mixedPP Tryz.func78 (c := bodyOf Tryz.f78) (by kernel_rfl) (by kernel_rfl) (by kernel_rfl) (Eq.mpr (E_siread_compare g0_a_0 g0_a_1 g0_a_2 g0_a_3 g0_a_4 g1_b_0 g1_b_1 g1_b_2 g1_b_3 g1_b_4 h Q) H)
def F_siread_Table_Owners_1 (g0_y_0 : Int) (g0_y_1 : ByteArray) (g0_y_2 : Int) (g0_y_3 : ByteArray) (g0_y_4 : Int) (g1_x : Addr) (h : Hp) (Q : List Value → Hp → Prop) : Prop :=
wth (Array.push h (Obj.cells #[(Value.int .i64 g0_y_0), (Value.string g0_y_1), (Value.int .i64 g0_y_2), (Value.string g0_y_3), (Value.int .i64 g0_y_4)] T_siread_Thing)) fun h1 =>
∃ n2 : Int, rd h1 (Addr.add (Addr.mk (Array.size h) 0 none) 0) = some (Value.int .i64 n2) ∧ ∃ s3 : ByteArray, rd h1 (Addr.add (Addr.mk (Array.size h) 0 none) 1) = some (Value.string s3) ∧ ∃ n4 : Int, rd h1 (Addr.add (Addr.mk (Array.size h) 0 none) 2) = some (Value.int .i64 n4) ∧ ∃ s5 : ByteArray, rd h1 (Addr.add (Addr.mk (Array.size h) 0 none) 3) = some (Value.string s5) ∧ ∃ n6 : Int, rd h1 (Addr.add (Addr.mk (Array.size h) 0 none) 4) = some (Value.int .i64 n6) ∧ ∃ n7 : Int, rd h1 (Addr.add g1_x 0) = some (Value.int .i64 n7) ∧ ∃ s8 : ByteArray, rd h1 (Addr.add g1_x 1) = some (Value.string s8) ∧ ∃ n9 : Int, rd h1 (Addr.add g1_x 2) = some (Value.int .i64 n9) ∧ ∃ s10 : ByteArray, rd h1 (Addr.add g1_x 3) = some (Value.string s10) ∧ ∃ n11 : Int, rd h1 (Addr.add g1_x 4) = some (Value.int .i64 n11) ∧ (if (n2 == n7 && (s3 == s8 && (n4 == n9 && (s5 == s10 && (n6 == n11 && true))))) = true then (Q [(Value.bool true)] h1) else
  (∃ n12 : Int, rd h1 (Addr.add g1_x 0) = some (Value.int .i64 n12) ∧ ∃ s13 : ByteArray, rd h1 (Addr.add g1_x 1) = some (Value.string s13) ∧ ∃ n14 : Int, rd h1 (Addr.add g1_x 2) = some (Value.int .i64 n14) ∧ ∃ s15 : ByteArray, rd h1 (Addr.add g1_x 3) = some (Value.string s15) ∧ ∃ n16 : Int, rd h1 (Addr.add g1_x 4) = some (Value.int .i64 n16) ∧ S_siread_Thing_fine n12 s13 n14 s15 n16 h1 fun (vs17 : List Value) (h18 : Hp) =>
    ∃ b19 : Bool, vs17 = [(Value.bool b19)] ∧
    (if b19 = true then (∃ n20 : Int, rd h18 (Addr.add (Addr.mk (Array.size h) 0 none) 0) = some (Value.int .i64 n20) ∧ ∃ s21 : ByteArray, rd h18 (Addr.add (Addr.mk (Array.size h) 0 none) 1) = some (Value.string s21) ∧ ∃ n22 : Int, rd h18 (Addr.add (Addr.mk (Array.size h) 0 none) 2) = some (Value.int .i64 n22) ∧ ∃ s23 : ByteArray, rd h18 (Addr.add (Addr.mk (Array.size h) 0 none) 3) = some (Value.string s23) ∧ ∃ n24 : Int, rd h18 (Addr.add (Addr.mk (Array.size h) 0 none) 4) = some (Value.int .i64 n24) ∧ ∃ n25 : Int, rd h18 (Addr.add g1_x 0) = some (Value.int .i64 n25) ∧ ∃ s26 : ByteArray, rd h18 (Addr.add g1_x 1) = some (Value.string s26) ∧ ∃ n27 : Int, rd h18 (Addr.add g1_x 2) = some (Value.int .i64 n27) ∧ ∃ s28 : ByteArray, rd h18 (Addr.add g1_x 3) = some (Value.string s28) ∧ ∃ n29 : Int, rd h18 (Addr.add g1_x 4) = some (Value.int .i64 n29) ∧ S_siread_Thing_rel n25 s26 n27 s28 n29 h18 fun (vs30 : List Value) (h31 : Hp) =>
        ∃ n32 : Int, ∃ s33 : ByteArray, ∃ n34 : Int, ∃ s35 : ByteArray, ∃ n36 : Int, vs30 = [(Value.agg #[(Value.int .i64 n32), (Value.string s33), (Value.int .i64 n34), (Value.string s35), (Value.int .i64 n36)])] ∧
        rd h31 (Addr.add (Addr.mk (Array.size h) 0 none) 0) = some (Value.int .i64 n20) ∧ rd h31 (Addr.add (Addr.mk (Array.size h) 0 none) 1) = some (Value.string s21) ∧ rd h31 (Addr.add (Addr.mk (Array.size h) 0 none) 2) = some (Value.int .i64 n22) ∧ rd h31 (Addr.add (Addr.mk (Array.size h) 0 none) 3) = some (Value.string s23) ∧ rd h31 (Addr.add (Addr.mk (Array.size h) 0 none) 4) = some (Value.int .i64 n24) ∧ Q [(Value.bool (n20 == n32 && (s21 == s33 && (n22 == n34 && (s23 == s35 && (n24 == n36 && true))))))] h31) else
      (Q [(Value.bool false)] h18))))
def A_siread_Table_Owners_1 : Ann := .nil
theorem E_siread_Table_Owners_1 (g0_y_0 : Int) (g0_y_1 : ByteArray) (g0_y_2 : Int) (g0_y_3 : ByteArray) (g0_y_4 : Int) (g1_x : Addr) (h : Hp) (Q : List Value → Hp → Prop) : cw PP 17 (fun _ => []) (bodyOf Tryz.f107) A_siread_Table_Owners_1 (finQ PP (Tryz.f107.results.toList) Q) (argFr [(Value.agg #[(Value.int .i64 g0_y_0), (Value.string g0_y_1), (Value.int .i64 g0_y_2), (Value.string g0_y_3), (Value.int .i64 g0_y_4)]), (Value.pointer (some g1_x))]) h = F_siread_Table_Owners_1 g0_y_0 g0_y_1 g0_y_2 g0_y_3 g0_y_4 g1_x h Q := by kernel_rfl
theorem O_siread_Table_Owners_1 (g0_y_0 : Int) (g0_y_1 : ByteArray) (g0_y_2 : Int) (g0_y_3 : ByteArray) (g0_y_4 : Int) (g1_x : Addr) {h : Hp} {Q : List Value → Hp → Prop} (H : F_siread_Table_Owners_1 g0_y_0 g0_y_1 g0_y_2 g0_y_3 g0_y_4 g1_x h Q) : S_siread_Table_Owners_1 g0_y_0 g0_y_1 g0_y_2 g0_y_3 g0_y_4 g1_x h Q :=
  fn_of_cw (hs := (fun _ => [])) (ann := A_siread_Table_Owners_1) (args := [(Value.agg #[(Value.int .i64 g0_y_0), (Value.string g0_y_1), (Value.int .i64 g0_y_2), (Value.string g0_y_3), (Value.int .i64 g0_y_4)]), (Value.pointer (some g1_x))]) mixedPP Tryz.func107 (c := bodyOf Tryz.f107) (by kernel_rfl) (by kernel_rfl) (by kernel_rfl) (Eq.mpr (E_siread_Table_Owners_1 g0_y_0 g0_y_1 g0_y_2 g0_y_3 g0_y_4 g1_x h Q) H)
def F_ssi_Ssi_clean_1 (g0_x : Int) (g1_x : Addr) (h : Hp) (Q : List Value → Hp → Prop) : Prop :=
∃ p1 : Option Addr, rd h g1_x = some (Value.pointer p1) ∧
nilW p1 fun a2 => ∃ p3 : Option Addr, rd h (Addr.add a2 0) = some (Value.pointer p3) ∧
∃ p4 : Option Addr, rd h g1_x = some (Value.pointer p4) ∧
nilW p4 fun a5 => ∃ p6 : Option Addr, rd h (Addr.add a5 0) = some (Value.pointer p6) ∧
S_clog_Log_Csn p3 g0_x h fun (vs7 : List Value) (h8 : Hp) =>
∃ n9 : Int, vs7 = [(Value.int .i64 n9)] ∧
rd h8 (Addr.add a5 0) = some (Value.pointer p6) ∧ rd h8 g1_x = some (Value.pointer p4) ∧ S_clog_Log_Horizon p6 h8 fun (vs10 : List Value) (h11 : Hp) =>
∃ n12 : Int, vs10 = [(Value.int .i64 n12)] ∧
∀ J13 : List Value → Hp → Prop, (∀ h14 : Hp, (Q [(Value.bool (decide (n9 ≤ n12)))] h14) → J13 [] h14) →
(if (decide (n9 ≤ n12)) = true then
  (∃ p15 : Option Addr, rd h11 g1_x = some (Value.pointer p15) ∧
    nilW p15 fun a16 => ∃ p17 : Option Addr, rd h11 (Addr.add a16 1) = some (Value.pointer p17) ∧
    S_siread_Table_Drop p17 g0_x h11 fun (vs18 : List Value) (h19 : Hp) =>
    vs18 = [] ∧
    J13 [] h19) else
  (J13 [] h11))
def A_ssi_Ssi_clean_1 : Ann := (.mk none ⟨[], []⟩ .nil (.mk none ⟨[], []⟩ .nil (.mk none ⟨[], []⟩ (.mk none ⟨[], []⟩ .nil (.mk (some ⟨[4], []⟩) ⟨[], []⟩ .nil .nil)) .nil)))
theorem E_ssi_Ssi_clean_1 (g0_x : Int) (g1_x : Addr) (h : Hp) (Q : List Value → Hp → Prop) : cw PP 25 (fun _ => []) (bodyOf Tryz.f115) A_ssi_Ssi_clean_1 (finQ PP (Tryz.f115.results.toList) Q) (argFr [(Value.int .i64 g0_x), (Value.pointer (some g1_x))]) h = F_ssi_Ssi_clean_1 g0_x g1_x h Q := by kernel_rfl
theorem O_ssi_Ssi_clean_1 (g0_x : Int) (g1_x : Addr) {h : Hp} {Q : List Value → Hp → Prop} (H : F_ssi_Ssi_clean_1 g0_x g1_x h Q) : S_ssi_Ssi_clean_1 g0_x g1_x h Q :=
  fn_of_cw (hs := (fun _ => [])) (ann := A_ssi_Ssi_clean_1) (args := [(Value.int .i64 g0_x), (Value.pointer (some g1_x))]) mixedPP Tryz.func115 (c := bodyOf Tryz.f115) (by kernel_rfl) (by kernel_rfl) (by kernel_rfl) (Eq.mpr (E_ssi_Ssi_clean_1 g0_x g1_x h Q) H)
def F_siread_Table_Drop_1 (g0_x_0 : Int) (g0_x_1 : ByteArray) (g0_x_2 : Int) (g0_x_3 : ByteArray) (g0_x_4 : Int) (h : Hp) (Q : List Value → Hp → Prop) : Prop :=
wth (Array.push h (Obj.cells #[(Value.int .i64 g0_x_0), (Value.string g0_x_1), (Value.int .i64 g0_x_2), (Value.string g0_x_3), (Value.int .i64 g0_x_4)] T_siread_Thing)) fun h1 =>
Q [(Value.bool true)] h1
def A_siread_Table_Drop_1 : Ann := .nil
theorem E_siread_Table_Drop_1 (g0_x_0 : Int) (g0_x_1 : ByteArray) (g0_x_2 : Int) (g0_x_3 : ByteArray) (g0_x_4 : Int) (h : Hp) (Q : List Value → Hp → Prop) : cw PP 3 (fun _ => []) (bodyOf Tryz.f119) A_siread_Table_Drop_1 (finQ PP (Tryz.f119.results.toList) Q) (argFr [(Value.agg #[(Value.int .i64 g0_x_0), (Value.string g0_x_1), (Value.int .i64 g0_x_2), (Value.string g0_x_3), (Value.int .i64 g0_x_4)])]) h = F_siread_Table_Drop_1 g0_x_0 g0_x_1 g0_x_2 g0_x_3 g0_x_4 h Q := by kernel_rfl
theorem O_siread_Table_Drop_1 (g0_x_0 : Int) (g0_x_1 : ByteArray) (g0_x_2 : Int) (g0_x_3 : ByteArray) (g0_x_4 : Int) {h : Hp} {Q : List Value → Hp → Prop} (H : F_siread_Table_Drop_1 g0_x_0 g0_x_1 g0_x_2 g0_x_3 g0_x_4 h Q) : S_siread_Table_Drop_1 g0_x_0 g0_x_1 g0_x_2 g0_x_3 g0_x_4 h Q :=
  fn_of_cw (hs := (fun _ => [])) (ann := A_siread_Table_Drop_1) (args := [(Value.agg #[(Value.int .i64 g0_x_0), (Value.string g0_x_1), (Value.int .i64 g0_x_2), (Value.string g0_x_3), (Value.int .i64 g0_x_4)])]) mixedPP Tryz.func119 (c := bodyOf Tryz.f119) (by kernel_rfl) (by kernel_rfl) (by kernel_rfl) (Eq.mpr (E_siread_Table_Drop_1 g0_x_0 g0_x_1 g0_x_2 g0_x_3 g0_x_4 h Q) H)
def F_edge_Edges_Drop_1 (g0_x_0 : Int) (g0_x_1 : Int) (g1_x : Int) (g2_x : Addr) (h : Hp) (Q : List Value → Hp → Prop) : Prop :=
wth (Array.push h (Obj.cells #[(Value.int .i64 g0_x_0), (Value.int .i64 g0_x_1)] T_2_int)) fun h1 =>
ixOk (0 : Int) 2 (∃ n2 : Int, rd h1 (Addr.add (Addr.mk (Array.size h) 0 none) (Int.toNat (0 : Int) * 1)) = some (Value.int .i64 n2) ∧
  ∃ n3 : Int, rd h1 g2_x = some (Value.int .i64 n3) ∧
  (if (n2 == n3) = true then (Q [(Value.bool true)] h1) else
    (ixOk (1 : Int) 2 (∃ n4 : Int, rd h1 (Addr.add (Addr.mk (Array.size h) 0 none) (Int.toNat (1 : Int) * 1)) = some (Value.int .i64 n4) ∧
        ∃ n5 : Int, rd h1 g2_x = some (Value.int .i64 n5) ∧
        Q [(Value.bool (n4 == n5))] h1))))
def A_edge_Edges_Drop_1 : Ann := .nil
theorem E_edge_Edges_Drop_1 (g0_x_0 : Int) (g0_x_1 : Int) (g1_x : Int) (g2_x : Addr) (h : Hp) (Q : List Value → Hp → Prop) : cw PP 16 (fun _ => []) (bodyOf Tryz.f121) A_edge_Edges_Drop_1 (finQ PP (Tryz.f121.results.toList) Q) (argFr [(Value.agg #[(Value.int .i64 g0_x_0), (Value.int .i64 g0_x_1)]), (Value.int .i64 g1_x), (Value.pointer (some g2_x))]) h = F_edge_Edges_Drop_1 g0_x_0 g0_x_1 g1_x g2_x h Q := by kernel_rfl
theorem O_edge_Edges_Drop_1 (g0_x_0 : Int) (g0_x_1 : Int) (g1_x : Int) (g2_x : Addr) {h : Hp} {Q : List Value → Hp → Prop} (H : F_edge_Edges_Drop_1 g0_x_0 g0_x_1 g1_x g2_x h Q) : S_edge_Edges_Drop_1 g0_x_0 g0_x_1 g1_x g2_x h Q :=
  fn_of_cw (hs := (fun _ => [])) (ann := A_edge_Edges_Drop_1) (args := [(Value.agg #[(Value.int .i64 g0_x_0), (Value.int .i64 g0_x_1)]), (Value.int .i64 g1_x), (Value.pointer (some g2_x))]) mixedPP Tryz.func121 (c := bodyOf Tryz.f121) (by kernel_rfl) (by kernel_rfl) (by kernel_rfl) (Eq.mpr (E_edge_Edges_Drop_1 g0_x_0 g0_x_1 g1_x g2_x h Q) H)
def F_maps_Keys_map_2_int_int_2_int_int_1 (g0_yield_f : Nat) (g0_yield_c : Array Value) (g1_x : Addr) (h : Hp) (Q : List Value → Hp → Prop) : Prop :=
∃ r1 : Option Nat, rd h g1_x = some (Value.map r1) ∧
∃ o2 : Obj, IterOf h r1 o2 ∧ wth (Array.push h o2) fun h3 =>
∀ X4 : List Value → Hp → Prop, (∀ h5 : Hp, ((Addr.off (Addr.mk (Array.size h) 0 none) = 0 ∧ ∃ o6 : Obj, h5[Addr.block (Addr.mk (Array.size h) 0 none)]? = some o6 ∧ IterGood h5 o6 ∧
      (IterEnd h5 o6 → Q [] h5) ∧
      ∀ (k7 v8 : Value) (o9 : Obj), IterStep h5 o6 k7 v8 o9 → wth (Array.setIfInBounds h5 (Addr.block (Addr.mk (Array.size h) 0 none)) o9) fun h10 =>
      (Addr.off (Addr.mk (Array.size h) 0 none) = 0 ∧ ∃ (m11 n12 : Nat) (q13 : Array Nat) (n14 : Nat) (es15 : Array MapEntry) (c16 : Nat) (e17 : MapEntry), h10[Addr.block (Addr.mk (Array.size h) 0 none)]? = some (.mapIter (some m11) n12 q13 c16) ∧ Array.back? q13 = some n14 ∧ h10[m11]? = some (.map es15 c16) ∧ Array.find? (fun x => x.born == n14) es15 = some e17 ∧ ∃ n18 : Int, ∃ n19 : Int, e17.key = (Value.agg #[(Value.int .i64 n18), (Value.int .i64 n19)]) ∧ ∃ v20 : Value, e17.val = v20 ∧ wth (Array.push h10 (Obj.cells #[(Value.int .i64 (0 : Int)), (Value.int .i64 (0 : Int))] T_2_int)) fun h21 =>
        stOk h21 (Addr.mk (Array.size h10) 0 none) 2 ∧ wth (wrs h21 (Addr.mk (Array.size h10) 0 none) 0 [(Value.int .i64 n18), (Value.int .i64 n19)]) fun h22 =>
        ∃ n23 : Int, rd h22 (Addr.add (Addr.mk (Array.size h10) 0 none) 0) = some (Value.int .i64 n23) ∧ ∃ n24 : Int, rd h22 (Addr.add (Addr.mk (Array.size h10) 0 none) 1) = some (Value.int .i64 n24) ∧ Fn PP g0_yield_f ((#[] ++ #[(Value.agg #[(Value.int .i64 n23), (Value.int .i64 n24)])]) ++ g0_yield_c) h22 fun (vs25 : List Value) (h26 : Hp) =>
        ∃ b27 : Bool, vs25 = [(Value.bool b27)] ∧
        (if (!b27) = true then
          (Q [] h26) else
          (X4 [] h26))))) → X4 [] h5) →
X4 [] h3
def A_maps_Keys_map_2_int_int_2_int_int_1 : Ann := (.mk none ⟨[], []⟩ .nil (.mk none ⟨[], []⟩ (.mk none ⟨[0, 5], []⟩ .nil .nil) .nil))
theorem E_maps_Keys_map_2_int_int_2_int_int_1 (g0_yield_f : Nat) (g0_yield_c : Array Value) (g1_x : Addr) (h : Hp) (Q : List Value → Hp → Prop) : cw PP 14 (fun d => if d = 8 then [(.agg [(.int .i64), (.int .i64)]), (.c .any)] else []) (bodyOf Tryz.f124) A_maps_Keys_map_2_int_int_2_int_int_1 (finQ PP (Tryz.f124.results.toList) Q) (argFr [(Value.func (.func g0_yield_f) #[] g0_yield_c), (Value.pointer (some g1_x))]) h = F_maps_Keys_map_2_int_int_2_int_int_1 g0_yield_f g0_yield_c g1_x h Q := by kernel_rfl
theorem O_maps_Keys_map_2_int_int_2_int_int_1 (g0_yield_f : Nat) (g0_yield_c : Array Value) (g1_x : Addr) {h : Hp} {Q : List Value → Hp → Prop} (H : F_maps_Keys_map_2_int_int_2_int_int_1 g0_yield_f g0_yield_c g1_x h Q) : S_maps_Keys_map_2_int_int_2_int_int_1 g0_yield_f g0_yield_c g1_x h Q :=
  fn_of_cw (hs := (fun d => if d = 8 then [(.agg [(.int .i64), (.int .i64)]), (.c .any)] else [])) (ann := A_maps_Keys_map_2_int_int_2_int_int_1) (args := [(Value.func (.func g0_yield_f) #[] g0_yield_c), (Value.pointer (some g1_x))]) mixedPP Tryz.func124 (c := bodyOf Tryz.f124) (by kernel_rfl) (by kernel_rfl) (by kernel_rfl) (Eq.mpr (E_maps_Keys_map_2_int_int_2_int_int_1 g0_yield_f g0_yield_c g1_x h Q) H)
def F_maps_Keys_map_siread_Thing_int_siread_Thing_int_1 (g0_yield_f : Nat) (g0_yield_c : Array Value) (g1_x : Addr) (h : Hp) (Q : List Value → Hp → Prop) : Prop :=
∃ r1 : Option Nat, rd h g1_x = some (Value.map r1) ∧
∃ o2 : Obj, IterOf h r1 o2 ∧ wth (Array.push h o2) fun h3 =>
∀ X4 : List Value → Hp → Prop, (∀ h5 : Hp, ((Addr.off (Addr.mk (Array.size h) 0 none) = 0 ∧ ∃ o6 : Obj, h5[Addr.block (Addr.mk (Array.size h) 0 none)]? = some o6 ∧ IterGood h5 o6 ∧
      (IterEnd h5 o6 → Q [] h5) ∧
      ∀ (k7 v8 : Value) (o9 : Obj), IterStep h5 o6 k7 v8 o9 → wth (Array.setIfInBounds h5 (Addr.block (Addr.mk (Array.size h) 0 none)) o9) fun h10 =>
      (Addr.off (Addr.mk (Array.size h) 0 none) = 0 ∧ ∃ (m11 n12 : Nat) (q13 : Array Nat) (n14 : Nat) (es15 : Array MapEntry) (c16 : Nat) (e17 : MapEntry), h10[Addr.block (Addr.mk (Array.size h) 0 none)]? = some (.mapIter (some m11) n12 q13 c16) ∧ Array.back? q13 = some n14 ∧ h10[m11]? = some (.map es15 c16) ∧ Array.find? (fun x => x.born == n14) es15 = some e17 ∧ ∃ n18 : Int, ∃ s19 : ByteArray, ∃ n20 : Int, ∃ s21 : ByteArray, ∃ n22 : Int, e17.key = (Value.agg #[(Value.int .i64 n18), (Value.string s19), (Value.int .i64 n20), (Value.string s21), (Value.int .i64 n22)]) ∧ ∃ v23 : Value, e17.val = v23 ∧ wth (Array.push h10 (Obj.cells #[(Value.int .i64 (0 : Int)), (Value.string (ByteArray.mk #[])), (Value.int .i64 (0 : Int)), (Value.string (ByteArray.mk #[])), (Value.int .i64 (0 : Int))] T_siread_Thing)) fun h24 =>
        stOk h24 (Addr.mk (Array.size h10) 0 none) 5 ∧ wth (wrs h24 (Addr.mk (Array.size h10) 0 none) 0 [(Value.int .i64 n18), (Value.string s19), (Value.int .i64 n20), (Value.string s21), (Value.int .i64 n22)]) fun h25 =>
        ∃ n26 : Int, rd h25 (Addr.add (Addr.mk (Array.size h10) 0 none) 0) = some (Value.int .i64 n26) ∧ ∃ s27 : ByteArray, rd h25 (Addr.add (Addr.mk (Array.size h10) 0 none) 1) = some (Value.string s27) ∧ ∃ n28 : Int, rd h25 (Addr.add (Addr.mk (Array.size h10) 0 none) 2) = some (Value.int .i64 n28) ∧ ∃ s29 : ByteArray, rd h25 (Addr.add (Addr.mk (Array.size h10) 0 none) 3) = some (Value.string s29) ∧ ∃ n30 : Int, rd h25 (Addr.add (Addr.mk (Array.size h10) 0 none) 4) = some (Value.int .i64 n30) ∧ Fn PP g0_yield_f ((#[] ++ #[(Value.agg #[(Value.int .i64 n26), (Value.string s27), (Value.int .i64 n28), (Value.string s29), (Value.int .i64 n30)])]) ++ g0_yield_c) h25 fun (vs31 : List Value) (h32 : Hp) =>
        ∃ b33 : Bool, vs31 = [(Value.bool b33)] ∧
        (if (!b33) = true then
          (Q [] h32) else
          (X4 [] h32))))) → X4 [] h5) →
X4 [] h3
def A_maps_Keys_map_siread_Thing_int_siread_Thing_int_1 : Ann := (.mk none ⟨[], []⟩ .nil (.mk none ⟨[], []⟩ (.mk none ⟨[0, 5], []⟩ .nil .nil) .nil))
theorem E_maps_Keys_map_siread_Thing_int_siread_Thing_int_1 (g0_yield_f : Nat) (g0_yield_c : Array Value) (g1_x : Addr) (h : Hp) (Q : List Value → Hp → Prop) : cw PP 14 (fun d => if d = 8 then [(.agg [(.int .i64), .str, (.int .i64), .str, (.int .i64)]), (.c .any)] else []) (bodyOf Tryz.f128) A_maps_Keys_map_siread_Thing_int_siread_Thing_int_1 (finQ PP (Tryz.f128.results.toList) Q) (argFr [(Value.func (.func g0_yield_f) #[] g0_yield_c), (Value.pointer (some g1_x))]) h = F_maps_Keys_map_siread_Thing_int_siread_Thing_int_1 g0_yield_f g0_yield_c g1_x h Q := by kernel_rfl
theorem O_maps_Keys_map_siread_Thing_int_siread_Thing_int_1 (g0_yield_f : Nat) (g0_yield_c : Array Value) (g1_x : Addr) {h : Hp} {Q : List Value → Hp → Prop} (H : F_maps_Keys_map_siread_Thing_int_siread_Thing_int_1 g0_yield_f g0_yield_c g1_x h Q) : S_maps_Keys_map_siread_Thing_int_siread_Thing_int_1 g0_yield_f g0_yield_c g1_x h Q :=
  fn_of_cw (hs := (fun d => if d = 8 then [(.agg [(.int .i64), .str, (.int .i64), .str, (.int .i64)]), (.c .any)] else [])) (ann := A_maps_Keys_map_siread_Thing_int_siread_Thing_int_1) (args := [(Value.func (.func g0_yield_f) #[] g0_yield_c), (Value.pointer (some g1_x))]) mixedPP Tryz.func128 (c := bodyOf Tryz.f128) (by kernel_rfl) (by kernel_rfl) (by kernel_rfl) (Eq.mpr (E_maps_Keys_map_siread_Thing_int_siread_Thing_int_1 g0_yield_f g0_yield_c g1_x h Q) H)
def F_siread_Table_take_1 (g0_y_0 : Int) (g0_y_1 : ByteArray) (g0_y_2 : Int) (g0_y_3 : ByteArray) (g0_y_4 : Int) (g1_x : Addr) (h : Hp) (Q : List Value → Hp → Prop) : Prop :=
wth (Array.push h (Obj.cells #[(Value.int .i64 g0_y_0), (Value.string g0_y_1), (Value.int .i64 g0_y_2), (Value.string g0_y_3), (Value.int .i64 g0_y_4)] T_siread_Thing)) fun h1 =>
∃ n2 : Int, rd h1 (Addr.add (Addr.mk (Array.size h) 0 none) 0) = some (Value.int .i64 n2) ∧ ∃ s3 : ByteArray, rd h1 (Addr.add (Addr.mk (Array.size h) 0 none) 1) = some (Value.string s3) ∧ ∃ n4 : Int, rd h1 (Addr.add (Addr.mk (Array.size h) 0 none) 2) = some (Value.int .i64 n4) ∧ ∃ s5 : ByteArray, rd h1 (Addr.add (Addr.mk (Array.size h) 0 none) 3) = some (Value.string s5) ∧ ∃ n6 : Int, rd h1 (Addr.add (Addr.mk (Array.size h) 0 none) 4) = some (Value.int .i64 n6) ∧ S_siread_Thing_fine n2 s3 n4 s5 n6 h1 fun (vs7 : List Value) (h8 : Hp) =>
∃ b9 : Bool, vs7 = [(Value.bool b9)] ∧
(if b9 = true then (∃ n10 : Int, rd h8 (Addr.add (Addr.mk (Array.size h) 0 none) 2) = some (Value.int .i64 n10) ∧
    ∃ n11 : Int, rd h8 (Addr.add g1_x 2) = some (Value.int .i64 n11) ∧
    Q [(Value.bool (n10 == n11))] h8) else
  (Q [(Value.bool false)] h8))
def A_siread_Table_take_1 : Ann := .nil
theorem E_siread_Table_take_1 (g0_y_0 : Int) (g0_y_1 : ByteArray) (g0_y_2 : Int) (g0_y_3 : ByteArray) (g0_y_4 : Int) (g1_x : Addr) (h : Hp) (Q : List Value → Hp → Prop) : cw PP 13 (fun _ => []) (bodyOf Tryz.f150) A_siread_Table_take_1 (finQ PP (Tryz.f150.results.toList) Q) (argFr [(Value.agg #[(Value.int .i64 g0_y_0), (Value.string g0_y_1), (Value.int .i64 g0_y_2), (Value.string g0_y_3), (Value.int .i64 g0_y_4)]), (Value.pointer (some g1_x))]) h = F_siread_Table_take_1 g0_y_0 g0_y_1 g0_y_2 g0_y_3 g0_y_4 g1_x h Q := by kernel_rfl
theorem O_siread_Table_take_1 (g0_y_0 : Int) (g0_y_1 : ByteArray) (g0_y_2 : Int) (g0_y_3 : ByteArray) (g0_y_4 : Int) (g1_x : Addr) {h : Hp} {Q : List Value → Hp → Prop} (H : F_siread_Table_take_1 g0_y_0 g0_y_1 g0_y_2 g0_y_3 g0_y_4 g1_x h Q) : S_siread_Table_take_1 g0_y_0 g0_y_1 g0_y_2 g0_y_3 g0_y_4 g1_x h Q :=
  fn_of_cw (hs := (fun _ => [])) (ann := A_siread_Table_take_1) (args := [(Value.agg #[(Value.int .i64 g0_y_0), (Value.string g0_y_1), (Value.int .i64 g0_y_2), (Value.string g0_y_3), (Value.int .i64 g0_y_4)]), (Value.pointer (some g1_x))]) mixedPP Tryz.func150 (c := bodyOf Tryz.f150) (by kernel_rfl) (by kernel_rfl) (by kernel_rfl) (Eq.mpr (E_siread_Table_take_1 g0_y_0 g0_y_1 g0_y_2 g0_y_3 g0_y_4 g1_x h Q) H)
end Go.Lift

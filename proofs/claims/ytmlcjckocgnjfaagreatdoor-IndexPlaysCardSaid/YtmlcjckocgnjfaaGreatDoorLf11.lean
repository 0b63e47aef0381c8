/- Printed by lift.py: each Go function of this seat as a Prop over the heap, and that the Go code comes to it. -/
import Derived.Test.YtmlcjckocgnjfaaGreatDoorLf11a
set_option linter.unusedSimpArgs false
set_option linter.unusedVariables false
namespace Go.Lift
open Go Go.Proofs
set_option maxRecDepth 100000
def F_liveryref03_read (g0_k : ByteArray) (h : Hp) (Q : List Value → Hp → Prop) : Prop :=
wth (Array.push h (Obj.cells #[(Value.int .i64 (0 : Int)), (Value.int .i64 (0 : Int)), (Value.float .f64 0), (Value.string (ByteArray.mk #[])), (Value.int .i64 (0 : Int))] T_liveryref02_Read)) fun h1 =>
(if ((ByteArray.toList g0_k) == (ByteArray.toList (ByteArray.mk #[]))) = true then
  (stOk h1 (Addr.mk (Array.size h) 0 none) 5 ∧ wth (wrs h1 (Addr.mk (Array.size h) 0 none) 0 [(Value.int .i64 (0 : Int)), (Value.int .i64 (0 : Int)), (Value.float .f64 0), (Value.string (ByteArray.mk #[])), (Value.int .i64 (0 : Int))]) fun h2 =>
    ∃ n3 : Int, rd h2 (Addr.add (Addr.mk (Array.size h) 0 none) 0) = some (Value.int .i64 n3) ∧ ∃ n4 : Int, rd h2 (Addr.add (Addr.mk (Array.size h) 0 none) 1) = some (Value.int .i64 n4) ∧ ∃ x5 : Nat, rd h2 (Addr.add (Addr.mk (Array.size h) 0 none) 2) = some (Value.float .f64 x5) ∧ ∃ s6 : ByteArray, rd h2 (Addr.add (Addr.mk (Array.size h) 0 none) 3) = some (Value.string s6) ∧ ∃ n7 : Int, rd h2 (Addr.add (Addr.mk (Array.size h) 0 none) 4) = some (Value.int .i64 n7) ∧ Q [(Value.agg #[(Value.int .i64 n3), (Value.int .i64 n4), (Value.float .f64 x5), (Value.string s6), (Value.int .i64 n7)])] h2) else
  (ixOk (0 : Int) (ByteArray.size g0_k) (wth (Array.push h1 (Obj.cells #[(Value.int .i64 (0 : Int)), (Value.int .i64 (0 : Int)), (Value.float .f64 0), (Value.string (ByteArray.mk #[]))] T_api_Value)) fun h8 =>
      stOk h8 (Addr.mk (Array.size h1) 0 none) 4 ∧ wth (wrs h8 (Addr.mk (Array.size h1) 0 none) 0 [(Value.int .i64 (IntKind.wrap .i64 (strIx g0_k (0 : Int)))), (Value.int .i64 (0 : Int)), (Value.float .f64 0), (Value.string (ByteArray.mk #[]))]) fun h9 =>
      ∃ n10 : Int, rd h9 (Addr.add (Addr.mk (Array.size h1) 0 none) 0) = some (Value.int .i64 n10) ∧
      ∀ J11 : List Value → Hp → Prop, (∀ n12 : Int, ∀ h13 : Hp, (∃ n14 : Int, rd h13 (Addr.add (Addr.mk (Array.size h1) 0 none) 0) = some (Value.int .i64 n14) ∧ ∃ n15 : Int, rd h13 (Addr.add (Addr.mk (Array.size h1) 0 none) 1) = some (Value.int .i64 n15) ∧ ∃ x16 : Nat, rd h13 (Addr.add (Addr.mk (Array.size h1) 0 none) 2) = some (Value.float .f64 x16) ∧ ∃ s17 : ByteArray, rd h13 (Addr.add (Addr.mk (Array.size h1) 0 none) 3) = some (Value.string s17) ∧ S_liveryref02_Good n14 n15 x16 s17 h13 fun (vs18 : List Value) (h19 : Hp) =>
          ∃ b20 : Bool, vs18 = [(Value.bool b20)] ∧
          (if (!b20) = true then
            (stOk h19 (Addr.mk (Array.size h) 0 none) 5 ∧ wth (wrs h19 (Addr.mk (Array.size h) 0 none) 0 [(Value.int .i64 (0 : Int)), (Value.int .i64 (0 : Int)), (Value.float .f64 0), (Value.string (ByteArray.mk #[])), (Value.int .i64 (0 : Int))]) fun h21 =>
              ∃ n22 : Int, rd h21 (Addr.add (Addr.mk (Array.size h) 0 none) 0) = some (Value.int .i64 n22) ∧ ∃ n23 : Int, rd h21 (Addr.add (Addr.mk (Array.size h) 0 none) 1) = some (Value.int .i64 n23) ∧ ∃ x24 : Nat, rd h21 (Addr.add (Addr.mk (Array.size h) 0 none) 2) = some (Value.float .f64 x24) ∧ ∃ s25 : ByteArray, rd h21 (Addr.add (Addr.mk (Array.size h) 0 none) 3) = some (Value.string s25) ∧ ∃ n26 : Int, rd h21 (Addr.add (Addr.mk (Array.size h) 0 none) 4) = some (Value.int .i64 n26) ∧ Q [(Value.agg #[(Value.int .i64 n22), (Value.int .i64 n23), (Value.float .f64 x24), (Value.string s25), (Value.int .i64 n26)])] h21) else
            (∃ n27 : Int, rd h19 (Addr.add (Addr.mk (Array.size h1) 0 none) 0) = some (Value.int .i64 n27) ∧ ∃ n28 : Int, rd h19 (Addr.add (Addr.mk (Array.size h1) 0 none) 1) = some (Value.int .i64 n28) ∧ ∃ x29 : Nat, rd h19 (Addr.add (Addr.mk (Array.size h1) 0 none) 2) = some (Value.float .f64 x29) ∧ ∃ s30 : ByteArray, rd h19 (Addr.add (Addr.mk (Array.size h1) 0 none) 3) = some (Value.string s30) ∧ stOk h19 (Addr.mk (Array.size h) 0 none) 5 ∧ wth (wrs h19 (Addr.mk (Array.size h) 0 none) 0 [(Value.int .i64 n27), (Value.int .i64 n28), (Value.float .f64 x29), (Value.string s30), (Value.int .i64 n12)]) fun h31 =>
              ∃ n32 : Int, rd h31 (Addr.add (Addr.mk (Array.size h) 0 none) 0) = some (Value.int .i64 n32) ∧ ∃ n33 : Int, rd h31 (Addr.add (Addr.mk (Array.size h) 0 none) 1) = some (Value.int .i64 n33) ∧ ∃ x34 : Nat, rd h31 (Addr.add (Addr.mk (Array.size h) 0 none) 2) = some (Value.float .f64 x34) ∧ ∃ s35 : ByteArray, rd h31 (Addr.add (Addr.mk (Array.size h) 0 none) 3) = some (Value.string s35) ∧ ∃ n36 : Int, rd h31 (Addr.add (Addr.mk (Array.size h) 0 none) 4) = some (Value.int .i64 n36) ∧ Q [(Value.agg #[(Value.int .i64 n32), (Value.int .i64 n33), (Value.float .f64 x34), (Value.string s35), (Value.int .i64 n36)])] h31))) → J11 [(Value.int .i64 n12)] h13) →
      (if (n10 == (1 : Int)) = true then
        ((if (decide ((ByteArray.size g0_k : Int) < (2 : Int))) = true then
            (stOk h9 (Addr.mk (Array.size h) 0 none) 5 ∧ wth (wrs h9 (Addr.mk (Array.size h) 0 none) 0 [(Value.int .i64 (0 : Int)), (Value.int .i64 (0 : Int)), (Value.float .f64 0), (Value.string (ByteArray.mk #[])), (Value.int .i64 (0 : Int))]) fun h37 =>
              ∃ n38 : Int, rd h37 (Addr.add (Addr.mk (Array.size h) 0 none) 0) = some (Value.int .i64 n38) ∧ ∃ n39 : Int, rd h37 (Addr.add (Addr.mk (Array.size h) 0 none) 1) = some (Value.int .i64 n39) ∧ ∃ x40 : Nat, rd h37 (Addr.add (Addr.mk (Array.size h) 0 none) 2) = some (Value.float .f64 x40) ∧ ∃ s41 : ByteArray, rd h37 (Addr.add (Addr.mk (Array.size h) 0 none) 3) = some (Value.string s41) ∧ ∃ n42 : Int, rd h37 (Addr.add (Addr.mk (Array.size h) 0 none) 4) = some (Value.int .i64 n42) ∧ Q [(Value.agg #[(Value.int .i64 n38), (Value.int .i64 n39), (Value.float .f64 x40), (Value.string s41), (Value.int .i64 n42)])] h37) else
            (ixOk (1 : Int) (ByteArray.size g0_k) (stOk h9 (Addr.add (Addr.mk (Array.size h1) 0 none) 1) 1 ∧ wth (wrs h9 (Addr.add (Addr.mk (Array.size h1) 0 none) 1) 0 [(Value.int .i64 (IntKind.wrap .i64 (strIx g0_k (1 : Int))))]) fun h43 =>
                J11 [(Value.int .i64 (2 : Int))] h43)))) else
        ((if (n10 == (2 : Int)) = true then
            ((if (decide ((ByteArray.size g0_k : Int) < (9 : Int))) = true then
                (stOk h9 (Addr.mk (Array.size h) 0 none) 5 ∧ wth (wrs h9 (Addr.mk (Array.size h) 0 none) 0 [(Value.int .i64 (0 : Int)), (Value.int .i64 (0 : Int)), (Value.float .f64 0), (Value.string (ByteArray.mk #[])), (Value.int .i64 (0 : Int))]) fun h44 =>
                  ∃ n45 : Int, rd h44 (Addr.add (Addr.mk (Array.size h) 0 none) 0) = some (Value.int .i64 n45) ∧ ∃ n46 : Int, rd h44 (Addr.add (Addr.mk (Array.size h) 0 none) 1) = some (Value.int .i64 n46) ∧ ∃ x47 : Nat, rd h44 (Addr.add (Addr.mk (Array.size h) 0 none) 2) = some (Value.float .f64 x47) ∧ ∃ s48 : ByteArray, rd h44 (Addr.add (Addr.mk (Array.size h) 0 none) 3) = some (Value.string s48) ∧ ∃ n49 : Int, rd h44 (Addr.add (Addr.mk (Array.size h) 0 none) 4) = some (Value.int .i64 n49) ∧ Q [(Value.agg #[(Value.int .i64 n45), (Value.int .i64 n46), (Value.float .f64 x47), (Value.string s48), (Value.int .i64 n49)])] h44) else
                ((0 ≤ (1 : Int) ∧ (1 : Int) ≤ (9 : Int) ∧ (9 : Int) ≤ ((ByteArray.size g0_k) : Nat)) ∧ S_liveryref02_Number (ByteArray.extract g0_k (Int.toNat (1 : Int)) (Int.toNat (9 : Int))) h9 fun (vs50 : List Value) (h51 : Hp) =>
                  ∃ n52 : Int, vs50 = [(Value.int .u64 n52)] ∧
                  stOk h51 (Addr.add (Addr.mk (Array.size h1) 0 none) 1) 1 ∧ wth (wrs h51 (Addr.add (Addr.mk (Array.size h1) 0 none) 1) 0 [(Value.int .i64 (IntKind.wrap .i64 (iXor .u64 n52 (9223372036854775808 : Int))))]) fun h53 =>
                  J11 [(Value.int .i64 (9 : Int))] h53))) else
            ((if (n10 == (3 : Int)) = true then
                ((if (decide ((ByteArray.size g0_k : Int) < (9 : Int))) = true then
                    (stOk h9 (Addr.mk (Array.size h) 0 none) 5 ∧ wth (wrs h9 (Addr.mk (Array.size h) 0 none) 0 [(Value.int .i64 (0 : Int)), (Value.int .i64 (0 : Int)), (Value.float .f64 0), (Value.string (ByteArray.mk #[])), (Value.int .i64 (0 : Int))]) fun h54 =>
                      ∃ n55 : Int, rd h54 (Addr.add (Addr.mk (Array.size h) 0 none) 0) = some (Value.int .i64 n55) ∧ ∃ n56 : Int, rd h54 (Addr.add (Addr.mk (Array.size h) 0 none) 1) = some (Value.int .i64 n56) ∧ ∃ x57 : Nat, rd h54 (Addr.add (Addr.mk (Array.size h) 0 none) 2) = some (Value.float .f64 x57) ∧ ∃ s58 : ByteArray, rd h54 (Addr.add (Addr.mk (Array.size h) 0 none) 3) = some (Value.string s58) ∧ ∃ n59 : Int, rd h54 (Addr.add (Addr.mk (Array.size h) 0 none) 4) = some (Value.int .i64 n59) ∧ Q [(Value.agg #[(Value.int .i64 n55), (Value.int .i64 n56), (Value.float .f64 x57), (Value.string s58), (Value.int .i64 n59)])] h54) else
                    ((0 ≤ (1 : Int) ∧ (1 : Int) ≤ (9 : Int) ∧ (9 : Int) ≤ ((ByteArray.size g0_k) : Nat)) ∧ S_liveryref02_Number (ByteArray.extract g0_k (Int.toNat (1 : Int)) (Int.toNat (9 : Int))) h9 fun (vs60 : List Value) (h61 : Hp) =>
                      ∃ n62 : Int, vs60 = [(Value.int .u64 n62)] ∧
                      S_liveryref01_From n62 h61 fun (vs63 : List Value) (h64 : Hp) =>
                      ∃ x65 : Nat, ∃ b66 : Bool, vs63 = [(Value.agg #[(Value.float .f64 x65), (Value.bool b66)])] ∧
                      wth (Array.push h64 (Obj.cells #[(Value.float .f64 0), (Value.bool false)] T_liveryref01_Got)) fun h67 =>
                      stOk h67 (Addr.mk (Array.size h64) 0 none) 2 ∧ wth (wrs h67 (Addr.mk (Array.size h64) 0 none) 0 [(Value.float .f64 x65), (Value.bool b66)]) fun h68 =>
                      ∃ b69 : Bool, rd h68 (Addr.add (Addr.mk (Array.size h64) 0 none) 1) = some (Value.bool b69) ∧
                      (if (!b69) = true then
                        (stOk h68 (Addr.mk (Array.size h) 0 none) 5 ∧ wth (wrs h68 (Addr.mk (Array.size h) 0 none) 0 [(Value.int .i64 (0 : Int)), (Value.int .i64 (0 : Int)), (Value.float .f64 0), (Value.string (ByteArray.mk #[])), (Value.int .i64 (0 : Int))]) fun h70 =>
                          ∃ n71 : Int, rd h70 (Addr.add (Addr.mk (Array.size h) 0 none) 0) = some (Value.int .i64 n71) ∧ ∃ n72 : Int, rd h70 (Addr.add (Addr.mk (Array.size h) 0 none) 1) = some (Value.int .i64 n72) ∧ ∃ x73 : Nat, rd h70 (Addr.add (Addr.mk (Array.size h) 0 none) 2) = some (Value.float .f64 x73) ∧ ∃ s74 : ByteArray, rd h70 (Addr.add (Addr.mk (Array.size h) 0 none) 3) = some (Value.string s74) ∧ ∃ n75 : Int, rd h70 (Addr.add (Addr.mk (Array.size h) 0 none) 4) = some (Value.int .i64 n75) ∧ Q [(Value.agg #[(Value.int .i64 n71), (Value.int .i64 n72), (Value.float .f64 x73), (Value.string s74), (Value.int .i64 n75)])] h70) else
                        (∃ x76 : Nat, rd h68 (Addr.add (Addr.mk (Array.size h64) 0 none) 0) = some (Value.float .f64 x76) ∧
                          stOk h68 (Addr.add (Addr.mk (Array.size h1) 0 none) 2) 1 ∧ wth (wrs h68 (Addr.add (Addr.mk (Array.size h1) 0 none) 2) 0 [(Value.float .f64 x76)]) fun h77 =>
                          J11 [(Value.int .i64 (9 : Int))] h77))))) else
                ((if (n10 == (4 : Int)) = true then
                    ((0 ≤ (1 : Int) ∧ (1 : Int) ≤ ((ByteArray.size g0_k) : Nat)) ∧ S_liveryref03_text (ByteArray.extract g0_k (Int.toNat (1 : Int)) (ByteArray.size g0_k)) h9 fun (vs78 : List Value) (h79 : Hp) =>
                      ∃ n80 : Int, ∃ n81 : Int, ∃ x82 : Nat, ∃ s83 : ByteArray, ∃ n84 : Int, vs78 = [(Value.agg #[(Value.int .i64 n80), (Value.int .i64 n81), (Value.float .f64 x82), (Value.string s83), (Value.int .i64 n84)])] ∧
                      wth (Array.push h79 (Obj.cells #[(Value.int .i64 (0 : Int)), (Value.int .i64 (0 : Int)), (Value.float .f64 0), (Value.string (ByteArray.mk #[])), (Value.int .i64 (0 : Int))] T_liveryref02_Read)) fun h85 =>
                      stOk h85 (Addr.mk (Array.size h79) 0 none) 5 ∧ wth (wrs h85 (Addr.mk (Array.size h79) 0 none) 0 [(Value.int .i64 n80), (Value.int .i64 n81), (Value.float .f64 x82), (Value.string s83), (Value.int .i64 n84)]) fun h86 =>
                      ∃ n87 : Int, rd h86 (Addr.add (Addr.mk (Array.size h79) 0 none) 4) = some (Value.int .i64 n87) ∧
                      (if (n87 == (0 : Int)) = true then
                        (stOk h86 (Addr.mk (Array.size h) 0 none) 5 ∧ wth (wrs h86 (Addr.mk (Array.size h) 0 none) 0 [(Value.int .i64 (0 : Int)), (Value.int .i64 (0 : Int)), (Value.float .f64 0), (Value.string (ByteArray.mk #[])), (Value.int .i64 (0 : Int))]) fun h88 =>
                          ∃ n89 : Int, rd h88 (Addr.add (Addr.mk (Array.size h) 0 none) 0) = some (Value.int .i64 n89) ∧ ∃ n90 : Int, rd h88 (Addr.add (Addr.mk (Array.size h) 0 none) 1) = some (Value.int .i64 n90) ∧ ∃ x91 : Nat, rd h88 (Addr.add (Addr.mk (Array.size h) 0 none) 2) = some (Value.float .f64 x91) ∧ ∃ s92 : ByteArray, rd h88 (Addr.add (Addr.mk (Array.size h) 0 none) 3) = some (Value.string s92) ∧ ∃ n93 : Int, rd h88 (Addr.add (Addr.mk (Array.size h) 0 none) 4) = some (Value.int .i64 n93) ∧ Q [(Value.agg #[(Value.int .i64 n89), (Value.int .i64 n90), (Value.float .f64 x91), (Value.string s92), (Value.int .i64 n93)])] h88) else
                        (∃ s94 : ByteArray, rd h86 (Addr.add (Addr.add (Addr.mk (Array.size h79) 0 none) 0) 3) = some (Value.string s94) ∧
                          ∃ n95 : Int, rd h86 (Addr.add (Addr.mk (Array.size h79) 0 none) 4) = some (Value.int .i64 n95) ∧
                          stOk h86 (Addr.add (Addr.mk (Array.size h1) 0 none) 3) 1 ∧ wth (wrs h86 (Addr.add (Addr.mk (Array.size h1) 0 none) 3) 0 [(Value.string s94)]) fun h96 =>
                          rd h96 (Addr.add (Addr.mk (Array.size h79) 0 none) 4) = some (Value.int .i64 n95) ∧ J11 [(Value.int .i64 (IntKind.wrap .i64 ((1 : Int) + n95)))] h96))) else
                    (J11 [(Value.int .i64 (1 : Int))] h9)))))))))))
def A_liveryref03_read : Ann := (.mk none ⟨[], []⟩ .nil (.mk none ⟨[], []⟩ .nil (.mk none ⟨[], []⟩ .nil (.mk none ⟨[], []⟩ .nil (.mk none ⟨[], []⟩ (.mk none ⟨[], []⟩ .nil (.mk (some ⟨[2, 3], [(4, (.c (.int .i64)))]⟩) ⟨[], []⟩ .nil .nil)) .nil)))))
theorem E_liveryref03_read (g0_k : ByteArray) (h : Hp) (Q : List Value → Hp → Prop) : cw PP 78 (fun _ => []) (bodyOf Tryz.f75) A_liveryref03_read (finQ PP (Tryz.f75.results.toList) Q) (argFr [(Value.string g0_k)]) h = F_liveryref03_read g0_k h Q := by kernel_rfl
theorem O_liveryref03_read (g0_k : ByteArray) {h : Hp} {Q : List Value → Hp → Prop} (H : F_liveryref03_read g0_k h Q) : S_liveryref03_read g0_k h Q :=
  fn_of_cw (hs := (fun _ => [])) (ann := A_liveryref03_read) (args := [(Value.string g0_k)]) mixedPP Tryz.func75 (c := bodyOf Tryz.f75) (by kernel_rfl) (by kernel_rfl) (by kernel_rfl) (Eq.mpr (E_liveryref03_read g0_k h Q) H)
def F_liveryref03_Split (g0_e : ByteArray) (h : Hp) (Q : List Value → Hp → Prop) : Prop :=
wth (Array.push h (Obj.cells #[(Value.int .i64 (0 : Int)), (Value.int .i64 (0 : Int)), (Value.float .f64 0), (Value.string (ByteArray.mk #[])), (Value.int .i64 (0 : Int))] T_liveryref03_Got)) fun h1 =>
S_liveryref03_read g0_e h1 fun (vs2 : List Value) (h3 : Hp) =>
∃ n4 : Int, ∃ n5 : Int, ∃ x6 : Nat, ∃ s7 : ByteArray, ∃ n8 : Int, vs2 = [(Value.agg #[(Value.int .i64 n4), (Value.int .i64 n5), (Value.float .f64 x6), (Value.string s7), (Value.int .i64 n8)])] ∧
wth (Array.push h3 (Obj.cells #[(Value.int .i64 (0 : Int)), (Value.int .i64 (0 : Int)), (Value.float .f64 0), (Value.string (ByteArray.mk #[])), (Value.int .i64 (0 : Int))] T_liveryref02_Read)) fun h9 =>
stOk h9 (Addr.mk (Array.size h3) 0 none) 5 ∧ wth (wrs h9 (Addr.mk (Array.size h3) 0 none) 0 [(Value.int .i64 n4), (Value.int .i64 n5), (Value.float .f64 x6), (Value.string s7), (Value.int .i64 n8)]) fun h10 =>
∀ J11 : List Value → Hp → Prop, (∀ b12 : Bool, ∀ h13 : Hp, ((if b12 = true then
      (stOk h13 (Addr.mk (Array.size h) 0 none) 5 ∧ wth (wrs h13 (Addr.mk (Array.size h) 0 none) 0 [(Value.int .i64 (0 : Int)), (Value.int .i64 (0 : Int)), (Value.float .f64 0), (Value.string (ByteArray.mk #[])), (Value.int .i64 (0 : Int))]) fun h14 =>
        ∃ n15 : Int, rd h14 (Addr.add (Addr.mk (Array.size h) 0 none) 0) = some (Value.int .i64 n15) ∧ ∃ n16 : Int, rd h14 (Addr.add (Addr.mk (Array.size h) 0 none) 1) = some (Value.int .i64 n16) ∧ ∃ x17 : Nat, rd h14 (Addr.add (Addr.mk (Array.size h) 0 none) 2) = some (Value.float .f64 x17) ∧ ∃ s18 : ByteArray, rd h14 (Addr.add (Addr.mk (Array.size h) 0 none) 3) = some (Value.string s18) ∧ ∃ n19 : Int, rd h14 (Addr.add (Addr.mk (Array.size h) 0 none) 4) = some (Value.int .i64 n19) ∧ Q [(Value.agg #[(Value.int .i64 n15), (Value.int .i64 n16), (Value.float .f64 x17), (Value.string s18), (Value.int .i64 n19)]), (Value.int .i64 (11 : Int))] h14) else
      (∃ n20 : Int, rd h13 (Addr.add (Addr.add (Addr.mk (Array.size h3) 0 none) 0) 0) = some (Value.int .i64 n20) ∧ ∃ n21 : Int, rd h13 (Addr.add (Addr.add (Addr.mk (Array.size h3) 0 none) 0) 1) = some (Value.int .i64 n21) ∧ ∃ x22 : Nat, rd h13 (Addr.add (Addr.add (Addr.mk (Array.size h3) 0 none) 0) 2) = some (Value.float .f64 x22) ∧ ∃ s23 : ByteArray, rd h13 (Addr.add (Addr.add (Addr.mk (Array.size h3) 0 none) 0) 3) = some (Value.string s23) ∧ ∃ n24 : Int, rd h13 (Addr.add (Addr.mk (Array.size h3) 0 none) 4) = some (Value.int .i64 n24) ∧
        ixOk n24 (ByteArray.size g0_e) (∃ n25 : Int, rd h13 (Addr.add (Addr.mk (Array.size h3) 0 none) 4) = some (Value.int .i64 n25) ∧
          ixOk (IntKind.wrap .i64 (n25 + (1 : Int))) (ByteArray.size g0_e) (stOk h13 (Addr.mk (Array.size h) 0 none) 5 ∧ wth (wrs h13 (Addr.mk (Array.size h) 0 none) 0 [(Value.int .i64 n20), (Value.int .i64 n21), (Value.float .f64 x22), (Value.string s23), (Value.int .i64 (IntKind.wrap .i64 ((IntKind.wrap .i64 ((IntKind.wrap .i64 (strIx g0_e n24)) * (256 : Int))) + (IntKind.wrap .i64 (strIx g0_e (IntKind.wrap .i64 (n25 + (1 : Int))))))))]) fun h26 =>
            ∃ n27 : Int, rd h26 (Addr.add (Addr.mk (Array.size h) 0 none) 0) = some (Value.int .i64 n27) ∧ ∃ n28 : Int, rd h26 (Addr.add (Addr.mk (Array.size h) 0 none) 1) = some (Value.int .i64 n28) ∧ ∃ x29 : Nat, rd h26 (Addr.add (Addr.mk (Array.size h) 0 none) 2) = some (Value.float .f64 x29) ∧ ∃ s30 : ByteArray, rd h26 (Addr.add (Addr.mk (Array.size h) 0 none) 3) = some (Value.string s30) ∧ ∃ n31 : Int, rd h26 (Addr.add (Addr.mk (Array.size h) 0 none) 4) = some (Value.int .i64 n31) ∧ Q [(Value.agg #[(Value.int .i64 n27), (Value.int .i64 n28), (Value.float .f64 x29), (Value.string s30), (Value.int .i64 n31)]), (Value.int .i64 (0 : Int))] h26))))) → J11 [(Value.bool b12)] h13) →
∃ n32 : Int, rd h10 (Addr.add (Addr.mk (Array.size h3) 0 none) 4) = some (Value.int .i64 n32) ∧
(if (n32 == (0 : Int)) = true then (J11 [(Value.bool true)] h10) else
  (∃ n33 : Int, rd h10 (Addr.add (Addr.mk (Array.size h3) 0 none) 4) = some (Value.int .i64 n33) ∧
    J11 [(Value.bool ((IntKind.wrap .i64 (n33 + (2 : Int))) != (ByteArray.size g0_e : Int)))] h10))
def A_liveryref03_Split : Ann := (.mk none ⟨[], []⟩ .nil (.mk none ⟨[], []⟩ .nil (.mk none ⟨[], []⟩ (.mk none ⟨[], []⟩ (.mk (some ⟨[0, 2, 4], [(17, (.c .bool))]⟩) ⟨[], []⟩ .nil .nil) .nil) .nil)))
theorem E_liveryref03_Split (g0_e : ByteArray) (h : Hp) (Q : List Value → Hp → Prop) : cw PP 35 (fun _ => []) (bodyOf Tryz.f57) A_liveryref03_Split (finQ PP (Tryz.f57.results.toList) Q) (argFr [(Value.string g0_e)]) h = F_liveryref03_Split g0_e h Q := by kernel_rfl
theorem O_liveryref03_Split (g0_e : ByteArray) {h : Hp} {Q : List Value → Hp → Prop} (H : F_liveryref03_Split g0_e h Q) : S_liveryref03_Split g0_e h Q :=
  fn_of_cw (hs := (fun _ => [])) (ann := A_liveryref03_Split) (args := [(Value.string g0_e)]) mixedPP Tryz.func57 (c := bodyOf Tryz.f57) (by kernel_rfl) (by kernel_rfl) (by kernel_rfl) (Eq.mpr (E_liveryref03_Split g0_e h Q) H)
def F_liveryref11_Index_span (g0_x : Option Addr) (g1_from : ByteArray) (g2_to : ByteArray) (h : Hp) (Q : List Value → Hp → Prop) : Prop :=
wth (Array.push h (Obj.cells #[(Value.slice none 0 0), (Value.slice none 0 0)] T_liveryref11_Span)) fun h1 =>
nilW g0_x fun a2 => ∃ p3 : Option Addr, rd h1 (Addr.add a2 0) = some (Value.pointer p3) ∧
S_liveryref10_Leaves_Range p3 g1_from g2_to h1 fun (vs4 : List Value) (h5 : Hp) =>
∃ l6 : Sl, ∃ l7 : Sl, vs4 = [(Value.agg #[(Value.slice l6.a l6.n l6.c), (Value.slice l7.a l7.n l7.c)])] ∧
wth (Array.push h5 (Obj.cells #[(Value.slice none 0 0), (Value.slice none 0 0)] T_liveryref10_Span)) fun h8 =>
stOk h8 (Addr.mk (Array.size h5) 0 none) 2 ∧ wth (wrs h8 (Addr.mk (Array.size h5) 0 none) 0 [(Value.slice l6.a l6.n l6.c), (Value.slice l7.a l7.n l7.c)]) fun h9 =>
∃ l10 : Sl, rd h9 (Addr.add (Addr.mk (Array.size h5) 0 none) 1) = some (Value.slice l10.a l10.n l10.c) ∧
wth (Array.push h9 (Obj.cells #[(Value.slice none 0 0), (Value.slice none 0 0)] T_liveryref11_Span)) fun h11 =>
stOk h11 (Addr.mk (Array.size h9) 0 none) 2 ∧ wth (wrs h11 (Addr.mk (Array.size h9) 0 none) 0 [(Value.slice none 0 0), (Value.slice l10.a l10.n l10.c)]) fun h12 =>
∀ X13 : List Value → Hp → Prop, (∀ n14 : Int, ∀ h15 : Hp, (∃ l16 : Sl, rd h15 (Addr.add (Addr.mk (Array.size h5) 0 none) 0) = some (Value.slice l16.a l16.n l16.c) ∧
    (if (decide (n14 < (l16.n : Int))) = true then
      (∃ l17 : Sl, rd h15 (Addr.add (Addr.mk (Array.size h5) 0 none) 0) = some (Value.slice l17.a l17.n l17.c) ∧
        nilW l17.a fun a18 => ixOk n14 l17.n (∃ s19 : ByteArray, rd h15 (Addr.add a18 (Int.toNat n14 * 1)) = some (Value.string s19) ∧
          S_liveryref03_Split s19 h15 fun (vs20 : List Value) (h21 : Hp) =>
          ∃ n22 : Int, ∃ n23 : Int, ∃ x24 : Nat, ∃ s25 : ByteArray, ∃ n26 : Int, ∃ n27 : Int, vs20 = [(Value.agg #[(Value.int .i64 n22), (Value.int .i64 n23), (Value.float .f64 x24), (Value.string s25), (Value.int .i64 n26)]), (Value.int .i64 n27)] ∧
          wth (Array.push h21 (Obj.cells #[(Value.int .i64 (0 : Int)), (Value.int .i64 (0 : Int)), (Value.float .f64 0), (Value.string (ByteArray.mk #[])), (Value.int .i64 (0 : Int))] T_liveryref03_Got)) fun h28 =>
          stOk h28 (Addr.mk (Array.size h21) 0 none) 5 ∧ wth (wrs h28 (Addr.mk (Array.size h21) 0 none) 0 [(Value.int .i64 n22), (Value.int .i64 n23), (Value.float .f64 x24), (Value.string s25), (Value.int .i64 n26)]) fun h29 =>
          ∃ l30 : Sl, rd h29 (Addr.add (Addr.mk (Array.size h9) 0 none) 0) = some (Value.slice l30.a l30.n l30.c) ∧
          ∃ n31 : Int, rd h29 (Addr.add (Addr.mk (Array.size h21) 0 none) 4) = some (Value.int .i64 n31) ∧
          wth (Array.push h29 (Obj.cells #[(Value.int .i64 n31)] T_int)) fun h32 =>
          ∃ cs36 : List Value, cellsAt h32 (some (Addr.mk (Array.size h29) 0 none)) (1 * 1) cs36 ∧ appS PP T_int 8 1 h32 ⟨l30.a, l30.n, l30.c⟩ 1 cs36 fun (l33 : Sl) (h34 : Hp) =>
          stOk h34 (Addr.add (Addr.mk (Array.size h9) 0 none) 0) 1 ∧ wth (wrs h34 (Addr.add (Addr.mk (Array.size h9) 0 none) 0) 0 [(Value.slice l33.a l33.n l33.c)]) fun h35 =>
          X13 [(Value.int .i64 (IntKind.wrap .i64 (n14 + (1 : Int))))] h35)) else
      (∃ l37 : Sl, rd h15 (Addr.add (Addr.mk (Array.size h9) 0 none) 0) = some (Value.slice l37.a l37.n l37.c) ∧ ∃ l38 : Sl, rd h15 (Addr.add (Addr.mk (Array.size h9) 0 none) 1) = some (Value.slice l38.a l38.n l38.c) ∧ stOk h15 (Addr.mk (Array.size h) 0 none) 2 ∧ wth (wrs h15 (Addr.mk (Array.size h) 0 none) 0 [(Value.slice l37.a l37.n l37.c), (Value.slice l38.a l38.n l38.c)]) fun h39 =>
        ∃ l40 : Sl, rd h39 (Addr.add (Addr.mk (Array.size h) 0 none) 0) = some (Value.slice l40.a l40.n l40.c) ∧ ∃ l41 : Sl, rd h39 (Addr.add (Addr.mk (Array.size h) 0 none) 1) = some (Value.slice l41.a l41.n l41.c) ∧ Q [(Value.agg #[(Value.slice l40.a l40.n l40.c), (Value.slice l41.a l41.n l41.c)])] h39))) → X13 [(Value.int .i64 n14)] h15) →
X13 [(Value.int .i64 (0 : Int))] h12
def A_liveryref11_Index_span : Ann := (.mk none ⟨[], []⟩ .nil (.mk none ⟨[], []⟩ .nil (.mk none ⟨[], []⟩ .nil (.mk none ⟨[], []⟩ (.mk none ⟨[], []⟩ .nil (.mk none ⟨[], []⟩ (.mk none ⟨[6, 7, 8], [(9, (.c (.int .i64)))]⟩ .nil .nil) .nil)) .nil))))
theorem E_liveryref11_Index_span (g0_x : Option Addr) (g1_from : ByteArray) (g2_to : ByteArray) (h : Hp) (Q : List Value → Hp → Prop) : cw PP 46 (fun _ => []) (bodyOf Tryz.f37) A_liveryref11_Index_span (finQ PP (Tryz.f37.results.toList) Q) (argFr [(Value.pointer g0_x), (Value.string g1_from), (Value.string g2_to)]) h = F_liveryref11_Index_span g0_x g1_from g2_to h Q := by kernel_rfl
theorem O_liveryref11_Index_span (g0_x : Option Addr) (g1_from : ByteArray) (g2_to : ByteArray) {h : Hp} {Q : List Value → Hp → Prop} (H : F_liveryref11_Index_span g0_x g1_from g2_to h Q) : S_liveryref11_Index_span g0_x g1_from g2_to h Q :=
  fn_of_cw (hs := (fun _ => [])) (ann := A_liveryref11_Index_span) (args := [(Value.pointer g0_x), (Value.string g1_from), (Value.string g2_to)]) mixedPP Tryz.func37 (c := bodyOf Tryz.f37) (by kernel_rfl) (by kernel_rfl) (by kernel_rfl) (Eq.mpr (E_liveryref11_Index_span g0_x g1_from g2_to h Q) H)
def F_liveryref11_Index_Find (g0_x : Option Addr) (g1_v_0 : Int) (g1_v_1 : Int) (g1_v_2 : Nat) (g1_v_3 : ByteArray) (h : Hp) (Q : List Value → Hp → Prop) : Prop :=
wth (Array.push h (Obj.cells #[(Value.int .i64 g1_v_0), (Value.int .i64 g1_v_1), (Value.float .f64 g1_v_2), (Value.string g1_v_3)] T_api_Value)) fun h1 =>
wth (Array.push h1 (Obj.cells #[(Value.slice none 0 0), (Value.slice none 0 0)] T_liveryref11_Span)) fun h2 =>
∃ n3 : Int, rd h2 (Addr.add (Addr.mk (Array.size h) 0 none) 0) = some (Value.int .i64 n3) ∧ ∃ n4 : Int, rd h2 (Addr.add (Addr.mk (Array.size h) 0 none) 1) = some (Value.int .i64 n4) ∧ ∃ x5 : Nat, rd h2 (Addr.add (Addr.mk (Array.size h) 0 none) 2) = some (Value.float .f64 x5) ∧ ∃ s6 : ByteArray, rd h2 (Addr.add (Addr.mk (Array.size h) 0 none) 3) = some (Value.string s6) ∧ S_liveryref03_Least n3 n4 x5 s6 h2 fun (vs7 : List Value) (h8 : Hp) =>
∃ s9 : ByteArray, ∃ n10 : Int, vs7 = [(Value.string s9), (Value.int .i64 n10)] ∧
∃ n11 : Int, rd h8 (Addr.add (Addr.mk (Array.size h) 0 none) 0) = some (Value.int .i64 n11) ∧ ∃ n12 : Int, rd h8 (Addr.add (Addr.mk (Array.size h) 0 none) 1) = some (Value.int .i64 n12) ∧ ∃ x13 : Nat, rd h8 (Addr.add (Addr.mk (Array.size h) 0 none) 2) = some (Value.float .f64 x13) ∧ ∃ s14 : ByteArray, rd h8 (Addr.add (Addr.mk (Array.size h) 0 none) 3) = some (Value.string s14) ∧ S_liveryref03_After n11 n12 x13 s14 h8 fun (vs15 : List Value) (h16 : Hp) =>
∃ s17 : ByteArray, ∃ n18 : Int, vs15 = [(Value.string s17), (Value.int .i64 n18)] ∧
∀ J19 : List Value → Hp → Prop, (∀ b20 : Bool, ∀ h21 : Hp, ((if b20 = true then
      (stOk h21 (Addr.mk (Array.size h1) 0 none) 2 ∧ wth (wrs h21 (Addr.mk (Array.size h1) 0 none) 0 [(Value.slice none 0 0), (Value.slice none 0 0)]) fun h22 =>
        ∃ l23 : Sl, rd h22 (Addr.add (Addr.mk (Array.size h1) 0 none) 0) = some (Value.slice l23.a l23.n l23.c) ∧ ∃ l24 : Sl, rd h22 (Addr.add (Addr.mk (Array.size h1) 0 none) 1) = some (Value.slice l24.a l24.n l24.c) ∧ Q [(Value.agg #[(Value.slice l23.a l23.n l23.c), (Value.slice l24.a l24.n l24.c)])] h22) else
      (S_liveryref11_Index_span g0_x s9 s17 h21 fun (vs25 : List Value) (h26 : Hp) =>
        ∃ l27 : Sl, ∃ l28 : Sl, vs25 = [(Value.agg #[(Value.slice l27.a l27.n l27.c), (Value.slice l28.a l28.n l28.c)])] ∧
        stOk h26 (Addr.mk (Array.size h1) 0 none) 2 ∧ wth (wrs h26 (Addr.mk (Array.size h1) 0 none) 0 [(Value.slice l27.a l27.n l27.c), (Value.slice l28.a l28.n l28.c)]) fun h29 =>
        ∃ l30 : Sl, rd h29 (Addr.add (Addr.mk (Array.size h1) 0 none) 0) = some (Value.slice l30.a l30.n l30.c) ∧ ∃ l31 : Sl, rd h29 (Addr.add (Addr.mk (Array.size h1) 0 none) 1) = some (Value.slice l31.a l31.n l31.c) ∧ Q [(Value.agg #[(Value.slice l30.a l30.n l30.c), (Value.slice l31.a l31.n l31.c)])] h29))) → J19 [(Value.bool b20)] h21) →
(if (n10 != (0 : Int)) = true then (J19 [(Value.bool true)] h16) else
  (J19 [(Value.bool (n18 != (0 : Int)))] h16))
def A_liveryref11_Index_Find : Ann := (.mk none ⟨[], []⟩ .nil (.mk none ⟨[], []⟩ .nil (.mk none ⟨[], []⟩ .nil (.mk none ⟨[], []⟩ (.mk none ⟨[], []⟩ (.mk (some ⟨[0, 4, 5, 7], [(24, (.c .bool))]⟩) ⟨[], []⟩ .nil .nil) .nil) .nil))))
theorem E_liveryref11_Index_Find (g0_x : Option Addr) (g1_v_0 : Int) (g1_v_1 : Int) (g1_v_2 : Nat) (g1_v_3 : ByteArray) (h : Hp) (Q : List Value → Hp → Prop) : cw PP 30 (fun _ => []) (bodyOf Tryz.f13) A_liveryref11_Index_Find (finQ PP (Tryz.f13.results.toList) Q) (argFr [(Value.pointer g0_x), (Value.agg #[(Value.int .i64 g1_v_0), (Value.int .i64 g1_v_1), (Value.float .f64 g1_v_2), (Value.string g1_v_3)])]) h = F_liveryref11_Index_Find g0_x g1_v_0 g1_v_1 g1_v_2 g1_v_3 h Q := by kernel_rfl
theorem O_liveryref11_Index_Find (g0_x : Option Addr) (g1_v_0 : Int) (g1_v_1 : Int) (g1_v_2 : Nat) (g1_v_3 : ByteArray) {h : Hp} {Q : List Value → Hp → Prop} (H : F_liveryref11_Index_Find g0_x g1_v_0 g1_v_1 g1_v_2 g1_v_3 h Q) : S_liveryref11_Index_Find g0_x g1_v_0 g1_v_1 g1_v_2 g1_v_3 h Q :=
  fn_of_cw (hs := (fun _ => [])) (ann := A_liveryref11_Index_Find) (args := [(Value.pointer g0_x), (Value.agg #[(Value.int .i64 g1_v_0), (Value.int .i64 g1_v_1), (Value.float .f64 g1_v_2), (Value.string g1_v_3)])]) mixedPP Tryz.func13 (c := bodyOf Tryz.f13) (by kernel_rfl) (by kernel_rfl) (by kernel_rfl) (Eq.mpr (E_liveryref11_Index_Find g0_x g1_v_0 g1_v_1 g1_v_2 g1_v_3 h Q) H)
def F_index_Index_Range (g0_x : Option Addr) (g1_v_0 : Int) (g1_v_1 : Int) (g1_v_2 : Nat) (g1_v_3 : ByteArray) (g2_w_0 : Int) (g2_w_1 : Int) (g2_w_2 : Nat) (g2_w_3 : ByteArray) (h : Hp) (Q : List Value → Hp → Prop) : Prop :=
wth (Array.push h (Obj.cells #[(Value.int .i64 g1_v_0), (Value.int .i64 g1_v_1), (Value.float .f64 g1_v_2), (Value.string g1_v_3)] T_api_Value)) fun h1 =>
wth (Array.push h1 (Obj.cells #[(Value.int .i64 g2_w_0), (Value.int .i64 g2_w_1), (Value.float .f64 g2_w_2), (Value.string g2_w_3)] T_api_Value)) fun h2 =>
∃ n3 : Int, rd h2 (Addr.add (Addr.mk (Array.size h) 0 none) 0) = some (Value.int .i64 n3) ∧ ∃ n4 : Int, rd h2 (Addr.add (Addr.mk (Array.size h) 0 none) 1) = some (Value.int .i64 n4) ∧ ∃ x5 : Nat, rd h2 (Addr.add (Addr.mk (Array.size h) 0 none) 2) = some (Value.float .f64 x5) ∧ ∃ s6 : ByteArray, rd h2 (Addr.add (Addr.mk (Array.size h) 0 none) 3) = some (Value.string s6) ∧ S_key_Least n3 n4 x5 s6 h2 fun (vs7 : List Value) (h8 : Hp) =>
∃ s9 : ByteArray, ∃ n10 : Int, vs7 = [(Value.string s9), (Value.int .i64 n10)] ∧
∃ n11 : Int, rd h8 (Addr.add (Addr.mk (Array.size h1) 0 none) 0) = some (Value.int .i64 n11) ∧ ∃ n12 : Int, rd h8 (Addr.add (Addr.mk (Array.size h1) 0 none) 1) = some (Value.int .i64 n12) ∧ ∃ x13 : Nat, rd h8 (Addr.add (Addr.mk (Array.size h1) 0 none) 2) = some (Value.float .f64 x13) ∧ ∃ s14 : ByteArray, rd h8 (Addr.add (Addr.mk (Array.size h1) 0 none) 3) = some (Value.string s14) ∧ S_key_Least n11 n12 x13 s14 h8 fun (vs15 : List Value) (h16 : Hp) =>
∃ s17 : ByteArray, ∃ n18 : Int, vs15 = [(Value.string s17), (Value.int .i64 n18)] ∧
∀ J19 : List Value → Hp → Prop, (∀ b20 : Bool, ∀ h21 : Hp, ((if b20 = true then
      (Q [(Value.slice none 0 0), (Value.slice none 0 0)] h21) else
      (S_index_Index_between g0_x s9 s17 h21 fun (vs22 : List Value) (h23 : Hp) =>
        ∃ l24 : Sl, ∃ l25 : Sl, vs22 = [(Value.slice l24.a l24.n l24.c), (Value.slice l25.a l25.n l25.c)] ∧
        Q [(Value.slice l24.a l24.n l24.c), (Value.slice l25.a l25.n l25.c)] h23))) → J19 [(Value.bool b20)] h21) →
(if (Option.isNone g0_x) = true then (J19 [(Value.bool true)] h16) else
  ((if (n10 != (0 : Int)) = true then (J19 [(Value.bool true)] h16) else
      (J19 [(Value.bool (n18 != (0 : Int)))] h16))))
def A_index_Index_Range : Ann := (.mk none ⟨[], []⟩ .nil (.mk none ⟨[], []⟩ .nil (.mk none ⟨[], []⟩ .nil (.mk none ⟨[], []⟩ (.mk none ⟨[], []⟩ (.mk (some ⟨[0, 8, 10], [(31, (.c .bool))]⟩) ⟨[], []⟩ .nil .nil) .nil) .nil))))
theorem E_index_Index_Range (g0_x : Option Addr) (g1_v_0 : Int) (g1_v_1 : Int) (g1_v_2 : Nat) (g1_v_3 : ByteArray) (g2_w_0 : Int) (g2_w_1 : Int) (g2_w_2 : Nat) (g2_w_3 : ByteArray) (h : Hp) (Q : List Value → Hp → Prop) : cw PP 38 (fun _ => []) (bodyOf Tryz.f14) A_index_Index_Range (finQ PP (Tryz.f14.results.toList) Q) (argFr [(Value.pointer g0_x), (Value.agg #[(Value.int .i64 g1_v_0), (Value.int .i64 g1_v_1), (Value.float .f64 g1_v_2), (Value.string g1_v_3)]), (Value.agg #[(Value.int .i64 g2_w_0), (Value.int .i64 g2_w_1), (Value.float .f64 g2_w_2), (Value.string g2_w_3)])]) h = F_index_Index_Range g0_x g1_v_0 g1_v_1 g1_v_2 g1_v_3 g2_w_0 g2_w_1 g2_w_2 g2_w_3 h Q := by kernel_rfl
theorem O_index_Index_Range (g0_x : Option Addr) (g1_v_0 : Int) (g1_v_1 : Int) (g1_v_2 : Nat) (g1_v_3 : ByteArray) (g2_w_0 : Int) (g2_w_1 : Int) (g2_w_2 : Nat) (g2_w_3 : ByteArray) {h : Hp} {Q : List Value → Hp → Prop} (H : F_index_Index_Range g0_x g1_v_0 g1_v_1 g1_v_2 g1_v_3 g2_w_0 g2_w_1 g2_w_2 g2_w_3 h Q) : S_index_Index_Range g0_x g1_v_0 g1_v_1 g1_v_2 g1_v_3 g2_w_0 g2_w_1 g2_w_2 g2_w_3 h Q :=
  fn_of_cw (hs := (fun _ => [])) (ann := A_index_Index_Range) (args := [(Value.pointer g0_x), (Value.agg #[(Value.int .i64 g1_v_0), (Value.int .i64 g1_v_1), (Value.float .f64 g1_v_2), (Value.string g1_v_3)]), (Value.agg #[(Value.int .i64 g2_w_0), (Value.int .i64 g2_w_1), (Value.float .f64 g2_w_2), (Value.string g2_w_3)])]) mixedPP Tryz.func14 (c := bodyOf Tryz.f14) (by kernel_rfl) (by kernel_rfl) (by kernel_rfl) (Eq.mpr (E_index_Index_Range g0_x g1_v_0 g1_v_1 g1_v_2 g1_v_3 g2_w_0 g2_w_1 g2_w_2 g2_w_3 h Q) H)
def F_liveryref01_rank (g0_f : Nat) (h : Hp) (Q : List Value → Hp → Prop) : Prop :=
S_math_IsNaN g0_f h fun (vs1 : List Value) (h2 : Hp) =>
∃ b3 : Bool, vs1 = [(Value.bool b3)] ∧
(if b3 = true then
  (Q [(Value.int .i64 (1 : Int))] h2) else
  (Q [(Value.int .i64 (0 : Int))] h2))
def A_liveryref01_rank : Ann := .nil
theorem E_liveryref01_rank (g0_f : Nat) (h : Hp) (Q : List Value → Hp → Prop) : cw PP 5 (fun _ => []) (bodyOf Tryz.f76) A_liveryref01_rank (finQ PP (Tryz.f76.results.toList) Q) (argFr [(Value.float .f64 g0_f)]) h = F_liveryref01_rank g0_f h Q := by kernel_rfl
theorem O_liveryref01_rank (g0_f : Nat) {h : Hp} {Q : List Value → Hp → Prop} (H : F_liveryref01_rank g0_f h Q) : S_liveryref01_rank g0_f h Q :=
  fn_of_cw (hs := (fun _ => [])) (ann := A_liveryref01_rank) (args := [(Value.float .f64 g0_f)]) mixedPP Tryz.func76 (c := bodyOf Tryz.f76) (by kernel_rfl) (by kernel_rfl) (by kernel_rfl) (Eq.mpr (E_liveryref01_rank g0_f h Q) H)
def F_liveryref01_Compare (g0_a : Nat) (g1_b : Nat) (h : Hp) (Q : List Value → Hp → Prop) : Prop :=
S_liveryref01_rank g0_a h fun (vs1 : List Value) (h2 : Hp) =>
∃ n3 : Int, vs1 = [(Value.int .i64 n3)] ∧
S_liveryref01_rank g1_b h2 fun (vs4 : List Value) (h5 : Hp) =>
∃ n6 : Int, vs4 = [(Value.int .i64 n6)] ∧
(if (n3 != n6) = true then
  (S_liveryref01_rank g0_a h5 fun (vs7 : List Value) (h8 : Hp) =>
    ∃ n9 : Int, vs7 = [(Value.int .i64 n9)] ∧
    S_liveryref01_rank g1_b h8 fun (vs10 : List Value) (h11 : Hp) =>
    ∃ n12 : Int, vs10 = [(Value.int .i64 n12)] ∧
    Q [(Value.int .i64 (IntKind.wrap .i64 (n9 - n12)))] h11) else
  (S_liveryref01_rank g0_a h5 fun (vs13 : List Value) (h14 : Hp) =>
    ∃ n15 : Int, vs13 = [(Value.int .i64 n15)] ∧
    (if (n15 == (1 : Int)) = true then
      (Q [(Value.int .i64 (0 : Int))] h14) else
      ((if ((FloatKind.format .f64).order g0_a g1_b == some .lt) = true then
          (Q [(Value.int .i64 (-1 : Int))] h14) else
          ((if ((FloatKind.format .f64).order g0_a g1_b == some .gt) = true then
              (Q [(Value.int .i64 (1 : Int))] h14) else
              (Q [(Value.int .i64 (0 : Int))] h14))))))))
def A_liveryref01_Compare : Ann := .nil
theorem E_liveryref01_Compare (g0_a : Nat) (g1_b : Nat) (h : Hp) (Q : List Value → Hp → Prop) : cw PP 28 (fun _ => []) (bodyOf Tryz.f58) A_liveryref01_Compare (finQ PP (Tryz.f58.results.toList) Q) (argFr [(Value.float .f64 g0_a), (Value.float .f64 g1_b)]) h = F_liveryref01_Compare g0_a g1_b h Q := by kernel_rfl
theorem O_liveryref01_Compare (g0_a : Nat) (g1_b : Nat) {h : Hp} {Q : List Value → Hp → Prop} (H : F_liveryref01_Compare g0_a g1_b h Q) : S_liveryref01_Compare g0_a g1_b h Q :=
  fn_of_cw (hs := (fun _ => [])) (ann := A_liveryref01_Compare) (args := [(Value.float .f64 g0_a), (Value.float .f64 g1_b)]) mixedPP Tryz.func58 (c := bodyOf Tryz.f58) (by kernel_rfl) (by kernel_rfl) (by kernel_rfl) (Eq.mpr (E_liveryref01_Compare g0_a g1_b h Q) H)
def F_liveryref02_Compare (g0_a_0 : Int) (g0_a_1 : Int) (g0_a_2 : Nat) (g0_a_3 : ByteArray) (g1_b_0 : Int) (g1_b_1 : Int) (g1_b_2 : Nat) (g1_b_3 : ByteArray) (h : Hp) (Q : List Value → Hp → Prop) : Prop :=
wth (Array.push h (Obj.cells #[(Value.int .i64 g0_a_0), (Value.int .i64 g0_a_1), (Value.float .f64 g0_a_2), (Value.string g0_a_3)] T_api_Value)) fun h1 =>
wth (Array.push h1 (Obj.cells #[(Value.int .i64 g1_b_0), (Value.int .i64 g1_b_1), (Value.float .f64 g1_b_2), (Value.string g1_b_3)] T_api_Value)) fun h2 =>
∃ n3 : Int, rd h2 (Addr.add (Addr.mk (Array.size h) 0 none) 0) = some (Value.int .i64 n3) ∧
∃ n4 : Int, rd h2 (Addr.add (Addr.mk (Array.size h1) 0 none) 0) = some (Value.int .i64 n4) ∧
(if (decide (n3 < n4)) = true then
  (Q [(Value.int .i64 (-1 : Int))] h2) else
  (∃ n5 : Int, rd h2 (Addr.add (Addr.mk (Array.size h) 0 none) 0) = some (Value.int .i64 n5) ∧
    ∃ n6 : Int, rd h2 (Addr.add (Addr.mk (Array.size h1) 0 none) 0) = some (Value.int .i64 n6) ∧
    (if (decide (n5 > n6)) = true then
      (Q [(Value.int .i64 (1 : Int))] h2) else
      (∃ n7 : Int, rd h2 (Addr.add (Addr.mk (Array.size h) 0 none) 1) = some (Value.int .i64 n7) ∧
        ∃ n8 : Int, rd h2 (Addr.add (Addr.mk (Array.size h1) 0 none) 1) = some (Value.int .i64 n8) ∧
        (if (decide (n7 < n8)) = true then
          (Q [(Value.int .i64 (-1 : Int))] h2) else
          (∃ n9 : Int, rd h2 (Addr.add (Addr.mk (Array.size h) 0 none) 1) = some (Value.int .i64 n9) ∧
            ∃ n10 : Int, rd h2 (Addr.add (Addr.mk (Array.size h1) 0 none) 1) = some (Value.int .i64 n10) ∧
            (if (decide (n9 > n10)) = true then
              (Q [(Value.int .i64 (1 : Int))] h2) else
              (∃ x11 : Nat, rd h2 (Addr.add (Addr.mk (Array.size h) 0 none) 2) = some (Value.float .f64 x11) ∧
                ∃ x12 : Nat, rd h2 (Addr.add (Addr.mk (Array.size h1) 0 none) 2) = some (Value.float .f64 x12) ∧
                S_liveryref01_Compare x11 x12 h2 fun (vs13 : List Value) (h14 : Hp) =>
                ∃ n15 : Int, vs13 = [(Value.int .i64 n15)] ∧
                (if (n15 != (0 : Int)) = true then
                  (Q [(Value.int .i64 n15)] h14) else
                  (∃ s16 : ByteArray, rd h14 (Addr.add (Addr.mk (Array.size h) 0 none) 3) = some (Value.string s16) ∧
                    ∃ s17 : ByteArray, rd h14 (Addr.add (Addr.mk (Array.size h1) 0 none) 3) = some (Value.string s17) ∧
                    (if (Op.bytesLess (ByteArray.toList s16) (ByteArray.toList s17)) = true then
                      (Q [(Value.int .i64 (-1 : Int))] h14) else
                      (∃ s18 : ByteArray, rd h14 (Addr.add (Addr.mk (Array.size h) 0 none) 3) = some (Value.string s18) ∧
                        ∃ s19 : ByteArray, rd h14 (Addr.add (Addr.mk (Array.size h1) 0 none) 3) = some (Value.string s19) ∧
                        (if (!(Op.bytesLess (ByteArray.toList s18) (ByteArray.toList s19) || (ByteArray.toList s18) == (ByteArray.toList s19))) = true then
                          (Q [(Value.int .i64 (1 : Int))] h14) else
                          (Q [(Value.int .i64 (0 : Int))] h14))))))))))))))
def A_liveryref02_Compare : Ann := .nil
theorem E_liveryref02_Compare (g0_a_0 : Int) (g0_a_1 : Int) (g0_a_2 : Nat) (g0_a_3 : ByteArray) (g1_b_0 : Int) (g1_b_1 : Int) (g1_b_2 : Nat) (g1_b_3 : ByteArray) (h : Hp) (Q : List Value → Hp → Prop) : cw PP 50 (fun _ => []) (bodyOf Tryz.f38) A_liveryref02_Compare (finQ PP (Tryz.f38.results.toList) Q) (argFr [(Value.agg #[(Value.int .i64 g0_a_0), (Value.int .i64 g0_a_1), (Value.float .f64 g0_a_2), (Value.string g0_a_3)]), (Value.agg #[(Value.int .i64 g1_b_0), (Value.int .i64 g1_b_1), (Value.float .f64 g1_b_2), (Value.string g1_b_3)])]) h = F_liveryref02_Compare g0_a_0 g0_a_1 g0_a_2 g0_a_3 g1_b_0 g1_b_1 g1_b_2 g1_b_3 h Q := by kernel_rfl
theorem O_liveryref02_Compare (g0_a_0 : Int) (g0_a_1 : Int) (g0_a_2 : Nat) (g0_a_3 : ByteArray) (g1_b_0 : Int) (g1_b_1 : Int) (g1_b_2 : Nat) (g1_b_3 : ByteArray) {h : Hp} {Q : List Value → Hp → Prop} (H : F_liveryref02_Compare g0_a_0 g0_a_1 g0_a_2 g0_a_3 g1_b_0 g1_b_1 g1_b_2 g1_b_3 h Q) : S_liveryref02_Compare g0_a_0 g0_a_1 g0_a_2 g0_a_3 g1_b_0 g1_b_1 g1_b_2 g1_b_3 h Q :=
  fn_of_cw (hs := (fun _ => [])) (ann := A_liveryref02_Compare) (args := [(Value.agg #[(Value.int .i64 g0_a_0), (Value.int .i64 g0_a_1), (Value.float .f64 g0_a_2), (Value.string g0_a_3)]), (Value.agg #[(Value.int .i64 g1_b_0), (Value.int .i64 g1_b_1), (Value.float .f64 g1_b_2), (Value.string g1_b_3)])]) mixedPP Tryz.func38 (c := bodyOf Tryz.f38) (by kernel_rfl) (by kernel_rfl) (by kernel_rfl) (Eq.mpr (E_liveryref02_Compare g0_a_0 g0_a_1 g0_a_2 g0_a_3 g1_b_0 g1_b_1 g1_b_2 g1_b_3 h Q) H)
def F_liveryref11_Index_Range (g0_x : Option Addr) (g1_v_0 : Int) (g1_v_1 : Int) (g1_v_2 : Nat) (g1_v_3 : ByteArray) (g2_w_0 : Int) (g2_w_1 : Int) (g2_w_2 : Nat) (g2_w_3 : ByteArray) (h : Hp) (Q : List Value → Hp → Prop) : Prop :=
wth (Array.push h (Obj.cells #[(Value.int .i64 g1_v_0), (Value.int .i64 g1_v_1), (Value.float .f64 g1_v_2), (Value.string g1_v_3)] T_api_Value)) fun h1 =>
wth (Array.push h1 (Obj.cells #[(Value.int .i64 g2_w_0), (Value.int .i64 g2_w_1), (Value.float .f64 g2_w_2), (Value.string g2_w_3)] T_api_Value)) fun h2 =>
wth (Array.push h2 (Obj.cells #[(Value.slice none 0 0), (Value.slice none 0 0)] T_liveryref11_Span)) fun h3 =>
∃ n4 : Int, rd h3 (Addr.add (Addr.mk (Array.size h) 0 none) 0) = some (Value.int .i64 n4) ∧ ∃ n5 : Int, rd h3 (Addr.add (Addr.mk (Array.size h) 0 none) 1) = some (Value.int .i64 n5) ∧ ∃ x6 : Nat, rd h3 (Addr.add (Addr.mk (Array.size h) 0 none) 2) = some (Value.float .f64 x6) ∧ ∃ s7 : ByteArray, rd h3 (Addr.add (Addr.mk (Array.size h) 0 none) 3) = some (Value.string s7) ∧ S_liveryref03_Least n4 n5 x6 s7 h3 fun (vs8 : List Value) (h9 : Hp) =>
∃ s10 : ByteArray, ∃ n11 : Int, vs8 = [(Value.string s10), (Value.int .i64 n11)] ∧
∃ n12 : Int, rd h9 (Addr.add (Addr.mk (Array.size h1) 0 none) 0) = some (Value.int .i64 n12) ∧ ∃ n13 : Int, rd h9 (Addr.add (Addr.mk (Array.size h1) 0 none) 1) = some (Value.int .i64 n13) ∧ ∃ x14 : Nat, rd h9 (Addr.add (Addr.mk (Array.size h1) 0 none) 2) = some (Value.float .f64 x14) ∧ ∃ s15 : ByteArray, rd h9 (Addr.add (Addr.mk (Array.size h1) 0 none) 3) = some (Value.string s15) ∧ S_liveryref03_Least n12 n13 x14 s15 h9 fun (vs16 : List Value) (h17 : Hp) =>
∃ s18 : ByteArray, ∃ n19 : Int, vs16 = [(Value.string s18), (Value.int .i64 n19)] ∧
∀ J20 : List Value → Hp → Prop, (∀ b21 : Bool, ∀ h22 : Hp, ((if b21 = true then
      (stOk h22 (Addr.mk (Array.size h2) 0 none) 2 ∧ wth (wrs h22 (Addr.mk (Array.size h2) 0 none) 0 [(Value.slice none 0 0), (Value.slice none 0 0)]) fun h23 =>
        ∃ l24 : Sl, rd h23 (Addr.add (Addr.mk (Array.size h2) 0 none) 0) = some (Value.slice l24.a l24.n l24.c) ∧ ∃ l25 : Sl, rd h23 (Addr.add (Addr.mk (Array.size h2) 0 none) 1) = some (Value.slice l25.a l25.n l25.c) ∧ Q [(Value.agg #[(Value.slice l24.a l24.n l24.c), (Value.slice l25.a l25.n l25.c)])] h23) else
      (S_liveryref11_Index_span g0_x s10 s18 h22 fun (vs26 : List Value) (h27 : Hp) =>
        ∃ l28 : Sl, ∃ l29 : Sl, vs26 = [(Value.agg #[(Value.slice l28.a l28.n l28.c), (Value.slice l29.a l29.n l29.c)])] ∧
        stOk h27 (Addr.mk (Array.size h2) 0 none) 2 ∧ wth (wrs h27 (Addr.mk (Array.size h2) 0 none) 0 [(Value.slice l28.a l28.n l28.c), (Value.slice l29.a l29.n l29.c)]) fun h30 =>
        ∃ l31 : Sl, rd h30 (Addr.add (Addr.mk (Array.size h2) 0 none) 0) = some (Value.slice l31.a l31.n l31.c) ∧ ∃ l32 : Sl, rd h30 (Addr.add (Addr.mk (Array.size h2) 0 none) 1) = some (Value.slice l32.a l32.n l32.c) ∧ Q [(Value.agg #[(Value.slice l31.a l31.n l31.c), (Value.slice l32.a l32.n l32.c)])] h30))) → J20 [(Value.bool b21)] h22) →
(if (n11 != (0 : Int)) = true then (J20 [(Value.bool true)] h17) else
  ((if (n19 != (0 : Int)) = true then (J20 [(Value.bool true)] h17) else
      (∃ n33 : Int, rd h17 (Addr.add (Addr.mk (Array.size h) 0 none) 0) = some (Value.int .i64 n33) ∧ ∃ n34 : Int, rd h17 (Addr.add (Addr.mk (Array.size h) 0 none) 1) = some (Value.int .i64 n34) ∧ ∃ x35 : Nat, rd h17 (Addr.add (Addr.mk (Array.size h) 0 none) 2) = some (Value.float .f64 x35) ∧ ∃ s36 : ByteArray, rd h17 (Addr.add (Addr.mk (Array.size h) 0 none) 3) = some (Value.string s36) ∧ ∃ n37 : Int, rd h17 (Addr.add (Addr.mk (Array.size h1) 0 none) 0) = some (Value.int .i64 n37) ∧ ∃ n38 : Int, rd h17 (Addr.add (Addr.mk (Array.size h1) 0 none) 1) = some (Value.int .i64 n38) ∧ ∃ x39 : Nat, rd h17 (Addr.add (Addr.mk (Array.size h1) 0 none) 2) = some (Value.float .f64 x39) ∧ ∃ s40 : ByteArray, rd h17 (Addr.add (Addr.mk (Array.size h1) 0 none) 3) = some (Value.string s40) ∧ S_liveryref02_Compare n33 n34 x35 s36 n37 n38 x39 s40 h17 fun (vs41 : List Value) (h42 : Hp) =>
        ∃ n43 : Int, vs41 = [(Value.int .i64 n43)] ∧
        J20 [(Value.bool (decide (n43 ≥ (0 : Int))))] h42))))
def A_liveryref11_Index_Range : Ann := (.mk none ⟨[], []⟩ .nil (.mk none ⟨[], []⟩ .nil (.mk none ⟨[], []⟩ .nil (.mk none ⟨[], []⟩ (.mk none ⟨[], []⟩ (.mk (some ⟨[0, 6, 7, 9], [(32, (.c .bool))]⟩) ⟨[], []⟩ .nil .nil) .nil) .nil))))
theorem E_liveryref11_Index_Range (g0_x : Option Addr) (g1_v_0 : Int) (g1_v_1 : Int) (g1_v_2 : Nat) (g1_v_3 : ByteArray) (g2_w_0 : Int) (g2_w_1 : Int) (g2_w_2 : Nat) (g2_w_3 : ByteArray) (h : Hp) (Q : List Value → Hp → Prop) : cw PP 38 (fun _ => []) (bodyOf Tryz.f15) A_liveryref11_Index_Range (finQ PP (Tryz.f15.results.toList) Q) (argFr [(Value.pointer g0_x), (Value.agg #[(Value.int .i64 g1_v_0), (Value.int .i64 g1_v_1), (Value.float .f64 g1_v_2), (Value.string g1_v_3)]), (Value.agg #[(Value.int .i64 g2_w_0), (Value.int .i64 g2_w_1), (Value.float .f64 g2_w_2), (Value.string g2_w_3)])]) h = F_liveryref11_Index_Range g0_x g1_v_0 g1_v_1 g1_v_2 g1_v_3 g2_w_0 g2_w_1 g2_w_2 g2_w_3 h Q := by kernel_rfl
theorem O_liveryref11_Index_Range (g0_x : Option Addr) (g1_v_0 : Int) (g1_v_1 : Int) (g1_v_2 : Nat) (g1_v_3 : ByteArray) (g2_w_0 : Int) (g2_w_1 : Int) (g2_w_2 : Nat) (g2_w_3 : ByteArray) {h : Hp} {Q : List Value → Hp → Prop} (H : F_liveryref11_Index_Range g0_x g1_v_0 g1_v_1 g1_v_2 g1_v_3 g2_w_0 g2_w_1 g2_w_2 g2_w_3 h Q) : S_liveryref11_Index_Range g0_x g1_v_0 g1_v_1 g1_v_2 g1_v_3 g2_w_0 g2_w_1 g2_w_2 g2_w_3 h Q :=
  fn_of_cw (hs := (fun _ => [])) (ann := A_liveryref11_Index_Range) (args := [(Value.pointer g0_x), (Value.agg #[(Value.int .i64 g1_v_0), (Value.int .i64 g1_v_1), (Value.float .f64 g1_v_2), (Value.string g1_v_3)]), (Value.agg #[(Value.int .i64 g2_w_0), (Value.int .i64 g2_w_1), (Value.float .f64 g2_w_2), (Value.string g2_w_3)])]) mixedPP Tryz.func15 (c := bodyOf Tryz.f15) (by kernel_rfl) (by kernel_rfl) (by kernel_rfl) (Eq.mpr (E_liveryref11_Index_Range g0_x g1_v_0 g1_v_1 g1_v_2 g1_v_3 g2_w_0 g2_w_1 g2_w_2 g2_w_3 h Q) H)
def F_liveryref11_Index_Has (g0_x : Option Addr) (g1_v_0 : Int) (g1_v_1 : Int) (g1_v_2 : Nat) (g1_v_3 : ByteArray) (g2_tid : Int) (h : Hp) (Q : List Value → Hp → Prop) : Prop :=
wth (Array.push h (Obj.cells #[(Value.int .i64 g1_v_0), (Value.int .i64 g1_v_1), (Value.float .f64 g1_v_2), (Value.string g1_v_3)] T_api_Value)) fun h1 =>
∃ n2 : Int, rd h1 (Addr.add (Addr.mk (Array.size h) 0 none) 0) = some (Value.int .i64 n2) ∧ ∃ n3 : Int, rd h1 (Addr.add (Addr.mk (Array.size h) 0 none) 1) = some (Value.int .i64 n3) ∧ ∃ x4 : Nat, rd h1 (Addr.add (Addr.mk (Array.size h) 0 none) 2) = some (Value.float .f64 x4) ∧ ∃ s5 : ByteArray, rd h1 (Addr.add (Addr.mk (Array.size h) 0 none) 3) = some (Value.string s5) ∧ S_liveryref03_Entry n2 n3 x4 s5 g2_tid h1 fun (vs6 : List Value) (h7 : Hp) =>
∃ s8 : ByteArray, ∃ n9 : Int, vs6 = [(Value.string s8), (Value.int .i64 n9)] ∧
(if (n9 == (0 : Int)) = true then (nilW g0_x fun a10 => ∃ p11 : Option Addr, rd h7 (Addr.add a10 0) = some (Value.pointer p11) ∧
    S_liveryref10_Leaves_Has p11 s8 h7 fun (vs12 : List Value) (h13 : Hp) =>
    ∃ b14 : Bool, vs12 = [(Value.bool b14)] ∧
    Q [(Value.bool b14)] h13) else
  (Q [(Value.bool false)] h7))
def A_liveryref11_Index_Has : Ann := .nil
theorem E_liveryref11_Index_Has (g0_x : Option Addr) (g1_v_0 : Int) (g1_v_1 : Int) (g1_v_2 : Nat) (g1_v_3 : ByteArray) (g2_tid : Int) (h : Hp) (Q : List Value → Hp → Prop) : cw PP 25 (fun _ => []) (bodyOf Tryz.f18) A_liveryref11_Index_Has (finQ PP (Tryz.f18.results.toList) Q) (argFr [(Value.pointer g0_x), (Value.agg #[(Value.int .i64 g1_v_0), (Value.int .i64 g1_v_1), (Value.float .f64 g1_v_2), (Value.string g1_v_3)]), (Value.int .i64 g2_tid)]) h = F_liveryref11_Index_Has g0_x g1_v_0 g1_v_1 g1_v_2 g1_v_3 g2_tid h Q := by kernel_rfl
theorem O_liveryref11_Index_Has (g0_x : Option Addr) (g1_v_0 : Int) (g1_v_1 : Int) (g1_v_2 : Nat) (g1_v_3 : ByteArray) (g2_tid : Int) {h : Hp} {Q : List Value → Hp → Prop} (H : F_liveryref11_Index_Has g0_x g1_v_0 g1_v_1 g1_v_2 g1_v_3 g2_tid h Q) : S_liveryref11_Index_Has g0_x g1_v_0 g1_v_1 g1_v_2 g1_v_3 g2_tid h Q :=
  fn_of_cw (hs := (fun _ => [])) (ann := A_liveryref11_Index_Has) (args := [(Value.pointer g0_x), (Value.agg #[(Value.int .i64 g1_v_0), (Value.int .i64 g1_v_1), (Value.float .f64 g1_v_2), (Value.string g1_v_3)]), (Value.int .i64 g2_tid)]) mixedPP Tryz.func18 (c := bodyOf Tryz.f18) (by kernel_rfl) (by kernel_rfl) (by kernel_rfl) (Eq.mpr (E_liveryref11_Index_Has g0_x g1_v_0 g1_v_1 g1_v_2 g1_v_3 g2_tid h Q) H)
def F_liveryref10_Leaves_Len (g0_x : Option Addr) (h : Hp) (Q : List Value → Hp → Prop) : Prop :=
∀ X1 : List Value → Hp → Prop, (∀ n2 : Int, ∀ n3 : Int, ∀ h4 : Hp, (nilW g0_x fun a5 => ∃ l6 : Sl, rd h4 (Addr.add a5 0) = some (Value.slice l6.a l6.n l6.c) ∧
    (if (decide (n3 < (l6.n : Int))) = true then
      (nilW g0_x fun a7 => ∃ l8 : Sl, rd h4 (Addr.add a7 0) = some (Value.slice l8.a l8.n l8.c) ∧
        nilW l8.a fun a9 => ixOk n3 l8.n (∃ l10 : Sl, rd h4 (Addr.add (Addr.add a9 (Int.toNat n3 * 4)) 3) = some (Value.slice l10.a l10.n l10.c) ∧
          X1 [(Value.int .i64 (IntKind.wrap .i64 (n2 + (l10.n : Int)))), (Value.int .i64 (IntKind.wrap .i64 (n3 + (1 : Int))))] h4)) else
      (Q [(Value.int .i64 n2)] h4))) → X1 [(Value.int .i64 n2), (Value.int .i64 n3)] h4) →
X1 [(Value.int .i64 (0 : Int)), (Value.int .i64 (0 : Int))] h
def A_liveryref10_Leaves_Len : Ann := (.mk none ⟨[], []⟩ .nil (.mk none ⟨[], []⟩ .nil (.mk none ⟨[], []⟩ (.mk none ⟨[], []⟩ .nil (.mk none ⟨[], []⟩ (.mk none ⟨[0], [(3, (.c (.int .i64))), (4, (.c (.int .i64)))]⟩ .nil .nil) .nil)) .nil)))
theorem E_liveryref10_Leaves_Len (g0_x : Option Addr) (h : Hp) (Q : List Value → Hp → Prop) : cw PP 26 (fun _ => []) (bodyOf Tryz.f20) A_liveryref10_Leaves_Len (finQ PP (Tryz.f20.results.toList) Q) (argFr [(Value.pointer g0_x)]) h = F_liveryref10_Leaves_Len g0_x h Q := by kernel_rfl
theorem O_liveryref10_Leaves_Len (g0_x : Option Addr) {h : Hp} {Q : List Value → Hp → Prop} (H : F_liveryref10_Leaves_Len g0_x h Q) : S_liveryref10_Leaves_Len g0_x h Q :=
  fn_of_cw (hs := (fun _ => [])) (ann := A_liveryref10_Leaves_Len) (args := [(Value.pointer g0_x)]) mixedPP Tryz.func20 (c := bodyOf Tryz.f20) (by kernel_rfl) (by kernel_rfl) (by kernel_rfl) (Eq.mpr (E_liveryref10_Leaves_Len g0_x h Q) H)
def F_leaf_Leaves_All (g0_x : Option Addr) (h : Hp) (Q : List Value → Hp → Prop) : Prop :=
(if (Option.isNone g0_x) = true then
  (Q [(Value.slice none 0 0)] h) else
  (nilW g0_x fun a1 => ∃ l2 : Sl, rd h (Addr.add a1 1) = some (Value.slice l2.a l2.n l2.c) ∧
    ∀ X3 : List Value → Hp → Prop, (∀ l4 : Sl, ∀ n5 : Int, ∀ h6 : Hp, ((if (decide (n5 < (l2.n : Int))) = true then
          (nilW l2.a fun a7 => ixOk n5 l2.n (∃ p8 : Option Addr, rd h6 (Addr.add a7 (Int.toNat n5 * 1)) = some (Value.pointer p8) ∧
              nilW p8 fun a9 => ∃ n10 : Int, rd h6 (Addr.add a9 0) = some (Value.int .i64 n10) ∧
              wth (Array.push h6 (Obj.cells #[(Value.int .i64 n10)] T_int)) fun h11 =>
              ∃ cs14 : List Value, cellsAt h11 (some (Addr.mk (Array.size h6) 0 none)) (1 * 1) cs14 ∧ appS PP T_int 8 1 h11 ⟨l4.a, l4.n, l4.c⟩ 1 cs14 fun (l12 : Sl) (h13 : Hp) =>
              X3 [(Value.slice l12.a l12.n l12.c), (Value.int .i64 (IntKind.wrap .i64 (n5 + (1 : Int))))] h13)) else
          (Q [(Value.slice l4.a l4.n l4.c)] h6))) → X3 [(Value.slice l4.a l4.n l4.c), (Value.int .i64 n5)] h6) →
    X3 [(Value.slice none 0 0), (Value.int .i64 (0 : Int))] h))
def A_leaf_Leaves_All : Ann := (.mk none ⟨[], []⟩ .nil (.mk none ⟨[], []⟩ .nil (.mk none ⟨[], []⟩ .nil (.mk none ⟨[], []⟩ (.mk none ⟨[], []⟩ .nil (.mk none ⟨[], []⟩ (.mk none ⟨[11, 12], [(3, (.c .sl)), (13, (.c (.int .i64)))]⟩ .nil .nil) .nil)) .nil))))
theorem E_leaf_Leaves_All (g0_x : Option Addr) (h : Hp) (Q : List Value → Hp → Prop) : cw PP 26 (fun _ => []) (bodyOf Tryz.f42) A_leaf_Leaves_All (finQ PP (Tryz.f42.results.toList) Q) (argFr [(Value.pointer g0_x)]) h = F_leaf_Leaves_All g0_x h Q := by kernel_rfl
theorem O_leaf_Leaves_All (g0_x : Option Addr) {h : Hp} {Q : List Value → Hp → Prop} (H : F_leaf_Leaves_All g0_x h Q) : S_leaf_Leaves_All g0_x h Q :=
  fn_of_cw (hs := (fun _ => [])) (ann := A_leaf_Leaves_All) (args := [(Value.pointer g0_x)]) mixedPP Tryz.func42 (c := bodyOf Tryz.f42) (by kernel_rfl) (by kernel_rfl) (by kernel_rfl) (Eq.mpr (E_leaf_Leaves_All g0_x h Q) H)
def F_index_Index_Leaves (g0_x : Option Addr) (h : Hp) (Q : List Value → Hp → Prop) : Prop :=
(if (Option.isNone g0_x) = true then
  (Q [(Value.slice none 0 0)] h) else
  (nilW g0_x fun a1 => ∃ p2 : Option Addr, rd h (Addr.add a1 0) = some (Value.pointer p2) ∧
    S_leaf_Leaves_All p2 h fun (vs3 : List Value) (h4 : Hp) =>
    ∃ l5 : Sl, vs3 = [(Value.slice l5.a l5.n l5.c)] ∧
    Q [(Value.slice l5.a l5.n l5.c)] h4))
def A_index_Index_Leaves : Ann := .nil
theorem E_index_Index_Leaves (g0_x : Option Addr) (h : Hp) (Q : List Value → Hp → Prop) : cw PP 10 (fun _ => []) (bodyOf Tryz.f21) A_index_Index_Leaves (finQ PP (Tryz.f21.results.toList) Q) (argFr [(Value.pointer g0_x)]) h = F_index_Index_Leaves g0_x h Q := by kernel_rfl
theorem O_index_Index_Leaves (g0_x : Option Addr) {h : Hp} {Q : List Value → Hp → Prop} (H : F_index_Index_Leaves g0_x h Q) : S_index_Index_Leaves g0_x h Q :=
  fn_of_cw (hs := (fun _ => [])) (ann := A_index_Index_Leaves) (args := [(Value.pointer g0_x)]) mixedPP Tryz.func21 (c := bodyOf Tryz.f21) (by kernel_rfl) (by kernel_rfl) (by kernel_rfl) (Eq.mpr (E_index_Index_Leaves g0_x h Q) H)
def F_liveryref10_Leaves_All (g0_x : Option Addr) (h : Hp) (Q : List Value → Hp → Prop) : Prop :=
∀ X1 : List Value → Hp → Prop, (∀ l2 : Sl, ∀ n3 : Int, ∀ h4 : Hp, (nilW g0_x fun a5 => ∃ l6 : Sl, rd h4 (Addr.add a5 0) = some (Value.slice l6.a l6.n l6.c) ∧
    (if (decide (n3 < (l6.n : Int))) = true then
      (nilW g0_x fun a7 => ∃ l8 : Sl, rd h4 (Addr.add a7 0) = some (Value.slice l8.a l8.n l8.c) ∧
        nilW l8.a fun a9 => ixOk n3 l8.n (∃ n10 : Int, rd h4 (Addr.add (Addr.add a9 (Int.toNat n3 * 4)) 0) = some (Value.int .i64 n10) ∧
          wth (Array.push h4 (Obj.cells #[(Value.int .i64 n10)] T_int)) fun h11 =>
          ∃ cs14 : List Value, cellsAt h11 (some (Addr.mk (Array.size h4) 0 none)) (1 * 1) cs14 ∧ appS PP T_int 8 1 h11 ⟨l2.a, l2.n, l2.c⟩ 1 cs14 fun (l12 : Sl) (h13 : Hp) =>
          X1 [(Value.slice l12.a l12.n l12.c), (Value.int .i64 (IntKind.wrap .i64 (n3 + (1 : Int))))] h13)) else
      (Q [(Value.slice l2.a l2.n l2.c)] h4))) → X1 [(Value.slice l2.a l2.n l2.c), (Value.int .i64 n3)] h4) →
X1 [(Value.slice none 0 0), (Value.int .i64 (0 : Int))] h
def A_liveryref10_Leaves_All : Ann := (.mk none ⟨[], []⟩ .nil (.mk none ⟨[], []⟩ .nil (.mk none ⟨[], []⟩ (.mk none ⟨[], []⟩ .nil (.mk none ⟨[], []⟩ (.mk none ⟨[0], [(3, (.c .sl)), (4, (.c (.int .i64)))]⟩ .nil .nil) .nil)) .nil)))
theorem E_liveryref10_Leaves_All (g0_x : Option Addr) (h : Hp) (Q : List Value → Hp → Prop) : cw PP 26 (fun _ => []) (bodyOf Tryz.f22) A_liveryref10_Leaves_All (finQ PP (Tryz.f22.results.toList) Q) (argFr [(Value.pointer g0_x)]) h = F_liveryref10_Leaves_All g0_x h Q := by kernel_rfl
theorem O_liveryref10_Leaves_All (g0_x : Option Addr) {h : Hp} {Q : List Value → Hp → Prop} (H : F_liveryref10_Leaves_All g0_x h Q) : S_liveryref10_Leaves_All g0_x h Q :=
  fn_of_cw (hs := (fun _ => [])) (ann := A_liveryref10_Leaves_All) (args := [(Value.pointer g0_x)]) mixedPP Tryz.func22 (c := bodyOf Tryz.f22) (by kernel_rfl) (by kernel_rfl) (by kernel_rfl) (Eq.mpr (E_liveryref10_Leaves_All g0_x h Q) H)
def F_liverylaw11_IndexPlays (g0_fan : Int) (g1_l : Sl) (h : Hp) (Q : List Value → Hp → Prop) : Prop :=
S_index_New g0_fan h fun (vs1 : List Value) (h2 : Hp) =>
∃ p3 : Option Addr, ∃ n4 : Int, vs1 = [(Value.pointer p3), (Value.int .i64 n4)] ∧
S_liveryref11_New g0_fan h2 fun (vs5 : List Value) (h6 : Hp) =>
∃ p7 : Option Addr, ∃ n8 : Int, vs5 = [(Value.pointer p7), (Value.int .i64 n8)] ∧
∀ J9 : List Value → Hp → Prop, (∀ b10 : Bool, ∀ h11 : Hp, ((if b10 = true then
      (Q [(Value.bool false)] h11) else
      (∀ J12 : List Value → Hp → Prop, (∀ b13 : Bool, ∀ h14 : Hp, ((if b13 = true then
              (S_liverylaw11_wakes  h14 fun (vs15 : List Value) (h16 : Hp) =>
                ∃ b17 : Bool, vs15 = [(Value.bool b17)] ∧
                Q [(Value.bool b17)] h16) else
              (∀ X18 : List Value → Hp → Prop, (∀ n19 : Int, ∀ h20 : Hp, ((if (decide (n19 < (g1_l.n : Int))) = true then
                      (nilW g1_l.a fun a21 => ixOk n19 g1_l.n (∃ n22 : Int, rd h20 (Addr.add (Addr.add a21 (Int.toNat n19 * 10)) 0) = some (Value.int .i64 n22) ∧ ∃ n23 : Int, rd h20 (Addr.add (Addr.add a21 (Int.toNat n19 * 10)) 1) = some (Value.int .i64 n23) ∧ ∃ n24 : Int, rd h20 (Addr.add (Addr.add a21 (Int.toNat n19 * 10)) 2) = some (Value.int .i64 n24) ∧ ∃ n25 : Int, rd h20 (Addr.add (Addr.add a21 (Int.toNat n19 * 10)) 3) = some (Value.int .i64 n25) ∧ ∃ x26 : Nat, rd h20 (Addr.add (Addr.add a21 (Int.toNat n19 * 10)) 4) = some (Value.float .f64 x26) ∧ ∃ s27 : ByteArray, rd h20 (Addr.add (Addr.add a21 (Int.toNat n19 * 10)) 5) = some (Value.string s27) ∧ ∃ n28 : Int, rd h20 (Addr.add (Addr.add a21 (Int.toNat n19 * 10)) 6) = some (Value.int .i64 n28) ∧ ∃ n29 : Int, rd h20 (Addr.add (Addr.add a21 (Int.toNat n19 * 10)) 7) = some (Value.int .i64 n29) ∧ ∃ x30 : Nat, rd h20 (Addr.add (Addr.add a21 (Int.toNat n19 * 10)) 8) = some (Value.float .f64 x30) ∧ ∃ s31 : ByteArray, rd h20 (Addr.add (Addr.add a21 (Int.toNat n19 * 10)) 9) = some (Value.string s31) ∧ wth (Array.push h20 (Obj.cells #[(Value.int .i64 (0 : Int)), (Value.int .i64 (0 : Int)), (Value.int .i64 (0 : Int)), (Value.int .i64 (0 : Int)), (Value.float .f64 0), (Value.string (ByteArray.mk #[])), (Value.int .i64 (0 : Int)), (Value.int .i64 (0 : Int)), (Value.float .f64 0), (Value.string (ByteArray.mk #[]))] T_liverylaw11_Step)) fun h32 =>
                          stOk h32 (Addr.mk (Array.size h20) 0 none) 10 ∧ wth (wrs h32 (Addr.mk (Array.size h20) 0 none) 0 [(Value.int .i64 n22), (Value.int .i64 n23), (Value.int .i64 n24), (Value.int .i64 n25), (Value.float .f64 x26), (Value.string s27), (Value.int .i64 n28), (Value.int .i64 n29), (Value.float .f64 x30), (Value.string s31)]) fun h33 =>
                          ∃ n34 : Int, rd h33 (Addr.add (Addr.mk (Array.size h20) 0 none) 0) = some (Value.int .i64 n34) ∧
                          ∀ J35 : List Value → Hp → Prop, (∀ h36 : Hp, (∃ n37 : Int, rd h36 (Addr.add (Addr.mk (Array.size h20) 0 none) 0) = some (Value.int .i64 n37) ∧
                              ∀ J38 : List Value → Hp → Prop, (∀ h39 : Hp, (∃ n40 : Int, rd h39 (Addr.add (Addr.add (Addr.mk (Array.size h20) 0 none) 2) 0) = some (Value.int .i64 n40) ∧ ∃ n41 : Int, rd h39 (Addr.add (Addr.add (Addr.mk (Array.size h20) 0 none) 2) 1) = some (Value.int .i64 n41) ∧ ∃ x42 : Nat, rd h39 (Addr.add (Addr.add (Addr.mk (Array.size h20) 0 none) 2) 2) = some (Value.float .f64 x42) ∧ ∃ s43 : ByteArray, rd h39 (Addr.add (Addr.add (Addr.mk (Array.size h20) 0 none) 2) 3) = some (Value.string s43) ∧ S_index_Index_Find p3 n40 n41 x42 s43 h39 fun (vs44 : List Value) (h45 : Hp) =>
                                  ∃ l46 : Sl, ∃ l47 : Sl, vs44 = [(Value.slice l46.a l46.n l46.c), (Value.slice l47.a l47.n l47.c)] ∧
                                  ∃ n48 : Int, rd h45 (Addr.add (Addr.add (Addr.mk (Array.size h20) 0 none) 2) 0) = some (Value.int .i64 n48) ∧ ∃ n49 : Int, rd h45 (Addr.add (Addr.add (Addr.mk (Array.size h20) 0 none) 2) 1) = some (Value.int .i64 n49) ∧ ∃ x50 : Nat, rd h45 (Addr.add (Addr.add (Addr.mk (Array.size h20) 0 none) 2) 2) = some (Value.float .f64 x50) ∧ ∃ s51 : ByteArray, rd h45 (Addr.add (Addr.add (Addr.mk (Array.size h20) 0 none) 2) 3) = some (Value.string s51) ∧ S_liveryref11_Index_Find p7 n48 n49 x50 s51 h45 fun (vs52 : List Value) (h53 : Hp) =>
                                  ∃ l54 : Sl, ∃ l55 : Sl, vs52 = [(Value.agg #[(Value.slice l54.a l54.n l54.c), (Value.slice l55.a l55.n l55.c)])] ∧
                                  wth (Array.push h53 (Obj.cells #[(Value.slice none 0 0), (Value.slice none 0 0)] T_liveryref11_Span)) fun h56 =>
                                  stOk h56 (Addr.mk (Array.size h53) 0 none) 2 ∧ wth (wrs h56 (Addr.mk (Array.size h53) 0 none) 0 [(Value.slice l54.a l54.n l54.c), (Value.slice l55.a l55.n l55.c)]) fun h57 =>
                                  ∃ n58 : Int, rd h57 (Addr.add (Addr.add (Addr.mk (Array.size h20) 0 none) 2) 0) = some (Value.int .i64 n58) ∧ ∃ n59 : Int, rd h57 (Addr.add (Addr.add (Addr.mk (Array.size h20) 0 none) 2) 1) = some (Value.int .i64 n59) ∧ ∃ x60 : Nat, rd h57 (Addr.add (Addr.add (Addr.mk (Array.size h20) 0 none) 2) 2) = some (Value.float .f64 x60) ∧ ∃ s61 : ByteArray, rd h57 (Addr.add (Addr.add (Addr.mk (Array.size h20) 0 none) 2) 3) = some (Value.string s61) ∧ ∃ n62 : Int, rd h57 (Addr.add (Addr.add (Addr.mk (Array.size h20) 0 none) 6) 0) = some (Value.int .i64 n62) ∧ ∃ n63 : Int, rd h57 (Addr.add (Addr.add (Addr.mk (Array.size h20) 0 none) 6) 1) = some (Value.int .i64 n63) ∧ ∃ x64 : Nat, rd h57 (Addr.add (Addr.add (Addr.mk (Array.size h20) 0 none) 6) 2) = some (Value.float .f64 x64) ∧ ∃ s65 : ByteArray, rd h57 (Addr.add (Addr.add (Addr.mk (Array.size h20) 0 none) 6) 3) = some (Value.string s65) ∧ S_index_Index_Range p3 n58 n59 x60 s61 n62 n63 x64 s65 h57 fun (vs66 : List Value) (h67 : Hp) =>
                                  ∃ l68 : Sl, ∃ l69 : Sl, vs66 = [(Value.slice l68.a l68.n l68.c), (Value.slice l69.a l69.n l69.c)] ∧
                                  ∃ n70 : Int, rd h67 (Addr.add (Addr.add (Addr.mk (Array.size h20) 0 none) 2) 0) = some (Value.int .i64 n70) ∧ ∃ n71 : Int, rd h67 (Addr.add (Addr.add (Addr.mk (Array.size h20) 0 none) 2) 1) = some (Value.int .i64 n71) ∧ ∃ x72 : Nat, rd h67 (Addr.add (Addr.add (Addr.mk (Array.size h20) 0 none) 2) 2) = some (Value.float .f64 x72) ∧ ∃ s73 : ByteArray, rd h67 (Addr.add (Addr.add (Addr.mk (Array.size h20) 0 none) 2) 3) = some (Value.string s73) ∧ ∃ n74 : Int, rd h67 (Addr.add (Addr.add (Addr.mk (Array.size h20) 0 none) 6) 0) = some (Value.int .i64 n74) ∧ ∃ n75 : Int, rd h67 (Addr.add (Addr.add (Addr.mk (Array.size h20) 0 none) 6) 1) = some (Value.int .i64 n75) ∧ ∃ x76 : Nat, rd h67 (Addr.add (Addr.add (Addr.mk (Array.size h20) 0 none) 6) 2) = some (Value.float .f64 x76) ∧ ∃ s77 : ByteArray, rd h67 (Addr.add (Addr.add (Addr.mk (Array.size h20) 0 none) 6) 3) = some (Value.string s77) ∧ S_liveryref11_Index_Range p7 n70 n71 x72 s73 n74 n75 x76 s77 h67 fun (vs78 : List Value) (h79 : Hp) =>
                                  ∃ l80 : Sl, ∃ l81 : Sl, vs78 = [(Value.agg #[(Value.slice l80.a l80.n l80.c), (Value.slice l81.a l81.n l81.c)])] ∧
                                  wth (Array.push h79 (Obj.cells #[(Value.slice none 0 0), (Value.slice none 0 0)] T_liveryref11_Span)) fun h82 =>
                                  stOk h82 (Addr.mk (Array.size h79) 0 none) 2 ∧ wth (wrs h82 (Addr.mk (Array.size h79) 0 none) 0 [(Value.slice l80.a l80.n l80.c), (Value.slice l81.a l81.n l81.c)]) fun h83 =>
                                  ∀ J84 : List Value → Hp → Prop, (∀ b85 : Bool, ∀ h86 : Hp, ((if b85 = true then
                                        (Q [(Value.bool false)] h86) else
                                        (X18 [(Value.int .i64 (IntKind.wrap .i64 (n19 + (1 : Int))))] h86))) → J84 [(Value.bool b85)] h86) →
                                  ∃ l87 : Sl, rd h83 (Addr.add (Addr.mk (Array.size h53) 0 none) 0) = some (Value.slice l87.a l87.n l87.c) ∧
                                  S_liverykeep_Ints ⟨l46.a, l46.n, l46.c⟩ ⟨l87.a, l87.n, l87.c⟩ h83 fun (vs88 : List Value) (h89 : Hp) =>
                                  ∃ b90 : Bool, vs88 = [(Value.bool b90)] ∧
                                  (if (!b90) = true then (J84 [(Value.bool true)] h89) else
                                    (∃ l91 : Sl, rd h89 (Addr.add (Addr.mk (Array.size h53) 0 none) 1) = some (Value.slice l91.a l91.n l91.c) ∧
                                      S_liverykeep_Ints ⟨l47.a, l47.n, l47.c⟩ ⟨l91.a, l91.n, l91.c⟩ h89 fun (vs92 : List Value) (h93 : Hp) =>
                                      ∃ b94 : Bool, vs92 = [(Value.bool b94)] ∧
                                      (if (!b94) = true then (J84 [(Value.bool true)] h93) else
                                        (∃ l95 : Sl, rd h93 (Addr.add (Addr.mk (Array.size h79) 0 none) 0) = some (Value.slice l95.a l95.n l95.c) ∧
                                          S_liverykeep_Ints ⟨l68.a, l68.n, l68.c⟩ ⟨l95.a, l95.n, l95.c⟩ h93 fun (vs96 : List Value) (h97 : Hp) =>
                                          ∃ b98 : Bool, vs96 = [(Value.bool b98)] ∧
                                          (if (!b98) = true then (J84 [(Value.bool true)] h97) else
                                            (∃ l99 : Sl, rd h97 (Addr.add (Addr.mk (Array.size h79) 0 none) 1) = some (Value.slice l99.a l99.n l99.c) ∧
                                              S_liverykeep_Ints ⟨l69.a, l69.n, l69.c⟩ ⟨l99.a, l99.n, l99.c⟩ h97 fun (vs100 : List Value) (h101 : Hp) =>
                                              ∃ b102 : Bool, vs100 = [(Value.bool b102)] ∧
                                              (if (!b102) = true then (J84 [(Value.bool true)] h101) else
                                                (∃ n103 : Int, rd h101 (Addr.add (Addr.add (Addr.mk (Array.size h20) 0 none) 2) 0) = some (Value.int .i64 n103) ∧ ∃ n104 : Int, rd h101 (Addr.add (Addr.add (Addr.mk (Array.size h20) 0 none) 2) 1) = some (Value.int .i64 n104) ∧ ∃ x105 : Nat, rd h101 (Addr.add (Addr.add (Addr.mk (Array.size h20) 0 none) 2) 2) = some (Value.float .f64 x105) ∧ ∃ s106 : ByteArray, rd h101 (Addr.add (Addr.add (Addr.mk (Array.size h20) 0 none) 2) 3) = some (Value.string s106) ∧ ∃ n107 : Int, rd h101 (Addr.add (Addr.mk (Array.size h20) 0 none) 1) = some (Value.int .i64 n107) ∧
                                                  ∃ n108 : Int, rd h101 (Addr.add (Addr.add (Addr.mk (Array.size h20) 0 none) 2) 0) = some (Value.int .i64 n108) ∧ ∃ n109 : Int, rd h101 (Addr.add (Addr.add (Addr.mk (Array.size h20) 0 none) 2) 1) = some (Value.int .i64 n109) ∧ ∃ x110 : Nat, rd h101 (Addr.add (Addr.add (Addr.mk (Array.size h20) 0 none) 2) 2) = some (Value.float .f64 x110) ∧ ∃ s111 : ByteArray, rd h101 (Addr.add (Addr.add (Addr.mk (Array.size h20) 0 none) 2) 3) = some (Value.string s111) ∧ ∃ n112 : Int, rd h101 (Addr.add (Addr.mk (Array.size h20) 0 none) 1) = some (Value.int .i64 n112) ∧
                                                  S_index_Index_Has p3 n103 n104 x105 s106 n107 h101 fun (vs113 : List Value) (h114 : Hp) =>
                                                  ∃ b115 : Bool, vs113 = [(Value.bool b115)] ∧
                                                  rd h114 (Addr.add (Addr.mk (Array.size h20) 0 none) 1) = some (Value.int .i64 n112) ∧ rd h114 (Addr.add (Addr.add (Addr.mk (Array.size h20) 0 none) 2) 0) = some (Value.int .i64 n108) ∧ rd h114 (Addr.add (Addr.add (Addr.mk (Array.size h20) 0 none) 2) 1) = some (Value.int .i64 n109) ∧ rd h114 (Addr.add (Addr.add (Addr.mk (Array.size h20) 0 none) 2) 2) = some (Value.float .f64 x110) ∧ rd h114 (Addr.add (Addr.add (Addr.mk (Array.size h20) 0 none) 2) 3) = some (Value.string s111) ∧ S_liveryref11_Index_Has p7 n108 n109 x110 s111 n112 h114 fun (vs116 : List Value) (h117 : Hp) =>
                                                  ∃ b118 : Bool, vs116 = [(Value.bool b118)] ∧
                                                  (if (!(b115 == b118)) = true then (J84 [(Value.bool true)] h117) else
                                                    (nilW p7 fun a119 => ∃ p120 : Option Addr, rd h117 (Addr.add a119 0) = some (Value.pointer p120) ∧
                                                      S_index_Index_Len p3 h117 fun (vs121 : List Value) (h122 : Hp) =>
                                                      ∃ n123 : Int, vs121 = [(Value.int .i64 n123)] ∧
                                                      rd h122 (Addr.add a119 0) = some (Value.pointer p120) ∧ S_liveryref10_Leaves_Len p120 h122 fun (vs124 : List Value) (h125 : Hp) =>
                                                      ∃ n126 : Int, vs124 = [(Value.int .i64 n126)] ∧
                                                      (if (n123 != n126) = true then (J84 [(Value.bool true)] h125) else
                                                        (nilW p7 fun a127 => ∃ p128 : Option Addr, rd h125 (Addr.add a127 0) = some (Value.pointer p128) ∧
                                                          S_index_Index_Leaves p3 h125 fun (vs129 : List Value) (h130 : Hp) =>
                                                          ∃ l131 : Sl, vs129 = [(Value.slice l131.a l131.n l131.c)] ∧
                                                          rd h130 (Addr.add a127 0) = some (Value.pointer p128) ∧ S_liveryref10_Leaves_All p128 h130 fun (vs132 : List Value) (h133 : Hp) =>
                                                          ∃ l134 : Sl, vs132 = [(Value.slice l134.a l134.n l134.c)] ∧
                                                          S_liverykeep_Ints ⟨l131.a, l131.n, l131.c⟩ ⟨l134.a, l134.n, l134.c⟩ h133 fun (vs135 : List Value) (h136 : Hp) =>
                                                          ∃ b137 : Bool, vs135 = [(Value.bool b137)] ∧
                                                          J84 [(Value.bool (!b137))] h136))))))))))))) → J38 [] h39) →
                              (if (n37 == (1 : Int)) = true then
                                (∃ n138 : Int, rd h36 (Addr.add (Addr.add (Addr.mk (Array.size h20) 0 none) 2) 0) = some (Value.int .i64 n138) ∧ ∃ n139 : Int, rd h36 (Addr.add (Addr.add (Addr.mk (Array.size h20) 0 none) 2) 1) = some (Value.int .i64 n139) ∧ ∃ x140 : Nat, rd h36 (Addr.add (Addr.add (Addr.mk (Array.size h20) 0 none) 2) 2) = some (Value.float .f64 x140) ∧ ∃ s141 : ByteArray, rd h36 (Addr.add (Addr.add (Addr.mk (Array.size h20) 0 none) 2) 3) = some (Value.string s141) ∧ ∃ n142 : Int, rd h36 (Addr.add (Addr.mk (Array.size h20) 0 none) 1) = some (Value.int .i64 n142) ∧
                                  S_index_Index_Drop p3 n138 n139 x140 s141 n142 h36 fun (vs143 : List Value) (h144 : Hp) =>
                                  ∃ n145 : Int, ∃ n146 : Int, ∃ n147 : Int, ∃ n148 : Int, vs143 = [(Value.int .i64 n145), (Value.agg #[(Value.int .i64 n146), (Value.int .i64 n147)]), (Value.int .i64 n148)] ∧
                                  wth (Array.push h144 (Obj.cells #[(Value.int .i64 (0 : Int)), (Value.int .i64 (0 : Int))] T_leaf_Move)) fun h149 =>
                                  stOk h149 (Addr.mk (Array.size h144) 0 none) 2 ∧ wth (wrs h149 (Addr.mk (Array.size h144) 0 none) 0 [(Value.int .i64 n146), (Value.int .i64 n147)]) fun h150 =>
                                  ∃ n151 : Int, rd h150 (Addr.add (Addr.add (Addr.mk (Array.size h20) 0 none) 2) 0) = some (Value.int .i64 n151) ∧ ∃ n152 : Int, rd h150 (Addr.add (Addr.add (Addr.mk (Array.size h20) 0 none) 2) 1) = some (Value.int .i64 n152) ∧ ∃ x153 : Nat, rd h150 (Addr.add (Addr.add (Addr.mk (Array.size h20) 0 none) 2) 2) = some (Value.float .f64 x153) ∧ ∃ s154 : ByteArray, rd h150 (Addr.add (Addr.add (Addr.mk (Array.size h20) 0 none) 2) 3) = some (Value.string s154) ∧ ∃ n155 : Int, rd h150 (Addr.add (Addr.mk (Array.size h20) 0 none) 1) = some (Value.int .i64 n155) ∧
                                  S_liveryref11_Index_Drop p7 n151 n152 x153 s154 n155 h150 fun (vs156 : List Value) (h157 : Hp) =>
                                  ∃ n158 : Int, ∃ n159 : Int, ∃ n160 : Int, ∃ n161 : Int, vs156 = [(Value.agg #[(Value.int .i64 n158), (Value.int .i64 n159), (Value.int .i64 n160), (Value.int .i64 n161)])] ∧
                                  wth (Array.push h157 (Obj.cells #[(Value.int .i64 (0 : Int)), (Value.int .i64 (0 : Int)), (Value.int .i64 (0 : Int)), (Value.int .i64 (0 : Int))] T_liveryref10_Did)) fun h162 =>
                                  stOk h162 (Addr.mk (Array.size h157) 0 none) 4 ∧ wth (wrs h162 (Addr.mk (Array.size h157) 0 none) 0 [(Value.int .i64 n158), (Value.int .i64 n159), (Value.int .i64 n160), (Value.int .i64 n161)]) fun h163 =>
                                  ∀ J164 : List Value → Hp → Prop, (∀ b165 : Bool, ∀ h166 : Hp, ((if b165 = true then
                                        (Q [(Value.bool false)] h166) else
                                        (J38 [] h166))) → J164 [(Value.bool b165)] h166) →
                                  ∃ n167 : Int, rd h163 (Addr.add (Addr.mk (Array.size h157) 0 none) 0) = some (Value.int .i64 n167) ∧
                                  (if (n145 != n167) = true then (J164 [(Value.bool true)] h163) else
                                    (∃ n168 : Int, rd h163 (Addr.add (Addr.mk (Array.size h144) 0 none) 0) = some (Value.int .i64 n168) ∧
                                      ∃ n169 : Int, rd h163 (Addr.add (Addr.mk (Array.size h157) 0 none) 1) = some (Value.int .i64 n169) ∧
                                      (if (n168 != n169) = true then (J164 [(Value.bool true)] h163) else
                                        (∃ n170 : Int, rd h163 (Addr.add (Addr.mk (Array.size h144) 0 none) 1) = some (Value.int .i64 n170) ∧
                                          ∃ n171 : Int, rd h163 (Addr.add (Addr.mk (Array.size h157) 0 none) 2) = some (Value.int .i64 n171) ∧
                                          (if (n170 != n171) = true then (J164 [(Value.bool true)] h163) else
                                            (∃ n172 : Int, rd h163 (Addr.add (Addr.mk (Array.size h157) 0 none) 3) = some (Value.int .i64 n172) ∧
                                              J164 [(Value.bool (n148 != n172))] h163))))))) else
                                (J38 [] h36))) → J35 [] h36) →
                          (if (n34 == (0 : Int)) = true then
                            (∃ n173 : Int, rd h33 (Addr.add (Addr.add (Addr.mk (Array.size h20) 0 none) 2) 0) = some (Value.int .i64 n173) ∧ ∃ n174 : Int, rd h33 (Addr.add (Addr.add (Addr.mk (Array.size h20) 0 none) 2) 1) = some (Value.int .i64 n174) ∧ ∃ x175 : Nat, rd h33 (Addr.add (Addr.add (Addr.mk (Array.size h20) 0 none) 2) 2) = some (Value.float .f64 x175) ∧ ∃ s176 : ByteArray, rd h33 (Addr.add (Addr.add (Addr.mk (Array.size h20) 0 none) 2) 3) = some (Value.string s176) ∧ ∃ n177 : Int, rd h33 (Addr.add (Addr.mk (Array.size h20) 0 none) 1) = some (Value.int .i64 n177) ∧
                              S_index_Index_Add p3 n173 n174 x175 s176 n177 h33 fun (vs178 : List Value) (h179 : Hp) =>
                              ∃ n180 : Int, ∃ n181 : Int, ∃ n182 : Int, ∃ n183 : Int, vs178 = [(Value.int .i64 n180), (Value.agg #[(Value.int .i64 n181), (Value.int .i64 n182)]), (Value.int .i64 n183)] ∧
                              wth (Array.push h179 (Obj.cells #[(Value.int .i64 (0 : Int)), (Value.int .i64 (0 : Int))] T_leaf_Move)) fun h184 =>
                              stOk h184 (Addr.mk (Array.size h179) 0 none) 2 ∧ wth (wrs h184 (Addr.mk (Array.size h179) 0 none) 0 [(Value.int .i64 n181), (Value.int .i64 n182)]) fun h185 =>
                              ∃ n186 : Int, rd h185 (Addr.add (Addr.add (Addr.mk (Array.size h20) 0 none) 2) 0) = some (Value.int .i64 n186) ∧ ∃ n187 : Int, rd h185 (Addr.add (Addr.add (Addr.mk (Array.size h20) 0 none) 2) 1) = some (Value.int .i64 n187) ∧ ∃ x188 : Nat, rd h185 (Addr.add (Addr.add (Addr.mk (Array.size h20) 0 none) 2) 2) = some (Value.float .f64 x188) ∧ ∃ s189 : ByteArray, rd h185 (Addr.add (Addr.add (Addr.mk (Array.size h20) 0 none) 2) 3) = some (Value.string s189) ∧ ∃ n190 : Int, rd h185 (Addr.add (Addr.mk (Array.size h20) 0 none) 1) = some (Value.int .i64 n190) ∧
                              S_liveryref11_Index_Add p7 n186 n187 x188 s189 n190 h185 fun (vs191 : List Value) (h192 : Hp) =>
                              ∃ n193 : Int, ∃ n194 : Int, ∃ n195 : Int, ∃ n196 : Int, vs191 = [(Value.agg #[(Value.int .i64 n193), (Value.int .i64 n194), (Value.int .i64 n195), (Value.int .i64 n196)])] ∧
                              wth (Array.push h192 (Obj.cells #[(Value.int .i64 (0 : Int)), (Value.int .i64 (0 : Int)), (Value.int .i64 (0 : Int)), (Value.int .i64 (0 : Int))] T_liveryref10_Did)) fun h197 =>
                              stOk h197 (Addr.mk (Array.size h192) 0 none) 4 ∧ wth (wrs h197 (Addr.mk (Array.size h192) 0 none) 0 [(Value.int .i64 n193), (Value.int .i64 n194), (Value.int .i64 n195), (Value.int .i64 n196)]) fun h198 =>
                              ∀ J199 : List Value → Hp → Prop, (∀ b200 : Bool, ∀ h201 : Hp, ((if b200 = true then
                                    (Q [(Value.bool false)] h201) else
                                    (J35 [] h201))) → J199 [(Value.bool b200)] h201) →
                              ∃ n202 : Int, rd h198 (Addr.add (Addr.mk (Array.size h192) 0 none) 0) = some (Value.int .i64 n202) ∧
                              (if (n180 != n202) = true then (J199 [(Value.bool true)] h198) else
                                (∃ n203 : Int, rd h198 (Addr.add (Addr.mk (Array.size h179) 0 none) 0) = some (Value.int .i64 n203) ∧
                                  ∃ n204 : Int, rd h198 (Addr.add (Addr.mk (Array.size h192) 0 none) 1) = some (Value.int .i64 n204) ∧
                                  (if (n203 != n204) = true then (J199 [(Value.bool true)] h198) else
                                    (∃ n205 : Int, rd h198 (Addr.add (Addr.mk (Array.size h179) 0 none) 1) = some (Value.int .i64 n205) ∧
                                      ∃ n206 : Int, rd h198 (Addr.add (Addr.mk (Array.size h192) 0 none) 2) = some (Value.int .i64 n206) ∧
                                      (if (n205 != n206) = true then (J199 [(Value.bool true)] h198) else
                                        (∃ n207 : Int, rd h198 (Addr.add (Addr.mk (Array.size h192) 0 none) 3) = some (Value.int .i64 n207) ∧
                                          J199 [(Value.bool (n183 != n207))] h198))))))) else
                            (J35 [] h33)))) else
                      (S_liverylaw11_wakes  h20 fun (vs208 : List Value) (h209 : Hp) =>
                        ∃ b210 : Bool, vs208 = [(Value.bool b210)] ∧
                        Q [(Value.bool b210)] h209))) → X18 [(Value.int .i64 n19)] h20) →
                X18 [(Value.int .i64 (0 : Int))] h14))) → J12 [(Value.bool b13)] h14) →
        (if (Option.isNone p7) = true then (J12 [(Value.bool true)] h11) else
          (S_liverylaw11_fair ⟨g1_l.a, g1_l.n, g1_l.c⟩ h11 fun (vs211 : List Value) (h212 : Hp) =>
            ∃ b213 : Bool, vs211 = [(Value.bool b213)] ∧
            J12 [(Value.bool (!b213))] h212))))) → J9 [(Value.bool b10)] h11) →
(if (n4 != n8) = true then (J9 [(Value.bool true)] h6) else
  (J9 [(Value.bool (!((Option.isNone p3) == (Option.isNone p7))))] h6))
def A_liverylaw11_IndexPlays : Ann := (.mk none ⟨[], []⟩ .nil (.mk none ⟨[], []⟩ .nil (.mk none ⟨[], []⟩ .nil (.mk none ⟨[], []⟩ (.mk none ⟨[], []⟩ (.mk (some ⟨[1, 5, 7], [(44, (.c .bool))]⟩) ⟨[], []⟩ .nil .nil) .nil) (.mk none ⟨[], []⟩ (.mk none ⟨[], []⟩ (.mk (some ⟨[1, 5, 7], [(51, (.c .bool))]⟩) ⟨[], []⟩ .nil .nil) .nil) (.mk none ⟨[], []⟩ (.mk none ⟨[], []⟩ .nil (.mk none ⟨[], []⟩ (.mk none ⟨[1, 5, 7], [(9, (.c (.int .i64)))]⟩ (.mk none ⟨[], []⟩ .nil (.mk none ⟨[], []⟩ (.mk none ⟨[], []⟩ (.mk none ⟨[], []⟩ .nil (.mk none ⟨[], []⟩ (.mk none ⟨[], []⟩ .nil (.mk (some ⟨[1, 5, 7, 9, 10], []⟩) ⟨[], []⟩ (.mk none ⟨[], []⟩ .nil (.mk none ⟨[], []⟩ .nil (.mk none ⟨[], []⟩ (.mk (some ⟨[1, 5, 7, 9, 10], [(105, (.c .bool))]⟩) ⟨[], []⟩ .nil .nil) .nil))) .nil)) (.mk none ⟨[], []⟩ (.mk none ⟨[], []⟩ .nil (.mk (some ⟨[1, 5, 7, 9, 10], []⟩) ⟨[], []⟩ (.mk none ⟨[], []⟩ .nil (.mk none ⟨[], []⟩ .nil (.mk none ⟨[], []⟩ (.mk (some ⟨[1, 5, 7, 9, 10], [(148, (.c .bool))]⟩) ⟨[], []⟩ .nil .nil) .nil))) .nil)) (.mk none ⟨[], []⟩ .nil (.mk none ⟨[], []⟩ .nil (.mk none ⟨[], []⟩ .nil (.mk none ⟨[], []⟩ .nil (.mk none ⟨[], []⟩ (.mk (some ⟨[1, 5, 7, 9], [(236, (.c .bool))]⟩) ⟨[], []⟩ .nil .nil) .nil)))))))) .nil) .nil)) .nil) .nil)) .nil))))))
theorem E_liverylaw11_IndexPlays (g0_fan : Int) (g1_l : Sl) (h : Hp) (Q : List Value → Hp → Prop) : cw PP 238 (fun _ => []) (bodyOf Tryz.f3) A_liverylaw11_IndexPlays (finQ PP (Tryz.f3.results.toList) Q) (argFr [(Value.int .i64 g0_fan), (Value.slice g1_l.a g1_l.n g1_l.c)]) h = F_liverylaw11_IndexPlays g0_fan g1_l h Q := by kernel_rfl
theorem O_liverylaw11_IndexPlays (g0_fan : Int) (g1_l : Sl) {h : Hp} {Q : List Value → Hp → Prop} (H : F_liverylaw11_IndexPlays g0_fan g1_l h Q) : S_liverylaw11_IndexPlays g0_fan g1_l h Q :=
  fn_of_cw (hs := (fun _ => [])) (ann := A_liverylaw11_IndexPlays) (args := [(Value.int .i64 g0_fan), (Value.slice g1_l.a g1_l.n g1_l.c)]) mixedPP Tryz.func3 (c := bodyOf Tryz.f3) (by kernel_rfl) (by kernel_rfl) (by kernel_rfl) (Eq.mpr (E_liverylaw11_IndexPlays g0_fan g1_l h Q) H)
def F_leaf_Leaves_Range (g0_x : Option Addr) (g1_from : ByteArray) (g2_to : ByteArray) (h : Hp) (Q : List Value → Hp → Prop) : Prop :=
∀ J1 : List Value → Hp → Prop, (∀ b2 : Bool, ∀ h3 : Hp, ((if b2 = true then
      (Q [(Value.slice none 0 0), (Value.slice none 0 0)] h3) else
      (nilW g0_x fun a4 => ∃ l5 : Sl, rd h3 (Addr.add a4 1) = some (Value.slice l5.a l5.n l5.c) ∧
        ∀ J6 : List Value → Hp → Prop, (∀ n7 : Int, ∀ h8 : Hp, (nilW g0_x fun a9 => ∃ l10 : Sl, rd h8 (Addr.add a9 1) = some (Value.slice l10.a l10.n l10.c) ∧
            S_leaf_Leaves_at g0_x g1_from h8 fun (vs11 : List Value) (h12 : Hp) =>
            ∃ n13 : Int, vs11 = [(Value.int .i64 n13)] ∧
            rd h12 (Addr.add a9 1) = some (Value.slice l10.a l10.n l10.c) ∧ (0 ≤ n13 ∧ n13 ≤ (IntKind.wrap .i64 (n7 + (1 : Int))) ∧ (IntKind.wrap .i64 (n7 + (1 : Int))) ≤ (l10.c : Nat)) ∧ ∀ X14 : List Value → Hp → Prop, (∀ l15 : Sl, ∀ l16 : Sl, ∀ n17 : Int, ∀ h18 : Hp, ((if (decide (n17 < ((((Int.toNat (IntKind.wrap .i64 (n7 + (1 : Int)))) - (Int.toNat n13)) : Nat) : Int))) = true then
                  (nilW (slAd l10.a (Int.toNat n13) l10.c 1) fun a19 => ixOk n17 ((Int.toNat (IntKind.wrap .i64 (n7 + (1 : Int)))) - (Int.toNat n13)) (∃ p20 : Option Addr, rd h18 (Addr.add a19 (Int.toNat n17 * 1)) = some (Value.pointer p20) ∧
                      nilW p20 fun a21 => ∃ n22 : Int, rd h18 (Addr.add a21 0) = some (Value.int .i64 n22) ∧
                      wth (Array.push h18 (Obj.cells #[(Value.int .i64 n22)] T_int)) fun h23 =>
                      ∃ cs44 : List Value, cellsAt h23 (some (Addr.mk (Array.size h18) 0 none)) (1 * 1) cs44 ∧ appS PP T_int 8 1 h23 ⟨l16.a, l16.n, l16.c⟩ 1 cs44 fun (l24 : Sl) (h25 : Hp) =>
                      nilW p20 fun a26 => ∃ l27 : Sl, rd h25 (Addr.add a26 2) = some (Value.slice l27.a l27.n l27.c) ∧
                      ∀ X28 : List Value → Hp → Prop, (∀ l29 : Sl, ∀ n30 : Int, ∀ h31 : Hp, ((if (decide (n30 < (l27.n : Int))) = true then
                            (∀ J32 : List Value → Hp → Prop, (∀ l33 : Sl, ∀ h34 : Hp, (X28 [(Value.slice l33.a l33.n l33.c), (Value.int .i64 (IntKind.wrap .i64 (n30 + (1 : Int))))] h34) → J32 [(Value.slice l33.a l33.n l33.c)] h34) →
                              nilW l27.a fun a35 => ixOk n30 l27.n (∃ s36 : ByteArray, rd h31 (Addr.add a35 (Int.toNat n30 * 1)) = some (Value.string s36) ∧
                                ∀ J37 : List Value → Hp → Prop, (∀ b38 : Bool, ∀ h39 : Hp, ((if b38 = true then
                                      (wth (Array.push h39 (Obj.cells #[(Value.string s36)] T_string)) fun h40 =>
                                        ∃ cs43 : List Value, cellsAt h40 (some (Addr.mk (Array.size h39) 0 none)) (1 * 1) cs43 ∧ appS PP T_string 16 1 h40 ⟨l29.a, l29.n, l29.c⟩ 1 cs43 fun (l41 : Sl) (h42 : Hp) =>
                                        J32 [(Value.slice l41.a l41.n l41.c)] h42) else
                                      (J32 [(Value.slice l29.a l29.n l29.c)] h39))) → J37 [(Value.bool b38)] h39) →
                                (if (!(Op.bytesLess (ByteArray.toList s36) (ByteArray.toList g1_from))) = true then ((if ((ByteArray.toList g2_to) == (ByteArray.toList (ByteArray.mk #[]))) = true then (J37 [(Value.bool true)] h31) else
                                      (J37 [(Value.bool (Op.bytesLess (ByteArray.toList s36) (ByteArray.toList g2_to)))] h31))) else
                                  (J37 [(Value.bool false)] h31)))) else
                            (X14 [(Value.slice l29.a l29.n l29.c), (Value.slice l24.a l24.n l24.c), (Value.int .i64 (IntKind.wrap .i64 (n17 + (1 : Int))))] h31))) → X28 [(Value.slice l29.a l29.n l29.c), (Value.int .i64 n30)] h31) →
                      X28 [(Value.slice l15.a l15.n l15.c), (Value.int .i64 (0 : Int))] h25)) else
                  (Q [(Value.slice l15.a l15.n l15.c), (Value.slice l16.a l16.n l16.c)] h18))) → X14 [(Value.slice l15.a l15.n l15.c), (Value.slice l16.a l16.n l16.c), (Value.int .i64 n17)] h18) →
            X14 [(Value.slice none 0 0), (Value.slice none 0 0), (Value.int .i64 (0 : Int))] h12) → J6 [(Value.int .i64 n7)] h8) →
        (if (!((ByteArray.toList g2_to) == (ByteArray.toList (ByteArray.mk #[])))) = true then
          (S_leaf_Leaves_at g0_x g2_to h3 fun (vs45 : List Value) (h46 : Hp) =>
            ∃ n47 : Int, vs45 = [(Value.int .i64 n47)] ∧
            J6 [(Value.int .i64 n47)] h46) else
          (J6 [(Value.int .i64 (IntKind.wrap .i64 ((l5.n : Int) - (1 : Int))))] h3))))) → J1 [(Value.bool b2)] h3) →
(if (Option.isNone g0_x) = true then (J1 [(Value.bool true)] h) else
  ((if (!((ByteArray.toList g2_to) == (ByteArray.toList (ByteArray.mk #[])))) = true then (J1 [(Value.bool (Op.bytesLess (ByteArray.toList g2_to) (ByteArray.toList g1_from) || (ByteArray.toList g2_to) == (ByteArray.toList g1_from)))] h) else
      (J1 [(Value.bool false)] h))))
def A_leaf_Leaves_Range : Ann := (.mk none ⟨[], []⟩ .nil (.mk none ⟨[], []⟩ (.mk none ⟨[], []⟩ (.mk (some ⟨[0, 1, 2, 6, 7], [(23, (.c .bool))]⟩) ⟨[], []⟩ .nil .nil) .nil) (.mk none ⟨[], []⟩ .nil (.mk none ⟨[], []⟩ (.mk none ⟨[], []⟩ .nil (.mk (some ⟨[0, 1, 2, 6, 7], [(8, (.c (.int .i64)))]⟩) ⟨[], []⟩ .nil .nil)) (.mk none ⟨[], []⟩ (.mk none ⟨[], []⟩ .nil (.mk none ⟨[], []⟩ (.mk none ⟨[1, 2, 44, 45], [(6, (.c .sl)), (7, (.c .sl)), (46, (.c (.int .i64)))]⟩ (.mk none ⟨[], []⟩ .nil (.mk none ⟨[], []⟩ .nil (.mk none ⟨[], []⟩ (.mk none ⟨[], []⟩ (.mk none ⟨[], []⟩ .nil (.mk none ⟨[], []⟩ .nil (.mk none ⟨[], []⟩ .nil (.mk none ⟨[], []⟩ (.mk none ⟨[1, 2, 7, 44, 45, 46, 60, 61], [(6, (.c .sl)), (62, (.c (.int .i64)))]⟩ (.mk none ⟨[], []⟩ .nil (.mk none ⟨[], []⟩ .nil (.mk none ⟨[], []⟩ (.mk (some ⟨[1, 2, 7, 44, 45, 46, 60, 61, 62], [(6, (.c .sl))]⟩) ⟨[], []⟩ (.mk none ⟨[], []⟩ .nil (.mk none ⟨[], []⟩ (.mk (some ⟨[1, 2, 6, 7, 12, 44, 45, 46, 60, 61, 62], [(77, (.c .bool))]⟩) ⟨[], []⟩ .nil .nil) .nil)) .nil) .nil))) .nil) .nil)))) .nil) .nil))) .nil) .nil)) .nil)))))
theorem E_leaf_Leaves_Range (g0_x : Option Addr) (g1_from : ByteArray) (g2_to : ByteArray) (h : Hp) (Q : List Value → Hp → Prop) : cw PP 86 (fun _ => []) (bodyOf Tryz.f54) A_leaf_Leaves_Range (finQ PP (Tryz.f54.results.toList) Q) (argFr [(Value.pointer g0_x), (Value.string g1_from), (Value.string g2_to)]) h = F_leaf_Leaves_Range g0_x g1_from g2_to h Q := by kernel_rfl
theorem O_leaf_Leaves_Range (g0_x : Option Addr) (g1_from : ByteArray) (g2_to : ByteArray) {h : Hp} {Q : List Value → Hp → Prop} (H : F_leaf_Leaves_Range g0_x g1_from g2_to h Q) : S_leaf_Leaves_Range g0_x g1_from g2_to h Q :=
  fn_of_cw (hs := (fun _ => [])) (ann := A_leaf_Leaves_Range) (args := [(Value.pointer g0_x), (Value.string g1_from), (Value.string g2_to)]) mixedPP Tryz.func54 (c := bodyOf Tryz.f54) (by kernel_rfl) (by kernel_rfl) (by kernel_rfl) (Eq.mpr (E_leaf_Leaves_Range g0_x g1_from g2_to h Q) H)
def F_index_entries (g0_keys : Sl) (h : Hp) (Q : List Value → Hp → Prop) : Prop :=
wth (Array.push h (Obj.cells #[(Value.slice g0_keys.a g0_keys.n g0_keys.c)] T_sstring)) fun h1 =>
Q [(Value.func (.func 73) #[] #[(Value.pointer (some (Addr.mk (Array.size h) 0 none)))])] h1
def A_index_entries : Ann := .nil
theorem E_index_entries (g0_keys : Sl) (h : Hp) (Q : List Value → Hp → Prop) : cw PP 4 (fun _ => []) (bodyOf Tryz.f55) A_index_entries (finQ PP (Tryz.f55.results.toList) Q) (argFr [(Value.slice g0_keys.a g0_keys.n g0_keys.c)]) h = F_index_entries g0_keys h Q := by kernel_rfl
theorem O_index_entries (g0_keys : Sl) {h : Hp} {Q : List Value → Hp → Prop} (H : F_index_entries g0_keys h Q) : S_index_entries g0_keys h Q :=
  fn_of_cw (hs := (fun _ => [])) (ann := A_index_entries) (args := [(Value.slice g0_keys.a g0_keys.n g0_keys.c)]) mixedPP Tryz.func55 (c := bodyOf Tryz.f55) (by kernel_rfl) (by kernel_rfl) (by kernel_rfl) (Eq.mpr (E_index_entries g0_keys h Q) H)
def F_key_wide (g0_s : ByteArray) (h : Hp) (Q : List Value → Hp → Prop) : Prop :=
(if (decide ((ByteArray.size g0_s : Int) < (8 : Int))) = true then
  (Q [(Value.int .u64 (0 : Int)), (Value.string (ByteArray.mk #[])), (Value.bool false)] h) else
  (∀ X1 : List Value → Hp → Prop, (∀ n2 : Int, ∀ n3 : Int, ∀ h4 : Hp, ((if (decide (n3 < (8 : Int))) = true then
          (shOk (8 : Int) (ixOk n3 (ByteArray.size g0_s) (X1 [(Value.int .u64 (iOr .u64 (iShl .u64 n2 (8 : Int)) (IntKind.wrap .u64 (strIx g0_s n3)))), (Value.int .i64 (IntKind.wrap .i64 (n3 + (1 : Int))))] h4))) else
          ((0 ≤ (8 : Int) ∧ (8 : Int) ≤ ((ByteArray.size g0_s) : Nat)) ∧ Q [(Value.int .u64 n2), (Value.string (ByteArray.extract g0_s (Int.toNat (8 : Int)) (ByteArray.size g0_s))), (Value.bool true)] h4))) → X1 [(Value.int .u64 n2), (Value.int .i64 n3)] h4) →
    X1 [(Value.int .u64 (0 : Int)), (Value.int .i64 (0 : Int))] h))
def A_key_wide : Ann := (.mk none ⟨[], []⟩ .nil (.mk none ⟨[], []⟩ .nil (.mk none ⟨[], []⟩ (.mk none ⟨[], []⟩ .nil (.mk none ⟨[], []⟩ (.mk none ⟨[0], [(2, (.c (.int .u64))), (9, (.c (.int .i64)))]⟩ .nil .nil) .nil)) .nil)))
theorem E_key_wide (g0_s : ByteArray) (h : Hp) (Q : List Value → Hp → Prop) : cw PP 23 (fun _ => []) (bodyOf Tryz.f109) A_key_wide (finQ PP (Tryz.f109.results.toList) Q) (argFr [(Value.string g0_s)]) h = F_key_wide g0_s h Q := by kernel_rfl
theorem O_key_wide (g0_s : ByteArray) {h : Hp} {Q : List Value → Hp → Prop} (H : F_key_wide g0_s h Q) : S_key_wide g0_s h Q :=
  fn_of_cw (hs := (fun _ => [])) (ann := A_key_wide) (args := [(Value.string g0_s)]) mixedPP Tryz.func109 (c := bodyOf Tryz.f109) (by kernel_rfl) (by kernel_rfl) (by kernel_rfl) (Eq.mpr (E_key_wide g0_s h Q) H)
def F_float_Is (g0_f : Nat) (h : Hp) (Q : List Value → Hp → Prop) : Prop :=
S_math_Float64bits g0_f h fun (vs1 : List Value) (h2 : Hp) =>
∃ n3 : Int, vs1 = [(Value.int .u64 n3)] ∧
S_float_Canon g0_f h2 fun (vs4 : List Value) (h5 : Hp) =>
∃ x6 : Nat, vs4 = [(Value.float .f64 x6)] ∧
S_math_Float64bits x6 h5 fun (vs7 : List Value) (h8 : Hp) =>
∃ n9 : Int, vs7 = [(Value.int .u64 n9)] ∧
Q [(Value.bool (n3 == n9))] h8
def A_float_Is : Ann := .nil
theorem E_float_Is (g0_f : Nat) (h : Hp) (Q : List Value → Hp → Prop) : cw PP 9 (fun _ => []) (bodyOf Tryz.f100) A_float_Is (finQ PP (Tryz.f100.results.toList) Q) (argFr [(Value.float .f64 g0_f)]) h = F_float_Is g0_f h Q := by kernel_rfl
theorem O_float_Is (g0_f : Nat) {h : Hp} {Q : List Value → Hp → Prop} (H : F_float_Is g0_f h Q) : S_float_Is g0_f h Q :=
  fn_of_cw (hs := (fun _ => [])) (ann := A_float_Is) (args := [(Value.float .f64 g0_f)]) mixedPP Tryz.func100 (c := bodyOf Tryz.f100) (by kernel_rfl) (by kernel_rfl) (by kernel_rfl) (Eq.mpr (E_float_Is g0_f h Q) H)
def F_float_From (g0_u : Int) (h : Hp) (Q : List Value → Hp → Prop) : Prop :=
∀ J1 : List Value → Hp → Prop, (∀ n2 : Int, ∀ h3 : Hp, (S_math_Float64frombits n2 h3 fun (vs4 : List Value) (h5 : Hp) =>
    ∃ x6 : Nat, vs4 = [(Value.float .f64 x6)] ∧
    S_float_Is x6 h5 fun (vs7 : List Value) (h8 : Hp) =>
    ∃ b9 : Bool, vs7 = [(Value.bool b9)] ∧
    (if (!b9) = true then
      (Q [(Value.float .f64 0), (Value.bool false)] h8) else
      (Q [(Value.float .f64 x6), (Value.bool true)] h8))) → J1 [(Value.int .u64 n2)] h3) →
(if ((iAnd .u64 g0_u (9223372036854775808 : Int)) != (0 : Int)) = true then
  (J1 [(Value.int .u64 (iAndNot .u64 g0_u (9223372036854775808 : Int)))] h) else
  (J1 [(Value.int .u64 (iXor .u64 (IntKind.max .u64) g0_u))] h))
def A_float_From : Ann := (.mk none ⟨[], []⟩ .nil (.mk none ⟨[], []⟩ .nil (.mk none ⟨[], []⟩ (.mk none ⟨[], []⟩ .nil (.mk (some ⟨[], [(4, (.c (.int .u64)))]⟩) ⟨[], []⟩ .nil .nil)) .nil)))
theorem E_float_From (g0_u : Int) (h : Hp) (Q : List Value → Hp → Prop) : cw PP 19 (fun _ => []) (bodyOf Tryz.f110) A_float_From (finQ PP (Tryz.f110.results.toList) Q) (argFr [(Value.int .u64 g0_u)]) h = F_float_From g0_u h Q := by kernel_rfl
theorem O_float_From (g0_u : Int) {h : Hp} {Q : List Value → Hp → Prop} (H : F_float_From g0_u h Q) : S_float_From g0_u h Q :=
  fn_of_cw (hs := (fun _ => [])) (ann := A_float_From) (args := [(Value.int .u64 g0_u)]) mixedPP Tryz.func110 (c := bodyOf Tryz.f110) (by kernel_rfl) (by kernel_rfl) (by kernel_rfl) (Eq.mpr (E_float_From g0_u h Q) H)
def F_key_text (g0_s : ByteArray) (h : Hp) (Q : List Value → Hp → Prop) : Prop :=
wth (Array.push h (Obj.cells #[(Value.pointer none), (Value.slice none 0 0)] T_strings_Builder)) fun h1 =>
∀ X2 : List Value → Hp → Prop, (∀ s3 : ByteArray, ∀ h4 : Hp, (S_strings_IndexByte s3 (0 : Int) h4 fun (vs5 : List Value) (h6 : Hp) =>
    ∃ n7 : Int, vs5 = [(Value.int .i64 n7)] ∧
    ∀ J8 : List Value → Hp → Prop, (∀ b9 : Bool, ∀ h10 : Hp, ((if b9 = true then
          (Q [(Value.string (ByteArray.mk #[])), (Value.string (ByteArray.mk #[])), (Value.bool false)] h10) else
          ((0 ≤ n7 ∧ n7 ≤ ((ByteArray.size s3) : Nat)) ∧ S_strings_Builder_WriteString (some (Addr.mk (Array.size h) 0 none)) (ByteArray.extract s3 0 (Int.toNat n7)) h10 fun (vs11 : List Value) (h12 : Hp) =>
            ∃ n13 : Int, ∃ v14 : Value, vs11 = [(Value.int .i64 n13), v14] ∧
            (0 ≤ n7 ∧ n7 ≤ (IntKind.wrap .i64 (n7 + (2 : Int))) ∧ (IntKind.wrap .i64 (n7 + (2 : Int))) ≤ ((ByteArray.size s3) : Nat)) ∧ (if ((ByteArray.toList (ByteArray.extract s3 (Int.toNat n7) (Int.toNat (IntKind.wrap .i64 (n7 + (2 : Int)))))) == (ByteArray.toList (ByteArray.mk #[0, 1]))) = true then
              ((0 ≤ (IntKind.wrap .i64 (n7 + (2 : Int))) ∧ (IntKind.wrap .i64 (n7 + (2 : Int))) ≤ ((ByteArray.size s3) : Nat)) ∧ S_strings_Builder_String (some (Addr.mk (Array.size h) 0 none)) h12 fun (vs15 : List Value) (h16 : Hp) =>
                ∃ s17 : ByteArray, vs15 = [(Value.string s17)] ∧
                Q [(Value.string s17), (Value.string (ByteArray.extract s3 (Int.toNat (IntKind.wrap .i64 (n7 + (2 : Int)))) (ByteArray.size s3))), (Value.bool true)] h16) else
              ((if ((ByteArray.toList (ByteArray.extract s3 (Int.toNat n7) (Int.toNat (IntKind.wrap .i64 (n7 + (2 : Int)))))) == (ByteArray.toList (ByteArray.mk #[0, 255]))) = true then
                  (S_strings_Builder_WriteByte (some (Addr.mk (Array.size h) 0 none)) (0 : Int) h12 fun (vs18 : List Value) (h19 : Hp) =>
                    ∃ v20 : Value, vs18 = [v20] ∧
                    (0 ≤ (IntKind.wrap .i64 (n7 + (2 : Int))) ∧ (IntKind.wrap .i64 (n7 + (2 : Int))) ≤ ((ByteArray.size s3) : Nat)) ∧ X2 [(Value.string (ByteArray.extract s3 (Int.toNat (IntKind.wrap .i64 (n7 + (2 : Int)))) (ByteArray.size s3)))] h19) else
                  (Q [(Value.string (ByteArray.mk #[])), (Value.string (ByteArray.mk #[])), (Value.bool false)] h12))))))) → J8 [(Value.bool b9)] h10) →
    (if (decide (n7 < (0 : Int))) = true then (J8 [(Value.bool true)] h6) else
      (J8 [(Value.bool ((IntKind.wrap .i64 (n7 + (1 : Int))) == (ByteArray.size s3 : Int)))] h6))) → X2 [(Value.string s3)] h4) →
X2 [(Value.string g0_s)] h1
def A_key_text : Ann := (.mk none ⟨[], []⟩ .nil (.mk none ⟨[], []⟩ .nil (.mk none ⟨[], []⟩ (.mk none ⟨[5], [(0, (.c .str))]⟩ (.mk none ⟨[], []⟩ (.mk none ⟨[], []⟩ .nil (.mk none ⟨[], []⟩ (.mk none ⟨[], []⟩ (.mk (some ⟨[0, 5, 6], [(17, (.c .bool))]⟩) ⟨[], []⟩ .nil .nil) .nil) .nil)) .nil) .nil) .nil)))
theorem E_key_text (g0_s : ByteArray) (h : Hp) (Q : List Value → Hp → Prop) : cw PP 41 (fun _ => []) (bodyOf Tryz.f111) A_key_text (finQ PP (Tryz.f111.results.toList) Q) (argFr [(Value.string g0_s)]) h = F_key_text g0_s h Q := by kernel_rfl
theorem O_key_text (g0_s : ByteArray) {h : Hp} {Q : List Value → Hp → Prop} (H : F_key_text g0_s h Q) : S_key_text g0_s h Q :=
  fn_of_cw (hs := (fun _ => [])) (ann := A_key_text) (args := [(Value.string g0_s)]) mixedPP Tryz.func111 (c := bodyOf Tryz.f111) (by kernel_rfl) (by kernel_rfl) (by kernel_rfl) (Eq.mpr (E_key_text g0_s h Q) H)
def F_key_first (g0_k : ByteArray) (h : Hp) (Q : List Value → Hp → Prop) : Prop :=
wth (Array.push h (Obj.cells #[(Value.int .i64 (0 : Int)), (Value.int .i64 (0 : Int)), (Value.float .f64 0), (Value.string (ByteArray.mk #[]))] T_api_Value)) fun h1 =>
(if ((ByteArray.toList g0_k) == (ByteArray.toList (ByteArray.mk #[]))) = true then
  (stOk h1 (Addr.mk (Array.size h) 0 none) 4 ∧ wth (wrs h1 (Addr.mk (Array.size h) 0 none) 0 [(Value.int .i64 (0 : Int)), (Value.int .i64 (0 : Int)), (Value.float .f64 0), (Value.string (ByteArray.mk #[]))]) fun h2 =>
    ∃ n3 : Int, rd h2 (Addr.add (Addr.mk (Array.size h) 0 none) 0) = some (Value.int .i64 n3) ∧ ∃ n4 : Int, rd h2 (Addr.add (Addr.mk (Array.size h) 0 none) 1) = some (Value.int .i64 n4) ∧ ∃ x5 : Nat, rd h2 (Addr.add (Addr.mk (Array.size h) 0 none) 2) = some (Value.float .f64 x5) ∧ ∃ s6 : ByteArray, rd h2 (Addr.add (Addr.mk (Array.size h) 0 none) 3) = some (Value.string s6) ∧ Q [(Value.agg #[(Value.int .i64 n3), (Value.int .i64 n4), (Value.float .f64 x5), (Value.string s6)]), (Value.string (ByteArray.mk #[])), (Value.bool false)] h2) else
  (ixOk (0 : Int) (ByteArray.size g0_k) ((0 ≤ (1 : Int) ∧ (1 : Int) ≤ ((ByteArray.size g0_k) : Nat)) ∧ stOk h1 (Addr.add (Addr.mk (Array.size h) 0 none) 0) 1 ∧ wth (wrs h1 (Addr.add (Addr.mk (Array.size h) 0 none) 0) 0 [(Value.int .i64 (IntKind.wrap .i64 (strIx g0_k (0 : Int))))]) fun h7 =>
      ∃ n8 : Int, rd h7 (Addr.add (Addr.mk (Array.size h) 0 none) 0) = some (Value.int .i64 n8) ∧
      ∀ J9 : List Value → Hp → Prop, (∀ s10 : ByteArray, ∀ b11 : Bool, ∀ h12 : Hp, (∀ J13 : List Value → Hp → Prop, (∀ b14 : Bool, ∀ h15 : Hp, ((if b14 = true then
                (stOk h15 (Addr.mk (Array.size h) 0 none) 4 ∧ wth (wrs h15 (Addr.mk (Array.size h) 0 none) 0 [(Value.int .i64 (0 : Int)), (Value.int .i64 (0 : Int)), (Value.float .f64 0), (Value.string (ByteArray.mk #[]))]) fun h16 =>
                  ∃ n17 : Int, rd h16 (Addr.add (Addr.mk (Array.size h) 0 none) 0) = some (Value.int .i64 n17) ∧ ∃ n18 : Int, rd h16 (Addr.add (Addr.mk (Array.size h) 0 none) 1) = some (Value.int .i64 n18) ∧ ∃ x19 : Nat, rd h16 (Addr.add (Addr.mk (Array.size h) 0 none) 2) = some (Value.float .f64 x19) ∧ ∃ s20 : ByteArray, rd h16 (Addr.add (Addr.mk (Array.size h) 0 none) 3) = some (Value.string s20) ∧ Q [(Value.agg #[(Value.int .i64 n17), (Value.int .i64 n18), (Value.float .f64 x19), (Value.string s20)]), (Value.string (ByteArray.mk #[])), (Value.bool false)] h16) else
                (∃ n21 : Int, rd h15 (Addr.add (Addr.mk (Array.size h) 0 none) 0) = some (Value.int .i64 n21) ∧ ∃ n22 : Int, rd h15 (Addr.add (Addr.mk (Array.size h) 0 none) 1) = some (Value.int .i64 n22) ∧ ∃ x23 : Nat, rd h15 (Addr.add (Addr.mk (Array.size h) 0 none) 2) = some (Value.float .f64 x23) ∧ ∃ s24 : ByteArray, rd h15 (Addr.add (Addr.mk (Array.size h) 0 none) 3) = some (Value.string s24) ∧ stOk h15 (Addr.mk (Array.size h) 0 none) 4 ∧ wth (wrs h15 (Addr.mk (Array.size h) 0 none) 0 [(Value.int .i64 n21), (Value.int .i64 n22), (Value.float .f64 x23), (Value.string s24)]) fun h25 =>
                  ∃ n26 : Int, rd h25 (Addr.add (Addr.mk (Array.size h) 0 none) 0) = some (Value.int .i64 n26) ∧ ∃ n27 : Int, rd h25 (Addr.add (Addr.mk (Array.size h) 0 none) 1) = some (Value.int .i64 n27) ∧ ∃ x28 : Nat, rd h25 (Addr.add (Addr.mk (Array.size h) 0 none) 2) = some (Value.float .f64 x28) ∧ ∃ s29 : ByteArray, rd h25 (Addr.add (Addr.mk (Array.size h) 0 none) 3) = some (Value.string s29) ∧ Q [(Value.agg #[(Value.int .i64 n26), (Value.int .i64 n27), (Value.float .f64 x28), (Value.string s29)]), (Value.string s10), (Value.bool true)] h25))) → J13 [(Value.bool b14)] h15) →
          (if (!b11) = true then (J13 [(Value.bool true)] h12) else
            (∃ n30 : Int, rd h12 (Addr.add (Addr.mk (Array.size h) 0 none) 0) = some (Value.int .i64 n30) ∧ ∃ n31 : Int, rd h12 (Addr.add (Addr.mk (Array.size h) 0 none) 1) = some (Value.int .i64 n31) ∧ ∃ x32 : Nat, rd h12 (Addr.add (Addr.mk (Array.size h) 0 none) 2) = some (Value.float .f64 x32) ∧ ∃ s33 : ByteArray, rd h12 (Addr.add (Addr.mk (Array.size h) 0 none) 3) = some (Value.string s33) ∧ S_value_Good n30 n31 x32 s33 h12 fun (vs34 : List Value) (h35 : Hp) =>
              ∃ b36 : Bool, vs34 = [(Value.bool b36)] ∧
              J13 [(Value.bool (!b36))] h35))) → J9 [(Value.string s10), (Value.bool b11)] h12) →
      (if (n8 == (0 : Int)) = true then
        (J9 [(Value.string (ByteArray.extract g0_k (Int.toNat (1 : Int)) (ByteArray.size g0_k))), (Value.bool true)] h7) else
        ((if (n8 == (1 : Int)) = true then
            ((if ((ByteArray.toList (ByteArray.extract g0_k (Int.toNat (1 : Int)) (ByteArray.size g0_k))) == (ByteArray.toList (ByteArray.mk #[]))) = true then
                (stOk h7 (Addr.mk (Array.size h) 0 none) 4 ∧ wth (wrs h7 (Addr.mk (Array.size h) 0 none) 0 [(Value.int .i64 (0 : Int)), (Value.int .i64 (0 : Int)), (Value.float .f64 0), (Value.string (ByteArray.mk #[]))]) fun h37 =>
                  ∃ n38 : Int, rd h37 (Addr.add (Addr.mk (Array.size h) 0 none) 0) = some (Value.int .i64 n38) ∧ ∃ n39 : Int, rd h37 (Addr.add (Addr.mk (Array.size h) 0 none) 1) = some (Value.int .i64 n39) ∧ ∃ x40 : Nat, rd h37 (Addr.add (Addr.mk (Array.size h) 0 none) 2) = some (Value.float .f64 x40) ∧ ∃ s41 : ByteArray, rd h37 (Addr.add (Addr.mk (Array.size h) 0 none) 3) = some (Value.string s41) ∧ Q [(Value.agg #[(Value.int .i64 n38), (Value.int .i64 n39), (Value.float .f64 x40), (Value.string s41)]), (Value.string (ByteArray.mk #[])), (Value.bool false)] h37) else
                (ixOk (0 : Int) (ByteArray.size (ByteArray.extract g0_k (Int.toNat (1 : Int)) (ByteArray.size g0_k))) ((0 ≤ (1 : Int) ∧ (1 : Int) ≤ ((ByteArray.size (ByteArray.extract g0_k (Int.toNat (1 : Int)) (ByteArray.size g0_k))) : Nat)) ∧ stOk h7 (Addr.add (Addr.mk (Array.size h) 0 none) 1) 1 ∧ wth (wrs h7 (Addr.add (Addr.mk (Array.size h) 0 none) 1) 0 [(Value.int .i64 (IntKind.wrap .i64 (strIx (ByteArray.extract g0_k (Int.toNat (1 : Int)) (ByteArray.size g0_k)) (0 : Int))))]) fun h42 =>
                    J9 [(Value.string (ByteArray.extract (ByteArray.extract g0_k (Int.toNat (1 : Int)) (ByteArray.size g0_k)) (Int.toNat (1 : Int)) (ByteArray.size (ByteArray.extract g0_k (Int.toNat (1 : Int)) (ByteArray.size g0_k))))), (Value.bool true)] h42)))) else
            ((if (n8 == (2 : Int)) = true then
                (S_key_wide (ByteArray.extract g0_k (Int.toNat (1 : Int)) (ByteArray.size g0_k)) h7 fun (vs43 : List Value) (h44 : Hp) =>
                  ∃ n45 : Int, ∃ s46 : ByteArray, ∃ b47 : Bool, vs43 = [(Value.int .u64 n45), (Value.string s46), (Value.bool b47)] ∧
                  stOk h44 (Addr.add (Addr.mk (Array.size h) 0 none) 1) 1 ∧ wth (wrs h44 (Addr.add (Addr.mk (Array.size h) 0 none) 1) 0 [(Value.int .i64 (IntKind.wrap .i64 (iXor .u64 n45 (9223372036854775808 : Int))))]) fun h48 =>
                  J9 [(Value.string s46), (Value.bool b47)] h48) else
                ((if (n8 == (3 : Int)) = true then
                    (S_key_wide (ByteArray.extract g0_k (Int.toNat (1 : Int)) (ByteArray.size g0_k)) h7 fun (vs49 : List Value) (h50 : Hp) =>
                      ∃ n51 : Int, ∃ s52 : ByteArray, ∃ b53 : Bool, vs49 = [(Value.int .u64 n51), (Value.string s52), (Value.bool b53)] ∧
                      S_float_From n51 h50 fun (vs54 : List Value) (h55 : Hp) =>
                      ∃ x56 : Nat, ∃ b57 : Bool, vs54 = [(Value.float .f64 x56), (Value.bool b57)] ∧
                      (if b53 = true then (stOk h55 (Addr.add (Addr.mk (Array.size h) 0 none) 2) 1 ∧ wth (wrs h55 (Addr.add (Addr.mk (Array.size h) 0 none) 2) 0 [(Value.float .f64 x56)]) fun h58 =>
                          J9 [(Value.string s52), (Value.bool b57)] h58) else
                        (stOk h55 (Addr.add (Addr.mk (Array.size h) 0 none) 2) 1 ∧ wth (wrs h55 (Addr.add (Addr.mk (Array.size h) 0 none) 2) 0 [(Value.float .f64 x56)]) fun h59 =>
                          J9 [(Value.string s52), (Value.bool false)] h59))) else
                    ((if (n8 == (4 : Int)) = true then
                        (S_key_text (ByteArray.extract g0_k (Int.toNat (1 : Int)) (ByteArray.size g0_k)) h7 fun (vs60 : List Value) (h61 : Hp) =>
                          ∃ s62 : ByteArray, ∃ s63 : ByteArray, ∃ b64 : Bool, vs60 = [(Value.string s62), (Value.string s63), (Value.bool b64)] ∧
                          stOk h61 (Addr.add (Addr.mk (Array.size h) 0 none) 3) 1 ∧ wth (wrs h61 (Addr.add (Addr.mk (Array.size h) 0 none) 3) 0 [(Value.string s62)]) fun h65 =>
                          J9 [(Value.string s63), (Value.bool b64)] h65) else
                        (J9 [(Value.string (ByteArray.extract g0_k (Int.toNat (1 : Int)) (ByteArray.size g0_k))), (Value.bool true)] h7)))))))))))))
def A_key_first : Ann := (.mk none ⟨[], []⟩ .nil (.mk none ⟨[], []⟩ .nil (.mk none ⟨[], []⟩ .nil (.mk none ⟨[], []⟩ .nil (.mk none ⟨[], []⟩ (.mk none ⟨[], []⟩ .nil (.mk (some ⟨[2], [(3, (.c .str)), (4, (.c .bool))]⟩) ⟨[], []⟩ .nil .nil)) (.mk none ⟨[], []⟩ (.mk none ⟨[], []⟩ (.mk (some ⟨[2, 3], [(78, (.c .bool))]⟩) ⟨[], []⟩ .nil .nil) .nil) .nil))))))
theorem E_key_first (g0_k : ByteArray) (h : Hp) (Q : List Value → Hp → Prop) : cw PP 82 (fun _ => []) (bodyOf Tryz.f94) A_key_first (finQ PP (Tryz.f94.results.toList) Q) (argFr [(Value.string g0_k)]) h = F_key_first g0_k h Q := by kernel_rfl
theorem O_key_first (g0_k : ByteArray) {h : Hp} {Q : List Value → Hp → Prop} (H : F_key_first g0_k h Q) : S_key_first g0_k h Q :=
  fn_of_cw (hs := (fun _ => [])) (ann := A_key_first) (args := [(Value.string g0_k)]) mixedPP Tryz.func94 (c := bodyOf Tryz.f94) (by kernel_rfl) (by kernel_rfl) (by kernel_rfl) (Eq.mpr (E_key_first g0_k h Q) H)
def F_key_Split (g0_e : ByteArray) (h : Hp) (Q : List Value → Hp → Prop) : Prop :=
wth (Array.push h (Obj.cells #[(Value.int .i64 (0 : Int)), (Value.int .i64 (0 : Int)), (Value.float .f64 0), (Value.string (ByteArray.mk #[]))] T_api_Value)) fun h1 =>
S_key_first g0_e h1 fun (vs2 : List Value) (h3 : Hp) =>
∃ n4 : Int, ∃ n5 : Int, ∃ x6 : Nat, ∃ s7 : ByteArray, ∃ s8 : ByteArray, ∃ b9 : Bool, vs2 = [(Value.agg #[(Value.int .i64 n4), (Value.int .i64 n5), (Value.float .f64 x6), (Value.string s7)]), (Value.string s8), (Value.bool b9)] ∧
stOk h3 (Addr.mk (Array.size h) 0 none) 4 ∧ wth (wrs h3 (Addr.mk (Array.size h) 0 none) 0 [(Value.int .i64 n4), (Value.int .i64 n5), (Value.float .f64 x6), (Value.string s7)]) fun h10 =>
∀ J11 : List Value → Hp → Prop, (∀ b12 : Bool, ∀ h13 : Hp, ((if b12 = true then
      (stOk h13 (Addr.mk (Array.size h) 0 none) 4 ∧ wth (wrs h13 (Addr.mk (Array.size h) 0 none) 0 [(Value.int .i64 (0 : Int)), (Value.int .i64 (0 : Int)), (Value.float .f64 0), (Value.string (ByteArray.mk #[]))]) fun h14 =>
        ∃ n15 : Int, rd h14 (Addr.add (Addr.mk (Array.size h) 0 none) 0) = some (Value.int .i64 n15) ∧ ∃ n16 : Int, rd h14 (Addr.add (Addr.mk (Array.size h) 0 none) 1) = some (Value.int .i64 n16) ∧ ∃ x17 : Nat, rd h14 (Addr.add (Addr.mk (Array.size h) 0 none) 2) = some (Value.float .f64 x17) ∧ ∃ s18 : ByteArray, rd h14 (Addr.add (Addr.mk (Array.size h) 0 none) 3) = some (Value.string s18) ∧ Q [(Value.agg #[(Value.int .i64 n15), (Value.int .i64 n16), (Value.float .f64 x17), (Value.string s18)]), (Value.int .i64 (0 : Int)), (Value.int .i64 (11 : Int))] h14) else
      (∃ n19 : Int, rd h13 (Addr.add (Addr.mk (Array.size h) 0 none) 0) = some (Value.int .i64 n19) ∧ ∃ n20 : Int, rd h13 (Addr.add (Addr.mk (Array.size h) 0 none) 1) = some (Value.int .i64 n20) ∧ ∃ x21 : Nat, rd h13 (Addr.add (Addr.mk (Array.size h) 0 none) 2) = some (Value.float .f64 x21) ∧ ∃ s22 : ByteArray, rd h13 (Addr.add (Addr.mk (Array.size h) 0 none) 3) = some (Value.string s22) ∧ ixOk (0 : Int) (ByteArray.size s8) (shOk (8 : Int) (ixOk (1 : Int) (ByteArray.size s8) (stOk h13 (Addr.mk (Array.size h) 0 none) 4 ∧ wth (wrs h13 (Addr.mk (Array.size h) 0 none) 0 [(Value.int .i64 n19), (Value.int .i64 n20), (Value.float .f64 x21), (Value.string s22)]) fun h23 =>
              ∃ n24 : Int, rd h23 (Addr.add (Addr.mk (Array.size h) 0 none) 0) = some (Value.int .i64 n24) ∧ ∃ n25 : Int, rd h23 (Addr.add (Addr.mk (Array.size h) 0 none) 1) = some (Value.int .i64 n25) ∧ ∃ x26 : Nat, rd h23 (Addr.add (Addr.mk (Array.size h) 0 none) 2) = some (Value.float .f64 x26) ∧ ∃ s27 : ByteArray, rd h23 (Addr.add (Addr.mk (Array.size h) 0 none) 3) = some (Value.string s27) ∧ Q [(Value.agg #[(Value.int .i64 n24), (Value.int .i64 n25), (Value.float .f64 x26), (Value.string s27)]), (Value.int .i64 (iOr .i64 (iShl .i64 (IntKind.wrap .i64 (strIx s8 (0 : Int))) (8 : Int)) (IntKind.wrap .i64 (strIx s8 (1 : Int))))), (Value.int .i64 (0 : Int))] h23)))))) → J11 [(Value.bool b12)] h13) →
(if (!b9) = true then (J11 [(Value.bool true)] h10) else
  (J11 [(Value.bool ((ByteArray.size s8 : Int) != (2 : Int)))] h10))
def A_key_Split : Ann := (.mk none ⟨[], []⟩ .nil (.mk none ⟨[], []⟩ .nil (.mk none ⟨[], []⟩ (.mk none ⟨[], []⟩ (.mk (some ⟨[2, 5], [(19, (.c .bool))]⟩) ⟨[], []⟩ .nil .nil) .nil) .nil)))
theorem E_key_Split (g0_e : ByteArray) (h : Hp) (Q : List Value → Hp → Prop) : cw PP 30 (fun _ => []) (bodyOf Tryz.f74) A_key_Split (finQ PP (Tryz.f74.results.toList) Q) (argFr [(Value.string g0_e)]) h = F_key_Split g0_e h Q := by kernel_rfl
theorem O_key_Split (g0_e : ByteArray) {h : Hp} {Q : List Value → Hp → Prop} (H : F_key_Split g0_e h Q) : S_key_Split g0_e h Q :=
  fn_of_cw (hs := (fun _ => [])) (ann := A_key_Split) (args := [(Value.string g0_e)]) mixedPP Tryz.func74 (c := bodyOf Tryz.f74) (by kernel_rfl) (by kernel_rfl) (by kernel_rfl) (Eq.mpr (E_key_Split g0_e h Q) H)
def F_index_entries_1 (g0_yield_f : Nat) (g0_yield_c : Array Value) (g1_x : Addr) (h : Hp) (Q : List Value → Hp → Prop) : Prop :=
∃ l1 : Sl, rd h g1_x = some (Value.slice l1.a l1.n l1.c) ∧
∀ X2 : List Value → Hp → Prop, (∀ n3 : Int, ∀ h4 : Hp, ((if (decide (n3 < (l1.n : Int))) = true then
      (nilW l1.a fun a5 => ixOk n3 l1.n (∃ s6 : ByteArray, rd h4 (Addr.add a5 (Int.toNat n3 * 1)) = some (Value.string s6) ∧
          S_key_Split s6 h4 fun (vs7 : List Value) (h8 : Hp) =>
          ∃ n9 : Int, ∃ n10 : Int, ∃ x11 : Nat, ∃ s12 : ByteArray, ∃ n13 : Int, ∃ n14 : Int, vs7 = [(Value.agg #[(Value.int .i64 n9), (Value.int .i64 n10), (Value.float .f64 x11), (Value.string s12)]), (Value.int .i64 n13), (Value.int .i64 n14)] ∧
          wth (Array.push h8 (Obj.cells #[(Value.int .i64 (0 : Int)), (Value.int .i64 (0 : Int)), (Value.float .f64 0), (Value.string (ByteArray.mk #[]))] T_api_Value)) fun h15 =>
          stOk h15 (Addr.mk (Array.size h8) 0 none) 4 ∧ wth (wrs h15 (Addr.mk (Array.size h8) 0 none) 0 [(Value.int .i64 n9), (Value.int .i64 n10), (Value.float .f64 x11), (Value.string s12)]) fun h16 =>
          ∀ J17 : List Value → Hp → Prop, (∀ b18 : Bool, ∀ h19 : Hp, ((if b18 = true then
                (Q [] h19) else
                (X2 [(Value.int .i64 (IntKind.wrap .i64 (n3 + (1 : Int))))] h19))) → J17 [(Value.bool b18)] h19) →
          (if (n14 == (0 : Int)) = true then (Fn PP g0_yield_f ((#[] ++ #[(Value.int .i64 n13)]) ++ g0_yield_c) h16 fun (vs20 : List Value) (h21 : Hp) =>
              ∃ b22 : Bool, vs20 = [(Value.bool b22)] ∧
              J17 [(Value.bool (!b22))] h21) else
            (J17 [(Value.bool false)] h16)))) else
      (Q [] h4))) → X2 [(Value.int .i64 n3)] h4) →
X2 [(Value.int .i64 (0 : Int))] h
def A_index_entries_1 : Ann := (.mk none ⟨[], []⟩ .nil (.mk none ⟨[], []⟩ (.mk none ⟨[0, 8, 9], [(10, (.c (.int .i64)))]⟩ (.mk none ⟨[], []⟩ .nil (.mk none ⟨[], []⟩ .nil (.mk none ⟨[], []⟩ (.mk none ⟨[], []⟩ (.mk none ⟨[], []⟩ .nil (.mk none ⟨[], []⟩ .nil (.mk none ⟨[], []⟩ (.mk (some ⟨[0, 8, 9, 10], [(27, (.c .bool))]⟩) ⟨[], []⟩ .nil .nil) .nil))) .nil) .nil))) .nil) .nil))
theorem E_index_entries_1 (g0_yield_f : Nat) (g0_yield_c : Array Value) (g1_x : Addr) (h : Hp) (Q : List Value → Hp → Prop) : cw PP 29 (fun _ => []) (bodyOf Tryz.f73) A_index_entries_1 (finQ PP (Tryz.f73.results.toList) Q) (argFr [(Value.func (.func g0_yield_f) #[] g0_yield_c), (Value.pointer (some g1_x))]) h = F_index_entries_1 g0_yield_f g0_yield_c g1_x h Q := by kernel_rfl
theorem O_index_entries_1 (g0_yield_f : Nat) (g0_yield_c : Array Value) (g1_x : Addr) {h : Hp} {Q : List Value → Hp → Prop} (H : F_index_entries_1 g0_yield_f g0_yield_c g1_x h Q) : S_index_entries_1 g0_yield_f g0_yield_c g1_x h Q :=
  fn_of_cw (hs := (fun _ => [])) (ann := A_index_entries_1) (args := [(Value.func (.func g0_yield_f) #[] g0_yield_c), (Value.pointer (some g1_x))]) mixedPP Tryz.func73 (c := bodyOf Tryz.f73) (by kernel_rfl) (by kernel_rfl) (by kernel_rfl) (Eq.mpr (E_index_entries_1 g0_yield_f g0_yield_c g1_x h Q) H)
def F_value_own_bare (g0_v_0 : Int) (g0_v_1 : Int) (g0_v_2 : Nat) (g0_v_3 : ByteArray) (g1_n : Bool) (g2_f : Bool) (g3_s : Bool) (h : Hp) (Q : List Value → Hp → Prop) : Prop :=
wth (Array.push h (Obj.cells #[(Value.int .i64 g0_v_0), (Value.int .i64 g0_v_1), (Value.float .f64 g0_v_2), (Value.string g0_v_3)] T_value_own)) fun h1 =>
(if g1_n = true then ((if g2_f = true then ((if g3_s = true then (Q [(Value.bool true)] h1) else
          (∃ s2 : ByteArray, rd h1 (Addr.add (Addr.mk (Array.size h) 0 none) 3) = some (Value.string s2) ∧
            Q [(Value.bool ((ByteArray.toList s2) == (ByteArray.toList (ByteArray.mk #[]))))] h1))) else
      (∃ x3 : Nat, rd h1 (Addr.add (Addr.mk (Array.size h) 0 none) 2) = some (Value.float .f64 x3) ∧
        S_math_Float64bits x3 h1 fun (vs4 : List Value) (h5 : Hp) =>
        ∃ n6 : Int, vs4 = [(Value.int .u64 n6)] ∧
        (if (n6 == (0 : Int)) = true then ((if g3_s = true then (Q [(Value.bool true)] h5) else
              (∃ s7 : ByteArray, rd h5 (Addr.add (Addr.mk (Array.size h) 0 none) 3) = some (Value.string s7) ∧
                Q [(Value.bool ((ByteArray.toList s7) == (ByteArray.toList (ByteArray.mk #[]))))] h5))) else
          (Q [(Value.bool false)] h5))))) else
  (∃ n8 : Int, rd h1 (Addr.add (Addr.mk (Array.size h) 0 none) 1) = some (Value.int .i64 n8) ∧
    (if (n8 == (0 : Int)) = true then ((if g2_f = true then ((if g3_s = true then (Q [(Value.bool true)] h1) else
              (∃ s9 : ByteArray, rd h1 (Addr.add (Addr.mk (Array.size h) 0 none) 3) = some (Value.string s9) ∧
                Q [(Value.bool ((ByteArray.toList s9) == (ByteArray.toList (ByteArray.mk #[]))))] h1))) else
          (∃ x10 : Nat, rd h1 (Addr.add (Addr.mk (Array.size h) 0 none) 2) = some (Value.float .f64 x10) ∧
            S_math_Float64bits x10 h1 fun (vs11 : List Value) (h12 : Hp) =>
            ∃ n13 : Int, vs11 = [(Value.int .u64 n13)] ∧
            (if (n13 == (0 : Int)) = true then ((if g3_s = true then (Q [(Value.bool true)] h12) else
                  (∃ s14 : ByteArray, rd h12 (Addr.add (Addr.mk (Array.size h) 0 none) 3) = some (Value.string s14) ∧
                    Q [(Value.bool ((ByteArray.toList s14) == (ByteArray.toList (ByteArray.mk #[]))))] h12))) else
              (Q [(Value.bool false)] h12))))) else
      (Q [(Value.bool false)] h1))))
def A_value_own_bare : Ann := .nil
theorem E_value_own_bare (g0_v_0 : Int) (g0_v_1 : Int) (g0_v_2 : Nat) (g0_v_3 : ByteArray) (g1_n : Bool) (g2_f : Bool) (g3_s : Bool) (h : Hp) (Q : List Value → Hp → Prop) : cw PP 32 (fun _ => []) (bodyOf Tryz.f99) A_value_own_bare (finQ PP (Tryz.f99.results.toList) Q) (argFr [(Value.agg #[(Value.int .i64 g0_v_0), (Value.int .i64 g0_v_1), (Value.float .f64 g0_v_2), (Value.string g0_v_3)]), (Value.bool g1_n), (Value.bool g2_f), (Value.bool g3_s)]) h = F_value_own_bare g0_v_0 g0_v_1 g0_v_2 g0_v_3 g1_n g2_f g3_s h Q := by kernel_rfl
theorem O_value_own_bare (g0_v_0 : Int) (g0_v_1 : Int) (g0_v_2 : Nat) (g0_v_3 : ByteArray) (g1_n : Bool) (g2_f : Bool) (g3_s : Bool) {h : Hp} {Q : List Value → Hp → Prop} (H : F_value_own_bare g0_v_0 g0_v_1 g0_v_2 g0_v_3 g1_n g2_f g3_s h Q) : S_value_own_bare g0_v_0 g0_v_1 g0_v_2 g0_v_3 g1_n g2_f g3_s h Q :=
  fn_of_cw (hs := (fun _ => [])) (ann := A_value_own_bare) (args := [(Value.agg #[(Value.int .i64 g0_v_0), (Value.int .i64 g0_v_1), (Value.float .f64 g0_v_2), (Value.string g0_v_3)]), (Value.bool g1_n), (Value.bool g2_f), (Value.bool g3_s)]) mixedPP Tryz.func99 (c := bodyOf Tryz.f99) (by kernel_rfl) (by kernel_rfl) (by kernel_rfl) (Eq.mpr (E_value_own_bare g0_v_0 g0_v_1 g0_v_2 g0_v_3 g1_n g2_f g3_s h Q) H)
def F_value_own_null (g0_v_0 : Int) (g0_v_1 : Int) (g0_v_2 : Nat) (g0_v_3 : ByteArray) (h : Hp) (Q : List Value → Hp → Prop) : Prop :=
wth (Array.push h (Obj.cells #[(Value.int .i64 g0_v_0), (Value.int .i64 g0_v_1), (Value.float .f64 g0_v_2), (Value.string g0_v_3)] T_value_own)) fun h1 =>
∃ n2 : Int, rd h1 (Addr.add (Addr.mk (Array.size h) 0 none) 0) = some (Value.int .i64 n2) ∧ ∃ n3 : Int, rd h1 (Addr.add (Addr.mk (Array.size h) 0 none) 1) = some (Value.int .i64 n3) ∧ ∃ x4 : Nat, rd h1 (Addr.add (Addr.mk (Array.size h) 0 none) 2) = some (Value.float .f64 x4) ∧ ∃ s5 : ByteArray, rd h1 (Addr.add (Addr.mk (Array.size h) 0 none) 3) = some (Value.string s5) ∧ S_value_own_bare n2 n3 x4 s5 false false false h1 fun (vs6 : List Value) (h7 : Hp) =>
∃ b8 : Bool, vs6 = [(Value.bool b8)] ∧
Q [(Value.bool b8)] h7
def A_value_own_null : Ann := .nil
theorem E_value_own_null (g0_v_0 : Int) (g0_v_1 : Int) (g0_v_2 : Nat) (g0_v_3 : ByteArray) (h : Hp) (Q : List Value → Hp → Prop) : cw PP 5 (fun _ => []) (bodyOf Tryz.f77) A_value_own_null (finQ PP (Tryz.f77.results.toList) Q) (argFr [(Value.agg #[(Value.int .i64 g0_v_0), (Value.int .i64 g0_v_1), (Value.float .f64 g0_v_2), (Value.string g0_v_3)])]) h = F_value_own_null g0_v_0 g0_v_1 g0_v_2 g0_v_3 h Q := by kernel_rfl
theorem O_value_own_null (g0_v_0 : Int) (g0_v_1 : Int) (g0_v_2 : Nat) (g0_v_3 : ByteArray) {h : Hp} {Q : List Value → Hp → Prop} (H : F_value_own_null g0_v_0 g0_v_1 g0_v_2 g0_v_3 h Q) : S_value_own_null g0_v_0 g0_v_1 g0_v_2 g0_v_3 h Q :=
  fn_of_cw (hs := (fun _ => [])) (ann := A_value_own_null) (args := [(Value.agg #[(Value.int .i64 g0_v_0), (Value.int .i64 g0_v_1), (Value.float .f64 g0_v_2), (Value.string g0_v_3)])]) mixedPP Tryz.func77 (c := bodyOf Tryz.f77) (by kernel_rfl) (by kernel_rfl) (by kernel_rfl) (Eq.mpr (E_value_own_null g0_v_0 g0_v_1 g0_v_2 g0_v_3 h Q) H)
def F_value_own_bool (g0_v_0 : Int) (g0_v_1 : Int) (g0_v_2 : Nat) (g0_v_3 : ByteArray) (h : Hp) (Q : List Value → Hp → Prop) : Prop :=
wth (Array.push h (Obj.cells #[(Value.int .i64 g0_v_0), (Value.int .i64 g0_v_1), (Value.float .f64 g0_v_2), (Value.string g0_v_3)] T_value_own)) fun h1 =>
∃ n2 : Int, rd h1 (Addr.add (Addr.mk (Array.size h) 0 none) 0) = some (Value.int .i64 n2) ∧ ∃ n3 : Int, rd h1 (Addr.add (Addr.mk (Array.size h) 0 none) 1) = some (Value.int .i64 n3) ∧ ∃ x4 : Nat, rd h1 (Addr.add (Addr.mk (Array.size h) 0 none) 2) = some (Value.float .f64 x4) ∧ ∃ s5 : ByteArray, rd h1 (Addr.add (Addr.mk (Array.size h) 0 none) 3) = some (Value.string s5) ∧ S_value_own_bare n2 n3 x4 s5 true false false h1 fun (vs6 : List Value) (h7 : Hp) =>
∃ b8 : Bool, vs6 = [(Value.bool b8)] ∧
(if b8 = true then (∃ n9 : Int, rd h7 (Addr.add (Addr.mk (Array.size h) 0 none) 1) = some (Value.int .i64 n9) ∧
    (if (n9 == (0 : Int)) = true then (Q [(Value.bool true)] h7) else
      (∃ n10 : Int, rd h7 (Addr.add (Addr.mk (Array.size h) 0 none) 1) = some (Value.int .i64 n10) ∧
        Q [(Value.bool (n10 == (1 : Int)))] h7))) else
  (Q [(Value.bool false)] h7))
def A_value_own_bool : Ann := .nil
theorem E_value_own_bool (g0_v_0 : Int) (g0_v_1 : Int) (g0_v_2 : Nat) (g0_v_3 : ByteArray) (h : Hp) (Q : List Value → Hp → Prop) : cw PP 15 (fun _ => []) (bodyOf Tryz.f78) A_value_own_bool (finQ PP (Tryz.f78.results.toList) Q) (argFr [(Value.agg #[(Value.int .i64 g0_v_0), (Value.int .i64 g0_v_1), (Value.float .f64 g0_v_2), (Value.string g0_v_3)])]) h = F_value_own_bool g0_v_0 g0_v_1 g0_v_2 g0_v_3 h Q := by kernel_rfl
theorem O_value_own_bool (g0_v_0 : Int) (g0_v_1 : Int) (g0_v_2 : Nat) (g0_v_3 : ByteArray) {h : Hp} {Q : List Value → Hp → Prop} (H : F_value_own_bool g0_v_0 g0_v_1 g0_v_2 g0_v_3 h Q) : S_value_own_bool g0_v_0 g0_v_1 g0_v_2 g0_v_3 h Q :=
  fn_of_cw (hs := (fun _ => [])) (ann := A_value_own_bool) (args := [(Value.agg #[(Value.int .i64 g0_v_0), (Value.int .i64 g0_v_1), (Value.float .f64 g0_v_2), (Value.string g0_v_3)])]) mixedPP Tryz.func78 (c := bodyOf Tryz.f78) (by kernel_rfl) (by kernel_rfl) (by kernel_rfl) (Eq.mpr (E_value_own_bool g0_v_0 g0_v_1 g0_v_2 g0_v_3 h Q) H)
def F_value_own_int (g0_v_0 : Int) (g0_v_1 : Int) (g0_v_2 : Nat) (g0_v_3 : ByteArray) (h : Hp) (Q : List Value → Hp → Prop) : Prop :=
wth (Array.push h (Obj.cells #[(Value.int .i64 g0_v_0), (Value.int .i64 g0_v_1), (Value.float .f64 g0_v_2), (Value.string g0_v_3)] T_value_own)) fun h1 =>
∃ n2 : Int, rd h1 (Addr.add (Addr.mk (Array.size h) 0 none) 0) = some (Value.int .i64 n2) ∧ ∃ n3 : Int, rd h1 (Addr.add (Addr.mk (Array.size h) 0 none) 1) = some (Value.int .i64 n3) ∧ ∃ x4 : Nat, rd h1 (Addr.add (Addr.mk (Array.size h) 0 none) 2) = some (Value.float .f64 x4) ∧ ∃ s5 : ByteArray, rd h1 (Addr.add (Addr.mk (Array.size h) 0 none) 3) = some (Value.string s5) ∧ S_value_own_bare n2 n3 x4 s5 true false false h1 fun (vs6 : List Value) (h7 : Hp) =>
∃ b8 : Bool, vs6 = [(Value.bool b8)] ∧
Q [(Value.bool b8)] h7
def A_value_own_int : Ann := .nil
theorem E_value_own_int (g0_v_0 : Int) (g0_v_1 : Int) (g0_v_2 : Nat) (g0_v_3 : ByteArray) (h : Hp) (Q : List Value → Hp → Prop) : cw PP 5 (fun _ => []) (bodyOf Tryz.f79) A_value_own_int (finQ PP (Tryz.f79.results.toList) Q) (argFr [(Value.agg #[(Value.int .i64 g0_v_0), (Value.int .i64 g0_v_1), (Value.float .f64 g0_v_2), (Value.string g0_v_3)])]) h = F_value_own_int g0_v_0 g0_v_1 g0_v_2 g0_v_3 h Q := by kernel_rfl
theorem O_value_own_int (g0_v_0 : Int) (g0_v_1 : Int) (g0_v_2 : Nat) (g0_v_3 : ByteArray) {h : Hp} {Q : List Value → Hp → Prop} (H : F_value_own_int g0_v_0 g0_v_1 g0_v_2 g0_v_3 h Q) : S_value_own_int g0_v_0 g0_v_1 g0_v_2 g0_v_3 h Q :=
  fn_of_cw (hs := (fun _ => [])) (ann := A_value_own_int) (args := [(Value.agg #[(Value.int .i64 g0_v_0), (Value.int .i64 g0_v_1), (Value.float .f64 g0_v_2), (Value.string g0_v_3)])]) mixedPP Tryz.func79 (c := bodyOf Tryz.f79) (by kernel_rfl) (by kernel_rfl) (by kernel_rfl) (Eq.mpr (E_value_own_int g0_v_0 g0_v_1 g0_v_2 g0_v_3 h Q) H)
def F_value_own_float (g0_v_0 : Int) (g0_v_1 : Int) (g0_v_2 : Nat) (g0_v_3 : ByteArray) (h : Hp) (Q : List Value → Hp → Prop) : Prop :=
wth (Array.push h (Obj.cells #[(Value.int .i64 g0_v_0), (Value.int .i64 g0_v_1), (Value.float .f64 g0_v_2), (Value.string g0_v_3)] T_value_own)) fun h1 =>
∃ n2 : Int, rd h1 (Addr.add (Addr.mk (Array.size h) 0 none) 0) = some (Value.int .i64 n2) ∧ ∃ n3 : Int, rd h1 (Addr.add (Addr.mk (Array.size h) 0 none) 1) = some (Value.int .i64 n3) ∧ ∃ x4 : Nat, rd h1 (Addr.add (Addr.mk (Array.size h) 0 none) 2) = some (Value.float .f64 x4) ∧ ∃ s5 : ByteArray, rd h1 (Addr.add (Addr.mk (Array.size h) 0 none) 3) = some (Value.string s5) ∧ S_value_own_bare n2 n3 x4 s5 false true false h1 fun (vs6 : List Value) (h7 : Hp) =>
∃ b8 : Bool, vs6 = [(Value.bool b8)] ∧
(if b8 = true then (∃ x9 : Nat, rd h7 (Addr.add (Addr.mk (Array.size h) 0 none) 2) = some (Value.float .f64 x9) ∧
    S_float_Is x9 h7 fun (vs10 : List Value) (h11 : Hp) =>
    ∃ b12 : Bool, vs10 = [(Value.bool b12)] ∧
    Q [(Value.bool b12)] h11) else
  (Q [(Value.bool false)] h7))
def A_value_own_float : Ann := .nil
theorem E_value_own_float (g0_v_0 : Int) (g0_v_1 : Int) (g0_v_2 : Nat) (g0_v_3 : ByteArray) (h : Hp) (Q : List Value → Hp → Prop) : cw PP 10 (fun _ => []) (bodyOf Tryz.f80) A_value_own_float (finQ PP (Tryz.f80.results.toList) Q) (argFr [(Value.agg #[(Value.int .i64 g0_v_0), (Value.int .i64 g0_v_1), (Value.float .f64 g0_v_2), (Value.string g0_v_3)])]) h = F_value_own_float g0_v_0 g0_v_1 g0_v_2 g0_v_3 h Q := by kernel_rfl
theorem O_value_own_float (g0_v_0 : Int) (g0_v_1 : Int) (g0_v_2 : Nat) (g0_v_3 : ByteArray) {h : Hp} {Q : List Value → Hp → Prop} (H : F_value_own_float g0_v_0 g0_v_1 g0_v_2 g0_v_3 h Q) : S_value_own_float g0_v_0 g0_v_1 g0_v_2 g0_v_3 h Q :=
  fn_of_cw (hs := (fun _ => [])) (ann := A_value_own_float) (args := [(Value.agg #[(Value.int .i64 g0_v_0), (Value.int .i64 g0_v_1), (Value.float .f64 g0_v_2), (Value.string g0_v_3)])]) mixedPP Tryz.func80 (c := bodyOf Tryz.f80) (by kernel_rfl) (by kernel_rfl) (by kernel_rfl) (Eq.mpr (E_value_own_float g0_v_0 g0_v_1 g0_v_2 g0_v_3 h Q) H)
def F_value_own_text (g0_v_0 : Int) (g0_v_1 : Int) (g0_v_2 : Nat) (g0_v_3 : ByteArray) (h : Hp) (Q : List Value → Hp → Prop) : Prop :=
wth (Array.push h (Obj.cells #[(Value.int .i64 g0_v_0), (Value.int .i64 g0_v_1), (Value.float .f64 g0_v_2), (Value.string g0_v_3)] T_value_own)) fun h1 =>
∃ n2 : Int, rd h1 (Addr.add (Addr.mk (Array.size h) 0 none) 0) = some (Value.int .i64 n2) ∧ ∃ n3 : Int, rd h1 (Addr.add (Addr.mk (Array.size h) 0 none) 1) = some (Value.int .i64 n3) ∧ ∃ x4 : Nat, rd h1 (Addr.add (Addr.mk (Array.size h) 0 none) 2) = some (Value.float .f64 x4) ∧ ∃ s5 : ByteArray, rd h1 (Addr.add (Addr.mk (Array.size h) 0 none) 3) = some (Value.string s5) ∧ S_value_own_bare n2 n3 x4 s5 false false true h1 fun (vs6 : List Value) (h7 : Hp) =>
∃ b8 : Bool, vs6 = [(Value.bool b8)] ∧
(if b8 = true then (∃ s9 : ByteArray, rd h7 (Addr.add (Addr.mk (Array.size h) 0 none) 3) = some (Value.string s9) ∧
    Q [(Value.bool (decide ((ByteArray.size s9 : Int) ≤ (256 : Int))))] h7) else
  (Q [(Value.bool false)] h7))
def A_value_own_text : Ann := .nil
theorem E_value_own_text (g0_v_0 : Int) (g0_v_1 : Int) (g0_v_2 : Nat) (g0_v_3 : ByteArray) (h : Hp) (Q : List Value → Hp → Prop) : cw PP 11 (fun _ => []) (bodyOf Tryz.f81) A_value_own_text (finQ PP (Tryz.f81.results.toList) Q) (argFr [(Value.agg #[(Value.int .i64 g0_v_0), (Value.int .i64 g0_v_1), (Value.float .f64 g0_v_2), (Value.string g0_v_3)])]) h = F_value_own_text g0_v_0 g0_v_1 g0_v_2 g0_v_3 h Q := by kernel_rfl
theorem O_value_own_text (g0_v_0 : Int) (g0_v_1 : Int) (g0_v_2 : Nat) (g0_v_3 : ByteArray) {h : Hp} {Q : List Value → Hp → Prop} (H : F_value_own_text g0_v_0 g0_v_1 g0_v_2 g0_v_3 h Q) : S_value_own_text g0_v_0 g0_v_1 g0_v_2 g0_v_3 h Q :=
  fn_of_cw (hs := (fun _ => [])) (ann := A_value_own_text) (args := [(Value.agg #[(Value.int .i64 g0_v_0), (Value.int .i64 g0_v_1), (Value.float .f64 g0_v_2), (Value.string g0_v_3)])]) mixedPP Tryz.func81 (c := bodyOf Tryz.f81) (by kernel_rfl) (by kernel_rfl) (by kernel_rfl) (Eq.mpr (E_value_own_text g0_v_0 g0_v_1 g0_v_2 g0_v_3 h Q) H)
end Go.Lift

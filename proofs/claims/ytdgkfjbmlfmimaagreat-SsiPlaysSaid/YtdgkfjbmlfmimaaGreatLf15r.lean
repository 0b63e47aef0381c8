/- The reference's functions, printed. -/
import Derived.Test.YtdgkfjbmlfmimaaGreatLf15
set_option linter.unusedSimpArgs false
set_option linter.unusedVariables false
namespace Go.Lift
open Go Go.Proofs
set_option maxRecDepth 100000
open Go.Value Go.Addr
def F_liveryref13_New (g0_each : Int) (g1_all : Int) (h : Hp) (Q : PQ) : Prop :=
∀ J1 : PQ, (∀ b2 : Bool, ∀ h3 : Hp, ((if b2 = true then
 (Q [(pointer none), (int .i64 1)] h3) else
 (wth (Array.push h3 (Obj.cells #[(slice none 0 0), (int .i64 g0_each), (int .i64 g1_all), (int .i64 0)] T_liveryref13_Table)) fun h4 =>
 Q [(pointer (some (mk h3.size 0 none))), (int .i64 0)] h4))) → J1 [(bool b2)] h3) →
(if (decide (g0_each < (1 : Int))) = true then (J1 [(bool true)] h) else
 ((if (decide (g0_each > 10000)) = true then (J1 [(bool true)] h) else
 ((if (decide (g1_all < (1 : Int))) = true then (J1 [(bool true)] h) else
 (J1 [(bool (decide (g1_all > 10000)))] h))))))
def A_liveryref13_New : Ann := (.mk none ⟨[], []⟩ .nil (.mk none ⟨[], []⟩ (.mk none ⟨[], []⟩ (.mk (some ⟨[0, 1], [(19, (.c .bool))]⟩) ⟨[], []⟩ .nil .nil) .nil) .nil))
theorem E_liveryref13_New (g0_each : Int) (g1_all : Int) (h : Hp) (Q : PQ) : eW 24 Tryz.f80 A_liveryref13_New [(int .i64 g0_each), (int .i64 g1_all)] h Q = F_liveryref13_New g0_each g1_all h Q := by kernel_rfl
theorem O_liveryref13_New (g0_each : Int) (g1_all : Int) {h : Hp} {Q : PQ} (H : F_liveryref13_New g0_each g1_all h Q) : S_liveryref13_New g0_each g1_all h Q :=
 fo Tryz.func80 (E_liveryref13_New g0_each g1_all h Q) H
def F_liveryref15_New (g0_l : Option Addr) (g1_each : Int) (g2_all : Int) (g3_keep : Int) (h : Hp) (Q : PQ) : Prop :=
∀ J1 : PQ, (∀ b2 : Bool, ∀ h3 : Hp, ((if b2 = true then
 (Q [(pointer none), (int .i64 1)] h3) else
 (S_liveryref13_New g1_each g2_all h3 fun vs4 h5 =>
 ∃ p6, ∃ n7, vs4 = [(pointer p6), (int .i64 n7)] ∧
 (if (n7 != 0) = true then
 (Q [(pointer none), (int .i64 n7)] h5) else
 (wth (Array.push h5 (Obj.cells #[(pointer g0_l), (slice none 0 0), (slice none 0 0)] T_liveryref14_Edges)) fun h8 =>
 wth (Array.push h8 (Obj.cells #[(pointer g0_l), (pointer p6), (pointer (some (mk h5.size 0 none))), (slice none 0 0), (slice none 0 0), (slice none 0 0), (int .i64 g3_keep)] T_liveryref15_Ssi)) fun h9 =>
 Q [(pointer (some (mk h8.size 0 none))), (int .i64 0)] h9))))) → J1 [(bool b2)] h3) →
(if (decide (g3_keep < (0 : Int))) = true then (J1 [(bool true)] h) else
 (J1 [(bool (decide (g3_keep > 1000)))] h))
def A_liveryref15_New : Ann := (.mk none ⟨[], []⟩ .nil (.mk none ⟨[], []⟩ (.mk none ⟨[], []⟩ (.mk (some ⟨[0, 1, 2, 3], [(17, (.c .bool))]⟩) ⟨[], []⟩ .nil .nil) .nil) .nil))
theorem E_liveryref15_New (g0_l : Option Addr) (g1_each : Int) (g2_all : Int) (g3_keep : Int) (h : Hp) (Q : PQ) : eW 35 Tryz.f40 A_liveryref15_New [(pointer g0_l), (int .i64 g1_each), (int .i64 g2_all), (int .i64 g3_keep)] h Q = F_liveryref15_New g0_l g1_each g2_all g3_keep h Q := by kernel_rfl
theorem O_liveryref15_New (g0_l : Option Addr) (g1_each : Int) (g2_all : Int) (g3_keep : Int) {h : Hp} {Q : PQ} (H : F_liveryref15_New g0_l g1_each g2_all g3_keep h Q) : S_liveryref15_New g0_l g1_each g2_all g3_keep h Q :=
 fo Tryz.func40 (E_liveryref15_New g0_l g1_each g2_all g3_keep h Q) H
def F_liveryref08_Log_Running (g0_l : Option Addr) (h : Hp) (Q : PQ) : Prop :=
∀ X1 : PQ, (∀ l2 : Sl, ∀ n3 : Int, ∀ h4 : Hp, (nilW g0_l fun a5 => ∃ l6 : Sl, rd h4 (add a5 0) = some (slice l6.a l6.n l6.c) ∧
 (if (decide (n3 < (l6.n : Int))) = true then
 (∀ J7 : PQ, (∀ l8 : Sl, ∀ h9 : Hp, (X1 [(slice l8.a l8.n l8.c), (int .i64 (IntKind.wrap .i64 (n3 + 1)))] h9) → J7 [(slice l8.a l8.n l8.c)] h9) →
 nilW g0_l fun a10 => ∃ l11 : Sl, rd h4 (add a10 0) = some (slice l11.a l11.n l11.c) ∧
 nilW l11.a fun a12 => ixOk n3 l11.n (∃ n13, rd h4 (add (add a12 (Int.toNat n3 * 4)) 0) = some (int .i64 n13) ∧
 (if (n13 == 1) = true then
 (wth (Array.push h4 (Obj.cells #[(int .i64 (IntKind.wrap .i64 (n3 + 1)))] T_int)) fun h14 =>
 ∃ cs17 : List Value, cellsAt h14 (some (mk h4.size 0 none)) (1 * 1) cs17 ∧ appS PP T_int 8 1 h14 ⟨l2.a, l2.n, l2.c⟩ 1 cs17 fun (l15 : Sl) (h16 : Hp) =>
 J7 [(slice l15.a l15.n l15.c)] h16) else
 (J7 [(slice l2.a l2.n l2.c)] h4)))) else
 (Q [(slice l2.a l2.n l2.c)] h4))) → X1 [(slice l2.a l2.n l2.c), (int .i64 n3)] h4) →
X1 [(slice none 0 0), (int .i64 0)] h
def A_liveryref08_Log_Running : Ann := (.mk none ⟨[], []⟩ .nil (.mk none ⟨[], []⟩ .nil (.mk none ⟨[], []⟩ (.mk none ⟨[], []⟩ .nil (.mk none ⟨[], []⟩ (.mk none ⟨[0], [(3, (.c .sl)), (4, (.c (.int .i64)))]⟩ (.mk none ⟨[], []⟩ .nil (.mk none ⟨[], []⟩ (.mk (some ⟨[0, 4], [(3, (.c .sl))]⟩) ⟨[], []⟩ .nil .nil) .nil)) .nil) .nil)) .nil)))
theorem E_liveryref08_Log_Running (g0_l : Option Addr) (h : Hp) (Q : PQ) : eW 29 Tryz.f81 A_liveryref08_Log_Running [(pointer g0_l)] h Q = F_liveryref08_Log_Running g0_l h Q := by kernel_rfl
theorem O_liveryref08_Log_Running (g0_l : Option Addr) {h : Hp} {Q : PQ} (H : F_liveryref08_Log_Running g0_l h Q) : S_liveryref08_Log_Running g0_l h Q :=
 fo Tryz.func81 (E_liveryref08_Log_Running g0_l h Q) H
def F_liveryref08_Log_Get (g0_l : Option Addr) (g1_xid : Int) (h : Hp) (Q : PQ) : Prop :=
wth (Array.push h (Obj.cells #[(int .i64 0), (int .i64 0), (int .i64 0), (bool false)] T_liveryref08_Tx)) fun h1 =>
∀ J2 : PQ, (∀ b3 : Bool, ∀ h4 : Hp, ((if b3 = true then
 (stOk h4 (mk h.size 0 none) 4 ∧ wth (wrs h4 (mk h.size 0 none) 0 [(int .i64 0), (int .i64 0), (int .i64 0), (bool false)]) fun h5 =>
 ∃ n6, rd h5 (add (mk h.size 0 none) 0) = some (int .i64 n6) ∧ ∃ n7, rd h5 (add (mk h.size 0 none) 1) = some (int .i64 n7) ∧ ∃ n8, rd h5 (add (mk h.size 0 none) 2) = some (int .i64 n8) ∧ ∃ b9, rd h5 (add (mk h.size 0 none) 3) = some (bool b9) ∧ Q [(agg #[(int .i64 n6), (int .i64 n7), (int .i64 n8), (bool b9)])] h5) else
 (nilW g0_l fun a10 => ∃ l11 : Sl, rd h4 (add a10 0) = some (slice l11.a l11.n l11.c) ∧
 nilW l11.a fun a12 => ixOk (IntKind.wrap .i64 (g1_xid - 1)) l11.n (∃ n13, rd h4 (add (add a12 (Int.toNat (IntKind.wrap .i64 (g1_xid - 1)) * 4)) 0) = some (int .i64 n13) ∧ ∃ n14, rd h4 (add (add a12 (Int.toNat (IntKind.wrap .i64 (g1_xid - 1)) * 4)) 1) = some (int .i64 n14) ∧ ∃ n15, rd h4 (add (add a12 (Int.toNat (IntKind.wrap .i64 (g1_xid - 1)) * 4)) 2) = some (int .i64 n15) ∧ ∃ b16, rd h4 (add (add a12 (Int.toNat (IntKind.wrap .i64 (g1_xid - 1)) * 4)) 3) = some (bool b16) ∧ stOk h4 (mk h.size 0 none) 4 ∧ wth (wrs h4 (mk h.size 0 none) 0 [(int .i64 n13), (int .i64 n14), (int .i64 n15), (bool b16)]) fun h17 =>
 ∃ n18, rd h17 (add (mk h.size 0 none) 0) = some (int .i64 n18) ∧ ∃ n19, rd h17 (add (mk h.size 0 none) 1) = some (int .i64 n19) ∧ ∃ n20, rd h17 (add (mk h.size 0 none) 2) = some (int .i64 n20) ∧ ∃ b21, rd h17 (add (mk h.size 0 none) 3) = some (bool b21) ∧ Q [(agg #[(int .i64 n18), (int .i64 n19), (int .i64 n20), (bool b21)])] h17)))) → J2 [(bool b3)] h4) →
(if (decide (g1_xid < (1 : Int))) = true then (J2 [(bool true)] h1) else
 (nilW g0_l fun a22 => ∃ l23 : Sl, rd h1 (add a22 0) = some (slice l23.a l23.n l23.c) ∧
 J2 [(bool (decide (g1_xid > (l23.n : Int))))] h1))
def A_liveryref08_Log_Get : Ann := (.mk none ⟨[], []⟩ .nil (.mk none ⟨[], []⟩ (.mk none ⟨[], []⟩ (.mk (some ⟨[0, 1, 4], [(15, (.c .bool))]⟩) ⟨[], []⟩ .nil .nil) .nil) .nil))
theorem E_liveryref08_Log_Get (g0_l : Option Addr) (g1_xid : Int) (h : Hp) (Q : PQ) : eW 25 Tryz.f82 A_liveryref08_Log_Get [(pointer g0_l), (int .i64 g1_xid)] h Q = F_liveryref08_Log_Get g0_l g1_xid h Q := by kernel_rfl
theorem O_liveryref08_Log_Get (g0_l : Option Addr) (g1_xid : Int) {h : Hp} {Q : PQ} (H : F_liveryref08_Log_Get g0_l g1_xid h Q) : S_liveryref08_Log_Get g0_l g1_xid h Q :=
 fo Tryz.func82 (E_liveryref08_Log_Get g0_l g1_xid h Q) H
def F_liveryref08_Log_Begin (g0_l : Option Addr) (g1_reads : Bool) (h : Hp) (Q : PQ) : Prop :=
nilW g0_l fun a1 => ∃ l2 : Sl, rd h (add a1 0) = some (slice l2.a l2.n l2.c) ∧
(if (decide ((l2.n : Int) ≥ 200)) = true then
 (Q [(int .i64 0), (int .i64 74)] h) else
 (∀ J3 : PQ, (∀ h4 : Hp, (nilW g0_l fun a5 => ∃ l6 : Sl, rd h4 (add a5 0) = some (slice l6.a l6.n l6.c) ∧
 Q [(int .i64 (l6.n : Int)), (int .i64 0)] h4) → J3 [] h4) →
 nilW g0_l fun a7 => ∃ l8 : Sl, rd h (add a7 0) = some (slice l8.a l8.n l8.c) ∧
 nilW g0_l fun a9 => ∃ n10, rd h (add a9 1) = some (int .i64 n10) ∧
 (wth (Array.push h (Obj.cells #[] T_liveryref08_Tx)) fun h11 =>
 rd h11 (add a9 1) = some (int .i64 n10) ∧ rd h11 (add a7 0) = some (slice l8.a l8.n l8.c) ∧ (∃ cs20 : List Value, cellsAt h11 l8.a (l8.n * 4) cs20 ∧ appS PP T_liveryref08_Tx 32 4 h11 ⟨(some (mk h.size 0 none)), 0, 0⟩ l8.n cs20 fun (l12 : Sl) (h13 : Hp) =>
 rd h13 (add a9 1) = some (int .i64 n10) ∧ wth (Array.push h13 (Obj.cells #[(int .i64 1), (int .i64 n10), (int .i64 0), (bool g1_reads)] T_liveryref08_Tx)) fun h14 =>
 ∃ cs19 : List Value, cellsAt h14 (some (mk h13.size 0 none)) (1 * 4) cs19 ∧ appS PP T_liveryref08_Tx 32 4 h14 ⟨l12.a, l12.n, l12.c⟩ 1 cs19 fun (l15 : Sl) (h16 : Hp) =>
 nilW g0_l fun a17 => stOk h16 (add a17 0) 1 ∧ wth (wrs h16 (add a17 0) 0 [(slice l15.a l15.n l15.c)]) fun h18 =>
 J3 [] h18) ∧
 (wth (Array.push h11 (Obj.cells #[(int .i64 1), (int .i64 n10), (int .i64 0), (bool g1_reads)] T_liveryref08_Tx)) fun h21 =>
 rd h21 (add a7 0) = some (slice l8.a l8.n l8.c) ∧ ∃ cs29 : List Value, cellsAt h21 l8.a (l8.n * 4) cs29 ∧ appS PP T_liveryref08_Tx 32 4 h21 ⟨(some (mk h.size 0 none)), 0, 0⟩ l8.n cs29 fun (l22 : Sl) (h23 : Hp) =>
 ∃ cs28 : List Value, cellsAt h23 (some (mk h11.size 0 none)) (1 * 4) cs28 ∧ appS PP T_liveryref08_Tx 32 4 h23 ⟨l22.a, l22.n, l22.c⟩ 1 cs28 fun (l24 : Sl) (h25 : Hp) =>
 nilW g0_l fun a26 => stOk h25 (add a26 0) 1 ∧ wth (wrs h25 (add a26 0) 0 [(slice l24.a l24.n l24.c)]) fun h27 =>
 J3 [] h27)) ∧
 (wth (Array.push h (Obj.cells #[(int .i64 1), (int .i64 n10), (int .i64 0), (bool g1_reads)] T_liveryref08_Tx)) fun h30 =>
 rd h30 (add a7 0) = some (slice l8.a l8.n l8.c) ∧ wth (Array.push h30 (Obj.cells #[] T_liveryref08_Tx)) fun h31 =>
 rd h31 (add a7 0) = some (slice l8.a l8.n l8.c) ∧ ∃ cs39 : List Value, cellsAt h31 l8.a (l8.n * 4) cs39 ∧ appS PP T_liveryref08_Tx 32 4 h31 ⟨(some (mk h30.size 0 none)), 0, 0⟩ l8.n cs39 fun (l32 : Sl) (h33 : Hp) =>
 ∃ cs38 : List Value, cellsAt h33 (some (mk h.size 0 none)) (1 * 4) cs38 ∧ appS PP T_liveryref08_Tx 32 4 h33 ⟨l32.a, l32.n, l32.c⟩ 1 cs38 fun (l34 : Sl) (h35 : Hp) =>
 nilW g0_l fun a36 => stOk h35 (add a36 0) 1 ∧ wth (wrs h35 (add a36 0) 0 [(slice l34.a l34.n l34.c)]) fun h37 =>
 J3 [] h37)))
def A_liveryref08_Log_Begin : Ann := (.mk none ⟨[], []⟩ .nil (.mk none ⟨[], []⟩ .nil (.mk none ⟨[], []⟩ (.mk (some ⟨[0], []⟩) ⟨[], []⟩ .nil .nil) .nil)))
theorem E_liveryref08_Log_Begin (g0_l : Option Addr) (g1_reads : Bool) (h : Hp) (Q : PQ) : eW 34 Tryz.f83 A_liveryref08_Log_Begin [(pointer g0_l), (bool g1_reads)] h Q = F_liveryref08_Log_Begin g0_l g1_reads h Q := by kernel_rfl
theorem O_liveryref08_Log_Begin (g0_l : Option Addr) (g1_reads : Bool) {h : Hp} {Q : PQ} (H : F_liveryref08_Log_Begin g0_l g1_reads h Q) : S_liveryref08_Log_Begin g0_l g1_reads h Q :=
 fo Tryz.func83 (E_liveryref08_Log_Begin g0_l g1_reads h Q) H
def F_liveryref15_Ssi_Begin (g0_s : Option Addr) (g1_reads : Bool) (h : Hp) (Q : PQ) : Prop :=
nilW g0_s fun a1 => ∃ p2, rd h (add a1 0) = some (pointer p2) ∧
S_liveryref08_Log_Running p2 h fun vs3 h4 =>
∃ l5 : Sl, vs3 = [(slice l5.a l5.n l5.c)] ∧
∀ X6 : PQ, (∀ b7 : Bool, ∀ n8 : Int, ∀ h9 : Hp, ((if (decide (n8 < (l5.n : Int))) = true then
 (∀ J10 : PQ, (∀ b11 : Bool, ∀ h12 : Hp, (X6 [(bool b11), (int .i64 (IntKind.wrap .i64 (n8 + 1)))] h12) → J10 [(bool b11)] h12) →
 nilW g0_s fun a13 => ∃ p14, rd h9 (add a13 0) = some (pointer p14) ∧
 nilW l5.a fun a15 => ixOk n8 l5.n (∃ n16, rd h9 (add a15 (Int.toNat n8 * 1)) = some (int .i64 n16) ∧
 S_liveryref08_Log_Get p14 n16 h9 fun vs17 h18 =>
 ∃ n19, ∃ n20, ∃ n21, ∃ b22, vs17 = [(agg #[(int .i64 n19), (int .i64 n20), (int .i64 n21), (bool b22)])] ∧
 (if (!b22) = true then
 (J10 [(bool false)] h18) else
 (J10 [(bool b7)] h18)))) else
 (nilW g0_s fun a23 => ∃ p24, rd h9 (add a23 0) = some (pointer p24) ∧
 S_liveryref08_Log_Begin p24 g1_reads h9 fun vs25 h26 =>
 ∃ n27, ∃ n28, vs25 = [(int .i64 n27), (int .i64 n28)] ∧
 ∀ J29 : PQ, (∀ b30 : Bool, ∀ h31 : Hp, (∀ J32 : PQ, (∀ h33 : Hp, (Q [(int .i64 n27), (int .i64 n28)] h33) → J32 [] h33) →
 (if b30 = true then
 (wth (Array.push h31 (Obj.cells #[] T_int)) fun h34 =>
 nilW g0_s fun a35 => ∃ l36 : Sl, rd h34 (add a35 4) = some (slice l36.a l36.n l36.c) ∧
 ∃ cs45 : List Value, cellsAt h34 l36.a (l36.n * 1) cs45 ∧ appS PP T_int 8 1 h34 ⟨(some (mk h31.size 0 none)), 0, 0⟩ l36.n cs45 fun (l37 : Sl) (h38 : Hp) =>
 wth (Array.push h38 (Obj.cells #[(int .i64 n27)] T_int)) fun h39 =>
 ∃ cs44 : List Value, cellsAt h39 (some (mk h38.size 0 none)) (1 * 1) cs44 ∧ appS PP T_int 8 1 h39 ⟨l37.a, l37.n, l37.c⟩ 1 cs44 fun (l40 : Sl) (h41 : Hp) =>
 nilW g0_s fun a42 => stOk h41 (add a42 4) 1 ∧ wth (wrs h41 (add a42 4) 0 [(slice l40.a l40.n l40.c)]) fun h43 =>
 J32 [] h43) else
 (J32 [] h31))) → J29 [(bool b30)] h31) →
 (if (n28 == 0) = true then ((if g1_reads = true then (J29 [(bool b7)] h26) else
 (J29 [(bool false)] h26))) else
 (J29 [(bool false)] h26))))) → X6 [(bool b7), (int .i64 n8)] h9) →
X6 [(bool true), (int .i64 0)] h4
def A_liveryref15_Ssi_Begin : Ann := (.mk none ⟨[], []⟩ .nil (.mk none ⟨[], []⟩ .nil (.mk none ⟨[], []⟩ .nil (.mk none ⟨[], []⟩ (.mk none ⟨[], []⟩ .nil (.mk none ⟨[], []⟩ (.mk none ⟨[0, 1, 7], [(6, (.c .bool)), (8, (.c (.int .i64)))]⟩ (.mk none ⟨[], []⟩ .nil (.mk none ⟨[], []⟩ (.mk (some ⟨[0, 1, 7, 8], [(6, (.c .bool))]⟩) ⟨[], []⟩ .nil .nil) .nil)) .nil) .nil)) (.mk none ⟨[], []⟩ .nil (.mk none ⟨[], []⟩ (.mk none ⟨[], []⟩ (.mk (some ⟨[0, 9, 10], [(49, (.c .bool))]⟩) ⟨[], []⟩ .nil .nil) (.mk (some ⟨[9, 10], []⟩) ⟨[], []⟩ .nil .nil)) .nil))))))
theorem E_liveryref15_Ssi_Begin (g0_s : Option Addr) (g1_reads : Bool) (h : Hp) (Q : PQ) : eW 64 Tryz.f41 A_liveryref15_Ssi_Begin [(pointer g0_s), (bool g1_reads)] h Q = F_liveryref15_Ssi_Begin g0_s g1_reads h Q := by kernel_rfl
theorem O_liveryref15_Ssi_Begin (g0_s : Option Addr) (g1_reads : Bool) {h : Hp} {Q : PQ} (H : F_liveryref15_Ssi_Begin g0_s g1_reads h Q) : S_liveryref15_Ssi_Begin g0_s g1_reads h Q :=
 fo Tryz.func41 (E_liveryref15_Ssi_Begin g0_s g1_reads h Q) H
def F_liveryref15_Ssi_runs (g0_s : Option Addr) (g1_xid : Int) (h : Hp) (Q : PQ) : Prop :=
nilW g0_s fun a1 => ∃ p2, rd h (add a1 0) = some (pointer p2) ∧
S_liveryref08_Log_Get p2 g1_xid h fun vs3 h4 =>
∃ n5, ∃ n6, ∃ n7, ∃ b8, vs3 = [(agg #[(int .i64 n5), (int .i64 n6), (int .i64 n7), (bool b8)])] ∧
Q [(bool (n5 == 1))] h4
def A_liveryref15_Ssi_runs : Ann := .nil
theorem E_liveryref15_Ssi_runs (g0_s : Option Addr) (g1_xid : Int) (h : Hp) (Q : PQ) : eW 13 Tryz.f84 A_liveryref15_Ssi_runs [(pointer g0_s), (int .i64 g1_xid)] h Q = F_liveryref15_Ssi_runs g0_s g1_xid h Q := by kernel_rfl
theorem O_liveryref15_Ssi_runs (g0_s : Option Addr) (g1_xid : Int) {h : Hp} {Q : PQ} (H : F_liveryref15_Ssi_runs g0_s g1_xid h Q) : S_liveryref15_Ssi_runs g0_s g1_xid h Q :=
 fo Tryz.func84 (E_liveryref15_Ssi_runs g0_s g1_xid h Q) H
def F_liveryref13_Table_Drop (g0_t : Option Addr) (g1_xid : Int) (h : Hp) (Q : PQ) : Prop :=
∀ X1 : PQ, (∀ l2 : Sl, ∀ n3 : Int, ∀ h4 : Hp, (nilW g0_t fun a5 => ∃ l6 : Sl, rd h4 (add a5 0) = some (slice l6.a l6.n l6.c) ∧
 (if (decide (n3 < (l6.n : Int))) = true then
 (∀ J7 : PQ, (∀ l8 : Sl, ∀ h9 : Hp, (X1 [(slice l8.a l8.n l8.c), (int .i64 (IntKind.wrap .i64 (n3 + 1)))] h9) → J7 [(slice l8.a l8.n l8.c)] h9) →
 nilW g0_t fun a10 => ∃ l11 : Sl, rd h4 (add a10 0) = some (slice l11.a l11.n l11.c) ∧
 nilW l11.a fun a12 => ixOk n3 l11.n (∃ n13, rd h4 (add (add a12 (Int.toNat n3 * 6)) 0) = some (int .i64 n13) ∧
 (if (n13 != g1_xid) = true then
 (nilW g0_t fun a14 => ∃ l15 : Sl, rd h4 (add a14 0) = some (slice l15.a l15.n l15.c) ∧
 nilW l15.a fun a16 => ixOk n3 l15.n (∃ n17, rd h4 (add (add a16 (Int.toNat n3 * 6)) 0) = some (int .i64 n17) ∧ ∃ n18, rd h4 (add (add a16 (Int.toNat n3 * 6)) 1) = some (int .i64 n18) ∧ ∃ s19, rd h4 (add (add a16 (Int.toNat n3 * 6)) 2) = some (string s19) ∧ ∃ n20, rd h4 (add (add a16 (Int.toNat n3 * 6)) 3) = some (int .i64 n20) ∧ ∃ s21, rd h4 (add (add a16 (Int.toNat n3 * 6)) 4) = some (string s21) ∧ ∃ n22, rd h4 (add (add a16 (Int.toNat n3 * 6)) 5) = some (int .i64 n22) ∧ wth (Array.push h4 (Obj.cells #[(int .i64 n17), (int .i64 n18), (string s19), (int .i64 n20), (string s21), (int .i64 n22)] T_liveryref13_Own)) fun h23 =>
 ∃ cs26 : List Value, cellsAt h23 (some (mk h4.size 0 none)) (1 * 6) cs26 ∧ appS PP T_liveryref13_Own 64 6 h23 ⟨l2.a, l2.n, l2.c⟩ 1 cs26 fun (l24 : Sl) (h25 : Hp) =>
 J7 [(slice l24.a l24.n l24.c)] h25)) else
 (J7 [(slice l2.a l2.n l2.c)] h4)))) else
 (nilW g0_t fun a27 => stOk h4 (add a27 0) 1 ∧ wth (wrs h4 (add a27 0) 0 [(slice l2.a l2.n l2.c)]) fun h28 =>
 (if (g1_xid == 0) = true then
 (nilW g0_t fun a29 => stOk h28 (add a29 3) 1 ∧ wth (wrs h28 (add a29 3) 0 [(int .i64 0)]) fun h30 =>
 Q [] h30) else
 (Q [] h28))))) → X1 [(slice l2.a l2.n l2.c), (int .i64 n3)] h4) →
X1 [(slice none 0 0), (int .i64 0)] h
def A_liveryref13_Table_Drop : Ann := (.mk none ⟨[], []⟩ .nil (.mk none ⟨[], []⟩ (.mk none ⟨[], []⟩ .nil (.mk none ⟨[], []⟩ (.mk none ⟨[0, 1], [(4, (.c .sl)), (5, (.c (.int .i64)))]⟩ (.mk none ⟨[], []⟩ .nil (.mk none ⟨[], []⟩ (.mk (some ⟨[0, 1, 5], [(4, (.c .sl))]⟩) ⟨[], []⟩ .nil .nil) .nil)) .nil) .nil)) .nil))
theorem E_liveryref13_Table_Drop (g0_t : Option Addr) (g1_xid : Int) (h : Hp) (Q : PQ) : eW 44 Tryz.f91 A_liveryref13_Table_Drop [(pointer g0_t), (int .i64 g1_xid)] h Q = F_liveryref13_Table_Drop g0_t g1_xid h Q := by kernel_rfl
theorem O_liveryref13_Table_Drop (g0_t : Option Addr) (g1_xid : Int) {h : Hp} {Q : PQ} (H : F_liveryref13_Table_Drop g0_t g1_xid h Q) : S_liveryref13_Table_Drop g0_t g1_xid h Q :=
 fo Tryz.func91 (E_liveryref13_Table_Drop g0_t g1_xid h Q) H
def F_liveryref13_ahead (g0_a_0 : Int) (g0_a_1 : ByteArray) (g0_a_2 : Int) (g0_a_3 : ByteArray) (g0_a_4 : Int) (g1_b_0 : Int) (g1_b_1 : ByteArray) (g1_b_2 : Int) (g1_b_3 : ByteArray) (g1_b_4 : Int) (h : Hp) (Q : PQ) : Prop :=
wth (Array.push h (Obj.cells #[(int .i64 g0_a_0), (string g0_a_1), (int .i64 g0_a_2), (string g0_a_3), (int .i64 g0_a_4)] T_liveryref13_Thing)) fun h1 =>
wth (Array.push h1 (Obj.cells #[(int .i64 g1_b_0), (string g1_b_1), (int .i64 g1_b_2), (string g1_b_3), (int .i64 g1_b_4)] T_liveryref13_Thing)) fun h2 =>
∃ n3, rd h2 (add (mk h.size 0 none) 0) = some (int .i64 n3) ∧
∃ n4, rd h2 (add (mk h1.size 0 none) 0) = some (int .i64 n4) ∧
(if (n3 != n4) = true then
 (∃ n5, rd h2 (add (mk h.size 0 none) 0) = some (int .i64 n5) ∧
 ∃ n6, rd h2 (add (mk h1.size 0 none) 0) = some (int .i64 n6) ∧
 Q [(bool (decide (n5 < n6)))] h2) else
 (∃ s7, rd h2 (add (mk h.size 0 none) 1) = some (string s7) ∧
 ∃ s8, rd h2 (add (mk h1.size 0 none) 1) = some (string s8) ∧
 (if (!((ByteArray.toList s7) == (ByteArray.toList s8))) = true then
 (∃ s9, rd h2 (add (mk h.size 0 none) 1) = some (string s9) ∧
 ∃ s10, rd h2 (add (mk h1.size 0 none) 1) = some (string s10) ∧
 Q [(bool (Op.bytesLess (ByteArray.toList s9) (ByteArray.toList s10)))] h2) else
 (∃ n11, rd h2 (add (mk h.size 0 none) 2) = some (int .i64 n11) ∧
 ∃ n12, rd h2 (add (mk h1.size 0 none) 2) = some (int .i64 n12) ∧
 (if (n11 != n12) = true then
 (∃ n13, rd h2 (add (mk h.size 0 none) 2) = some (int .i64 n13) ∧
 ∃ n14, rd h2 (add (mk h1.size 0 none) 2) = some (int .i64 n14) ∧
 Q [(bool (decide (n13 < n14)))] h2) else
 (∃ s15, rd h2 (add (mk h.size 0 none) 3) = some (string s15) ∧
 ∃ s16, rd h2 (add (mk h1.size 0 none) 3) = some (string s16) ∧
 (if (!((ByteArray.toList s15) == (ByteArray.toList s16))) = true then
 (∃ s17, rd h2 (add (mk h.size 0 none) 3) = some (string s17) ∧
 ∃ s18, rd h2 (add (mk h1.size 0 none) 3) = some (string s18) ∧
 Q [(bool (Op.bytesLess (ByteArray.toList s17) (ByteArray.toList s18)))] h2) else
 (∃ n19, rd h2 (add (mk h.size 0 none) 4) = some (int .i64 n19) ∧
 ∃ n20, rd h2 (add (mk h1.size 0 none) 4) = some (int .i64 n20) ∧
 Q [(bool (decide (n19 < n20)))] h2))))))))
def A_liveryref13_ahead : Ann := .nil
theorem E_liveryref13_ahead (g0_a_0 : Int) (g0_a_1 : ByteArray) (g0_a_2 : Int) (g0_a_3 : ByteArray) (g0_a_4 : Int) (g1_b_0 : Int) (g1_b_1 : ByteArray) (g1_b_2 : Int) (g1_b_3 : ByteArray) (g1_b_4 : Int) (h : Hp) (Q : PQ) : eW 54 Tryz.f143 A_liveryref13_ahead [(agg #[(int .i64 g0_a_0), (string g0_a_1), (int .i64 g0_a_2), (string g0_a_3), (int .i64 g0_a_4)]), (agg #[(int .i64 g1_b_0), (string g1_b_1), (int .i64 g1_b_2), (string g1_b_3), (int .i64 g1_b_4)])] h Q = F_liveryref13_ahead g0_a_0 g0_a_1 g0_a_2 g0_a_3 g0_a_4 g1_b_0 g1_b_1 g1_b_2 g1_b_3 g1_b_4 h Q := by kernel_rfl
theorem O_liveryref13_ahead (g0_a_0 : Int) (g0_a_1 : ByteArray) (g0_a_2 : Int) (g0_a_3 : ByteArray) (g0_a_4 : Int) (g1_b_0 : Int) (g1_b_1 : ByteArray) (g1_b_2 : Int) (g1_b_3 : ByteArray) (g1_b_4 : Int) {h : Hp} {Q : PQ} (H : F_liveryref13_ahead g0_a_0 g0_a_1 g0_a_2 g0_a_3 g0_a_4 g1_b_0 g1_b_1 g1_b_2 g1_b_3 g1_b_4 h Q) : S_liveryref13_ahead g0_a_0 g0_a_1 g0_a_2 g0_a_3 g0_a_4 g1_b_0 g1_b_1 g1_b_2 g1_b_3 g1_b_4 h Q :=
 fo Tryz.func143 (E_liveryref13_ahead g0_a_0 g0_a_1 g0_a_2 g0_a_3 g0_a_4 g1_b_0 g1_b_1 g1_b_2 g1_b_3 g1_b_4 h Q) H
def F_liveryref13_Table_Of (g0_t : Option Addr) (g1_xid : Int) (h : Hp) (Q : PQ) : Prop :=
∀ X1 : PQ, (∀ l2 : Sl, ∀ n3 : Int, ∀ h4 : Hp, (nilW g0_t fun a5 => ∃ l6 : Sl, rd h4 (add a5 0) = some (slice l6.a l6.n l6.c) ∧
 (if (decide (n3 < (l6.n : Int))) = true then
 (∀ J7 : PQ, (∀ l8 : Sl, ∀ h9 : Hp, (X1 [(slice l8.a l8.n l8.c), (int .i64 (IntKind.wrap .i64 (n3 + 1)))] h9) → J7 [(slice l8.a l8.n l8.c)] h9) →
 nilW g0_t fun a10 => ∃ l11 : Sl, rd h4 (add a10 0) = some (slice l11.a l11.n l11.c) ∧
 nilW l11.a fun a12 => ixOk n3 l11.n (∃ n13, rd h4 (add (add a12 (Int.toNat n3 * 6)) 0) = some (int .i64 n13) ∧
 (if (n13 != g1_xid) = true then
 (J7 [(slice l2.a l2.n l2.c)] h4) else
 (∀ X14 : PQ, (∀ n15 : Int, ∀ h16 : Hp, (∀ J17 : PQ, (∀ b18 : Bool, ∀ h19 : Hp, ((if b18 = true then
 (X14 [(int .i64 (IntKind.wrap .i64 (n15 + 1)))] h19) else
 ((0 ≤ n15 ∧ n15 ≤ (l2.c : Nat)) ∧ nilW g0_t fun a20 => ∃ l21 : Sl, rd h19 (add a20 0) = some (slice l21.a l21.n l21.c) ∧
 nilW l21.a fun a22 => ixOk n3 l21.n (∃ n23, rd h19 (add (add (add a22 (Int.toNat n3 * 6)) 1) 0) = some (int .i64 n23) ∧ ∃ s24, rd h19 (add (add (add a22 (Int.toNat n3 * 6)) 1) 1) = some (string s24) ∧ ∃ n25, rd h19 (add (add (add a22 (Int.toNat n3 * 6)) 1) 2) = some (int .i64 n25) ∧ ∃ s26, rd h19 (add (add (add a22 (Int.toNat n3 * 6)) 1) 3) = some (string s26) ∧ ∃ n27, rd h19 (add (add (add a22 (Int.toNat n3 * 6)) 1) 4) = some (int .i64 n27) ∧ (0 ≤ n15 ∧ n15 ≤ (l2.n : Nat)) ∧ (wth (Array.push h19 (Obj.cells #[] T_liveryref13_Thing)) fun h28 =>
 rd h28 (add (add (add a22 (Int.toNat n3 * 6)) 1) 0) = some (int .i64 n23) ∧ rd h28 (add (add (add a22 (Int.toNat n3 * 6)) 1) 1) = some (string s24) ∧ rd h28 (add (add (add a22 (Int.toNat n3 * 6)) 1) 2) = some (int .i64 n25) ∧ rd h28 (add (add (add a22 (Int.toNat n3 * 6)) 1) 3) = some (string s26) ∧ rd h28 (add (add (add a22 (Int.toNat n3 * 6)) 1) 4) = some (int .i64 n27) ∧ rd h28 (add a20 0) = some (slice l21.a l21.n l21.c) ∧ (∃ cs38 : List Value, cellsAt h28 (slAd l2.a 0 l2.c 5) (((Int.toNat n15) - 0) * 5) cs38 ∧ appS PP T_liveryref13_Thing 56 5 h28 ⟨(some (mk h19.size 0 none)), 0, 0⟩ ((Int.toNat n15) - 0) cs38 fun (l29 : Sl) (h30 : Hp) =>
 rd h30 (add (add (add a22 (Int.toNat n3 * 6)) 1) 0) = some (int .i64 n23) ∧ rd h30 (add (add (add a22 (Int.toNat n3 * 6)) 1) 1) = some (string s24) ∧ rd h30 (add (add (add a22 (Int.toNat n3 * 6)) 1) 2) = some (int .i64 n25) ∧ rd h30 (add (add (add a22 (Int.toNat n3 * 6)) 1) 3) = some (string s26) ∧ rd h30 (add (add (add a22 (Int.toNat n3 * 6)) 1) 4) = some (int .i64 n27) ∧ rd h30 (add a20 0) = some (slice l21.a l21.n l21.c) ∧ wth (Array.push h30 (Obj.cells #[(int .i64 n23), (string s24), (int .i64 n25), (string s26), (int .i64 n27)] T_liveryref13_Thing)) fun h31 =>
 ∃ cs37 : List Value, cellsAt h31 (some (mk h30.size 0 none)) (1 * 5) cs37 ∧ appS PP T_liveryref13_Thing 56 5 h31 ⟨l29.a, l29.n, l29.c⟩ 1 cs37 fun (l32 : Sl) (h33 : Hp) =>
 ∃ cs36 : List Value, cellsAt h33 (slAd l2.a (Int.toNat n15) l2.c 5) ((l2.n - (Int.toNat n15)) * 5) cs36 ∧ appS PP T_liveryref13_Thing 56 5 h33 ⟨l32.a, l32.n, l32.c⟩ (l2.n - (Int.toNat n15)) cs36 fun (l34 : Sl) (h35 : Hp) =>
 J7 [(slice l34.a l34.n l34.c)] h35) ∧
 (wth (Array.push h28 (Obj.cells #[(int .i64 n23), (string s24), (int .i64 n25), (string s26), (int .i64 n27)] T_liveryref13_Thing)) fun h39 =>
 ∃ cs48 : List Value, cellsAt h39 (slAd l2.a 0 l2.c 5) (((Int.toNat n15) - 0) * 5) cs48 ∧ appS PP T_liveryref13_Thing 56 5 h39 ⟨(some (mk h19.size 0 none)), 0, 0⟩ ((Int.toNat n15) - 0) cs48 fun (l40 : Sl) (h41 : Hp) =>
 ∃ cs47 : List Value, cellsAt h41 (some (mk h28.size 0 none)) (1 * 5) cs47 ∧ appS PP T_liveryref13_Thing 56 5 h41 ⟨l40.a, l40.n, l40.c⟩ 1 cs47 fun (l42 : Sl) (h43 : Hp) =>
 ∃ cs46 : List Value, cellsAt h43 (slAd l2.a (Int.toNat n15) l2.c 5) ((l2.n - (Int.toNat n15)) * 5) cs46 ∧ appS PP T_liveryref13_Thing 56 5 h43 ⟨l42.a, l42.n, l42.c⟩ (l2.n - (Int.toNat n15)) cs46 fun (l44 : Sl) (h45 : Hp) =>
 J7 [(slice l44.a l44.n l44.c)] h45)) ∧
 (wth (Array.push h19 (Obj.cells #[(int .i64 n23), (string s24), (int .i64 n25), (string s26), (int .i64 n27)] T_liveryref13_Thing)) fun h49 =>
 wth (Array.push h49 (Obj.cells #[] T_liveryref13_Thing)) fun h50 =>
 ∃ cs59 : List Value, cellsAt h50 (slAd l2.a 0 l2.c 5) (((Int.toNat n15) - 0) * 5) cs59 ∧ appS PP T_liveryref13_Thing 56 5 h50 ⟨(some (mk h49.size 0 none)), 0, 0⟩ ((Int.toNat n15) - 0) cs59 fun (l51 : Sl) (h52 : Hp) =>
 ∃ cs58 : List Value, cellsAt h52 (some (mk h19.size 0 none)) (1 * 5) cs58 ∧ appS PP T_liveryref13_Thing 56 5 h52 ⟨l51.a, l51.n, l51.c⟩ 1 cs58 fun (l53 : Sl) (h54 : Hp) =>
 ∃ cs57 : List Value, cellsAt h54 (slAd l2.a (Int.toNat n15) l2.c 5) ((l2.n - (Int.toNat n15)) * 5) cs57 ∧ appS PP T_liveryref13_Thing 56 5 h54 ⟨l53.a, l53.n, l53.c⟩ (l2.n - (Int.toNat n15)) cs57 fun (l55 : Sl) (h56 : Hp) =>
 J7 [(slice l55.a l55.n l55.c)] h56))))) → J17 [(bool b18)] h19) →
 (if (decide (n15 < (l2.n : Int))) = true then (nilW l2.a fun a60 => ixOk n15 l2.n (∃ n61, rd h16 (add (add a60 (Int.toNat n15 * 5)) 0) = some (int .i64 n61) ∧ ∃ s62, rd h16 (add (add a60 (Int.toNat n15 * 5)) 1) = some (string s62) ∧ ∃ n63, rd h16 (add (add a60 (Int.toNat n15 * 5)) 2) = some (int .i64 n63) ∧ ∃ s64, rd h16 (add (add a60 (Int.toNat n15 * 5)) 3) = some (string s64) ∧ ∃ n65, rd h16 (add (add a60 (Int.toNat n15 * 5)) 4) = some (int .i64 n65) ∧ nilW g0_t fun a66 => ∃ l67 : Sl, rd h16 (add a66 0) = some (slice l67.a l67.n l67.c) ∧
 nilW l67.a fun a68 => ixOk n3 l67.n (∃ n69, rd h16 (add (add (add a68 (Int.toNat n3 * 6)) 1) 0) = some (int .i64 n69) ∧ ∃ s70, rd h16 (add (add (add a68 (Int.toNat n3 * 6)) 1) 1) = some (string s70) ∧ ∃ n71, rd h16 (add (add (add a68 (Int.toNat n3 * 6)) 1) 2) = some (int .i64 n71) ∧ ∃ s72, rd h16 (add (add (add a68 (Int.toNat n3 * 6)) 1) 3) = some (string s72) ∧ ∃ n73, rd h16 (add (add (add a68 (Int.toNat n3 * 6)) 1) 4) = some (int .i64 n73) ∧ S_liveryref13_ahead n61 s62 n63 s64 n65 n69 s70 n71 s72 n73 h16 fun vs74 h75 =>
 ∃ b76, vs74 = [(bool b76)] ∧
 J17 [(bool b76)] h75))) else
 (J17 [(bool false)] h16))) → X14 [(int .i64 n15)] h16) →
 X14 [(int .i64 0)] h4)))) else
 (Q [(slice l2.a l2.n l2.c)] h4))) → X1 [(slice l2.a l2.n l2.c), (int .i64 n3)] h4) →
X1 [(slice none 0 0), (int .i64 0)] h
def A_liveryref13_Table_Of : Ann := (.mk none ⟨[], []⟩ .nil (.mk none ⟨[], []⟩ .nil (.mk none ⟨[], []⟩ (.mk none ⟨[], []⟩ .nil (.mk none ⟨[], []⟩ (.mk none ⟨[0, 1], [(5, (.c .sl)), (6, (.c (.int .i64)))]⟩ (.mk none ⟨[], []⟩ .nil (.mk none ⟨[], []⟩ (.mk (some ⟨[0, 1, 6], [(5, (.c .sl))]⟩) ⟨[], []⟩ (.mk none ⟨[], []⟩ .nil (.mk none ⟨[], []⟩ .nil (.mk none ⟨[], []⟩ (.mk none ⟨[], []⟩ (.mk none ⟨[0, 1, 5, 6], [(7, (.c (.int .i64)))]⟩ (.mk none ⟨[], []⟩ (.mk none ⟨[], []⟩ (.mk (some ⟨[0, 1, 5, 6, 7], [(45, (.c .bool))]⟩) ⟨[], []⟩ .nil .nil) .nil) .nil) .nil) .nil) .nil))) .nil) .nil)) .nil) .nil)) .nil)))
theorem E_liveryref13_Table_Of (g0_t : Option Addr) (g1_xid : Int) (h : Hp) (Q : PQ) : eW 68 Tryz.f99 A_liveryref13_Table_Of [(pointer g0_t), (int .i64 g1_xid)] h Q = F_liveryref13_Table_Of g0_t g1_xid h Q := by kernel_rfl
theorem O_liveryref13_Table_Of (g0_t : Option Addr) (g1_xid : Int) {h : Hp} {Q : PQ} (H : F_liveryref13_Table_Of g0_t g1_xid h Q) : S_liveryref13_Table_Of g0_t g1_xid h Q :=
 fo Tryz.func99 (E_liveryref13_Table_Of g0_t g1_xid h Q) H
def F_liveryref13_kind (g0_x_0 : Int) (g0_x_1 : ByteArray) (g0_x_2 : Int) (g0_x_3 : ByteArray) (g0_x_4 : Int) (h : Hp) (Q : PQ) : Prop :=
wth (Array.push h (Obj.cells #[(int .i64 g0_x_0), (string g0_x_1), (int .i64 g0_x_2), (string g0_x_3), (int .i64 g0_x_4)] T_liveryref13_Thing)) fun h1 =>
∃ n2, rd h1 (add (mk h.size 0 none) 0) = some (int .i64 n2) ∧
(if (decide (n2 ≥ 1)) = true then (∃ n3, rd h1 (add (mk h.size 0 none) 0) = some (int .i64 n3) ∧
 Q [(bool (decide (n3 ≤ (4 : Int))))] h1) else
 (Q [(bool false)] h1))
def A_liveryref13_kind : Ann := .nil
theorem E_liveryref13_kind (g0_x_0 : Int) (g0_x_1 : ByteArray) (g0_x_2 : Int) (g0_x_3 : ByteArray) (g0_x_4 : Int) (h : Hp) (Q : PQ) : eW 11 Tryz.f135 A_liveryref13_kind [(agg #[(int .i64 g0_x_0), (string g0_x_1), (int .i64 g0_x_2), (string g0_x_3), (int .i64 g0_x_4)])] h Q = F_liveryref13_kind g0_x_0 g0_x_1 g0_x_2 g0_x_3 g0_x_4 h Q := by kernel_rfl
theorem O_liveryref13_kind (g0_x_0 : Int) (g0_x_1 : ByteArray) (g0_x_2 : Int) (g0_x_3 : ByteArray) (g0_x_4 : Int) {h : Hp} {Q : PQ} (H : F_liveryref13_kind g0_x_0 g0_x_1 g0_x_2 g0_x_3 g0_x_4 h Q) : S_liveryref13_kind g0_x_0 g0_x_1 g0_x_2 g0_x_3 g0_x_4 h Q :=
 fo Tryz.func135 (E_liveryref13_kind g0_x_0 g0_x_1 g0_x_2 g0_x_3 g0_x_4 h Q) H
def F_liveryref13_fine (g0_x_0 : Int) (g0_x_1 : ByteArray) (g0_x_2 : Int) (g0_x_3 : ByteArray) (g0_x_4 : Int) (h : Hp) (Q : PQ) : Prop :=
wth (Array.push h (Obj.cells #[(int .i64 g0_x_0), (string g0_x_1), (int .i64 g0_x_2), (string g0_x_3), (int .i64 g0_x_4)] T_liveryref13_Thing)) fun h1 =>
∃ n2, rd h1 (add (mk h.size 0 none) 0) = some (int .i64 n2) ∧
(if (n2 == 3) = true then (Q [(bool true)] h1) else
 (∃ n3, rd h1 (add (mk h.size 0 none) 0) = some (int .i64 n3) ∧
 Q [(bool (n3 == 4))] h1))
def A_liveryref13_fine : Ann := .nil
theorem E_liveryref13_fine (g0_x_0 : Int) (g0_x_1 : ByteArray) (g0_x_2 : Int) (g0_x_3 : ByteArray) (g0_x_4 : Int) (h : Hp) (Q : PQ) : eW 11 Tryz.f137 A_liveryref13_fine [(agg #[(int .i64 g0_x_0), (string g0_x_1), (int .i64 g0_x_2), (string g0_x_3), (int .i64 g0_x_4)])] h Q = F_liveryref13_fine g0_x_0 g0_x_1 g0_x_2 g0_x_3 g0_x_4 h Q := by kernel_rfl
theorem O_liveryref13_fine (g0_x_0 : Int) (g0_x_1 : ByteArray) (g0_x_2 : Int) (g0_x_3 : ByteArray) (g0_x_4 : Int) {h : Hp} {Q : PQ} (H : F_liveryref13_fine g0_x_0 g0_x_1 g0_x_2 g0_x_3 g0_x_4 h Q) : S_liveryref13_fine g0_x_0 g0_x_1 g0_x_2 g0_x_3 g0_x_4 h Q :=
 fo Tryz.func137 (E_liveryref13_fine g0_x_0 g0_x_1 g0_x_2 g0_x_3 g0_x_4 h Q) H
def F_liveryref13_rel (g0_x_0 : Int) (g0_x_1 : ByteArray) (g0_x_2 : Int) (g0_x_3 : ByteArray) (g0_x_4 : Int) (h : Hp) (Q : PQ) : Prop :=
wth (Array.push h (Obj.cells #[(int .i64 g0_x_0), (string g0_x_1), (int .i64 g0_x_2), (string g0_x_3), (int .i64 g0_x_4)] T_liveryref13_Thing)) fun h1 =>
wth (Array.push h1 (Obj.cells #[(int .i64 0), (string (ByteArray.mk #[])), (int .i64 0), (string (ByteArray.mk #[])), (int .i64 0)] T_liveryref13_Thing)) fun h2 =>
∃ n3, rd h2 (add (mk h.size 0 none) 2) = some (int .i64 n3) ∧
stOk h2 (mk h1.size 0 none) 5 ∧ wth (wrs h2 (mk h1.size 0 none) 0 [(int .i64 2), (string (ByteArray.mk #[])), (int .i64 n3), (string (ByteArray.mk #[])), (int .i64 0)]) fun h4 =>
∃ n5, rd h4 (add (mk h1.size 0 none) 0) = some (int .i64 n5) ∧ ∃ s6, rd h4 (add (mk h1.size 0 none) 1) = some (string s6) ∧ ∃ n7, rd h4 (add (mk h1.size 0 none) 2) = some (int .i64 n7) ∧ ∃ s8, rd h4 (add (mk h1.size 0 none) 3) = some (string s8) ∧ ∃ n9, rd h4 (add (mk h1.size 0 none) 4) = some (int .i64 n9) ∧ Q [(agg #[(int .i64 n5), (string s6), (int .i64 n7), (string s8), (int .i64 n9)])] h4
def A_liveryref13_rel : Ann := .nil
theorem E_liveryref13_rel (g0_x_0 : Int) (g0_x_1 : ByteArray) (g0_x_2 : Int) (g0_x_3 : ByteArray) (g0_x_4 : Int) (h : Hp) (Q : PQ) : eW 6 Tryz.f138 A_liveryref13_rel [(agg #[(int .i64 g0_x_0), (string g0_x_1), (int .i64 g0_x_2), (string g0_x_3), (int .i64 g0_x_4)])] h Q = F_liveryref13_rel g0_x_0 g0_x_1 g0_x_2 g0_x_3 g0_x_4 h Q := by kernel_rfl
theorem O_liveryref13_rel (g0_x_0 : Int) (g0_x_1 : ByteArray) (g0_x_2 : Int) (g0_x_3 : ByteArray) (g0_x_4 : Int) {h : Hp} {Q : PQ} (H : F_liveryref13_rel g0_x_0 g0_x_1 g0_x_2 g0_x_3 g0_x_4 h Q) : S_liveryref13_rel g0_x_0 g0_x_1 g0_x_2 g0_x_3 g0_x_4 h Q :=
 fo Tryz.func138 (E_liveryref13_rel g0_x_0 g0_x_1 g0_x_2 g0_x_3 g0_x_4 h Q) H
def F_liveryref13_Table_Fine (g0_t : Option Addr) (h : Hp) (Q : PQ) : Prop :=
∀ X1 : PQ, (∀ n2 : Int, ∀ n3 : Int, ∀ h4 : Hp, (nilW g0_t fun a5 => ∃ l6 : Sl, rd h4 (add a5 0) = some (slice l6.a l6.n l6.c) ∧
 (if (decide (n3 < (l6.n : Int))) = true then
 (∀ J7 : PQ, (∀ n8 : Int, ∀ h9 : Hp, (X1 [(int .i64 n8), (int .i64 (IntKind.wrap .i64 (n3 + 1)))] h9) → J7 [(int .i64 n8)] h9) →
 nilW g0_t fun a10 => ∃ l11 : Sl, rd h4 (add a10 0) = some (slice l11.a l11.n l11.c) ∧
 nilW l11.a fun a12 => ixOk n3 l11.n (∃ n13, rd h4 (add (add (add a12 (Int.toNat n3 * 6)) 1) 0) = some (int .i64 n13) ∧ ∃ s14, rd h4 (add (add (add a12 (Int.toNat n3 * 6)) 1) 1) = some (string s14) ∧ ∃ n15, rd h4 (add (add (add a12 (Int.toNat n3 * 6)) 1) 2) = some (int .i64 n15) ∧ ∃ s16, rd h4 (add (add (add a12 (Int.toNat n3 * 6)) 1) 3) = some (string s16) ∧ ∃ n17, rd h4 (add (add (add a12 (Int.toNat n3 * 6)) 1) 4) = some (int .i64 n17) ∧ S_liveryref13_fine n13 s14 n15 s16 n17 h4 fun vs18 h19 =>
 ∃ b20, vs18 = [(bool b20)] ∧
 (if b20 = true then
 (J7 [(int .i64 (IntKind.wrap .i64 (n2 + 1)))] h19) else
 (J7 [(int .i64 n2)] h19)))) else
 (Q [(int .i64 n2)] h4))) → X1 [(int .i64 n2), (int .i64 n3)] h4) →
X1 [(int .i64 0), (int .i64 0)] h
def A_liveryref13_Table_Fine : Ann := (.mk none ⟨[], []⟩ .nil (.mk none ⟨[], []⟩ .nil (.mk none ⟨[], []⟩ (.mk none ⟨[], []⟩ .nil (.mk none ⟨[], []⟩ (.mk none ⟨[0], [(3, (.c (.int .i64))), (4, (.c (.int .i64)))]⟩ (.mk none ⟨[], []⟩ .nil (.mk none ⟨[], []⟩ (.mk (some ⟨[0, 4], [(3, (.c (.int .i64)))]⟩) ⟨[], []⟩ .nil .nil) .nil)) .nil) .nil)) .nil)))
theorem E_liveryref13_Table_Fine (g0_t : Option Addr) (h : Hp) (Q : PQ) : eW 26 Tryz.f146 A_liveryref13_Table_Fine [(pointer g0_t)] h Q = F_liveryref13_Table_Fine g0_t h Q := by kernel_rfl
theorem O_liveryref13_Table_Fine (g0_t : Option Addr) {h : Hp} {Q : PQ} (H : F_liveryref13_Table_Fine g0_t h Q) : S_liveryref13_Table_Fine g0_t h Q :=
 fo Tryz.func146 (E_liveryref13_Table_Fine g0_t h Q) H
def F_liveryref13_Table_Has (g0_t : Option Addr) (g1_owner : Int) (g2_x_0 : Int) (g2_x_1 : ByteArray) (g2_x_2 : Int) (g2_x_3 : ByteArray) (g2_x_4 : Int) (h : Hp) (Q : PQ) : Prop :=
wth (Array.push h (Obj.cells #[(int .i64 g2_x_0), (string g2_x_1), (int .i64 g2_x_2), (string g2_x_3), (int .i64 g2_x_4)] T_liveryref13_Thing)) fun h1 =>
∀ X2 : PQ, (∀ n3 : Int, ∀ h4 : Hp, (nilW g0_t fun a5 => ∃ l6 : Sl, rd h4 (add a5 0) = some (slice l6.a l6.n l6.c) ∧
 (if (decide (n3 < (l6.n : Int))) = true then
 (∀ J7 : PQ, (∀ b8 : Bool, ∀ h9 : Hp, ((if b8 = true then
 (Q [(bool true)] h9) else
 (X2 [(int .i64 (IntKind.wrap .i64 (n3 + 1)))] h9))) → J7 [(bool b8)] h9) →
 nilW g0_t fun a10 => ∃ l11 : Sl, rd h4 (add a10 0) = some (slice l11.a l11.n l11.c) ∧
 nilW l11.a fun a12 => ixOk n3 l11.n (∃ n13, rd h4 (add (add a12 (Int.toNat n3 * 6)) 0) = some (int .i64 n13) ∧
 (if (n13 == g1_owner) = true then (nilW g0_t fun a14 => ∃ l15 : Sl, rd h4 (add a14 0) = some (slice l15.a l15.n l15.c) ∧
 nilW l15.a fun a16 => ixOk n3 l15.n (∃ n17, rd h4 (add (add (add a16 (Int.toNat n3 * 6)) 1) 0) = some (int .i64 n17) ∧ ∃ s18, rd h4 (add (add (add a16 (Int.toNat n3 * 6)) 1) 1) = some (string s18) ∧ ∃ n19, rd h4 (add (add (add a16 (Int.toNat n3 * 6)) 1) 2) = some (int .i64 n19) ∧ ∃ s20, rd h4 (add (add (add a16 (Int.toNat n3 * 6)) 1) 3) = some (string s20) ∧ ∃ n21, rd h4 (add (add (add a16 (Int.toNat n3 * 6)) 1) 4) = some (int .i64 n21) ∧ ∃ n22, rd h4 (add (mk h.size 0 none) 0) = some (int .i64 n22) ∧ ∃ s23, rd h4 (add (mk h.size 0 none) 1) = some (string s23) ∧ ∃ n24, rd h4 (add (mk h.size 0 none) 2) = some (int .i64 n24) ∧ ∃ s25, rd h4 (add (mk h.size 0 none) 3) = some (string s25) ∧ ∃ n26, rd h4 (add (mk h.size 0 none) 4) = some (int .i64 n26) ∧ J7 [(bool (n17 == n22 && (s18 == s23 && (n19 == n24 && (s20 == s25 && (n21 == n26 && true))))))] h4)) else
 (J7 [(bool false)] h4)))) else
 (Q [(bool false)] h4))) → X2 [(int .i64 n3)] h4) →
X2 [(int .i64 0)] h1
def A_liveryref13_Table_Has : Ann := (.mk none ⟨[], []⟩ .nil (.mk none ⟨[], []⟩ (.mk none ⟨[], []⟩ .nil (.mk none ⟨[], []⟩ (.mk none ⟨[0, 1, 5], [(7, (.c (.int .i64)))]⟩ (.mk none ⟨[], []⟩ .nil (.mk none ⟨[], []⟩ (.mk none ⟨[], []⟩ (.mk none ⟨[], []⟩ (.mk (some ⟨[0, 1, 5, 7], [(38, (.c .bool))]⟩) ⟨[], []⟩ .nil .nil) .nil) .nil) .nil)) .nil) .nil)) .nil))
theorem E_liveryref13_Table_Has (g0_t : Option Addr) (g1_owner : Int) (g2_x_0 : Int) (g2_x_1 : ByteArray) (g2_x_2 : Int) (g2_x_3 : ByteArray) (g2_x_4 : Int) (h : Hp) (Q : PQ) : eW 39 Tryz.f160 A_liveryref13_Table_Has [(pointer g0_t), (int .i64 g1_owner), (agg #[(int .i64 g2_x_0), (string g2_x_1), (int .i64 g2_x_2), (string g2_x_3), (int .i64 g2_x_4)])] h Q = F_liveryref13_Table_Has g0_t g1_owner g2_x_0 g2_x_1 g2_x_2 g2_x_3 g2_x_4 h Q := by kernel_rfl
theorem O_liveryref13_Table_Has (g0_t : Option Addr) (g1_owner : Int) (g2_x_0 : Int) (g2_x_1 : ByteArray) (g2_x_2 : Int) (g2_x_3 : ByteArray) (g2_x_4 : Int) {h : Hp} {Q : PQ} (H : F_liveryref13_Table_Has g0_t g1_owner g2_x_0 g2_x_1 g2_x_2 g2_x_3 g2_x_4 h Q) : S_liveryref13_Table_Has g0_t g1_owner g2_x_0 g2_x_1 g2_x_2 g2_x_3 g2_x_4 h Q :=
 fo Tryz.func160 (E_liveryref13_Table_Has g0_t g1_owner g2_x_0 g2_x_1 g2_x_2 g2_x_3 g2_x_4 h Q) H
def F_liveryref13_Table_take (g0_t : Option Addr) (g1_owner : Int) (g2_x_0 : Int) (g2_x_1 : ByteArray) (g2_x_2 : Int) (g2_x_3 : ByteArray) (g2_x_4 : Int) (h : Hp) (Q : PQ) : Prop :=
wth (Array.push h (Obj.cells #[(int .i64 g2_x_0), (string g2_x_1), (int .i64 g2_x_2), (string g2_x_3), (int .i64 g2_x_4)] T_liveryref13_Thing)) fun h1 =>
∀ J2 : PQ, (∀ b3 : Bool, ∀ h4 : Hp, ((if b3 = true then
 (Q [] h4) else
 (∃ n5, rd h4 (add (mk h.size 0 none) 0) = some (int .i64 n5) ∧ ∃ s6, rd h4 (add (mk h.size 0 none) 1) = some (string s6) ∧ ∃ n7, rd h4 (add (mk h.size 0 none) 2) = some (int .i64 n7) ∧ ∃ s8, rd h4 (add (mk h.size 0 none) 3) = some (string s8) ∧ ∃ n9, rd h4 (add (mk h.size 0 none) 4) = some (int .i64 n9) ∧ S_liveryref13_fine n5 s6 n7 s8 n9 h4 fun vs10 h11 =>
 ∃ b12, vs10 = [(bool b12)] ∧
 ∀ J13 : PQ, (∀ h14 : Hp, (∃ n15, rd h14 (add (mk h.size 0 none) 0) = some (int .i64 n15) ∧
 ∀ J16 : PQ, (∀ h17 : Hp, (nilW g0_t fun a18 => ∃ l19 : Sl, rd h17 (add a18 0) = some (slice l19.a l19.n l19.c) ∧
 ∃ n20, rd h17 (add (mk h.size 0 none) 0) = some (int .i64 n20) ∧ ∃ s21, rd h17 (add (mk h.size 0 none) 1) = some (string s21) ∧ ∃ n22, rd h17 (add (mk h.size 0 none) 2) = some (int .i64 n22) ∧ ∃ s23, rd h17 (add (mk h.size 0 none) 3) = some (string s23) ∧ ∃ n24, rd h17 (add (mk h.size 0 none) 4) = some (int .i64 n24) ∧ (wth (Array.push h17 (Obj.cells #[] T_liveryref13_Own)) fun h25 =>
 rd h25 (add (mk h.size 0 none) 0) = some (int .i64 n20) ∧ rd h25 (add (mk h.size 0 none) 1) = some (string s21) ∧ rd h25 (add (mk h.size 0 none) 2) = some (int .i64 n22) ∧ rd h25 (add (mk h.size 0 none) 3) = some (string s23) ∧ rd h25 (add (mk h.size 0 none) 4) = some (int .i64 n24) ∧ rd h25 (add a18 0) = some (slice l19.a l19.n l19.c) ∧ (∃ cs34 : List Value, cellsAt h25 l19.a (l19.n * 6) cs34 ∧ appS PP T_liveryref13_Own 64 6 h25 ⟨(some (mk h17.size 0 none)), 0, 0⟩ l19.n cs34 fun (l26 : Sl) (h27 : Hp) =>
 rd h27 (add (mk h.size 0 none) 0) = some (int .i64 n20) ∧ rd h27 (add (mk h.size 0 none) 1) = some (string s21) ∧ rd h27 (add (mk h.size 0 none) 2) = some (int .i64 n22) ∧ rd h27 (add (mk h.size 0 none) 3) = some (string s23) ∧ rd h27 (add (mk h.size 0 none) 4) = some (int .i64 n24) ∧ wth (Array.push h27 (Obj.cells #[(int .i64 g1_owner), (int .i64 n20), (string s21), (int .i64 n22), (string s23), (int .i64 n24)] T_liveryref13_Own)) fun h28 =>
 ∃ cs33 : List Value, cellsAt h28 (some (mk h27.size 0 none)) (1 * 6) cs33 ∧ appS PP T_liveryref13_Own 64 6 h28 ⟨l26.a, l26.n, l26.c⟩ 1 cs33 fun (l29 : Sl) (h30 : Hp) =>
 nilW g0_t fun a31 => stOk h30 (add a31 0) 1 ∧ wth (wrs h30 (add a31 0) 0 [(slice l29.a l29.n l29.c)]) fun h32 =>
 Q [] h32) ∧
 (wth (Array.push h25 (Obj.cells #[(int .i64 g1_owner), (int .i64 n20), (string s21), (int .i64 n22), (string s23), (int .i64 n24)] T_liveryref13_Own)) fun h35 =>
 rd h35 (add a18 0) = some (slice l19.a l19.n l19.c) ∧ ∃ cs43 : List Value, cellsAt h35 l19.a (l19.n * 6) cs43 ∧ appS PP T_liveryref13_Own 64 6 h35 ⟨(some (mk h17.size 0 none)), 0, 0⟩ l19.n cs43 fun (l36 : Sl) (h37 : Hp) =>
 ∃ cs42 : List Value, cellsAt h37 (some (mk h25.size 0 none)) (1 * 6) cs42 ∧ appS PP T_liveryref13_Own 64 6 h37 ⟨l36.a, l36.n, l36.c⟩ 1 cs42 fun (l38 : Sl) (h39 : Hp) =>
 nilW g0_t fun a40 => stOk h39 (add a40 0) 1 ∧ wth (wrs h39 (add a40 0) 0 [(slice l38.a l38.n l38.c)]) fun h41 =>
 Q [] h41)) ∧
 (wth (Array.push h17 (Obj.cells #[(int .i64 g1_owner), (int .i64 n20), (string s21), (int .i64 n22), (string s23), (int .i64 n24)] T_liveryref13_Own)) fun h44 =>
 rd h44 (add a18 0) = some (slice l19.a l19.n l19.c) ∧ wth (Array.push h44 (Obj.cells #[] T_liveryref13_Own)) fun h45 =>
 rd h45 (add a18 0) = some (slice l19.a l19.n l19.c) ∧ ∃ cs53 : List Value, cellsAt h45 l19.a (l19.n * 6) cs53 ∧ appS PP T_liveryref13_Own 64 6 h45 ⟨(some (mk h44.size 0 none)), 0, 0⟩ l19.n cs53 fun (l46 : Sl) (h47 : Hp) =>
 ∃ cs52 : List Value, cellsAt h47 (some (mk h17.size 0 none)) (1 * 6) cs52 ∧ appS PP T_liveryref13_Own 64 6 h47 ⟨l46.a, l46.n, l46.c⟩ 1 cs52 fun (l48 : Sl) (h49 : Hp) =>
 nilW g0_t fun a50 => stOk h49 (add a50 0) 1 ∧ wth (wrs h49 (add a50 0) 0 [(slice l48.a l48.n l48.c)]) fun h51 =>
 Q [] h51)) → J16 [] h17) →
 (if (n15 == 2) = true then
 (∀ X54 : PQ, (∀ l55 : Sl, ∀ n56 : Int, ∀ h57 : Hp, (nilW g0_t fun a58 => ∃ l59 : Sl, rd h57 (add a58 0) = some (slice l59.a l59.n l59.c) ∧
 (if (decide (n56 < (l59.n : Int))) = true then
 (∀ J60 : PQ, (∀ l61 : Sl, ∀ h62 : Hp, (X54 [(slice l61.a l61.n l61.c), (int .i64 (IntKind.wrap .i64 (n56 + 1)))] h62) → J60 [(slice l61.a l61.n l61.c)] h62) →
 ∀ J63 : PQ, (∀ b64 : Bool, ∀ h65 : Hp, ((if b64 = true then
 (nilW g0_t fun a66 => ∃ l67 : Sl, rd h65 (add a66 0) = some (slice l67.a l67.n l67.c) ∧
 nilW l67.a fun a68 => ixOk n56 l67.n (∃ n69, rd h65 (add (add a68 (Int.toNat n56 * 6)) 0) = some (int .i64 n69) ∧ ∃ n70, rd h65 (add (add a68 (Int.toNat n56 * 6)) 1) = some (int .i64 n70) ∧ ∃ s71, rd h65 (add (add a68 (Int.toNat n56 * 6)) 2) = some (string s71) ∧ ∃ n72, rd h65 (add (add a68 (Int.toNat n56 * 6)) 3) = some (int .i64 n72) ∧ ∃ s73, rd h65 (add (add a68 (Int.toNat n56 * 6)) 4) = some (string s73) ∧ ∃ n74, rd h65 (add (add a68 (Int.toNat n56 * 6)) 5) = some (int .i64 n74) ∧ wth (Array.push h65 (Obj.cells #[(int .i64 n69), (int .i64 n70), (string s71), (int .i64 n72), (string s73), (int .i64 n74)] T_liveryref13_Own)) fun h75 =>
 ∃ cs78 : List Value, cellsAt h75 (some (mk h65.size 0 none)) (1 * 6) cs78 ∧ appS PP T_liveryref13_Own 64 6 h75 ⟨l55.a, l55.n, l55.c⟩ 1 cs78 fun (l76 : Sl) (h77 : Hp) =>
 J60 [(slice l76.a l76.n l76.c)] h77)) else
 (J60 [(slice l55.a l55.n l55.c)] h65))) → J63 [(bool b64)] h65) →
 nilW g0_t fun a79 => ∃ l80 : Sl, rd h57 (add a79 0) = some (slice l80.a l80.n l80.c) ∧
 nilW l80.a fun a81 => ixOk n56 l80.n (∃ n82, rd h57 (add (add a81 (Int.toNat n56 * 6)) 0) = some (int .i64 n82) ∧
 (if (n82 != g1_owner) = true then (J63 [(bool true)] h57) else
 (nilW g0_t fun a83 => ∃ l84 : Sl, rd h57 (add a83 0) = some (slice l84.a l84.n l84.c) ∧
 nilW l84.a fun a85 => ixOk n56 l84.n (∃ n86, rd h57 (add (add (add a85 (Int.toNat n56 * 6)) 1) 0) = some (int .i64 n86) ∧ ∃ s87, rd h57 (add (add (add a85 (Int.toNat n56 * 6)) 1) 1) = some (string s87) ∧ ∃ n88, rd h57 (add (add (add a85 (Int.toNat n56 * 6)) 1) 2) = some (int .i64 n88) ∧ ∃ s89, rd h57 (add (add (add a85 (Int.toNat n56 * 6)) 1) 3) = some (string s89) ∧ ∃ n90, rd h57 (add (add (add a85 (Int.toNat n56 * 6)) 1) 4) = some (int .i64 n90) ∧ S_liveryref13_fine n86 s87 n88 s89 n90 h57 fun vs91 h92 =>
 ∃ b93, vs91 = [(bool b93)] ∧
 (if (!b93) = true then (J63 [(bool true)] h92) else
 (nilW g0_t fun a94 => ∃ l95 : Sl, rd h92 (add a94 0) = some (slice l95.a l95.n l95.c) ∧
 nilW l95.a fun a96 => ixOk n56 l95.n (∃ n97, rd h92 (add (add (add a96 (Int.toNat n56 * 6)) 1) 2) = some (int .i64 n97) ∧
 ∃ n98, rd h92 (add (mk h.size 0 none) 2) = some (int .i64 n98) ∧
 J63 [(bool (n97 != n98))] h92)))))))) else
 (nilW g0_t fun a99 => stOk h57 (add a99 0) 1 ∧ wth (wrs h57 (add a99 0) 0 [(slice l55.a l55.n l55.c)]) fun h100 =>
 J16 [] h100))) → X54 [(slice l55.a l55.n l55.c), (int .i64 n56)] h57) →
 X54 [(slice none 0 0), (int .i64 0)] h14) else
 (J16 [] h14))) → J13 [] h14) →
 (if b12 = true then
 (∀ X101 : PQ, (∀ n102 : Int, ∀ n103 : Int, ∀ h104 : Hp, (nilW g0_t fun a105 => ∃ l106 : Sl, rd h104 (add a105 0) = some (slice l106.a l106.n l106.c) ∧
 (if (decide (n103 < (l106.n : Int))) = true then
 (∀ J107 : PQ, (∀ n108 : Int, ∀ h109 : Hp, (X101 [(int .i64 n108), (int .i64 (IntKind.wrap .i64 (n103 + 1)))] h109) → J107 [(int .i64 n108)] h109) →
 ∀ J110 : PQ, (∀ b111 : Bool, ∀ h112 : Hp, ((if b111 = true then
 (J107 [(int .i64 (IntKind.wrap .i64 (n102 + 1)))] h112) else
 (J107 [(int .i64 n102)] h112))) → J110 [(bool b111)] h112) →
 nilW g0_t fun a113 => ∃ l114 : Sl, rd h104 (add a113 0) = some (slice l114.a l114.n l114.c) ∧
 nilW l114.a fun a115 => ixOk n103 l114.n (∃ n116, rd h104 (add (add a115 (Int.toNat n103 * 6)) 0) = some (int .i64 n116) ∧
 (if (n116 == g1_owner) = true then (nilW g0_t fun a117 => ∃ l118 : Sl, rd h104 (add a117 0) = some (slice l118.a l118.n l118.c) ∧
 nilW l118.a fun a119 => ixOk n103 l118.n (∃ n120, rd h104 (add (add (add a119 (Int.toNat n103 * 6)) 1) 0) = some (int .i64 n120) ∧ ∃ s121, rd h104 (add (add (add a119 (Int.toNat n103 * 6)) 1) 1) = some (string s121) ∧ ∃ n122, rd h104 (add (add (add a119 (Int.toNat n103 * 6)) 1) 2) = some (int .i64 n122) ∧ ∃ s123, rd h104 (add (add (add a119 (Int.toNat n103 * 6)) 1) 3) = some (string s123) ∧ ∃ n124, rd h104 (add (add (add a119 (Int.toNat n103 * 6)) 1) 4) = some (int .i64 n124) ∧ S_liveryref13_fine n120 s121 n122 s123 n124 h104 fun vs125 h126 =>
 ∃ b127, vs125 = [(bool b127)] ∧
 (if b127 = true then (nilW g0_t fun a128 => ∃ l129 : Sl, rd h126 (add a128 0) = some (slice l129.a l129.n l129.c) ∧
 nilW l129.a fun a130 => ixOk n103 l129.n (∃ n131, rd h126 (add (add (add a130 (Int.toNat n103 * 6)) 1) 2) = some (int .i64 n131) ∧
 ∃ n132, rd h126 (add (mk h.size 0 none) 2) = some (int .i64 n132) ∧
 J110 [(bool (n131 == n132))] h126)) else
 (J110 [(bool false)] h126)))) else
 (J110 [(bool false)] h104)))) else
 (∀ J133 : PQ, (∀ b134 : Bool, ∀ h135 : Hp, ((if b134 = true then
 (∀ J136 : PQ, (∀ h137 : Hp, (Q [] h137) → J136 [] h137) →
 nilW g0_t fun a138 => ∃ l139 : Sl, rd h135 (add a138 0) = some (slice l139.a l139.n l139.c) ∧
 ∃ n140, rd h135 (add (mk h.size 0 none) 0) = some (int .i64 n140) ∧ ∃ s141, rd h135 (add (mk h.size 0 none) 1) = some (string s141) ∧ ∃ n142, rd h135 (add (mk h.size 0 none) 2) = some (int .i64 n142) ∧ ∃ s143, rd h135 (add (mk h.size 0 none) 3) = some (string s143) ∧ ∃ n144, rd h135 (add (mk h.size 0 none) 4) = some (int .i64 n144) ∧ (wth (Array.push h135 (Obj.cells #[] T_liveryref13_Own)) fun h145 =>
 rd h145 (add (mk h.size 0 none) 0) = some (int .i64 n140) ∧ rd h145 (add (mk h.size 0 none) 1) = some (string s141) ∧ rd h145 (add (mk h.size 0 none) 2) = some (int .i64 n142) ∧ rd h145 (add (mk h.size 0 none) 3) = some (string s143) ∧ rd h145 (add (mk h.size 0 none) 4) = some (int .i64 n144) ∧ rd h145 (add a138 0) = some (slice l139.a l139.n l139.c) ∧ (∃ cs154 : List Value, cellsAt h145 l139.a (l139.n * 6) cs154 ∧ appS PP T_liveryref13_Own 64 6 h145 ⟨(some (mk h135.size 0 none)), 0, 0⟩ l139.n cs154 fun (l146 : Sl) (h147 : Hp) =>
 rd h147 (add (mk h.size 0 none) 0) = some (int .i64 n140) ∧ rd h147 (add (mk h.size 0 none) 1) = some (string s141) ∧ rd h147 (add (mk h.size 0 none) 2) = some (int .i64 n142) ∧ rd h147 (add (mk h.size 0 none) 3) = some (string s143) ∧ rd h147 (add (mk h.size 0 none) 4) = some (int .i64 n144) ∧ wth (Array.push h147 (Obj.cells #[(int .i64 g1_owner), (int .i64 n140), (string s141), (int .i64 n142), (string s143), (int .i64 n144)] T_liveryref13_Own)) fun h148 =>
 ∃ cs153 : List Value, cellsAt h148 (some (mk h147.size 0 none)) (1 * 6) cs153 ∧ appS PP T_liveryref13_Own 64 6 h148 ⟨l146.a, l146.n, l146.c⟩ 1 cs153 fun (l149 : Sl) (h150 : Hp) =>
 nilW g0_t fun a151 => stOk h150 (add a151 0) 1 ∧ wth (wrs h150 (add a151 0) 0 [(slice l149.a l149.n l149.c)]) fun h152 =>
 J136 [] h152) ∧
 (wth (Array.push h145 (Obj.cells #[(int .i64 g1_owner), (int .i64 n140), (string s141), (int .i64 n142), (string s143), (int .i64 n144)] T_liveryref13_Own)) fun h155 =>
 rd h155 (add a138 0) = some (slice l139.a l139.n l139.c) ∧ ∃ cs163 : List Value, cellsAt h155 l139.a (l139.n * 6) cs163 ∧ appS PP T_liveryref13_Own 64 6 h155 ⟨(some (mk h135.size 0 none)), 0, 0⟩ l139.n cs163 fun (l156 : Sl) (h157 : Hp) =>
 ∃ cs162 : List Value, cellsAt h157 (some (mk h145.size 0 none)) (1 * 6) cs162 ∧ appS PP T_liveryref13_Own 64 6 h157 ⟨l156.a, l156.n, l156.c⟩ 1 cs162 fun (l158 : Sl) (h159 : Hp) =>
 nilW g0_t fun a160 => stOk h159 (add a160 0) 1 ∧ wth (wrs h159 (add a160 0) 0 [(slice l158.a l158.n l158.c)]) fun h161 =>
 J136 [] h161)) ∧
 (wth (Array.push h135 (Obj.cells #[(int .i64 g1_owner), (int .i64 n140), (string s141), (int .i64 n142), (string s143), (int .i64 n144)] T_liveryref13_Own)) fun h164 =>
 rd h164 (add a138 0) = some (slice l139.a l139.n l139.c) ∧ wth (Array.push h164 (Obj.cells #[] T_liveryref13_Own)) fun h165 =>
 rd h165 (add a138 0) = some (slice l139.a l139.n l139.c) ∧ ∃ cs173 : List Value, cellsAt h165 l139.a (l139.n * 6) cs173 ∧ appS PP T_liveryref13_Own 64 6 h165 ⟨(some (mk h164.size 0 none)), 0, 0⟩ l139.n cs173 fun (l166 : Sl) (h167 : Hp) =>
 ∃ cs172 : List Value, cellsAt h167 (some (mk h135.size 0 none)) (1 * 6) cs172 ∧ appS PP T_liveryref13_Own 64 6 h167 ⟨l166.a, l166.n, l166.c⟩ 1 cs172 fun (l168 : Sl) (h169 : Hp) =>
 nilW g0_t fun a170 => stOk h169 (add a170 0) 1 ∧ wth (wrs h169 (add a170 0) 0 [(slice l168.a l168.n l168.c)]) fun h171 =>
 J136 [] h171)) else
 (∃ n174, rd h135 (add (mk h.size 0 none) 0) = some (int .i64 n174) ∧ ∃ s175, rd h135 (add (mk h.size 0 none) 1) = some (string s175) ∧ ∃ n176, rd h135 (add (mk h.size 0 none) 2) = some (int .i64 n176) ∧ ∃ s177, rd h135 (add (mk h.size 0 none) 3) = some (string s177) ∧ ∃ n178, rd h135 (add (mk h.size 0 none) 4) = some (int .i64 n178) ∧ S_liveryref13_rel n174 s175 n176 s177 n178 h135 fun vs179 h180 =>
 ∃ n181, ∃ s182, ∃ n183, ∃ s184, ∃ n185, vs179 = [(agg #[(int .i64 n181), (string s182), (int .i64 n183), (string s184), (int .i64 n185)])] ∧
 stOk h180 (mk h.size 0 none) 5 ∧ wth (wrs h180 (mk h.size 0 none) 0 [(int .i64 n181), (string s182), (int .i64 n183), (string s184), (int .i64 n185)]) fun h186 =>
 J13 [] h186))) → J133 [(bool b134)] h135) →
 nilW g0_t fun a187 => ∃ n188, rd h104 (add a187 1) = some (int .i64 n188) ∧
 (if (decide (n102 < n188)) = true then (nilW g0_t fun a189 => ∃ n190, rd h104 (add a189 2) = some (int .i64 n190) ∧
 S_liveryref13_Table_Fine g0_t h104 fun vs191 h192 =>
 ∃ n193, vs191 = [(int .i64 n193)] ∧
 rd h192 (add a189 2) = some (int .i64 n190) ∧ J133 [(bool (decide (n193 < n190)))] h192) else
 (J133 [(bool false)] h104))))) → X101 [(int .i64 n102), (int .i64 n103)] h104) →
 X101 [(int .i64 0), (int .i64 0)] h11) else
 (J13 [] h11))))) → J2 [(bool b3)] h4) →
∃ n194, rd h1 (add (mk h.size 0 none) 0) = some (int .i64 n194) ∧ ∃ s195, rd h1 (add (mk h.size 0 none) 1) = some (string s195) ∧ ∃ n196, rd h1 (add (mk h.size 0 none) 2) = some (int .i64 n196) ∧ ∃ s197, rd h1 (add (mk h.size 0 none) 3) = some (string s197) ∧ ∃ n198, rd h1 (add (mk h.size 0 none) 4) = some (int .i64 n198) ∧ S_liveryref13_kind n194 s195 n196 s197 n198 h1 fun vs199 h200 =>
∃ b201, vs199 = [(bool b201)] ∧
(if (!b201) = true then (J2 [(bool true)] h200) else
 (∃ n202, rd h200 (add (mk h.size 0 none) 0) = some (int .i64 n202) ∧ ∃ s203, rd h200 (add (mk h.size 0 none) 1) = some (string s203) ∧ ∃ n204, rd h200 (add (mk h.size 0 none) 2) = some (int .i64 n204) ∧ ∃ s205, rd h200 (add (mk h.size 0 none) 3) = some (string s205) ∧ ∃ n206, rd h200 (add (mk h.size 0 none) 4) = some (int .i64 n206) ∧ S_liveryref13_Table_Has g0_t g1_owner n202 s203 n204 s205 n206 h200 fun vs207 h208 =>
 ∃ b209, vs207 = [(bool b209)] ∧
 (if b209 = true then (J2 [(bool true)] h208) else
 (∃ n210, rd h208 (add (mk h.size 0 none) 0) = some (int .i64 n210) ∧ ∃ s211, rd h208 (add (mk h.size 0 none) 1) = some (string s211) ∧ ∃ n212, rd h208 (add (mk h.size 0 none) 2) = some (int .i64 n212) ∧ ∃ s213, rd h208 (add (mk h.size 0 none) 3) = some (string s213) ∧ ∃ n214, rd h208 (add (mk h.size 0 none) 4) = some (int .i64 n214) ∧ S_liveryref13_fine n210 s211 n212 s213 n214 h208 fun vs215 h216 =>
 ∃ b217, vs215 = [(bool b217)] ∧
 (if b217 = true then (∃ n218, rd h216 (add (mk h.size 0 none) 0) = some (int .i64 n218) ∧ ∃ s219, rd h216 (add (mk h.size 0 none) 1) = some (string s219) ∧ ∃ n220, rd h216 (add (mk h.size 0 none) 2) = some (int .i64 n220) ∧ ∃ s221, rd h216 (add (mk h.size 0 none) 3) = some (string s221) ∧ ∃ n222, rd h216 (add (mk h.size 0 none) 4) = some (int .i64 n222) ∧ S_liveryref13_rel n218 s219 n220 s221 n222 h216 fun vs223 h224 =>
 ∃ n225, ∃ s226, ∃ n227, ∃ s228, ∃ n229, vs223 = [(agg #[(int .i64 n225), (string s226), (int .i64 n227), (string s228), (int .i64 n229)])] ∧
 S_liveryref13_Table_Has g0_t g1_owner n225 s226 n227 s228 n229 h224 fun vs230 h231 =>
 ∃ b232, vs230 = [(bool b232)] ∧
 J2 [(bool b232)] h231) else
 (J2 [(bool false)] h216))))))
def A_liveryref13_Table_take : Ann := (.mk none ⟨[], []⟩ .nil (.mk none ⟨[], []⟩ (.mk none ⟨[], []⟩ (.mk (some ⟨[0, 1, 5], [(29, (.c .bool))]⟩) ⟨[], []⟩ .nil .nil) .nil) (.mk none ⟨[], []⟩ (.mk none ⟨[], []⟩ .nil (.mk (some ⟨[0, 1, 5], []⟩) ⟨[], []⟩ (.mk none ⟨[], []⟩ .nil (.mk none ⟨[], []⟩ (.mk none ⟨[], []⟩ .nil (.mk none ⟨[], []⟩ (.mk none ⟨[0, 1, 5], [(6, (.c (.int .i64))), (7, (.c (.int .i64)))]⟩ (.mk none ⟨[], []⟩ .nil (.mk none ⟨[], []⟩ (.mk (some ⟨[0, 1, 5, 7], [(6, (.c (.int .i64)))]⟩) ⟨[], []⟩ (.mk none ⟨[], []⟩ (.mk (some ⟨[0, 1, 5, 6, 7], [(75, (.c .bool))]⟩) ⟨[], []⟩ .nil .nil) .nil) .nil) .nil)) .nil) .nil)) (.mk none ⟨[], []⟩ (.mk none ⟨[], []⟩ (.mk (some ⟨[0, 1, 5], [(92, (.c .bool))]⟩) ⟨[], []⟩ .nil .nil) (.mk none ⟨[], []⟩ (.mk none ⟨[], []⟩ (.mk (some ⟨[], []⟩) ⟨[], []⟩ .nil .nil) .nil) .nil)) .nil))) .nil)) (.mk none ⟨[], []⟩ (.mk none ⟨[], []⟩ .nil (.mk (some ⟨[0, 1, 5], []⟩) ⟨[], []⟩ (.mk none ⟨[], []⟩ .nil (.mk none ⟨[], []⟩ (.mk none ⟨[], []⟩ .nil (.mk none ⟨[], []⟩ (.mk none ⟨[0, 1, 5], [(8, (.c .sl)), (9, (.c (.int .i64)))]⟩ (.mk none ⟨[], []⟩ .nil (.mk none ⟨[], []⟩ (.mk (some ⟨[0, 1, 5, 9], [(8, (.c .sl))]⟩) ⟨[], []⟩ (.mk none ⟨[], []⟩ (.mk (some ⟨[0, 1, 5, 8, 9], [(156, (.c .bool))]⟩) ⟨[], []⟩ .nil .nil) .nil) .nil) .nil)) .nil) .nil)) .nil)) .nil)) .nil))))
theorem E_liveryref13_Table_take (g0_t : Option Addr) (g1_owner : Int) (g2_x_0 : Int) (g2_x_1 : ByteArray) (g2_x_2 : Int) (g2_x_3 : ByteArray) (g2_x_4 : Int) (h : Hp) (Q : PQ) : eW 185 Tryz.f136 A_liveryref13_Table_take [(pointer g0_t), (int .i64 g1_owner), (agg #[(int .i64 g2_x_0), (string g2_x_1), (int .i64 g2_x_2), (string g2_x_3), (int .i64 g2_x_4)])] h Q = F_liveryref13_Table_take g0_t g1_owner g2_x_0 g2_x_1 g2_x_2 g2_x_3 g2_x_4 h Q := by kernel_rfl
theorem O_liveryref13_Table_take (g0_t : Option Addr) (g1_owner : Int) (g2_x_0 : Int) (g2_x_1 : ByteArray) (g2_x_2 : Int) (g2_x_3 : ByteArray) (g2_x_4 : Int) {h : Hp} {Q : PQ} (H : F_liveryref13_Table_take g0_t g1_owner g2_x_0 g2_x_1 g2_x_2 g2_x_3 g2_x_4 h Q) : S_liveryref13_Table_take g0_t g1_owner g2_x_0 g2_x_1 g2_x_2 g2_x_3 g2_x_4 h Q :=
 fo Tryz.func136 (E_liveryref13_Table_take g0_t g1_owner g2_x_0 g2_x_1 g2_x_2 g2_x_3 g2_x_4 h Q) H
def F_liveryref13_Table_Fold (g0_t : Option Addr) (g1_xid : Int) (g2_csn : Int) (h : Hp) (Q : PQ) : Prop :=
∀ J1 : PQ, (∀ b2 : Bool, ∀ h3 : Hp, ((if b2 = true then
 (Q [] h3) else
 (S_liveryref13_Table_Of g0_t g1_xid h3 fun vs4 h5 =>
 ∃ l6 : Sl, vs4 = [(slice l6.a l6.n l6.c)] ∧
 S_liveryref13_Table_Drop g0_t g1_xid h5 fun vs7 h8 =>
 vs7 = [] ∧
 ∀ X9 : PQ, (∀ n10 : Int, ∀ h11 : Hp, ((if (decide (n10 < (l6.n : Int))) = true then
 (nilW l6.a fun a12 => ixOk n10 l6.n (∃ n13, rd h11 (add (add a12 (Int.toNat n10 * 5)) 0) = some (int .i64 n13) ∧ ∃ s14, rd h11 (add (add a12 (Int.toNat n10 * 5)) 1) = some (string s14) ∧ ∃ n15, rd h11 (add (add a12 (Int.toNat n10 * 5)) 2) = some (int .i64 n15) ∧ ∃ s16, rd h11 (add (add a12 (Int.toNat n10 * 5)) 3) = some (string s16) ∧ ∃ n17, rd h11 (add (add a12 (Int.toNat n10 * 5)) 4) = some (int .i64 n17) ∧ S_liveryref13_Table_take g0_t 0 n13 s14 n15 s16 n17 h11 fun vs18 h19 =>
 vs18 = [] ∧
 X9 [(int .i64 (IntKind.wrap .i64 (n10 + 1)))] h19)) else
 (nilW g0_t fun a20 => ∃ n21, rd h11 (add a20 3) = some (int .i64 n21) ∧
 nilW g0_t fun a22 => stOk h11 (add a22 3) 1 ∧ wth (wrs h11 (add a22 3) 0 [(int .i64 (mxI n21 g2_csn))]) fun h23 =>
 Q [] h23))) → X9 [(int .i64 n10)] h11) →
 X9 [(int .i64 0)] h8))) → J1 [(bool b2)] h3) →
(if (decide (g1_xid < (1 : Int))) = true then (J1 [(bool true)] h) else
 (J1 [(bool (decide (g1_xid > 200)))] h))
def A_liveryref13_Table_Fold : Ann := (.mk none ⟨[], []⟩ (.mk none ⟨[], []⟩ (.mk (some ⟨[0, 1, 2], [(13, (.c .bool))]⟩) ⟨[], []⟩ .nil .nil) .nil) (.mk none ⟨[], []⟩ .nil (.mk none ⟨[], []⟩ .nil (.mk none ⟨[], []⟩ (.mk none ⟨[], []⟩ .nil (.mk none ⟨[], []⟩ (.mk none ⟨[0, 2, 6], [(7, (.c (.int .i64)))]⟩ .nil .nil) .nil)) .nil))))
theorem E_liveryref13_Table_Fold (g0_t : Option Addr) (g1_xid : Int) (g2_csn : Int) (h : Hp) (Q : PQ) : eW 41 Tryz.f134 A_liveryref13_Table_Fold [(pointer g0_t), (int .i64 g1_xid), (int .i64 g2_csn)] h Q = F_liveryref13_Table_Fold g0_t g1_xid g2_csn h Q := by kernel_rfl
theorem O_liveryref13_Table_Fold (g0_t : Option Addr) (g1_xid : Int) (g2_csn : Int) {h : Hp} {Q : PQ} (H : F_liveryref13_Table_Fold g0_t g1_xid g2_csn h Q) : S_liveryref13_Table_Fold g0_t g1_xid g2_csn h Q :=
 fo Tryz.func134 (E_liveryref13_Table_Fold g0_t g1_xid g2_csn h Q) H
def F_liveryref15_Ssi_clean (g0_s : Option Addr) (h : Hp) (Q : PQ) : Prop :=
nilW g0_s fun a1 => ∃ p2, rd h (add a1 0) = some (pointer p2) ∧
S_liveryref08_Log_Running p2 h fun vs3 h4 =>
∃ l5 : Sl, vs3 = [(slice l5.a l5.n l5.c)] ∧
∀ X6 : PQ, (∀ l7 : Sl, ∀ n8 : Int, ∀ h9 : Hp, (nilW g0_s fun a10 => ∃ l11 : Sl, rd h9 (add a10 5) = some (slice l11.a l11.n l11.c) ∧
 (if (decide (n8 < (l11.n : Int))) = true then
 (∀ J12 : PQ, (∀ l13 : Sl, ∀ h14 : Hp, (X6 [(slice l13.a l13.n l13.c), (int .i64 (IntKind.wrap .i64 (n8 + 1)))] h14) → J12 [(slice l13.a l13.n l13.c)] h14) →
 ∀ X15 : PQ, (∀ b16 : Bool, ∀ n17 : Int, ∀ h18 : Hp, ((if (decide (n17 < (l5.n : Int))) = true then
 (∀ J19 : PQ, (∀ b20 : Bool, ∀ h21 : Hp, (X15 [(bool b20), (int .i64 (IntKind.wrap .i64 (n17 + 1)))] h21) → J19 [(bool b20)] h21) →
 (if b16 = true then (J19 [(bool true)] h18) else
 (nilW g0_s fun a22 => ∃ p23, rd h18 (add a22 0) = some (pointer p23) ∧
 nilW l5.a fun a24 => ixOk n17 l5.n (∃ n25, rd h18 (add a24 (Int.toNat n17 * 1)) = some (int .i64 n25) ∧
 nilW g0_s fun a26 => ∃ p27, rd h18 (add a26 0) = some (pointer p27) ∧
 nilW g0_s fun a28 => ∃ l29 : Sl, rd h18 (add a28 5) = some (slice l29.a l29.n l29.c) ∧
 nilW l29.a fun a30 => ixOk n8 l29.n (∃ n31, rd h18 (add a30 (Int.toNat n8 * 1)) = some (int .i64 n31) ∧
 S_liveryref08_Log_Get p23 n25 h18 fun vs32 h33 =>
 ∃ n34, ∃ n35, ∃ n36, ∃ b37, vs32 = [(agg #[(int .i64 n34), (int .i64 n35), (int .i64 n36), (bool b37)])] ∧
 rd h33 (add a30 (Int.toNat n8 * 1)) = some (int .i64 n31) ∧ rd h33 (add a28 5) = some (slice l29.a l29.n l29.c) ∧ rd h33 (add a26 0) = some (pointer p27) ∧ S_liveryref08_Log_Get p27 n31 h33 fun vs38 h39 =>
 ∃ n40, ∃ n41, ∃ n42, ∃ b43, vs38 = [(agg #[(int .i64 n40), (int .i64 n41), (int .i64 n42), (bool b43)])] ∧
 J19 [(bool (decide (n35 < n42)))] h39))))) else
 ((if b16 = true then
 (nilW g0_s fun a44 => ∃ l45 : Sl, rd h18 (add a44 5) = some (slice l45.a l45.n l45.c) ∧
 nilW l45.a fun a46 => ixOk n8 l45.n (∃ n47, rd h18 (add a46 (Int.toNat n8 * 1)) = some (int .i64 n47) ∧
 wth (Array.push h18 (Obj.cells #[(int .i64 n47)] T_int)) fun h48 =>
 ∃ cs51 : List Value, cellsAt h48 (some (mk h18.size 0 none)) (1 * 1) cs51 ∧ appS PP T_int 8 1 h48 ⟨l7.a, l7.n, l7.c⟩ 1 cs51 fun (l49 : Sl) (h50 : Hp) =>
 J12 [(slice l49.a l49.n l49.c)] h50)) else
 (nilW g0_s fun a52 => ∃ p53, rd h18 (add a52 1) = some (pointer p53) ∧
 nilW g0_s fun a54 => ∃ l55 : Sl, rd h18 (add a54 5) = some (slice l55.a l55.n l55.c) ∧
 nilW l55.a fun a56 => ixOk n8 l55.n (∃ n57, rd h18 (add a56 (Int.toNat n8 * 1)) = some (int .i64 n57) ∧
 S_liveryref13_Table_Drop p53 n57 h18 fun vs58 h59 =>
 vs58 = [] ∧
 J12 [(slice l7.a l7.n l7.c)] h59)))))) → X15 [(bool b16), (int .i64 n17)] h18) →
 X15 [(bool false), (int .i64 0)] h9) else
 (nilW g0_s fun a60 => stOk h9 (add a60 5) 1 ∧ wth (wrs h9 (add a60 5) 0 [(slice l7.a l7.n l7.c)]) fun h61 =>
 ∀ X62 : PQ, (∀ h63 : Hp, (nilW g0_s fun a64 => ∃ l65 : Sl, rd h63 (add a64 5) = some (slice l65.a l65.n l65.c) ∧
 nilW g0_s fun a66 => ∃ n67, rd h63 (add a66 6) = some (int .i64 n67) ∧
 (if (decide ((l65.n : Int) > n67)) = true then
 (∀ X68 : PQ, (∀ n69 : Int, ∀ n70 : Int, ∀ h71 : Hp, (nilW g0_s fun a72 => ∃ l73 : Sl, rd h71 (add a72 5) = some (slice l73.a l73.n l73.c) ∧
 (if (decide (n70 < (l73.n : Int))) = true then
 (∀ J74 : PQ, (∀ n75 : Int, ∀ h76 : Hp, (X68 [(int .i64 n75), (int .i64 (IntKind.wrap .i64 (n70 + 1)))] h76) → J74 [(int .i64 n75)] h76) →
 nilW g0_s fun a77 => ∃ p78, rd h71 (add a77 0) = some (pointer p78) ∧
 nilW g0_s fun a79 => ∃ l80 : Sl, rd h71 (add a79 5) = some (slice l80.a l80.n l80.c) ∧
 nilW l80.a fun a81 => ixOk n70 l80.n (∃ n82, rd h71 (add a81 (Int.toNat n70 * 1)) = some (int .i64 n82) ∧
 nilW g0_s fun a83 => ∃ p84, rd h71 (add a83 0) = some (pointer p84) ∧
 nilW g0_s fun a85 => ∃ l86 : Sl, rd h71 (add a85 5) = some (slice l86.a l86.n l86.c) ∧
 nilW l86.a fun a87 => ixOk n69 l86.n (∃ n88, rd h71 (add a87 (Int.toNat n69 * 1)) = some (int .i64 n88) ∧
 S_liveryref08_Log_Get p78 n82 h71 fun vs89 h90 =>
 ∃ n91, ∃ n92, ∃ n93, ∃ b94, vs89 = [(agg #[(int .i64 n91), (int .i64 n92), (int .i64 n93), (bool b94)])] ∧
 rd h90 (add a87 (Int.toNat n69 * 1)) = some (int .i64 n88) ∧ rd h90 (add a85 5) = some (slice l86.a l86.n l86.c) ∧ rd h90 (add a83 0) = some (pointer p84) ∧ S_liveryref08_Log_Get p84 n88 h90 fun vs95 h96 =>
 ∃ n97, ∃ n98, ∃ n99, ∃ b100, vs95 = [(agg #[(int .i64 n97), (int .i64 n98), (int .i64 n99), (bool b100)])] ∧
 (if (decide (n93 < n99)) = true then
 (J74 [(int .i64 n70)] h96) else
 (J74 [(int .i64 n69)] h96))))) else
 (nilW g0_s fun a101 => ∃ l102 : Sl, rd h71 (add a101 5) = some (slice l102.a l102.n l102.c) ∧
 nilW l102.a fun a103 => ixOk n69 l102.n (∃ n104, rd h71 (add a103 (Int.toNat n69 * 1)) = some (int .i64 n104) ∧
 nilW g0_s fun a105 => ∃ p106, rd h71 (add a105 1) = some (pointer p106) ∧
 nilW g0_s fun a107 => ∃ p108, rd h71 (add a107 0) = some (pointer p108) ∧
 S_liveryref08_Log_Get p108 n104 h71 fun vs109 h110 =>
 ∃ n111, ∃ n112, ∃ n113, ∃ b114, vs109 = [(agg #[(int .i64 n111), (int .i64 n112), (int .i64 n113), (bool b114)])] ∧
 rd h110 (add a105 1) = some (pointer p106) ∧ S_liveryref13_Table_Fold p106 n104 n113 h110 fun vs115 h116 =>
 vs115 = [] ∧
 nilW g0_s fun a117 => ∃ l118 : Sl, rd h116 (add a117 5) = some (slice l118.a l118.n l118.c) ∧
 (0 ≤ n69 ∧ n69 ≤ (l118.c : Nat)) ∧ nilW g0_s fun a119 => ∃ l120 : Sl, rd h116 (add a119 5) = some (slice l120.a l120.n l120.c) ∧
 (0 ≤ (IntKind.wrap .i64 (n69 + 1)) ∧ (IntKind.wrap .i64 (n69 + 1)) ≤ (l120.n : Nat)) ∧ wth (Array.push h116 (Obj.cells #[] T_int)) fun h121 =>
 rd h121 (add a119 5) = some (slice l120.a l120.n l120.c) ∧ rd h121 (add a117 5) = some (slice l118.a l118.n l118.c) ∧ ∃ cs129 : List Value, cellsAt h121 (slAd l118.a 0 l118.c 1) (((Int.toNat n69) - 0) * 1) cs129 ∧ appS PP T_int 8 1 h121 ⟨(some (mk h116.size 0 none)), 0, 0⟩ ((Int.toNat n69) - 0) cs129 fun (l122 : Sl) (h123 : Hp) =>
 rd h123 (add a119 5) = some (slice l120.a l120.n l120.c) ∧ ∃ cs128 : List Value, cellsAt h123 (slAd l120.a (Int.toNat (IntKind.wrap .i64 (n69 + 1))) l120.c 1) ((l120.n - (Int.toNat (IntKind.wrap .i64 (n69 + 1)))) * 1) cs128 ∧ appS PP T_int 8 1 h123 ⟨l122.a, l122.n, l122.c⟩ (l120.n - (Int.toNat (IntKind.wrap .i64 (n69 + 1)))) cs128 fun (l124 : Sl) (h125 : Hp) =>
 nilW g0_s fun a126 => stOk h125 (add a126 5) 1 ∧ wth (wrs h125 (add a126 5) 0 [(slice l124.a l124.n l124.c)]) fun h127 =>
 X62 [] h127)))) → X68 [(int .i64 n69), (int .i64 n70)] h71) →
 X68 [(int .i64 0), (int .i64 1)] h63) else
 (∀ J130 : PQ, (∀ b131 : Bool, ∀ h132 : Hp, ((if b131 = true then
 (nilW g0_s fun a133 => ∃ p134, rd h132 (add a133 1) = some (pointer p134) ∧
 S_liveryref13_Table_Drop p134 0 h132 fun vs135 h136 =>
 vs135 = [] ∧
 Q [] h136) else
 (Q [] h132))) → J130 [(bool b131)] h132) →
 nilW g0_s fun a137 => ∃ l138 : Sl, rd h63 (add a137 5) = some (slice l138.a l138.n l138.c) ∧
 (if ((l138.n : Int) == 0) = true then (J130 [(bool ((l5.n : Int) == 0))] h63) else
 (J130 [(bool false)] h63))))) → X62 [] h63) →
 X62 [] h61))) → X6 [(slice l7.a l7.n l7.c), (int .i64 n8)] h9) →
X6 [(slice none 0 0), (int .i64 0)] h4
def A_liveryref15_Ssi_clean : Ann := (.mk none ⟨[], []⟩ .nil (.mk none ⟨[], []⟩ .nil (.mk none ⟨[], []⟩ (.mk none ⟨[], []⟩ .nil (.mk none ⟨[], []⟩ (.mk none ⟨[0, 2], [(3, (.c .sl)), (4, (.c (.int .i64)))]⟩ (.mk none ⟨[], []⟩ .nil (.mk none ⟨[], []⟩ (.mk (some ⟨[0, 2, 4], [(3, (.c .sl))]⟩) ⟨[], []⟩ (.mk none ⟨[], []⟩ .nil (.mk none ⟨[], []⟩ (.mk none ⟨[], []⟩ .nil (.mk none ⟨[], []⟩ (.mk none ⟨[0, 2, 3, 4], [(5, (.c .bool)), (6, (.c (.int .i64)))]⟩ (.mk none ⟨[], []⟩ .nil (.mk none ⟨[], []⟩ (.mk (some ⟨[0, 2, 3, 4, 6], [(5, (.c .bool))]⟩) ⟨[], []⟩ .nil .nil) .nil)) .nil) .nil)) .nil)) .nil) .nil)) .nil) .nil)) (.mk none ⟨[], []⟩ .nil (.mk none ⟨[], []⟩ (.mk none ⟨[], []⟩ (.mk none ⟨[0, 2], []⟩ (.mk none ⟨[], []⟩ .nil (.mk none ⟨[], []⟩ (.mk none ⟨[], []⟩ .nil (.mk none ⟨[], []⟩ (.mk none ⟨[], []⟩ .nil (.mk none ⟨[], []⟩ (.mk none ⟨[0, 2], [(7, (.c (.int .i64))), (8, (.c (.int .i64)))]⟩ (.mk none ⟨[], []⟩ .nil (.mk none ⟨[], []⟩ (.mk (some ⟨[0, 2, 8], [(7, (.c (.int .i64)))]⟩) ⟨[], []⟩ .nil .nil) .nil)) .nil) .nil)) .nil)) .nil)) .nil) .nil) (.mk none ⟨[], []⟩ (.mk (some ⟨[0], [(180, (.c .bool))]⟩) ⟨[], []⟩ .nil .nil) .nil))))))
theorem E_liveryref15_Ssi_clean (g0_s : Option Addr) (h : Hp) (Q : PQ) : eW 186 Tryz.f89 A_liveryref15_Ssi_clean [(pointer g0_s)] h Q = F_liveryref15_Ssi_clean g0_s h Q := by kernel_rfl
theorem O_liveryref15_Ssi_clean (g0_s : Option Addr) {h : Hp} {Q : PQ} (H : F_liveryref15_Ssi_clean g0_s h Q) : S_liveryref15_Ssi_clean g0_s h Q :=
 fo Tryz.func89 (E_liveryref15_Ssi_clean g0_s h Q) H
def F_liveryref08_Log_Abort (g0_l : Option Addr) (g1_xid : Int) (h : Hp) (Q : PQ) : Prop :=
S_liveryref08_Log_Get g0_l g1_xid h fun vs1 h2 =>
∃ n3, ∃ n4, ∃ n5, ∃ b6, vs1 = [(agg #[(int .i64 n3), (int .i64 n4), (int .i64 n5), (bool b6)])] ∧
(if (n3 != 1) = true then
 (Q [(int .i64 76)] h2) else
 (nilW g0_l fun a7 => ∃ l8 : Sl, rd h2 (add a7 0) = some (slice l8.a l8.n l8.c) ∧
 nilW l8.a fun a9 => ixOk (IntKind.wrap .i64 (g1_xid - 1)) l8.n (stOk h2 (add (add a9 (Int.toNat (IntKind.wrap .i64 (g1_xid - 1)) * 4)) 0) 1 ∧ wth (wrs h2 (add (add a9 (Int.toNat (IntKind.wrap .i64 (g1_xid - 1)) * 4)) 0) 0 [(int .i64 3)]) fun h10 =>
 Q [(int .i64 0)] h10)))
def A_liveryref08_Log_Abort : Ann := .nil
theorem E_liveryref08_Log_Abort (g0_l : Option Addr) (g1_xid : Int) (h : Hp) (Q : PQ) : eW 18 Tryz.f90 A_liveryref08_Log_Abort [(pointer g0_l), (int .i64 g1_xid)] h Q = F_liveryref08_Log_Abort g0_l g1_xid h Q := by kernel_rfl
theorem O_liveryref08_Log_Abort (g0_l : Option Addr) (g1_xid : Int) {h : Hp} {Q : PQ} (H : F_liveryref08_Log_Abort g0_l g1_xid h Q) : S_liveryref08_Log_Abort g0_l g1_xid h Q :=
 fo Tryz.func90 (E_liveryref08_Log_Abort g0_l g1_xid h Q) H
def F_liveryref14_Edges_Drop (g0_e : Option Addr) (g1_xid : Int) (h : Hp) (Q : PQ) : Prop :=
∀ X1 : PQ, (∀ l2 : Sl, ∀ n3 : Int, ∀ h4 : Hp, (nilW g0_e fun a5 => ∃ l6 : Sl, rd h4 (add a5 1) = some (slice l6.a l6.n l6.c) ∧
 (if (decide (n3 < (l6.n : Int))) = true then
 (∀ J7 : PQ, (∀ l8 : Sl, ∀ h9 : Hp, (X1 [(slice l8.a l8.n l8.c), (int .i64 (IntKind.wrap .i64 (n3 + 1)))] h9) → J7 [(slice l8.a l8.n l8.c)] h9) →
 ∀ J10 : PQ, (∀ b11 : Bool, ∀ h12 : Hp, ((if b11 = true then
 (nilW g0_e fun a13 => ∃ l14 : Sl, rd h12 (add a13 1) = some (slice l14.a l14.n l14.c) ∧
 nilW l14.a fun a15 => ixOk n3 l14.n (∃ n16, rd h12 (add (add a15 (Int.toNat n3 * 2)) 0) = some (int .i64 n16) ∧ ∃ n17, rd h12 (add (add a15 (Int.toNat n3 * 2)) 1) = some (int .i64 n17) ∧ wth (Array.push h12 (Obj.cells #[(int .i64 n16), (int .i64 n17)] T_2_int)) fun h18 =>
 ∃ cs21 : List Value, cellsAt h18 (some (mk h12.size 0 none)) (1 * 2) cs21 ∧ appS PP T_2_int 16 2 h18 ⟨l2.a, l2.n, l2.c⟩ 1 cs21 fun (l19 : Sl) (h20 : Hp) =>
 J7 [(slice l19.a l19.n l19.c)] h20)) else
 (J7 [(slice l2.a l2.n l2.c)] h12))) → J10 [(bool b11)] h12) →
 nilW g0_e fun a22 => ∃ l23 : Sl, rd h4 (add a22 1) = some (slice l23.a l23.n l23.c) ∧
 nilW l23.a fun a24 => ixOk n3 l23.n (ixOk 0 2 (∃ n25, rd h4 (add (add a24 (Int.toNat n3 * 2)) (Int.toNat 0 * 1)) = some (int .i64 n25) ∧
 (if (n25 != g1_xid) = true then (nilW g0_e fun a26 => ∃ l27 : Sl, rd h4 (add a26 1) = some (slice l27.a l27.n l27.c) ∧
 nilW l27.a fun a28 => ixOk n3 l27.n (ixOk 1 2 (∃ n29, rd h4 (add (add a28 (Int.toNat n3 * 2)) (Int.toNat 1 * 1)) = some (int .i64 n29) ∧
 J10 [(bool (n29 != g1_xid))] h4))) else
 (J10 [(bool false)] h4))))) else
 (∀ X30 : PQ, (∀ l31 : Sl, ∀ n32 : Int, ∀ h33 : Hp, (nilW g0_e fun a34 => ∃ l35 : Sl, rd h33 (add a34 2) = some (slice l35.a l35.n l35.c) ∧
 (if (decide (n32 < (l35.n : Int))) = true then
 (∀ J36 : PQ, (∀ l37 : Sl, ∀ h38 : Hp, (X30 [(slice l37.a l37.n l37.c), (int .i64 (IntKind.wrap .i64 (n32 + 1)))] h38) → J36 [(slice l37.a l37.n l37.c)] h38) →
 nilW g0_e fun a39 => ∃ l40 : Sl, rd h33 (add a39 2) = some (slice l40.a l40.n l40.c) ∧
 nilW l40.a fun a41 => ixOk n32 l40.n (ixOk 0 2 (∃ n42, rd h33 (add (add a41 (Int.toNat n32 * 2)) (Int.toNat 0 * 1)) = some (int .i64 n42) ∧
 (if (n42 != g1_xid) = true then
 (nilW g0_e fun a43 => ∃ l44 : Sl, rd h33 (add a43 2) = some (slice l44.a l44.n l44.c) ∧
 nilW l44.a fun a45 => ixOk n32 l44.n (∃ n46, rd h33 (add (add a45 (Int.toNat n32 * 2)) 0) = some (int .i64 n46) ∧ ∃ n47, rd h33 (add (add a45 (Int.toNat n32 * 2)) 1) = some (int .i64 n47) ∧ wth (Array.push h33 (Obj.cells #[(int .i64 n46), (int .i64 n47)] T_2_int)) fun h48 =>
 ∃ cs51 : List Value, cellsAt h48 (some (mk h33.size 0 none)) (1 * 2) cs51 ∧ appS PP T_2_int 16 2 h48 ⟨l31.a, l31.n, l31.c⟩ 1 cs51 fun (l49 : Sl) (h50 : Hp) =>
 J36 [(slice l49.a l49.n l49.c)] h50)) else
 (J36 [(slice l31.a l31.n l31.c)] h33))))) else
 (nilW g0_e fun a52 => stOk h33 (add a52 1) 1 ∧ wth (wrs h33 (add a52 1) 0 [(slice l2.a l2.n l2.c)]) fun h53 =>
 nilW g0_e fun a54 => stOk h53 (add a54 2) 1 ∧ wth (wrs h53 (add a54 2) 0 [(slice l31.a l31.n l31.c)]) fun h55 =>
 Q [] h55))) → X30 [(slice l31.a l31.n l31.c), (int .i64 n32)] h33) →
 X30 [(slice none 0 0), (int .i64 0)] h4))) → X1 [(slice l2.a l2.n l2.c), (int .i64 n3)] h4) →
X1 [(slice none 0 0), (int .i64 0)] h
def A_liveryref14_Edges_Drop : Ann := (.mk none ⟨[], []⟩ .nil (.mk none ⟨[], []⟩ (.mk none ⟨[], []⟩ .nil (.mk none ⟨[], []⟩ (.mk none ⟨[0, 1, 5], [(4, (.c .sl)), (6, (.c (.int .i64)))]⟩ (.mk none ⟨[], []⟩ .nil (.mk none ⟨[], []⟩ (.mk (some ⟨[0, 1, 5, 6], [(4, (.c .sl))]⟩) ⟨[], []⟩ (.mk none ⟨[], []⟩ (.mk (some ⟨[0, 1, 4, 5, 6], [(38, (.c .bool))]⟩) ⟨[], []⟩ .nil .nil) .nil) .nil) .nil)) .nil) .nil)) (.mk none ⟨[], []⟩ (.mk none ⟨[], []⟩ .nil (.mk none ⟨[], []⟩ (.mk none ⟨[0, 1, 4], [(5, (.c .sl)), (7, (.c (.int .i64)))]⟩ (.mk none ⟨[], []⟩ .nil (.mk none ⟨[], []⟩ (.mk (some ⟨[0, 1, 4, 7], [(5, (.c .sl))]⟩) ⟨[], []⟩ .nil .nil) .nil)) .nil) .nil)) .nil)))
theorem E_liveryref14_Edges_Drop (g0_e : Option Addr) (g1_xid : Int) (h : Hp) (Q : PQ) : eW 86 Tryz.f92 A_liveryref14_Edges_Drop [(pointer g0_e), (int .i64 g1_xid)] h Q = F_liveryref14_Edges_Drop g0_e g1_xid h Q := by kernel_rfl
theorem O_liveryref14_Edges_Drop (g0_e : Option Addr) (g1_xid : Int) {h : Hp} {Q : PQ} (H : F_liveryref14_Edges_Drop g0_e g1_xid h Q) : S_liveryref14_Edges_Drop g0_e g1_xid h Q :=
 fo Tryz.func92 (E_liveryref14_Edges_Drop g0_e g1_xid h Q) H
def F_liveryref15_Ssi_Abort (g0_s : Option Addr) (g1_xid : Int) (h : Hp) (Q : PQ) : Prop :=
S_liveryref15_Ssi_runs g0_s g1_xid h fun vs1 h2 =>
∃ b3, vs1 = [(bool b3)] ∧
(if (!b3) = true then
 (Q [(int .i64 76)] h2) else
 (nilW g0_s fun a4 => ∃ p5, rd h2 (add a4 0) = some (pointer p5) ∧
 S_liveryref08_Log_Abort p5 g1_xid h2 fun vs6 h7 =>
 ∃ n8, vs6 = [(int .i64 n8)] ∧
 nilW g0_s fun a9 => ∃ p10, rd h7 (add a9 1) = some (pointer p10) ∧
 S_liveryref13_Table_Drop p10 g1_xid h7 fun vs11 h12 =>
 vs11 = [] ∧
 nilW g0_s fun a13 => ∃ p14, rd h12 (add a13 2) = some (pointer p14) ∧
 S_liveryref14_Edges_Drop p14 g1_xid h12 fun vs15 h16 =>
 vs15 = [] ∧
 S_liveryref15_Ssi_clean g0_s h16 fun vs17 h18 =>
 vs17 = [] ∧
 Q [(int .i64 0)] h18))
def A_liveryref15_Ssi_Abort : Ann := .nil
theorem E_liveryref15_Ssi_Abort (g0_s : Option Addr) (g1_xid : Int) (h : Hp) (Q : PQ) : eW 29 Tryz.f43 A_liveryref15_Ssi_Abort [(pointer g0_s), (int .i64 g1_xid)] h Q = F_liveryref15_Ssi_Abort g0_s g1_xid h Q := by kernel_rfl
theorem O_liveryref15_Ssi_Abort (g0_s : Option Addr) (g1_xid : Int) {h : Hp} {Q : PQ} (H : F_liveryref15_Ssi_Abort g0_s g1_xid h Q) : S_liveryref15_Ssi_Abort g0_s g1_xid h Q :=
 fo Tryz.func43 (E_liveryref15_Ssi_Abort g0_s g1_xid h Q) H
def F_liveryref15_has (g0_l : Sl) (g1_n : Int) (h : Hp) (Q : PQ) : Prop :=
∀ X1 : PQ, (∀ n2 : Int, ∀ h3 : Hp, ((if (decide (n2 < (g0_l.n : Int))) = true then
 (nilW g0_l.a fun a4 => ixOk n2 g0_l.n (∃ n5, rd h3 (add a4 (Int.toNat n2 * 1)) = some (int .i64 n5) ∧
 (if (n5 == g1_n) = true then
 (Q [(bool true)] h3) else
 (X1 [(int .i64 (IntKind.wrap .i64 (n2 + 1)))] h3)))) else
 (Q [(bool false)] h3))) → X1 [(int .i64 n2)] h3) →
X1 [(int .i64 0)] h
def A_liveryref15_has : Ann := (.mk none ⟨[], []⟩ .nil (.mk none ⟨[], []⟩ (.mk none ⟨[], []⟩ .nil (.mk none ⟨[], []⟩ (.mk none ⟨[0, 1], [(5, (.c (.int .i64)))]⟩ .nil .nil) .nil)) .nil))
theorem E_liveryref15_has (g0_l : Sl) (g1_n : Int) (h : Hp) (Q : PQ) : eW 18 Tryz.f131 A_liveryref15_has [(slice g0_l.a g0_l.n g0_l.c), (int .i64 g1_n)] h Q = F_liveryref15_has g0_l g1_n h Q := by kernel_rfl
theorem O_liveryref15_has (g0_l : Sl) (g1_n : Int) {h : Hp} {Q : PQ} (H : F_liveryref15_has g0_l g1_n h Q) : S_liveryref15_has g0_l g1_n h Q :=
 fo Tryz.func131 (E_liveryref15_has g0_l g1_n h Q) H
def F_liveryref15_Ssi_IsDoomed (g0_s : Option Addr) (g1_xid : Int) (h : Hp) (Q : PQ) : Prop :=
nilW g0_s fun a1 => ∃ l2 : Sl, rd h (add a1 3) = some (slice l2.a l2.n l2.c) ∧
S_liveryref15_has ⟨l2.a, l2.n, l2.c⟩ g1_xid h fun vs3 h4 =>
∃ b5, vs3 = [(bool b5)] ∧
Q [(bool b5)] h4
def A_liveryref15_Ssi_IsDoomed : Ann := .nil
theorem E_liveryref15_Ssi_IsDoomed (g0_s : Option Addr) (g1_xid : Int) (h : Hp) (Q : PQ) : eW 11 Tryz.f85 A_liveryref15_Ssi_IsDoomed [(pointer g0_s), (int .i64 g1_xid)] h Q = F_liveryref15_Ssi_IsDoomed g0_s g1_xid h Q := by kernel_rfl
theorem O_liveryref15_Ssi_IsDoomed (g0_s : Option Addr) (g1_xid : Int) {h : Hp} {Q : PQ} (H : F_liveryref15_Ssi_IsDoomed g0_s g1_xid h Q) : S_liveryref15_Ssi_IsDoomed g0_s g1_xid h Q :=
 fo Tryz.func85 (E_liveryref15_Ssi_IsDoomed g0_s g1_xid h Q) H
def F_liveryref14_Edges_In (g0_e : Option Addr) (g1_xid : Int) (h : Hp) (Q : PQ) : Prop :=
∀ X1 : PQ, (∀ l2 : Sl, ∀ n3 : Int, ∀ h4 : Hp, (nilW g0_e fun a5 => ∃ l6 : Sl, rd h4 (add a5 1) = some (slice l6.a l6.n l6.c) ∧
 (if (decide (n3 < (l6.n : Int))) = true then
 (∀ J7 : PQ, (∀ l8 : Sl, ∀ h9 : Hp, (X1 [(slice l8.a l8.n l8.c), (int .i64 (IntKind.wrap .i64 (n3 + 1)))] h9) → J7 [(slice l8.a l8.n l8.c)] h9) →
 nilW g0_e fun a10 => ∃ l11 : Sl, rd h4 (add a10 1) = some (slice l11.a l11.n l11.c) ∧
 nilW l11.a fun a12 => ixOk n3 l11.n (ixOk 1 2 (∃ n13, rd h4 (add (add a12 (Int.toNat n3 * 2)) (Int.toNat 1 * 1)) = some (int .i64 n13) ∧
 (if (n13 == g1_xid) = true then
 (nilW g0_e fun a14 => ∃ l15 : Sl, rd h4 (add a14 1) = some (slice l15.a l15.n l15.c) ∧
 nilW l15.a fun a16 => ixOk n3 l15.n (ixOk 0 2 (∃ n17, rd h4 (add (add a16 (Int.toNat n3 * 2)) (Int.toNat 0 * 1)) = some (int .i64 n17) ∧
 wth (Array.push h4 (Obj.cells #[(int .i64 n17)] T_int)) fun h18 =>
 ∃ cs21 : List Value, cellsAt h18 (some (mk h4.size 0 none)) (1 * 1) cs21 ∧ appS PP T_int 8 1 h18 ⟨l2.a, l2.n, l2.c⟩ 1 cs21 fun (l19 : Sl) (h20 : Hp) =>
 J7 [(slice l19.a l19.n l19.c)] h20))) else
 (J7 [(slice l2.a l2.n l2.c)] h4))))) else
 (Q [(slice l2.a l2.n l2.c)] h4))) → X1 [(slice l2.a l2.n l2.c), (int .i64 n3)] h4) →
X1 [(slice none 0 0), (int .i64 0)] h
def A_liveryref14_Edges_In : Ann := (.mk none ⟨[], []⟩ .nil (.mk none ⟨[], []⟩ .nil (.mk none ⟨[], []⟩ (.mk none ⟨[], []⟩ .nil (.mk none ⟨[], []⟩ (.mk none ⟨[0, 1], [(5, (.c .sl)), (6, (.c (.int .i64)))]⟩ (.mk none ⟨[], []⟩ .nil (.mk none ⟨[], []⟩ (.mk (some ⟨[0, 1, 6], [(5, (.c .sl))]⟩) ⟨[], []⟩ .nil .nil) .nil)) .nil) .nil)) .nil)))
theorem E_liveryref14_Edges_In (g0_e : Option Addr) (g1_xid : Int) (h : Hp) (Q : PQ) : eW 38 Tryz.f132 A_liveryref14_Edges_In [(pointer g0_e), (int .i64 g1_xid)] h Q = F_liveryref14_Edges_In g0_e g1_xid h Q := by kernel_rfl
theorem O_liveryref14_Edges_In (g0_e : Option Addr) (g1_xid : Int) {h : Hp} {Q : PQ} (H : F_liveryref14_Edges_In g0_e g1_xid h Q) : S_liveryref14_Edges_In g0_e g1_xid h Q :=
 fo Tryz.func132 (E_liveryref14_Edges_In g0_e g1_xid h Q) H
def F_liveryref14_put (g0_l : Sl) (g1_n : Int) (h : Hp) (Q : PQ) : Prop :=
∀ X1 : PQ, (∀ n2 : Int, ∀ h3 : Hp, (∀ J4 : PQ, (∀ b5 : Bool, ∀ h6 : Hp, ((if b5 = true then
 (X1 [(int .i64 (IntKind.wrap .i64 (n2 + 1)))] h6) else
 (∀ J7 : PQ, (∀ b8 : Bool, ∀ h9 : Hp, ((if b8 = true then
 (Q [(slice g0_l.a g0_l.n g0_l.c)] h9) else
 ((0 ≤ n2 ∧ n2 ≤ (g0_l.c : Nat)) ∧ (0 ≤ n2 ∧ n2 ≤ (g0_l.n : Nat)) ∧ (wth (Array.push h9 (Obj.cells #[] T_int)) fun h10 =>
 (∃ cs20 : List Value, cellsAt h10 (slAd g0_l.a 0 g0_l.c 1) (((Int.toNat n2) - 0) * 1) cs20 ∧ appS PP T_int 8 1 h10 ⟨(some (mk h9.size 0 none)), 0, 0⟩ ((Int.toNat n2) - 0) cs20 fun (l11 : Sl) (h12 : Hp) =>
 wth (Array.push h12 (Obj.cells #[(int .i64 g1_n)] T_int)) fun h13 =>
 ∃ cs19 : List Value, cellsAt h13 (some (mk h12.size 0 none)) (1 * 1) cs19 ∧ appS PP T_int 8 1 h13 ⟨l11.a, l11.n, l11.c⟩ 1 cs19 fun (l14 : Sl) (h15 : Hp) =>
 ∃ cs18 : List Value, cellsAt h15 (slAd g0_l.a (Int.toNat n2) g0_l.c 1) ((g0_l.n - (Int.toNat n2)) * 1) cs18 ∧ appS PP T_int 8 1 h15 ⟨l14.a, l14.n, l14.c⟩ (g0_l.n - (Int.toNat n2)) cs18 fun (l16 : Sl) (h17 : Hp) =>
 Q [(slice l16.a l16.n l16.c)] h17) ∧
 (wth (Array.push h10 (Obj.cells #[(int .i64 g1_n)] T_int)) fun h21 =>
 ∃ cs30 : List Value, cellsAt h21 (slAd g0_l.a 0 g0_l.c 1) (((Int.toNat n2) - 0) * 1) cs30 ∧ appS PP T_int 8 1 h21 ⟨(some (mk h9.size 0 none)), 0, 0⟩ ((Int.toNat n2) - 0) cs30 fun (l22 : Sl) (h23 : Hp) =>
 ∃ cs29 : List Value, cellsAt h23 (some (mk h10.size 0 none)) (1 * 1) cs29 ∧ appS PP T_int 8 1 h23 ⟨l22.a, l22.n, l22.c⟩ 1 cs29 fun (l24 : Sl) (h25 : Hp) =>
 ∃ cs28 : List Value, cellsAt h25 (slAd g0_l.a (Int.toNat n2) g0_l.c 1) ((g0_l.n - (Int.toNat n2)) * 1) cs28 ∧ appS PP T_int 8 1 h25 ⟨l24.a, l24.n, l24.c⟩ (g0_l.n - (Int.toNat n2)) cs28 fun (l26 : Sl) (h27 : Hp) =>
 Q [(slice l26.a l26.n l26.c)] h27)) ∧
 (wth (Array.push h9 (Obj.cells #[(int .i64 g1_n)] T_int)) fun h31 =>
 wth (Array.push h31 (Obj.cells #[] T_int)) fun h32 =>
 ∃ cs41 : List Value, cellsAt h32 (slAd g0_l.a 0 g0_l.c 1) (((Int.toNat n2) - 0) * 1) cs41 ∧ appS PP T_int 8 1 h32 ⟨(some (mk h31.size 0 none)), 0, 0⟩ ((Int.toNat n2) - 0) cs41 fun (l33 : Sl) (h34 : Hp) =>
 ∃ cs40 : List Value, cellsAt h34 (some (mk h9.size 0 none)) (1 * 1) cs40 ∧ appS PP T_int 8 1 h34 ⟨l33.a, l33.n, l33.c⟩ 1 cs40 fun (l35 : Sl) (h36 : Hp) =>
 ∃ cs39 : List Value, cellsAt h36 (slAd g0_l.a (Int.toNat n2) g0_l.c 1) ((g0_l.n - (Int.toNat n2)) * 1) cs39 ∧ appS PP T_int 8 1 h36 ⟨l35.a, l35.n, l35.c⟩ (g0_l.n - (Int.toNat n2)) cs39 fun (l37 : Sl) (h38 : Hp) =>
 Q [(slice l37.a l37.n l37.c)] h38)))) → J7 [(bool b8)] h9) →
 (if (decide (n2 < (g0_l.n : Int))) = true then (nilW g0_l.a fun a42 => ixOk n2 g0_l.n (∃ n43, rd h6 (add a42 (Int.toNat n2 * 1)) = some (int .i64 n43) ∧
 J7 [(bool (n43 == g1_n))] h6)) else
 (J7 [(bool false)] h6))))) → J4 [(bool b5)] h6) →
 (if (decide (n2 < (g0_l.n : Int))) = true then (nilW g0_l.a fun a44 => ixOk n2 g0_l.n (∃ n45, rd h3 (add a44 (Int.toNat n2 * 1)) = some (int .i64 n45) ∧
 J4 [(bool (decide (n45 < g1_n)))] h3)) else
 (J4 [(bool false)] h3))) → X1 [(int .i64 n2)] h3) →
X1 [(int .i64 0)] h
def A_liveryref14_put : Ann := (.mk none ⟨[], []⟩ .nil (.mk none ⟨[], []⟩ .nil (.mk none ⟨[], []⟩ (.mk none ⟨[], []⟩ (.mk none ⟨[0, 1], [(5, (.c (.int .i64)))]⟩ (.mk none ⟨[], []⟩ (.mk none ⟨[], []⟩ (.mk (some ⟨[0, 1, 5], [(17, (.c .bool))]⟩) ⟨[], []⟩ .nil .nil) .nil) .nil) .nil) .nil) (.mk none ⟨[], []⟩ (.mk none ⟨[], []⟩ (.mk (some ⟨[0, 1, 5], [(31, (.c .bool))]⟩) ⟨[], []⟩ .nil .nil) .nil) .nil))))
theorem E_liveryref14_put (g0_l : Sl) (g1_n : Int) (h : Hp) (Q : PQ) : eW 45 Tryz.f133 A_liveryref14_put [(slice g0_l.a g0_l.n g0_l.c), (int .i64 g1_n)] h Q = F_liveryref14_put g0_l g1_n h Q := by kernel_rfl
theorem O_liveryref14_put (g0_l : Sl) (g1_n : Int) {h : Hp} {Q : PQ} (H : F_liveryref14_put g0_l g1_n h Q) : S_liveryref14_put g0_l g1_n h Q :=
 fo Tryz.func133 (E_liveryref14_put g0_l g1_n h Q) H
def F_liveryref14_Edges_Ahead (g0_e : Option Addr) (g1_t3 : Int) (h : Hp) (Q : PQ) : Prop :=
S_liveryref14_Edges_In g0_e g1_t3 h fun vs1 h2 =>
∃ l3 : Sl, vs1 = [(slice l3.a l3.n l3.c)] ∧
∀ X4 : PQ, (∀ l5 : Sl, ∀ n6 : Int, ∀ h7 : Hp, ((if (decide (n6 < (l3.n : Int))) = true then
 (∀ J8 : PQ, (∀ l9 : Sl, ∀ h10 : Hp, (X4 [(slice l9.a l9.n l9.c), (int .i64 (IntKind.wrap .i64 (n6 + 1)))] h10) → J8 [(slice l9.a l9.n l9.c)] h10) →
 nilW l3.a fun a11 => ixOk n6 l3.n (∃ n12, rd h7 (add a11 (Int.toNat n6 * 1)) = some (int .i64 n12) ∧
 nilW g0_e fun a13 => ∃ p14, rd h7 (add a13 0) = some (pointer p14) ∧
 S_liveryref08_Log_Get p14 n12 h7 fun vs15 h16 =>
 ∃ n17, ∃ n18, ∃ n19, ∃ b20, vs15 = [(agg #[(int .i64 n17), (int .i64 n18), (int .i64 n19), (bool b20)])] ∧
 (if (n17 != 1) = true then
 (J8 [(slice l5.a l5.n l5.c)] h16) else
 (S_liveryref14_Edges_In g0_e n12 h16 fun vs21 h22 =>
 ∃ l23 : Sl, vs21 = [(slice l23.a l23.n l23.c)] ∧
 ∀ X24 : PQ, (∀ l25 : Sl, ∀ n26 : Int, ∀ h27 : Hp, ((if (decide (n26 < (l23.n : Int))) = true then
 (∀ J28 : PQ, (∀ l29 : Sl, ∀ h30 : Hp, (X24 [(slice l29.a l29.n l29.c), (int .i64 (IntKind.wrap .i64 (n26 + 1)))] h30) → J28 [(slice l29.a l29.n l29.c)] h30) →
 ∀ J31 : PQ, (∀ a32 : Addr, ∀ h33 : Hp, (∀ J34 : PQ, (∀ b35 : Bool, ∀ h36 : Hp, ((if b35 = true then
 (S_liveryref14_put ⟨l25.a, l25.n, l25.c⟩ n12 h36 fun vs37 h38 =>
 ∃ l39 : Sl, vs37 = [(slice l39.a l39.n l39.c)] ∧
 J28 [(slice l39.a l39.n l39.c)] h38) else
 (J28 [(slice l25.a l25.n l25.c)] h36))) → J34 [(bool b35)] h36) →
 ∃ n40, rd h33 (add a32 0) = some (int .i64 n40) ∧
 (if (n40 == 1) = true then (∃ b41, rd h33 (add a32 3) = some (bool b41) ∧
 J34 [(bool (!b41))] h33) else
 (nilW l23.a fun a42 => ixOk n26 l23.n (∃ n43, rd h33 (add a42 (Int.toNat n26 * 1)) = some (int .i64 n43) ∧
 (if (n43 == g1_t3) = true then (∃ b44, rd h33 (add a32 3) = some (bool b44) ∧
 J34 [(bool (!b44))] h33) else
 (J34 [(bool false)] h33)))))) → J31 [(pointer (some a32))] h33) →
 nilW g0_e fun a45 => ∃ p46, rd h27 (add a45 0) = some (pointer p46) ∧
 nilW l23.a fun a47 => ixOk n26 l23.n (∃ n48, rd h27 (add a47 (Int.toNat n26 * 1)) = some (int .i64 n48) ∧
 (S_liveryref08_Log_Get p46 n48 h27 fun vs49 h50 =>
 ∃ n51, ∃ n52, ∃ n53, ∃ b54, vs49 = [(agg #[(int .i64 n51), (int .i64 n52), (int .i64 n53), (bool b54)])] ∧
 wth (Array.push h50 (Obj.cells #[(int .i64 0), (int .i64 0), (int .i64 0), (bool false)] T_liveryref08_Tx)) fun h55 =>
 stOk h55 (mk h50.size 0 none) 4 ∧ wth (wrs h55 (mk h50.size 0 none) 0 [(int .i64 n51), (int .i64 n52), (int .i64 n53), (bool b54)]) fun h56 =>
 J31 [(pointer (some (mk h50.size 0 none)))] h56) ∧
 (wth (Array.push h27 (Obj.cells #[(int .i64 0), (int .i64 0), (int .i64 0), (bool false)] T_liveryref08_Tx)) fun h57 =>
 rd h57 (add a47 (Int.toNat n26 * 1)) = some (int .i64 n48) ∧ rd h57 (add a45 0) = some (pointer p46) ∧ S_liveryref08_Log_Get p46 n48 h57 fun vs58 h59 =>
 ∃ n60, ∃ n61, ∃ n62, ∃ b63, vs58 = [(agg #[(int .i64 n60), (int .i64 n61), (int .i64 n62), (bool b63)])] ∧
 stOk h59 (mk h27.size 0 none) 4 ∧ wth (wrs h59 (mk h27.size 0 none) 0 [(int .i64 n60), (int .i64 n61), (int .i64 n62), (bool b63)]) fun h64 =>
 J31 [(pointer (some (mk h27.size 0 none)))] h64))) else
 (J8 [(slice l25.a l25.n l25.c)] h27))) → X24 [(slice l25.a l25.n l25.c), (int .i64 n26)] h27) →
 X24 [(slice l5.a l5.n l5.c), (int .i64 0)] h22)))) else
 (Q [(slice l5.a l5.n l5.c)] h7))) → X4 [(slice l5.a l5.n l5.c), (int .i64 n6)] h7) →
X4 [(slice none 0 0), (int .i64 0)] h2
def A_liveryref14_Edges_Ahead : Ann := (.mk none ⟨[], []⟩ .nil (.mk none ⟨[], []⟩ .nil (.mk none ⟨[], []⟩ .nil (.mk none ⟨[], []⟩ (.mk none ⟨[], []⟩ .nil (.mk none ⟨[], []⟩ (.mk none ⟨[0, 1, 6], [(5, (.c .sl)), (7, (.c (.int .i64)))]⟩ (.mk none ⟨[], []⟩ .nil (.mk none ⟨[], []⟩ (.mk (some ⟨[0, 1, 6, 7], [(5, (.c .sl))]⟩) ⟨[], []⟩ (.mk none ⟨[], []⟩ .nil (.mk none ⟨[], []⟩ .nil (.mk none ⟨[], []⟩ .nil (.mk none ⟨[], []⟩ .nil (.mk none ⟨[], []⟩ (.mk none ⟨[0, 1, 6, 7, 8, 9], [(5, (.c .sl)), (10, (.c (.int .i64)))]⟩ (.mk none ⟨[], []⟩ .nil (.mk none ⟨[], []⟩ (.mk (some ⟨[0, 1, 6, 7, 8, 9, 10], [(5, (.c .sl))]⟩) ⟨[], []⟩ (.mk none ⟨[], []⟩ (.mk (some ⟨[0, 1, 5, 6, 7, 8, 9, 10], [(11, (.c .adr))]⟩) ⟨[], []⟩ .nil .nil) (.mk none ⟨[], []⟩ (.mk (some ⟨[0, 1, 5, 6, 7, 8, 9, 10], [(66, (.c .bool))]⟩) ⟨[], []⟩ .nil .nil) .nil)) .nil) .nil)) .nil) .nil))))) .nil) .nil)) .nil) .nil)) .nil))))
theorem E_liveryref14_Edges_Ahead (g0_e : Option Addr) (g1_t3 : Int) (h : Hp) (Q : PQ) : eW 71 Tryz.f86 A_liveryref14_Edges_Ahead [(pointer g0_e), (int .i64 g1_t3)] h Q = F_liveryref14_Edges_Ahead g0_e g1_t3 h Q := by kernel_rfl
theorem O_liveryref14_Edges_Ahead (g0_e : Option Addr) (g1_t3 : Int) {h : Hp} {Q : PQ} (H : F_liveryref14_Edges_Ahead g0_e g1_t3 h Q) : S_liveryref14_Edges_Ahead g0_e g1_t3 h Q :=
 fo Tryz.func86 (E_liveryref14_Edges_Ahead g0_e g1_t3 h Q) H
def F_liveryref15_Ssi_doom (g0_s : Option Addr) (g1_xid : Int) (h : Hp) (Q : PQ) : Prop :=
∀ J1 : PQ, (∀ b2 : Bool, ∀ h3 : Hp, ((if b2 = true then
 (wth (Array.push h3 (Obj.cells #[] T_int)) fun h4 =>
 nilW g0_s fun a5 => ∃ l6 : Sl, rd h4 (add a5 3) = some (slice l6.a l6.n l6.c) ∧
 ∃ cs15 : List Value, cellsAt h4 l6.a (l6.n * 1) cs15 ∧ appS PP T_int 8 1 h4 ⟨(some (mk h3.size 0 none)), 0, 0⟩ l6.n cs15 fun (l7 : Sl) (h8 : Hp) =>
 wth (Array.push h8 (Obj.cells #[(int .i64 g1_xid)] T_int)) fun h9 =>
 ∃ cs14 : List Value, cellsAt h9 (some (mk h8.size 0 none)) (1 * 1) cs14 ∧ appS PP T_int 8 1 h9 ⟨l7.a, l7.n, l7.c⟩ 1 cs14 fun (l10 : Sl) (h11 : Hp) =>
 nilW g0_s fun a12 => stOk h11 (add a12 3) 1 ∧ wth (wrs h11 (add a12 3) 0 [(slice l10.a l10.n l10.c)]) fun h13 =>
 Q [] h13) else
 (Q [] h3))) → J1 [(bool b2)] h3) →
S_liveryref15_Ssi_runs g0_s g1_xid h fun vs16 h17 =>
∃ b18, vs16 = [(bool b18)] ∧
(if b18 = true then (nilW g0_s fun a19 => ∃ l20 : Sl, rd h17 (add a19 3) = some (slice l20.a l20.n l20.c) ∧
 S_liveryref15_has ⟨l20.a, l20.n, l20.c⟩ g1_xid h17 fun vs21 h22 =>
 ∃ b23, vs21 = [(bool b23)] ∧
 J1 [(bool (!b23))] h22) else
 (J1 [(bool false)] h17))
def A_liveryref15_Ssi_doom : Ann := (.mk none ⟨[], []⟩ (.mk (some ⟨[0, 1], [(15, (.c .bool))]⟩) ⟨[], []⟩ .nil .nil) .nil)
theorem E_liveryref15_Ssi_doom (g0_s : Option Addr) (g1_xid : Int) (h : Hp) (Q : PQ) : eW 28 Tryz.f87 A_liveryref15_Ssi_doom [(pointer g0_s), (int .i64 g1_xid)] h Q = F_liveryref15_Ssi_doom g0_s g1_xid h Q := by kernel_rfl
theorem O_liveryref15_Ssi_doom (g0_s : Option Addr) (g1_xid : Int) {h : Hp} {Q : PQ} (H : F_liveryref15_Ssi_doom g0_s g1_xid h Q) : S_liveryref15_Ssi_doom g0_s g1_xid h Q :=
 fo Tryz.func87 (E_liveryref15_Ssi_doom g0_s g1_xid h Q) H
def F_liveryref08_Log_Commit (g0_l : Option Addr) (g1_xid : Int) (h : Hp) (Q : PQ) : Prop :=
S_liveryref08_Log_Get g0_l g1_xid h fun vs1 h2 =>
∃ n3, ∃ n4, ∃ n5, ∃ b6, vs1 = [(agg #[(int .i64 n3), (int .i64 n4), (int .i64 n5), (bool b6)])] ∧
(if (n3 != 1) = true then
 (Q [(int .i64 0), (int .i64 76)] h2) else
 (nilW g0_l fun a7 => ∃ n8, rd h2 (add a7 1) = some (int .i64 n8) ∧
 nilW g0_l fun a9 => stOk h2 (add a9 1) 1 ∧ wth (wrs h2 (add a9 1) 0 [(int .i64 (IntKind.wrap .i64 (n8 + 1)))]) fun h10 =>
 nilW g0_l fun a11 => ∃ l12 : Sl, rd h10 (add a11 0) = some (slice l12.a l12.n l12.c) ∧
 nilW g0_l fun a13 => ∃ l14 : Sl, rd h10 (add a13 0) = some (slice l14.a l14.n l14.c) ∧
 nilW g0_l fun a15 => ∃ n16, rd h10 (add a15 1) = some (int .i64 n16) ∧
 nilW l12.a fun a17 => ixOk (IntKind.wrap .i64 (g1_xid - 1)) l12.n (stOk h10 (add (add a17 (Int.toNat (IntKind.wrap .i64 (g1_xid - 1)) * 4)) 0) 1 ∧ wth (wrs h10 (add (add a17 (Int.toNat (IntKind.wrap .i64 (g1_xid - 1)) * 4)) 0) 0 [(int .i64 2)]) fun h18 =>
 nilW l14.a fun a19 => ixOk (IntKind.wrap .i64 (g1_xid - 1)) l14.n (stOk h18 (add (add a19 (Int.toNat (IntKind.wrap .i64 (g1_xid - 1)) * 4)) 2) 1 ∧ wth (wrs h18 (add (add a19 (Int.toNat (IntKind.wrap .i64 (g1_xid - 1)) * 4)) 2) 0 [(int .i64 n16)]) fun h20 =>
 nilW g0_l fun a21 => ∃ n22, rd h20 (add a21 1) = some (int .i64 n22) ∧
 Q [(int .i64 n22), (int .i64 0)] h20))))
def A_liveryref08_Log_Commit : Ann := .nil
theorem E_liveryref08_Log_Commit (g0_l : Option Addr) (g1_xid : Int) (h : Hp) (Q : PQ) : eW 42 Tryz.f88 A_liveryref08_Log_Commit [(pointer g0_l), (int .i64 g1_xid)] h Q = F_liveryref08_Log_Commit g0_l g1_xid h Q := by kernel_rfl
theorem O_liveryref08_Log_Commit (g0_l : Option Addr) (g1_xid : Int) {h : Hp} {Q : PQ} (H : F_liveryref08_Log_Commit g0_l g1_xid h Q) : S_liveryref08_Log_Commit g0_l g1_xid h Q :=
 fo Tryz.func88 (E_liveryref08_Log_Commit g0_l g1_xid h Q) H
def F_liveryref15_Ssi_Commit (g0_s : Option Addr) (g1_xid : Int) (h : Hp) (Q : PQ) : Prop :=
S_liveryref15_Ssi_runs g0_s g1_xid h fun vs1 h2 =>
∃ b3, vs1 = [(bool b3)] ∧
(if (!b3) = true then
 (Q [(int .i64 76)] h2) else
 (S_liveryref15_Ssi_IsDoomed g0_s g1_xid h2 fun vs4 h5 =>
 ∃ b6, vs4 = [(bool b6)] ∧
 (if b6 = true then
 (S_liveryref15_Ssi_Abort g0_s g1_xid h5 fun vs7 h8 =>
 ∃ n9, vs7 = [(int .i64 n9)] ∧
 Q [(int .i64 72)] h8) else
 (nilW g0_s fun a10 => ∃ p11, rd h5 (add a10 2) = some (pointer p11) ∧
 S_liveryref14_Edges_Ahead p11 g1_xid h5 fun vs12 h13 =>
 ∃ l14 : Sl, vs12 = [(slice l14.a l14.n l14.c)] ∧
 ∀ X15 : PQ, (∀ n16 : Int, ∀ h17 : Hp, ((if (decide (n16 < (l14.n : Int))) = true then
 (nilW l14.a fun a18 => ixOk n16 l14.n (∃ n19, rd h17 (add a18 (Int.toNat n16 * 1)) = some (int .i64 n19) ∧
 S_liveryref15_Ssi_doom g0_s n19 h17 fun vs20 h21 =>
 vs20 = [] ∧
 X15 [(int .i64 (IntKind.wrap .i64 (n16 + 1)))] h21)) else
 (nilW g0_s fun a22 => ∃ p23, rd h17 (add a22 0) = some (pointer p23) ∧
 S_liveryref08_Log_Commit p23 g1_xid h17 fun vs24 h25 =>
 ∃ n26, ∃ n27, vs24 = [(int .i64 n26), (int .i64 n27)] ∧
 wth (Array.push h25 (Obj.cells #[] T_int)) fun h28 =>
 nilW g0_s fun a29 => ∃ l30 : Sl, rd h28 (add a29 5) = some (slice l30.a l30.n l30.c) ∧
 ∃ cs41 : List Value, cellsAt h28 l30.a (l30.n * 1) cs41 ∧ appS PP T_int 8 1 h28 ⟨(some (mk h25.size 0 none)), 0, 0⟩ l30.n cs41 fun (l31 : Sl) (h32 : Hp) =>
 wth (Array.push h32 (Obj.cells #[(int .i64 g1_xid)] T_int)) fun h33 =>
 ∃ cs40 : List Value, cellsAt h33 (some (mk h32.size 0 none)) (1 * 1) cs40 ∧ appS PP T_int 8 1 h33 ⟨l31.a, l31.n, l31.c⟩ 1 cs40 fun (l34 : Sl) (h35 : Hp) =>
 nilW g0_s fun a36 => stOk h35 (add a36 5) 1 ∧ wth (wrs h35 (add a36 5) 0 [(slice l34.a l34.n l34.c)]) fun h37 =>
 S_liveryref15_Ssi_clean g0_s h37 fun vs38 h39 =>
 vs38 = [] ∧
 Q [(int .i64 0)] h39))) → X15 [(int .i64 n16)] h17) →
 X15 [(int .i64 0)] h13))))
def A_liveryref15_Ssi_Commit : Ann := (.mk none ⟨[], []⟩ .nil (.mk none ⟨[], []⟩ .nil (.mk none ⟨[], []⟩ .nil (.mk none ⟨[], []⟩ .nil (.mk none ⟨[], []⟩ (.mk none ⟨[], []⟩ .nil (.mk none ⟨[], []⟩ (.mk none ⟨[0, 1, 5], [(6, (.c (.int .i64)))]⟩ .nil .nil) .nil)) .nil)))))
theorem E_liveryref15_Ssi_Commit (g0_s : Option Addr) (g1_xid : Int) (h : Hp) (Q : PQ) : eW 55 Tryz.f42 A_liveryref15_Ssi_Commit [(pointer g0_s), (int .i64 g1_xid)] h Q = F_liveryref15_Ssi_Commit g0_s g1_xid h Q := by kernel_rfl
theorem O_liveryref15_Ssi_Commit (g0_s : Option Addr) (g1_xid : Int) {h : Hp} {Q : PQ} (H : F_liveryref15_Ssi_Commit g0_s g1_xid h Q) : S_liveryref15_Ssi_Commit g0_s g1_xid h Q :=
 fo Tryz.func42 (E_liveryref15_Ssi_Commit g0_s g1_xid h Q) H
def F_liveryref15_Ssi_Safe (g0_s : Option Addr) (g1_xid : Int) (h : Hp) (Q : PQ) : Prop :=
nilW g0_s fun a1 => ∃ l2 : Sl, rd h (add a1 4) = some (slice l2.a l2.n l2.c) ∧
S_liveryref15_has ⟨l2.a, l2.n, l2.c⟩ g1_xid h fun vs3 h4 =>
∃ b5, vs3 = [(bool b5)] ∧
Q [(bool b5)] h4
def A_liveryref15_Ssi_Safe : Ann := .nil
theorem E_liveryref15_Ssi_Safe (g0_s : Option Addr) (g1_xid : Int) (h : Hp) (Q : PQ) : eW 11 Tryz.f93 A_liveryref15_Ssi_Safe [(pointer g0_s), (int .i64 g1_xid)] h Q = F_liveryref15_Ssi_Safe g0_s g1_xid h Q := by kernel_rfl
theorem O_liveryref15_Ssi_Safe (g0_s : Option Addr) (g1_xid : Int) {h : Hp} {Q : PQ} (H : F_liveryref15_Ssi_Safe g0_s g1_xid h Q) : S_liveryref15_Ssi_Safe g0_s g1_xid h Q :=
 fo Tryz.func93 (E_liveryref15_Ssi_Safe g0_s g1_xid h Q) H
def F_liveryref13_Table_Take (g0_t : Option Addr) (g1_xid : Int) (g2_x_0 : Int) (g2_x_1 : ByteArray) (g2_x_2 : Int) (g2_x_3 : ByteArray) (g2_x_4 : Int) (h : Hp) (Q : PQ) : Prop :=
wth (Array.push h (Obj.cells #[(int .i64 g2_x_0), (string g2_x_1), (int .i64 g2_x_2), (string g2_x_3), (int .i64 g2_x_4)] T_liveryref13_Thing)) fun h1 =>
∀ J2 : PQ, (∀ b3 : Bool, ∀ h4 : Hp, ((if b3 = true then
 (Q [(int .i64 1)] h4) else
 (∃ n5, rd h4 (add (mk h.size 0 none) 0) = some (int .i64 n5) ∧ ∃ s6, rd h4 (add (mk h.size 0 none) 1) = some (string s6) ∧ ∃ n7, rd h4 (add (mk h.size 0 none) 2) = some (int .i64 n7) ∧ ∃ s8, rd h4 (add (mk h.size 0 none) 3) = some (string s8) ∧ ∃ n9, rd h4 (add (mk h.size 0 none) 4) = some (int .i64 n9) ∧ S_liveryref13_Table_take g0_t g1_xid n5 s6 n7 s8 n9 h4 fun vs10 h11 =>
 vs10 = [] ∧
 Q [(int .i64 0)] h11))) → J2 [(bool b3)] h4) →
(if (decide (g1_xid < (1 : Int))) = true then (J2 [(bool true)] h1) else
 ((if (decide (g1_xid > 200)) = true then (J2 [(bool true)] h1) else
 (∃ n12, rd h1 (add (mk h.size 0 none) 0) = some (int .i64 n12) ∧ ∃ s13, rd h1 (add (mk h.size 0 none) 1) = some (string s13) ∧ ∃ n14, rd h1 (add (mk h.size 0 none) 2) = some (int .i64 n14) ∧ ∃ s15, rd h1 (add (mk h.size 0 none) 3) = some (string s15) ∧ ∃ n16, rd h1 (add (mk h.size 0 none) 4) = some (int .i64 n16) ∧ S_liveryref13_kind n12 s13 n14 s15 n16 h1 fun vs17 h18 =>
 ∃ b19, vs17 = [(bool b19)] ∧
 J2 [(bool (!b19))] h18))))
def A_liveryref13_Table_Take : Ann := (.mk none ⟨[], []⟩ .nil (.mk none ⟨[], []⟩ (.mk none ⟨[], []⟩ (.mk (some ⟨[0, 1, 5], [(17, (.c .bool))]⟩) ⟨[], []⟩ .nil .nil) .nil) .nil))
theorem E_liveryref13_Table_Take (g0_t : Option Addr) (g1_xid : Int) (g2_x_0 : Int) (g2_x_1 : ByteArray) (g2_x_2 : Int) (g2_x_3 : ByteArray) (g2_x_4 : Int) (h : Hp) (Q : PQ) : eW 22 Tryz.f94 A_liveryref13_Table_Take [(pointer g0_t), (int .i64 g1_xid), (agg #[(int .i64 g2_x_0), (string g2_x_1), (int .i64 g2_x_2), (string g2_x_3), (int .i64 g2_x_4)])] h Q = F_liveryref13_Table_Take g0_t g1_xid g2_x_0 g2_x_1 g2_x_2 g2_x_3 g2_x_4 h Q := by kernel_rfl
theorem O_liveryref13_Table_Take (g0_t : Option Addr) (g1_xid : Int) (g2_x_0 : Int) (g2_x_1 : ByteArray) (g2_x_2 : Int) (g2_x_3 : ByteArray) (g2_x_4 : Int) {h : Hp} {Q : PQ} (H : F_liveryref13_Table_Take g0_t g1_xid g2_x_0 g2_x_1 g2_x_2 g2_x_3 g2_x_4 h Q) : S_liveryref13_Table_Take g0_t g1_xid g2_x_0 g2_x_1 g2_x_2 g2_x_3 g2_x_4 h Q :=
 fo Tryz.func94 (E_liveryref13_Table_Take g0_t g1_xid g2_x_0 g2_x_1 g2_x_2 g2_x_3 g2_x_4 h Q) H
def F_liveryref15_Ssi_Read (g0_s : Option Addr) (g1_xid : Int) (g2_x_0 : Int) (g2_x_1 : ByteArray) (g2_x_2 : Int) (g2_x_3 : ByteArray) (g2_x_4 : Int) (h : Hp) (Q : PQ) : Prop :=
wth (Array.push h (Obj.cells #[(int .i64 g2_x_0), (string g2_x_1), (int .i64 g2_x_2), (string g2_x_3), (int .i64 g2_x_4)] T_liveryref13_Thing)) fun h1 =>
∀ J2 : PQ, (∀ b3 : Bool, ∀ h4 : Hp, ((if b3 = true then
 (nilW g0_s fun a5 => ∃ p6, rd h4 (add a5 1) = some (pointer p6) ∧
 ∃ n7, rd h4 (add (mk h.size 0 none) 0) = some (int .i64 n7) ∧ ∃ s8, rd h4 (add (mk h.size 0 none) 1) = some (string s8) ∧ ∃ n9, rd h4 (add (mk h.size 0 none) 2) = some (int .i64 n9) ∧ ∃ s10, rd h4 (add (mk h.size 0 none) 3) = some (string s10) ∧ ∃ n11, rd h4 (add (mk h.size 0 none) 4) = some (int .i64 n11) ∧ S_liveryref13_Table_Take p6 g1_xid n7 s8 n9 s10 n11 h4 fun vs12 h13 =>
 ∃ n14, vs12 = [(int .i64 n14)] ∧
 Q [] h13) else
 (Q [] h4))) → J2 [(bool b3)] h4) →
S_liveryref15_Ssi_runs g0_s g1_xid h1 fun vs15 h16 =>
∃ b17, vs15 = [(bool b17)] ∧
(if b17 = true then (S_liveryref15_Ssi_Safe g0_s g1_xid h16 fun vs18 h19 =>
 ∃ b20, vs18 = [(bool b20)] ∧
 J2 [(bool (!b20))] h19) else
 (J2 [(bool false)] h16))
def A_liveryref15_Ssi_Read : Ann := (.mk none ⟨[], []⟩ .nil (.mk none ⟨[], []⟩ (.mk (some ⟨[0, 1, 5], [(14, (.c .bool))]⟩) ⟨[], []⟩ .nil .nil) .nil))
theorem E_liveryref15_Ssi_Read (g0_s : Option Addr) (g1_xid : Int) (g2_x_0 : Int) (g2_x_1 : ByteArray) (g2_x_2 : Int) (g2_x_3 : ByteArray) (g2_x_4 : Int) (h : Hp) (Q : PQ) : eW 22 Tryz.f44 A_liveryref15_Ssi_Read [(pointer g0_s), (int .i64 g1_xid), (agg #[(int .i64 g2_x_0), (string g2_x_1), (int .i64 g2_x_2), (string g2_x_3), (int .i64 g2_x_4)])] h Q = F_liveryref15_Ssi_Read g0_s g1_xid g2_x_0 g2_x_1 g2_x_2 g2_x_3 g2_x_4 h Q := by kernel_rfl
theorem O_liveryref15_Ssi_Read (g0_s : Option Addr) (g1_xid : Int) (g2_x_0 : Int) (g2_x_1 : ByteArray) (g2_x_2 : Int) (g2_x_3 : ByteArray) (g2_x_4 : Int) {h : Hp} {Q : PQ} (H : F_liveryref15_Ssi_Read g0_s g1_xid g2_x_0 g2_x_1 g2_x_2 g2_x_3 g2_x_4 h Q) : S_liveryref15_Ssi_Read g0_s g1_xid g2_x_0 g2_x_1 g2_x_2 g2_x_3 g2_x_4 h Q :=
 fo Tryz.func44 (E_liveryref15_Ssi_Read g0_s g1_xid g2_x_0 g2_x_1 g2_x_2 g2_x_3 g2_x_4 h Q) H
def F_liverylaw13_Own (g0_x_0 : Int) (g0_x_1 : ByteArray) (g0_x_2 : Int) (g0_x_3 : ByteArray) (g0_x_4 : Int) (h : Hp) (Q : PQ) : Prop :=
wth (Array.push h (Obj.cells #[(int .i64 g0_x_0), (string g0_x_1), (int .i64 g0_x_2), (string g0_x_3), (int .i64 g0_x_4)] T_siread_Thing)) fun h1 =>
wth (Array.push h1 (Obj.cells #[(int .i64 0), (string (ByteArray.mk #[])), (int .i64 0), (string (ByteArray.mk #[])), (int .i64 0)] T_liveryref13_Thing)) fun h2 =>
∃ n3, rd h2 (add (mk h.size 0 none) 0) = some (int .i64 n3) ∧
∃ s4, rd h2 (add (mk h.size 0 none) 1) = some (string s4) ∧
∃ n5, rd h2 (add (mk h.size 0 none) 2) = some (int .i64 n5) ∧
∃ s6, rd h2 (add (mk h.size 0 none) 3) = some (string s6) ∧
∃ n7, rd h2 (add (mk h.size 0 none) 4) = some (int .i64 n7) ∧
stOk h2 (mk h1.size 0 none) 5 ∧ wth (wrs h2 (mk h1.size 0 none) 0 [(int .i64 n3), (string s4), (int .i64 n5), (string s6), (int .i64 n7)]) fun h8 =>
∃ n9, rd h8 (add (mk h1.size 0 none) 0) = some (int .i64 n9) ∧ ∃ s10, rd h8 (add (mk h1.size 0 none) 1) = some (string s10) ∧ ∃ n11, rd h8 (add (mk h1.size 0 none) 2) = some (int .i64 n11) ∧ ∃ s12, rd h8 (add (mk h1.size 0 none) 3) = some (string s12) ∧ ∃ n13, rd h8 (add (mk h1.size 0 none) 4) = some (int .i64 n13) ∧ Q [(agg #[(int .i64 n9), (string s10), (int .i64 n11), (string s12), (int .i64 n13)])] h8
def A_liverylaw13_Own : Ann := .nil
theorem E_liverylaw13_Own (g0_x_0 : Int) (g0_x_1 : ByteArray) (g0_x_2 : Int) (g0_x_3 : ByteArray) (g0_x_4 : Int) (h : Hp) (Q : PQ) : eW 14 Tryz.f45 A_liverylaw13_Own [(agg #[(int .i64 g0_x_0), (string g0_x_1), (int .i64 g0_x_2), (string g0_x_3), (int .i64 g0_x_4)])] h Q = F_liverylaw13_Own g0_x_0 g0_x_1 g0_x_2 g0_x_3 g0_x_4 h Q := by kernel_rfl
theorem O_liverylaw13_Own (g0_x_0 : Int) (g0_x_1 : ByteArray) (g0_x_2 : Int) (g0_x_3 : ByteArray) (g0_x_4 : Int) {h : Hp} {Q : PQ} (H : F_liverylaw13_Own g0_x_0 g0_x_1 g0_x_2 g0_x_3 g0_x_4 h Q) : S_liverylaw13_Own g0_x_0 g0_x_1 g0_x_2 g0_x_3 g0_x_4 h Q :=
 fo Tryz.func45 (E_liverylaw13_Own g0_x_0 g0_x_1 g0_x_2 g0_x_3 g0_x_4 h Q) H
def F_liveryref13_put (g0_l : Sl) (g1_n : Int) (h : Hp) (Q : PQ) : Prop :=
∀ X1 : PQ, (∀ n2 : Int, ∀ h3 : Hp, (∀ J4 : PQ, (∀ b5 : Bool, ∀ h6 : Hp, ((if b5 = true then
 (X1 [(int .i64 (IntKind.wrap .i64 (n2 + 1)))] h6) else
 (∀ J7 : PQ, (∀ b8 : Bool, ∀ h9 : Hp, ((if b8 = true then
 (Q [(slice g0_l.a g0_l.n g0_l.c)] h9) else
 ((0 ≤ n2 ∧ n2 ≤ (g0_l.c : Nat)) ∧ (0 ≤ n2 ∧ n2 ≤ (g0_l.n : Nat)) ∧ (wth (Array.push h9 (Obj.cells #[] T_int)) fun h10 =>
 (∃ cs20 : List Value, cellsAt h10 (slAd g0_l.a 0 g0_l.c 1) (((Int.toNat n2) - 0) * 1) cs20 ∧ appS PP T_int 8 1 h10 ⟨(some (mk h9.size 0 none)), 0, 0⟩ ((Int.toNat n2) - 0) cs20 fun (l11 : Sl) (h12 : Hp) =>
 wth (Array.push h12 (Obj.cells #[(int .i64 g1_n)] T_int)) fun h13 =>
 ∃ cs19 : List Value, cellsAt h13 (some (mk h12.size 0 none)) (1 * 1) cs19 ∧ appS PP T_int 8 1 h13 ⟨l11.a, l11.n, l11.c⟩ 1 cs19 fun (l14 : Sl) (h15 : Hp) =>
 ∃ cs18 : List Value, cellsAt h15 (slAd g0_l.a (Int.toNat n2) g0_l.c 1) ((g0_l.n - (Int.toNat n2)) * 1) cs18 ∧ appS PP T_int 8 1 h15 ⟨l14.a, l14.n, l14.c⟩ (g0_l.n - (Int.toNat n2)) cs18 fun (l16 : Sl) (h17 : Hp) =>
 Q [(slice l16.a l16.n l16.c)] h17) ∧
 (wth (Array.push h10 (Obj.cells #[(int .i64 g1_n)] T_int)) fun h21 =>
 ∃ cs30 : List Value, cellsAt h21 (slAd g0_l.a 0 g0_l.c 1) (((Int.toNat n2) - 0) * 1) cs30 ∧ appS PP T_int 8 1 h21 ⟨(some (mk h9.size 0 none)), 0, 0⟩ ((Int.toNat n2) - 0) cs30 fun (l22 : Sl) (h23 : Hp) =>
 ∃ cs29 : List Value, cellsAt h23 (some (mk h10.size 0 none)) (1 * 1) cs29 ∧ appS PP T_int 8 1 h23 ⟨l22.a, l22.n, l22.c⟩ 1 cs29 fun (l24 : Sl) (h25 : Hp) =>
 ∃ cs28 : List Value, cellsAt h25 (slAd g0_l.a (Int.toNat n2) g0_l.c 1) ((g0_l.n - (Int.toNat n2)) * 1) cs28 ∧ appS PP T_int 8 1 h25 ⟨l24.a, l24.n, l24.c⟩ (g0_l.n - (Int.toNat n2)) cs28 fun (l26 : Sl) (h27 : Hp) =>
 Q [(slice l26.a l26.n l26.c)] h27)) ∧
 (wth (Array.push h9 (Obj.cells #[(int .i64 g1_n)] T_int)) fun h31 =>
 wth (Array.push h31 (Obj.cells #[] T_int)) fun h32 =>
 ∃ cs41 : List Value, cellsAt h32 (slAd g0_l.a 0 g0_l.c 1) (((Int.toNat n2) - 0) * 1) cs41 ∧ appS PP T_int 8 1 h32 ⟨(some (mk h31.size 0 none)), 0, 0⟩ ((Int.toNat n2) - 0) cs41 fun (l33 : Sl) (h34 : Hp) =>
 ∃ cs40 : List Value, cellsAt h34 (some (mk h9.size 0 none)) (1 * 1) cs40 ∧ appS PP T_int 8 1 h34 ⟨l33.a, l33.n, l33.c⟩ 1 cs40 fun (l35 : Sl) (h36 : Hp) =>
 ∃ cs39 : List Value, cellsAt h36 (slAd g0_l.a (Int.toNat n2) g0_l.c 1) ((g0_l.n - (Int.toNat n2)) * 1) cs39 ∧ appS PP T_int 8 1 h36 ⟨l35.a, l35.n, l35.c⟩ (g0_l.n - (Int.toNat n2)) cs39 fun (l37 : Sl) (h38 : Hp) =>
 Q [(slice l37.a l37.n l37.c)] h38)))) → J7 [(bool b8)] h9) →
 (if (decide (n2 < (g0_l.n : Int))) = true then (nilW g0_l.a fun a42 => ixOk n2 g0_l.n (∃ n43, rd h6 (add a42 (Int.toNat n2 * 1)) = some (int .i64 n43) ∧
 J7 [(bool (n43 == g1_n))] h6)) else
 (J7 [(bool false)] h6))))) → J4 [(bool b5)] h6) →
 (if (decide (n2 < (g0_l.n : Int))) = true then (nilW g0_l.a fun a44 => ixOk n2 g0_l.n (∃ n45, rd h3 (add a44 (Int.toNat n2 * 1)) = some (int .i64 n45) ∧
 J4 [(bool (decide (n45 < g1_n)))] h3)) else
 (J4 [(bool false)] h3))) → X1 [(int .i64 n2)] h3) →
X1 [(int .i64 0)] h
def A_liveryref13_put : Ann := (.mk none ⟨[], []⟩ .nil (.mk none ⟨[], []⟩ .nil (.mk none ⟨[], []⟩ (.mk none ⟨[], []⟩ (.mk none ⟨[0, 1], [(5, (.c (.int .i64)))]⟩ (.mk none ⟨[], []⟩ (.mk none ⟨[], []⟩ (.mk (some ⟨[0, 1, 5], [(17, (.c .bool))]⟩) ⟨[], []⟩ .nil .nil) .nil) .nil) .nil) .nil) (.mk none ⟨[], []⟩ (.mk none ⟨[], []⟩ (.mk (some ⟨[0, 1, 5], [(31, (.c .bool))]⟩) ⟨[], []⟩ .nil .nil) .nil) .nil))))
theorem E_liveryref13_put (g0_l : Sl) (g1_n : Int) (h : Hp) (Q : PQ) : eW 45 Tryz.f139 A_liveryref13_put [(slice g0_l.a g0_l.n g0_l.c), (int .i64 g1_n)] h Q = F_liveryref13_put g0_l g1_n h Q := by kernel_rfl
theorem O_liveryref13_put (g0_l : Sl) (g1_n : Int) {h : Hp} {Q : PQ} (H : F_liveryref13_put g0_l g1_n h Q) : S_liveryref13_put g0_l g1_n h Q :=
 fo Tryz.func139 (E_liveryref13_put g0_l g1_n h Q) H
def F_liveryref13_Table_Owners (g0_t : Option Addr) (g1_x_0 : Int) (g1_x_1 : ByteArray) (g1_x_2 : Int) (g1_x_3 : ByteArray) (g1_x_4 : Int) (h : Hp) (Q : PQ) : Prop :=
wth (Array.push h (Obj.cells #[(int .i64 g1_x_0), (string g1_x_1), (int .i64 g1_x_2), (string g1_x_3), (int .i64 g1_x_4)] T_liveryref13_Thing)) fun h1 =>
∀ X2 : PQ, (∀ l3 : Sl, ∀ n4 : Int, ∀ h5 : Hp, (nilW g0_t fun a6 => ∃ l7 : Sl, rd h5 (add a6 0) = some (slice l7.a l7.n l7.c) ∧
 (if (decide (n4 < (l7.n : Int))) = true then
 (∀ J8 : PQ, (∀ l9 : Sl, ∀ h10 : Hp, (X2 [(slice l9.a l9.n l9.c), (int .i64 (IntKind.wrap .i64 (n4 + 1)))] h10) → J8 [(slice l9.a l9.n l9.c)] h10) →
 nilW g0_t fun a11 => ∃ l12 : Sl, rd h5 (add a11 0) = some (slice l12.a l12.n l12.c) ∧
 nilW l12.a fun a13 => ixOk n4 l12.n (∃ n14, rd h5 (add (add (add a13 (Int.toNat n4 * 6)) 1) 0) = some (int .i64 n14) ∧ ∃ s15, rd h5 (add (add (add a13 (Int.toNat n4 * 6)) 1) 1) = some (string s15) ∧ ∃ n16, rd h5 (add (add (add a13 (Int.toNat n4 * 6)) 1) 2) = some (int .i64 n16) ∧ ∃ s17, rd h5 (add (add (add a13 (Int.toNat n4 * 6)) 1) 3) = some (string s17) ∧ ∃ n18, rd h5 (add (add (add a13 (Int.toNat n4 * 6)) 1) 4) = some (int .i64 n18) ∧ wth (Array.push h5 (Obj.cells #[(int .i64 0), (string (ByteArray.mk #[])), (int .i64 0), (string (ByteArray.mk #[])), (int .i64 0)] T_liveryref13_Thing)) fun h19 =>
 stOk h19 (mk h5.size 0 none) 5 ∧ wth (wrs h19 (mk h5.size 0 none) 0 [(int .i64 n14), (string s15), (int .i64 n16), (string s17), (int .i64 n18)]) fun h20 =>
 ∀ J21 : PQ, (∀ b22 : Bool, ∀ h23 : Hp, ((if b22 = true then
 (nilW g0_t fun a24 => ∃ l25 : Sl, rd h23 (add a24 0) = some (slice l25.a l25.n l25.c) ∧
 nilW l25.a fun a26 => ixOk n4 l25.n (∃ n27, rd h23 (add (add a26 (Int.toNat n4 * 6)) 0) = some (int .i64 n27) ∧
 S_liveryref13_put ⟨l3.a, l3.n, l3.c⟩ n27 h23 fun vs28 h29 =>
 ∃ l30 : Sl, vs28 = [(slice l30.a l30.n l30.c)] ∧
 J8 [(slice l30.a l30.n l30.c)] h29)) else
 (J8 [(slice l3.a l3.n l3.c)] h23))) → J21 [(bool b22)] h23) →
 ∃ n31, rd h20 (add (mk h5.size 0 none) 0) = some (int .i64 n31) ∧ ∃ s32, rd h20 (add (mk h5.size 0 none) 1) = some (string s32) ∧ ∃ n33, rd h20 (add (mk h5.size 0 none) 2) = some (int .i64 n33) ∧ ∃ s34, rd h20 (add (mk h5.size 0 none) 3) = some (string s34) ∧ ∃ n35, rd h20 (add (mk h5.size 0 none) 4) = some (int .i64 n35) ∧ ∃ n36, rd h20 (add (mk h.size 0 none) 0) = some (int .i64 n36) ∧ ∃ s37, rd h20 (add (mk h.size 0 none) 1) = some (string s37) ∧ ∃ n38, rd h20 (add (mk h.size 0 none) 2) = some (int .i64 n38) ∧ ∃ s39, rd h20 (add (mk h.size 0 none) 3) = some (string s39) ∧ ∃ n40, rd h20 (add (mk h.size 0 none) 4) = some (int .i64 n40) ∧ (if (n31 == n36 && (s32 == s37 && (n33 == n38 && (s34 == s39 && (n35 == n40 && true))))) = true then (J21 [(bool true)] h20) else
 (∃ n41, rd h20 (add (mk h.size 0 none) 0) = some (int .i64 n41) ∧ ∃ s42, rd h20 (add (mk h.size 0 none) 1) = some (string s42) ∧ ∃ n43, rd h20 (add (mk h.size 0 none) 2) = some (int .i64 n43) ∧ ∃ s44, rd h20 (add (mk h.size 0 none) 3) = some (string s44) ∧ ∃ n45, rd h20 (add (mk h.size 0 none) 4) = some (int .i64 n45) ∧ S_liveryref13_fine n41 s42 n43 s44 n45 h20 fun vs46 h47 =>
 ∃ b48, vs46 = [(bool b48)] ∧
 (if b48 = true then (∃ n49, rd h47 (add (mk h5.size 0 none) 0) = some (int .i64 n49) ∧ ∃ s50, rd h47 (add (mk h5.size 0 none) 1) = some (string s50) ∧ ∃ n51, rd h47 (add (mk h5.size 0 none) 2) = some (int .i64 n51) ∧ ∃ s52, rd h47 (add (mk h5.size 0 none) 3) = some (string s52) ∧ ∃ n53, rd h47 (add (mk h5.size 0 none) 4) = some (int .i64 n53) ∧ ∃ n54, rd h47 (add (mk h.size 0 none) 0) = some (int .i64 n54) ∧ ∃ s55, rd h47 (add (mk h.size 0 none) 1) = some (string s55) ∧ ∃ n56, rd h47 (add (mk h.size 0 none) 2) = some (int .i64 n56) ∧ ∃ s57, rd h47 (add (mk h.size 0 none) 3) = some (string s57) ∧ ∃ n58, rd h47 (add (mk h.size 0 none) 4) = some (int .i64 n58) ∧ S_liveryref13_rel n54 s55 n56 s57 n58 h47 fun vs59 h60 =>
 ∃ n61, ∃ s62, ∃ n63, ∃ s64, ∃ n65, vs59 = [(agg #[(int .i64 n61), (string s62), (int .i64 n63), (string s64), (int .i64 n65)])] ∧
 rd h60 (add (mk h5.size 0 none) 0) = some (int .i64 n49) ∧ rd h60 (add (mk h5.size 0 none) 1) = some (string s50) ∧ rd h60 (add (mk h5.size 0 none) 2) = some (int .i64 n51) ∧ rd h60 (add (mk h5.size 0 none) 3) = some (string s52) ∧ rd h60 (add (mk h5.size 0 none) 4) = some (int .i64 n53) ∧ J21 [(bool (n49 == n61 && (s50 == s62 && (n51 == n63 && (s52 == s64 && (n53 == n65 && true))))))] h60) else
 (J21 [(bool false)] h47)))))) else
 (Q [(slice l3.a l3.n l3.c)] h5))) → X2 [(slice l3.a l3.n l3.c), (int .i64 n4)] h5) →
X2 [(slice none 0 0), (int .i64 0)] h1
def A_liveryref13_Table_Owners : Ann := (.mk none ⟨[], []⟩ .nil (.mk none ⟨[], []⟩ .nil (.mk none ⟨[], []⟩ (.mk none ⟨[], []⟩ .nil (.mk none ⟨[], []⟩ (.mk none ⟨[0, 3], [(5, (.c .sl)), (6, (.c (.int .i64)))]⟩ (.mk none ⟨[], []⟩ .nil (.mk none ⟨[], []⟩ (.mk (some ⟨[0, 3, 6], [(5, (.c .sl))]⟩) ⟨[], []⟩ (.mk none ⟨[], []⟩ .nil (.mk none ⟨[], []⟩ (.mk (some ⟨[0, 3, 5, 6], [(37, (.c .bool))]⟩) ⟨[], []⟩ .nil .nil) .nil)) .nil) .nil)) .nil) .nil)) .nil)))
theorem E_liveryref13_Table_Owners (g0_t : Option Addr) (g1_x_0 : Int) (g1_x_1 : ByteArray) (g1_x_2 : Int) (g1_x_3 : ByteArray) (g1_x_4 : Int) (h : Hp) (Q : PQ) : eW 49 Tryz.f95 A_liveryref13_Table_Owners [(pointer g0_t), (agg #[(int .i64 g1_x_0), (string g1_x_1), (int .i64 g1_x_2), (string g1_x_3), (int .i64 g1_x_4)])] h Q = F_liveryref13_Table_Owners g0_t g1_x_0 g1_x_1 g1_x_2 g1_x_3 g1_x_4 h Q := by kernel_rfl
theorem O_liveryref13_Table_Owners (g0_t : Option Addr) (g1_x_0 : Int) (g1_x_1 : ByteArray) (g1_x_2 : Int) (g1_x_3 : ByteArray) (g1_x_4 : Int) {h : Hp} {Q : PQ} (H : F_liveryref13_Table_Owners g0_t g1_x_0 g1_x_1 g1_x_2 g1_x_3 g1_x_4 h Q) : S_liveryref13_Table_Owners g0_t g1_x_0 g1_x_1 g1_x_2 g1_x_3 g1_x_4 h Q :=
 fo Tryz.func95 (E_liveryref13_Table_Owners g0_t g1_x_0 g1_x_1 g1_x_2 g1_x_3 g1_x_4 h Q) H
def F_liveryref14_Edges_Old (g0_e : Option Addr) (g1_xid : Int) (h : Hp) (Q : PQ) : Prop :=
∀ X1 : PQ, (∀ n2 : Int, ∀ h3 : Hp, (nilW g0_e fun a4 => ∃ l5 : Sl, rd h3 (add a4 2) = some (slice l5.a l5.n l5.c) ∧
 (if (decide (n2 < (l5.n : Int))) = true then
 (nilW g0_e fun a6 => ∃ l7 : Sl, rd h3 (add a6 2) = some (slice l7.a l7.n l7.c) ∧
 nilW l7.a fun a8 => ixOk n2 l7.n (ixOk 0 2 (∃ n9, rd h3 (add (add a8 (Int.toNat n2 * 2)) (Int.toNat 0 * 1)) = some (int .i64 n9) ∧
 (if (n9 == g1_xid) = true then
 (nilW g0_e fun a10 => ∃ l11 : Sl, rd h3 (add a10 2) = some (slice l11.a l11.n l11.c) ∧
 nilW l11.a fun a12 => ixOk n2 l11.n (ixOk 1 2 (∃ n13, rd h3 (add (add a12 (Int.toNat n2 * 2)) (Int.toNat 1 * 1)) = some (int .i64 n13) ∧
 Q [(int .i64 n13)] h3))) else
 (X1 [(int .i64 (IntKind.wrap .i64 (n2 + 1)))] h3))))) else
 (Q [(int .i64 0)] h3))) → X1 [(int .i64 n2)] h3) →
X1 [(int .i64 0)] h
def A_liveryref14_Edges_Old : Ann := (.mk none ⟨[], []⟩ .nil (.mk none ⟨[], []⟩ (.mk none ⟨[], []⟩ .nil (.mk none ⟨[], []⟩ (.mk none ⟨[0, 1], [(5, (.c (.int .i64)))]⟩ .nil .nil) .nil)) .nil))
theorem E_liveryref14_Edges_Old (g0_e : Option Addr) (g1_xid : Int) (h : Hp) (Q : PQ) : eW 33 Tryz.f140 A_liveryref14_Edges_Old [(pointer g0_e), (int .i64 g1_xid)] h Q = F_liveryref14_Edges_Old g0_e g1_xid h Q := by kernel_rfl
theorem O_liveryref14_Edges_Old (g0_e : Option Addr) (g1_xid : Int) {h : Hp} {Q : PQ} (H : F_liveryref14_Edges_Old g0_e g1_xid h Q) : S_liveryref14_Edges_Old g0_e g1_xid h Q :=
 fo Tryz.func140 (E_liveryref14_Edges_Old g0_e g1_xid h Q) H
def F_liveryref14_Edges_OldIn (g0_e : Option Addr) (g1_b : Int) (g2_csn : Int) (h : Hp) (Q : PQ) : Prop :=
nilW g0_e fun a1 => ∃ p2, rd h (add a1 0) = some (pointer p2) ∧
S_liveryref08_Log_Get p2 g1_b h fun vs3 h4 =>
∃ n5, ∃ n6, ∃ n7, ∃ b8, vs3 = [(agg #[(int .i64 n5), (int .i64 n6), (int .i64 n7), (bool b8)])] ∧
wth (Array.push h4 (Obj.cells #[(int .i64 0), (int .i64 0), (int .i64 0), (bool false)] T_liveryref08_Tx)) fun h9 =>
stOk h9 (mk h4.size 0 none) 4 ∧ wth (wrs h9 (mk h4.size 0 none) 0 [(int .i64 n5), (int .i64 n6), (int .i64 n7), (bool b8)]) fun h10 =>
∀ J11 : PQ, (∀ b12 : Bool, ∀ h13 : Hp, ((if b12 = true then
 (Q [(bool false)] h13) else
 (∀ X14 : PQ, (∀ l15 : Sl, ∀ n16 : Int, ∀ h17 : Hp, (nilW g0_e fun a18 => ∃ l19 : Sl, rd h17 (add a18 2) = some (slice l19.a l19.n l19.c) ∧
 (if (decide (n16 < (l19.n : Int))) = true then
 (∀ J20 : PQ, (∀ l21 : Sl, ∀ h22 : Hp, (X14 [(slice l21.a l21.n l21.c), (int .i64 (IntKind.wrap .i64 (n16 + 1)))] h22) → J20 [(slice l21.a l21.n l21.c)] h22) →
 nilW g0_e fun a23 => ∃ l24 : Sl, rd h17 (add a23 2) = some (slice l24.a l24.n l24.c) ∧
 nilW l24.a fun a25 => ixOk n16 l24.n (ixOk 0 2 (∃ n26, rd h17 (add (add a25 (Int.toNat n16 * 2)) (Int.toNat 0 * 1)) = some (int .i64 n26) ∧
 (if (n26 != g1_b) = true then
 (nilW g0_e fun a27 => ∃ l28 : Sl, rd h17 (add a27 2) = some (slice l28.a l28.n l28.c) ∧
 nilW l28.a fun a29 => ixOk n16 l28.n (∃ n30, rd h17 (add (add a29 (Int.toNat n16 * 2)) 0) = some (int .i64 n30) ∧ ∃ n31, rd h17 (add (add a29 (Int.toNat n16 * 2)) 1) = some (int .i64 n31) ∧ wth (Array.push h17 (Obj.cells #[(int .i64 n30), (int .i64 n31)] T_2_int)) fun h32 =>
 ∃ cs35 : List Value, cellsAt h32 (some (mk h17.size 0 none)) (1 * 2) cs35 ∧ appS PP T_2_int 16 2 h32 ⟨l15.a, l15.n, l15.c⟩ 1 cs35 fun (l33 : Sl) (h34 : Hp) =>
 J20 [(slice l33.a l33.n l33.c)] h34)) else
 (J20 [(slice l15.a l15.n l15.c)] h17))))) else
 (wth (Array.push h17 (Obj.cells #[(int .i64 g1_b), (int .i64 g2_csn)] T_2_int)) fun h36 =>
 ∃ cs41 : List Value, cellsAt h36 (some (mk h17.size 0 none)) (1 * 2) cs41 ∧ appS PP T_2_int 16 2 h36 ⟨l15.a, l15.n, l15.c⟩ 1 cs41 fun (l37 : Sl) (h38 : Hp) =>
 nilW g0_e fun a39 => stOk h38 (add a39 2) 1 ∧ wth (wrs h38 (add a39 2) 0 [(slice l37.a l37.n l37.c)]) fun h40 =>
 Q [(bool true)] h40))) → X14 [(slice l15.a l15.n l15.c), (int .i64 n16)] h17) →
 X14 [(slice none 0 0), (int .i64 0)] h13))) → J11 [(bool b12)] h13) →
∃ n42, rd h10 (add (mk h4.size 0 none) 0) = some (int .i64 n42) ∧
(if (n42 != 1) = true then (∃ n43, rd h10 (add (mk h4.size 0 none) 0) = some (int .i64 n43) ∧
 (if (n43 != 2) = true then (J11 [(bool true)] h10) else
 (∃ n44, rd h10 (add (mk h4.size 0 none) 1) = some (int .i64 n44) ∧
 (if (decide (g2_csn ≤ n44)) = true then (J11 [(bool true)] h10) else
 (S_liveryref14_Edges_Old g0_e g1_b h10 fun vs45 h46 =>
 ∃ n47, vs45 = [(int .i64 n47)] ∧
 J11 [(bool (decide (g2_csn ≤ n47)))] h46))))) else
 (∃ n48, rd h10 (add (mk h4.size 0 none) 1) = some (int .i64 n48) ∧
 (if (decide (g2_csn ≤ n48)) = true then (J11 [(bool true)] h10) else
 (S_liveryref14_Edges_Old g0_e g1_b h10 fun vs49 h50 =>
 ∃ n51, vs49 = [(int .i64 n51)] ∧
 J11 [(bool (decide (g2_csn ≤ n51)))] h50))))
def A_liveryref14_Edges_OldIn : Ann := (.mk none ⟨[], []⟩ .nil (.mk none ⟨[], []⟩ .nil (.mk none ⟨[], []⟩ (.mk none ⟨[], []⟩ (.mk (some ⟨[0, 1, 2], [(36, (.c .bool))]⟩) ⟨[], []⟩ .nil .nil) .nil) (.mk none ⟨[], []⟩ .nil (.mk none ⟨[], []⟩ (.mk none ⟨[], []⟩ .nil (.mk none ⟨[], []⟩ (.mk none ⟨[0, 1, 2], [(8, (.c .sl)), (9, (.c (.int .i64)))]⟩ (.mk none ⟨[], []⟩ .nil (.mk none ⟨[], []⟩ (.mk (some ⟨[0, 1, 2, 9], [(8, (.c .sl))]⟩) ⟨[], []⟩ .nil .nil) .nil)) .nil) .nil)) .nil)))))
theorem E_liveryref14_Edges_OldIn (g0_e : Option Addr) (g1_b : Int) (g2_csn : Int) (h : Hp) (Q : PQ) : eW 75 Tryz.f96 A_liveryref14_Edges_OldIn [(pointer g0_e), (int .i64 g1_b), (int .i64 g2_csn)] h Q = F_liveryref14_Edges_OldIn g0_e g1_b g2_csn h Q := by kernel_rfl
theorem O_liveryref14_Edges_OldIn (g0_e : Option Addr) (g1_b : Int) (g2_csn : Int) {h : Hp} {Q : PQ} (H : F_liveryref14_Edges_OldIn g0_e g1_b g2_csn h Q) : S_liveryref14_Edges_OldIn g0_e g1_b g2_csn h Q :=
 fo Tryz.func96 (E_liveryref14_Edges_OldIn g0_e g1_b g2_csn h Q) H
def F_liveryref14_Edges_Out (g0_e : Option Addr) (g1_xid : Int) (h : Hp) (Q : PQ) : Prop :=
∀ X1 : PQ, (∀ l2 : Sl, ∀ n3 : Int, ∀ h4 : Hp, (nilW g0_e fun a5 => ∃ l6 : Sl, rd h4 (add a5 1) = some (slice l6.a l6.n l6.c) ∧
 (if (decide (n3 < (l6.n : Int))) = true then
 (∀ J7 : PQ, (∀ l8 : Sl, ∀ h9 : Hp, (X1 [(slice l8.a l8.n l8.c), (int .i64 (IntKind.wrap .i64 (n3 + 1)))] h9) → J7 [(slice l8.a l8.n l8.c)] h9) →
 nilW g0_e fun a10 => ∃ l11 : Sl, rd h4 (add a10 1) = some (slice l11.a l11.n l11.c) ∧
 nilW l11.a fun a12 => ixOk n3 l11.n (ixOk 0 2 (∃ n13, rd h4 (add (add a12 (Int.toNat n3 * 2)) (Int.toNat 0 * 1)) = some (int .i64 n13) ∧
 (if (n13 == g1_xid) = true then
 (nilW g0_e fun a14 => ∃ l15 : Sl, rd h4 (add a14 1) = some (slice l15.a l15.n l15.c) ∧
 nilW l15.a fun a16 => ixOk n3 l15.n (ixOk 1 2 (∃ n17, rd h4 (add (add a16 (Int.toNat n3 * 2)) (Int.toNat 1 * 1)) = some (int .i64 n17) ∧
 wth (Array.push h4 (Obj.cells #[(int .i64 n17)] T_int)) fun h18 =>
 ∃ cs21 : List Value, cellsAt h18 (some (mk h4.size 0 none)) (1 * 1) cs21 ∧ appS PP T_int 8 1 h18 ⟨l2.a, l2.n, l2.c⟩ 1 cs21 fun (l19 : Sl) (h20 : Hp) =>
 J7 [(slice l19.a l19.n l19.c)] h20))) else
 (J7 [(slice l2.a l2.n l2.c)] h4))))) else
 (Q [(slice l2.a l2.n l2.c)] h4))) → X1 [(slice l2.a l2.n l2.c), (int .i64 n3)] h4) →
X1 [(slice none 0 0), (int .i64 0)] h
def A_liveryref14_Edges_Out : Ann := (.mk none ⟨[], []⟩ .nil (.mk none ⟨[], []⟩ .nil (.mk none ⟨[], []⟩ (.mk none ⟨[], []⟩ .nil (.mk none ⟨[], []⟩ (.mk none ⟨[0, 1], [(5, (.c .sl)), (6, (.c (.int .i64)))]⟩ (.mk none ⟨[], []⟩ .nil (.mk none ⟨[], []⟩ (.mk (some ⟨[0, 1, 6], [(5, (.c .sl))]⟩) ⟨[], []⟩ .nil .nil) .nil)) .nil) .nil)) .nil)))
theorem E_liveryref14_Edges_Out (g0_e : Option Addr) (g1_xid : Int) (h : Hp) (Q : PQ) : eW 38 Tryz.f147 A_liveryref14_Edges_Out [(pointer g0_e), (int .i64 g1_xid)] h Q = F_liveryref14_Edges_Out g0_e g1_xid h Q := by kernel_rfl
theorem O_liveryref14_Edges_Out (g0_e : Option Addr) (g1_xid : Int) {h : Hp} {Q : PQ} (H : F_liveryref14_Edges_Out g0_e g1_xid h Q) : S_liveryref14_Edges_Out g0_e g1_xid h Q :=
 fo Tryz.func147 (E_liveryref14_Edges_Out g0_e g1_xid h Q) H
def F_liveryref14_Edges_Spoilt (g0_e : Option Addr) (g1_p : Int) (h : Hp) (Q : PQ) : Prop :=
wth (Array.push h (Obj.cells #[(slice none 0 0), (bool false)] T_liveryref14_Verdict)) fun h1 =>
wth (Array.push h1 (Obj.cells #[(slice none 0 0), (bool false)] T_liveryref14_Verdict)) fun h2 =>
S_liveryref14_Edges_In g0_e g1_p h2 fun vs3 h4 =>
∃ l5 : Sl, vs3 = [(slice l5.a l5.n l5.c)] ∧
S_liveryref14_Edges_Out g0_e g1_p h4 fun vs6 h7 =>
∃ l8 : Sl, vs6 = [(slice l8.a l8.n l8.c)] ∧
nilW g0_e fun a9 => ∃ p10, rd h7 (add a9 0) = some (pointer p10) ∧
S_liveryref08_Log_Get p10 g1_p h7 fun vs11 h12 =>
∃ n13, ∃ n14, ∃ n15, ∃ b16, vs11 = [(agg #[(int .i64 n13), (int .i64 n14), (int .i64 n15), (bool b16)])] ∧
wth (Array.push h12 (Obj.cells #[(int .i64 0), (int .i64 0), (int .i64 0), (bool false)] T_liveryref08_Tx)) fun h17 =>
stOk h17 (mk h12.size 0 none) 4 ∧ wth (wrs h17 (mk h12.size 0 none) 0 [(int .i64 n13), (int .i64 n14), (int .i64 n15), (bool b16)]) fun h18 =>
∀ X19 : PQ, (∀ n20 : Int, ∀ h21 : Hp, ((if (decide (n20 < (l8.n : Int))) = true then
 (∀ J22 : PQ, (∀ h23 : Hp, (X19 [(int .i64 (IntKind.wrap .i64 (n20 + 1)))] h23) → J22 [] h23) →
 ∀ J24 : PQ, (∀ a25 : Addr, ∀ h26 : Hp, (∀ J27 : PQ, (∀ b28 : Bool, ∀ h29 : Hp, ((if b28 = true then
 (J22 [] h29) else
 (∀ J30 : PQ, (∀ b31 : Bool, ∀ h32 : Hp, (∀ J33 : PQ, (∀ h34 : Hp, (∀ X35 : PQ, (∀ n36 : Int, ∀ h37 : Hp, ((if (decide (n36 < (l5.n : Int))) = true then
 (∀ J38 : PQ, (∀ h39 : Hp, (X35 [(int .i64 (IntKind.wrap .i64 (n36 + 1)))] h39) → J38 [] h39) →
 ∀ J40 : PQ, (∀ a41 : Addr, ∀ h42 : Hp, (∀ J43 : PQ, (∀ b44 : Bool, ∀ h45 : Hp, ((if b44 = true then
 (J38 [] h45) else
 (stOk h45 (add (mk h1.size 0 none) 1) 1 ∧ wth (wrs h45 (add (mk h1.size 0 none) 1) 0 [(bool true)]) fun h46 =>
 ∃ n47, rd h46 (add a41 0) = some (int .i64 n47) ∧
 (if (n47 == 1) = true then
 (∃ l48 : Sl, rd h46 (add (mk h1.size 0 none) 0) = some (slice l48.a l48.n l48.c) ∧
 nilW l5.a fun a49 => ixOk n36 l5.n (∃ n50, rd h46 (add a49 (Int.toNat n36 * 1)) = some (int .i64 n50) ∧
 S_liveryref14_put ⟨l48.a, l48.n, l48.c⟩ n50 h46 fun vs51 h52 =>
 ∃ l53 : Sl, vs51 = [(slice l53.a l53.n l53.c)] ∧
 stOk h52 (add (mk h1.size 0 none) 0) 1 ∧ wth (wrs h52 (add (mk h1.size 0 none) 0) 0 [(slice l53.a l53.n l53.c)]) fun h54 =>
 J38 [] h54)) else
 (J38 [] h46))))) → J43 [(bool b44)] h45) →
 ∃ n55, rd h42 (add a41 0) = some (int .i64 n55) ∧
 (if (n55 == 2) = true then (∃ n56, rd h42 (add a41 2) = some (int .i64 n56) ∧
 ∃ n57, rd h42 (add a25 2) = some (int .i64 n57) ∧
 (if (decide (n56 < n57)) = true then (J43 [(bool true)] h42) else
 (∃ b58, rd h42 (add a41 3) = some (bool b58) ∧
 (if b58 = true then (∃ n59, rd h42 (add a41 1) = some (int .i64 n59) ∧
 ∃ n60, rd h42 (add a25 2) = some (int .i64 n60) ∧
 J43 [(bool (decide (n59 < n60)))] h42) else
 (J43 [(bool false)] h42))))) else
 (∃ b61, rd h42 (add a41 3) = some (bool b61) ∧
 (if b61 = true then (∃ n62, rd h42 (add a41 1) = some (int .i64 n62) ∧
 ∃ n63, rd h42 (add a25 2) = some (int .i64 n63) ∧
 J43 [(bool (decide (n62 < n63)))] h42) else
 (J43 [(bool false)] h42))))) → J40 [(pointer (some a41))] h42) →
 nilW g0_e fun a64 => ∃ p65, rd h37 (add a64 0) = some (pointer p65) ∧
 nilW l5.a fun a66 => ixOk n36 l5.n (∃ n67, rd h37 (add a66 (Int.toNat n36 * 1)) = some (int .i64 n67) ∧
 (S_liveryref08_Log_Get p65 n67 h37 fun vs68 h69 =>
 ∃ n70, ∃ n71, ∃ n72, ∃ b73, vs68 = [(agg #[(int .i64 n70), (int .i64 n71), (int .i64 n72), (bool b73)])] ∧
 wth (Array.push h69 (Obj.cells #[(int .i64 0), (int .i64 0), (int .i64 0), (bool false)] T_liveryref08_Tx)) fun h74 =>
 stOk h74 (mk h69.size 0 none) 4 ∧ wth (wrs h74 (mk h69.size 0 none) 0 [(int .i64 n70), (int .i64 n71), (int .i64 n72), (bool b73)]) fun h75 =>
 J40 [(pointer (some (mk h69.size 0 none)))] h75) ∧
 (wth (Array.push h37 (Obj.cells #[(int .i64 0), (int .i64 0), (int .i64 0), (bool false)] T_liveryref08_Tx)) fun h76 =>
 rd h76 (add a66 (Int.toNat n36 * 1)) = some (int .i64 n67) ∧ rd h76 (add a64 0) = some (pointer p65) ∧ S_liveryref08_Log_Get p65 n67 h76 fun vs77 h78 =>
 ∃ n79, ∃ n80, ∃ n81, ∃ b82, vs77 = [(agg #[(int .i64 n79), (int .i64 n80), (int .i64 n81), (bool b82)])] ∧
 stOk h78 (mk h37.size 0 none) 4 ∧ wth (wrs h78 (mk h37.size 0 none) 0 [(int .i64 n79), (int .i64 n80), (int .i64 n81), (bool b82)]) fun h83 =>
 J40 [(pointer (some (mk h37.size 0 none)))] h83))) else
 (J22 [] h37))) → X35 [(int .i64 n36)] h37) →
 X35 [(int .i64 0)] h34) → J33 [] h34) →
 (if b31 = true then
 (stOk h32 (add (mk h1.size 0 none) 1) 1 ∧ wth (wrs h32 (add (mk h1.size 0 none) 1) 0 [(bool true)]) fun h84 =>
 J33 [] h84) else
 (J33 [] h32))) → J30 [(bool b31)] h32) →
 S_liveryref14_Edges_Old g0_e g1_p h29 fun vs85 h86 =>
 ∃ n87, vs85 = [(int .i64 n87)] ∧
 (if (decide (n87 > 0)) = true then (∃ n88, rd h86 (add a25 2) = some (int .i64 n88) ∧
 S_liveryref14_Edges_Old g0_e g1_p h86 fun vs89 h90 =>
 ∃ n91, vs89 = [(int .i64 n91)] ∧
 rd h90 (add a25 2) = some (int .i64 n88) ∧ J30 [(bool (decide (n91 ≥ n88)))] h90) else
 (J30 [(bool false)] h86))))) → J27 [(bool b28)] h29) →
 ∃ n92, rd h26 (add a25 0) = some (int .i64 n92) ∧
 (if (n92 != 2) = true then (J27 [(bool true)] h26) else
 (∃ n93, rd h26 (add (mk h12.size 0 none) 0) = some (int .i64 n93) ∧
 (if (n93 == 2) = true then (∃ n94, rd h26 (add (mk h12.size 0 none) 2) = some (int .i64 n94) ∧
 ∃ n95, rd h26 (add a25 2) = some (int .i64 n95) ∧
 J27 [(bool (decide (n94 ≤ n95)))] h26) else
 (J27 [(bool false)] h26))))) → J24 [(pointer (some a25))] h26) →
 nilW g0_e fun a96 => ∃ p97, rd h21 (add a96 0) = some (pointer p97) ∧
 nilW l8.a fun a98 => ixOk n20 l8.n (∃ n99, rd h21 (add a98 (Int.toNat n20 * 1)) = some (int .i64 n99) ∧
 (S_liveryref08_Log_Get p97 n99 h21 fun vs100 h101 =>
 ∃ n102, ∃ n103, ∃ n104, ∃ b105, vs100 = [(agg #[(int .i64 n102), (int .i64 n103), (int .i64 n104), (bool b105)])] ∧
 wth (Array.push h101 (Obj.cells #[(int .i64 0), (int .i64 0), (int .i64 0), (bool false)] T_liveryref08_Tx)) fun h106 =>
 stOk h106 (mk h101.size 0 none) 4 ∧ wth (wrs h106 (mk h101.size 0 none) 0 [(int .i64 n102), (int .i64 n103), (int .i64 n104), (bool b105)]) fun h107 =>
 J24 [(pointer (some (mk h101.size 0 none)))] h107) ∧
 (wth (Array.push h21 (Obj.cells #[(int .i64 0), (int .i64 0), (int .i64 0), (bool false)] T_liveryref08_Tx)) fun h108 =>
 rd h108 (add a98 (Int.toNat n20 * 1)) = some (int .i64 n99) ∧ rd h108 (add a96 0) = some (pointer p97) ∧ S_liveryref08_Log_Get p97 n99 h108 fun vs109 h110 =>
 ∃ n111, ∃ n112, ∃ n113, ∃ b114, vs109 = [(agg #[(int .i64 n111), (int .i64 n112), (int .i64 n113), (bool b114)])] ∧
 stOk h110 (mk h21.size 0 none) 4 ∧ wth (wrs h110 (mk h21.size 0 none) 0 [(int .i64 n111), (int .i64 n112), (int .i64 n113), (bool b114)]) fun h115 =>
 J24 [(pointer (some (mk h21.size 0 none)))] h115))) else
 (∃ l116 : Sl, rd h21 (add (mk h1.size 0 none) 0) = some (slice l116.a l116.n l116.c) ∧ ∃ b117, rd h21 (add (mk h1.size 0 none) 1) = some (bool b117) ∧ stOk h21 (mk h.size 0 none) 2 ∧ wth (wrs h21 (mk h.size 0 none) 0 [(slice l116.a l116.n l116.c), (bool b117)]) fun h118 =>
 ∃ l119 : Sl, rd h118 (add (mk h.size 0 none) 0) = some (slice l119.a l119.n l119.c) ∧ ∃ b120, rd h118 (add (mk h.size 0 none) 1) = some (bool b120) ∧ Q [(agg #[(slice l119.a l119.n l119.c), (bool b120)])] h118))) → X19 [(int .i64 n20)] h21) →
X19 [(int .i64 0)] h18
def A_liveryref14_Edges_Spoilt : Ann := (.mk none ⟨[], []⟩ .nil (.mk none ⟨[], []⟩ .nil (.mk none ⟨[], []⟩ .nil (.mk none ⟨[], []⟩ .nil (.mk none ⟨[], []⟩ (.mk none ⟨[], []⟩ .nil (.mk none ⟨[], []⟩ (.mk none ⟨[0, 1, 4, 5, 6, 7, 8], [(9, (.c (.int .i64)))]⟩ (.mk none ⟨[], []⟩ .nil (.mk none ⟨[], []⟩ (.mk (some ⟨[0, 1, 4, 5, 6, 7, 8, 9], []⟩) ⟨[], []⟩ (.mk none ⟨[], []⟩ (.mk (some ⟨[0, 1, 4, 5, 6, 7, 8, 9], [(10, (.c .adr))]⟩) ⟨[], []⟩ .nil .nil) (.mk none ⟨[], []⟩ (.mk none ⟨[], []⟩ (.mk (some ⟨[0, 1, 4, 5, 6, 7, 8, 9, 10], [(54, (.c .bool))]⟩) ⟨[], []⟩ .nil .nil) .nil) (.mk none ⟨[], []⟩ (.mk none ⟨[], []⟩ (.mk (some ⟨[0, 1, 4, 5, 6, 7, 8, 9, 10], [(66, (.c .bool))]⟩) ⟨[], []⟩ .nil .nil) (.mk (some ⟨[0, 1, 4, 5, 6, 7, 8, 9, 10], []⟩) ⟨[], []⟩ .nil .nil)) (.mk none ⟨[], []⟩ .nil (.mk none ⟨[], []⟩ (.mk none ⟨[0, 1, 4, 5, 6, 7, 8, 9, 10], [(11, (.c (.int .i64)))]⟩ (.mk none ⟨[], []⟩ .nil (.mk none ⟨[], []⟩ (.mk (some ⟨[0, 1, 4, 5, 6, 7, 8, 9, 10, 11], []⟩) ⟨[], []⟩ (.mk none ⟨[], []⟩ (.mk (some ⟨[0, 1, 4, 5, 6, 7, 8, 9, 10, 11], [(12, (.c .adr))]⟩) ⟨[], []⟩ .nil .nil) (.mk none ⟨[], []⟩ (.mk none ⟨[], []⟩ (.mk (some ⟨[0, 1, 4, 5, 6, 7, 8, 9, 10, 11, 12], [(103, (.c .bool))]⟩) ⟨[], []⟩ .nil .nil) .nil) .nil)) .nil) .nil)) .nil) .nil))))) .nil) .nil)) .nil) .nil)) .nil)))))
theorem E_liveryref14_Edges_Spoilt (g0_e : Option Addr) (g1_p : Int) (h : Hp) (Q : PQ) : eW 117 Tryz.f141 A_liveryref14_Edges_Spoilt [(pointer g0_e), (int .i64 g1_p)] h Q = F_liveryref14_Edges_Spoilt g0_e g1_p h Q := by kernel_rfl
theorem O_liveryref14_Edges_Spoilt (g0_e : Option Addr) (g1_p : Int) {h : Hp} {Q : PQ} (H : F_liveryref14_Edges_Spoilt g0_e g1_p h Q) : S_liveryref14_Edges_Spoilt g0_e g1_p h Q :=
 fo Tryz.func141 (E_liveryref14_Edges_Spoilt g0_e g1_p h Q) H
def F_liveryref15_Ssi_pivot (g0_s : Option Addr) (g1_p : Int) (h : Hp) (Q : PQ) : Prop :=
nilW g0_s fun a1 => ∃ p2, rd h (add a1 2) = some (pointer p2) ∧
S_liveryref14_Edges_Spoilt p2 g1_p h fun vs3 h4 =>
∃ l5 : Sl, ∃ b6, vs3 = [(agg #[(slice l5.a l5.n l5.c), (bool b6)])] ∧
wth (Array.push h4 (Obj.cells #[(slice none 0 0), (bool false)] T_liveryref14_Verdict)) fun h7 =>
stOk h7 (mk h4.size 0 none) 2 ∧ wth (wrs h7 (mk h4.size 0 none) 0 [(slice l5.a l5.n l5.c), (bool b6)]) fun h8 =>
∃ b9, rd h8 (add (mk h4.size 0 none) 1) = some (bool b9) ∧
(if (!b9) = true then
 (Q [] h8) else
 (S_liveryref15_Ssi_runs g0_s g1_p h8 fun vs10 h11 =>
 ∃ b12, vs10 = [(bool b12)] ∧
 (if b12 = true then
 (S_liveryref15_Ssi_doom g0_s g1_p h11 fun vs13 h14 =>
 vs13 = [] ∧
 Q [] h14) else
 (∀ X15 : PQ, (∀ n16 : Int, ∀ h17 : Hp, (∃ l18 : Sl, rd h17 (add (mk h4.size 0 none) 0) = some (slice l18.a l18.n l18.c) ∧
 (if (decide (n16 < (l18.n : Int))) = true then
 (∃ l19 : Sl, rd h17 (add (mk h4.size 0 none) 0) = some (slice l19.a l19.n l19.c) ∧
 nilW l19.a fun a20 => ixOk n16 l19.n (∃ n21, rd h17 (add a20 (Int.toNat n16 * 1)) = some (int .i64 n21) ∧
 S_liveryref15_Ssi_doom g0_s n21 h17 fun vs22 h23 =>
 vs22 = [] ∧
 X15 [(int .i64 (IntKind.wrap .i64 (n16 + 1)))] h23)) else
 (Q [] h17))) → X15 [(int .i64 n16)] h17) →
 X15 [(int .i64 0)] h11))))
def A_liveryref15_Ssi_pivot : Ann := (.mk none ⟨[], []⟩ .nil (.mk none ⟨[], []⟩ .nil (.mk none ⟨[], []⟩ .nil (.mk none ⟨[], []⟩ .nil (.mk none ⟨[], []⟩ (.mk none ⟨[0, 4], [(5, (.c (.int .i64)))]⟩ .nil .nil) .nil)))))
theorem E_liveryref15_Ssi_pivot (g0_s : Option Addr) (g1_p : Int) (h : Hp) (Q : PQ) : eW 35 Tryz.f97 A_liveryref15_Ssi_pivot [(pointer g0_s), (int .i64 g1_p)] h Q = F_liveryref15_Ssi_pivot g0_s g1_p h Q := by kernel_rfl
theorem O_liveryref15_Ssi_pivot (g0_s : Option Addr) (g1_p : Int) {h : Hp} {Q : PQ} (H : F_liveryref15_Ssi_pivot g0_s g1_p h Q) : S_liveryref15_Ssi_pivot g0_s g1_p h Q :=
 fo Tryz.func97 (E_liveryref15_Ssi_pivot g0_s g1_p h Q) H
def F_liveryref08_Log_Sees (g0_l : Option Addr) (g1_xid : Int) (g2_other : Int) (h : Hp) (Q : PQ) : Prop :=
S_liveryref08_Log_Get g0_l g1_xid h fun vs1 h2 =>
∃ n3, ∃ n4, ∃ n5, ∃ b6, vs1 = [(agg #[(int .i64 n3), (int .i64 n4), (int .i64 n5), (bool b6)])] ∧
S_liveryref08_Log_Get g0_l g2_other h2 fun vs7 h8 =>
∃ n9, ∃ n10, ∃ n11, ∃ b12, vs7 = [(agg #[(int .i64 n9), (int .i64 n10), (int .i64 n11), (bool b12)])] ∧
wth (Array.push h8 (Obj.cells #[(int .i64 0), (int .i64 0), (int .i64 0), (bool false)] T_liveryref08_Tx)) fun h13 =>
wth (Array.push h13 (Obj.cells #[(int .i64 0), (int .i64 0), (int .i64 0), (bool false)] T_liveryref08_Tx)) fun h14 =>
stOk h14 (mk h8.size 0 none) 4 ∧ wth (wrs h14 (mk h8.size 0 none) 0 [(int .i64 n3), (int .i64 n4), (int .i64 n5), (bool b6)]) fun h15 =>
stOk h15 (mk h13.size 0 none) 4 ∧ wth (wrs h15 (mk h13.size 0 none) 0 [(int .i64 n9), (int .i64 n10), (int .i64 n11), (bool b12)]) fun h16 =>
∃ n17, rd h16 (add (mk h8.size 0 none) 0) = some (int .i64 n17) ∧
(if (n17 == 0) = true then
 (Q [(bool false)] h16) else
 ((if (g1_xid == g2_other) = true then (Q [(bool true)] h16) else
 (∃ n18, rd h16 (add (mk h13.size 0 none) 0) = some (int .i64 n18) ∧
 (if (n18 == 2) = true then (∃ n19, rd h16 (add (mk h13.size 0 none) 2) = some (int .i64 n19) ∧
 ∃ n20, rd h16 (add (mk h8.size 0 none) 1) = some (int .i64 n20) ∧
 Q [(bool (decide (n19 ≤ n20)))] h16) else
 (Q [(bool false)] h16))))))
def A_liveryref08_Log_Sees : Ann := .nil
theorem E_liveryref08_Log_Sees (g0_l : Option Addr) (g1_xid : Int) (g2_other : Int) (h : Hp) (Q : PQ) : eW 33 Tryz.f191 A_liveryref08_Log_Sees [(pointer g0_l), (int .i64 g1_xid), (int .i64 g2_other)] h Q = F_liveryref08_Log_Sees g0_l g1_xid g2_other h Q := by kernel_rfl
theorem O_liveryref08_Log_Sees (g0_l : Option Addr) (g1_xid : Int) (g2_other : Int) {h : Hp} {Q : PQ} (H : F_liveryref08_Log_Sees g0_l g1_xid g2_other h Q) : S_liveryref08_Log_Sees g0_l g1_xid g2_other h Q :=
 fo Tryz.func191 (E_liveryref08_Log_Sees g0_l g1_xid g2_other h Q) H
def F_liveryref08_Log_Beside (g0_l : Option Addr) (g1_a : Int) (g2_b : Int) (h : Hp) (Q : PQ) : Prop :=
S_liveryref08_Log_Get g0_l g1_a h fun vs1 h2 =>
∃ n3, ∃ n4, ∃ n5, ∃ b6, vs1 = [(agg #[(int .i64 n3), (int .i64 n4), (int .i64 n5), (bool b6)])] ∧
S_liveryref08_Log_Get g0_l g2_b h2 fun vs7 h8 =>
∃ n9, ∃ n10, ∃ n11, ∃ b12, vs7 = [(agg #[(int .i64 n9), (int .i64 n10), (int .i64 n11), (bool b12)])] ∧
wth (Array.push h8 (Obj.cells #[(int .i64 0), (int .i64 0), (int .i64 0), (bool false)] T_liveryref08_Tx)) fun h13 =>
wth (Array.push h13 (Obj.cells #[(int .i64 0), (int .i64 0), (int .i64 0), (bool false)] T_liveryref08_Tx)) fun h14 =>
stOk h14 (mk h8.size 0 none) 4 ∧ wth (wrs h14 (mk h8.size 0 none) 0 [(int .i64 n3), (int .i64 n4), (int .i64 n5), (bool b6)]) fun h15 =>
stOk h15 (mk h13.size 0 none) 4 ∧ wth (wrs h15 (mk h13.size 0 none) 0 [(int .i64 n9), (int .i64 n10), (int .i64 n11), (bool b12)]) fun h16 =>
∀ J17 : PQ, (∀ b18 : Bool, ∀ h19 : Hp, ((if b18 = true then
 (Q [(bool false)] h19) else
 (S_liveryref08_Log_Sees g0_l g1_a g2_b h19 fun vs20 h21 =>
 ∃ b22, vs20 = [(bool b22)] ∧
 (if (!b22) = true then (S_liveryref08_Log_Sees g0_l g2_b g1_a h21 fun vs23 h24 =>
 ∃ b25, vs23 = [(bool b25)] ∧
 Q [(bool (!b25))] h24) else
 (Q [(bool false)] h21))))) → J17 [(bool b18)] h19) →
(if (g1_a == g2_b) = true then (J17 [(bool true)] h16) else
 (∃ n26, rd h16 (add (mk h8.size 0 none) 0) = some (int .i64 n26) ∧
 (if (n26 == 0) = true then (J17 [(bool true)] h16) else
 (∃ n27, rd h16 (add (mk h13.size 0 none) 0) = some (int .i64 n27) ∧
 (if (n27 == 0) = true then (J17 [(bool true)] h16) else
 (∃ n28, rd h16 (add (mk h8.size 0 none) 0) = some (int .i64 n28) ∧
 (if (n28 == 3) = true then (J17 [(bool true)] h16) else
 (∃ n29, rd h16 (add (mk h13.size 0 none) 0) = some (int .i64 n29) ∧
 J17 [(bool (n29 == 3))] h16))))))))
def A_liveryref08_Log_Beside : Ann := (.mk none ⟨[], []⟩ .nil (.mk none ⟨[], []⟩ .nil (.mk none ⟨[], []⟩ (.mk none ⟨[], []⟩ (.mk (some ⟨[0, 1, 2], [(37, (.c .bool))]⟩) ⟨[], []⟩ .nil .nil) .nil) .nil)))
theorem E_liveryref08_Log_Beside (g0_l : Option Addr) (g1_a : Int) (g2_b : Int) (h : Hp) (Q : PQ) : eW 50 Tryz.f161 A_liveryref08_Log_Beside [(pointer g0_l), (int .i64 g1_a), (int .i64 g2_b)] h Q = F_liveryref08_Log_Beside g0_l g1_a g2_b h Q := by kernel_rfl
theorem O_liveryref08_Log_Beside (g0_l : Option Addr) (g1_a : Int) (g2_b : Int) {h : Hp} {Q : PQ} (H : F_liveryref08_Log_Beside g0_l g1_a g2_b h Q) : S_liveryref08_Log_Beside g0_l g1_a g2_b h Q :=
 fo Tryz.func161 (E_liveryref08_Log_Beside g0_l g1_a g2_b h Q) H
def F_liveryref14_Edges_at (g0_e : Option Addr) (g1_a : Int) (g2_b : Int) (h : Hp) (Q : PQ) : Prop :=
∀ X1 : PQ, (∀ n2 : Int, ∀ h3 : Hp, (∀ J4 : PQ, (∀ b5 : Bool, ∀ h6 : Hp, ((if b5 = true then
 (X1 [(int .i64 (IntKind.wrap .i64 (n2 + 1)))] h6) else
 (Q [(int .i64 n2)] h6))) → J4 [(bool b5)] h6) →
 nilW g0_e fun a7 => ∃ l8 : Sl, rd h3 (add a7 1) = some (slice l8.a l8.n l8.c) ∧
 (if (decide (n2 < (l8.n : Int))) = true then (nilW g0_e fun a9 => ∃ l10 : Sl, rd h3 (add a9 1) = some (slice l10.a l10.n l10.c) ∧
 nilW l10.a fun a11 => ixOk n2 l10.n (ixOk 0 2 (∃ n12, rd h3 (add (add a11 (Int.toNat n2 * 2)) (Int.toNat 0 * 1)) = some (int .i64 n12) ∧
 (if (decide (n12 < g1_a)) = true then (J4 [(bool true)] h3) else
 (nilW g0_e fun a13 => ∃ l14 : Sl, rd h3 (add a13 1) = some (slice l14.a l14.n l14.c) ∧
 nilW l14.a fun a15 => ixOk n2 l14.n (ixOk 0 2 (∃ n16, rd h3 (add (add a15 (Int.toNat n2 * 2)) (Int.toNat 0 * 1)) = some (int .i64 n16) ∧
 (if (n16 == g1_a) = true then (nilW g0_e fun a17 => ∃ l18 : Sl, rd h3 (add a17 1) = some (slice l18.a l18.n l18.c) ∧
 nilW l18.a fun a19 => ixOk n2 l18.n (ixOk 1 2 (∃ n20, rd h3 (add (add a19 (Int.toNat n2 * 2)) (Int.toNat 1 * 1)) = some (int .i64 n20) ∧
 J4 [(bool (decide (n20 < g2_b)))] h3))) else
 (J4 [(bool false)] h3))))))))) else
 (J4 [(bool false)] h3))) → X1 [(int .i64 n2)] h3) →
X1 [(int .i64 0)] h
def A_liveryref14_Edges_at : Ann := (.mk none ⟨[], []⟩ .nil (.mk none ⟨[], []⟩ .nil (.mk none ⟨[], []⟩ (.mk none ⟨[], []⟩ (.mk none ⟨[0, 1, 2], [(7, (.c (.int .i64)))]⟩ (.mk none ⟨[], []⟩ (.mk none ⟨[], []⟩ (.mk (some ⟨[0, 1, 2, 7], [(50, (.c .bool))]⟩) ⟨[], []⟩ .nil .nil) .nil) .nil) .nil) .nil) .nil)))
theorem E_liveryref14_Edges_at (g0_e : Option Addr) (g1_a : Int) (g2_b : Int) (h : Hp) (Q : PQ) : eW 54 Tryz.f163 A_liveryref14_Edges_at [(pointer g0_e), (int .i64 g1_a), (int .i64 g2_b)] h Q = F_liveryref14_Edges_at g0_e g1_a g2_b h Q := by kernel_rfl
theorem O_liveryref14_Edges_at (g0_e : Option Addr) (g1_a : Int) (g2_b : Int) {h : Hp} {Q : PQ} (H : F_liveryref14_Edges_at g0_e g1_a g2_b h Q) : S_liveryref14_Edges_at g0_e g1_a g2_b h Q :=
 fo Tryz.func163 (E_liveryref14_Edges_at g0_e g1_a g2_b h Q) H
def F_liveryref14_Edges_Has (g0_e : Option Addr) (g1_a : Int) (g2_b : Int) (h : Hp) (Q : PQ) : Prop :=
S_liveryref14_Edges_at g0_e g1_a g2_b h fun vs1 h2 =>
∃ n3, vs1 = [(int .i64 n3)] ∧
nilW g0_e fun a4 => ∃ l5 : Sl, rd h2 (add a4 1) = some (slice l5.a l5.n l5.c) ∧
(if (decide (n3 < (l5.n : Int))) = true then (nilW g0_e fun a6 => ∃ l7 : Sl, rd h2 (add a6 1) = some (slice l7.a l7.n l7.c) ∧
 nilW l7.a fun a8 => ixOk n3 l7.n (ixOk 0 2 (∃ n9, rd h2 (add (add a8 (Int.toNat n3 * 2)) (Int.toNat 0 * 1)) = some (int .i64 n9) ∧
 (if (n9 == g1_a) = true then (nilW g0_e fun a10 => ∃ l11 : Sl, rd h2 (add a10 1) = some (slice l11.a l11.n l11.c) ∧
 nilW l11.a fun a12 => ixOk n3 l11.n (ixOk 1 2 (∃ n13, rd h2 (add (add a12 (Int.toNat n3 * 2)) (Int.toNat 1 * 1)) = some (int .i64 n13) ∧
 Q [(bool (n13 == g2_b))] h2))) else
 (Q [(bool false)] h2))))) else
 (Q [(bool false)] h2))
def A_liveryref14_Edges_Has : Ann := .nil
theorem E_liveryref14_Edges_Has (g0_e : Option Addr) (g1_a : Int) (g2_b : Int) (h : Hp) (Q : PQ) : eW 43 Tryz.f162 A_liveryref14_Edges_Has [(pointer g0_e), (int .i64 g1_a), (int .i64 g2_b)] h Q = F_liveryref14_Edges_Has g0_e g1_a g2_b h Q := by kernel_rfl
theorem O_liveryref14_Edges_Has (g0_e : Option Addr) (g1_a : Int) (g2_b : Int) {h : Hp} {Q : PQ} (H : F_liveryref14_Edges_Has g0_e g1_a g2_b h Q) : S_liveryref14_Edges_Has g0_e g1_a g2_b h Q :=
 fo Tryz.func162 (E_liveryref14_Edges_Has g0_e g1_a g2_b h Q) H
def F_liveryref14_Edges_Add (g0_e : Option Addr) (g1_a : Int) (g2_b : Int) (h : Hp) (Q : PQ) : Prop :=
∀ J1 : PQ, (∀ b2 : Bool, ∀ h3 : Hp, ((if b2 = true then
 (Q [(bool false)] h3) else
 (S_liveryref14_Edges_at g0_e g1_a g2_b h3 fun vs4 h5 =>
 ∃ n6, vs4 = [(int .i64 n6)] ∧
 ∀ J7 : PQ, (∀ h8 : Hp, (Q [(bool true)] h8) → J7 [] h8) →
 nilW g0_e fun a9 => ∃ l10 : Sl, rd h5 (add a9 1) = some (slice l10.a l10.n l10.c) ∧
 (0 ≤ n6 ∧ n6 ≤ (l10.c : Nat)) ∧ nilW g0_e fun a11 => ∃ l12 : Sl, rd h5 (add a11 1) = some (slice l12.a l12.n l12.c) ∧
 (0 ≤ n6 ∧ n6 ≤ (l12.n : Nat)) ∧ (wth (Array.push h5 (Obj.cells #[] T_2_int)) fun h13 =>
 rd h13 (add a11 1) = some (slice l12.a l12.n l12.c) ∧ rd h13 (add a9 1) = some (slice l10.a l10.n l10.c) ∧ (∃ cs25 : List Value, cellsAt h13 (slAd l10.a 0 l10.c 2) (((Int.toNat n6) - 0) * 2) cs25 ∧ appS PP T_2_int 16 2 h13 ⟨(some (mk h5.size 0 none)), 0, 0⟩ ((Int.toNat n6) - 0) cs25 fun (l14 : Sl) (h15 : Hp) =>
 rd h15 (add a11 1) = some (slice l12.a l12.n l12.c) ∧ wth (Array.push h15 (Obj.cells #[(int .i64 g1_a), (int .i64 g2_b)] T_2_int)) fun h16 =>
 rd h16 (add a11 1) = some (slice l12.a l12.n l12.c) ∧ ∃ cs24 : List Value, cellsAt h16 (some (mk h15.size 0 none)) (1 * 2) cs24 ∧ appS PP T_2_int 16 2 h16 ⟨l14.a, l14.n, l14.c⟩ 1 cs24 fun (l17 : Sl) (h18 : Hp) =>
 rd h18 (add a11 1) = some (slice l12.a l12.n l12.c) ∧ ∃ cs23 : List Value, cellsAt h18 (slAd l12.a (Int.toNat n6) l12.c 2) ((l12.n - (Int.toNat n6)) * 2) cs23 ∧ appS PP T_2_int 16 2 h18 ⟨l17.a, l17.n, l17.c⟩ (l12.n - (Int.toNat n6)) cs23 fun (l19 : Sl) (h20 : Hp) =>
 nilW g0_e fun a21 => stOk h20 (add a21 1) 1 ∧ wth (wrs h20 (add a21 1) 0 [(slice l19.a l19.n l19.c)]) fun h22 =>
 J7 [] h22) ∧
 (wth (Array.push h13 (Obj.cells #[(int .i64 g1_a), (int .i64 g2_b)] T_2_int)) fun h26 =>
 rd h26 (add a11 1) = some (slice l12.a l12.n l12.c) ∧ rd h26 (add a9 1) = some (slice l10.a l10.n l10.c) ∧ ∃ cs37 : List Value, cellsAt h26 (slAd l10.a 0 l10.c 2) (((Int.toNat n6) - 0) * 2) cs37 ∧ appS PP T_2_int 16 2 h26 ⟨(some (mk h5.size 0 none)), 0, 0⟩ ((Int.toNat n6) - 0) cs37 fun (l27 : Sl) (h28 : Hp) =>
 rd h28 (add a11 1) = some (slice l12.a l12.n l12.c) ∧ ∃ cs36 : List Value, cellsAt h28 (some (mk h13.size 0 none)) (1 * 2) cs36 ∧ appS PP T_2_int 16 2 h28 ⟨l27.a, l27.n, l27.c⟩ 1 cs36 fun (l29 : Sl) (h30 : Hp) =>
 rd h30 (add a11 1) = some (slice l12.a l12.n l12.c) ∧ ∃ cs35 : List Value, cellsAt h30 (slAd l12.a (Int.toNat n6) l12.c 2) ((l12.n - (Int.toNat n6)) * 2) cs35 ∧ appS PP T_2_int 16 2 h30 ⟨l29.a, l29.n, l29.c⟩ (l12.n - (Int.toNat n6)) cs35 fun (l31 : Sl) (h32 : Hp) =>
 nilW g0_e fun a33 => stOk h32 (add a33 1) 1 ∧ wth (wrs h32 (add a33 1) 0 [(slice l31.a l31.n l31.c)]) fun h34 =>
 J7 [] h34)) ∧
 (wth (Array.push h5 (Obj.cells #[(int .i64 g1_a), (int .i64 g2_b)] T_2_int)) fun h38 =>
 rd h38 (add a11 1) = some (slice l12.a l12.n l12.c) ∧ rd h38 (add a9 1) = some (slice l10.a l10.n l10.c) ∧ wth (Array.push h38 (Obj.cells #[] T_2_int)) fun h39 =>
 rd h39 (add a11 1) = some (slice l12.a l12.n l12.c) ∧ rd h39 (add a9 1) = some (slice l10.a l10.n l10.c) ∧ ∃ cs50 : List Value, cellsAt h39 (slAd l10.a 0 l10.c 2) (((Int.toNat n6) - 0) * 2) cs50 ∧ appS PP T_2_int 16 2 h39 ⟨(some (mk h38.size 0 none)), 0, 0⟩ ((Int.toNat n6) - 0) cs50 fun (l40 : Sl) (h41 : Hp) =>
 rd h41 (add a11 1) = some (slice l12.a l12.n l12.c) ∧ ∃ cs49 : List Value, cellsAt h41 (some (mk h5.size 0 none)) (1 * 2) cs49 ∧ appS PP T_2_int 16 2 h41 ⟨l40.a, l40.n, l40.c⟩ 1 cs49 fun (l42 : Sl) (h43 : Hp) =>
 rd h43 (add a11 1) = some (slice l12.a l12.n l12.c) ∧ ∃ cs48 : List Value, cellsAt h43 (slAd l12.a (Int.toNat n6) l12.c 2) ((l12.n - (Int.toNat n6)) * 2) cs48 ∧ appS PP T_2_int 16 2 h43 ⟨l42.a, l42.n, l42.c⟩ (l12.n - (Int.toNat n6)) cs48 fun (l44 : Sl) (h45 : Hp) =>
 nilW g0_e fun a46 => stOk h45 (add a46 1) 1 ∧ wth (wrs h45 (add a46 1) 0 [(slice l44.a l44.n l44.c)]) fun h47 =>
 J7 [] h47)))) → J1 [(bool b2)] h3) →
nilW g0_e fun a51 => ∃ p52, rd h (add a51 0) = some (pointer p52) ∧
S_liveryref08_Log_Beside p52 g1_a g2_b h fun vs53 h54 =>
∃ b55, vs53 = [(bool b55)] ∧
(if (!b55) = true then (J1 [(bool true)] h54) else
 (S_liveryref14_Edges_Has g0_e g1_a g2_b h54 fun vs56 h57 =>
 ∃ b58, vs56 = [(bool b58)] ∧
 J1 [(bool b58)] h57))
def A_liveryref14_Edges_Add : Ann := (.mk none ⟨[], []⟩ .nil (.mk none ⟨[], []⟩ (.mk none ⟨[], []⟩ (.mk (some ⟨[0, 1, 2], [(21, (.c .bool))]⟩) ⟨[], []⟩ .nil .nil) .nil) (.mk none ⟨[], []⟩ .nil (.mk none ⟨[], []⟩ (.mk (some ⟨[], []⟩) ⟨[], []⟩ .nil .nil) .nil))))
theorem E_liveryref14_Edges_Add (g0_e : Option Addr) (g1_a : Int) (g2_b : Int) (h : Hp) (Q : PQ) : eW 49 Tryz.f142 A_liveryref14_Edges_Add [(pointer g0_e), (int .i64 g1_a), (int .i64 g2_b)] h Q = F_liveryref14_Edges_Add g0_e g1_a g2_b h Q := by kernel_rfl
theorem O_liveryref14_Edges_Add (g0_e : Option Addr) (g1_a : Int) (g2_b : Int) {h : Hp} {Q : PQ} (H : F_liveryref14_Edges_Add g0_e g1_a g2_b h Q) : S_liveryref14_Edges_Add g0_e g1_a g2_b h Q :=
 fo Tryz.func142 (E_liveryref14_Edges_Add g0_e g1_a g2_b h Q) H
def F_liveryref15_Ssi_edge (g0_s : Option Addr) (g1_a : Int) (g2_b : Int) (h : Hp) (Q : PQ) : Prop :=
nilW g0_s fun a1 => ∃ p2, rd h (add a1 2) = some (pointer p2) ∧
S_liveryref14_Edges_Add p2 g1_a g2_b h fun vs3 h4 =>
∃ b5, vs3 = [(bool b5)] ∧
(if b5 = true then
 (S_liveryref15_Ssi_pivot g0_s g2_b h4 fun vs6 h7 =>
 vs6 = [] ∧
 S_liveryref15_Ssi_pivot g0_s g1_a h7 fun vs8 h9 =>
 vs8 = [] ∧
 Q [] h9) else
 (Q [] h4))
def A_liveryref15_Ssi_edge : Ann := .nil
theorem E_liveryref15_Ssi_edge (g0_s : Option Addr) (g1_a : Int) (g2_b : Int) (h : Hp) (Q : PQ) : eW 19 Tryz.f98 A_liveryref15_Ssi_edge [(pointer g0_s), (int .i64 g1_a), (int .i64 g2_b)] h Q = F_liveryref15_Ssi_edge g0_s g1_a g2_b h Q := by kernel_rfl
theorem O_liveryref15_Ssi_edge (g0_s : Option Addr) (g1_a : Int) (g2_b : Int) {h : Hp} {Q : PQ} (H : F_liveryref15_Ssi_edge g0_s g1_a g2_b h Q) : S_liveryref15_Ssi_edge g0_s g1_a g2_b h Q :=
 fo Tryz.func98 (E_liveryref15_Ssi_edge g0_s g1_a g2_b h Q) H
def F_liveryref15_Ssi_Wrote (g0_s : Option Addr) (g1_xid : Int) (g2_x_0 : Int) (g2_x_1 : ByteArray) (g2_x_2 : Int) (g2_x_3 : ByteArray) (g2_x_4 : Int) (h : Hp) (Q : PQ) : Prop :=
wth (Array.push h (Obj.cells #[(int .i64 g2_x_0), (string g2_x_1), (int .i64 g2_x_2), (string g2_x_3), (int .i64 g2_x_4)] T_liveryref13_Thing)) fun h1 =>
S_liveryref15_Ssi_runs g0_s g1_xid h1 fun vs2 h3 =>
∃ b4, vs2 = [(bool b4)] ∧
(if (!b4) = true then
 (Q [] h3) else
 (nilW g0_s fun a5 => ∃ p6, rd h3 (add a5 1) = some (pointer p6) ∧
 ∃ n7, rd h3 (add (mk h.size 0 none) 0) = some (int .i64 n7) ∧ ∃ s8, rd h3 (add (mk h.size 0 none) 1) = some (string s8) ∧ ∃ n9, rd h3 (add (mk h.size 0 none) 2) = some (int .i64 n9) ∧ ∃ s10, rd h3 (add (mk h.size 0 none) 3) = some (string s10) ∧ ∃ n11, rd h3 (add (mk h.size 0 none) 4) = some (int .i64 n11) ∧ S_liveryref13_Table_Owners p6 n7 s8 n9 s10 n11 h3 fun vs12 h13 =>
 ∃ l14 : Sl, vs12 = [(slice l14.a l14.n l14.c)] ∧
 ∀ X15 : PQ, (∀ n16 : Int, ∀ h17 : Hp, ((if (decide (n16 < (l14.n : Int))) = true then
 (∀ J18 : PQ, (∀ h19 : Hp, (X15 [(int .i64 (IntKind.wrap .i64 (n16 + 1)))] h19) → J18 [] h19) →
 nilW l14.a fun a20 => ixOk n16 l14.n (∃ n21, rd h17 (add a20 (Int.toNat n16 * 1)) = some (int .i64 n21) ∧
 (if (n21 == 0) = true then
 (nilW g0_s fun a22 => ∃ p23, rd h17 (add a22 2) = some (pointer p23) ∧
 nilW g0_s fun a24 => ∃ p25, rd h17 (add a24 1) = some (pointer p25) ∧
 nilW p25 fun a26 => ∃ n27, rd h17 (add a26 3) = some (int .i64 n27) ∧
 S_liveryref14_Edges_OldIn p23 g1_xid n27 h17 fun vs28 h29 =>
 ∃ b30, vs28 = [(bool b30)] ∧
 (if b30 = true then
 (S_liveryref15_Ssi_pivot g0_s g1_xid h29 fun vs31 h32 =>
 vs31 = [] ∧
 J18 [] h32) else
 (J18 [] h29))) else
 (nilW l14.a fun a33 => ixOk n16 l14.n (∃ n34, rd h17 (add a33 (Int.toNat n16 * 1)) = some (int .i64 n34) ∧
 (if (n34 != g1_xid) = true then
 (nilW l14.a fun a35 => ixOk n16 l14.n (∃ n36, rd h17 (add a35 (Int.toNat n16 * 1)) = some (int .i64 n36) ∧
 S_liveryref15_Ssi_edge g0_s n36 g1_xid h17 fun vs37 h38 =>
 vs37 = [] ∧
 J18 [] h38)) else
 (J18 [] h17))))))) else
 (Q [] h17))) → X15 [(int .i64 n16)] h17) →
 X15 [(int .i64 0)] h13))
def A_liveryref15_Ssi_Wrote : Ann := (.mk none ⟨[], []⟩ .nil (.mk none ⟨[], []⟩ .nil (.mk none ⟨[], []⟩ .nil (.mk none ⟨[], []⟩ .nil (.mk none ⟨[], []⟩ (.mk none ⟨[0, 1, 6], [(7, (.c (.int .i64)))]⟩ (.mk none ⟨[], []⟩ .nil (.mk none ⟨[], []⟩ (.mk (some ⟨[0, 1, 6, 7], []⟩) ⟨[], []⟩ .nil .nil) .nil)) .nil) .nil)))))
theorem E_liveryref15_Ssi_Wrote (g0_s : Option Addr) (g1_xid : Int) (g2_x_0 : Int) (g2_x_1 : ByteArray) (g2_x_2 : Int) (g2_x_3 : ByteArray) (g2_x_4 : Int) (h : Hp) (Q : PQ) : eW 58 Tryz.f46 A_liveryref15_Ssi_Wrote [(pointer g0_s), (int .i64 g1_xid), (agg #[(int .i64 g2_x_0), (string g2_x_1), (int .i64 g2_x_2), (string g2_x_3), (int .i64 g2_x_4)])] h Q = F_liveryref15_Ssi_Wrote g0_s g1_xid g2_x_0 g2_x_1 g2_x_2 g2_x_3 g2_x_4 h Q := by kernel_rfl
theorem O_liveryref15_Ssi_Wrote (g0_s : Option Addr) (g1_xid : Int) (g2_x_0 : Int) (g2_x_1 : ByteArray) (g2_x_2 : Int) (g2_x_3 : ByteArray) (g2_x_4 : Int) {h : Hp} {Q : PQ} (H : F_liveryref15_Ssi_Wrote g0_s g1_xid g2_x_0 g2_x_1 g2_x_2 g2_x_3 g2_x_4 h Q) : S_liveryref15_Ssi_Wrote g0_s g1_xid g2_x_0 g2_x_1 g2_x_2 g2_x_3 g2_x_4 h Q :=
 fo Tryz.func46 (E_liveryref15_Ssi_Wrote g0_s g1_xid g2_x_0 g2_x_1 g2_x_2 g2_x_3 g2_x_4 h Q) H
def F_liveryref15_Ssi_Saw (g0_s : Option Addr) (g1_xid : Int) (g2_writer : Int) (h : Hp) (Q : PQ) : Prop :=
∀ J1 : PQ, (∀ b2 : Bool, ∀ h3 : Hp, ((if b2 = true then
 (S_liveryref15_Ssi_edge g0_s g1_xid g2_writer h3 fun vs4 h5 =>
 vs4 = [] ∧
 Q [] h5) else
 (Q [] h3))) → J1 [(bool b2)] h3) →
S_liveryref15_Ssi_runs g0_s g1_xid h fun vs6 h7 =>
∃ b8, vs6 = [(bool b8)] ∧
(if b8 = true then (S_liveryref15_Ssi_Safe g0_s g1_xid h7 fun vs9 h10 =>
 ∃ b11, vs9 = [(bool b11)] ∧
 J1 [(bool (!b11))] h10) else
 (J1 [(bool false)] h7))
def A_liveryref15_Ssi_Saw : Ann := (.mk none ⟨[], []⟩ (.mk (some ⟨[0, 1, 2], [(14, (.c .bool))]⟩) ⟨[], []⟩ .nil .nil) .nil)
theorem E_liveryref15_Ssi_Saw (g0_s : Option Addr) (g1_xid : Int) (g2_writer : Int) (h : Hp) (Q : PQ) : eW 19 Tryz.f47 A_liveryref15_Ssi_Saw [(pointer g0_s), (int .i64 g1_xid), (int .i64 g2_writer)] h Q = F_liveryref15_Ssi_Saw g0_s g1_xid g2_writer h Q := by kernel_rfl
theorem O_liveryref15_Ssi_Saw (g0_s : Option Addr) (g1_xid : Int) (g2_writer : Int) {h : Hp} {Q : PQ} (H : F_liveryref15_Ssi_Saw g0_s g1_xid g2_writer h Q) : S_liveryref15_Ssi_Saw g0_s g1_xid g2_writer h Q :=
 fo Tryz.func47 (E_liveryref15_Ssi_Saw g0_s g1_xid g2_writer h Q) H
def F_liveryref08_Log_Horizon (g0_l : Option Addr) (h : Hp) (Q : PQ) : Prop :=
nilW g0_l fun a1 => ∃ n2, rd h (add a1 1) = some (int .i64 n2) ∧
∀ X3 : PQ, (∀ n4 : Int, ∀ n5 : Int, ∀ h6 : Hp, (nilW g0_l fun a7 => ∃ l8 : Sl, rd h6 (add a7 0) = some (slice l8.a l8.n l8.c) ∧
 (if (decide (n5 < (l8.n : Int))) = true then
 (∀ J9 : PQ, (∀ n10 : Int, ∀ h11 : Hp, (X3 [(int .i64 n10), (int .i64 (IntKind.wrap .i64 (n5 + 1)))] h11) → J9 [(int .i64 n10)] h11) →
 nilW g0_l fun a12 => ∃ l13 : Sl, rd h6 (add a12 0) = some (slice l13.a l13.n l13.c) ∧
 nilW l13.a fun a14 => ixOk n5 l13.n (∃ n15, rd h6 (add (add a14 (Int.toNat n5 * 4)) 0) = some (int .i64 n15) ∧
 (if (n15 == 1) = true then
 (nilW g0_l fun a16 => ∃ l17 : Sl, rd h6 (add a16 0) = some (slice l17.a l17.n l17.c) ∧
 nilW l17.a fun a18 => ixOk n5 l17.n (∃ n19, rd h6 (add (add a18 (Int.toNat n5 * 4)) 1) = some (int .i64 n19) ∧
 J9 [(int .i64 (mnI n4 n19))] h6)) else
 (J9 [(int .i64 n4)] h6)))) else
 (Q [(int .i64 n4)] h6))) → X3 [(int .i64 n4), (int .i64 n5)] h6) →
X3 [(int .i64 n2), (int .i64 0)] h
def A_liveryref08_Log_Horizon : Ann := (.mk none ⟨[], []⟩ .nil (.mk none ⟨[], []⟩ .nil (.mk none ⟨[], []⟩ (.mk none ⟨[], []⟩ .nil (.mk none ⟨[], []⟩ (.mk none ⟨[0], [(3, (.c (.int .i64))), (4, (.c (.int .i64)))]⟩ (.mk none ⟨[], []⟩ .nil (.mk none ⟨[], []⟩ (.mk (some ⟨[0, 4], [(3, (.c (.int .i64)))]⟩) ⟨[], []⟩ .nil .nil) .nil)) .nil) .nil)) .nil)))
theorem E_liveryref08_Log_Horizon (g0_l : Option Addr) (h : Hp) (Q : PQ) : eW 38 Tryz.f144 A_liveryref08_Log_Horizon [(pointer g0_l)] h Q = F_liveryref08_Log_Horizon g0_l h Q := by kernel_rfl
theorem O_liveryref08_Log_Horizon (g0_l : Option Addr) {h : Hp} {Q : PQ} (H : F_liveryref08_Log_Horizon g0_l h Q) : S_liveryref08_Log_Horizon g0_l h Q :=
 fo Tryz.func144 (E_liveryref08_Log_Horizon g0_l h Q) H
def F_liverylaw08_Same (g0_l : Option Addr) (g1_q : Option Addr) (h : Hp) (Q : PQ) : Prop :=
∀ X1 : PQ, (∀ n2 : Int, ∀ h3 : Hp, (nilW g1_q fun a4 => ∃ l5 : Sl, rd h3 (add a4 0) = some (slice l5.a l5.n l5.c) ∧
 (if (decide (n2 ≤ (IntKind.wrap .i64 ((l5.n : Int) + 1)))) = true then
 (S_liveryref08_Log_Get g1_q n2 h3 fun vs6 h7 =>
 ∃ n8, ∃ n9, ∃ n10, ∃ b11, vs6 = [(agg #[(int .i64 n8), (int .i64 n9), (int .i64 n10), (bool b11)])] ∧
 wth (Array.push h7 (Obj.cells #[(int .i64 0), (int .i64 0), (int .i64 0), (bool false)] T_liveryref08_Tx)) fun h12 =>
 stOk h12 (mk h7.size 0 none) 4 ∧ wth (wrs h12 (mk h7.size 0 none) 0 [(int .i64 n8), (int .i64 n9), (int .i64 n10), (bool b11)]) fun h13 =>
 ∀ J14 : PQ, (∀ b15 : Bool, ∀ h16 : Hp, ((if b15 = true then
 (Q [(bool false)] h16) else
 (X1 [(int .i64 (IntKind.wrap .i64 (n2 + 1)))] h16))) → J14 [(bool b15)] h16) →
 ∃ n17, rd h13 (add (mk h7.size 0 none) 0) = some (int .i64 n17) ∧
 S_clog_Log_State g0_l n2 h13 fun vs18 h19 =>
 ∃ n20, vs18 = [(int .i64 n20)] ∧
 rd h19 (add (mk h7.size 0 none) 0) = some (int .i64 n17) ∧ (if (n20 != n17) = true then (J14 [(bool true)] h19) else
 (∃ n21, rd h19 (add (mk h7.size 0 none) 2) = some (int .i64 n21) ∧
 S_clog_Log_Csn g0_l n2 h19 fun vs22 h23 =>
 ∃ n24, vs22 = [(int .i64 n24)] ∧
 rd h23 (add (mk h7.size 0 none) 2) = some (int .i64 n21) ∧ (if (n24 != n21) = true then (J14 [(bool true)] h23) else
 (∃ n25, rd h23 (add (mk h7.size 0 none) 1) = some (int .i64 n25) ∧
 S_clog_Log_Snapshot g0_l n2 h23 fun vs26 h27 =>
 ∃ n28, vs26 = [(int .i64 n28)] ∧
 rd h27 (add (mk h7.size 0 none) 1) = some (int .i64 n25) ∧ (if (n28 != n25) = true then (J14 [(bool true)] h27) else
 (∃ b29, rd h27 (add (mk h7.size 0 none) 3) = some (bool b29) ∧
 S_clog_Log_Reads g0_l n2 h27 fun vs30 h31 =>
 ∃ b32, vs30 = [(bool b32)] ∧
 rd h31 (add (mk h7.size 0 none) 3) = some (bool b29) ∧ J14 [(bool (!(b32 == b29)))] h31))))))) else
 (S_clog_Log_Running g0_l h3 fun vs33 h34 =>
 ∃ l35 : Sl, vs33 = [(slice l35.a l35.n l35.c)] ∧
 S_liveryref08_Log_Running g1_q h34 fun vs36 h37 =>
 ∃ l38 : Sl, vs36 = [(slice l38.a l38.n l38.c)] ∧
 S_liverykeep_Ints ⟨l35.a, l35.n, l35.c⟩ ⟨l38.a, l38.n, l38.c⟩ h37 fun vs39 h40 =>
 ∃ b41, vs39 = [(bool b41)] ∧
 (if b41 = true then (S_clog_Log_Horizon g0_l h40 fun vs42 h43 =>
 ∃ n44, vs42 = [(int .i64 n44)] ∧
 S_liveryref08_Log_Horizon g1_q h43 fun vs45 h46 =>
 ∃ n47, vs45 = [(int .i64 n47)] ∧
 (if (n44 == n47) = true then (nilW g1_q fun a48 => ∃ n49, rd h46 (add a48 1) = some (int .i64 n49) ∧
 S_clog_Log_Clock g0_l h46 fun vs50 h51 =>
 ∃ n52, vs50 = [(int .i64 n52)] ∧
 rd h51 (add a48 1) = some (int .i64 n49) ∧ Q [(bool (n52 == n49))] h51) else
 (Q [(bool false)] h46))) else
 (Q [(bool false)] h40))))) → X1 [(int .i64 n2)] h3) →
X1 [(int .i64 (-1 : Int))] h
def A_liverylaw08_Same : Ann := (.mk none ⟨[], []⟩ .nil (.mk none ⟨[], []⟩ (.mk none ⟨[], []⟩ .nil (.mk none ⟨[], []⟩ (.mk none ⟨[0, 1], [(5, (.c (.int .i64)))]⟩ (.mk none ⟨[], []⟩ .nil (.mk none ⟨[], []⟩ (.mk none ⟨[], []⟩ (.mk none ⟨[], []⟩ .nil (.mk none ⟨[], []⟩ (.mk (some ⟨[0, 1, 5], [(49, (.c .bool))]⟩) ⟨[], []⟩ .nil .nil) .nil)) .nil) .nil)) .nil) .nil)) .nil))
theorem E_liverylaw08_Same (g0_l : Option Addr) (g1_q : Option Addr) (h : Hp) (Q : PQ) : eW 71 Tryz.f100 A_liverylaw08_Same [(pointer g0_l), (pointer g1_q)] h Q = F_liverylaw08_Same g0_l g1_q h Q := by kernel_rfl
theorem O_liverylaw08_Same (g0_l : Option Addr) (g1_q : Option Addr) {h : Hp} {Q : PQ} (H : F_liverylaw08_Same g0_l g1_q h Q) : S_liverylaw08_Same g0_l g1_q h Q :=
 fo Tryz.func100 (E_liverylaw08_Same g0_l g1_q h Q) H
def F_liverylaw13_Same (g0_t : Option Addr) (g1_q : Option Addr) (h : Hp) (Q : PQ) : Prop :=
∀ X1 : PQ, (∀ n2 : Int, ∀ h3 : Hp, ((if (decide (n2 ≤ (9 : Int))) = true then
 (S_siread_Table_Of g0_t n2 h3 fun vs4 h5 =>
 ∃ l6 : Sl, vs4 = [(slice l6.a l6.n l6.c)] ∧
 S_liveryref13_Table_Of g1_q n2 h5 fun vs7 h8 =>
 ∃ l9 : Sl, vs7 = [(slice l9.a l9.n l9.c)] ∧
 (if ((l6.n : Int) != (l9.n : Int)) = true then
 (Q [(bool false)] h8) else
 (∀ X10 : PQ, (∀ n11 : Int, ∀ h12 : Hp, ((if (decide (n11 < (l6.n : Int))) = true then
 (nilW l6.a fun a13 => ixOk n11 l6.n (∃ n14, rd h12 (add (add a13 (Int.toNat n11 * 5)) 0) = some (int .i64 n14) ∧ ∃ s15, rd h12 (add (add a13 (Int.toNat n11 * 5)) 1) = some (string s15) ∧ ∃ n16, rd h12 (add (add a13 (Int.toNat n11 * 5)) 2) = some (int .i64 n16) ∧ ∃ s17, rd h12 (add (add a13 (Int.toNat n11 * 5)) 3) = some (string s17) ∧ ∃ n18, rd h12 (add (add a13 (Int.toNat n11 * 5)) 4) = some (int .i64 n18) ∧ nilW l9.a fun a19 => ixOk n11 l9.n (∃ n20, rd h12 (add (add a19 (Int.toNat n11 * 5)) 0) = some (int .i64 n20) ∧ ∃ s21, rd h12 (add (add a19 (Int.toNat n11 * 5)) 1) = some (string s21) ∧ ∃ n22, rd h12 (add (add a19 (Int.toNat n11 * 5)) 2) = some (int .i64 n22) ∧ ∃ s23, rd h12 (add (add a19 (Int.toNat n11 * 5)) 3) = some (string s23) ∧ ∃ n24, rd h12 (add (add a19 (Int.toNat n11 * 5)) 4) = some (int .i64 n24) ∧ S_liverylaw13_Own n14 s15 n16 s17 n18 h12 fun vs25 h26 =>
 ∃ n27, ∃ s28, ∃ n29, ∃ s30, ∃ n31, vs25 = [(agg #[(int .i64 n27), (string s28), (int .i64 n29), (string s30), (int .i64 n31)])] ∧
 rd h26 (add (add a19 (Int.toNat n11 * 5)) 0) = some (int .i64 n20) ∧ rd h26 (add (add a19 (Int.toNat n11 * 5)) 1) = some (string s21) ∧ rd h26 (add (add a19 (Int.toNat n11 * 5)) 2) = some (int .i64 n22) ∧ rd h26 (add (add a19 (Int.toNat n11 * 5)) 3) = some (string s23) ∧ rd h26 (add (add a19 (Int.toNat n11 * 5)) 4) = some (int .i64 n24) ∧ (if (!(n27 == n20 && (s28 == s21 && (n29 == n22 && (s30 == s23 && (n31 == n24 && true)))))) = true then
 (Q [(bool false)] h26) else
 (X10 [(int .i64 (IntKind.wrap .i64 (n11 + 1)))] h26))))) else
 (X1 [(int .i64 (IntKind.wrap .i64 (n2 + 1)))] h12))) → X10 [(int .i64 n11)] h12) →
 X10 [(int .i64 0)] h8))) else
 (S_siread_Table_Fine g0_t h3 fun vs32 h33 =>
 ∃ n34, vs32 = [(int .i64 n34)] ∧
 S_liveryref13_Table_Fine g1_q h33 fun vs35 h36 =>
 ∃ n37, vs35 = [(int .i64 n37)] ∧
 (if (n34 == n37) = true then (nilW g1_q fun a38 => ∃ n39, rd h36 (add a38 3) = some (int .i64 n39) ∧
 S_siread_Table_Old g0_t h36 fun vs40 h41 =>
 ∃ n42, vs40 = [(int .i64 n42)] ∧
 rd h41 (add a38 3) = some (int .i64 n39) ∧ Q [(bool (n42 == n39))] h41) else
 (Q [(bool false)] h36))))) → X1 [(int .i64 n2)] h3) →
X1 [(int .i64 0)] h
def A_liverylaw13_Same : Ann := (.mk none ⟨[], []⟩ .nil (.mk none ⟨[], []⟩ (.mk none ⟨[], []⟩ .nil (.mk none ⟨[], []⟩ (.mk none ⟨[0, 1], [(5, (.c (.int .i64)))]⟩ (.mk none ⟨[], []⟩ .nil (.mk none ⟨[], []⟩ (.mk none ⟨[], []⟩ (.mk none ⟨[], []⟩ .nil (.mk none ⟨[], []⟩ .nil (.mk none ⟨[], []⟩ .nil (.mk none ⟨[], []⟩ (.mk none ⟨[0, 1, 5, 6, 7], [(8, (.c (.int .i64)))]⟩ .nil .nil) .nil)))) .nil) .nil)) .nil) .nil)) .nil))
theorem E_liverylaw13_Same (g0_t : Option Addr) (g1_q : Option Addr) (h : Hp) (Q : PQ) : eW 54 Tryz.f101 A_liverylaw13_Same [(pointer g0_t), (pointer g1_q)] h Q = F_liverylaw13_Same g0_t g1_q h Q := by kernel_rfl
theorem O_liverylaw13_Same (g0_t : Option Addr) (g1_q : Option Addr) {h : Hp} {Q : PQ} (H : F_liverylaw13_Same g0_t g1_q h Q) : S_liverylaw13_Same g0_t g1_q h Q :=
 fo Tryz.func101 (E_liverylaw13_Same g0_t g1_q h Q) H
def F_liverylaw14_Same (g0_e : Option Addr) (g1_q : Option Addr) (h : Hp) (Q : PQ) : Prop :=
S_edge_Edges_All g0_e h fun vs1 h2 =>
∃ l3 : Sl, vs1 = [(slice l3.a l3.n l3.c)] ∧
nilW g1_q fun a4 => ∃ l5 : Sl, rd h2 (add a4 1) = some (slice l5.a l5.n l5.c) ∧
(if ((l3.n : Int) != (l5.n : Int)) = true then
 (Q [(bool false)] h2) else
 (∀ X6 : PQ, (∀ n7 : Int, ∀ h8 : Hp, ((if (decide (n7 < (l3.n : Int))) = true then
 (nilW l3.a fun a9 => ixOk n7 l3.n (∃ n10, rd h8 (add (add a9 (Int.toNat n7 * 2)) 0) = some (int .i64 n10) ∧ ∃ n11, rd h8 (add (add a9 (Int.toNat n7 * 2)) 1) = some (int .i64 n11) ∧ nilW g1_q fun a12 => ∃ l13 : Sl, rd h8 (add a12 1) = some (slice l13.a l13.n l13.c) ∧
 nilW l13.a fun a14 => ixOk n7 l13.n (∃ n15, rd h8 (add (add a14 (Int.toNat n7 * 2)) 0) = some (int .i64 n15) ∧ ∃ n16, rd h8 (add (add a14 (Int.toNat n7 * 2)) 1) = some (int .i64 n16) ∧ (if (!(n10 == n15 && (n11 == n16 && true))) = true then
 (Q [(bool false)] h8) else
 (X6 [(int .i64 (IntKind.wrap .i64 (n7 + 1)))] h8))))) else
 (∀ X17 : PQ, (∀ n18 : Int, ∀ h19 : Hp, (nilW g1_q fun a20 => ∃ p21, rd h19 (add a20 0) = some (pointer p21) ∧
 nilW p21 fun a22 => ∃ l23 : Sl, rd h19 (add a22 0) = some (slice l23.a l23.n l23.c) ∧
 (if (decide (n18 ≤ (IntKind.wrap .i64 ((l23.n : Int) + 1)))) = true then
 (S_edge_Edges_Spoilt g0_e n18 h19 fun vs24 h25 =>
 ∃ l26 : Sl, ∃ b27, vs24 = [(slice l26.a l26.n l26.c), (bool b27)] ∧
 S_liveryref14_Edges_Spoilt g1_q n18 h25 fun vs28 h29 =>
 ∃ l30 : Sl, ∃ b31, vs28 = [(agg #[(slice l30.a l30.n l30.c), (bool b31)])] ∧
 wth (Array.push h29 (Obj.cells #[(slice none 0 0), (bool false)] T_liveryref14_Verdict)) fun h32 =>
 stOk h32 (mk h29.size 0 none) 2 ∧ wth (wrs h32 (mk h29.size 0 none) 0 [(slice l30.a l30.n l30.c), (bool b31)]) fun h33 =>
 ∀ J34 : PQ, (∀ b35 : Bool, ∀ h36 : Hp, ((if b35 = true then
 (Q [(bool false)] h36) else
 (X17 [(int .i64 (IntKind.wrap .i64 (n18 + 1)))] h36))) → J34 [(bool b35)] h36) →
 ∃ b37, rd h33 (add (mk h29.size 0 none) 1) = some (bool b37) ∧
 (if (!(b27 == b37)) = true then (J34 [(bool true)] h33) else
 (∃ l38 : Sl, rd h33 (add (mk h29.size 0 none) 0) = some (slice l38.a l38.n l38.c) ∧
 S_liverykeep_Ints ⟨l26.a, l26.n, l26.c⟩ ⟨l38.a, l38.n, l38.c⟩ h33 fun vs39 h40 =>
 ∃ b41, vs39 = [(bool b41)] ∧
 (if (!b41) = true then (J34 [(bool true)] h40) else
 (S_edge_Edges_In g0_e n18 h40 fun vs42 h43 =>
 ∃ l44 : Sl, vs42 = [(slice l44.a l44.n l44.c)] ∧
 S_liveryref14_Edges_In g1_q n18 h43 fun vs45 h46 =>
 ∃ l47 : Sl, vs45 = [(slice l47.a l47.n l47.c)] ∧
 S_liverykeep_Ints ⟨l44.a, l44.n, l44.c⟩ ⟨l47.a, l47.n, l47.c⟩ h46 fun vs48 h49 =>
 ∃ b50, vs48 = [(bool b50)] ∧
 (if (!b50) = true then (J34 [(bool true)] h49) else
 (S_edge_Edges_Out g0_e n18 h49 fun vs51 h52 =>
 ∃ l53 : Sl, vs51 = [(slice l53.a l53.n l53.c)] ∧
 S_liveryref14_Edges_Out g1_q n18 h52 fun vs54 h55 =>
 ∃ l56 : Sl, vs54 = [(slice l56.a l56.n l56.c)] ∧
 S_liverykeep_Ints ⟨l53.a, l53.n, l53.c⟩ ⟨l56.a, l56.n, l56.c⟩ h55 fun vs57 h58 =>
 ∃ b59, vs57 = [(bool b59)] ∧
 (if (!b59) = true then (J34 [(bool true)] h58) else
 (S_edge_Edges_Ahead g0_e n18 h58 fun vs60 h61 =>
 ∃ l62 : Sl, vs60 = [(slice l62.a l62.n l62.c)] ∧
 S_liveryref14_Edges_Ahead g1_q n18 h61 fun vs63 h64 =>
 ∃ l65 : Sl, vs63 = [(slice l65.a l65.n l65.c)] ∧
 S_liverykeep_Ints ⟨l62.a, l62.n, l62.c⟩ ⟨l65.a, l65.n, l65.c⟩ h64 fun vs66 h67 =>
 ∃ b68, vs66 = [(bool b68)] ∧
 (if (!b68) = true then (J34 [(bool true)] h67) else
 (S_edge_Edges_Old g0_e n18 h67 fun vs69 h70 =>
 ∃ n71, vs69 = [(int .i64 n71)] ∧
 S_liveryref14_Edges_Old g1_q n18 h70 fun vs72 h73 =>
 ∃ n74, vs72 = [(int .i64 n74)] ∧
 J34 [(bool (n71 != n74))] h73))))))))))) else
 (Q [(bool true)] h19))) → X17 [(int .i64 n18)] h19) →
 X17 [(int .i64 0)] h8))) → X6 [(int .i64 n7)] h8) →
 X6 [(int .i64 0)] h2))
def A_liverylaw14_Same : Ann := (.mk none ⟨[], []⟩ .nil (.mk none ⟨[], []⟩ .nil (.mk none ⟨[], []⟩ .nil (.mk none ⟨[], []⟩ (.mk none ⟨[], []⟩ .nil (.mk none ⟨[], []⟩ (.mk none ⟨[0, 1, 5], [(6, (.c (.int .i64)))]⟩ .nil .nil) .nil)) (.mk none ⟨[], []⟩ (.mk none ⟨[], []⟩ .nil (.mk none ⟨[], []⟩ (.mk none ⟨[0, 1], [(7, (.c (.int .i64)))]⟩ (.mk none ⟨[], []⟩ .nil (.mk none ⟨[], []⟩ (.mk none ⟨[], []⟩ (.mk none ⟨[], []⟩ .nil (.mk none ⟨[], []⟩ .nil (.mk none ⟨[], []⟩ (.mk (some ⟨[0, 1, 7], [(110, (.c .bool))]⟩) ⟨[], []⟩ .nil .nil) .nil))) .nil) .nil)) .nil) .nil)) .nil)))))
theorem E_liverylaw14_Same (g0_e : Option Addr) (g1_q : Option Addr) (h : Hp) (Q : PQ) : eW 111 Tryz.f102 A_liverylaw14_Same [(pointer g0_e), (pointer g1_q)] h Q = F_liverylaw14_Same g0_e g1_q h Q := by kernel_rfl
theorem O_liverylaw14_Same (g0_e : Option Addr) (g1_q : Option Addr) {h : Hp} {Q : PQ} (H : F_liverylaw14_Same g0_e g1_q h Q) : S_liverylaw14_Same g0_e g1_q h Q :=
 fo Tryz.func102 (E_liverylaw14_Same g0_e g1_q h Q) H
def F_liverylaw15_Same (g0_s : Option Addr) (g1_q : Option Addr) (h : Hp) (Q : PQ) : Prop :=
∀ X1 : PQ, (∀ n2 : Int, ∀ h3 : Hp, (nilW g1_q fun a4 => ∃ p5, rd h3 (add a4 0) = some (pointer p5) ∧
 nilW p5 fun a6 => ∃ l7 : Sl, rd h3 (add a6 0) = some (slice l7.a l7.n l7.c) ∧
 (if (decide (n2 ≤ (IntKind.wrap .i64 ((l7.n : Int) + 1)))) = true then
 (∀ J8 : PQ, (∀ b9 : Bool, ∀ h10 : Hp, ((if b9 = true then
 (Q [(bool false)] h10) else
 (X1 [(int .i64 (IntKind.wrap .i64 (n2 + 1)))] h10))) → J8 [(bool b9)] h10) →
 S_ssi_Ssi_Doomed g0_s n2 h3 fun vs11 h12 =>
 ∃ b13, vs11 = [(bool b13)] ∧
 S_liveryref15_Ssi_IsDoomed g1_q n2 h12 fun vs14 h15 =>
 ∃ b16, vs14 = [(bool b16)] ∧
 (if (!(b13 == b16)) = true then (J8 [(bool true)] h15) else
 (S_ssi_Ssi_Safe g0_s n2 h15 fun vs17 h18 =>
 ∃ b19, vs17 = [(bool b19)] ∧
 S_liveryref15_Ssi_Safe g1_q n2 h18 fun vs20 h21 =>
 ∃ b22, vs20 = [(bool b22)] ∧
 (if (!(b19 == b22)) = true then (J8 [(bool true)] h21) else
 (nilW g1_q fun a23 => ∃ p24, rd h21 (add a23 1) = some (pointer p24) ∧
 S_ssi_Ssi_Table g0_s h21 fun vs25 h26 =>
 ∃ p27, vs25 = [(pointer p27)] ∧
 rd h26 (add a23 1) = some (pointer p24) ∧ S_siread_Table_Of p27 n2 h26 fun vs28 h29 =>
 ∃ l30 : Sl, vs28 = [(slice l30.a l30.n l30.c)] ∧
 rd h29 (add a23 1) = some (pointer p24) ∧ S_liveryref13_Table_Of p24 n2 h29 fun vs31 h32 =>
 ∃ l33 : Sl, vs31 = [(slice l33.a l33.n l33.c)] ∧
 J8 [(bool ((l30.n : Int) != (l33.n : Int)))] h32))))) else
 (nilW g1_q fun a34 => ∃ p35, rd h3 (add a34 0) = some (pointer p35) ∧
 S_ssi_Ssi_Log g0_s h3 fun vs36 h37 =>
 ∃ p38, vs36 = [(pointer p38)] ∧
 rd h37 (add a34 0) = some (pointer p35) ∧ S_liverylaw08_Same p38 p35 h37 fun vs39 h40 =>
 ∃ b41, vs39 = [(bool b41)] ∧
 (if b41 = true then (nilW g1_q fun a42 => ∃ p43, rd h40 (add a42 1) = some (pointer p43) ∧
 S_ssi_Ssi_Table g0_s h40 fun vs44 h45 =>
 ∃ p46, vs44 = [(pointer p46)] ∧
 rd h45 (add a42 1) = some (pointer p43) ∧ S_liverylaw13_Same p46 p43 h45 fun vs47 h48 =>
 ∃ b49, vs47 = [(bool b49)] ∧
 (if b49 = true then (nilW g1_q fun a50 => ∃ p51, rd h48 (add a50 2) = some (pointer p51) ∧
 S_ssi_Ssi_Edges g0_s h48 fun vs52 h53 =>
 ∃ p54, vs52 = [(pointer p54)] ∧
 rd h53 (add a50 2) = some (pointer p51) ∧ S_liverylaw14_Same p54 p51 h53 fun vs55 h56 =>
 ∃ b57, vs55 = [(bool b57)] ∧
 Q [(bool b57)] h56) else
 (Q [(bool false)] h48))) else
 (Q [(bool false)] h40))))) → X1 [(int .i64 n2)] h3) →
X1 [(int .i64 0)] h
def A_liverylaw15_Same : Ann := (.mk none ⟨[], []⟩ .nil (.mk none ⟨[], []⟩ (.mk none ⟨[], []⟩ .nil (.mk none ⟨[], []⟩ (.mk none ⟨[0, 1], [(5, (.c (.int .i64)))]⟩ (.mk none ⟨[], []⟩ .nil (.mk none ⟨[], []⟩ (.mk none ⟨[], []⟩ (.mk none ⟨[], []⟩ (.mk (some ⟨[0, 1, 5], [(49, (.c .bool))]⟩) ⟨[], []⟩ .nil .nil) .nil) .nil) .nil)) .nil) .nil)) .nil))
theorem E_liverylaw15_Same (g0_s : Option Addr) (g1_q : Option Addr) (h : Hp) (Q : PQ) : eW 75 Tryz.f48 A_liverylaw15_Same [(pointer g0_s), (pointer g1_q)] h Q = F_liverylaw15_Same g0_s g1_q h Q := by kernel_rfl
theorem O_liverylaw15_Same (g0_s : Option Addr) (g1_q : Option Addr) {h : Hp} {Q : PQ} (H : F_liverylaw15_Same g0_s g1_q h Q) : S_liverylaw15_Same g0_s g1_q h Q :=
 fo Tryz.func48 (E_liverylaw15_Same g0_s g1_q h Q) H
def F_liverylaw15_SsiPlays (g0_n_0 : Int) (g0_n_1 : Int) (g0_n_2 : Int) (g1_steps : Sl) (h : Hp) (Q : PQ) : Prop :=
wth (Array.push h (Obj.cells #[(int .i64 g0_n_0), (int .i64 g0_n_1), (int .i64 g0_n_2)] T_3_int)) fun h1 =>
S_liverylaw15_Fair ⟨g1_steps.a, g1_steps.n, g1_steps.c⟩ h1 fun vs2 h3 =>
∃ b4, vs2 = [(bool b4)] ∧
(if (!b4) = true then
 (S_liverylaw15_wakes  h3 fun vs5 h6 =>
 ∃ b7, vs5 = [(bool b7)] ∧
 Q [(bool b7)] h6) else
 (S_clog_New  h3 fun vs8 h9 =>
 ∃ p10, vs8 = [(pointer p10)] ∧
 wth (Array.push h9 (Obj.cells #[(slice none 0 0), (int .i64 0)] T_liveryref08_Log)) fun h11 =>
 ixOk 0 3 (∃ n12, rd h11 (add (mk h.size 0 none) (Int.toNat 0 * 1)) = some (int .i64 n12) ∧
 ixOk 1 3 (∃ n13, rd h11 (add (mk h.size 0 none) (Int.toNat 1 * 1)) = some (int .i64 n13) ∧
 ixOk 2 3 (∃ n14, rd h11 (add (mk h.size 0 none) (Int.toNat 2 * 1)) = some (int .i64 n14) ∧
 S_ssi_New p10 n12 n13 n14 h11 fun vs15 h16 =>
 ∃ p17, ∃ n18, vs15 = [(pointer p17), (int .i64 n18)] ∧
 ixOk 0 3 (∃ n19, rd h16 (add (mk h.size 0 none) (Int.toNat 0 * 1)) = some (int .i64 n19) ∧
 ixOk 1 3 (∃ n20, rd h16 (add (mk h.size 0 none) (Int.toNat 1 * 1)) = some (int .i64 n20) ∧
 ixOk 2 3 (∃ n21, rd h16 (add (mk h.size 0 none) (Int.toNat 2 * 1)) = some (int .i64 n21) ∧
 S_liveryref15_New (some (mk h9.size 0 none)) n19 n20 n21 h16 fun vs22 h23 =>
 ∃ p24, ∃ n25, vs22 = [(pointer p24), (int .i64 n25)] ∧
 ∀ J26 : PQ, (∀ b27 : Bool, ∀ h28 : Hp, ((if b27 = true then
 (Q [(bool false)] h28) else
 (∀ X29 : PQ, (∀ n30 : Int, ∀ h31 : Hp, (∀ J32 : PQ, (∀ b33 : Bool, ∀ h34 : Hp, ((if b33 = true then
 (nilW g1_steps.a fun a35 => ixOk n30 g1_steps.n (∃ n36, rd h34 (add (add a35 (Int.toNat n30 * 9)) 0) = some (int .i64 n36) ∧ ∃ n37, rd h34 (add (add a35 (Int.toNat n30 * 9)) 1) = some (int .i64 n37) ∧ ∃ n38, rd h34 (add (add a35 (Int.toNat n30 * 9)) 2) = some (int .i64 n38) ∧ ∃ b39, rd h34 (add (add a35 (Int.toNat n30 * 9)) 3) = some (bool b39) ∧ ∃ n40, rd h34 (add (add a35 (Int.toNat n30 * 9)) 4) = some (int .i64 n40) ∧ ∃ s41, rd h34 (add (add a35 (Int.toNat n30 * 9)) 5) = some (string s41) ∧ ∃ n42, rd h34 (add (add a35 (Int.toNat n30 * 9)) 6) = some (int .i64 n42) ∧ ∃ s43, rd h34 (add (add a35 (Int.toNat n30 * 9)) 7) = some (string s43) ∧ ∃ n44, rd h34 (add (add a35 (Int.toNat n30 * 9)) 8) = some (int .i64 n44) ∧ wth (Array.push h34 (Obj.cells #[(int .i64 0), (int .i64 0), (int .i64 0), (bool false), (int .i64 0), (string (ByteArray.mk #[])), (int .i64 0), (string (ByteArray.mk #[])), (int .i64 0)] T_liverylaw15_Step)) fun h45 =>
 stOk h45 (mk h34.size 0 none) 9 ∧ wth (wrs h45 (mk h34.size 0 none) 0 [(int .i64 n36), (int .i64 n37), (int .i64 n38), (bool b39), (int .i64 n40), (string s41), (int .i64 n42), (string s43), (int .i64 n44)]) fun h46 =>
 ∃ n47, rd h46 (add (mk h34.size 0 none) 0) = some (int .i64 n47) ∧
 ∀ J48 : PQ, (∀ h49 : Hp, (S_liverylaw15_Same p17 p24 h49 fun vs50 h51 =>
 ∃ b52, vs50 = [(bool b52)] ∧
 (if (!b52) = true then
 (Q [(bool false)] h51) else
 (X29 [(int .i64 (IntKind.wrap .i64 (n30 + 1)))] h51))) → J48 [] h49) →
 (if (n47 == 0) = true then
 (∃ b53, rd h46 (add (mk h34.size 0 none) 3) = some (bool b53) ∧
 S_ssi_Ssi_Begin p17 b53 h46 fun vs54 h55 =>
 ∃ n56, ∃ n57, vs54 = [(int .i64 n56), (int .i64 n57)] ∧
 ∃ b58, rd h55 (add (mk h34.size 0 none) 3) = some (bool b58) ∧
 S_liveryref15_Ssi_Begin p24 b58 h55 fun vs59 h60 =>
 ∃ n61, ∃ n62, vs59 = [(int .i64 n61), (int .i64 n62)] ∧
 ∀ J63 : PQ, (∀ b64 : Bool, ∀ h65 : Hp, ((if b64 = true then
 (Q [(bool false)] h65) else
 (J48 [] h65))) → J63 [(bool b64)] h65) →
 (if (n56 != n61) = true then (J63 [(bool true)] h60) else
 (J63 [(bool (n57 != n62))] h60))) else
 ((if (n47 == 1) = true then
 (∃ n66, rd h46 (add (mk h34.size 0 none) 1) = some (int .i64 n66) ∧
 ∃ n67, rd h46 (add (mk h34.size 0 none) 1) = some (int .i64 n67) ∧
 S_ssi_Ssi_Commit p17 n66 h46 fun vs68 h69 =>
 ∃ n70, vs68 = [(int .i64 n70)] ∧
 rd h69 (add (mk h34.size 0 none) 1) = some (int .i64 n67) ∧ S_liveryref15_Ssi_Commit p24 n67 h69 fun vs71 h72 =>
 ∃ n73, vs71 = [(int .i64 n73)] ∧
 (if (n70 != n73) = true then
 (Q [(bool false)] h72) else
 (J48 [] h72))) else
 ((if (n47 == 2) = true then
 (∃ n74, rd h46 (add (mk h34.size 0 none) 1) = some (int .i64 n74) ∧
 ∃ n75, rd h46 (add (mk h34.size 0 none) 1) = some (int .i64 n75) ∧
 S_ssi_Ssi_Abort p17 n74 h46 fun vs76 h77 =>
 ∃ n78, vs76 = [(int .i64 n78)] ∧
 rd h77 (add (mk h34.size 0 none) 1) = some (int .i64 n75) ∧ S_liveryref15_Ssi_Abort p24 n75 h77 fun vs79 h80 =>
 ∃ n81, vs79 = [(int .i64 n81)] ∧
 (if (n78 != n81) = true then
 (Q [(bool false)] h80) else
 (J48 [] h80))) else
 ((if (n47 == 3) = true then
 (∃ n82, rd h46 (add (mk h34.size 0 none) 1) = some (int .i64 n82) ∧
 ∃ n83, rd h46 (add (add (mk h34.size 0 none) 4) 0) = some (int .i64 n83) ∧ ∃ s84, rd h46 (add (add (mk h34.size 0 none) 4) 1) = some (string s84) ∧ ∃ n85, rd h46 (add (add (mk h34.size 0 none) 4) 2) = some (int .i64 n85) ∧ ∃ s86, rd h46 (add (add (mk h34.size 0 none) 4) 3) = some (string s86) ∧ ∃ n87, rd h46 (add (add (mk h34.size 0 none) 4) 4) = some (int .i64 n87) ∧ S_ssi_Ssi_Read p17 n82 n83 s84 n85 s86 n87 h46 fun vs88 h89 =>
 vs88 = [] ∧
 ∃ n90, rd h89 (add (mk h34.size 0 none) 1) = some (int .i64 n90) ∧
 ∃ n91, rd h89 (add (add (mk h34.size 0 none) 4) 0) = some (int .i64 n91) ∧ ∃ s92, rd h89 (add (add (mk h34.size 0 none) 4) 1) = some (string s92) ∧ ∃ n93, rd h89 (add (add (mk h34.size 0 none) 4) 2) = some (int .i64 n93) ∧ ∃ s94, rd h89 (add (add (mk h34.size 0 none) 4) 3) = some (string s94) ∧ ∃ n95, rd h89 (add (add (mk h34.size 0 none) 4) 4) = some (int .i64 n95) ∧ S_liverylaw13_Own n91 s92 n93 s94 n95 h89 fun vs96 h97 =>
 ∃ n98, ∃ s99, ∃ n100, ∃ s101, ∃ n102, vs96 = [(agg #[(int .i64 n98), (string s99), (int .i64 n100), (string s101), (int .i64 n102)])] ∧
 rd h97 (add (mk h34.size 0 none) 1) = some (int .i64 n90) ∧ S_liveryref15_Ssi_Read p24 n90 n98 s99 n100 s101 n102 h97 fun vs103 h104 =>
 vs103 = [] ∧
 J48 [] h104) else
 ((if (n47 == 4) = true then
 (∃ n105, rd h46 (add (mk h34.size 0 none) 1) = some (int .i64 n105) ∧
 ∃ n106, rd h46 (add (add (mk h34.size 0 none) 4) 0) = some (int .i64 n106) ∧ ∃ s107, rd h46 (add (add (mk h34.size 0 none) 4) 1) = some (string s107) ∧ ∃ n108, rd h46 (add (add (mk h34.size 0 none) 4) 2) = some (int .i64 n108) ∧ ∃ s109, rd h46 (add (add (mk h34.size 0 none) 4) 3) = some (string s109) ∧ ∃ n110, rd h46 (add (add (mk h34.size 0 none) 4) 4) = some (int .i64 n110) ∧ S_ssi_Ssi_Wrote p17 n105 n106 s107 n108 s109 n110 h46 fun vs111 h112 =>
 vs111 = [] ∧
 ∃ n113, rd h112 (add (mk h34.size 0 none) 1) = some (int .i64 n113) ∧
 ∃ n114, rd h112 (add (add (mk h34.size 0 none) 4) 0) = some (int .i64 n114) ∧ ∃ s115, rd h112 (add (add (mk h34.size 0 none) 4) 1) = some (string s115) ∧ ∃ n116, rd h112 (add (add (mk h34.size 0 none) 4) 2) = some (int .i64 n116) ∧ ∃ s117, rd h112 (add (add (mk h34.size 0 none) 4) 3) = some (string s117) ∧ ∃ n118, rd h112 (add (add (mk h34.size 0 none) 4) 4) = some (int .i64 n118) ∧ S_liverylaw13_Own n114 s115 n116 s117 n118 h112 fun vs119 h120 =>
 ∃ n121, ∃ s122, ∃ n123, ∃ s124, ∃ n125, vs119 = [(agg #[(int .i64 n121), (string s122), (int .i64 n123), (string s124), (int .i64 n125)])] ∧
 rd h120 (add (mk h34.size 0 none) 1) = some (int .i64 n113) ∧ S_liveryref15_Ssi_Wrote p24 n113 n121 s122 n123 s124 n125 h120 fun vs126 h127 =>
 vs126 = [] ∧
 J48 [] h127) else
 ((if (n47 == 5) = true then
 (∃ n128, rd h46 (add (mk h34.size 0 none) 1) = some (int .i64 n128) ∧
 ∃ n129, rd h46 (add (mk h34.size 0 none) 2) = some (int .i64 n129) ∧
 S_ssi_Ssi_Saw p17 n128 n129 h46 fun vs130 h131 =>
 vs130 = [] ∧
 ∃ n132, rd h131 (add (mk h34.size 0 none) 1) = some (int .i64 n132) ∧
 ∃ n133, rd h131 (add (mk h34.size 0 none) 2) = some (int .i64 n133) ∧
 S_liveryref15_Ssi_Saw p24 n132 n133 h131 fun vs134 h135 =>
 vs134 = [] ∧
 J48 [] h135) else
 (J48 [] h46)))))))))))))) else
 (S_liverylaw15_wakes  h34 fun vs136 h137 =>
 ∃ b138, vs136 = [(bool b138)] ∧
 Q [(bool b138)] h137))) → J32 [(bool b33)] h34) →
 (if (decide (n30 < (g1_steps.n : Int))) = true then (J32 [(bool (!(Option.isNone p24)))] h31) else
 (J32 [(bool false)] h31))) → X29 [(int .i64 n30)] h31) →
 X29 [(int .i64 0)] h28))) → J26 [(bool b27)] h28) →
 (if (Option.isNone p10) = true then (J26 [(bool true)] h23) else
 ((if (n18 != n25) = true then (J26 [(bool true)] h23) else
 (J26 [(bool (!((Option.isNone p17) == (Option.isNone p24))))] h23))))))))))))
def A_liverylaw15_SsiPlays : Ann := (.mk none ⟨[], []⟩ .nil (.mk none ⟨[], []⟩ .nil (.mk none ⟨[], []⟩ .nil (.mk none ⟨[], []⟩ .nil (.mk none ⟨[], []⟩ .nil (.mk none ⟨[], []⟩ (.mk none ⟨[], []⟩ (.mk (some ⟨[1, 7, 9], [(59, (.c .bool))]⟩) ⟨[], []⟩ .nil .nil) .nil) (.mk none ⟨[], []⟩ (.mk none ⟨[], []⟩ .nil (.mk none ⟨[], []⟩ (.mk none ⟨[1, 7, 9], [(11, (.c (.int .i64)))]⟩ (.mk none ⟨[], []⟩ (.mk none ⟨[], []⟩ (.mk (some ⟨[1, 7, 9, 11], [(67, (.c .bool))]⟩) ⟨[], []⟩ .nil .nil) .nil) (.mk none ⟨[], []⟩ (.mk none ⟨[], []⟩ (.mk none ⟨[], []⟩ .nil (.mk none ⟨[], []⟩ (.mk none ⟨[], []⟩ .nil (.mk (some ⟨[1, 7, 9, 11], []⟩) ⟨[], []⟩ (.mk none ⟨[], []⟩ .nil (.mk none ⟨[], []⟩ (.mk none ⟨[], []⟩ .nil (.mk none ⟨[], []⟩ .nil (.mk none ⟨[], []⟩ (.mk (some ⟨[1, 7, 9, 11], [(99, (.c .bool))]⟩) ⟨[], []⟩ .nil .nil) .nil))) .nil)) .nil)) .nil)) .nil) .nil)) .nil) .nil)) .nil)))))))
theorem E_liverylaw15_SsiPlays (g0_n_0 : Int) (g0_n_1 : Int) (g0_n_2 : Int) (g1_steps : Sl) (h : Hp) (Q : PQ) : eW 171 Tryz.f9 A_liverylaw15_SsiPlays [(agg #[(int .i64 g0_n_0), (int .i64 g0_n_1), (int .i64 g0_n_2)]), (slice g1_steps.a g1_steps.n g1_steps.c)] h Q = F_liverylaw15_SsiPlays g0_n_0 g0_n_1 g0_n_2 g1_steps h Q := by kernel_rfl
end Go.Lift

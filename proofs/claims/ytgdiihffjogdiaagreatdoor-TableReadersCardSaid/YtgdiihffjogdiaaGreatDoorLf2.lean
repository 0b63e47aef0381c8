/- Printed by lift.py: functions, part 1. -/
import Derived.Test.YtgdiihffjogdiaaGreatDoorLfs
set_option linter.unusedSimpArgs false
set_option linter.unusedVariables false
namespace Go.Lift
open Go Go.Proofs Cmp
set_option maxRecDepth 100000
def F_clog_New (h:Hp)(Q:PQ):Prop:=
wth (pu h (oc (zc PP T_clog_Log) T_clog_Log)) fun h1=>
Q [vP (some (nb h))] h1
theorem O_clog_New {h Q}(H:F_clog_New h Q):S_clog_New h Q:=fo Tryz.func41 Z H
def F_siread_New (a b:Int)(h:Hp)(Q:PQ):Prop:=
∀J1:PQ,(∀b2 h3,((if b2=true then
(Q [vP none,vI 1] h3) else
(wth (pu h3 (Obj.map #[] 0)) fun h4=>
wth (pu h4 (oc #[vI a,vI b,vM (some h3.size),vI 0,vI 0] T_siread_Table)) fun h5=>
Q [vP (some (nb h4)),vI 0] h5)))→J1 [vB b2] h3) →
(if (decide (a < (1 : Int)))=true then (J1 [vB true] h) else
((if (decide (a > 10000))=true then (J1 [vB true] h) else
((if (decide (b < (1 : Int)))=true then (J1 [vB true] h) else
(J1 [vB (decide (b > 10000))] h))))))
theorem O_siread_New (a b:Int){h Q}(H:F_siread_New a b h Q):S_siread_New a b h Q:=fo Tryz.func94 (R (L (L (.mk (some ⟨[0,1],[(19,(.c .bool))]⟩) E Z Z)))) H
def F_edge_New (a:OA)(h:Hp)(Q:PQ):Prop:=
wth (pu h (Obj.map #[] 0)) fun h1=>
wth (pu h1 (Obj.map #[] 0)) fun h2=>
wth (pu h2 (oc #[vP a,vM (some h.size),vM (some h1.size)] T_edge_Edges)) fun h3=>
Q [vP (some (nb h2))] h3
theorem O_edge_New (a:OA){h Q}(H:F_edge_New a h Q):S_edge_New a h Q:=fo Tryz.func95 Z H
def F_ssi_New (a:OA)(b c d:Int)(h:Hp)(Q:PQ):Prop:=
∀J1:PQ,(∀b2 h3,((if b2=true then
(Q [vP none,vI 1] h3) else
(S_siread_New b c h3 fun vs4 h5=>
∃p6 n7,vs4=[vP p6,vI n7] ∧
(if (n7 != 0)=true then
(Q [vP none,vI n7] h5) else
(S_edge_New a h5 fun vs8 h9=>
∃p10,vs8=[vP p10] ∧
wth (pu h9 (Obj.map #[] 0)) fun h11=>
wth (pu h11 (Obj.map #[] 0)) fun h12=>
wth (pu h12 (oc #[vP a,vP p6,vP p10,vI d,(vC none 0 0),vM (some h9.size),vM (some h11.size)] T_ssi_Ssi)) fun h13=>
Q [vP (some (nb h12)),vI 0] h13)))))→J1 [vB b2] h3) →
(if (isn a)=true then (J1 [vB true] h) else
((if (decide (d < (0 : Int)))=true then (J1 [vB true] h) else
(J1 [vB (decide (d > 1000))] h))))
theorem O_ssi_New (a:OA)(b c d:Int){h Q}(H:F_ssi_New a b c d h Q):S_ssi_New a b c d h Q:=fo Tryz.func42 (R (L (L (.mk (some ⟨[0,1,2,3],[(21,(.c .bool))]⟩) E Z Z)))) H
def F_name_New (h:Hp)(Q:PQ):Prop:=
wth (pu h (Obj.map #[] 0)) fun h1=>
wth (pu h1 (oc #[vM (some h.size)] T_name_Names)) fun h2=>
Q [vP (some (nb h1))] h2
theorem O_name_New {h Q}(H:F_name_New h Q):S_name_New h Q:=fo Tryz.func43 Z H
def F_lock_New (h:Hp)(Q:PQ):Prop:=
wth (pu h (Obj.map #[] 0)) fun h1=>
wth (pu h1 (oc #[vM (some h.size)] T_lock_Table)) fun h2=>
Q [vP (some (nb h1))] h2
theorem O_lock_New {h Q}(H:F_lock_New h Q):S_lock_New h Q:=fo Tryz.func44 Z H
def F_table_New (a b c d:Int)(h:Hp)(Q:PQ):Prop:=
S_clog_New  h fun vs1 h2=>
∃p3,vs1=[vP p3] ∧
S_ssi_New p3 a b c h2 fun vs4 h5=>
∃p6 n7,vs4=[vP p6,vI n7] ∧
(if (n7 != 0)=true then
(Q [vP none,vI n7] h5) else
(∀J8:PQ,(∀b9 h10,((if b9=true then
(Q [vP none,vI 1] h10) else
(S_name_New  h10 fun vs11 h12=>
∃p13,vs11=[vP p13] ∧
S_lock_New  h12 fun vs14 h15=>
∃p16,vs14=[vP p16] ∧
wth (pu h15 (Obj.map #[] 0)) fun h17=>
wth (pu h17 (oc #[vP p3,vP p13,vP p16,vP p6,vM (some h15.size),vI d] T_table_Store)) fun h18=>
Q [vP (some (nb h17)),vI 0] h18)))→J8 [vB b9] h10) →
(if (decide (d < (2 : Int)))=true then (J8 [vB true] h5) else
(J8 [vB (decide (d > 64))] h5))))
theorem O_table_New (a b c d:Int){h Q}(H:F_table_New a b c d h Q):S_table_New a b c d h Q:=fo Tryz.func6 (R (R (R (L (L (R (R (L (.mk (some ⟨[3,10,11],[(26,(.c .bool))]⟩) E Z Z))))))))) H
def F_liverylaw19_num (a:Int)(h:Hp)(Q:PQ):Prop:=
wth (pu h (oc #[vI 0,vI 0,(Value.float .f64 0),vS (ByteArray.mk #[])] T_api_Value)) fun h1=>
stOk h1 (nb h) 4∧wth (wrs h1 (nb h) 0 [vI 2,vI a,(Value.float .f64 0),vS (ByteArray.mk #[])]) fun h2=>
∃n3,rI h2 (ad (nb h) 0) n3∧∃n4,rI h2 (ad (nb h) 1) n4∧∃x5,rd h2 (ad (nb h) 2)=some (Value.float .f64 x5)∧∃s6,rS h2 (ad (nb h) 3) s6∧Q [(vA #[vI n3,vI n4,(Value.float .f64 x5),vS s6])] h2
theorem O_liverylaw19_num (a:Int){h Q}(H:F_liverylaw19_num a h Q):S_liverylaw19_num a h Q:=fo Tryz.func10 Z H
def F_table_Store_Ssi (a:OA)(h:Hp)(Q:PQ):Prop:=
(if (isn a)=true then
(Q [vP none] h) else
(nilW a fun a1=>∃p2,rP h (ad a1 3) p2 ∧
Q [vP p2] h))
theorem O_table_Store_Ssi (a:OA){h Q}(H:F_table_Store_Ssi a h Q):S_table_Store_Ssi a h Q:=fo Tryz.func11 Z H
def F_slices_IndexFunc_sint_int (a:Sl)(b:Nat)(c:AV)(h:Hp)(Q:PQ):Prop:=
∀X1:PQ,(∀n2 h3,((if (decide (n2 < (a.n : Int)))=true then
(nilW a.a fun a4=>ixOk n2 a.n (∃n5,rI h3 (ad a4 (tn n2*1)) n5 ∧
Fn PP b ((#[] ++ #[vI n5]) ++ c) h3 fun vs6 h7=>
∃b8,vs6=[vB b8] ∧
(if b8=true then
(Q [vI n2] h7) else
(X1 [vI (wi (n2+1))] h7)))) else
(Q [vI (-1 : Int)] h3)))→X1 [vI n2] h3) →
X1 [vI 0] h
theorem O_slices_IndexFunc_sint_int (a:Sl)(b:Nat)(c:AV){h Q}(H:F_slices_IndexFunc_sint_int a b c h Q):S_slices_IndexFunc_sint_int a b c h Q:=fo Tryz.func98 (R (L (R (L (.mk none ⟨[0,1,7],[(8,(.c (.int .i64)))]⟩ Z Z))))) H
def F_slices_ContainsFunc_sint_int (a:Sl)(b:Nat)(c:AV)(h:Hp)(Q:PQ):Prop:=
S_slices_IndexFunc_sint_int ⟨a.a,a.n,a.c⟩ b c h fun vs1 h2=>
∃n3,vs1=[vI n3] ∧
Q [vB (decide (n3 ≥ 0))] h2
theorem O_slices_ContainsFunc_sint_int (a:Sl)(b:Nat)(c:AV){h Q}(H:F_slices_ContainsFunc_sint_int a b c h Q):S_slices_ContainsFunc_sint_int a b c h Q:=fo Tryz.func51 Z H
def F_clog_Log_Running (a:OA)(h:Hp)(Q:PQ):Prop:=
∀X1:PQ,(∀l2 : Sl,∀n3 h4,(∀J5:PQ,(∀b6 h7,((if b6=true then
(∀J8:PQ,(∀l9 : Sl,∀h10,(X1 [vL l9,vI (wi (n3+1))] h10)→J8 [vL l9] h10) →
nilW a fun a11=>ixOk n3 201 (∃n12,rI h7 (ad (ad (ad a11 0) (tn n3*4)) 0) n12 ∧
(if (n12==1)=true then
(wth (pu h7 (oc #[vI n3] T_int)) fun h13=>
∃cs16,cellsAt h13 (some (nb h7)) (1*1) cs16∧appS PP T_int 8 1 h13 ⟨l2.a,l2.n,l2.c⟩ 1 cs16 fun l14 h15=>
J8 [vL l14] h15) else
(J8 [vL l2] h7)))) else
(Q [vL l2] h7)))→J5 [vB b6] h7) →
(if (!(isn a))=true then (nilW a fun a17=>∃n18,rI h4 (ad a17 804) n18 ∧
J5 [vB (decide (n3≤n18))] h4) else
(J5 [vB false] h4)))→X1 [vL l2,vI n3] h4) →
X1 [(vC none 0 0),vI 1] h
theorem O_clog_Log_Running (a:OA){h Q}(H:F_clog_Log_Running a h Q):S_clog_Log_Running a h Q:=fo Tryz.func52 (R (R (L (R (L (.mk none ⟨[0],[(3,(.c .sl)),(4,(.c (.int .i64)))]⟩ (N (L (.mk (some ⟨[0,3,4],[(14,(.c .bool))]⟩) E Z Z)) (L (.mk (some ⟨[0,4],[(3,(.c .sl))]⟩) E Z Z))) Z)))))) H
def F_clog_Log_Begin (a:OA)(b:Bool)(h:Hp)(Q:PQ):Prop:=
(if (isn a)=true then
(Q [vI 0,vI 1] h) else
(nilW a fun a1=>∃n2,rI h (ad a1 804) n2 ∧
(if (n2==200)=true then
(Q [vI 0,vI 74] h) else
(nilW a fun a3=>∃n4,rI h (ad a3 804) n4 ∧
nilW a fun a5=>stOk h (ad a5 804) 1∧wth (wrs h (ad a5 804) 0 [vI (wi (n4+1))]) fun h6=>
nilW a fun a7=>∃n8,rI h6 (ad a7 804) n8 ∧
nilW a fun a9=>∃n10,rI h6 (ad a9 805) n10 ∧
nilW a fun a11=>ixOk n8 201 (stOk h6 (ad (ad a11 0) (tn n8*4)) 4∧wth (wrs h6 (ad (ad a11 0) (tn n8*4)) 0 [vI 1,vI 0,vI n10,vB b]) fun h12=>
nilW a fun a13=>∃n14,rI h12 (ad a13 804) n14 ∧
Q [vI n14,vI 0] h12)))))
theorem O_clog_Log_Begin (a:OA)(b:Bool){h Q}(H:F_clog_Log_Begin a b h Q):S_clog_Log_Begin a b h Q:=fo Tryz.func55 Z H
def F_ssi_Ssi_Begin (a:OA)(b:Bool)(h:Hp)(Q:PQ):Prop:=
wth (pu h (oc #[vP a] T_pssi_Ssi)) fun h1=>
∃p2,rP h1 (nb h) p2 ∧
(if (isn p2)=true then
(Q [vI 0,vI 1] h1) else
(∃p3,rP h1 (nb h) p3 ∧
nilW p3 fun a4=>∃p5,rP h1 (ad a4 0) p5 ∧
S_clog_Log_Running p5 h1 fun vs6 h7=>
∃l8 : Sl,vs6=[vL l8] ∧
S_slices_ContainsFunc_sint_int ⟨l8.a,l8.n,l8.c⟩ 53 #[vP (some (nb h))] h7 fun vs9 h10=>
∃b11,vs9=[vB b11] ∧
∃p12,rP h10 (nb h) p12 ∧
nilW p12 fun a13=>∃p14,rP h10 (ad a13 0) p14 ∧
S_clog_Log_Begin p14 b h10 fun vs15 h16=>
∃n17 n18,vs15=[vI n17,vI n18] ∧
∀J19:PQ,(∀b20 h21,(∀J22:PQ,(∀h23,(Q [vI n17,vI n18] h23)→J22 [] h23) →
(if b20=true then
(∃p24,rP h21 (nb h) p24 ∧
nilW p24 fun a25=>∃r26,rM h21 (ad a25 6) r26 ∧
∃es27,mapAt h21 r26 es27∧KeysLike (vI n17) es27∧∃n28,mgetD (vI n17) es27 (vI 0)=(vI n28) ∧
∃m30 es31 c32,r26=some m30∧h21[m30]?=some (.map es31 c32)∧KeysLike (vI n17) es31∧wth (sib h21 m30 (mput (vI n17) (vI (wi (n28+1))) es31 c32)) fun h33=>
J22 [] h33) else
(J22 [] h21)))→J19 [vB b20] h21) →
(if (n18==0)=true then ((if b=true then (J19 [vB (!b11)] h16) else
(J19 [vB false] h16))) else
(J19 [vB false] h16))))
theorem O_ssi_Ssi_Begin (a:OA)(b:Bool){h Q}(H:F_ssi_Ssi_Begin a b h Q):S_ssi_Ssi_Begin a b h Q:=fo Tryz.func12 (R (R (R (R (L (N (.mk (some ⟨[2,7,8],[(35,(.c .bool))]⟩) E Z Z) (.mk (some ⟨[7,8],[]⟩) E Z Z))))))) H
def F_heap_New (h:Hp)(Q:PQ):Prop:=
wth (pu h (Obj.map #[] 0)) fun h1=>
wth (pu h1 (oc #[vM (some h.size),vI 0] T_heap_Rel)) fun h2=>
Q [vP (some (nb h1))] h2
theorem O_heap_New {h Q}(H:F_heap_New h Q):S_heap_New h Q:=fo Tryz.func56 Z H
def F_table_Store_NewRel (a:OA)(h:Hp)(Q:PQ):Prop:=
(if (isn a)=true then
(Q [vI 0,vI 1] h) else
(nilW a fun a1=>∃r2,rM h (ad a1 4) r2 ∧
∃es3,mapAt h r2 es3 ∧
(if (decide ((Array.size es3 : Int) ≥ 100))=true then
(Q [vI 0,vI 74] h) else
(nilW a fun a4=>∃r5,rM h (ad a4 4) r5 ∧
∃es6,mapAt h r5 es6 ∧
nilW a fun a7=>∃r8,rM h (ad a7 4) r8 ∧
S_heap_New  h fun vs9 h10=>
∃p11,vs9=[vP p11] ∧
rM h10 (ad a7 4) r8∧wth (pu h10 (oc #[vP p11,(vC none 0 0)] T_table_rel)) fun h12=>
rM h12 (ad a7 4) r8∧∃m13 es14 c15,r8=some m13∧h12[m13]?=some (.map es14 c15)∧KeysLike (vI (wi ((Array.size es6 : Int)+1))) es14∧wth (sib h12 m13 (mput (vI (wi ((Array.size es6 : Int)+1))) (vP (some (nb h10))) es14 c15)) fun h16=>
Q [(vI (wi ((Array.size es6 : Int)+1))),vI 0] h16))))
theorem O_table_Store_NewRel (a:OA){h Q}(H:F_table_Store_NewRel a h Q):S_table_Store_NewRel a h Q:=fo Tryz.func13 Z H
def F_table_Store_rel (a:OA)(b:Int)(h:Hp)(Q:PQ):Prop:=
(if (isn a)=true then
(Q [vP none] h) else
(nilW a fun a1=>∃r2,rM h (ad a1 4) r2 ∧
∃es3,mapAt h r2 es3∧KeysLike (vI b) es3∧∃p4,mgetD (vI b) es3 (vP none)=(vP p4) ∧
Q [vP p4] h))
theorem O_table_Store_rel (a:OA)(b:Int){h Q}(H:F_table_Store_rel a b h Q):S_table_Store_rel a b h Q:=fo Tryz.func57 Z H
def F_clog_Log_get (a:OA)(b:Int)(h:Hp)(Q:PQ):Prop:=
∀J1:PQ,(∀b2 h3,((if b2=true then
(Q [vP none] h3) else
(nilW a fun a4=>ixOk b 201 (Q [(vP (some (ad (ad a4 0) (tn b*4))))] h3))))→J1 [vB b2] h3) →
(if (isn a)=true then (J1 [vB true] h) else
((if (decide (b < (1 : Int)))=true then (J1 [vB true] h) else
(nilW a fun a5=>∃n6,rI h (ad a5 804) n6 ∧
J1 [vB (decide (b > n6))] h))))
theorem O_clog_Log_get (a:OA)(b:Int){h Q}(H:F_clog_Log_get a b h Q):S_clog_Log_get a b h Q:=fo Tryz.func141 (R (L (L (.mk (some ⟨[0,1],[(18,(.c .bool))]⟩) E Z Z)))) H
def F_clog_Log_one (a:OA)(b:Int)(h:Hp)(Q:PQ):Prop:=
wth (pu h (oc #[vI 0,vI 0,vI 0,vB false] T_clog_tx)) fun h1=>
S_clog_Log_get a b h1 fun vs2 h3=>
∃p4,vs2=[vP p4] ∧
(if (!(isn p4))=true then
(nilW p4 fun a5=>∃n6,rI h3 (ad a5 0) n6∧∃n7,rI h3 (ad a5 1) n7∧∃n8,rI h3 (ad a5 2) n8∧∃b9,rB h3 (ad a5 3) b9∧stOk h3 (nb h) 4∧wth (wrs h3 (nb h) 0 [vI n6,vI n7,vI n8,vB b9]) fun h10=>
∃n11,rI h10 (ad (nb h) 0) n11∧∃n12,rI h10 (ad (nb h) 1) n12∧∃n13,rI h10 (ad (nb h) 2) n13∧∃b14,rB h10 (ad (nb h) 3) b14∧Q [(vA #[vI n11,vI n12,vI n13,vB b14])] h10) else
(stOk h3 (nb h) 4∧wth (wrs h3 (nb h) 0 [vI 0,vI 0,vI 0,vB false]) fun h15=>
∃n16,rI h15 (ad (nb h) 0) n16∧∃n17,rI h15 (ad (nb h) 1) n17∧∃n18,rI h15 (ad (nb h) 2) n18∧∃b19,rB h15 (ad (nb h) 3) b19∧Q [(vA #[vI n16,vI n17,vI n18,vB b19])] h15))
theorem O_clog_Log_one (a:OA)(b:Int){h Q}(H:F_clog_Log_one a b h Q):S_clog_Log_one a b h Q:=fo Tryz.func99 Z H
def F_clog_Log_State (a:OA)(b:Int)(h:Hp)(Q:PQ):Prop:=
S_clog_Log_one a b h fun vs1 h2=>
∃n3 n4 n5 b6,vs1=[(vA #[vI n3,vI n4,vI n5,vB b6])] ∧
Q [vI n3] h2
theorem O_clog_Log_State (a:OA)(b:Int){h Q}(H:F_clog_Log_State a b h Q):S_clog_Log_State a b h Q:=fo Tryz.func58 Z H
def F_table_Store_stands (a b:OA)(h:Hp)(Q:PQ):Prop:=
nilW a fun a1=>∃p2,rP h (ad a1 0) p2 ∧
nilW b fun a3=>∃n4,rI h (ad (ad a3 0) 4) n4 ∧
S_clog_Log_State p2 n4 h fun vs5 h6=>
∃n7,vs5=[vI n7] ∧
(if (n7 != 3)=true then (nilW b fun a8=>∃n9,rI h6 (ad (ad a8 0) 5) n9 ∧
(if (n9==0)=true then (Q [vB true] h6) else
(nilW a fun a10=>∃p11,rP h6 (ad a10 0) p11 ∧
nilW b fun a12=>∃n13,rI h6 (ad (ad a12 0) 5) n13 ∧
S_clog_Log_State p11 n13 h6 fun vs14 h15=>
∃n16,vs14=[vI n16] ∧
Q [vB (n16 != 2)] h15))) else
(Q [vB false] h6))
theorem O_table_Store_stands (a b:OA){h Q}(H:F_table_Store_stands a b h Q):S_table_Store_stands a b h Q:=fo Tryz.func102 Z H
def F_slices_insertionSortCmpFunc_ptable_entries (a:Sl)(b c:Int)(d:Nat)(e:AV)(h:Hp)(Q:PQ):Prop:=
∀X1:PQ,(∀n2 h3,((if (decide (n2 < c))=true then
(∀X4:PQ,(∀n5 h6,(∀J7:PQ,(∀b8 h9,((if b8=true then
(nilW a.a fun a10=>ixOk (wi (n5 - 1)) a.n (∃p11,rd h9 (ad a10 (tn (wi (n5 - 1))*1))=some (vP p11) ∧
nilW a.a fun a12=>ixOk n5 a.n (∃p13,rP h9 (ad a12 (tn n5*1)) p13 ∧
nilW a.a fun a14=>ixOk n5 a.n (stOk h9 (ad a14 (tn n5*1)) 1∧wth (wrs h9 (ad a14 (tn n5*1)) 0 [vP p11]) fun h15=>
nilW a.a fun a16=>ixOk (wi (n5 - 1)) a.n (stOk h15 (ad a16 (tn (wi (n5 - 1))*1)) 1∧wth (wrs h15 (ad a16 (tn (wi (n5 - 1))*1)) 0 [vP p13]) fun h17=>
X4 [vI (wi (n5 - 1))] h17))))) else
(X1 [vI (wi (n2+1))] h9)))→J7 [vB b8] h9) →
(if (decide (n5 > b))=true then (nilW a.a fun a18=>ixOk n5 a.n (∃p19,rP h6 (ad a18 (tn n5*1)) p19 ∧
nilW a.a fun a20=>ixOk (wi (n5 - 1)) a.n (∃p21,rd h6 (ad a20 (tn (wi (n5 - 1))*1))=some (vP p21) ∧
Fn PP d ((#[] ++ #[vP p19,vP p21]) ++ e) h6 fun vs22 h23=>
∃n24,vs22=[vI n24] ∧
J7 [(vB (decide (n24 < (0 : Int))))] h23))) else
(J7 [vB false] h6)))→X4 [vI n5] h6) →
X4 [vI n2] h3) else
(Q [] h3)))→X1 [vI n2] h3) →
X1 [vI (wi (b+1))] h
theorem O_slices_insertionSortCmpFunc_ptable_entries (a:Sl)(b c:Int)(d:Nat)(e:AV){h Q}(H:F_slices_insertionSortCmpFunc_ptable_entries a b c d e h Q):S_slices_insertionSortCmpFunc_ptable_entries a b c d e h Q:=fo Tryz.func173 (R (L (.mk none ⟨[0,1,2,3],[(8,(.c (.int .i64)))]⟩ (R (L (L (R (L (.mk none ⟨[0,1,2,3,8],[(9,(.c (.int .i64)))]⟩ (L (L (.mk (some ⟨[0,1,2,3,8,9],[(34,(.c .bool))]⟩) E Z Z))) Z)))))) Z))) H
def F_slices_stableCmpFunc_ptable_entries (a:Sl)(b:Int)(c:Nat)(d:AV)(h:Hp)(Q:PQ):Prop:=
∀X1:PQ,(∀n2 n3 h4,((if (decide (n3≤b))=true then
(S_slices_insertionSortCmpFunc_ptable_entries ⟨a.a,a.n,a.c⟩ n2 n3 c d h4 fun vs5 h6=>
vs5=[] ∧
X1 [vI n3,vI (wi (n3+20))] h6) else
(S_slices_insertionSortCmpFunc_ptable_entries ⟨a.a,a.n,a.c⟩ n2 b c d h4 fun vs7 h8=>
vs7=[] ∧
∀X9:PQ,(∀n10 h11,((if (decide (n10 < b))=true then
(∀X12:PQ,(∀n13 n14 h15,((if (decide (n14≤b))=true then
(S_slices_symMergeCmpFunc_ptable_entries ⟨a.a,a.n,a.c⟩ n13 (wi (n13+n10)) n14 c d h15 fun vs16 h17=>
vs16=[] ∧
X12 [vI n14,(vI (wi (n14+(wi (2*n10)))))] h17) else
(∀J18:PQ,(∀h19,(X9 [vI (wi (n10*2))] h19)→J18 [] h19) →
(if (decide ((wi (n13+n10)) < b))=true then
(S_slices_symMergeCmpFunc_ptable_entries ⟨a.a,a.n,a.c⟩ n13 (wi (n13+n10)) b c d h15 fun vs20 h21=>
vs20=[] ∧
J18 [] h21) else
(J18 [] h15)))))→X12 [vI n13,vI n14] h15) →
X12 [vI 0,vI (wi (2*n10))] h11) else
(Q [] h11)))→X9 [vI n10] h11) →
X9 [vI 20] h8)))→X1 [vI n2,vI n3] h4) →
X1 [vI 0,vI 20] h
theorem O_slices_stableCmpFunc_ptable_entries (a:Sl)(b:Int)(c:Nat)(d:AV){h Q}(H:F_slices_stableCmpFunc_ptable_entries a b c d h Q):S_slices_stableCmpFunc_ptable_entries a b c d h Q:=fo Tryz.func144 (R (R (N (L (.mk none ⟨[0,1,2,6],[(7,(.c (.int .i64))),(8,(.c (.int .i64)))]⟩ Z Z)) (R (L (.mk none ⟨[0,1,2],[(6,(.c (.int .i64)))]⟩ (R (L (R (N (L (.mk none ⟨[0,1,2,6],[(7,(.c (.int .i64))),(8,(.c (.int .i64)))]⟩ Z Z)) (L (R (R (.mk (some ⟨[0,1,2,6],[]⟩) E Z Z)))))))) Z)))))) H
def F_slices_SortStableFunc_sptable_entries_ptable_entries (a:Sl)(b:Nat)(c:AV)(h:Hp)(Q:PQ):Prop:=
S_slices_stableCmpFunc_ptable_entries ⟨a.a,a.n,a.c⟩ (a.n : Int) b c h fun vs1 h2=>
vs1=[] ∧
Q [] h2
theorem O_slices_SortStableFunc_sptable_entries_ptable_entries (a:Sl)(b:Nat)(c:AV){h Q}(H:F_slices_SortStableFunc_sptable_entries_ptable_entries a b c h Q):S_slices_SortStableFunc_sptable_entries_ptable_entries a b c h Q:=fo Tryz.func103 Z H
def F_table_Store_standing (a:OA)(b:Int)(h:Hp)(Q:PQ):Prop:=
S_table_Store_rel a b h fun vs1 h2=>
∃p3,vs1=[vP p3] ∧
(if (isn p3)=true then
(Q [(vC none 0 0)] h2) else
(nilW p3 fun a4=>∃l5 : Sl,rL h2 (ad a4 1) l5 ∧
∀X6:PQ,(∀l7 : Sl,∀n8 h9,((if (decide (n8 < (l5.n : Int)))=true then
(∀J10:PQ,(∀l11 : Sl,∀h12,(X6 [vL l11,vI (wi (n8+1))] h12)→J10 [vL l11] h12) →
nilW l5.a fun a13=>ixOk n8 l5.n (∃p14,rP h9 (ad a13 (tn n8*1)) p14 ∧
S_table_Store_stands a p14 h9 fun vs15 h16=>
∃b17,vs15=[vB b17] ∧
(if (!b17)=true then
(J10 [vL l7] h16) else
(wth (pu h16 (oc #[vP p14] T_ptable_entries)) fun h18=>
∃cs21,cellsAt h18 (some (nb h16)) (1*1) cs21∧appS PP T_ptable_entries 8 1 h18 ⟨l7.a,l7.n,l7.c⟩ 1 cs21 fun l19 h20=>
J10 [vL l19] h20)))) else
(S_slices_SortStableFunc_sptable_entries_ptable_entries ⟨l7.a,l7.n,l7.c⟩ 104 #[] h9 fun vs22 h23=>
vs22=[] ∧
Q [vL l7] h23)))→X6 [vL l7,vI n8] h9) →
X6 [(vC none 0 0),vI 0] h2))
theorem O_table_Store_standing (a:OA)(b:Int){h Q}(H:F_table_Store_standing a b h Q):S_table_Store_standing a b h Q:=fo Tryz.func60 (R (L (R (R (R (R (L (R (L (.mk none ⟨[0,17,18],[(6,(.c .sl)),(19,(.c (.int .i64)))]⟩ (R (R (L (.mk (some ⟨[0,17,18,19],[(6,(.c .sl))]⟩) E Z Z)))) Z)))))))))) H
def F_slices_IndexFunc_sptable_entries_ptable_entries (a:Sl)(b:Nat)(c:AV)(h:Hp)(Q:PQ):Prop:=
∀X1:PQ,(∀n2 h3,((if (decide (n2 < (a.n : Int)))=true then
(nilW a.a fun a4=>ixOk n2 a.n (∃p5,rP h3 (ad a4 (tn n2*1)) p5 ∧
Fn PP b ((#[] ++ #[vP p5]) ++ c) h3 fun vs6 h7=>
∃b8,vs6=[vB b8] ∧
(if b8=true then
(Q [vI n2] h7) else
(X1 [vI (wi (n2+1))] h7)))) else
(Q [vI (-1 : Int)] h3)))→X1 [vI n2] h3) →
X1 [vI 0] h
theorem O_slices_IndexFunc_sptable_entries_ptable_entries (a:Sl)(b:Nat)(c:AV){h Q}(H:F_slices_IndexFunc_sptable_entries_ptable_entries a b c h Q):S_slices_IndexFunc_sptable_entries_ptable_entries a b c h Q:=fo Tryz.func100 (R (L (R (L (.mk none ⟨[0,1,7],[(8,(.c (.int .i64)))]⟩ Z Z))))) H
def F_table_Store_get (a:OA)(b:Int)(c:BA)(h:Hp)(Q:PQ):Prop:=
wth (pu h (oc #[vS c] T_string)) fun h1=>
S_table_Store_standing a b h1 fun vs2 h3=>
∃l4 : Sl,vs2=[vL l4] ∧
S_slices_IndexFunc_sptable_entries_ptable_entries ⟨l4.a,l4.n,l4.c⟩ 101 #[vP (some (nb h))] h3 fun vs5 h6=>
∃n7,vs5=[vI n7] ∧
(if (decide (n7 ≥ 0))=true then
(nilW l4.a fun a8=>ixOk n7 l4.n (∃p9,rP h6 (ad a8 (tn n7*1)) p9 ∧
Q [vP p9] h6)) else
(Q [vP none] h6))
theorem O_table_Store_get (a:OA)(b:Int)(c:BA){h Q}(H:F_table_Store_get a b c h Q):S_table_Store_get a b c h Q:=fo Tryz.func59 Z H
def F_slices_IndexFunc_sapi_Column_api_Column (a:Sl)(b:Nat)(c:AV)(h:Hp)(Q:PQ):Prop:=
∀X1:PQ,(∀n2 h3,((if (decide (n2 < (a.n : Int)))=true then
(nilW a.a fun a4=>ixOk n2 a.n (∃s5,rS h3 (ad (ad a4 (tn n2*7)) 0) s5∧∃n6,rI h3 (ad (ad a4 (tn n2*7)) 1) n6∧∃b7,rB h3 (ad (ad a4 (tn n2*7)) 2) b7∧∃n8,rI h3 (ad (ad a4 (tn n2*7)) 3) n8∧∃n9,rI h3 (ad (ad a4 (tn n2*7)) 4) n9∧∃x10,rd h3 (ad (ad a4 (tn n2*7)) 5)=some (Value.float .f64 x10)∧∃s11,rS h3 (ad (ad a4 (tn n2*7)) 6) s11∧Fn PP b ((#[] ++ #[(vA #[vS s5,vI n6,vB b7,vI n8,vI n9,(Value.float .f64 x10),vS s11])]) ++ c) h3 fun vs12 h13=>
∃b14,vs12=[vB b14] ∧
(if b14=true then
(Q [vI n2] h13) else
(X1 [vI (wi (n2+1))] h13)))) else
(Q [vI (-1 : Int)] h3)))→X1 [vI n2] h3) →
X1 [vI 0] h
theorem O_slices_IndexFunc_sapi_Column_api_Column (a:Sl)(b:Nat)(c:AV){h Q}(H:F_slices_IndexFunc_sapi_Column_api_Column a b c h Q):S_slices_IndexFunc_sapi_Column_api_Column a b c h Q:=fo Tryz.func106 (R (L (R (L (.mk none ⟨[0,1,7],[(8,(.c (.int .i64)))]⟩ Z Z))))) H
def F_row_Find (a:Sl)(b:BA)(h:Hp)(Q:PQ):Prop:=
wth (pu h (oc #[vS b] T_string)) fun h1=>
S_slices_IndexFunc_sapi_Column_api_Column ⟨a.a,a.n,a.c⟩ 107 #[vP (some (nb h))] h1 fun vs2 h3=>
∃n4,vs2=[vI n4] ∧
Q [vI n4] h3
theorem O_row_Find (a:Sl)(b:BA){h Q}(H:F_row_Find a b h Q):S_row_Find a b h Q:=fo Tryz.func61 Z H
def F_leaf_New (a:Int)(h:Hp)(Q:PQ):Prop:=
∀J1:PQ,(∀b2 h3,((if b2=true then
(Q [vP none,vI 1] h3) else
(wth (pu h3 (oc #[vI 1,vS (ByteArray.mk #[]),(vC none 0 0)] T_leaf_one)) fun h4=>
wth (pu h4 (oc #[vP (some (nb h3))] T_pleaf_one)) fun h5=>
wth (pu h5 (oc #[vI a,(vC (some (nb h4)) 1 1),vI 2] T_leaf_Leaves)) fun h6=>
Q [vP (some (nb h5)),vI 0] h6)))→J1 [vB b2] h3) →
(if (decide (a < (2 : Int)))=true then (J1 [vB true] h) else
(J1 [vB (decide (a > 64))] h))
theorem O_leaf_New (a:Int){h Q}(H:F_leaf_New a h Q):S_leaf_New a h Q:=fo Tryz.func146 (R (L (L (.mk (some ⟨[0],[(9,(.c .bool))]⟩) E Z Z)))) H
def F_index_New (a:Int)(h:Hp)(Q:PQ):Prop:=
S_leaf_New a h fun vs1 h2=>
∃p3 n4,vs1=[vP p3,vI n4] ∧
(if (n4 != 0)=true then
(Q [vP none,vI n4] h2) else
(wth (pu h2 (oc #[vP p3] T_index_Index)) fun h5=>
Q [vP (some (nb h2)),vI 0] h5))
theorem O_index_New (a:Int){h Q}(H:F_index_New a h Q):S_index_New a h Q:=fo Tryz.func108 Z H
def F_table_Store_add (a b:OA)(c d:BA)(e:Bool)(f g i:Int)(h:Hp)(Q:PQ):Prop:=
wth (pu h (oc #[vS c,vS d,vB e,vI f,vI g,vI i] T_table_Index)) fun h1=>
nilW a fun a2=>∃n3,rI h1 (ad a2 5) n3 ∧
S_index_New n3 h1 fun vs4 h5=>
∃p6 n7,vs4=[vP p6,vI n7] ∧
∀J8:PQ,(∀h9,(Q [vI n7] h9)→J8 [] h9) →
(if (n7==0)=true then
(nilW b fun a10=>∃l11 : Sl,rL h5 (ad a10 1) l11 ∧
∃s12,rS h5 (ad (nb h) 0) s12∧∃s13,rS h5 (ad (nb h) 1) s13∧∃b14,rB h5 (ad (nb h) 2) b14∧∃n15,rI h5 (ad (nb h) 3) n15∧∃n16,rI h5 (ad (nb h) 4) n16∧∃n17,rI h5 (ad (nb h) 5) n17∧wth (pu h5 (oc #[vS s12,vS s13,vB b14,vI n15,vI n16,vI n17,vP p6] T_table_entries)) fun h18=>
rL h18 (ad a10 1) l11∧wth (pu h18 (oc #[vP (some (nb h5))] T_ptable_entries)) fun h19=>
rL h19 (ad a10 1) l11∧∃cs24,cellsAt h19 (some (nb h18)) (1*1) cs24∧appS PP T_ptable_entries 8 1 h19 ⟨l11.a,l11.n,l11.c⟩ 1 cs24 fun l20 h21=>
nilW b fun a22=>stOk h21 (ad a22 1) 1∧wth (wrs h21 (ad a22 1) 0 [vL l20]) fun h23=>
J8 [] h23) else
(J8 [] h5))
theorem O_table_Store_add (a b:OA)(c d:BA)(e:Bool)(f g i:Int){h Q}(H:F_table_Store_add a b c d e f g i h Q):S_table_Store_add a b c d e f g i h Q:=fo Tryz.func62 (R (R (L (R (.mk (some ⟨[8],[]⟩) E Z Z))))) H
def F_table_Store_Make (a:OA)(b c:Int)(d e:BA)(f:Bool)(g:Int)(i:Sl)(h:Hp)(Q:PQ):Prop:=
wth (pu h (oc #[vS d,vS e,vB f,vI g] T_api_Index)) fun h1=>
S_table_Store_rel a c h1 fun vs2 h3=>
∃p4,vs2=[vP p4] ∧
∀J5:PQ,(∀b6 h7,((if b6=true then
(Q [vI 1] h7) else
(∃s8,rS h7 (ad (nb h) 0) s8 ∧
S_table_Store_get a c s8 h7 fun vs9 h10=>
∃p11,vs9=[vP p11] ∧
(if (!(isn p11))=true then
(Q [vI 63] h10) else
(S_table_Store_standing a c h10 fun vs12 h13=>
∃l14 : Sl,vs12=[vL l14] ∧
(if (decide ((l14.n : Int) ≥ 4))=true then
(Q [vI 3] h13) else
(∃s15,rS h13 (ad (nb h) 1) s15 ∧
S_row_Find ⟨i.a,i.n,i.c⟩ s15 h13 fun vs16 h17=>
∃n18,vs16=[vI n18] ∧
(if (decide (n18 < (0 : Int)))=true then
(Q [vI 61] h17) else
(∃s19,rS h17 (ad (nb h) 0) s19∧∃s20,rS h17 (ad (nb h) 1) s20∧∃b21,rB h17 (ad (nb h) 2) b21∧∃n22,rI h17 (ad (nb h) 3) n22∧S_table_Store_add a p4 s19 s20 b21 n22 b 0 h17 fun vs23 h24=>
∃n25,vs23=[vI n25] ∧
Q [vI n25] h24)))))))))→J5 [vB b6] h7) →
(if (isn p4)=true then (J5 [vB true] h3) else
(nilW a fun a26=>∃p27,rP h3 (ad a26 0) p27 ∧
S_clog_Log_State p27 b h3 fun vs28 h29=>
∃n30,vs28=[vI n30] ∧
J5 [vB (n30 != 1)] h29))
theorem O_table_Store_Make (a:OA)(b c:Int)(d e:BA)(f:Bool)(g:Int)(i:Sl){h Q}(H:F_table_Store_Make a b c d e f g i h Q):S_table_Store_Make a b c d e f g i h Q:=fo Tryz.func14 (R (R (L (L (L (.mk (some ⟨[0,1,2,4,8,11],[(15,(.c .bool))]⟩) E Z Z)))))) H
def F_ssi_Ssi_Table (a:OA)(h:Hp)(Q:PQ):Prop:=
(if (isn a)=true then
(Q [vP none] h) else
(nilW a fun a1=>∃p2,rP h (ad a1 1) p2 ∧
Q [vP p2] h))
theorem O_ssi_Ssi_Table (a:OA){h Q}(H:F_ssi_Ssi_Table a h Q):S_ssi_Ssi_Table a h Q:=fo Tryz.func65 Z H
def F_slices_Clone_sapi_Value_api_Value (a:Sl)(h:Hp)(Q:PQ):Prop:=
(if (isn a.a)=true then
(Q [(vC none 0 0)] h) else
(wth (pu h (oc #[] T_api_Value)) fun h1=>
∃cs4,cellsAt h1 a.a (a.n*4) cs4∧appS PP T_api_Value 40 4 h1 ⟨(some (nb h)),0,0⟩ a.n cs4 fun l2 h3=>
Q [vL l2] h3))
theorem O_slices_Clone_sapi_Value_api_Value (a:Sl){h Q}(H:F_slices_Clone_sapi_Value_api_Value a h Q):S_slices_Clone_sapi_Value_api_Value a h Q:=fo Tryz.func79 Z H
def F_heap_Rel_Insert (a:OA)(b:Int)(c:Sl)(h:Hp)(Q:PQ):Prop:=
∀J1:PQ,(∀b2 h3,((if b2=true then
(Q [vI 0,vI 1] h3) else
(∀J4:PQ,(∀b5 h6,((if b5=true then
(Q [vI 0,vI 74] h6) else
(nilW a fun a7=>∃r8,rM h6 (ad a7 0) r8 ∧
nilW a fun a9=>∃n10,rI h6 (ad a9 1) n10 ∧
S_slices_Clone_sapi_Value_api_Value ⟨c.a,c.n,c.c⟩ h6 fun vs11 h12=>
∃l13 : Sl,vs11=[vL l13] ∧
rI h12 (ad a9 1) n10∧rM h12 (ad a7 0) r8∧∃m14 es15 c16,r8=some m14∧h12[m14]?=some (.map es15 c16)∧KeysLike (vI n10) es15∧wth (sib h12 m14 (mput (vI n10) (vA #[vI b,vI 0,vL l13]) es15 c16)) fun h17=>
nilW a fun a18=>∃n19,rI h17 (ad a18 1) n19 ∧
nilW a fun a20=>stOk h17 (ad a20 1) 1∧wth (wrs h17 (ad a20 1) 0 [vI (wi (n19+1))]) fun h21=>
nilW a fun a22=>∃n23,rI h21 (ad a22 1) n23 ∧
Q [vI (wi (n23 - 1)),vI 0] h21)))→J4 [vB b5] h6) →
nilW a fun a24=>∃r25,rM h3 (ad a24 0) r25 ∧
∃es26,mapAt h3 r25 es26 ∧
(if (decide ((Array.size es26 : Int) ≥ 512))=true then (J4 [vB true] h3) else
(nilW a fun a27=>∃n28,rI h3 (ad a27 1) n28 ∧
J4 [vB (n28==65536)] h3)))))→J1 [vB b2] h3) →
(if (isn a)=true then (J1 [vB true] h) else
(J1 [(vB (decide (b < (1 : Int))))] h))
theorem O_heap_Rel_Insert (a:OA)(b:Int)(c:Sl){h Q}(H:F_heap_Rel_Insert a b c h Q):S_heap_Rel_Insert a b c h Q:=fo Tryz.func69 (R (L (L (N (.mk (some ⟨[0,1,2],[(8,(.c .bool))]⟩) E Z Z) (R (L (.mk (some ⟨[0,1,2],[(15,(.c .bool))]⟩) E Z Z))))))) H
def F_key_joined (a:Sl)(h:Hp)(Q:PQ):Prop:=
S_strings_Join ⟨a.a,a.n,a.c⟩ (ByteArray.mk #[]) h fun vs1 h2=>
∃s3,vs1=[vS s3] ∧
Q [vS s3] h2
theorem O_key_joined (a:Sl){h Q}(H:F_key_joined a h Q):S_key_joined a h Q:=fo Tryz.func153 Z H
def F_value_Good (a b:Int)(c:Nat)(d:BA)(h:Hp)(Q:PQ):Prop:=
wth (pu h (oc #[vI a,vI b,(Value.float .f64 c),vS d] T_api_Value)) fun h1=>
wth (pu h1 (Obj.map #[] 0)) fun h2=>
∃m3 es4 c5,(some h1.size)=some m3∧h2[m3]?=some (.map es4 c5)∧KeysLike (vI 0) es4∧wth (sib h2 m3 (mput (vI 0) (Value.func (.func 205) #[] #[]) es4 c5)) fun h6=>
∃m7 es8 c9,(some h1.size)=some m7∧h6[m7]?=some (.map es8 c9)∧KeysLike (vI 1) es8∧wth (sib h6 m7 (mput (vI 1) (Value.func (.func 206) #[] #[]) es8 c9)) fun h10=>
∃m11 es12 c13,(some h1.size)=some m11∧h10[m11]?=some (.map es12 c13)∧KeysLike (vI 2) es12∧wth (sib h10 m11 (mput (vI 2) (Value.func (.func 207) #[] #[]) es12 c13)) fun h14=>
∃m15 es16 c17,(some h1.size)=some m15∧h14[m15]?=some (.map es16 c17)∧KeysLike (vI 3) es16∧wth (sib h14 m15 (mput (vI 3) (Value.func (.func 208) #[] #[]) es16 c17)) fun h18=>
∃m19 es20 c21,(some h1.size)=some m19∧h18[m19]?=some (.map es20 c21)∧KeysLike (vI 4) es20∧wth (sib h18 m19 (mput (vI 4) (Value.func (.func 209) #[] #[]) es20 c21)) fun h22=>
∃n23,rI h22 (ad (nb h) 0) n23 ∧
∃es24,mapAt h22 (some h1.size) es24∧KeysLike (vI n23) es24∧((∃f25,∃cs26 : Array Value,mgetD (vI n23) es24 Value.nilFunc=(Value.func (.func f25) #[] cs26) ∧
∃n28,rI h22 (ad (nb h) 0) n28∧∃n29,rI h22 (ad (nb h) 1) n29∧∃x30,rd h22 (ad (nb h) 2)=some (Value.float .f64 x30)∧∃s31,rS h22 (ad (nb h) 3) s31∧Fn PP f25 ((#[] ++ #[(vA #[vI n28,vI n29,(Value.float .f64 x30),vS s31])]) ++ cs26) h22 fun vs32 h33=>
∃b34,vs32=[vB b34] ∧
Q [vB b34] h33) ∨
(mgetD (vI n23) es24 Value.nilFunc=Value.nilFunc ∧
Q [vB false] h22))
theorem O_value_Good (a b:Int)(c:Nat)(d:BA){h Q}(H:F_value_Good a b c d h Q):S_value_Good a b c d h Q:=fo Tryz.func175 Z H
def F_key_eight (a:Int)(h:Hp)(Q:PQ):Prop:=
mkOk 8 8 1 (wth (pu h (oc (mkCells (zc PP T_uint8) (tn 8*1)) T_uint8)) fun h1=>
∀X2:PQ,(∀(n3:Int) h4,((if (decide (n3 < (((tn 8) : Nat) : Int)))=true then
(shOk (wi (56 - (wi (8*n3)))) (nilW (some (nb h)) fun a5=>ixOk n3 (tn 8) (stOk h4 (ad a5 (tn n3*1)) 1∧wth (wrs h4 (ad a5 (tn n3*1)) 0 [(Value.int .u8 (IntKind.wrap .u8 (iShr .u64 a (wi (56 - (wi (8*n3)))))))]) fun h6=>
X2 [vI (wi (n3+1))] h6))) else
(∃s7,bytesAt h4 (some (nb h)) (tn 8) s7 ∧
Q [vS s7] h4)))→X2 [vI n3] h4) →
X2 [vI 0] h1)
theorem O_key_eight (a:Int){h Q}(H:F_key_eight a h Q):S_key_eight a h Q:=fo Tryz.func176 (R (R (L (R (L (.mk none ⟨[0,3,7],[(8,(.c (.int .i64)))]⟩ Z Z)))))) H
def F_float_Canon (a:Nat)(h:Hp)(Q:PQ):Prop:=
(if ((FloatKind.format .f64).order a a != some .eq)=true then
(S_math_Float64frombits 9221120237041090560 h fun vs1 h2=>
∃x3,vs1=[(Value.float .f64 x3)] ∧
Q [(Value.float .f64 x3)] h2) else
((if ((FloatKind.format .f64).order a 0==some .eq)=true then
(Q [(Value.float .f64 0)] h) else
(Q [(Value.float .f64 a)] h))))
theorem O_float_Canon (a:Nat){h Q}(H:F_float_Canon a h Q):S_float_Canon a h Q:=fo Tryz.func210 Z H
def F_float_Bits (a:Nat)(h:Hp)(Q:PQ):Prop:=
S_float_Canon a h fun vs1 h2=>
∃x3,vs1=[(Value.float .f64 x3)] ∧
S_math_Float64bits x3 h2 fun vs4 h5=>
∃n6,vs4=[(Value.int .u64 n6)] ∧
(if ((iAnd .u64 n6 9223372036854775808) != 0)=true then
(Q [(Value.int .u64 (iXor .u64 (IntKind.max .u64) n6))] h5) else
(Q [(Value.int .u64 (iOr .u64 n6 9223372036854775808))] h5))
theorem O_float_Bits (a:Nat){h Q}(H:F_float_Bits a h Q):S_float_Bits a h Q:=fo Tryz.func177 Z H
end Go.Lift
namespace Go.Lift
open Go Go.Proofs Cmp
set_option maxRecDepth 100000
def F_key_Of (a b:Int)(c:Nat)(d:BA)(h:Hp)(Q:PQ):Prop:=
wth (pu h (oc #[vI a,vI b,(Value.float .f64 c),vS d] T_api_Value)) fun h1=>
∃n2,rI h1 (ad (nb h) 0) n2∧∃n3,rI h1 (ad (nb h) 1) n3∧∃x4,rd h1 (ad (nb h) 2)=some (Value.float .f64 x4)∧∃s5,rS h1 (ad (nb h) 3) s5∧S_value_Good n2 n3 x4 s5 h1 fun vs6 h7=>
∃b8,vs6=[vB b8] ∧
(if (!b8)=true then
(Q [vS (ByteArray.mk #[]),vI 11] h7) else
(∃n9,rI h7 (ad (nb h) 0) n9 ∧
wth (pu h7 (oc #[(Value.int .u8 (IntKind.wrap .u8 n9))] T_uint8)) fun h10=>
∃s11,bytesAt h10 (some (nb h7)) 1 s11 ∧
∃n12,rI h10 (ad (nb h) 0) n12 ∧
(if (n12==1)=true then
(∃n13,rI h10 (ad (nb h) 1) n13 ∧
wth (pu h10 (oc #[(Value.int .u8 (IntKind.wrap .u8 n13))] T_uint8)) fun h14=>
∃s15,bytesAt h14 (some (nb h10)) 1 s15 ∧
wth (pu h14 (oc #[vS s11,vS s15] T_string)) fun h16=>
S_key_joined ⟨(some (nb h14)),2,2⟩ h16 fun vs17 h18=>
∃s19,vs17=[vS s19] ∧
Q [vS s19,vI 0] h18) else
((if (n12==2)=true then
(∃n20,rI h10 (ad (nb h) 1) n20 ∧
S_key_eight (iXor .u64 (IntKind.wrap .u64 n20) 9223372036854775808) h10 fun vs21 h22=>
∃s23,vs21=[vS s23] ∧
wth (pu h22 (oc #[vS s11,vS s23] T_string)) fun h24=>
S_key_joined ⟨(some (nb h22)),2,2⟩ h24 fun vs25 h26=>
∃s27,vs25=[vS s27] ∧
Q [vS s27,vI 0] h26) else
((if (n12==3)=true then
(∃x28,rd h10 (ad (nb h) 2)=some (Value.float .f64 x28) ∧
S_float_Bits x28 h10 fun vs29 h30=>
∃n31,vs29=[(Value.int .u64 n31)] ∧
S_key_eight n31 h30 fun vs32 h33=>
∃s34,vs32=[vS s34] ∧
wth (pu h33 (oc #[vS s11,vS s34] T_string)) fun h35=>
S_key_joined ⟨(some (nb h33)),2,2⟩ h35 fun vs36 h37=>
∃s38,vs36=[vS s38] ∧
Q [vS s38,vI 0] h37) else
((if (n12==4)=true then
(∃s39,rS h10 (ad (nb h) 3) s39 ∧
S_strings_ReplaceAll s39 (ByteArray.mk #[0]) (ByteArray.mk #[0,255]) h10 fun vs40 h41=>
∃s42,vs40=[vS s42] ∧
wth (pu h41 (oc #[vS s11,vS s42,vS (ByteArray.mk #[0,1])] T_string)) fun h43=>
S_key_joined ⟨(some (nb h41)),3,3⟩ h43 fun vs44 h45=>
∃s46,vs44=[vS s46] ∧
Q [vS s46,vI 0] h45) else
(Q [vS s11,vI 0] h10))))))))))
theorem O_key_Of (a b:Int)(c:Nat)(d:BA){h Q}(H:F_key_Of a b c d h Q):S_key_Of a b c d h Q:=fo Tryz.func152 Z H
def F_key_Entry (a b:Int)(c:Nat)(d:BA)(e:Int)(h:Hp)(Q:PQ):Prop:=
wth (pu h (oc #[vI a,vI b,(Value.float .f64 c),vS d] T_api_Value)) fun h1=>
∃n2,rI h1 (ad (nb h) 0) n2∧∃n3,rI h1 (ad (nb h) 1) n3∧∃x4,rd h1 (ad (nb h) 2)=some (Value.float .f64 x4)∧∃s5,rS h1 (ad (nb h) 3) s5∧S_key_Of n2 n3 x4 s5 h1 fun vs6 h7=>
∃s8 n9,vs6=[vS s8,vI n9] ∧
(if (n9 != 0)=true then
(Q [vS (ByteArray.mk #[]),vI n9] h7) else
(∀J10:PQ,(∀b11 h12,((if b11=true then
(Q [vS (ByteArray.mk #[]),vI 1] h12) else
(shOk 8 (wth (pu h12 (oc #[(Value.int .u8 (IntKind.wrap .u8 (iShr .i64 e 8))),(Value.int .u8 (IntKind.wrap .u8 e))] T_uint8)) fun h13=>
∃s14,bytesAt h13 (some (nb h12)) 2 s14 ∧
wth (pu h13 (oc #[vS s8,vS s14] T_string)) fun h15=>
S_key_joined ⟨(some (nb h13)),2,2⟩ h15 fun vs16 h17=>
∃s18,vs16=[vS s18] ∧
Q [vS s18,vI 0] h17))))→J10 [vB b11] h12) →
(if (decide (e < (0 : Int)))=true then (J10 [vB true] h7) else
(J10 [vB (decide (e > 65535))] h7))))
theorem O_key_Entry (a b:Int)(c:Nat)(d:BA)(e:Int){h Q}(H:F_key_Entry a b c d e h Q):S_key_Entry a b c d e h Q:=fo Tryz.func113 (R (R (L (L (R (R (L (.mk (some ⟨[1,6],[(17,(.c .bool))]⟩) E Z Z)))))))) H
def F_leaf_Leaves_at (a:OA)(b:BA)(h:Hp)(Q:PQ):Prop:=
nilW a fun a1=>∃l2 : Sl,rL h (ad a1 1) l2 ∧
∀J3:PQ,(∀n4 h5,(Q [vI n4] h5)→J3 [vI n4] h5) →
∀X6:PQ,(∀n7 n8 h9,((if (decide (n8 < (l2.n : Int)))=true then
(nilW l2.a fun a10=>ixOk n8 l2.n (∃p11,rP h9 (ad a10 (tn n8*1)) p11 ∧
∀J12:PQ,(∀b13 h14,((if b13=true then
(J3 [vI n7] h14) else
(X6 [vI n8,vI (wi (n8+1))] h14)))→J12 [vB b13] h14) →
(if (decide (n8 > 0))=true then (nilW p11 fun a15=>∃s16,rS h9 (ad a15 1) s16 ∧
J12 [(vB (!(Op.bytesLess (bl s16) (bl b)||(bl s16)==(bl b))))] h9) else
(J12 [vB false] h9)))) else
(J3 [vI n7] h9)))→X6 [vI n7,vI n8] h9) →
X6 [vI 0,vI 0] h
theorem O_leaf_Leaves_at (a:OA)(b:BA){h Q}(H:F_leaf_Leaves_at a b h Q):S_leaf_Leaves_at a b h Q:=fo Tryz.func154 (R (L (R (R (L (R (.mk (some ⟨[],[(5,(.c (.int .i64)))]⟩) E (.mk none ⟨[1,11,12],[(5,(.c (.int .i64))),(13,(.c (.int .i64)))]⟩ (R (R (L (L (R (L (L (.mk (some ⟨[1,5,6,11,12,13],[(27,(.c .bool))]⟩) E Z Z)))))))) Z) Z))))))) H
def F_cmp_isNaN_string (a:BA)(h:Hp)(Q:PQ):Prop:=
Q [(vB (!((bl a)==(bl a))))] h
def FD_cmp_isNaN_string (a:BA)(h:Hp)(Q:PQ):Prop:=
Q [(vB (!((bl a)==(bl a))))] h
theorem O_cmp_isNaN_string (a:BA){h Q}(H:F_cmp_isNaN_string a h Q):S_cmp_isNaN_string a h Q:=fo Tryz.func145 Z H
theorem OD_cmp_isNaN_string (a:BA){h Q}(H:FD_cmp_isNaN_string a h Q):SD_cmp_isNaN_string a h Q:=foD Tryz.func145 Z H
def F_cmp_Less_string (a b:BA)(h:Hp)(Q:PQ):Prop:=
S_cmp_isNaN_string a h fun vs1 h2=>
∃b3,vs1=[vB b3] ∧
(if b3=true then (S_cmp_isNaN_string b h2 fun vs4 h5=>
∃b6,vs4=[vB b6] ∧
(if (!b6)=true then (Q [vB true] h5) else
(Q [vB (Op.bytesLess (bl a) (bl b))] h5))) else
(Q [vB (Op.bytesLess (bl a) (bl b))] h2))
theorem O_cmp_Less_string (a b:BA){h Q}(H:F_cmp_Less_string a b h Q):S_cmp_Less_string a b h Q:=fo Tryz.func180 Z H
def F_slices_isNaN_string (a:BA)(h:Hp)(Q:PQ):Prop:=
Q [(vB (!((bl a)==(bl a))))] h
theorem O_slices_isNaN_string (a:BA){h Q}(H:F_slices_isNaN_string a h Q):S_slices_isNaN_string a h Q:=fo Tryz.func181 Z H
def F_slices_BinarySearch_sstring_string (a:Sl)(b:BA)(h:Hp)(Q:PQ):Prop:=
∀X1:PQ,(∀n2 n3 h4,((if (decide (n2 < n3))=true then
(shOk 1 (nilW a.a fun a5=>ixOk (wi (iShr .u64 (IntKind.wrap .u64 (wi (n2+n3))) 1)) a.n (∃s6,rd h4 (ad a5 (tn (wi (iShr .u64 (IntKind.wrap .u64 (wi (n2+n3))) 1))*1))=some (vS s6) ∧
S_cmp_Less_string s6 b h4 fun vs7 h8=>
∃b9,vs7=[vB b9] ∧
(if b9=true then
(X1 [(vI (wi ((wi (iShr .u64 (IntKind.wrap .u64 (wi (n2+n3))) 1))+1))),vI n3] h8) else
(X1 [vI n2,(vI (wi (iShr .u64 (IntKind.wrap .u64 (wi (n2+n3))) 1)))] h8))))) else
((if (decide (n2 < (a.n : Int)))=true then (nilW a.a fun a10=>ixOk n2 a.n (∃s11,rS h4 (ad a10 (tn n2*1)) s11 ∧
(if ((bl s11)==(bl b))=true then (Q [vI n2,vB true] h4) else
(nilW a.a fun a12=>ixOk n2 a.n (∃s13,rS h4 (ad a12 (tn n2*1)) s13 ∧
S_slices_isNaN_string s13 h4 fun vs14 h15=>
∃b16,vs14=[vB b16] ∧
(if b16=true then (S_slices_isNaN_string b h15 fun vs17 h18=>
∃b19,vs17=[vB b19] ∧
Q [vI n2,vB b19] h18) else
(Q [vI n2,vB false] h15))))))) else
(Q [vI n2,vB false] h4)))))→X1 [vI n2,vI n3] h4) →
X1 [vI 0,vI (a.n : Int)] h
theorem O_slices_BinarySearch_sstring_string (a:Sl)(b:BA){h Q}(H:F_slices_BinarySearch_sstring_string a b h Q):S_slices_BinarySearch_sstring_string a b h Q:=fo Tryz.func155 (R (R (R (L (L (.mk none ⟨[0,1,6],[(7,(.c (.int .i64))),(8,(.c (.int .i64)))]⟩ Z Z)))))) H
def F_slices_Insert_sstring_string (a:Sl)(b:Int)(c:Sl)(h:Hp)(Q:PQ):Prop:=
(0≤b∧b≤(a.n : Nat))∧(if ((c.n : Int)==0)=true then
(Q [vL a] h) else
((if (b==(a.n : Int))=true then
(∃cs3,cellsAt h c.a (c.n*1) cs3∧appS PP T_string 16 1 h ⟨a.a,a.n,a.c⟩ c.n cs3 fun l1 h2=>
Q [vL l1] h2) else
((if (decide ((wi ((a.n : Int)+(c.n : Int))) > ((a.c : Nat) : Int)))=true then
((0≤b∧b≤(a.c : Nat))∧(0≤(wi ((wi ((a.n : Int)+(c.n : Int))) - b))∧(wi ((wi ((a.n : Int)+(c.n : Int))) - b)) < 2 ^ 63∧(wi ((wi ((a.n : Int)+(c.n : Int))) - b))*(16 : Nat)≤2 ^ 47)∧appS PP T_string 16 1 h ⟨(slAd a.a 0 a.c 1),((tn b) - 0),(a.c - 0)⟩ (tn (wi ((wi ((a.n : Int)+(c.n : Int))) - b))) (Array.toList (Builtin.zeroCells (zc PP T_string) (tn (wi ((wi ((a.n : Int)+(c.n : Int))) - b))))) fun l4 h5=>
(0≤b∧b≤(l4.n : Nat))∧∃cs6,cellsAt h5 c.a ((Nat.min c.n (l4.n - (tn b)))*1) cs6∧cpOk h5 (slAd l4.a (tn b) l4.c 1) ((Nat.min c.n (l4.n - (tn b)))*1) cs6∧wth (cpHp h5 (slAd l4.a (tn b) l4.c 1) cs6) fun h7=>
(0≤(wi (b+(c.n : Int)))∧(wi (b+(c.n : Int)))≤(l4.n : Nat))∧(0≤b∧b≤(a.n : Nat))∧∃cs8,cellsAt h7 (slAd a.a (tn b) a.c 1) ((Nat.min (a.n - (tn b)) (l4.n - (tn (wi (b+(c.n : Int))))))*1) cs8∧cpOk h7 (slAd l4.a (tn (wi (b+(c.n : Int)))) l4.c 1) ((Nat.min (a.n - (tn b)) (l4.n - (tn (wi (b+(c.n : Int))))))*1) cs8∧wth (cpHp h7 (slAd l4.a (tn (wi (b+(c.n : Int)))) l4.c 1) cs8) fun h9=>
Q [vL l4] h9) else
((0≤(wi ((a.n : Int)+(c.n : Int)))∧(wi ((a.n : Int)+(c.n : Int)))≤(a.c : Nat))∧(0≤(wi (b+(c.n : Int)))∧(wi (b+(c.n : Int)))≤(((tn (wi ((a.n : Int)+(c.n : Int)))) - 0) : Nat))∧S_slices_overlaps_string ⟨c.a,c.n,c.c⟩ ⟨(slAd (slAd a.a 0 a.c 1) (tn (wi (b+(c.n : Int)))) (a.c - 0) 1),(((tn (wi ((a.n : Int)+(c.n : Int)))) - 0) - (tn (wi (b+(c.n : Int))))),((a.c - 0) - (tn (wi (b+(c.n : Int)))))⟩ h fun vs10 h11=>
∃b12,vs10=[vB b12] ∧
(if (!b12)=true then
((0≤(wi (b+(c.n : Int)))∧(wi (b+(c.n : Int)))≤(((tn (wi ((a.n : Int)+(c.n : Int)))) - 0) : Nat))∧(0≤b∧b≤(((tn (wi ((a.n : Int)+(c.n : Int)))) - 0) : Nat))∧∃cs13,cellsAt h11 (slAd (slAd a.a 0 a.c 1) (tn b) (a.c - 0) 1) ((Nat.min (((tn (wi ((a.n : Int)+(c.n : Int)))) - 0) - (tn b)) (((tn (wi ((a.n : Int)+(c.n : Int)))) - 0) - (tn (wi (b+(c.n : Int))))))*1) cs13∧cpOk h11 (slAd (slAd a.a 0 a.c 1) (tn (wi (b+(c.n : Int)))) (a.c - 0) 1) ((Nat.min (((tn (wi ((a.n : Int)+(c.n : Int)))) - 0) - (tn b)) (((tn (wi ((a.n : Int)+(c.n : Int)))) - 0) - (tn (wi (b+(c.n : Int))))))*1) cs13∧wth (cpHp h11 (slAd (slAd a.a 0 a.c 1) (tn (wi (b+(c.n : Int)))) (a.c - 0) 1) cs13) fun h14=>
(0≤b∧b≤(((tn (wi ((a.n : Int)+(c.n : Int)))) - 0) : Nat))∧∃cs15,cellsAt h14 c.a ((Nat.min c.n (((tn (wi ((a.n : Int)+(c.n : Int)))) - 0) - (tn b)))*1) cs15∧cpOk h14 (slAd (slAd a.a 0 a.c 1) (tn b) (a.c - 0) 1) ((Nat.min c.n (((tn (wi ((a.n : Int)+(c.n : Int)))) - 0) - (tn b)))*1) cs15∧wth (cpHp h14 (slAd (slAd a.a 0 a.c 1) (tn b) (a.c - 0) 1) cs15) fun h16=>
Q [(vC (slAd a.a 0 a.c 1) ((tn (wi ((a.n : Int)+(c.n : Int)))) - 0) (a.c - 0))] h16) else
((0≤(a.n : Int)∧(a.n : Int)≤(((tn (wi ((a.n : Int)+(c.n : Int)))) - 0) : Nat))∧∃cs17,cellsAt h11 c.a ((Nat.min c.n (((tn (wi ((a.n : Int)+(c.n : Int)))) - 0) - (tn (a.n : Int))))*1) cs17∧cpOk h11 (slAd (slAd a.a 0 a.c 1) (tn (a.n : Int)) (a.c - 0) 1) ((Nat.min c.n (((tn (wi ((a.n : Int)+(c.n : Int)))) - 0) - (tn (a.n : Int))))*1) cs17∧wth (cpHp h11 (slAd (slAd a.a 0 a.c 1) (tn (a.n : Int)) (a.c - 0) 1) cs17) fun h18=>
(0≤b∧b≤(((tn (wi ((a.n : Int)+(c.n : Int)))) - 0) : Nat))∧S_slices_rotateRight_string ⟨(slAd (slAd a.a 0 a.c 1) (tn b) (a.c - 0) 1),(((tn (wi ((a.n : Int)+(c.n : Int)))) - 0) - (tn b)),((a.c - 0) - (tn b))⟩ (c.n : Int) h18 fun vs19 h20=>
vs19=[] ∧
Q [(vC (slAd a.a 0 a.c 1) ((tn (wi ((a.n : Int)+(c.n : Int)))) - 0) (a.c - 0))] h20))))))))
theorem O_slices_Insert_sstring_string (a:Sl)(b:Int)(c:Sl){h Q}(H:F_slices_Insert_sstring_string a b c h Q):S_slices_Insert_sstring_string a b c h Q:=fo Tryz.func156 Z H
def F_slices_Clone_sstring_string (a:Sl)(h:Hp)(Q:PQ):Prop:=
(if (isn a.a)=true then
(Q [(vC none 0 0)] h) else
(wth (pu h (oc #[] T_string)) fun h1=>
∃cs4,cellsAt h1 a.a (a.n*1) cs4∧appS PP T_string 16 1 h1 ⟨(some (nb h)),0,0⟩ a.n cs4 fun l2 h3=>
Q [vL l2] h3))
theorem O_slices_Clone_sstring_string (a:Sl){h Q}(H:F_slices_Clone_sstring_string a h Q):S_slices_Clone_sstring_string a h Q:=fo Tryz.func157 Z H
def F_slices_Insert_spleaf_one_pleaf_one (a:Sl)(b:Int)(c:Sl)(h:Hp)(Q:PQ):Prop:=
(0≤b∧b≤(a.n : Nat))∧(if ((c.n : Int)==0)=true then
(Q [vL a] h) else
((if (b==(a.n : Int))=true then
(∃cs3,cellsAt h c.a (c.n*1) cs3∧appS PP T_pleaf_one 8 1 h ⟨a.a,a.n,a.c⟩ c.n cs3 fun l1 h2=>
Q [vL l1] h2) else
((if (decide ((wi ((a.n : Int)+(c.n : Int))) > ((a.c : Nat) : Int)))=true then
((0≤b∧b≤(a.c : Nat))∧(0≤(wi ((wi ((a.n : Int)+(c.n : Int))) - b))∧(wi ((wi ((a.n : Int)+(c.n : Int))) - b)) < 2 ^ 63∧(wi ((wi ((a.n : Int)+(c.n : Int))) - b))*(8 : Nat)≤2 ^ 47)∧appS PP T_pleaf_one 8 1 h ⟨(slAd a.a 0 a.c 1),((tn b) - 0),(a.c - 0)⟩ (tn (wi ((wi ((a.n : Int)+(c.n : Int))) - b))) (Array.toList (Builtin.zeroCells (zc PP T_pleaf_one) (tn (wi ((wi ((a.n : Int)+(c.n : Int))) - b))))) fun l4 h5=>
(0≤b∧b≤(l4.n : Nat))∧∃cs6,cellsAt h5 c.a ((Nat.min c.n (l4.n - (tn b)))*1) cs6∧cpOk h5 (slAd l4.a (tn b) l4.c 1) ((Nat.min c.n (l4.n - (tn b)))*1) cs6∧wth (cpHp h5 (slAd l4.a (tn b) l4.c 1) cs6) fun h7=>
(0≤(wi (b+(c.n : Int)))∧(wi (b+(c.n : Int)))≤(l4.n : Nat))∧(0≤b∧b≤(a.n : Nat))∧∃cs8,cellsAt h7 (slAd a.a (tn b) a.c 1) ((Nat.min (a.n - (tn b)) (l4.n - (tn (wi (b+(c.n : Int))))))*1) cs8∧cpOk h7 (slAd l4.a (tn (wi (b+(c.n : Int)))) l4.c 1) ((Nat.min (a.n - (tn b)) (l4.n - (tn (wi (b+(c.n : Int))))))*1) cs8∧wth (cpHp h7 (slAd l4.a (tn (wi (b+(c.n : Int)))) l4.c 1) cs8) fun h9=>
Q [vL l4] h9) else
((0≤(wi ((a.n : Int)+(c.n : Int)))∧(wi ((a.n : Int)+(c.n : Int)))≤(a.c : Nat))∧(0≤(wi (b+(c.n : Int)))∧(wi (b+(c.n : Int)))≤(((tn (wi ((a.n : Int)+(c.n : Int)))) - 0) : Nat))∧S_slices_overlaps_pleaf_one ⟨c.a,c.n,c.c⟩ ⟨(slAd (slAd a.a 0 a.c 1) (tn (wi (b+(c.n : Int)))) (a.c - 0) 1),(((tn (wi ((a.n : Int)+(c.n : Int)))) - 0) - (tn (wi (b+(c.n : Int))))),((a.c - 0) - (tn (wi (b+(c.n : Int)))))⟩ h fun vs10 h11=>
∃b12,vs10=[vB b12] ∧
(if (!b12)=true then
((0≤(wi (b+(c.n : Int)))∧(wi (b+(c.n : Int)))≤(((tn (wi ((a.n : Int)+(c.n : Int)))) - 0) : Nat))∧(0≤b∧b≤(((tn (wi ((a.n : Int)+(c.n : Int)))) - 0) : Nat))∧∃cs13,cellsAt h11 (slAd (slAd a.a 0 a.c 1) (tn b) (a.c - 0) 1) ((Nat.min (((tn (wi ((a.n : Int)+(c.n : Int)))) - 0) - (tn b)) (((tn (wi ((a.n : Int)+(c.n : Int)))) - 0) - (tn (wi (b+(c.n : Int))))))*1) cs13∧cpOk h11 (slAd (slAd a.a 0 a.c 1) (tn (wi (b+(c.n : Int)))) (a.c - 0) 1) ((Nat.min (((tn (wi ((a.n : Int)+(c.n : Int)))) - 0) - (tn b)) (((tn (wi ((a.n : Int)+(c.n : Int)))) - 0) - (tn (wi (b+(c.n : Int))))))*1) cs13∧wth (cpHp h11 (slAd (slAd a.a 0 a.c 1) (tn (wi (b+(c.n : Int)))) (a.c - 0) 1) cs13) fun h14=>
(0≤b∧b≤(((tn (wi ((a.n : Int)+(c.n : Int)))) - 0) : Nat))∧∃cs15,cellsAt h14 c.a ((Nat.min c.n (((tn (wi ((a.n : Int)+(c.n : Int)))) - 0) - (tn b)))*1) cs15∧cpOk h14 (slAd (slAd a.a 0 a.c 1) (tn b) (a.c - 0) 1) ((Nat.min c.n (((tn (wi ((a.n : Int)+(c.n : Int)))) - 0) - (tn b)))*1) cs15∧wth (cpHp h14 (slAd (slAd a.a 0 a.c 1) (tn b) (a.c - 0) 1) cs15) fun h16=>
Q [(vC (slAd a.a 0 a.c 1) ((tn (wi ((a.n : Int)+(c.n : Int)))) - 0) (a.c - 0))] h16) else
((0≤(a.n : Int)∧(a.n : Int)≤(((tn (wi ((a.n : Int)+(c.n : Int)))) - 0) : Nat))∧∃cs17,cellsAt h11 c.a ((Nat.min c.n (((tn (wi ((a.n : Int)+(c.n : Int)))) - 0) - (tn (a.n : Int))))*1) cs17∧cpOk h11 (slAd (slAd a.a 0 a.c 1) (tn (a.n : Int)) (a.c - 0) 1) ((Nat.min c.n (((tn (wi ((a.n : Int)+(c.n : Int)))) - 0) - (tn (a.n : Int))))*1) cs17∧wth (cpHp h11 (slAd (slAd a.a 0 a.c 1) (tn (a.n : Int)) (a.c - 0) 1) cs17) fun h18=>
(0≤b∧b≤(((tn (wi ((a.n : Int)+(c.n : Int)))) - 0) : Nat))∧S_slices_rotateRight_pleaf_one ⟨(slAd (slAd a.a 0 a.c 1) (tn b) (a.c - 0) 1),(((tn (wi ((a.n : Int)+(c.n : Int)))) - 0) - (tn b)),((a.c - 0) - (tn b))⟩ (c.n : Int) h18 fun vs19 h20=>
vs19=[] ∧
Q [(vC (slAd a.a 0 a.c 1) ((tn (wi ((a.n : Int)+(c.n : Int)))) - 0) (a.c - 0))] h20))))))))
theorem O_slices_Insert_spleaf_one_pleaf_one (a:Sl)(b:Int)(c:Sl){h Q}(H:F_slices_Insert_spleaf_one_pleaf_one a b c h Q):S_slices_Insert_spleaf_one_pleaf_one a b c h Q:=fo Tryz.func158 Z H
def F_leaf_Leaves_Insert (a:OA)(b:BA)(h:Hp)(Q:PQ):Prop:=
wth (pu h (oc #[vI 0,vI 0] T_leaf_Move)) fun h1=>
(if (isn a)=true then
(stOk h1 (nb h) 2∧wth (wrs h1 (nb h) 0 [vI 0,vI 0]) fun h2=>
∃n3,rI h2 (ad (nb h) 0) n3∧∃n4,rI h2 (ad (nb h) 1) n4∧Q [vI 0,(vA #[vI n3,vI n4]),vI 1] h2) else
((if (decide ((bz b : Int) > 1024))=true then
(stOk h1 (nb h) 2∧wth (wrs h1 (nb h) 0 [vI 0,vI 0]) fun h5=>
∃n6,rI h5 (ad (nb h) 0) n6∧∃n7,rI h5 (ad (nb h) 1) n7∧Q [vI 0,(vA #[vI n6,vI n7]),vI 2] h5) else
(S_leaf_Leaves_at a b h1 fun vs8 h9=>
∃n10,vs8=[vI n10] ∧
nilW a fun a11=>∃l12 : Sl,rL h9 (ad a11 1) l12 ∧
nilW l12.a fun a13=>ixOk n10 l12.n (∃p14,rP h9 (ad a13 (tn n10*1)) p14 ∧
nilW p14 fun a15=>∃l16 : Sl,rL h9 (ad a15 2) l16 ∧
S_slices_BinarySearch_sstring_string ⟨l16.a,l16.n,l16.c⟩ b h9 fun vs17 h18=>
∃n19 b20,vs17=[vI n19,vB b20] ∧
(if b20=true then
(stOk h18 (nb h) 2∧wth (wrs h18 (nb h) 0 [vI 0,vI 0]) fun h21=>
∃n22,rI h21 (ad (nb h) 0) n22∧∃n23,rI h21 (ad (nb h) 1) n23∧Q [vI 0,(vA #[vI n22,vI n23]),vI 62] h21) else
(nilW p14 fun a24=>∃l25 : Sl,rL h18 (ad a24 2) l25 ∧
wth (pu h18 (oc #[vS b] T_string)) fun h26=>
S_slices_Insert_sstring_string ⟨l25.a,l25.n,l25.c⟩ n19 ⟨(some (nb h18)),1,1⟩ h26 fun vs27 h28=>
∃l29 : Sl,vs27=[vL l29] ∧
nilW p14 fun a30=>stOk h28 (ad a30 2) 1∧wth (wrs h28 (ad a30 2) 0 [vL l29]) fun h31=>
nilW p14 fun a32=>∃l33 : Sl,rL h31 (ad a32 2) l33 ∧
nilW a fun a34=>∃n35,rI h31 (ad a34 0) n35 ∧
(if (decide ((l33.n : Int)≤n35))=true then
(nilW p14 fun a36=>∃n37,rI h31 (ad a36 0) n37 ∧
stOk h31 (nb h) 2∧wth (wrs h31 (nb h) 0 [vI 0,vI 0]) fun h38=>
∃n39,rI h38 (ad (nb h) 0) n39∧∃n40,rI h38 (ad (nb h) 1) n40∧Q [vI n37,(vA #[vI n39,vI n40]),vI 0] h38) else
(nilW p14 fun a41=>∃l42 : Sl,rL h31 (ad a41 2) l42 ∧
divOk 2 (nilW a fun a43=>∃n44,rI h31 (ad a43 2) n44 ∧
nilW p14 fun a45=>∃l46 : Sl,rL h31 (ad a45 2) l46 ∧
nilW l46.a fun a47=>ixOk (wi (Int.tdiv (wi ((l42.n : Int)+1)) 2)) l46.n (∃s48,rd h31 (ad a47 (tn (wi (Int.tdiv (wi ((l42.n : Int)+1)) 2))*1))=some (vS s48) ∧
nilW p14 fun a49=>∃l50 : Sl,rL h31 (ad a49 2) l50 ∧
(0≤(wi (Int.tdiv (wi ((l42.n : Int)+1)) 2))∧(wi (Int.tdiv (wi ((l42.n : Int)+1)) 2))≤(l50.n : Nat))∧S_slices_Clone_sstring_string ⟨(slAd l50.a (tn (wi (Int.tdiv (wi ((l42.n : Int)+1)) 2))) l50.c 1),(l50.n - (tn (wi (Int.tdiv (wi ((l42.n : Int)+1)) 2)))),(l50.c - (tn (wi (Int.tdiv (wi ((l42.n : Int)+1)) 2))))⟩ h31 fun vs51 h52=>
∃l53 : Sl,vs51=[vL l53] ∧
rd h52 (ad a47 (tn (wi (Int.tdiv (wi ((l42.n : Int)+1)) 2))*1))=some (vS s48)∧rL h52 (ad a45 2) l46∧rI h52 (ad a43 2) n44∧wth (pu h52 (oc #[vI n44,vS s48,vL l53] T_leaf_one)) fun h54=>
nilW p14 fun a55=>∃l56 : Sl,rL h54 (ad a55 2) l56 ∧
(0≤(wi (Int.tdiv (wi ((l42.n : Int)+1)) 2))∧(wi (Int.tdiv (wi ((l42.n : Int)+1)) 2))≤(l56.c : Nat))∧S_slices_Clone_sstring_string ⟨(slAd l56.a 0 l56.c 1),((tn (wi (Int.tdiv (wi ((l42.n : Int)+1)) 2))) - 0),(l56.c - 0)⟩ h54 fun vs57 h58=>
∃l59 : Sl,vs57=[vL l59] ∧
nilW p14 fun a60=>stOk h58 (ad a60 2) 1∧wth (wrs h58 (ad a60 2) 0 [vL l59]) fun h61=>
nilW a fun a62=>∃n63,rI h61 (ad a62 2) n63 ∧
nilW a fun a64=>stOk h61 (ad a64 2) 1∧wth (wrs h61 (ad a64 2) 0 [vI (wi (n63+1))]) fun h65=>
nilW a fun a66=>∃l67 : Sl,rL h65 (ad a66 1) l67 ∧
wth (pu h65 (oc #[vP (some (nb h52))] T_pleaf_one)) fun h68=>
S_slices_Insert_spleaf_one_pleaf_one ⟨l67.a,l67.n,l67.c⟩ (wi (n10+1)) ⟨(some (nb h65)),1,1⟩ h68 fun vs69 h70=>
∃l71 : Sl,vs69=[vL l71] ∧
nilW a fun a72=>stOk h70 (ad a72 1) 1∧wth (wrs h70 (ad a72 1) 0 [vL l71]) fun h73=>
nilW p14 fun a74=>∃n75,rI h73 (ad a74 0) n75 ∧
nilW (some (nb h52)) fun a76=>∃n77,rI h73 (ad a76 0) n77 ∧
stOk h73 (nb h) 2∧wth (wrs h73 (nb h) 0 [vI n75,vI n77]) fun h78=>
(if (decide (n19 < (wi (Int.tdiv (wi ((l42.n : Int)+1)) 2))))=true then
(nilW p14 fun a79=>∃n80,rI h78 (ad a79 0) n80 ∧
∃n81,rI h78 (ad (nb h) 0) n81∧∃n82,rI h78 (ad (nb h) 1) n82∧stOk h78 (nb h) 2∧wth (wrs h78 (nb h) 0 [vI n81,vI n82]) fun h83=>
∃n84,rI h83 (ad (nb h) 0) n84∧∃n85,rI h83 (ad (nb h) 1) n85∧Q [vI n80,(vA #[vI n84,vI n85]),vI 0] h83) else
(nilW (some (nb h52)) fun a86=>∃n87,rI h78 (ad a86 0) n87 ∧
∃n88,rI h78 (ad (nb h) 0) n88∧∃n89,rI h78 (ad (nb h) 1) n89∧stOk h78 (nb h) 2∧wth (wrs h78 (nb h) 0 [vI n88,vI n89]) fun h90=>
∃n91,rI h90 (ad (nb h) 0) n91∧∃n92,rI h90 (ad (nb h) 1) n92∧Q [vI n87,(vA #[vI n91,vI n92]),vI 0] h90)))))))))))))
theorem O_leaf_Leaves_Insert (a:OA)(b:BA){h Q}(H:F_leaf_Leaves_Insert a b h Q):S_leaf_Leaves_Insert a b h Q:=fo Tryz.func114 Z H
def F_index_Index_Add (a:OA)(b c:Int)(d:Nat)(e:BA)(f:Int)(h:Hp)(Q:PQ):Prop:=
wth (pu h (oc #[vI b,vI c,(Value.float .f64 d),vS e] T_api_Value)) fun h1=>
wth (pu h1 (oc #[vI 0,vI 0] T_leaf_Move)) fun h2=>
(if (isn a)=true then
(stOk h2 (nb h1) 2∧wth (wrs h2 (nb h1) 0 [vI 0,vI 0]) fun h3=>
∃n4,rI h3 (ad (nb h1) 0) n4∧∃n5,rI h3 (ad (nb h1) 1) n5∧Q [vI 0,(vA #[vI n4,vI n5]),vI 1] h3) else
(∃n6,rI h2 (ad (nb h) 0) n6∧∃n7,rI h2 (ad (nb h) 1) n7∧∃x8,rd h2 (ad (nb h) 2)=some (Value.float .f64 x8)∧∃s9,rS h2 (ad (nb h) 3) s9∧S_key_Entry n6 n7 x8 s9 f h2 fun vs10 h11=>
∃s12 n13,vs10=[vS s12,vI n13] ∧
(if (n13 != 0)=true then
(stOk h11 (nb h1) 2∧wth (wrs h11 (nb h1) 0 [vI 0,vI 0]) fun h14=>
∃n15,rI h14 (ad (nb h1) 0) n15∧∃n16,rI h14 (ad (nb h1) 1) n16∧Q [vI 0,(vA #[vI n15,vI n16]),vI n13] h14) else
(nilW a fun a17=>∃p18,rP h11 (ad a17 0) p18 ∧
S_leaf_Leaves_Insert p18 s12 h11 fun vs19 h20=>
∃n21 n22 n23 n24,vs19=[vI n21,(vA #[vI n22,vI n23]),vI n24] ∧
stOk h20 (nb h1) 2∧wth (wrs h20 (nb h1) 0 [vI n22,vI n23]) fun h25=>
∃n26,rI h25 (ad (nb h1) 0) n26∧∃n27,rI h25 (ad (nb h1) 1) n27∧Q [vI n21,(vA #[vI n26,vI n27]),vI n24] h25))))
theorem O_index_Index_Add (a:OA)(b c:Int)(d:Nat)(e:BA)(f:Int){h Q}(H:F_index_Index_Add a b c d e f h Q):S_index_Index_Add a b c d e f h Q:=fo Tryz.func70 Z H
def F_row_Pad (a b:Sl)(h:Hp)(Q:PQ):Prop:=
∀X1:PQ,(∀l2 : Sl,∀n3 h4,((if (decide (n3 < (a.n : Int)))=true then
(nilW a.a fun a5=>ixOk n3 a.n (∃s6,rS h4 (ad (ad a5 (tn n3*7)) 0) s6∧∃n7,rI h4 (ad (ad a5 (tn n3*7)) 1) n7∧∃b8,rB h4 (ad (ad a5 (tn n3*7)) 2) b8∧∃n9,rI h4 (ad (ad a5 (tn n3*7)) 3) n9∧∃n10,rI h4 (ad (ad a5 (tn n3*7)) 4) n10∧∃x11,rd h4 (ad (ad a5 (tn n3*7)) 5)=some (Value.float .f64 x11)∧∃s12,rS h4 (ad (ad a5 (tn n3*7)) 6) s12∧wth (pu h4 (oc #[vS (ByteArray.mk #[]),vI 0,vB false,vI 0,vI 0,(Value.float .f64 0),vS (ByteArray.mk #[])] T_api_Column)) fun h13=>
stOk h13 (nb h4) 7∧wth (wrs h13 (nb h4) 0 [vS s6,vI n7,vB b8,vI n9,vI n10,(Value.float .f64 x11),vS s12]) fun h14=>
∃n15,rI h14 (ad (ad (nb h4) 3) 0) n15∧∃n16,rI h14 (ad (ad (nb h4) 3) 1) n16∧∃x17,rd h14 (ad (ad (nb h4) 3) 2)=some (Value.float .f64 x17)∧∃s18,rS h14 (ad (ad (nb h4) 3) 3) s18∧wth (pu h14 (oc #[vI 0,vI 0,(Value.float .f64 0),vS (ByteArray.mk #[])] T_api_Value)) fun h19=>
stOk h19 (nb h14) 4∧wth (wrs h19 (nb h14) 0 [vI n15,vI n16,(Value.float .f64 x17),vS s18]) fun h20=>
∀J21:PQ,(∀h22,(∃n23,rI h22 (ad (nb h14) 0) n23∧∃n24,rI h22 (ad (nb h14) 1) n24∧∃x25,rd h22 (ad (nb h14) 2)=some (Value.float .f64 x25)∧∃s26,rS h22 (ad (nb h14) 3) s26∧wth (pu h22 (oc #[vI n23,vI n24,(Value.float .f64 x25),vS s26] T_api_Value)) fun h27=>
∃cs30,cellsAt h27 (some (nb h22)) (1*4) cs30∧appS PP T_api_Value 40 4 h27 ⟨l2.a,l2.n,l2.c⟩ 1 cs30 fun l28 h29=>
X1 [vL l28,vI (wi (n3+1))] h29)→J21 [] h22) →
(if (decide (n3 < (b.n : Int)))=true then
(nilW b.a fun a31=>ixOk n3 b.n (∃n32,rI h20 (ad (ad a31 (tn n3*4)) 0) n32∧∃n33,rI h20 (ad (ad a31 (tn n3*4)) 1) n33∧∃x34,rd h20 (ad (ad a31 (tn n3*4)) 2)=some (Value.float .f64 x34)∧∃s35,rS h20 (ad (ad a31 (tn n3*4)) 3) s35∧stOk h20 (nb h14) 4∧wth (wrs h20 (nb h14) 0 [vI n32,vI n33,(Value.float .f64 x34),vS s35]) fun h36=>
J21 [] h36)) else
(J21 [] h20)))) else
(Q [vL l2] h4)))→X1 [vL l2,vI n3] h4) →
X1 [(vC none 0 0),vI 0] h
theorem O_row_Pad (a b:Sl){h Q}(H:F_row_Pad a b h Q):S_row_Pad a b h Q:=fo Tryz.func115 (R (R (L (R (L (.mk none ⟨[1,9,10],[(5,(.c .sl)),(11,(.c (.int .i64)))]⟩ (R (R (L (L (R (R (L (R (.mk (some ⟨[1,5,8,9,10,11],[]⟩) E Z Z))))))))) Z)))))) H
def F_table_entries_of (a:OA)(b c:Sl)(h:Hp)(Q:PQ):Prop:=
wth (pu h (oc #[vI 0,vI 0,(Value.float .f64 0),vS (ByteArray.mk #[])] T_api_Value)) fun h1=>
nilW a fun a2=>∃s3,rS h1 (ad (ad (ad a2 0) 0) 1) s3 ∧
S_row_Find ⟨c.a,c.n,c.c⟩ s3 h1 fun vs4 h5=>
∃n6,vs4=[vI n6] ∧
(if (decide (n6 < (0 : Int)))=true then
(stOk h5 (nb h) 4∧wth (wrs h5 (nb h) 0 [vI 0,vI 0,(Value.float .f64 0),vS (ByteArray.mk #[])]) fun h7=>
∃n8,rI h7 (ad (nb h) 0) n8∧∃n9,rI h7 (ad (nb h) 1) n9∧∃x10,rd h7 (ad (nb h) 2)=some (Value.float .f64 x10)∧∃s11,rS h7 (ad (nb h) 3) s11∧Q [(vA #[vI n8,vI n9,(Value.float .f64 x10),vS s11])] h7) else
(S_row_Pad ⟨c.a,c.n,c.c⟩ ⟨b.a,b.n,b.c⟩ h5 fun vs12 h13=>
∃l14 : Sl,vs12=[vL l14] ∧
nilW l14.a fun a15=>ixOk n6 l14.n (∃n16,rI h13 (ad (ad a15 (tn n6*4)) 0) n16∧∃n17,rI h13 (ad (ad a15 (tn n6*4)) 1) n17∧∃x18,rd h13 (ad (ad a15 (tn n6*4)) 2)=some (Value.float .f64 x18)∧∃s19,rS h13 (ad (ad a15 (tn n6*4)) 3) s19∧stOk h13 (nb h) 4∧wth (wrs h13 (nb h) 0 [vI n16,vI n17,(Value.float .f64 x18),vS s19]) fun h20=>
∃n21,rI h20 (ad (nb h) 0) n21∧∃n22,rI h20 (ad (nb h) 1) n22∧∃x23,rd h20 (ad (nb h) 2)=some (Value.float .f64 x23)∧∃s24,rS h20 (ad (nb h) 3) s24∧Q [(vA #[vI n21,vI n22,(Value.float .f64 x23),vS s24])] h20)))
theorem O_table_entries_of (a:OA)(b c:Sl){h Q}(H:F_table_entries_of a b c h Q):S_table_entries_of a b c h Q:=fo Tryz.func71 Z H
def FD_cmp_isNaN_int (a:Int)(h:Hp)(Q:PQ):Prop:=
Q [vB (a != a)] h
theorem OD_cmp_isNaN_int (a:Int){h Q}(H:FD_cmp_isNaN_int a h Q):SD_cmp_isNaN_int a h Q:=foD Tryz.func222 Z H
def F_siread_Table_owners (a:OA)(b:Nat)(c:AV)(h:Hp)(Q:PQ):Prop:=
nilW a fun a1=>∃r2,rM h (ad a1 2) r2 ∧
∃o3 : Obj,IterOf h r2 o3∧wth (pu h o3) fun h4=>
∀X5:PQ,(∀l6 : Sl,∀h7,((Addr.off (nb h)=0∧∃o8 : Obj,h7[Addr.block (nb h)]?=some o8∧IterGood h7 o8 ∧
(IterEnd h7 o8→S_slices_Sort_sint_int ⟨l6.a,l6.n,l6.c⟩ h7 fun vs12 h13=>
vs12=[] ∧
Q [vL l6] h13) ∧
∀(k9 v10 : Value) (o11 : Obj),IterStep h7 o8 k9 v10 o11→wth (sib h7 (Addr.block (nb h)) o11) fun h14=>
(Addr.off (nb h)=0∧∃(m15 n16 : Nat) (q17 : Array Nat) (n18 : Nat) (es19 : Array MapEntry) (c20 : Nat) (e21 : MapEntry),h14[Addr.block (nb h)]?=some (.mapIter (some m15) n16 q17 c20)∧Array.back? q17=some n18∧h14[m15]?=some (.map es19 c20)∧Array.find? (fun x=>x.born==n18) es19=some e21∧∃n22,e21.key=(vI n22)∧∃r23,e21.val=(vM r23)∧∃o24 : Obj,IterOf h14 r23 o24∧wth (pu h14 o24) fun h25=>
∀X26:PQ,(∀l27 : Sl,∀h28,((Addr.off (nb h14)=0∧∃o29 : Obj,h28[Addr.block (nb h14)]?=some o29∧IterGood h28 o29 ∧
(IterEnd h28 o29→X5 [vL l27] h28) ∧
∀(k30 v31 : Value) (o32 : Obj),IterStep h28 o29 k30 v31 o32→wth (sib h28 (Addr.block (nb h14)) o32) fun h33=>
(Addr.off (nb h14)=0∧∃(m34 n35 : Nat) (q36 : Array Nat) (n37 : Nat) (es38 : Array MapEntry) (c39 : Nat) (e40 : MapEntry),h33[Addr.block (nb h14)]?=some (.mapIter (some m34) n35 q36 c39)∧Array.back? q36=some n37∧h33[m34]?=some (.map es38 c39)∧Array.find? (fun x=>x.born==n37) es38=some e40∧∃n41 s42 n43 s44 n45,e40.key=(vA #[vI n41,vS s42,vI n43,vS s44,vI n45])∧∃v46,e40.val=v46∧wth (pu h33 (oc #[vI 0,vS (ByteArray.mk #[]),vI 0,vS (ByteArray.mk #[]),vI 0] T_siread_Thing)) fun h47=>
stOk h47 (nb h33) 5∧wth (wrs h47 (nb h33) 0 [vI n41,vS s42,vI n43,vS s44,vI n45]) fun h48=>
∃n49,rI h48 (ad (nb h33) 0) n49∧∃s50,rS h48 (ad (nb h33) 1) s50∧∃n51,rI h48 (ad (nb h33) 2) n51∧∃s52,rS h48 (ad (nb h33) 3) s52∧∃n53,rI h48 (ad (nb h33) 4) n53∧Fn PP b ((#[] ++ #[(vA #[vI n49,vS s50,vI n51,vS s52,vI n53])]) ++ c) h48 fun vs54 h55=>
∃b56,vs54=[vB b56] ∧
(if b56=true then
(wth (pu h55 (oc #[vI n22] T_int)) fun h57=>
∃cs60,cellsAt h57 (some (nb h55)) (1*1) cs60∧appS PP T_int 8 1 h57 ⟨l27.a,l27.n,l27.c⟩ 1 cs60 fun l58 h59=>
X5 [vL l58] h59) else
(X26 [vL l27] h55)))))→X26 [vL l27] h28) →
X26 [vL l6] h25)))→X5 [vL l6] h7) →
X5 [(vC none 0 0)] h4
theorem O_siread_Table_owners (a:OA)(b:Nat)(c:AV){h Q}(H:F_siread_Table_owners a b c h Q):S_siread_Table_owners a b c h Q:=fo' (fun d => if d = 16 then [(.c (.int .i64)), (.c .map)] else if d = 23 then [(.agg [(.int .i64), .str, (.int .i64), .str, (.int .i64)]), (.c .any)] else []) Tryz.func110 (R (R (L (R (L (.mk none ⟨[1,13],[(5,(.c .sl))]⟩ (R (R (L (R (R (L (.mk none ⟨[1,6,13,20],[(5,(.c .sl))]⟩ Z Z))))))) Z)))))) H
def F_siread_Thing_fine (a:Int)(b:BA)(c:Int)(d:BA)(e:Int)(h:Hp)(Q:PQ):Prop:=
wth (pu h (oc #[vI a,vS b,vI c,vS d,vI e] T_siread_Thing)) fun h1=>
∃n2,rI h1 (ad (nb h) 0) n2 ∧
(if (n2==3)=true then (Q [vB true] h1) else
(∃n3,rI h1 (ad (nb h) 0) n3 ∧
Q [vB (n3==4)] h1))
theorem O_siread_Thing_fine (a:Int)(b:BA)(c:Int)(d:BA)(e:Int){h Q}(H:F_siread_Thing_fine a b c d e h Q):S_siread_Thing_fine a b c d e h Q:=fo Tryz.func147 Z H
def F_siread_Thing_rel (a:Int)(b:BA)(c:Int)(d:BA)(e:Int)(h:Hp)(Q:PQ):Prop:=
wth (pu h (oc #[vI a,vS b,vI c,vS d,vI e] T_siread_Thing)) fun h1=>
wth (pu h1 (oc #[vI 0,vS (ByteArray.mk #[]),vI 0,vS (ByteArray.mk #[]),vI 0] T_siread_Thing)) fun h2=>
∃n3,rI h2 (ad (nb h) 2) n3 ∧
stOk h2 (nb h1) 5∧wth (wrs h2 (nb h1) 0 [vI 2,vS (ByteArray.mk #[]),vI n3,vS (ByteArray.mk #[]),vI 0]) fun h4=>
∃n5,rI h4 (ad (nb h1) 0) n5∧∃s6,rS h4 (ad (nb h1) 1) s6∧∃n7,rI h4 (ad (nb h1) 2) n7∧∃s8,rS h4 (ad (nb h1) 3) s8∧∃n9,rI h4 (ad (nb h1) 4) n9∧Q [(vA #[vI n5,vS s6,vI n7,vS s8,vI n9])] h4
theorem O_siread_Thing_rel (a:Int)(b:BA)(c:Int)(d:BA)(e:Int){h Q}(H:F_siread_Thing_rel a b c d e h Q):S_siread_Thing_rel a b c d e h Q:=fo Tryz.func148 Z H
def F_siread_Table_count (a:OA)(b c:Int)(h:Hp)(Q:PQ):Prop:=
nilW a fun a1=>∃r2,rM h (ad a1 2) r2 ∧
∃es3,mapAt h r2 es3∧KeysLike (vI b) es3∧∃r4,mgetD (vI b) es3 (vM none)=(vM r4) ∧
∃o6 : Obj,IterOf h r4 o6∧wth (pu h o6) fun h7=>
∀X8:PQ,(∀n9 h10,((Addr.off (nb h)=0∧∃o11 : Obj,h10[Addr.block (nb h)]?=some o11∧IterGood h10 o11 ∧
(IterEnd h10 o11→Q [vI n9] h10) ∧
∀(k12 v13 : Value) (o14 : Obj),IterStep h10 o11 k12 v13 o14→wth (sib h10 (Addr.block (nb h)) o14) fun h15=>
(Addr.off (nb h)=0∧∃(m16 n17 : Nat) (q18 : Array Nat) (n19 : Nat) (es20 : Array MapEntry) (c21 : Nat) (e22 : MapEntry),h15[Addr.block (nb h)]?=some (.mapIter (some m16) n17 q18 c21)∧Array.back? q18=some n19∧h15[m16]?=some (.map es20 c21)∧Array.find? (fun x=>x.born==n19) es20=some e22∧∃n23 s24 n25 s26 n27,e22.key=(vA #[vI n23,vS s24,vI n25,vS s26,vI n27])∧∃v28,e22.val=v28∧wth (pu h15 (oc #[vI 0,vS (ByteArray.mk #[]),vI 0,vS (ByteArray.mk #[]),vI 0] T_siread_Thing)) fun h29=>
stOk h29 (nb h15) 5∧wth (wrs h29 (nb h15) 0 [vI n23,vS s24,vI n25,vS s26,vI n27]) fun h30=>
∀J31:PQ,(∀b32 h33,((if b32=true then
(X8 [vI (wi (n9+1))] h33) else
(X8 [vI n9] h33)))→J31 [vB b32] h33) →
∃n34,rI h30 (ad (nb h15) 0) n34∧∃s35,rS h30 (ad (nb h15) 1) s35∧∃n36,rI h30 (ad (nb h15) 2) n36∧∃s37,rS h30 (ad (nb h15) 3) s37∧∃n38,rI h30 (ad (nb h15) 4) n38∧S_siread_Thing_fine n34 s35 n36 s37 n38 h30 fun vs39 h40=>
∃b41,vs39=[vB b41] ∧
(if b41=true then (∃n42,rI h40 (ad (nb h15) 2) n42 ∧
J31 [vB (n42==c)] h40) else
(J31 [vB false] h40)))))→X8 [vI n9] h10) →
X8 [vI 0] h7
theorem O_siread_Table_count (a:OA)(b c:Int){h Q}(H:F_siread_Table_count a b c h Q):S_siread_Table_count a b c h Q:=fo' (fun d => if d = 18 then [(.agg [(.int .i64), .str, (.int .i64), .str, (.int .i64)]), (.c .any)] else []) Tryz.func149 (R (R (L (R (L (.mk none ⟨[2,15],[(7,(.c (.int .i64)))]⟩ (R (R (L (R (L (.mk (some ⟨[2,7,15],[(27,(.c .bool))]⟩) E Z Z)))))) Z)))))) H
end Go.Lift

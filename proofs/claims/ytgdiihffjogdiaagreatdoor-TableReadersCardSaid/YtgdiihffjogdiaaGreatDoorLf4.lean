/- Printed by lift.py: functions, part 3. -/
import Derived.Test.YtgdiihffjogdiaaGreatDoorLfs
set_option linter.unusedSimpArgs false
set_option linter.unusedVariables false
namespace Go.Lift
open Go Go.Proofs Cmp
set_option maxRecDepth 100000
def F_slices_Collect_siread_Thing (a:Nat)(b:AV)(h:Hp)(Q:PQ):Prop:=
S_slices_AppendSeq_ssiread_Thing_siread_Thing ⟨none,0,0⟩ a b h fun vs1 h2=>
∃l3 : Sl,vs1=[vL l3] ∧
Q [vL l3] h2
theorem O_slices_Collect_siread_Thing (a:Nat)(b:AV){h Q}(H:F_slices_Collect_siread_Thing a b h Q):S_slices_Collect_siread_Thing a b h Q:=fo Tryz.func224 Z H
def F_slices_SortedFunc_siread_Thing (a:Nat)(b:AV)(c:Nat)(d:AV)(h:Hp)(Q:PQ):Prop:=
S_slices_Collect_siread_Thing a b h fun vs1 h2=>
∃l3 : Sl,vs1=[vL l3] ∧
S_slices_SortFunc_ssiread_Thing_siread_Thing ⟨l3.a,l3.n,l3.c⟩ c d h2 fun vs4 h5=>
vs4=[] ∧
Q [vL l3] h5
theorem O_slices_SortedFunc_siread_Thing (a:Nat)(b:AV)(c:Nat)(d:AV){h Q}(H:F_slices_SortedFunc_siread_Thing a b c d h Q):S_slices_SortedFunc_siread_Thing a b c d h Q:=fo Tryz.func201 Z H
def F_maps_Keys_map_siread_Thing_int_siread_Thing_int (a:ON)(h:Hp)(Q:PQ):Prop:=
wth (pu h (oc #[vM a] T_map_siread_Thing_int)) fun h1=>
Q [(Value.func (.func 226) #[] #[vP (some (nb h))])] h1
theorem O_maps_Keys_map_siread_Thing_int_siread_Thing_int (a:ON){h Q}(H:F_maps_Keys_map_siread_Thing_int_siread_Thing_int a h Q):S_maps_Keys_map_siread_Thing_int_siread_Thing_int a h Q:=fo Tryz.func202 Z H
def F_siread_Table_Of (a:OA)(b:Int)(h:Hp)(Q:PQ):Prop:=
(if (isn a)=true then
(Q [(vC none 0 0)] h) else
(nilW a fun a1=>∃r2,rM h (ad a1 2) r2 ∧
∃es3,mapAt h r2 es3∧KeysLike (vI b) es3∧∃r4,mgetD (vI b) es3 (vM none)=(vM r4) ∧
S_maps_Keys_map_siread_Thing_int_siread_Thing_int r4 h fun vs6 h7=>
∃f8,∃cs9 : Array Value,vs6=[(Value.func (.func f8) #[] cs9)] ∧
S_slices_SortedFunc_siread_Thing f8 cs9 203 #[] h7 fun vs10 h11=>
∃l12 : Sl,vs10=[vL l12] ∧
Q [vL l12] h11))
theorem O_siread_Table_Of (a:OA)(b:Int){h Q}(H:F_siread_Table_Of a b h Q):S_siread_Table_Of a b h Q:=fo Tryz.func172 Z H
def F_siread_Table_lose (a:OA)(b:Int)(c:Nat)(d:AV)(h:Hp)(Q:PQ):Prop:=
S_siread_Table_Of a b h fun vs1 h2=>
∃l3 : Sl,vs1=[vL l3] ∧
∀X4:PQ,(∀n5 h6,((if (decide (n5 < (l3.n : Int)))=true then
(∀J7:PQ,(∀h8,(X4 [vI (wi (n5+1))] h8)→J7 [] h8) →
nilW l3.a fun a9=>ixOk n5 l3.n (∃n10,rI h6 (ad (ad a9 (tn n5*5)) 0) n10∧∃s11,rS h6 (ad (ad a9 (tn n5*5)) 1) s11∧∃n12,rI h6 (ad (ad a9 (tn n5*5)) 2) n12∧∃s13,rS h6 (ad (ad a9 (tn n5*5)) 3) s13∧∃n14,rI h6 (ad (ad a9 (tn n5*5)) 4) n14∧wth (pu h6 (oc #[vI 0,vS (ByteArray.mk #[]),vI 0,vS (ByteArray.mk #[]),vI 0] T_siread_Thing)) fun h15=>
stOk h15 (nb h6) 5∧wth (wrs h15 (nb h6) 0 [vI n10,vS s11,vI n12,vS s13,vI n14]) fun h16=>
∃n17,rI h16 (ad (nb h6) 0) n17∧∃s18,rS h16 (ad (nb h6) 1) s18∧∃n19,rI h16 (ad (nb h6) 2) n19∧∃s20,rS h16 (ad (nb h6) 3) s20∧∃n21,rI h16 (ad (nb h6) 4) n21∧Fn PP c ((#[] ++ #[(vA #[vI n17,vS s18,vI n19,vS s20,vI n21])]) ++ d) h16 fun vs22 h23=>
∃b24,vs22=[vB b24] ∧
(if b24=true then
(nilW a fun a25=>∃r26,rM h23 (ad a25 2) r26 ∧
∃es27,mapAt h23 r26 es27∧KeysLike (vI b) es27∧∃r28,mgetD (vI b) es27 (vM none)=(vM r28) ∧
∃n30,rI h23 (ad (nb h6) 0) n30∧∃s31,rS h23 (ad (nb h6) 1) s31∧∃n32,rI h23 (ad (nb h6) 2) n32∧∃s33,rS h23 (ad (nb h6) 3) s33∧∃n34,rI h23 (ad (nb h6) 4) n34∧∃m35 es36 c37,r28=some m35∧h23[m35]?=some (.map es36 c37)∧KeysLike (vA #[vI n30,vS s31,vI n32,vS s33,vI n34]) es36∧wth (sib h23 m35 (mdel (vA #[vI n30,vS s31,vI n32,vS s33,vI n34]) es36 c37)) fun h38=>
∃n39,rI h38 (ad (nb h6) 0) n39∧∃s40,rS h38 (ad (nb h6) 1) s40∧∃n41,rI h38 (ad (nb h6) 2) n41∧∃s42,rS h38 (ad (nb h6) 3) s42∧∃n43,rI h38 (ad (nb h6) 4) n43∧S_siread_Thing_fine n39 s40 n41 s42 n43 h38 fun vs44 h45=>
∃b46,vs44=[vB b46] ∧
(if b46=true then
(nilW a fun a47=>∃n48,rI h45 (ad a47 3) n48 ∧
nilW a fun a49=>stOk h45 (ad a49 3) 1∧wth (wrs h45 (ad a49 3) 0 [vI (wi (n48 - 1))]) fun h50=>
J7 [] h50) else
(J7 [] h45))) else
(J7 [] h23)))) else
(Q [] h6)))→X4 [vI n5] h6) →
X4 [vI 0] h2
theorem O_siread_Table_lose (a:OA)(b:Int)(c:Nat)(d:AV){h Q}(H:F_siread_Table_lose a b c d h Q):S_siread_Table_lose a b c d h Q:=fo Tryz.func150 (R (L (.mk none ⟨[0,1,2,10,11],[(12,(.c (.int .i64)))]⟩ (R (R (L (.mk (some ⟨[0,1,2,10,11,12],[]⟩) E Z Z)))) Z))) H
def F_siread_Table_take (a:OA)(b c:Int)(d:BA)(e:Int)(f:BA)(g:Int)(h:Hp)(Q:PQ):Prop:=
wth (pu h (oc #[vI c,vS d,vI e,vS f,vI g] T_siread_Thing)) fun h1=>
∀J2:PQ,(∀b3 h4,((if b3=true then
(Q [] h4) else
(nilW a fun a5=>∃r6,rM h4 (ad a5 2) r6 ∧
∃es7,mapAt h4 r6 es7∧KeysLike (vI b) es7∧∃r8,mgetD (vI b) es7 (vM none)=(vM r8) ∧
∀J10:PQ,(∀r11 h12,(∀J13:PQ,(∀b14 h15,((if b14=true then
(Q [] h15) else
(∃n16,rI h15 (ad (nb h) 0) n16∧∃s17,rS h15 (ad (nb h) 1) s17∧∃n18,rI h15 (ad (nb h) 2) n18∧∃s19,rS h15 (ad (nb h) 3) s19∧∃n20,rI h15 (ad (nb h) 4) n20∧S_siread_Thing_fine n16 s17 n18 s19 n20 h15 fun vs21 h22=>
∃b23,vs21=[vB b23] ∧
∀J24:PQ,(∀h25,(∃n26,rI h25 (ad (nb h) 0) n26 ∧
∀J27:PQ,(∀h28,(nilW a fun a29=>∃r30,rM h28 (ad a29 2) r30 ∧
∃es31,mapAt h28 r30 es31∧KeysLike (vI b) es31∧∃r32,mgetD (vI b) es31 (vM none)=(vM r32) ∧
∃n34,rI h28 (ad (nb h) 0) n34∧∃s35,rS h28 (ad (nb h) 1) s35∧∃n36,rI h28 (ad (nb h) 2) n36∧∃s37,rS h28 (ad (nb h) 3) s37∧∃n38,rI h28 (ad (nb h) 4) n38∧∃m39 es40 c41,r32=some m39∧h28[m39]?=some (.map es40 c41)∧KeysLike (vA #[vI n34,vS s35,vI n36,vS s37,vI n38]) es40∧wth (sib h28 m39 (mput (vA #[vI n34,vS s35,vI n36,vS s37,vI n38]) (vI 1) es40 c41)) fun h42=>
Q [] h42)→J27 [] h28) →
(if (n26==2)=true then
(S_siread_Table_lose a b 151 #[vP (some (nb h))] h25 fun vs43 h44=>
vs43=[] ∧
J27 [] h44) else
(J27 [] h25)))→J24 [] h25) →
(if b23=true then
(∀J45:PQ,(∀b46 h47,((if b46=true then
(∃n48,rI h47 (ad (nb h) 0) n48∧∃s49,rS h47 (ad (nb h) 1) s49∧∃n50,rI h47 (ad (nb h) 2) n50∧∃s51,rS h47 (ad (nb h) 3) s51∧∃n52,rI h47 (ad (nb h) 4) n52∧∃m53 es54 c55,r11=some m53∧h47[m53]?=some (.map es54 c55)∧KeysLike (vA #[vI n48,vS s49,vI n50,vS s51,vI n52]) es54∧wth (sib h47 m53 (mput (vA #[vI n48,vS s49,vI n50,vS s51,vI n52]) (vI 1) es54 c55)) fun h56=>
nilW a fun a57=>∃n58,rI h56 (ad a57 3) n58 ∧
nilW a fun a59=>stOk h56 (ad a59 3) 1∧wth (wrs h56 (ad a59 3) 0 [vI (wi (n58+1))]) fun h60=>
Q [] h60) else
(∃n61,rI h47 (ad (nb h) 0) n61∧∃s62,rS h47 (ad (nb h) 1) s62∧∃n63,rI h47 (ad (nb h) 2) n63∧∃s64,rS h47 (ad (nb h) 3) s64∧∃n65,rI h47 (ad (nb h) 4) n65∧S_siread_Thing_rel n61 s62 n63 s64 n65 h47 fun vs66 h67=>
∃n68 s69 n70 s71 n72,vs66=[(vA #[vI n68,vS s69,vI n70,vS s71,vI n72])] ∧
stOk h67 (nb h) 5∧wth (wrs h67 (nb h) 0 [vI n68,vS s69,vI n70,vS s71,vI n72]) fun h73=>
J24 [] h73)))→J45 [vB b46] h47) →
∃n74,rI h22 (ad (nb h) 2) n74 ∧
nilW a fun a75=>∃n76,rI h22 (ad a75 0) n76 ∧
S_siread_Table_count a b n74 h22 fun vs77 h78=>
∃n79,vs77=[vI n79] ∧
rI h78 (ad a75 0) n76∧(if (decide (n79 < n76))=true then (nilW a fun a80=>∃n81,rI h78 (ad a80 3) n81 ∧
nilW a fun a82=>∃n83,rI h78 (ad a82 1) n83 ∧
J45 [vB (decide (n81 < n83))] h78) else
(J45 [vB false] h78))) else
(J24 [] h22)))))→J13 [vB b14] h15) →
∃n84,rI h12 (ad (nb h) 0) n84∧∃s85,rS h12 (ad (nb h) 1) s85∧∃n86,rI h12 (ad (nb h) 2) n86∧∃s87,rS h12 (ad (nb h) 3) s87∧∃n88,rI h12 (ad (nb h) 4) n88∧∃es89,mapAt h12 r11 es89∧KeysLike (vA #[vI n84,vS s85,vI n86,vS s87,vI n88]) es89∧∃n90,mgetD (vA #[vI n84,vS s85,vI n86,vS s87,vI n88]) es89 (vI 0)=(vI n90) ∧
(if (decide (n90 > 0))=true then (J13 [vB true] h12) else
(∃n92,rI h12 (ad (nb h) 0) n92∧∃s93,rS h12 (ad (nb h) 1) s93∧∃n94,rI h12 (ad (nb h) 2) n94∧∃s95,rS h12 (ad (nb h) 3) s95∧∃n96,rI h12 (ad (nb h) 4) n96∧S_siread_Thing_fine n92 s93 n94 s95 n96 h12 fun vs97 h98=>
∃b99,vs97=[vB b99] ∧
(if b99=true then (∃n100,rI h98 (ad (nb h) 0) n100∧∃s101,rS h98 (ad (nb h) 1) s101∧∃n102,rI h98 (ad (nb h) 2) n102∧∃s103,rS h98 (ad (nb h) 3) s103∧∃n104,rI h98 (ad (nb h) 4) n104∧S_siread_Thing_rel n100 s101 n102 s103 n104 h98 fun vs105 h106=>
∃n107 s108 n109 s110 n111,vs105=[(vA #[vI n107,vS s108,vI n109,vS s110,vI n111])] ∧
∃es112,mapAt h106 r11 es112∧KeysLike (vA #[vI n107,vS s108,vI n109,vS s110,vI n111]) es112∧∃n113,mgetD (vA #[vI n107,vS s108,vI n109,vS s110,vI n111]) es112 (vI 0)=(vI n113) ∧
J13 [vB (decide (n113 > 0))] h106) else
(J13 [vB false] h98)))))→J10 [vM r11] h12) →
(if (isn r8)=true then
(wth (pu h4 (Obj.map #[] 0)) fun h115=>
nilW a fun a116=>∃r117,rM h115 (ad a116 2) r117 ∧
∃m118 es119 c120,r117=some m118∧h115[m118]?=some (.map es119 c120)∧KeysLike (vI b) es119∧wth (sib h115 m118 (mput (vI b) (vM (some h4.size)) es119 c120)) fun h121=>
J10 [vM (some h4.size)] h121) else
(J10 [vM r8] h4)))))→J2 [vB b3] h4) →
∃n122,rI h1 (ad (nb h) 0) n122 ∧
(if (decide (n122 < (1 : Int)))=true then (J2 [vB true] h1) else
(∃n123,rI h1 (ad (nb h) 0) n123 ∧
J2 [vB (decide (n123 > 4))] h1))
theorem O_siread_Table_take (a:OA)(b c:Int)(d:BA)(e:Int)(f:BA)(g:Int){h Q}(H:F_siread_Table_take a b c d e f g h Q):S_siread_Table_take a b c d e f g h Q:=fo Tryz.func112 (R (N (L (.mk (some ⟨[0,1,5],[(14,(.c .bool))]⟩) E Z Z)) (R (N (R (.mk (some ⟨[0,1,5],[(6,(.c .map))]⟩) E Z Z)) (N (L (.mk (some ⟨[0,1,5,6],[(44,(.c .bool))]⟩) E Z Z)) (N (R (.mk (some ⟨[0,1,5],[]⟩) E (L (L (.mk (some ⟨[0,1,5,6],[(67,(.c .bool))]⟩) E Z Z))) Z)) (L (R (.mk (some ⟨[0,1,5],[]⟩) E Z Z))))))))) H
def F_siread_Table_Copy (a:OA)(b:Int)(c:BA)(d:Int)(e:BA)(f g:Int)(i:BA)(j:Int)(k:BA)(l:Int)(h:Hp)(Q:PQ):Prop:=
wth (pu h (oc #[vI b,vS c,vI d,vS e,vI f] T_siread_Thing)) fun h1=>
wth (pu h1 (oc #[vI g,vS i,vI j,vS k,vI l] T_siread_Thing)) fun h2=>
(if (isn a)=true then
(Q [] h2) else
(S_siread_Table_owners a 116 #[vP (some (nb h))] h2 fun vs3 h4=>
∃l5 : Sl,vs3=[vL l5] ∧
∀X6:PQ,(∀n7 h8,((if (decide (n7 < (l5.n : Int)))=true then
(nilW l5.a fun a9=>ixOk n7 l5.n (∃n10,rI h8 (ad a9 (tn n7*1)) n10 ∧
∃n11,rI h8 (ad (nb h1) 0) n11∧∃s12,rS h8 (ad (nb h1) 1) s12∧∃n13,rI h8 (ad (nb h1) 2) n13∧∃s14,rS h8 (ad (nb h1) 3) s14∧∃n15,rI h8 (ad (nb h1) 4) n15∧S_siread_Table_take a n10 n11 s12 n13 s14 n15 h8 fun vs16 h17=>
vs16=[] ∧
X6 [vI (wi (n7+1))] h17)) else
(Q [] h8)))→X6 [vI n7] h8) →
X6 [vI 0] h4))
theorem O_siread_Table_Copy (a:OA)(b:Int)(c:BA)(d:Int)(e:BA)(f g:Int)(i:BA)(j:Int)(k:BA)(l:Int){h Q}(H:F_siread_Table_Copy a b c d e f g i j k l h Q):S_siread_Table_Copy a b c d e f g i j k l h Q:=fo Tryz.func72 (R (R (R (L (.mk none ⟨[0,5,12,13],[(14,(.c (.int .i64)))]⟩ Z Z))))) H
def F_table_thing (a:Int)(b:OA)(c:Int)(h:Hp)(Q:PQ):Prop:=
wth (pu h (oc #[vI 0,vS (ByteArray.mk #[]),vI 0,vS (ByteArray.mk #[]),vI 0] T_siread_Thing)) fun h1=>
nilW b fun a2=>∃s3,rS h1 (ad (ad (ad a2 0) 0) 0) s3 ∧
stOk h1 (nb h) 5∧wth (wrs h1 (nb h) 0 [vI 3,vS (ByteArray.mk #[]),vI a,vS s3,vI c]) fun h4=>
∃n5,rI h4 (ad (nb h) 0) n5∧∃s6,rS h4 (ad (nb h) 1) s6∧∃n7,rI h4 (ad (nb h) 2) n7∧∃s8,rS h4 (ad (nb h) 3) s8∧∃n9,rI h4 (ad (nb h) 4) n9∧Q [(vA #[vI n5,vS s6,vI n7,vS s8,vI n9])] h4
theorem O_table_thing (a:Int)(b:OA)(c:Int){h Q}(H:F_table_thing a b c h Q):S_table_thing a b c h Q:=fo Tryz.func73 Z H
def F_ssi_Ssi_runs (a:OA)(b:Int)(h:Hp)(Q:PQ):Prop:=
(if (!(isn a))=true then (nilW a fun a1=>∃p2,rP h (ad a1 0) p2 ∧
S_clog_Log_State p2 b h fun vs3 h4=>
∃n5,vs3=[vI n5] ∧
Q [vB (n5==1)] h4) else
(Q [vB false] h))
theorem O_ssi_Ssi_runs (a:OA)(b:Int){h Q}(H:F_ssi_Ssi_runs a b h Q):S_ssi_Ssi_runs a b h Q:=fo Tryz.func81 Z H
def F_siread_Table_Owners (a:OA)(b:Int)(c:BA)(d:Int)(e:BA)(f:Int)(h:Hp)(Q:PQ):Prop:=
wth (pu h (oc #[vI b,vS c,vI d,vS e,vI f] T_siread_Thing)) fun h1=>
(if (isn a)=true then
(Q [(vC none 0 0)] h1) else
(S_siread_Table_owners a 159 #[vP (some (nb h))] h1 fun vs2 h3=>
∃l4 : Sl,vs2=[vL l4] ∧
Q [vL l4] h3))
theorem O_siread_Table_Owners (a:OA)(b:Int)(c:BA)(d:Int)(e:BA)(f:Int){h Q}(H:F_siread_Table_Owners a b c d e f h Q):S_siread_Table_Owners a b c d e f h Q:=fo Tryz.func117 Z H
def F_edge_Edges_none (a:OA)(h:Hp)(Q:PQ):Prop:=
(if (isn a)=true then (Q [vB true] h) else
(nilW a fun a1=>∃p2,rP h (ad a1 0) p2 ∧
Q [vB (isn p2)] h))
theorem O_edge_Edges_none (a:OA){h Q}(H:F_edge_Edges_none a h Q):S_edge_Edges_none a h Q:=fo Tryz.func139 Z H
def F_edge_Edges_ends (a:OA)(b c:Int)(h:Hp)(Q:PQ):Prop:=
S_edge_Edges_none a h fun vs1 h2=>
∃b3,vs1=[vB b3] ∧
(if b3=true then
(Q [(vC none 0 0)] h2) else
(nilW a fun a4=>∃r5,rM h2 (ad a4 1) r5 ∧
∃o6 : Obj,IterOf h2 r5 o6∧wth (pu h2 o6) fun h7=>
∀X8:PQ,(∀l9 : Sl,∀h10,((Addr.off (nb h2)=0∧∃o11 : Obj,h10[Addr.block (nb h2)]?=some o11∧IterGood h10 o11 ∧
(IterEnd h10 o11→S_slices_Sort_sint_int ⟨l9.a,l9.n,l9.c⟩ h10 fun vs15 h16=>
vs15=[] ∧
Q [vL l9] h16) ∧
∀(k12 v13 : Value) (o14 : Obj),IterStep h10 o11 k12 v13 o14→wth (sib h10 (Addr.block (nb h2)) o14) fun h17=>
(Addr.off (nb h2)=0∧∃(m18 n19 : Nat) (q20 : Array Nat) (n21 : Nat) (es22 : Array MapEntry) (c23 : Nat) (e24 : MapEntry),h17[Addr.block (nb h2)]?=some (.mapIter (some m18) n19 q20 c23)∧Array.back? q20=some n21∧h17[m18]?=some (.map es22 c23)∧Array.find? (fun x=>x.born==n21) es22=some e24∧∃n25 n26,e24.key=(vA #[vI n25,vI n26])∧∃v27,e24.val=v27∧wth (pu h17 (oc #[vI 0,vI 0] T_2_int)) fun h28=>
stOk h28 (nb h17) 2∧wth (wrs h28 (nb h17) 0 [vI n25,vI n26]) fun h29=>
ixOk c 2 (∃n30,rI h29 (ad (nb h17) (tn c*1)) n30 ∧
(if (n30==b)=true then
(ixOk (wi (1 - c)) 2 (∃n31,rd h29 (ad (nb h17) (tn (wi (1 - c))*1))=some (vI n31) ∧
wth (pu h29 (oc #[vI n31] T_int)) fun h32=>
∃cs35,cellsAt h32 (some (nb h29)) (1*1) cs35∧appS PP T_int 8 1 h32 ⟨l9.a,l9.n,l9.c⟩ 1 cs35 fun l33 h34=>
X8 [vL l33] h34)) else
(X8 [vL l9] h29))))))→X8 [vL l9] h10) →
X8 [(vC none 0 0)] h7))
theorem O_edge_Edges_ends (a:OA)(b c:Int){h Q}(H:F_edge_Edges_ends a b c h Q):S_edge_Edges_ends a b c h Q:=fo' (fun d => if d = 18 then [(.agg [(.int .i64), (.int .i64)]), (.c .any)] else []) Tryz.func88 (R (R (R (L (R (L (.mk none ⟨[1,2,15],[(7,(.c .sl))]⟩ Z Z))))))) H
def F_edge_Edges_In (a:OA)(b:Int)(h:Hp)(Q:PQ):Prop:=
S_edge_Edges_ends a b 1 h fun vs1 h2=>
∃l3 : Sl,vs1=[vL l3] ∧
Q [vL l3] h2
theorem O_edge_Edges_In (a:OA)(b:Int){h Q}(H:F_edge_Edges_In a b h Q):S_edge_Edges_In a b h Q:=fo Tryz.func33 Z H
def F_clog_Log_Reads (a:OA)(b:Int)(h:Hp)(Q:PQ):Prop:=
S_clog_Log_one a b h fun vs1 h2=>
∃n3 n4 n5 b6,vs1=[(vA #[vI n3,vI n4,vI n5,vB b6])] ∧
Q [vB b6] h2
theorem O_clog_Log_Reads (a:OA)(b:Int){h Q}(H:F_clog_Log_Reads a b h Q):S_clog_Log_Reads a b h Q:=fo Tryz.func54 Z H
def F_clog_Log_Csn (a:OA)(b:Int)(h:Hp)(Q:PQ):Prop:=
S_clog_Log_one a b h fun vs1 h2=>
∃n3 n4 n5 b6,vs1=[(vA #[vI n3,vI n4,vI n5,vB b6])] ∧
Q [vI n4] h2
theorem O_clog_Log_Csn (a:OA)(b:Int){h Q}(H:F_clog_Log_Csn a b h Q):S_clog_Log_Csn a b h Q:=fo Tryz.func135 Z H
def F_clog_Log_Snapshot (a:OA)(b:Int)(h:Hp)(Q:PQ):Prop:=
S_clog_Log_one a b h fun vs1 h2=>
∃n3 n4 n5 b6,vs1=[(vA #[vI n3,vI n4,vI n5,vB b6])] ∧
Q [vI n5] h2
theorem O_clog_Log_Snapshot (a:OA)(b:Int){h Q}(H:F_clog_Log_Snapshot a b h Q):S_clog_Log_Snapshot a b h Q:=fo Tryz.func161 Z H
def F_edge_Edges_Out (a:OA)(b:Int)(h:Hp)(Q:PQ):Prop:=
S_edge_Edges_ends a b 0 h fun vs1 h2=>
∃l3 : Sl,vs1=[vL l3] ∧
Q [vL l3] h2
theorem O_edge_Edges_Out (a:OA)(b:Int){h Q}(H:F_edge_Edges_Out a b h Q):S_edge_Edges_Out a b h Q:=fo Tryz.func32 Z H
def F_edge_Edges_first (a:OA)(b:Int)(h:Hp)(Q:PQ):Prop:=
S_edge_Edges_Out a b h fun vs1 h2=>
∃l3 : Sl,vs1=[vL l3] ∧
∀X4:PQ,(∀n5 n6 h7,((if (decide (n6 < (l3.n : Int)))=true then
(∀J8:PQ,(∀n9 h10,(X4 [vI n9,vI (wi (n6+1))] h10)→J8 [vI n9] h10) →
nilW l3.a fun a11=>ixOk n6 l3.n (∃n12,rI h7 (ad a11 (tn n6*1)) n12 ∧
nilW a fun a13=>∃p14,rP h7 (ad a13 0) p14 ∧
S_clog_Log_Csn p14 n12 h7 fun vs15 h16=>
∃n17,vs15=[vI n17] ∧
∀J18:PQ,(∀b19 h20,((if b19=true then
(J8 [vI n5] h20) else
(∀J21:PQ,(∀b22 h23,((if b22=true then
(J8 [vI n17] h23) else
(J8 [vI n5] h23)))→J21 [vB b22] h23) →
(if (n5==0)=true then (J21 [vB true] h20) else
(J21 [vB (decide (n17 < n5))] h20)))))→J18 [vB b19] h20) →
(if (n17==0)=true then (J18 [vB true] h16) else
(nilW a fun a24=>∃p25,rP h16 (ad a24 0) p25 ∧
S_clog_Log_Csn p25 b h16 fun vs26 h27=>
∃n28,vs26=[vI n28] ∧
(if (n28 != 0)=true then (nilW a fun a29=>∃p30,rP h27 (ad a29 0) p30 ∧
S_clog_Log_Csn p30 b h27 fun vs31 h32=>
∃n33,vs31=[vI n33] ∧
J18 [vB (decide (n33≤n17))] h32) else
(J18 [vB false] h27)))))) else
(Q [vI n5] h7)))→X4 [vI n5,vI n6] h7) →
X4 [vI 0,vI 0] h2
theorem O_edge_Edges_first (a:OA)(b:Int){h Q}(H:F_edge_Edges_first a b h Q):S_edge_Edges_first a b h Q:=fo Tryz.func187 (R (L (R (R (L (R (L (.mk none ⟨[0,1,11,12],[(5,(.c (.int .i64))),(13,(.c (.int .i64)))]⟩ (R (R (L (.mk (some ⟨[0,1,11,12,13],[(5,(.c (.int .i64)))]⟩) E (R (R (N (L (.mk (some ⟨[0,1,5,8,11,12,13],[(43,(.c .bool))]⟩) E Z Z)) (L (.mk (some ⟨[0,1,5,8,11,12,13],[(50,(.c .bool))]⟩) E Z Z))))) Z)))) Z)))))))) H
def F_edge_Edges_Spoilt (a:OA)(b:Int)(h:Hp)(Q:PQ):Prop:=
∀J1:PQ,(∀b2 h3,((if b2=true then
(Q [(vC none 0 0),vB false] h3) else
(S_edge_Edges_first a b h3 fun vs4 h5=>
∃n6,vs4=[vI n6] ∧
(if (n6==0)=true then
(Q [(vC none 0 0),vB false] h5) else
(nilW a fun a7=>∃r8,rM h5 (ad a7 2) r8 ∧
∃es9,mapAt h5 r8 es9∧KeysLike (vI b) es9∧∃n10,mgetD (vI b) es9 (vI 0)=(vI n10) ∧
S_edge_Edges_In a b h5 fun vs12 h13=>
∃l14 : Sl,vs12=[vL l14] ∧
∀X15:PQ,(∀l16 : Sl,∀b17 n18 h19,((if (decide (n18 < (l14.n : Int)))=true then
(∀J20:PQ,(∀l21 : Sl,∀b22 h23,(X15 [vL l21,vB b22,vI (wi (n18+1))] h23)→J20 [vL l21,vB b22] h23) →
nilW l14.a fun a24=>ixOk n18 l14.n (∃n25,rI h19 (ad a24 (tn n18*1)) n25 ∧
nilW a fun a26=>∃p27,rP h19 (ad a26 0) p27 ∧
S_clog_Log_State p27 n25 h19 fun vs28 h29=>
∃n30,vs28=[vI n30] ∧
∀J31:PQ,(∀l32 : Sl,∀h33,(J20 [vL l32,vB true] h33)→J31 [vL l32] h33) →
∀J34:PQ,(∀b35 h36,((if b35=true then
(J20 [vL l16,vB b17] h36) else
(∀J37:PQ,(∀b38 h39,((if b38=true then
(J20 [vL l16,vB b17] h39) else
((if (n30==1)=true then
(wth (pu h39 (oc #[vI n25] T_int)) fun h40=>
∃cs43,cellsAt h40 (some (nb h39)) (1*1) cs43∧appS PP T_int 8 1 h40 ⟨l16.a,l16.n,l16.c⟩ 1 cs43 fun l41 h42=>
J31 [vL l41] h42) else
(J31 [vL l16] h39)))))→J37 [vB b38] h39) →
nilW a fun a44=>∃p45,rP h36 (ad a44 0) p45 ∧
S_clog_Log_Reads p45 n25 h36 fun vs46 h47=>
∃b48,vs46=[vB b48] ∧
(if b48=true then (nilW a fun a49=>∃p50,rP h47 (ad a49 0) p50 ∧
S_clog_Log_Snapshot p50 n25 h47 fun vs51 h52=>
∃n53,vs51=[vI n53] ∧
J37 [vB (decide (n53 < n6))] h52) else
(J37 [vB false] h47)))))→J34 [vB b35] h36) →
(if (n30==3)=true then (J34 [vB true] h29) else
((if (n30==2)=true then (nilW a fun a54=>∃p55,rP h29 (ad a54 0) p55 ∧
S_clog_Log_Csn p55 n25 h29 fun vs56 h57=>
∃n58,vs56=[vI n58] ∧
J34 [vB (decide (n58 < n6))] h57) else
(J34 [vB false] h29)))))) else
(Q [vL l16,vB b17] h19)))→X15 [vL l16,vB b17,vI n18] h19) →
X15 [(vC none 0 0),vB (decide (n10 ≥ n6)),vI 0] h13)))))→J1 [vB b2] h3) →
S_edge_Edges_none a h fun vs59 h60=>
∃b61,vs59=[vB b61] ∧
(if b61=true then (J1 [vB true] h60) else
(nilW a fun a62=>∃p63,rP h60 (ad a62 0) p63 ∧
S_clog_Log_State p63 b h60 fun vs64 h65=>
∃n66,vs64=[vI n66] ∧
J1 [vB (n66==3)] h65))
theorem O_edge_Edges_Spoilt (a:OA)(b:Int){h Q}(H:F_edge_Edges_Spoilt a b h Q):S_edge_Edges_Spoilt a b h Q:=fo Tryz.func162 (R (L (N (L (.mk (some ⟨[0,1,4],[(20,(.c .bool))]⟩) E Z Z)) (R (R (R (R (L (R (L (.mk none ⟨[0,6,36,37],[(4,(.c .sl)),(5,(.c .bool)),(38,(.c (.int .i64)))]⟩ (R (R (L (.mk (some ⟨[0,6,36,37,38],[(4,(.c .sl)),(5,(.c .bool))]⟩) E (R (L (R (.mk (some ⟨[0,6,36,37,38],[(4,(.c .sl))]⟩) E (N (.mk (some ⟨[0,4,5,6,8,9,36,37,38],[(48,(.c .bool))]⟩) E Z Z) (R (L (.mk (some ⟨[0,4,5,6,8,9,36,37,38],[(65,(.c .bool))]⟩) E Z Z)))) Z)))) Z)))) Z))))))))))) H
def F_ssi_Ssi_look (a:OA)(b:Int)(h:Hp)(Q:PQ):Prop:=
nilW a fun a1=>∃p2,rP h (ad a1 2) p2 ∧
S_edge_Edges_Spoilt p2 b h fun vs3 h4=>
∃l5 : Sl,∃b6,vs3=[vL l5,vB b6] ∧
(if (!b6)=true then
(Q [] h4) else
(S_ssi_Ssi_runs a b h4 fun vs7 h8=>
∃b9,vs7=[vB b9] ∧
∀J10:PQ,(∀l11 : Sl,∀h12,(∀X13:PQ,(∀n14 h15,((if (decide (n14 < (l11.n : Int)))=true then
(nilW l11.a fun a16=>ixOk n14 l11.n (∃n17,rI h15 (ad a16 (tn n14*1)) n17 ∧
nilW a fun a18=>∃r19,rM h15 (ad a18 5) r19 ∧
∃es20,mapAt h15 r19 es20∧KeysLike (vI n17) es20∧∃n21,mgetD (vI n17) es20 (vI 0)=(vI n21) ∧
∃m23 es24 c25,r19=some m23∧h15[m23]?=some (.map es24 c25)∧KeysLike (vI n17) es24∧wth (sib h15 m23 (mput (vI n17) (vI (wi (n21+1))) es24 c25)) fun h26=>
X13 [vI (wi (n14+1))] h26)) else
(Q [] h15)))→X13 [vI n14] h15) →
X13 [vI 0] h12)→J10 [vL l11] h12) →
(if b9=true then
(wth (pu h8 (oc #[vI b] T_int)) fun h27=>
J10 [(vC (some (nb h8)) 1 1)] h27) else
(J10 [vL l5] h8))))
theorem O_ssi_Ssi_look (a:OA)(b:Int){h Q}(H:F_ssi_Ssi_look a b h Q):S_ssi_Ssi_look a b h Q:=fo Tryz.func121 (R (R (N (R (.mk (some ⟨[0],[(4,(.c .sl))]⟩) E Z Z)) (R (L (.mk none ⟨[0,24,25],[(26,(.c (.int .i64)))]⟩ Z Z)))))) H
def F_clog_Log_Sees (a:OA)(b c:Int)(h:Hp)(Q:PQ):Prop:=
S_clog_Log_get a b h fun vs1 h2=>
∃p3,vs1=[vP p3] ∧
S_clog_Log_get a c h2 fun vs4 h5=>
∃p6,vs4=[vP p6] ∧
∀J7:PQ,(∀b8 h9,((if b8=true then
(Q [vB false] h9) else
((if (b==c)=true then (Q [vB true] h9) else
(nilW p6 fun a10=>∃n11,rI h9 (ad a10 0) n11 ∧
(if (n11==2)=true then (nilW p6 fun a12=>∃n13,rI h9 (ad a12 1) n13 ∧
nilW p3 fun a14=>∃n15,rI h9 (ad a14 2) n15 ∧
Q [vB (decide (n13≤n15))] h9) else
(Q [vB false] h9)))))))→J7 [vB b8] h9) →
(if (isn p3)=true then (J7 [vB true] h5) else
(J7 [vB (isn p6)] h5))
theorem O_clog_Log_Sees (a:OA)(b c:Int){h Q}(H:F_clog_Log_Sees a b c h Q):S_clog_Log_Sees a b c h Q:=fo Tryz.func92 (R (R (L (L (.mk (some ⟨[1,2,7,8],[(20,(.c .bool))]⟩) E Z Z))))) H
def F_clog_Log_Beside (a:OA)(b c:Int)(h:Hp)(Q:PQ):Prop:=
S_clog_Log_get a b h fun vs1 h2=>
∃p3,vs1=[vP p3] ∧
S_clog_Log_get a c h2 fun vs4 h5=>
∃p6,vs4=[vP p6] ∧
∀J7:PQ,(∀b8 h9,((if b8=true then
(Q [vB false] h9) else
(S_clog_Log_Sees a b c h9 fun vs10 h11=>
∃b12,vs10=[vB b12] ∧
(if (!b12)=true then (S_clog_Log_Sees a c b h11 fun vs13 h14=>
∃b15,vs13=[vB b15] ∧
Q [vB (!b15)] h14) else
(Q [vB false] h11)))))→J7 [vB b8] h9) →
(if (isn p3)=true then (J7 [vB true] h5) else
((if (isn p6)=true then (J7 [vB true] h5) else
((if (b==c)=true then (J7 [vB true] h5) else
(nilW p3 fun a16=>∃n17,rI h5 (ad a16 0) n17 ∧
(if (n17==3)=true then (J7 [vB true] h5) else
(nilW p6 fun a18=>∃n19,rI h5 (ad a18 0) n19 ∧
J7 [vB (n19==3)] h5))))))))
theorem O_clog_Log_Beside (a:OA)(b c:Int){h Q}(H:F_clog_Log_Beside a b c h Q):S_clog_Log_Beside a b c h Q:=fo Tryz.func186 (R (R (L (L (.mk (some ⟨[0,1,2],[(39,(.c .bool))]⟩) E Z Z))))) H
end Go.Lift
namespace Go.Lift
open Go Go.Proofs Cmp
set_option maxRecDepth 100000
def F_edge_Edges_Add (a:OA)(b c:Int)(h:Hp)(Q:PQ):Prop:=
∀J1:PQ,(∀b2 h3,((if b2=true then
(Q [vB false] h3) else
(nilW a fun a4=>∃r5,rM h3 (ad a4 1) r5 ∧
∃es6,mapAt h3 r5 es6∧KeysLike (vA #[vI b,vI c]) es6∧∃n7,mgetD (vA #[vI b,vI c]) es6 (vI 0)=(vI n7) ∧
∃m9 es10 c11,r5=some m9∧h3[m9]?=some (.map es10 c11)∧KeysLike (vA #[vI b,vI c]) es10∧∃n12,(ment (vA #[vI b,vI c]) es10 c11 (vI 0)).1=(vI n12)∧wth (sib h3 m9 (ment (vA #[vI b,vI c]) es10 c11 (vI 0)).2.2) fun h13=>
(∃es8,mapAt h13 r5 es8∧KeysLike (vA #[vI b,vI c]) es8∧mgetD (vA #[vI b,vI c]) es8 (vI 0)=(vI n7))∧∃(m14 : Nat) (es15 : Array MapEntry) (c16 : Nat) (es17 : Array MapEntry),r5=some m14∧h13[m14]?=some (.map es15 c16)∧msto (vI (wi (n7+1))) ((ment (vA #[vI b,vI c]) es10 c11 (vI 0)).2.1 : Int) es15=some es17∧wth (sib h13 m14 (.map es17 c16)) fun h18=>
Q [vB true] h18)))→J1 [vB b2] h3) →
S_edge_Edges_none a h fun vs19 h20=>
∃b21,vs19=[vB b21] ∧
(if b21=true then (J1 [vB true] h20) else
(nilW a fun a22=>∃p23,rP h20 (ad a22 0) p23 ∧
S_clog_Log_Beside p23 b c h20 fun vs24 h25=>
∃b26,vs24=[vB b26] ∧
(if (!b26)=true then (J1 [vB true] h25) else
(nilW a fun a27=>∃r28,rM h25 (ad a27 1) r28 ∧
∃es29,mapAt h25 r28 es29∧KeysLike (vA #[vI b,vI c]) es29∧∃n30,mgetD (vA #[vI b,vI c]) es29 (vI 0)=(vI n30) ∧
J1 [vB (decide (n30 > 0))] h25))))
theorem O_edge_Edges_Add (a:OA)(b c:Int){h Q}(H:F_edge_Edges_Add a b c h Q):S_edge_Edges_Add a b c h Q:=fo Tryz.func160 (R (L (L (.mk (some ⟨[0,1,2],[(29,(.c .bool))]⟩) E Z Z)))) H
def F_ssi_Ssi_behind (a:OA)(b c:Int)(h:Hp)(Q:PQ):Prop:=
nilW a fun a1=>∃p2,rP h (ad a1 2) p2 ∧
S_edge_Edges_Add p2 b c h fun vs3 h4=>
∃b5,vs3=[vB b5] ∧
(if b5=true then
(S_ssi_Ssi_look a c h4 fun vs6 h7=>
vs6=[] ∧
S_ssi_Ssi_look a b h7 fun vs8 h9=>
vs8=[] ∧
Q [] h9) else
(Q [] h4))
theorem O_ssi_Ssi_behind (a:OA)(b c:Int){h Q}(H:F_ssi_Ssi_behind a b c h Q):S_ssi_Ssi_behind a b c h Q:=fo Tryz.func118 Z H
def F_edge_Edges_OldIn (a:OA)(b c:Int)(h:Hp)(Q:PQ):Prop:=
∀J1:PQ,(∀b2 h3,((if b2=true then
(Q [vB false] h3) else
(nilW a fun a4=>∃r5,rM h3 (ad a4 2) r5 ∧
∃m6 es7 c8,r5=some m6∧h3[m6]?=some (.map es7 c8)∧KeysLike (vI b) es7∧wth (sib h3 m6 (mput (vI b) (vI c) es7 c8)) fun h9=>
Q [vB true] h9)))→J1 [vB b2] h3) →
S_edge_Edges_none a h fun vs10 h11=>
∃b12,vs10=[vB b12] ∧
(if b12=true then (J1 [vB true] h11) else
(nilW a fun a13=>∃p14,rP h11 (ad a13 0) p14 ∧
S_clog_Log_State p14 b h11 fun vs15 h16=>
∃n17,vs15=[vI n17] ∧
(if (n17==0)=true then (J1 [vB true] h16) else
(nilW a fun a18=>∃p19,rP h16 (ad a18 0) p19 ∧
S_clog_Log_State p19 b h16 fun vs20 h21=>
∃n22,vs20=[vI n22] ∧
(if (n22==3)=true then (J1 [vB true] h21) else
(nilW a fun a23=>∃p24,rP h21 (ad a23 0) p24 ∧
S_clog_Log_Snapshot p24 b h21 fun vs25 h26=>
∃n27,vs25=[vI n27] ∧
(if (decide (c≤n27))=true then (J1 [vB true] h26) else
(nilW a fun a28=>∃r29,rM h26 (ad a28 2) r29 ∧
∃es30,mapAt h26 r29 es30∧KeysLike (vI b) es30∧∃n31,mgetD (vI b) es30 (vI 0)=(vI n31) ∧
J1 [vB (decide (c≤n31))] h26))))))))
theorem O_edge_Edges_OldIn (a:OA)(b c:Int){h Q}(H:F_edge_Edges_OldIn a b c h Q):S_edge_Edges_OldIn a b c h Q:=fo Tryz.func119 (R (L (L (.mk (some ⟨[0,1,2],[(46,(.c .bool))]⟩) E Z Z)))) H
def F_siread_Table_Old (a:OA)(h:Hp)(Q:PQ):Prop:=
(if (isn a)=true then
(Q [vI 0] h) else
(nilW a fun a1=>∃n2,rI h (ad a1 4) n2 ∧
Q [vI n2] h))
theorem O_siread_Table_Old (a:OA){h Q}(H:F_siread_Table_Old a h Q):S_siread_Table_Old a h Q:=fo Tryz.func120 Z H
def F_ssi_Ssi_Wrote (a:OA)(b c:Int)(d:BA)(e:Int)(f:BA)(g:Int)(h:Hp)(Q:PQ):Prop:=
wth (pu h (oc #[vI c,vS d,vI e,vS f,vI g] T_siread_Thing)) fun h1=>
S_ssi_Ssi_runs a b h1 fun vs2 h3=>
∃b4,vs2=[vB b4] ∧
(if (!b4)=true then
(Q [] h3) else
(nilW a fun a5=>∃p6,rP h3 (ad a5 1) p6 ∧
∃n7,rI h3 (ad (nb h) 0) n7∧∃s8,rS h3 (ad (nb h) 1) s8∧∃n9,rI h3 (ad (nb h) 2) n9∧∃s10,rS h3 (ad (nb h) 3) s10∧∃n11,rI h3 (ad (nb h) 4) n11∧S_siread_Table_Owners p6 n7 s8 n9 s10 n11 h3 fun vs12 h13=>
∃l14 : Sl,vs12=[vL l14] ∧
∀X15:PQ,(∀n16 h17,((if (decide (n16 < (l14.n : Int)))=true then
(∀J18:PQ,(∀h19,(X15 [vI (wi (n16+1))] h19)→J18 [] h19) →
nilW l14.a fun a20=>ixOk n16 l14.n (∃n21,rI h17 (ad a20 (tn n16*1)) n21 ∧
(if (n21==b)=true then
(J18 [] h17) else
((if (decide (n21 > 0))=true then
(S_ssi_Ssi_behind a n21 b h17 fun vs22 h23=>
vs22=[] ∧
J18 [] h23) else
(nilW a fun a24=>∃p25,rP h17 (ad a24 2) p25 ∧
nilW a fun a26=>∃p27,rP h17 (ad a26 1) p27 ∧
S_siread_Table_Old p27 h17 fun vs28 h29=>
∃n30,vs28=[vI n30] ∧
rP h29 (ad a24 2) p25∧S_edge_Edges_OldIn p25 b n30 h29 fun vs31 h32=>
∃b33,vs31=[vB b33] ∧
(if b33=true then
(S_ssi_Ssi_look a b h32 fun vs34 h35=>
vs34=[] ∧
J18 [] h35) else
(J18 [] h32)))))))) else
(Q [] h17)))→X15 [vI n16] h17) →
X15 [vI 0] h13))
theorem O_ssi_Ssi_Wrote (a:OA)(b c:Int)(d:BA)(e:Int)(f:BA)(g:Int){h Q}(H:F_ssi_Ssi_Wrote a b c d e f g h Q):S_ssi_Ssi_Wrote a b c d e f g h Q:=fo Tryz.func74 (R (L (R (R (R (L (.mk none ⟨[0,1,17,18],[(19,(.c (.int .i64)))]⟩ (R (R (L (.mk (some ⟨[0,1,17,18,19],[]⟩) E Z Z)))) Z))))))) H
def F_table_Store_Put (a:OA)(b c:Int)(d e:Sl)(h:Hp)(Q:PQ):Prop:=
S_table_Store_rel a c h fun vs1 h2=>
∃p3,vs1=[vP p3] ∧
(if (isn p3)=true then
(Q [vI 0,vI 1] h2) else
(nilW p3 fun a4=>∃p5,rP h2 (ad a4 0) p5 ∧
S_heap_Rel_Insert p5 b ⟨d.a,d.n,d.c⟩ h2 fun vs6 h7=>
∃n8 n9,vs6=[vI n8,vI n9] ∧
(if (n9 != 0)=true then
(Q [vI 0,vI n9] h7) else
(S_table_Store_standing a c h7 fun vs10 h11=>
∃l12 : Sl,vs10=[vL l12] ∧
∀X13:PQ,(∀n14 h15,((if (decide (n14 < (l12.n : Int)))=true then
(∀J16:PQ,(∀h17,(X13 [vI (wi (n14+1))] h17)→J16 [] h17) →
nilW l12.a fun a18=>ixOk n14 l12.n (∃p19,rP h15 (ad a18 (tn n14*1)) p19 ∧
∀J20:PQ,(∀n21,∀a22 : Addr,∀n23 h24,((if (n23 != 0)=true then
(J16 [] h24) else
(∃n25,rI h24 (ad a22 0) n25∧∃n26,rI h24 (ad a22 1) n26∧∀J27:PQ,(∀h28,(nilW a fun a29=>∃p30,rP h28 (ad a29 3) p30 ∧
S_table_thing c p19 n21 h28 fun vs31 h32=>
∃n33 s34 n35 s36 n37,vs31=[(vA #[vI n33,vS s34,vI n35,vS s36,vI n37])] ∧
rP h32 (ad a29 3) p30∧S_ssi_Ssi_Wrote p30 b n33 s34 n35 s36 n37 h32 fun vs38 h39=>
vs38=[] ∧
J16 [] h39)→J27 [] h28) →
(if (!(n25==0 && (n26==0 && true)))=true then
(nilW a fun a40=>∃p41,rP h24 (ad a40 3) p41 ∧
∃n42,rI h24 (ad a22 0) n42 ∧
∃n43,rI h24 (ad a22 1) n43 ∧
S_ssi_Ssi_Table p41 h24 fun vs44 h45=>
∃p46,vs44=[vP p46] ∧
rI h45 (ad a22 1) n43∧rI h45 (ad a22 0) n42∧S_table_thing c p19 n42 h45 fun vs47 h48=>
∃n49 s50 n51 s52 n53,vs47=[(vA #[vI n49,vS s50,vI n51,vS s52,vI n53])] ∧
rI h48 (ad a22 1) n43∧S_table_thing c p19 n43 h48 fun vs54 h55=>
∃n56 s57 n58 s59 n60,vs54=[(vA #[vI n56,vS s57,vI n58,vS s59,vI n60])] ∧
S_siread_Table_Copy p46 n49 s50 n51 s52 n53 n56 s57 n58 s59 n60 h55 fun vs61 h62=>
vs61=[] ∧
J27 [] h62) else
(J27 [] h24)))))→J20 [vI n21,vP (some a22),vI n23] h24) →
nilW p19 fun a63=>∃p64,rP h15 (ad a63 6) p64 ∧
(S_table_entries_of p19 ⟨d.a,d.n,d.c⟩ ⟨e.a,e.n,e.c⟩ h15 fun vs65 h66=>
∃n67 n68 x69 s70,vs65=[(vA #[vI n67,vI n68,(Value.float .f64 x69),vS s70])] ∧
rP h66 (ad a63 6) p64∧(S_index_Index_Add p64 n67 n68 x69 s70 n8 h66 fun vs71 h72=>
∃n73 n74 n75 n76,vs71=[vI n73,(vA #[vI n74,vI n75]),vI n76] ∧
wth (pu h72 (oc #[vI 0,vI 0] T_leaf_Move)) fun h77=>
stOk h77 (nb h72) 2∧wth (wrs h77 (nb h72) 0 [vI n74,vI n75]) fun h78=>
J20 [vI n73,vP (some (nb h72)),vI n76] h78) ∧
(wth (pu h66 (oc #[vI 0,vI 0] T_leaf_Move)) fun h79=>
rP h79 (ad a63 6) p64∧S_index_Index_Add p64 n67 n68 x69 s70 n8 h79 fun vs80 h81=>
∃n82 n83 n84 n85,vs80=[vI n82,(vA #[vI n83,vI n84]),vI n85] ∧
stOk h81 (nb h66) 2∧wth (wrs h81 (nb h66) 0 [vI n83,vI n84]) fun h86=>
J20 [vI n82,vP (some (nb h66)),vI n85] h86)) ∧
(wth (pu h15 (oc #[vI 0,vI 0] T_leaf_Move)) fun h87=>
rP h87 (ad a63 6) p64∧S_table_entries_of p19 ⟨d.a,d.n,d.c⟩ ⟨e.a,e.n,e.c⟩ h87 fun vs88 h89=>
∃n90 n91 x92 s93,vs88=[(vA #[vI n90,vI n91,(Value.float .f64 x92),vS s93])] ∧
rP h89 (ad a63 6) p64∧S_index_Index_Add p64 n90 n91 x92 s93 n8 h89 fun vs94 h95=>
∃n96 n97 n98 n99,vs94=[vI n96,(vA #[vI n97,vI n98]),vI n99] ∧
stOk h95 (nb h15) 2∧wth (wrs h95 (nb h15) 0 [vI n97,vI n98]) fun h100=>
J20 [vI n96,vP (some (nb h15)),vI n99] h100))) else
(nilW a fun a101=>∃p102,rP h15 (ad a101 3) p102 ∧
S_ssi_Ssi_Wrote p102 b 2 (ByteArray.mk #[]) c (ByteArray.mk #[]) 0 h15 fun vs103 h104=>
vs103=[] ∧
Q [vI n8,vI 0] h104)))→X13 [vI n14] h15) →
X13 [vI 0] h11))))
theorem O_table_Store_Put (a:OA)(b c:Int)(d e:Sl){h Q}(H:F_table_Store_Put a b c d e h Q):S_table_Store_Put a b c d e h Q:=fo Tryz.func19 (R (L (R (R (R (R (R (L (R (L (.mk none ⟨[0,1,2,3,4,13,40,41],[(42,(.c (.int .i64)))]⟩ (R (R (L (.mk (some ⟨[0,1,2,3,4,13,40,41,42],[]⟩) E (R (N (.mk (some ⟨[0,1,2,3,4,13,16,40,41,42],[(17,(.c (.int .i64))),(18,(.c .adr)),(19,(.c (.int .i64)))]⟩) E Z Z) (R (L (R (.mk (some ⟨[0,1,2,3,4,13,16,17,40,41,42],[]⟩) E Z Z)))))) Z)))) Z))))))))))) H
def F_key_Least (a b:Int)(c:Nat)(d:BA)(h:Hp)(Q:PQ):Prop:=
wth (pu h (oc #[vI a,vI b,(Value.float .f64 c),vS d] T_api_Value)) fun h1=>
∃n2,rI h1 (ad (nb h) 0) n2∧∃n3,rI h1 (ad (nb h) 1) n3∧∃x4,rd h1 (ad (nb h) 2)=some (Value.float .f64 x4)∧∃s5,rS h1 (ad (nb h) 3) s5∧S_key_Entry n2 n3 x4 s5 0 h1 fun vs6 h7=>
∃s8 n9,vs6=[vS s8,vI n9] ∧
Q [vS s8,vI n9] h7
theorem O_key_Least (a b:Int)(c:Nat)(d:BA){h Q}(H:F_key_Least a b c d h Q):S_key_Least a b c d h Q:=fo Tryz.func125 Z H
def F_key_After (a b:Int)(c:Nat)(d:BA)(h:Hp)(Q:PQ):Prop:=
wth (pu h (oc #[vI a,vI b,(Value.float .f64 c),vS d] T_api_Value)) fun h1=>
∃n2,rI h1 (ad (nb h) 0) n2∧∃n3,rI h1 (ad (nb h) 1) n3∧∃x4,rd h1 (ad (nb h) 2)=some (Value.float .f64 x4)∧∃s5,rS h1 (ad (nb h) 3) s5∧S_key_Entry n2 n3 x4 s5 65535 h1 fun vs6 h7=>
∃s8 n9,vs6=[vS s8,vI n9] ∧
(if (n9 != 0)=true then
(Q [vS (ByteArray.mk #[]),vI n9] h7) else
(wth (pu h7 (oc #[vS s8,vS (ByteArray.mk #[0])] T_string)) fun h10=>
S_key_joined ⟨(some (nb h7)),2,2⟩ h10 fun vs11 h12=>
∃s13,vs11=[vS s13] ∧
Q [vS s13,vI 0] h12))
theorem O_key_After (a b:Int)(c:Nat)(d:BA){h Q}(H:F_key_After a b c d h Q):S_key_After a b c d h Q:=fo Tryz.func126 Z H
def F_index_Index_Find (a:OA)(b c:Int)(d:Nat)(e:BA)(h:Hp)(Q:PQ):Prop:=
wth (pu h (oc #[vI b,vI c,(Value.float .f64 d),vS e] T_api_Value)) fun h1=>
∃n2,rI h1 (ad (nb h) 0) n2∧∃n3,rI h1 (ad (nb h) 1) n3∧∃x4,rd h1 (ad (nb h) 2)=some (Value.float .f64 x4)∧∃s5,rS h1 (ad (nb h) 3) s5∧S_key_Least n2 n3 x4 s5 h1 fun vs6 h7=>
∃s8 n9,vs6=[vS s8,vI n9] ∧
∃n10,rI h7 (ad (nb h) 0) n10∧∃n11,rI h7 (ad (nb h) 1) n11∧∃x12,rd h7 (ad (nb h) 2)=some (Value.float .f64 x12)∧∃s13,rS h7 (ad (nb h) 3) s13∧S_key_After n10 n11 x12 s13 h7 fun vs14 h15=>
∃s16 n17,vs14=[vS s16,vI n17] ∧
∀J18:PQ,(∀b19 h20,((if b19=true then
(Q [(vC none 0 0),(vC none 0 0)] h20) else
(S_index_Index_between a s8 s16 h20 fun vs21 h22=>
∃l23 : Sl,∃l24 : Sl,vs21=[vL l23,vL l24] ∧
Q [vL l23,vL l24] h22)))→J18 [vB b19] h20) →
(if (isn a)=true then (J18 [vB true] h15) else
((if (n9 != 0)=true then (J18 [vB true] h15) else
(J18 [vB (n17 != 0)] h15))))
theorem O_index_Index_Find (a:OA)(b c:Int)(d:Nat)(e:BA){h Q}(H:F_index_Index_Find a b c d e h Q):S_index_Index_Find a b c d e h Q:=fo Tryz.func77 (R (R (R (L (L (.mk (some ⟨[0,6,8],[(29,(.c .bool))]⟩) E Z Z)))))) H
def F_table_Store_Find (a:OA)(b:Int)(c:BA)(d e:Int)(f:Nat)(g:BA)(h:Hp)(Q:PQ):Prop:=
wth (pu h (oc #[vI d,vI e,(Value.float .f64 f),vS g] T_api_Value)) fun h1=>
S_table_Store_get a b c h1 fun vs2 h3=>
∃p4,vs2=[vP p4] ∧
(if (isn p4)=true then
(Q [(vC none 0 0),(vC none 0 0)] h3) else
(nilW p4 fun a5=>∃p6,rP h3 (ad a5 6) p6 ∧
∃n7,rI h3 (ad (nb h) 0) n7∧∃n8,rI h3 (ad (nb h) 1) n8∧∃x9,rd h3 (ad (nb h) 2)=some (Value.float .f64 x9)∧∃s10,rS h3 (ad (nb h) 3) s10∧S_index_Index_Find p6 n7 n8 x9 s10 h3 fun vs11 h12=>
∃l13 : Sl,∃l14 : Sl,vs11=[vL l13,vL l14] ∧
Q [vL l13,vL l14] h12))
theorem O_table_Store_Find (a:OA)(b:Int)(c:BA)(d e:Int)(f:Nat)(g:BA){h Q}(H:F_table_Store_Find a b c d e f g h Q):S_table_Store_Find a b c d e f g h Q:=fo Tryz.func24 Z H
def F_liverylaw19_one (h:Hp)(Q:PQ):Prop:=
wth (pu h (oc #[vS (ByteArray.mk #[97]),vI 2,vB false,vI 0,vI 0,(Value.float .f64 0),vS (ByteArray.mk #[])] T_api_Column)) fun h1=>
Q [(vC (some (nb h)) 1 1)] h1
theorem O_liverylaw19_one {h Q}(H:F_liverylaw19_one h Q):S_liverylaw19_one h Q:=fo Tryz.func28 Z H
def F_table_Store_Indexes (a:OA)(b:Int)(h:Hp)(Q:PQ):Prop:=
S_table_Store_standing a b h fun vs1 h2=>
∃l3 : Sl,vs1=[vL l3] ∧
∀X4:PQ,(∀l5 : Sl,∀n6 h7,((if (decide (n6 < (l3.n : Int)))=true then
(nilW l3.a fun a8=>ixOk n6 l3.n (∃p9,rP h7 (ad a8 (tn n6*1)) p9 ∧
nilW p9 fun a10=>∃s11,rS h7 (ad (ad a10 0) 0) s11∧∃s12,rS h7 (ad (ad a10 0) 1) s12∧∃b13,rB h7 (ad (ad a10 0) 2) b13∧∃n14,rI h7 (ad (ad a10 0) 3) n14∧∃n15,rI h7 (ad (ad a10 0) 4) n15∧∃n16,rI h7 (ad (ad a10 0) 5) n16∧wth (pu h7 (oc #[vS s11,vS s12,vB b13,vI n14,vI n15,vI n16] T_table_Index)) fun h17=>
∃cs20,cellsAt h17 (some (nb h7)) (1*6) cs20∧appS PP T_table_Index 64 6 h17 ⟨l5.a,l5.n,l5.c⟩ 1 cs20 fun l18 h19=>
X4 [vL l18,vI (wi (n6+1))] h19)) else
(Q [vL l5] h7)))→X4 [vL l5,vI n6] h7) →
X4 [(vC none 0 0),vI 0] h2
theorem O_table_Store_Indexes (a:OA)(b:Int){h Q}(H:F_table_Store_Indexes a b h Q):S_table_Store_Indexes a b h Q:=fo Tryz.func22 (R (R (L (R (L (.mk none ⟨[10,11],[(5,(.c .sl)),(12,(.c (.int .i64)))]⟩ Z Z)))))) H
def F_slices_IndexFunc_stable_Index_table_Index (a:Sl)(b:Nat)(c:AV)(h:Hp)(Q:PQ):Prop:=
∀X1:PQ,(∀n2 h3,((if (decide (n2 < (a.n : Int)))=true then
(nilW a.a fun a4=>ixOk n2 a.n (∃s5,rS h3 (ad (ad a4 (tn n2*6)) 0) s5∧∃s6,rS h3 (ad (ad a4 (tn n2*6)) 1) s6∧∃b7,rB h3 (ad (ad a4 (tn n2*6)) 2) b7∧∃n8,rI h3 (ad (ad a4 (tn n2*6)) 3) n8∧∃n9,rI h3 (ad (ad a4 (tn n2*6)) 4) n9∧∃n10,rI h3 (ad (ad a4 (tn n2*6)) 5) n10∧Fn PP b ((#[] ++ #[(vA #[vS s5,vS s6,vB b7,vI n8,vI n9,vI n10])]) ++ c) h3 fun vs11 h12=>
∃b13,vs11=[vB b13] ∧
(if b13=true then
(Q [vI n2] h12) else
(X1 [vI (wi (n2+1))] h12)))) else
(Q [vI (-1 : Int)] h3)))→X1 [vI n2] h3) →
X1 [vI 0] h
theorem O_slices_IndexFunc_stable_Index_table_Index (a:Sl)(b:Nat)(c:AV){h Q}(H:F_slices_IndexFunc_stable_Index_table_Index a b c h Q):S_slices_IndexFunc_stable_Index_table_Index a b c h Q:=fo Tryz.func140 (R (L (R (L (.mk none ⟨[0,1,7],[(8,(.c (.int .i64)))]⟩ Z Z))))) H
def F_slices_DeleteFunc_stable_Index_table_Index (a:Sl)(b:Nat)(c:AV)(h:Hp)(Q:PQ):Prop:=
S_slices_IndexFunc_stable_Index_table_Index ⟨a.a,a.n,a.c⟩ b c h fun vs1 h2=>
∃n3,vs1=[vI n3] ∧
(if (n3==(-1 : Int))=true then
(Q [vL a] h2) else
(∀X4:PQ,(∀(n5:Int) (n6:Int) h7,((if (decide (n6 < (a.n : Int)))=true then
(∀J8:PQ,(∀n9 h10,(X4 [vI n9,vI (wi (n6+1))] h10)→J8 [vI n9] h10) →
nilW a.a fun a11=>ixOk n6 a.n (∃s12,rS h7 (ad (ad a11 (tn n6*6)) 0) s12∧∃s13,rS h7 (ad (ad a11 (tn n6*6)) 1) s13∧∃b14,rB h7 (ad (ad a11 (tn n6*6)) 2) b14∧∃n15,rI h7 (ad (ad a11 (tn n6*6)) 3) n15∧∃n16,rI h7 (ad (ad a11 (tn n6*6)) 4) n16∧∃n17,rI h7 (ad (ad a11 (tn n6*6)) 5) n17∧wth (pu h7 (oc #[vS (ByteArray.mk #[]),vS (ByteArray.mk #[]),vB false,vI 0,vI 0,vI 0] T_table_Index)) fun h18=>
stOk h18 (nb h7) 6∧wth (wrs h18 (nb h7) 0 [vS s12,vS s13,vB b14,vI n15,vI n16,vI n17]) fun h19=>
∃s20,rS h19 (ad (nb h7) 0) s20∧∃s21,rS h19 (ad (nb h7) 1) s21∧∃b22,rB h19 (ad (nb h7) 2) b22∧∃n23,rI h19 (ad (nb h7) 3) n23∧∃n24,rI h19 (ad (nb h7) 4) n24∧∃n25,rI h19 (ad (nb h7) 5) n25∧Fn PP b ((#[] ++ #[(vA #[vS s20,vS s21,vB b22,vI n23,vI n24,vI n25])]) ++ c) h19 fun vs26 h27=>
∃b28,vs26=[vB b28] ∧
(if (!b28)=true then
(∃s29,rS h27 (ad (nb h7) 0) s29∧∃s30,rS h27 (ad (nb h7) 1) s30∧∃b31,rB h27 (ad (nb h7) 2) b31∧∃n32,rI h27 (ad (nb h7) 3) n32∧∃n33,rI h27 (ad (nb h7) 4) n33∧∃n34,rI h27 (ad (nb h7) 5) n34∧nilW a.a fun a35=>ixOk n5 a.n (stOk h27 (ad a35 (tn n5*6)) 6∧wth (wrs h27 (ad a35 (tn n5*6)) 0 [vS s29,vS s30,vB b31,vI n32,vI n33,vI n34]) fun h36=>
J8 [vI (wi (n5+1))] h36)) else
(J8 [vI n5] h27)))) else
((0≤n5∧n5≤(a.n : Nat))∧(List.all (Array.toList (zc PP T_table_Index)) oneCell=true∧∀az : Addr,(slAd a.a (tn n5) a.c 6)=some az→stOk h7 az ((a.n - (tn n5))*Array.size (zc PP T_table_Index)))∧wth (cpHp h7 (if (a.n - (tn n5))=0 then none else (slAd a.a (tn n5) a.c 6)) (Array.toList (Builtin.zeroCells (zc PP T_table_Index) (a.n - (tn n5))))) fun h37=>
(0≤n5∧n5≤(a.c : Nat))∧Q [(vC (slAd a.a 0 a.c 6) ((tn n5) - 0) (a.c - 0))] h37)))→X4 [vI n5,vI n6] h7) →
X4 [vI n3,vI (wi (n3+1))] h2))
theorem O_slices_DeleteFunc_stable_Index_table_Index (a:Sl)(b:Nat)(c:AV){h Q}(H:F_slices_DeleteFunc_stable_Index_table_Index a b c h Q):S_slices_DeleteFunc_stable_Index_table_Index a b c h Q:=fo Tryz.func90 (R (R (R (L (R (L (.mk none ⟨[0,1],[(5,(.c (.int .i64))),(6,(.c (.int .i64)))]⟩ (R (L (.mk (some ⟨[0,1,6],[(5,(.c (.int .i64)))]⟩) E Z Z))) Z))))))) H
def F_table_Store_Usable (a:OA)(b c:Int)(h:Hp)(Q:PQ):Prop:=
wth (pu h (oc #[vP a] T_ptable_Store)) fun h1=>
wth (pu h1 (oc #[vI b] T_int)) fun h2=>
∃p3,rP h2 (nb h) p3 ∧
S_table_Store_Indexes p3 c h2 fun vs4 h5=>
∃l6 : Sl,vs4=[vL l6] ∧
S_slices_DeleteFunc_stable_Index_table_Index ⟨l6.a,l6.n,l6.c⟩ 91 #[vP (some (nb h)),vP (some (nb h1))] h5 fun vs7 h8=>
∃l9 : Sl,vs7=[vL l9] ∧
Q [vL l9] h8
theorem O_table_Store_Usable (a:OA)(b c:Int){h Q}(H:F_table_Store_Usable a b c h Q):S_table_Store_Usable a b c h Q:=fo Tryz.func38 Z H
def F_liverykeep_Ints (a b:Sl)(h:Hp)(Q:PQ):Prop:=
(if ((a.n : Int) != (b.n : Int))=true then
(Q [vB false] h) else
(∀X1:PQ,(∀n2 h3,((if (decide (n2 < (a.n : Int)))=true then
(nilW a.a fun a4=>ixOk n2 a.n (∃n5,rI h3 (ad a4 (tn n2*1)) n5 ∧
nilW b.a fun a6=>ixOk n2 b.n (∃n7,rI h3 (ad a6 (tn n2*1)) n7 ∧
(if (n5 != n7)=true then
(Q [vB false] h3) else
(X1 [vI (wi (n2+1))] h3))))) else
(Q [vB true] h3)))→X1 [vI n2] h3) →
X1 [vI 0] h))
theorem O_liverykeep_Ints (a b:Sl){h Q}(H:F_liverykeep_Ints a b h Q):S_liverykeep_Ints a b h Q:=fo Tryz.func50 (R (R (L (R (L (.mk none ⟨[0,1],[(5,(.c (.int .i64)))]⟩ Z Z)))))) H
def F_liverylaw19_wakes (h:Hp)(Q:PQ):Prop:=
S_table_New 9 99 9 4 h fun vs1 h2=>
∃p3 n4,vs1=[vP p3,vI n4] ∧
∀J5:PQ,(∀b6 h7,((if b6=true then
(Q [vB false] h7) else
(S_table_Store_Ssi p3 h7 fun vs8 h9=>
∃p10,vs8=[vP p10] ∧
S_ssi_Ssi_Begin p10 false h9 fun vs11 h12=>
∃n13 n14,vs11=[vI n13,vI n14] ∧
S_table_Store_NewRel p3 h12 fun vs15 h16=>
∃n17 n18,vs15=[vI n17,vI n18] ∧
S_liverylaw19_one  h16 fun vs19 h20=>
∃l21 : Sl,vs19=[vL l21] ∧
S_table_Store_Make p3 n13 n17 (ByteArray.mk #[105]) (ByteArray.mk #[97]) false 3 ⟨l21.a,l21.n,l21.c⟩ h20 fun vs22 h23=>
∃n24,vs22=[vI n24] ∧
S_liverylaw19_num 5 h23 fun vs25 h26=>
∃n27 n28 x29 s30,vs25=[(vA #[vI n27,vI n28,(Value.float .f64 x29),vS s30])] ∧
wth (pu h26 (oc #[vI n27,vI n28,(Value.float .f64 x29),vS s30] T_api_Value)) fun h31=>
S_liverylaw19_one  h31 fun vs32 h33=>
∃l34 : Sl,vs32=[vL l34] ∧
S_table_Store_Put p3 n13 n17 ⟨(some (nb h26)),1,1⟩ ⟨l34.a,l34.n,l34.c⟩ h33 fun vs35 h36=>
∃n37 n38,vs35=[vI n37,vI n38] ∧
S_liverylaw19_num 5 h36 fun vs39 h40=>
∃n41 n42 x43 s44,vs39=[(vA #[vI n41,vI n42,(Value.float .f64 x43),vS s44])] ∧
S_table_Store_Find p3 n17 (ByteArray.mk #[105]) n41 n42 x43 s44 h40 fun vs45 h46=>
∃l47 : Sl,∃l48 : Sl,vs45=[vL l47,vL l48] ∧
(if (n14==0)=true then ((if (n18==0)=true then ((if (n24==0)=true then ((if (n38==0)=true then ((if (n17==1)=true then ((if (n37==0)=true then (wth (pu h46 (oc #[vI 0] T_int)) fun h49=>
S_liverykeep_Ints ⟨l47.a,l47.n,l47.c⟩ ⟨(some (nb h46)),1,1⟩ h49 fun vs50 h51=>
∃b52,vs50=[vB b52] ∧
(if b52=true then (wth (pu h51 (oc #[vI 1] T_int)) fun h53=>
S_liverykeep_Ints ⟨l48.a,l48.n,l48.c⟩ ⟨(some (nb h51)),1,1⟩ h53 fun vs54 h55=>
∃b56,vs54=[vB b56] ∧
(if b56=true then (S_table_Store_Usable p3 n13 n17 h55 fun vs57 h58=>
∃l59 : Sl,vs57=[vL l59] ∧
Q [vB ((l59.n : Int)==1)] h58) else
(Q [vB false] h55))) else
(Q [vB false] h51))) else
(Q [vB false] h46))) else
(Q [vB false] h46))) else
(Q [vB false] h46))) else
(Q [vB false] h46))) else
(Q [vB false] h46))) else
(Q [vB false] h46)))))→J5 [vB b6] h7) →
(if (n4 != 0)=true then (J5 [vB true] h2) else
(J5 [vB (isn p3)] h2))
theorem O_liverylaw19_wakes {h Q}(H:F_liverylaw19_wakes h Q):S_liverylaw19_wakes h Q:=fo Tryz.func9 (R (R (L (L (.mk (some ⟨[1],[(21,(.c .bool))]⟩) E Z Z))))) H
def F_clog_Log_Clock (a:OA)(h:Hp)(Q:PQ):Prop:=
(if (isn a)=true then
(Q [vI 0] h) else
(nilW a fun a1=>∃n2,rI h (ad a1 805) n2 ∧
Q [vI n2] h))
theorem O_clog_Log_Clock (a:OA){h Q}(H:F_clog_Log_Clock a h Q):S_clog_Log_Clock a h Q:=fo Tryz.func171 Z H
def F_clog_Log_Horizon (a:OA)(h:Hp)(Q:PQ):Prop:=
S_clog_Log_Clock a h fun vs1 h2=>
∃n3,vs1=[vI n3] ∧
S_clog_Log_Running a h2 fun vs4 h5=>
∃l6 : Sl,vs4=[vL l6] ∧
∀X7:PQ,(∀n8 n9 h10,((if (decide (n9 < (l6.n : Int)))=true then
(nilW l6.a fun a11=>ixOk n9 l6.n (∃n12,rI h10 (ad a11 (tn n9*1)) n12 ∧
nilW a fun a13=>ixOk n12 201 (∃n14,rI h10 (ad (ad (ad a13 0) (tn n12*4)) 2) n14 ∧
X7 [vI (mnI n8 n14),vI (wi (n9+1))] h10))) else
(Q [vI n8] h10)))→X7 [vI n8,vI n9] h10) →
X7 [vI n3,vI 0] h5
theorem O_clog_Log_Horizon (a:OA){h Q}(H:F_clog_Log_Horizon a h Q):S_clog_Log_Horizon a h Q:=fo Tryz.func136 (R (R (L (R (L (.mk none ⟨[0,9,10],[(3,(.c (.int .i64))),(11,(.c (.int .i64)))]⟩ Z Z)))))) H
def F_liverykeep_Has (a:Sl)(b:Int)(h:Hp)(Q:PQ):Prop:=
∀X1:PQ,(∀n2 h3,((if (decide (n2 < (a.n : Int)))=true then
(nilW a.a fun a4=>ixOk n2 a.n (∃n5,rI h3 (ad a4 (tn n2*1)) n5 ∧
(if (n5==b)=true then
(Q [vB true] h3) else
(X1 [vI (wi (n2+1))] h3)))) else
(Q [vB false] h3)))→X1 [vI n2] h3) →
X1 [vI 0] h
theorem O_liverykeep_Has (a:Sl)(b:Int){h Q}(H:F_liverykeep_Has a b h Q):S_liverykeep_Has a b h Q:=fo Tryz.func27 (R (L (R (L (.mk none ⟨[0,1],[(5,(.c (.int .i64)))]⟩ Z Z))))) H
def F_ssi_Ssi_Doomed (a:OA)(b:Int)(h:Hp)(Q:PQ):Prop:=
(if (!(isn a))=true then (nilW a fun a1=>∃r2,rM h (ad a1 5) r2 ∧
∃es3,mapAt h r2 es3∧KeysLike (vI b) es3∧∃n4,mgetD (vI b) es3 (vI 0)=(vI n4) ∧
Q [vB (decide (n4 > 0))] h) else
(Q [vB false] h))
theorem O_ssi_Ssi_Doomed (a:OA)(b:Int){h Q}(H:F_ssi_Ssi_Doomed a b h Q):S_ssi_Ssi_Doomed a b h Q:=fo Tryz.func82 Z H
def F_siread_Table_Drop (a:OA)(b:Int)(h:Hp)(Q:PQ):Prop:=
(if (isn a)=true then
(Q [] h) else
(S_siread_Table_lose a b 168 #[] h fun vs1 h2=>
vs1=[] ∧
nilW a fun a3=>∃r4,rM h2 (ad a3 2) r4 ∧
∃m5 es6 c7,r4=some m5∧h2[m5]?=some (.map es6 c7)∧KeysLike (vI b) es6∧wth (sib h2 m5 (mdel (vI b) es6 c7)) fun h8=>
(if (b==0)=true then
(nilW a fun a9=>stOk h8 (ad a9 4) 1∧wth (wrs h8 (ad a9 4) 0 [vI 0]) fun h10=>
Q [] h10) else
(Q [] h8))))
theorem O_siread_Table_Drop (a:OA)(b:Int){h Q}(H:F_siread_Table_Drop a b h Q):S_siread_Table_Drop a b h Q:=fo Tryz.func130 Z H
def F_slices_DeleteFunc_sint_int (a:Sl)(b:Nat)(c:AV)(h:Hp)(Q:PQ):Prop:=
S_slices_IndexFunc_sint_int ⟨a.a,a.n,a.c⟩ b c h fun vs1 h2=>
∃n3,vs1=[vI n3] ∧
(if (n3==(-1 : Int))=true then
(Q [vL a] h2) else
(∀X4:PQ,(∀(n5:Int) (n6:Int) h7,((if (decide (n6 < (a.n : Int)))=true then
(∀J8:PQ,(∀n9 h10,(X4 [vI n9,vI (wi (n6+1))] h10)→J8 [vI n9] h10) →
nilW a.a fun a11=>ixOk n6 a.n (∃n12,rI h7 (ad a11 (tn n6*1)) n12 ∧
Fn PP b ((#[] ++ #[vI n12]) ++ c) h7 fun vs13 h14=>
∃b15,vs13=[vB b15] ∧
(if (!b15)=true then
(nilW a.a fun a16=>ixOk n5 a.n (stOk h14 (ad a16 (tn n5*1)) 1∧wth (wrs h14 (ad a16 (tn n5*1)) 0 [vI n12]) fun h17=>
J8 [vI (wi (n5+1))] h17)) else
(J8 [vI n5] h14)))) else
((0≤n5∧n5≤(a.n : Nat))∧(List.all (Array.toList (zc PP T_int)) oneCell=true∧∀az : Addr,(slAd a.a (tn n5) a.c 1)=some az→stOk h7 az ((a.n - (tn n5))*Array.size (zc PP T_int)))∧wth (cpHp h7 (if (a.n - (tn n5))=0 then none else (slAd a.a (tn n5) a.c 1)) (Array.toList (Builtin.zeroCells (zc PP T_int) (a.n - (tn n5))))) fun h18=>
(0≤n5∧n5≤(a.c : Nat))∧Q [(vC (slAd a.a 0 a.c 1) ((tn n5) - 0) (a.c - 0))] h18)))→X4 [vI n5,vI n6] h7) →
X4 [vI n3,vI (wi (n3+1))] h2))
theorem O_slices_DeleteFunc_sint_int (a:Sl)(b:Nat)(c:AV){h Q}(H:F_slices_DeleteFunc_sint_int a b c h Q):S_slices_DeleteFunc_sint_int a b c h Q:=fo Tryz.func133 (R (R (R (L (R (L (.mk none ⟨[0,1],[(5,(.c (.int .i64))),(6,(.c (.int .i64)))]⟩ (R (L (.mk (some ⟨[0,1,6],[(5,(.c (.int .i64)))]⟩) E Z Z))) Z))))))) H
def F_siread_one (a:Int)(h:Hp)(Q:PQ):Prop:=
(if (decide (a ≥ 1))=true then (Q [(vB (decide (a≤(200 : Int))))] h) else
(Q [vB false] h))
theorem O_siread_one (a:Int){h Q}(H:F_siread_one a h Q):S_siread_one a h Q:=fo Tryz.func138 Z H
def F_siread_Table_Fold (a:OA)(b c:Int)(h:Hp)(Q:PQ):Prop:=
∀J1:PQ,(∀b2 h3,((if b2=true then
(Q [] h3) else
(S_siread_Table_Of a b h3 fun vs4 h5=>
∃l6 : Sl,vs4=[vL l6] ∧
S_siread_Table_Drop a b h5 fun vs7 h8=>
vs7=[] ∧
∀X9:PQ,(∀n10 h11,((if (decide (n10 < (l6.n : Int)))=true then
(nilW l6.a fun a12=>ixOk n10 l6.n (∃n13,rI h11 (ad (ad a12 (tn n10*5)) 0) n13∧∃s14,rS h11 (ad (ad a12 (tn n10*5)) 1) s14∧∃n15,rI h11 (ad (ad a12 (tn n10*5)) 2) n15∧∃s16,rS h11 (ad (ad a12 (tn n10*5)) 3) s16∧∃n17,rI h11 (ad (ad a12 (tn n10*5)) 4) n17∧wth (pu h11 (oc #[vI 0,vS (ByteArray.mk #[]),vI 0,vS (ByteArray.mk #[]),vI 0] T_siread_Thing)) fun h18=>
stOk h18 (nb h11) 5∧wth (wrs h18 (nb h11) 0 [vI n13,vS s14,vI n15,vS s16,vI n17]) fun h19=>
∃n20,rI h19 (ad (nb h11) 0) n20∧∃s21,rS h19 (ad (nb h11) 1) s21∧∃n22,rI h19 (ad (nb h11) 2) n22∧∃s23,rS h19 (ad (nb h11) 3) s23∧∃n24,rI h19 (ad (nb h11) 4) n24∧S_siread_Table_take a 0 n20 s21 n22 s23 n24 h19 fun vs25 h26=>
vs25=[] ∧
X9 [vI (wi (n10+1))] h26)) else
(nilW a fun a27=>∃n28,rI h11 (ad a27 4) n28 ∧
nilW a fun a29=>stOk h11 (ad a29 4) 1∧wth (wrs h11 (ad a29 4) 0 [vI (mxI n28 c)]) fun h30=>
Q [] h30)))→X9 [vI n10] h11) →
X9 [vI 0] h8)))→J1 [vB b2] h3) →
(if (isn a)=true then (J1 [vB true] h) else
(S_siread_one b h fun vs31 h32=>
∃b33,vs31=[vB b33] ∧
J1 [vB (!b33)] h32))
theorem O_siread_Table_Fold (a:OA)(b c:Int){h Q}(H:F_siread_Table_Fold a b c h Q):S_siread_Table_Fold a b c h Q:=fo Tryz.func137 (N (L (.mk (some ⟨[0,1,2],[(15,(.c .bool))]⟩) E Z Z)) (R (R (L (R (L (.mk none ⟨[0,2,22,23],[(24,(.c (.int .i64)))]⟩ Z Z))))))) H
def F_ssi_Ssi_clean (a:OA)(h:Hp)(Q:PQ):Prop:=
wth (pu h (oc #[vP a] T_pssi_Ssi)) fun h1=>
∃p2,rP h1 (nb h) p2 ∧
∃p3,rP h1 (nb h) p3 ∧
nilW p3 fun a4=>∃l5 : Sl,rL h1 (ad a4 4) l5 ∧
S_slices_DeleteFunc_sint_int ⟨l5.a,l5.n,l5.c⟩ 134 #[vP (some (nb h))] h1 fun vs6 h7=>
∃l8 : Sl,vs6=[vL l8] ∧
rP h7 (nb h) p2∧nilW p2 fun a9=>stOk h7 (ad a9 4) 1∧wth (wrs h7 (ad a9 4) 0 [vL l8]) fun h10=>
∀X11:PQ,(∀h12,(∃p13,rP h12 (nb h) p13 ∧
nilW p13 fun a14=>∃l15 : Sl,rL h12 (ad a14 4) l15 ∧
∃p16,rP h12 (nb h) p16 ∧
nilW p16 fun a17=>∃n18,rI h12 (ad a17 3) n18 ∧
(if (decide ((l15.n : Int) > n18))=true then
(∃p19,rP h12 (nb h) p19 ∧
nilW p19 fun a20=>∃p21,rP h12 (ad a20 1) p21 ∧
∃p22,rP h12 (nb h) p22 ∧
nilW p22 fun a23=>∃l24 : Sl,rL h12 (ad a23 4) l24 ∧
nilW l24.a fun a25=>ixOk 0 l24.n (∃n26,rI h12 (ad a25 (tn 0*1)) n26 ∧
∃p27,rP h12 (nb h) p27 ∧
nilW p27 fun a28=>∃p29,rP h12 (ad a28 0) p29 ∧
∃p30,rP h12 (nb h) p30 ∧
nilW p30 fun a31=>∃l32 : Sl,rL h12 (ad a31 4) l32 ∧
nilW l32.a fun a33=>ixOk 0 l32.n (∃n34,rI h12 (ad a33 (tn 0*1)) n34 ∧
S_clog_Log_Csn p29 n34 h12 fun vs35 h36=>
∃n37,vs35=[vI n37] ∧
rI h36 (ad a25 (tn 0*1)) n26∧rL h36 (ad a23 4) l24∧rP h36 (nb h) p22∧rP h36 (ad a20 1) p21∧rP h36 (nb h) p19∧S_siread_Table_Fold p21 n26 n37 h36 fun vs38 h39=>
vs38=[] ∧
∃p40,rP h39 (nb h) p40 ∧
∃p41,rP h39 (nb h) p41 ∧
nilW p41 fun a42=>∃l43 : Sl,rL h39 (ad a42 4) l43 ∧
(0≤(1 : Int)∧(1 : Int)≤(l43.n : Nat))∧nilW p40 fun a44=>stOk h39 (ad a44 4) 1∧wth (wrs h39 (ad a44 4) 0 [(vC (slAd l43.a (tn 1) l43.c 1) (l43.n - (tn 1)) (l43.c - (tn 1)))]) fun h45=>
X11 [] h45))) else
(∀J46:PQ,(∀b47 h48,((if b47=true then
(∃p49,rP h48 (nb h) p49 ∧
nilW p49 fun a50=>∃p51,rP h48 (ad a50 1) p51 ∧
S_siread_Table_Drop p51 0 h48 fun vs52 h53=>
vs52=[] ∧
Q [] h53) else
(Q [] h48)))→J46 [vB b47] h48) →
∃p54,rP h12 (nb h) p54 ∧
nilW p54 fun a55=>∃l56 : Sl,rL h12 (ad a55 4) l56 ∧
(if ((l56.n : Int)==0)=true then (∃p57,rP h12 (nb h) p57 ∧
nilW p57 fun a58=>∃p59,rP h12 (ad a58 0) p59 ∧
S_clog_Log_Running p59 h12 fun vs60 h61=>
∃l62 : Sl,vs60=[vL l62] ∧
J46 [vB ((l62.n : Int)==0)] h61) else
(J46 [vB false] h12)))))→X11 [] h12) →
X11 [] h10
theorem O_ssi_Ssi_clean (a:OA){h Q}(H:F_ssi_Ssi_clean a h Q):S_ssi_Ssi_clean a h Q:=fo Tryz.func86 (R (R (N (L (.mk none ⟨[1],[]⟩ Z Z)) (L (.mk (some ⟨[1],[(65,(.c .bool))]⟩) E Z Z))))) H
def F_clog_Log_ends (a:OA)(b:Int)(h:Hp)(Q:PQ):Prop:=
(if (isn a)=true then
(Q [vP none,vI 1] h) else
(S_clog_Log_get a b h fun vs1 h2=>
∃p3,vs1=[vP p3] ∧
∀J4:PQ,(∀b5 h6,((if b5=true then
(Q [vP none,vI 76] h6) else
(Q [vP p3,vI 0] h6)))→J4 [vB b5] h6) →
(if (isn p3)=true then (J4 [vB true] h2) else
(nilW p3 fun a7=>∃n8,rI h2 (ad a7 0) n8 ∧
J4 [vB (n8 != 1)] h2))))
theorem O_clog_Log_ends (a:OA)(b:Int){h Q}(H:F_clog_Log_ends a b h Q):S_clog_Log_ends a b h Q:=fo Tryz.func132 (R (R (R (L (L (.mk (some ⟨[6],[(20,(.c .bool))]⟩) E Z Z)))))) H
def F_clog_Log_Abort (a:OA)(b:Int)(h:Hp)(Q:PQ):Prop:=
S_clog_Log_ends a b h fun vs1 h2=>
∃p3 n4,vs1=[vP p3,vI n4] ∧
∀J5:PQ,(∀h6,(Q [vI n4] h6)→J5 [] h6) →
(if (n4==0)=true then
(nilW p3 fun a7=>stOk h2 (ad a7 0) 1∧wth (wrs h2 (ad a7 0) 0 [vI 3]) fun h8=>
J5 [] h8) else
(J5 [] h2))
theorem O_clog_Log_Abort (a:OA)(b:Int){h Q}(H:F_clog_Log_Abort a b h Q):S_clog_Log_Abort a b h Q:=fo Tryz.func129 (R (R (L (R (.mk (some ⟨[6],[]⟩) E Z Z))))) H
def F_maps_DeleteFunc_map_2_int_int_2_int_int (a:ON)(b:Nat)(c:AV)(h:Hp)(Q:PQ):Prop:=
∃o1 : Obj,IterOf h a o1∧wth (pu h o1) fun h2=>
∀X3:PQ,(∀h4,((Addr.off (nb h)=0∧∃o5 : Obj,h4[Addr.block (nb h)]?=some o5∧IterGood h4 o5 ∧
(IterEnd h4 o5→Q [] h4) ∧
∀(k6 v7 : Value) (o8 : Obj),IterStep h4 o5 k6 v7 o8→wth (sib h4 (Addr.block (nb h)) o8) fun h9=>
(Addr.off (nb h)=0∧∃(m10 n11 : Nat) (q12 : Array Nat) (n13 : Nat) (es14 : Array MapEntry) (c15 : Nat) (e16 : MapEntry),h9[Addr.block (nb h)]?=some (.mapIter (some m10) n11 q12 c15)∧Array.back? q12=some n13∧h9[m10]?=some (.map es14 c15)∧Array.find? (fun x=>x.born==n13) es14=some e16∧∃n17 n18,e16.key=(vA #[vI n17,vI n18])∧∃n19,e16.val=(vI n19)∧wth (pu h9 (oc #[vI 0,vI 0] T_2_int)) fun h20=>
stOk h20 (nb h9) 2∧wth (wrs h20 (nb h9) 0 [vI n17,vI n18]) fun h21=>
∃n22,rI h21 (ad (nb h9) 0) n22∧∃n23,rI h21 (ad (nb h9) 1) n23∧Fn PP b ((#[] ++ #[(vA #[vI n22,vI n23]),vI n19]) ++ c) h21 fun vs24 h25=>
∃b26,vs24=[vB b26] ∧
(if b26=true then
(∃n27,rI h25 (ad (nb h9) 0) n27∧∃n28,rI h25 (ad (nb h9) 1) n28∧∃m29 es30 c31,a=some m29∧h25[m29]?=some (.map es30 c31)∧KeysLike (vA #[vI n27,vI n28]) es30∧wth (sib h25 m29 (mdel (vA #[vI n27,vI n28]) es30 c31)) fun h32=>
X3 [] h32) else
(X3 [] h25)))))→X3 [] h4) →
X3 [] h2
theorem O_maps_DeleteFunc_map_2_int_int_2_int_int (a:ON)(b:Nat)(c:AV){h Q}(H:F_maps_DeleteFunc_map_2_int_int_2_int_int a b c h Q):S_maps_DeleteFunc_map_2_int_int_2_int_int a b c h Q:=fo' (fun d => if d = 10 then [(.agg [(.int .i64), (.int .i64)]), (.c (.int .i64))] else []) Tryz.func169 (R (L (.mk none ⟨[0,1,7],[]⟩ Z Z))) H
def F_edge_Edges_Drop (a:OA)(b:Int)(h:Hp)(Q:PQ):Prop:=
wth (pu h (oc #[vI b] T_int)) fun h1=>
S_edge_Edges_none a h1 fun vs2 h3=>
∃b4,vs2=[vB b4] ∧
(if b4=true then
(Q [] h3) else
(nilW a fun a5=>∃r6,rM h3 (ad a5 1) r6 ∧
S_maps_DeleteFunc_map_2_int_int_2_int_int r6 170 #[vP (some (nb h))] h3 fun vs7 h8=>
vs7=[] ∧
nilW a fun a9=>∃r10,rM h8 (ad a9 2) r10 ∧
∃n11,rI h8 (nb h) n11 ∧
∃m12 es13 c14,r10=some m12∧h8[m12]?=some (.map es13 c14)∧KeysLike (vI n11) es13∧wth (sib h8 m12 (mdel (vI n11) es13 c14)) fun h15=>
Q [] h15))
theorem O_edge_Edges_Drop (a:OA)(b:Int){h Q}(H:F_edge_Edges_Drop a b h Q):S_edge_Edges_Drop a b h Q:=fo Tryz.func131 Z H
def F_ssi_Ssi_Abort (a:OA)(b:Int)(h:Hp)(Q:PQ):Prop:=
(if (isn a)=true then
(Q [vI 1] h) else
(S_ssi_Ssi_runs a b h fun vs1 h2=>
∃b3,vs1=[vB b3] ∧
(if (!b3)=true then
(Q [vI 76] h2) else
(nilW a fun a4=>∃p5,rP h2 (ad a4 0) p5 ∧
S_clog_Log_Abort p5 b h2 fun vs6 h7=>
∃n8,vs6=[vI n8] ∧
nilW a fun a9=>∃p10,rP h7 (ad a9 1) p10 ∧
S_siread_Table_Drop p10 b h7 fun vs11 h12=>
vs11=[] ∧
nilW a fun a13=>∃p14,rP h12 (ad a13 2) p14 ∧
S_edge_Edges_Drop p14 b h12 fun vs15 h16=>
vs15=[] ∧
S_ssi_Ssi_clean a h16 fun vs17 h18=>
vs17=[] ∧
Q [vI 0] h18))))
theorem O_ssi_Ssi_Abort (a:OA)(b:Int){h Q}(H:F_ssi_Ssi_Abort a b h Q):S_ssi_Ssi_Abort a b h Q:=fo Tryz.func83 Z H
def F_edge_Edges_Ahead (a:OA)(b:Int)(h:Hp)(Q:PQ):Prop:=
S_edge_Edges_In a b h fun vs1 h2=>
∃l3 : Sl,vs1=[vL l3] ∧
∀X4:PQ,(∀l5 : Sl,∀n6 h7,((if (decide (n6 < (l3.n : Int)))=true then
(∀J8:PQ,(∀l9 : Sl,∀h10,(X4 [vL l9,vI (wi (n6+1))] h10)→J8 [vL l9] h10) →
nilW l3.a fun a11=>ixOk n6 l3.n (∃n12,rI h7 (ad a11 (tn n6*1)) n12 ∧
nilW a fun a13=>∃p14,rP h7 (ad a13 0) p14 ∧
S_clog_Log_State p14 n12 h7 fun vs15 h16=>
∃n17,vs15=[vI n17] ∧
(if (n17 != 1)=true then
(J8 [vL l5] h16) else
(S_edge_Edges_In a n12 h16 fun vs18 h19=>
∃l20 : Sl,vs18=[vL l20] ∧
∀X21:PQ,(∀l22 : Sl,∀n23 h24,((if (decide (n23 < (l20.n : Int)))=true then
(nilW l20.a fun a25=>ixOk n23 l20.n (∃n26,rI h24 (ad a25 (tn n23*1)) n26 ∧
∀J27:PQ,(∀b28 h29,((if b28=true then
(wth (pu h29 (oc #[vI n12] T_int)) fun h30=>
∃cs33,cellsAt h30 (some (nb h29)) (1*1) cs33∧appS PP T_int 8 1 h30 ⟨l22.a,l22.n,l22.c⟩ 1 cs33 fun l31 h32=>
J8 [vL l31] h32) else
(X21 [vL l22,vI (wi (n23+1))] h29)))→J27 [vB b28] h29) →
(if (n26==b)=true then (nilW a fun a34=>∃p35,rP h24 (ad a34 0) p35 ∧
S_clog_Log_Reads p35 n26 h24 fun vs36 h37=>
∃b38,vs36=[vB b38] ∧
J27 [vB (!b38)] h37) else
(nilW a fun a39=>∃p40,rP h24 (ad a39 0) p40 ∧
S_clog_Log_State p40 n26 h24 fun vs41 h42=>
∃n43,vs41=[vI n43] ∧
(if (n43==1)=true then (nilW a fun a44=>∃p45,rP h42 (ad a44 0) p45 ∧
S_clog_Log_Reads p45 n26 h42 fun vs46 h47=>
∃b48,vs46=[vB b48] ∧
J27 [vB (!b48)] h47) else
(J27 [vB false] h42)))))) else
(J8 [vL l22] h24)))→X21 [vL l22,vI n23] h24) →
X21 [vL l5,vI 0] h19)))) else
(Q [vL l5] h7)))→X4 [vL l5,vI n6] h7) →
X4 [(vC none 0 0),vI 0] h2
theorem O_edge_Edges_Ahead (a:OA)(b:Int){h Q}(H:F_edge_Edges_Ahead a b h Q):S_edge_Edges_Ahead a b h Q:=fo Tryz.func84 (R (L (R (R (L (R (L (.mk none ⟨[0,1,12,13],[(5,(.c .sl)),(14,(.c (.int .i64)))]⟩ (R (R (L (.mk (some ⟨[0,1,12,13,14],[(5,(.c .sl))]⟩) E (R (R (R (L (.mk none ⟨[0,1,7,12,13,14,27,28],[(5,(.c .sl)),(29,(.c (.int .i64)))]⟩ (R (R (L (L (R (L (.mk (some ⟨[0,1,5,7,12,13,14,27,28,29],[(53,(.c .bool))]⟩) E Z Z))))))) Z))))) Z)))) Z)))))))) H
def F_clog_Log_Commit (a:OA)(b:Int)(h:Hp)(Q:PQ):Prop:=
S_clog_Log_ends a b h fun vs1 h2=>
∃p3 n4,vs1=[vP p3,vI n4] ∧
(if (n4 != 0)=true then
(Q [vI 0,vI n4] h2) else
(nilW a fun a5=>∃n6,rI h2 (ad a5 805) n6 ∧
nilW a fun a7=>stOk h2 (ad a7 805) 1∧wth (wrs h2 (ad a7 805) 0 [vI (wi (n6+1))]) fun h8=>
nilW a fun a9=>∃n10,rI h8 (ad a9 805) n10 ∧
nilW p3 fun a11=>stOk h8 (ad a11 0) 1∧wth (wrs h8 (ad a11 0) 0 [vI 2]) fun h12=>
nilW p3 fun a13=>stOk h12 (ad a13 1) 1∧wth (wrs h12 (ad a13 1) 0 [vI n10]) fun h14=>
nilW a fun a15=>∃n16,rI h14 (ad a15 805) n16 ∧
Q [vI n16,vI 0] h14))
theorem O_clog_Log_Commit (a:OA)(b:Int){h Q}(H:F_clog_Log_Commit a b h Q):S_clog_Log_Commit a b h Q:=fo Tryz.func85 Z H
def F_ssi_Ssi_Commit (a:OA)(b:Int)(h:Hp)(Q:PQ):Prop:=
(if (isn a)=true then
(Q [vI 1] h) else
(S_ssi_Ssi_runs a b h fun vs1 h2=>
∃b3,vs1=[vB b3] ∧
(if (!b3)=true then
(Q [vI 76] h2) else
(S_ssi_Ssi_Doomed a b h2 fun vs4 h5=>
∃b6,vs4=[vB b6] ∧
(if b6=true then
(S_ssi_Ssi_Abort a b h5 fun vs7 h8=>
∃n9,vs7=[vI n9] ∧
Q [vI 72] h8) else
(nilW a fun a10=>∃p11,rP h5 (ad a10 2) p11 ∧
S_edge_Edges_Ahead p11 b h5 fun vs12 h13=>
∃l14 : Sl,vs12=[vL l14] ∧
∀X15:PQ,(∀n16 h17,((if (decide (n16 < (l14.n : Int)))=true then
(nilW l14.a fun a18=>ixOk n16 l14.n (∃n19,rI h17 (ad a18 (tn n16*1)) n19 ∧
nilW a fun a20=>∃r21,rM h17 (ad a20 5) r21 ∧
∃es22,mapAt h17 r21 es22∧KeysLike (vI n19) es22∧∃n23,mgetD (vI n19) es22 (vI 0)=(vI n23) ∧
∃m25 es26 c27,r21=some m25∧h17[m25]?=some (.map es26 c27)∧KeysLike (vI n19) es26∧wth (sib h17 m25 (mput (vI n19) (vI (wi (n23+1))) es26 c27)) fun h28=>
X15 [vI (wi (n16+1))] h28)) else
(nilW a fun a29=>∃p30,rP h17 (ad a29 0) p30 ∧
S_clog_Log_Commit p30 b h17 fun vs31 h32=>
∃n33 n34,vs31=[vI n33,vI n34] ∧
nilW a fun a35=>∃l36 : Sl,rL h32 (ad a35 4) l36 ∧
wth (pu h32 (oc #[vI b] T_int)) fun h37=>
∃cs44,cellsAt h37 (some (nb h32)) (1*1) cs44∧appS PP T_int 8 1 h37 ⟨l36.a,l36.n,l36.c⟩ 1 cs44 fun l38 h39=>
nilW a fun a40=>stOk h39 (ad a40 4) 1∧wth (wrs h39 (ad a40 4) 0 [vL l38]) fun h41=>
S_ssi_Ssi_clean a h41 fun vs42 h43=>
vs42=[] ∧
Q [vI 0] h43)))→X15 [vI n16] h17) →
X15 [vI 0] h13))))))
theorem O_ssi_Ssi_Commit (a:OA)(b:Int){h Q}(H:F_ssi_Ssi_Commit a b h Q):S_ssi_Ssi_Commit a b h Q:=fo Tryz.func29 (R (R (L (R (L (.mk none ⟨[0,1,27,28],[(29,(.c (.int .i64)))]⟩ Z Z)))))) H
end Go.Lift

/- Printed by lift.py: functions, part 5. -/
import Derived.Test.YtgdiihffjogdiaaGreatDoorLfs
import Derived.Test.YtgdiihffjogdiaaGreatDoorLf2
import Derived.Test.YtgdiihffjogdiaaGreatDoorLf4
set_option linter.unusedSimpArgs false
set_option linter.unusedVariables false
namespace Go.Lift
open Go Go.Proofs Cmp
set_option maxRecDepth 100000
def F_siread_Table_Take (a:OA)(b c:Int)(d:BA)(e:Int)(f:BA)(g:Int)(h:Hp)(Q:PQ):Prop:=
wth (pu h (oc #[vI c,vS d,vI e,vS f,vI g] T_siread_Thing)) fun h1=>
∀J2:PQ,(∀b3 h4,((if b3=true then
(Q [vI 1] h4) else
(∃n5,rI h4 (ad (nb h) 0) n5∧∃s6,rS h4 (ad (nb h) 1) s6∧∃n7,rI h4 (ad (nb h) 2) n7∧∃s8,rS h4 (ad (nb h) 3) s8∧∃n9,rI h4 (ad (nb h) 4) n9∧S_siread_Table_take a b n5 s6 n7 s8 n9 h4 fun vs10 h11=>
vs10=[] ∧
Q [vI 0] h11)))→J2 [vB b3] h4) →
(if (isn a)=true then (J2 [vB true] h1) else
(S_siread_one b h1 fun vs12 h13=>
∃b14,vs12=[vB b14] ∧
(if (!b14)=true then (J2 [vB true] h13) else
(∃n15,rI h13 (ad (nb h) 0) n15 ∧
(if (decide (n15 < (1 : Int)))=true then (J2 [vB true] h13) else
(∃n16,rI h13 (ad (nb h) 0) n16 ∧
J2 [vB (decide (n16 > 4))] h13))))))
theorem O_siread_Table_Take (a:OA)(b c:Int)(d:BA)(e:Int)(f:BA)(g:Int){h Q}(H:F_siread_Table_Take a b c d e f g h Q):S_siread_Table_Take a b c d e f g h Q:=fo Tryz.func87 (R (L (L (.mk (some ⟨[0,1,5],[(23,(.c .bool))]⟩) E Z Z)))) H
def F_ssi_Ssi_Read (a:OA)(b c:Int)(d:BA)(e:Int)(f:BA)(g:Int)(h:Hp)(Q:PQ):Prop:=
wth (pu h (oc #[vI c,vS d,vI e,vS f,vI g] T_siread_Thing)) fun h1=>
∀J2:PQ,(∀b3 h4,((if b3=true then
(nilW a fun a5=>∃p6,rP h4 (ad a5 1) p6 ∧
∃n7,rI h4 (ad (nb h) 0) n7∧∃s8,rS h4 (ad (nb h) 1) s8∧∃n9,rI h4 (ad (nb h) 2) n9∧∃s10,rS h4 (ad (nb h) 3) s10∧∃n11,rI h4 (ad (nb h) 4) n11∧S_siread_Table_Take p6 b n7 s8 n9 s10 n11 h4 fun vs12 h13=>
∃n14,vs12=[vI n14] ∧
Q [] h13) else
(Q [] h4)))→J2 [vB b3] h4) →
S_ssi_Ssi_runs a b h1 fun vs15 h16=>
∃b17,vs15=[vB b17] ∧
(if b17=true then (nilW a fun a18=>∃r19,rM h16 (ad a18 6) r19 ∧
∃es20,mapAt h16 r19 es20∧KeysLike (vI b) es20∧∃n21,mgetD (vI b) es20 (vI 0)=(vI n21) ∧
J2 [vB (n21==0)] h16) else
(J2 [vB false] h16))
theorem O_ssi_Ssi_Read (a:OA)(b c:Int)(d:BA)(e:Int)(f:BA)(g:Int){h Q}(H:F_ssi_Ssi_Read a b c d e f g h Q):S_ssi_Ssi_Read a b c d e f g h Q:=fo Tryz.func30 (R (L (.mk (some ⟨[0,1,5],[(17,(.c .bool))]⟩) E Z Z))) H
def F_ssi_Ssi_Edges (a:OA)(h:Hp)(Q:PQ):Prop:=
(if (isn a)=true then
(Q [vP none] h) else
(nilW a fun a1=>∃p2,rP h (ad a1 2) p2 ∧
Q [vP p2] h))
theorem O_ssi_Ssi_Edges (a:OA){h Q}(H:F_ssi_Ssi_Edges a h Q):S_ssi_Ssi_Edges a h Q:=fo Tryz.func31 Z H
def F_liverylaw19_TableReaders (a b:Int)(c:Bool)(h:Hp)(Q:PQ):Prop:=
S_table_New 50 500 9 3 h fun vs1 h2=>
∃p3 n4,vs1=[vP p3,vI n4] ∧
(if (n4 != 0)=true then
(Q [vB false] h2) else
(S_table_Store_Ssi p3 h2 fun vs5 h6=>
∃p7,vs5=[vP p7] ∧
S_ssi_Ssi_Begin p7 false h6 fun vs8 h9=>
∃n10 n11,vs8=[vI n10,vI n11] ∧
S_table_Store_NewRel p3 h9 fun vs12 h13=>
∃n14 n15,vs12=[vI n14,vI n15] ∧
∀J16:PQ,(∀b17 h18,((if b17=true then
(Q [vB false] h18) else
(∀X19:PQ,(∀n20 h21,((if (decide (n20 < (9 : Int)))=true then
(S_liverylaw19_num (wi (10*n20)) h21 fun vs22 h23=>
∃n24 n25 x26 s27,vs22=[(vA #[vI n24,vI n25,(Value.float .f64 x26),vS s27])] ∧
wth (pu h23 (oc #[vI n24,vI n25,(Value.float .f64 x26),vS s27] T_api_Value)) fun h28=>
S_liverylaw19_one  h28 fun vs29 h30=>
∃l31 : Sl,vs29=[vL l31] ∧
S_table_Store_Put p3 n10 n14 ⟨(some (nb h23)),1,1⟩ ⟨l31.a,l31.n,l31.c⟩ h30 fun vs32 h33=>
∃n34 n35,vs32=[vI n34,vI n35] ∧
(if (n35 != 0)=true then
(Q [vB false] h33) else
(X19 [vI (wi (n20+1))] h33))) else
(S_table_Store_Ssi p3 h21 fun vs36 h37=>
∃p38,vs36=[vP p38] ∧
S_ssi_Ssi_Commit p38 n10 h37 fun vs39 h40=>
∃n41,vs39=[vI n41] ∧
(if (n41 != 0)=true then
(Q [vB false] h40) else
(S_table_Store_Ssi p3 h40 fun vs42 h43=>
∃p44,vs42=[vP p44] ∧
S_ssi_Ssi_Begin p44 false h43 fun vs45 h46=>
∃n47 n48,vs45=[vI n47,vI n48] ∧
S_table_Store_Ssi p3 h46 fun vs49 h50=>
∃p51,vs49=[vP p51] ∧
S_ssi_Ssi_Begin p51 false h50 fun vs52 h53=>
∃n54 n55,vs52=[vI n54,vI n55] ∧
∀J56:PQ,(∀b57 h58,((if b57=true then
(Q [vB false] h58) else
(∀J59:PQ,(∀h60,(∀X61:PQ,(∀n62 h63,((if (decide (n62 < (7 : Int)))=true then
(S_liverylaw19_num (wi ((wi b)+n62)) h63 fun vs64 h65=>
∃n66 n67 x68 s69,vs64=[(vA #[vI n66,vI n67,(Value.float .f64 x68),vS s69])] ∧
wth (pu h65 (oc #[vI n66,vI n67,(Value.float .f64 x68),vS s69] T_api_Value)) fun h70=>
S_liverylaw19_one  h70 fun vs71 h72=>
∃l73 : Sl,vs71=[vL l73] ∧
S_table_Store_Put p3 n54 n14 ⟨(some (nb h65)),1,1⟩ ⟨l73.a,l73.n,l73.c⟩ h72 fun vs74 h75=>
∃n76 n77,vs74=[vI n76,vI n77] ∧
(if (n77 != 0)=true then
(Q [vB false] h75) else
(X61 [vI (wi (n62+1))] h75))) else
(S_liverylaw19_num (wi a) h63 fun vs78 h79=>
∃n80 n81 x82 s83,vs78=[(vA #[vI n80,vI n81,(Value.float .f64 x82),vS s83])] ∧
wth (pu h79 (oc #[vI n80,vI n81,(Value.float .f64 x82),vS s83] T_api_Value)) fun h84=>
S_liverylaw19_one  h84 fun vs85 h86=>
∃l87 : Sl,vs85=[vL l87] ∧
S_table_Store_Put p3 n54 n14 ⟨(some (nb h79)),1,1⟩ ⟨l87.a,l87.n,l87.c⟩ h86 fun vs88 h89=>
∃n90 n91,vs88=[vI n90,vI n91] ∧
(if (n91 != 0)=true then
(Q [vB false] h89) else
(S_table_Store_Ssi p3 h89 fun vs92 h93=>
∃p94,vs92=[vP p94] ∧
S_ssi_Ssi_Edges p94 h93 fun vs95 h96=>
∃p97,vs95=[vP p97] ∧
S_edge_Edges_Out p97 n47 h96 fun vs98 h99=>
∃l100 : Sl,vs98=[vL l100] ∧
S_liverykeep_Has ⟨l100.a,l100.n,l100.c⟩ n54 h99 fun vs101 h102=>
∃b103,vs101=[vB b103] ∧
(if b103=true then (S_table_Store_Ssi p3 h102 fun vs104 h105=>
∃p106,vs104=[vP p106] ∧
S_ssi_Ssi_Edges p106 h105 fun vs107 h108=>
∃p109,vs107=[vP p109] ∧
S_edge_Edges_In p109 n47 h108 fun vs110 h111=>
∃l112 : Sl,vs110=[vL l112] ∧
(if ((l112.n : Int)==0)=true then (S_liverylaw19_wakes  h111 fun vs113 h114=>
∃b115,vs113=[vB b115] ∧
Q [vB b115] h114) else
(Q [vB false] h111))) else
(Q [vB false] h102)))))))→X61 [vI n62] h63) →
X61 [vI 0] h60)→J59 [] h60) →
(if c=true then
(S_table_Store_Ssi p3 h58 fun vs116 h117=>
∃p118,vs116=[vP p118] ∧
S_ssi_Ssi_Read p118 n47 2 (ByteArray.mk #[]) n14 (ByteArray.mk #[]) 0 h117 fun vs119 h120=>
vs119=[] ∧
J59 [] h120) else
(S_liverylaw19_num (wi a) h58 fun vs121 h122=>
∃n123 n124 x125 s126,vs121=[(vA #[vI n123,vI n124,(Value.float .f64 x125),vS s126])] ∧
S_table_Store_Find p3 n14 (ByteArray.mk #[105]) n123 n124 x125 s126 h122 fun vs127 h128=>
∃l129 : Sl,∃l130 : Sl,vs127=[vL l129,vL l130] ∧
(if ((l130.n : Int)==0)=true then
(Q [vB false] h128) else
(∀X131:PQ,(∀n132 h133,((if (decide (n132 < (l130.n : Int)))=true then
(nilW l130.a fun a134=>ixOk n132 l130.n (∃n135,rI h133 (ad a134 (tn n132*1)) n135 ∧
S_table_Store_Ssi p3 h133 fun vs136 h137=>
∃p138,vs136=[vP p138] ∧
rI h137 (ad a134 (tn n132*1)) n135∧S_ssi_Ssi_Read p138 n47 3 (ByteArray.mk #[]) n14 (ByteArray.mk #[105]) n135 h137 fun vs139 h140=>
vs139=[] ∧
X131 [vI (wi (n132+1))] h140)) else
(J59 [] h133)))→X131 [vI n132] h133) →
X131 [vI 0] h128)))))))→J56 [vB b57] h58) →
(if (n48 != 0)=true then (J56 [vB true] h53) else
(J56 [vB (n55 != 0)] h53)))))))→X19 [vI n20] h21) →
X19 [vI 0] h18)))→J16 [vB b17] h18) →
(if (n11 != 0)=true then (J16 [vB true] h13) else
((if (n15 != 0)=true then (J16 [vB true] h13) else
(S_liverylaw19_one  h13 fun vs141 h142=>
∃l143 : Sl,vs141=[vL l143] ∧
S_table_Store_Make p3 n10 n14 (ByteArray.mk #[105]) (ByteArray.mk #[97]) false 3 ⟨l143.a,l143.n,l143.c⟩ h142 fun vs144 h145=>
∃n146,vs144=[vI n146] ∧
J16 [vB (n146 != 0)] h145))))))
theorem O_liverylaw19_TableReaders (a b:Int)(c:Bool){h Q}(H:F_liverylaw19_TableReaders a b c h Q):S_liverylaw19_TableReaders a b c h Q:=fo Tryz.func4 (R (R (R (R (R (N (L (.mk (some ⟨[0,1,2,7,9,11],[(59,(.c .bool))]⟩) E Z Z)) (N (R (L (.mk none ⟨[0,1,2,7,9,11],[(13,(.c (.int .i64)))]⟩ Z Z))) (R (R (R (N (L (.mk (some ⟨[0,1,2,7,11,16,18],[(100,(.c .bool))]⟩) E Z Z)) (N (R (.mk (some ⟨[0,1,7,11,16,18],[]⟩) E Z (R (R (R (L (.mk none ⟨[0,1,7,11,16,18,21],[(22,(.c (.int .i64)))]⟩ Z Z))))))) (L (R (L (.mk none ⟨[0,1,7,11,16,18],[(23,(.c (.int .i64)))]⟩ Z Z)))))))))))))))) H
def F_ssi_Ssi_Begin_1 (a:Int)(b:Addr)(h:Hp)(Q:PQ):Prop:=
∃p1,rP h b p1 ∧
nilW p1 fun a2=>∃p3,rP h (ad a2 0) p3 ∧
S_clog_Log_Reads p3 a h fun vs4 h5=>
∃b6,vs4=[vB b6] ∧
Q [vB (!b6)] h5
theorem O_ssi_Ssi_Begin_1 (a:Int)(b:Addr){h Q}(H:F_ssi_Ssi_Begin_1 a b h Q):S_ssi_Ssi_Begin_1 a b h Q:=fo Tryz.func53 Z H
def F_table_Store_Usable_1 (a b:BA)(c:Bool)(d e f:Int)(g i:Addr)(h:Hp)(Q:PQ):Prop:=
wth (pu h (oc #[vS a,vS b,vB c,vI d,vI e,vI f] T_table_Index)) fun h1=>
∃p2,rP h1 g p2 ∧
nilW p2 fun a3=>∃p4,rP h1 (ad a3 0) p4 ∧
∃n5,rI h1 i n5 ∧
∃n6,rI h1 (ad (nb h) 4) n6 ∧
S_clog_Log_Sees p4 n5 n6 h1 fun vs7 h8=>
∃b9,vs7=[vB b9] ∧
(if (!b9)=true then (Q [vB true] h8) else
(∃n10,rI h8 (ad (nb h) 5) n10 ∧
∃n11,rI h8 i n11 ∧
(if (n10==n11)=true then (Q [vB true] h8) else
(∃n12,rI h8 (ad (ad (nb h) 0) 3) n12 ∧
Q [vB (n12 != 3)] h8))))
theorem O_table_Store_Usable_1 (a b:BA)(c:Bool)(d e f:Int)(g i:Addr){h Q}(H:F_table_Store_Usable_1 a b c d e f g i h Q):S_table_Store_Usable_1 a b c d e f g i h Q:=fo Tryz.func91 Z H
def F_table_Store_get_1 (a:OA)(b:Addr)(h:Hp)(Q:PQ):Prop:=
nilW a fun a1=>∃s2,rS h (ad (ad (ad a1 0) 0) 0) s2 ∧
∃s3,rS h b s3 ∧
Q [vB ((bl s2)==(bl s3))] h
theorem O_table_Store_get_1 (a:OA)(b:Addr){h Q}(H:F_table_Store_get_1 a b h Q):S_table_Store_get_1 a b h Q:=fo Tryz.func101 Z H
def FD_cmp_Compare_string (a b:BA)(h:Hp)(Q:PQ):Prop:=
SD_cmp_isNaN_string a h fun vs1 h2=>
∃b3,vs1=[vB b3] ∧
SD_cmp_isNaN_string b h2 fun vs4 h5=>
∃b6,vs4=[vB b6] ∧
(if b3=true then
((if b6=true then
(Q [vI 0] h5) else
(Q [vI (-1 : Int)] h5))) else
((if b6=true then
(Q [vI 1] h5) else
((if (Op.bytesLess (bl a) (bl b))=true then
(Q [vI (-1 : Int)] h5) else
((if (!(Op.bytesLess (bl a) (bl b)||(bl a)==(bl b)))=true then
(Q [vI 1] h5) else
(Q [vI 0] h5))))))))
theorem OD_cmp_Compare_string (a b:BA){h Q}(H:FD_cmp_Compare_string a b h Q):SD_cmp_Compare_string a b h Q:=foD Tryz.func105 Z H
def F_table_Store_standing_1 (a b:OA)(h:Hp)(Q:PQ):Prop:=
nilW a fun a1=>∃s2,rS h (ad (ad (ad a1 0) 0) 0) s2 ∧
nilW b fun a3=>∃s4,rS h (ad (ad (ad a3 0) 0) 0) s4 ∧
S_cmp_Compare_string s2 s4 h fun vs5 h6=>
∃n7,vs5=[vI n7] ∧
Q [vI n7] h6
theorem O_table_Store_standing_1 (a b:OA){h Q}(H:F_table_Store_standing_1 a b h Q):S_table_Store_standing_1 a b h Q:=fo Tryz.func104 Z H
def F_row_Find_1 (a:BA)(b:Int)(c:Bool)(d e:Int)(f:Nat)(g:BA)(i:Addr)(h:Hp)(Q:PQ):Prop:=
wth (pu h (oc #[vS a,vI b,vB c,vI d,vI e,(Value.float .f64 f),vS g] T_api_Column)) fun h1=>
∃s2,rS h1 (ad (nb h) 0) s2 ∧
∃s3,rS h1 i s3 ∧
Q [vB ((bl s2)==(bl s3))] h1
theorem O_row_Find_1 (a:BA)(b:Int)(c:Bool)(d e:Int)(f:Nat)(g:BA)(i:Addr){h Q}(H:F_row_Find_1 a b c d e f g i h Q):S_row_Find_1 a b c d e f g i h Q:=fo Tryz.func107 Z H
def F_siread_Table_Copy_1 (a:Int)(b:BA)(c:Int)(d:BA)(e:Int)(f:Addr)(h:Hp)(Q:PQ):Prop:=
wth (pu h (oc #[vI a,vS b,vI c,vS d,vI e] T_siread_Thing)) fun h1=>
∃n2,rI h1 (ad (nb h) 0) n2∧∃s3,rS h1 (ad (nb h) 1) s3∧∃n4,rI h1 (ad (nb h) 2) n4∧∃s5,rS h1 (ad (nb h) 3) s5∧∃n6,rI h1 (ad (nb h) 4) n6∧∃n7,rI h1 (ad f 0) n7∧∃s8,rS h1 (ad f 1) s8∧∃n9,rI h1 (ad f 2) n9∧∃s10,rS h1 (ad f 3) s10∧∃n11,rI h1 (ad f 4) n11∧Q [(vB (n2==n7 && (s3==s8 && (n4==n9 && (s5==s10 && (n6==n11 && true))))))] h1
theorem O_siread_Table_Copy_1 (a:Int)(b:BA)(c:Int)(d:BA)(e:Int)(f:Addr){h Q}(H:F_siread_Table_Copy_1 a b c d e f h Q):S_siread_Table_Copy_1 a b c d e f h Q:=fo Tryz.func116 Z H
def F_ssi_Ssi_clean_1 (a:Int)(b:Addr)(h:Hp)(Q:PQ):Prop:=
∃p1,rP h b p1 ∧
nilW p1 fun a2=>∃p3,rP h (ad a2 0) p3 ∧
∃p4,rP h b p4 ∧
nilW p4 fun a5=>∃p6,rP h (ad a5 0) p6 ∧
S_clog_Log_Csn p3 a h fun vs7 h8=>
∃n9,vs7=[vI n9] ∧
rP h8 (ad a5 0) p6∧rP h8 b p4∧S_clog_Log_Horizon p6 h8 fun vs10 h11=>
∃n12,vs10=[vI n12] ∧
∀J13:PQ,(∀h14,(Q [vB (decide (n9≤n12))] h14)→J13 [] h14) →
(if (decide (n9≤n12))=true then
(∃p15,rP h11 b p15 ∧
nilW p15 fun a16=>∃p17,rP h11 (ad a16 1) p17 ∧
S_siread_Table_Drop p17 a h11 fun vs18 h19=>
vs18=[] ∧
J13 [] h19) else
(J13 [] h11))
theorem O_ssi_Ssi_clean_1 (a:Int)(b:Addr){h Q}(H:F_ssi_Ssi_clean_1 a b h Q):S_ssi_Ssi_clean_1 a b h Q:=fo Tryz.func134 (R (R (L (R (.mk (some ⟨[4],[]⟩) E Z Z))))) H
def F_siread_Table_take_1 (a:Int)(b:BA)(c:Int)(d:BA)(e:Int)(f:Addr)(h:Hp)(Q:PQ):Prop:=
wth (pu h (oc #[vI a,vS b,vI c,vS d,vI e] T_siread_Thing)) fun h1=>
∃n2,rI h1 (ad (nb h) 0) n2∧∃s3,rS h1 (ad (nb h) 1) s3∧∃n4,rI h1 (ad (nb h) 2) n4∧∃s5,rS h1 (ad (nb h) 3) s5∧∃n6,rI h1 (ad (nb h) 4) n6∧S_siread_Thing_fine n2 s3 n4 s5 n6 h1 fun vs7 h8=>
∃b9,vs7=[vB b9] ∧
(if b9=true then (∃n10,rI h8 (ad (nb h) 2) n10 ∧
∃n11,rI h8 (ad f 2) n11 ∧
Q [vB (n10==n11)] h8) else
(Q [vB false] h8))
theorem O_siread_Table_take_1 (a:Int)(b:BA)(c:Int)(d:BA)(e:Int)(f:Addr){h Q}(H:F_siread_Table_take_1 a b c d e f h Q):S_siread_Table_take_1 a b c d e f h Q:=fo Tryz.func151 Z H
def F_siread_Table_Owners_1 (a:Int)(b:BA)(c:Int)(d:BA)(e:Int)(f:Addr)(h:Hp)(Q:PQ):Prop:=
wth (pu h (oc #[vI a,vS b,vI c,vS d,vI e] T_siread_Thing)) fun h1=>
∃n2,rI h1 (ad (nb h) 0) n2∧∃s3,rS h1 (ad (nb h) 1) s3∧∃n4,rI h1 (ad (nb h) 2) n4∧∃s5,rS h1 (ad (nb h) 3) s5∧∃n6,rI h1 (ad (nb h) 4) n6∧∃n7,rI h1 (ad f 0) n7∧∃s8,rS h1 (ad f 1) s8∧∃n9,rI h1 (ad f 2) n9∧∃s10,rS h1 (ad f 3) s10∧∃n11,rI h1 (ad f 4) n11∧(if (n2==n7 && (s3==s8 && (n4==n9 && (s5==s10 && (n6==n11 && true)))))=true then (Q [vB true] h1) else
(∃n12,rI h1 (ad f 0) n12∧∃s13,rS h1 (ad f 1) s13∧∃n14,rI h1 (ad f 2) n14∧∃s15,rS h1 (ad f 3) s15∧∃n16,rI h1 (ad f 4) n16∧S_siread_Thing_fine n12 s13 n14 s15 n16 h1 fun vs17 h18=>
∃b19,vs17=[vB b19] ∧
(if b19=true then (∃n20,rI h18 (ad (nb h) 0) n20∧∃s21,rS h18 (ad (nb h) 1) s21∧∃n22,rI h18 (ad (nb h) 2) n22∧∃s23,rS h18 (ad (nb h) 3) s23∧∃n24,rI h18 (ad (nb h) 4) n24∧∃n25,rI h18 (ad f 0) n25∧∃s26,rS h18 (ad f 1) s26∧∃n27,rI h18 (ad f 2) n27∧∃s28,rS h18 (ad f 3) s28∧∃n29,rI h18 (ad f 4) n29∧S_siread_Thing_rel n25 s26 n27 s28 n29 h18 fun vs30 h31=>
∃n32 s33 n34 s35 n36,vs30=[(vA #[vI n32,vS s33,vI n34,vS s35,vI n36])] ∧
rI h31 (ad (nb h) 0) n20∧rS h31 (ad (nb h) 1) s21∧rI h31 (ad (nb h) 2) n22∧rS h31 (ad (nb h) 3) s23∧rI h31 (ad (nb h) 4) n24∧Q [(vB (n20==n32 && (s21==s33 && (n22==n34 && (s23==s35 && (n24==n36 && true))))))] h31) else
(Q [vB false] h18))))
theorem O_siread_Table_Owners_1 (a:Int)(b:BA)(c:Int)(d:BA)(e:Int)(f:Addr){h Q}(H:F_siread_Table_Owners_1 a b c d e f h Q):S_siread_Table_Owners_1 a b c d e f h Q:=fo Tryz.func159 Z H
def F_leaf_Leaves_Range (a:OA)(b c:BA)(h:Hp)(Q:PQ):Prop:=
∀J1:PQ,(∀b2 h3,((if b2=true then
(Q [(vC none 0 0),(vC none 0 0)] h3) else
(nilW a fun a4=>∃l5 : Sl,rL h3 (ad a4 1) l5 ∧
∀J6:PQ,(∀n7 h8,(nilW a fun a9=>∃l10 : Sl,rL h8 (ad a9 1) l10 ∧
S_leaf_Leaves_at a b h8 fun vs11 h12=>
∃n13,vs11=[vI n13] ∧
rL h12 (ad a9 1) l10∧(0≤n13∧n13≤(wi (n7+1))∧(wi (n7+1))≤(l10.c : Nat))∧∀X14:PQ,(∀l15 : Sl,∀l16 : Sl,∀(n17:Int) h18,((if (decide (n17 < ((((tn (wi (n7+1))) - (tn n13)) : Nat) : Int)))=true then
(nilW (slAd l10.a (tn n13) l10.c 1) fun a19=>ixOk n17 ((tn (wi (n7+1))) - (tn n13)) (∃p20,rP h18 (ad a19 (tn n17*1)) p20 ∧
nilW p20 fun a21=>∃n22,rI h18 (ad a21 0) n22 ∧
wth (pu h18 (oc #[vI n22] T_int)) fun h23=>
∃cs44,cellsAt h23 (some (nb h18)) (1*1) cs44∧appS PP T_int 8 1 h23 ⟨l16.a,l16.n,l16.c⟩ 1 cs44 fun l24 h25=>
nilW p20 fun a26=>∃l27 : Sl,rL h25 (ad a26 2) l27 ∧
∀X28:PQ,(∀l29 : Sl,∀n30 h31,((if (decide (n30 < (l27.n : Int)))=true then
(∀J32:PQ,(∀l33 : Sl,∀h34,(X28 [vL l33,vI (wi (n30+1))] h34)→J32 [vL l33] h34) →
nilW l27.a fun a35=>ixOk n30 l27.n (∃s36,rS h31 (ad a35 (tn n30*1)) s36 ∧
∀J37:PQ,(∀b38 h39,((if b38=true then
(wth (pu h39 (oc #[vS s36] T_string)) fun h40=>
∃cs43,cellsAt h40 (some (nb h39)) (1*1) cs43∧appS PP T_string 16 1 h40 ⟨l29.a,l29.n,l29.c⟩ 1 cs43 fun l41 h42=>
J32 [vL l41] h42) else
(J32 [vL l29] h39)))→J37 [vB b38] h39) →
(if (!(Op.bytesLess (bl s36) (bl b)))=true then ((if ((bl c)==(bl (ByteArray.mk #[])))=true then (J37 [vB true] h31) else
(J37 [vB (Op.bytesLess (bl s36) (bl c))] h31))) else
(J37 [vB false] h31)))) else
(X14 [vL l29,vL l24,vI (wi (n17+1))] h31)))→X28 [vL l29,vI n30] h31) →
X28 [vL l15,vI 0] h25)) else
(Q [vL l15,vL l16] h18)))→X14 [vL l15,vL l16,vI n17] h18) →
X14 [(vC none 0 0),(vC none 0 0),vI 0] h12)→J6 [vI n7] h8) →
(if (!((bl c)==(bl (ByteArray.mk #[]))))=true then
(S_leaf_Leaves_at a c h3 fun vs45 h46=>
∃n47,vs45=[vI n47] ∧
J6 [vI n47] h46) else
(J6 [(vI (wi ((l5.n : Int) - 1)))] h3)))))→J1 [vB b2] h3) →
(if (isn a)=true then (J1 [vB true] h) else
((if (!((bl c)==(bl (ByteArray.mk #[]))))=true then (J1 [vB (Op.bytesLess (bl c) (bl b)||(bl c)==(bl b))] h) else
(J1 [vB false] h))))
theorem O_leaf_Leaves_Range (a:OA)(b c:BA){h Q}(H:F_leaf_Leaves_Range a b c h Q):S_leaf_Leaves_Range a b c h Q:=fo Tryz.func166 (R (N (L (.mk (some ⟨[0,1,2,6,7],[(23,(.c .bool))]⟩) E Z Z)) (R (N (R (.mk (some ⟨[0,1,2,6,7],[(8,(.c (.int .i64)))]⟩) E Z Z)) (L (R (L (.mk none ⟨[1,2,44,45],[(6,(.c .sl)),(7,(.c .sl)),(46,(.c (.int .i64)))]⟩ (R (R (L (L (R (R (R (L (.mk none ⟨[1,2,7,44,45,46,60,61],[(6,(.c .sl)),(62,(.c (.int .i64)))]⟩ (R (R (L (.mk (some ⟨[1,2,7,44,45,46,60,61,62],[(6,(.c .sl))]⟩) E (R (L (.mk (some ⟨[1,2,6,7,12,44,45,46,60,61,62],[(77,(.c .bool))]⟩) E Z Z))) Z)))) Z))))))))) Z)))))))) H
def F_index_entries (a:Sl)(h:Hp)(Q:PQ):Prop:=
wth (pu h (oc #[vL a] T_sstring)) fun h1=>
Q [(Value.func (.func 199) #[] #[vP (some (nb h))])] h1
theorem O_index_entries (a:Sl){h Q}(H:F_index_entries a h Q):S_index_entries a h Q:=fo Tryz.func167 Z H
def F_siread_Table_Drop_1 (a:Int)(b:BA)(c:Int)(d:BA)(e:Int)(h:Hp)(Q:PQ):Prop:=
wth (pu h (oc #[vI a,vS b,vI c,vS d,vI e] T_siread_Thing)) fun h1=>
Q [vB true] h1
theorem O_siread_Table_Drop_1 (a:Int)(b:BA)(c:Int)(d:BA)(e:Int){h Q}(H:F_siread_Table_Drop_1 a b c d e h Q):S_siread_Table_Drop_1 a b c d e h Q:=fo Tryz.func168 Z H
def F_edge_Edges_Drop_1 (a b c:Int)(d:Addr)(h:Hp)(Q:PQ):Prop:=
wth (pu h (oc #[vI a,vI b] T_2_int)) fun h1=>
ixOk 0 2 (∃n2,rI h1 (ad (nb h) (tn 0*1)) n2 ∧
∃n3,rI h1 d n3 ∧
(if (n2==n3)=true then (Q [vB true] h1) else
(ixOk 1 2 (∃n4,rI h1 (ad (nb h) (tn 1*1)) n4 ∧
∃n5,rI h1 d n5 ∧
Q [vB (n4==n5)] h1))))
theorem O_edge_Edges_Drop_1 (a b c:Int)(d:Addr){h Q}(H:F_edge_Edges_Drop_1 a b c d h Q):S_edge_Edges_Drop_1 a b c d h Q:=fo Tryz.func170 Z H
def F_key_wide (a:BA)(h:Hp)(Q:PQ):Prop:=
(if (decide ((bz a : Int) < (8 : Int)))=true then
(Q [(Value.int .u64 0),vS (ByteArray.mk #[]),vB false] h) else
(∀X1:PQ,(∀n2 n3 h4,((if (decide (n3 < (8 : Int)))=true then
(shOk 8 (ixOk n3 (bz a) (X1 [(Value.int .u64 (iOr .u64 (iShl .u64 n2 8) (IntKind.wrap .u64 (strIx a n3)))),vI (wi (n3+1))] h4))) else
((0≤(8 : Int)∧(8 : Int)≤((bz a) : Nat))∧Q [(Value.int .u64 n2),vS (ByteArray.extract a (tn 8) (bz a)),vB true] h4)))→X1 [(Value.int .u64 n2),vI n3] h4) →
X1 [(Value.int .u64 0),vI 0] h))
theorem O_key_wide (a:BA){h Q}(H:F_key_wide a h Q):S_key_wide a h Q:=fo Tryz.func240 (R (R (L (R (L (.mk none ⟨[0],[(2,(.c (.int .u64))),(9,(.c (.int .i64)))]⟩ Z Z)))))) H
def F_float_Is (a:Nat)(h:Hp)(Q:PQ):Prop:=
S_math_Float64bits a h fun vs1 h2=>
∃n3,vs1=[(Value.int .u64 n3)] ∧
S_float_Canon a h2 fun vs4 h5=>
∃x6,vs4=[(Value.float .f64 x6)] ∧
S_math_Float64bits x6 h5 fun vs7 h8=>
∃n9,vs7=[(Value.int .u64 n9)] ∧
Q [vB (n3==n9)] h8
theorem O_float_Is (a:Nat){h Q}(H:F_float_Is a h Q):S_float_Is a h Q:=fo Tryz.func231 Z H
def F_float_From (a:Int)(h:Hp)(Q:PQ):Prop:=
∀J1:PQ,(∀n2 h3,(S_math_Float64frombits n2 h3 fun vs4 h5=>
∃x6,vs4=[(Value.float .f64 x6)] ∧
S_float_Is x6 h5 fun vs7 h8=>
∃b9,vs7=[vB b9] ∧
(if (!b9)=true then
(Q [(Value.float .f64 0),vB false] h8) else
(Q [(Value.float .f64 x6),vB true] h8)))→J1 [(Value.int .u64 n2)] h3) →
(if ((iAnd .u64 a 9223372036854775808) != 0)=true then
(J1 [(Value.int .u64 (iAndNot .u64 a 9223372036854775808))] h) else
(J1 [(Value.int .u64 (iXor .u64 (IntKind.max .u64) a))] h))
theorem O_float_From (a:Int){h Q}(H:F_float_From a h Q):S_float_From a h Q:=fo Tryz.func241 (R (R (L (R (.mk (some ⟨[],[(4,(.c (.int .u64)))]⟩) E Z Z))))) H
def F_key_text (a:BA)(h:Hp)(Q:PQ):Prop:=
wth (pu h (oc #[vP none,(vC none 0 0)] T_strings_Builder)) fun h1=>
∀X2:PQ,(∀s3 h4,(S_strings_IndexByte s3 0 h4 fun vs5 h6=>
∃n7,vs5=[vI n7] ∧
∀J8:PQ,(∀b9 h10,((if b9=true then
(Q [vS (ByteArray.mk #[]),vS (ByteArray.mk #[]),vB false] h10) else
((0≤n7∧n7≤((bz s3) : Nat))∧S_strings_Builder_WriteString (some (nb h)) (ByteArray.extract s3 0 (tn n7)) h10 fun vs11 h12=>
∃n13 v14,vs11=[vI n13,v14] ∧
(0≤n7∧n7≤(wi (n7+2))∧(wi (n7+2))≤((bz s3) : Nat))∧(if ((bl (ByteArray.extract s3 (tn n7) (tn (wi (n7+2)))))==(bl (ByteArray.mk #[0,1])))=true then
((0≤(wi (n7+2))∧(wi (n7+2))≤((bz s3) : Nat))∧S_strings_Builder_String (some (nb h)) h12 fun vs15 h16=>
∃s17,vs15=[vS s17] ∧
Q [vS s17,(vS (ByteArray.extract s3 (tn (wi (n7+2))) (bz s3))),vB true] h16) else
((if ((bl (ByteArray.extract s3 (tn n7) (tn (wi (n7+2)))))==(bl (ByteArray.mk #[0,255])))=true then
(S_strings_Builder_WriteByte (some (nb h)) 0 h12 fun vs18 h19=>
∃v20,vs18=[v20] ∧
(0≤(wi (n7+2))∧(wi (n7+2))≤((bz s3) : Nat))∧X2 [(vS (ByteArray.extract s3 (tn (wi (n7+2))) (bz s3)))] h19) else
(Q [vS (ByteArray.mk #[]),vS (ByteArray.mk #[]),vB false] h12)))))))→J8 [vB b9] h10) →
(if (decide (n7 < (0 : Int)))=true then (J8 [vB true] h6) else
(J8 [(vB ((wi (n7+1))==(bz s3 : Int)))] h6)))→X2 [vS s3] h4) →
X2 [vS a] h1
theorem O_key_text (a:BA){h Q}(H:F_key_text a h Q):S_key_text a h Q:=fo Tryz.func242 (R (R (L (.mk none ⟨[5],[(0,(.c .str))]⟩ (L (R (L (L (.mk (some ⟨[0,5,6],[(17,(.c .bool))]⟩) E Z Z))))) Z)))) H
def F_key_first (a:BA)(h:Hp)(Q:PQ):Prop:=
wth (pu h (oc #[vI 0,vI 0,(Value.float .f64 0),vS (ByteArray.mk #[])] T_api_Value)) fun h1=>
(if ((bl a)==(bl (ByteArray.mk #[])))=true then
(stOk h1 (nb h) 4∧wth (wrs h1 (nb h) 0 [vI 0,vI 0,(Value.float .f64 0),vS (ByteArray.mk #[])]) fun h2=>
∃n3,rI h2 (ad (nb h) 0) n3∧∃n4,rI h2 (ad (nb h) 1) n4∧∃x5,rd h2 (ad (nb h) 2)=some (Value.float .f64 x5)∧∃s6,rS h2 (ad (nb h) 3) s6∧Q [(vA #[vI n3,vI n4,(Value.float .f64 x5),vS s6]),vS (ByteArray.mk #[]),vB false] h2) else
(ixOk 0 (bz a) ((0≤(1 : Int)∧(1 : Int)≤((bz a) : Nat))∧stOk h1 (ad (nb h) 0) 1∧wth (wrs h1 (ad (nb h) 0) 0 [vI (wi (strIx a 0))]) fun h7=>
∃n8,rI h7 (ad (nb h) 0) n8 ∧
∀J9:PQ,(∀s10 b11 h12,(∀J13:PQ,(∀b14 h15,((if b14=true then
(stOk h15 (nb h) 4∧wth (wrs h15 (nb h) 0 [vI 0,vI 0,(Value.float .f64 0),vS (ByteArray.mk #[])]) fun h16=>
∃n17,rI h16 (ad (nb h) 0) n17∧∃n18,rI h16 (ad (nb h) 1) n18∧∃x19,rd h16 (ad (nb h) 2)=some (Value.float .f64 x19)∧∃s20,rS h16 (ad (nb h) 3) s20∧Q [(vA #[vI n17,vI n18,(Value.float .f64 x19),vS s20]),vS (ByteArray.mk #[]),vB false] h16) else
(∃n21,rI h15 (ad (nb h) 0) n21∧∃n22,rI h15 (ad (nb h) 1) n22∧∃x23,rd h15 (ad (nb h) 2)=some (Value.float .f64 x23)∧∃s24,rS h15 (ad (nb h) 3) s24∧stOk h15 (nb h) 4∧wth (wrs h15 (nb h) 0 [vI n21,vI n22,(Value.float .f64 x23),vS s24]) fun h25=>
∃n26,rI h25 (ad (nb h) 0) n26∧∃n27,rI h25 (ad (nb h) 1) n27∧∃x28,rd h25 (ad (nb h) 2)=some (Value.float .f64 x28)∧∃s29,rS h25 (ad (nb h) 3) s29∧Q [(vA #[vI n26,vI n27,(Value.float .f64 x28),vS s29]),vS s10,vB true] h25)))→J13 [vB b14] h15) →
(if (!b11)=true then (J13 [vB true] h12) else
(∃n30,rI h12 (ad (nb h) 0) n30∧∃n31,rI h12 (ad (nb h) 1) n31∧∃x32,rd h12 (ad (nb h) 2)=some (Value.float .f64 x32)∧∃s33,rS h12 (ad (nb h) 3) s33∧S_value_Good n30 n31 x32 s33 h12 fun vs34 h35=>
∃b36,vs34=[vB b36] ∧
J13 [vB (!b36)] h35)))→J9 [vS s10,vB b11] h12) →
(if (n8==0)=true then
(J9 [vS (ByteArray.extract a (tn 1) (bz a)),vB true] h7) else
((if (n8==1)=true then
((if ((bl (ByteArray.extract a (tn 1) (bz a)))==(bl (ByteArray.mk #[])))=true then
(stOk h7 (nb h) 4∧wth (wrs h7 (nb h) 0 [vI 0,vI 0,(Value.float .f64 0),vS (ByteArray.mk #[])]) fun h37=>
∃n38,rI h37 (ad (nb h) 0) n38∧∃n39,rI h37 (ad (nb h) 1) n39∧∃x40,rd h37 (ad (nb h) 2)=some (Value.float .f64 x40)∧∃s41,rS h37 (ad (nb h) 3) s41∧Q [(vA #[vI n38,vI n39,(Value.float .f64 x40),vS s41]),vS (ByteArray.mk #[]),vB false] h37) else
(ixOk 0 (bz (ByteArray.extract a (tn 1) (bz a))) ((0≤(1 : Int)∧(1 : Int)≤((bz (ByteArray.extract a (tn 1) (bz a))) : Nat))∧stOk h7 (ad (nb h) 1) 1∧wth (wrs h7 (ad (nb h) 1) 0 [(vI (wi (strIx (ByteArray.extract a (tn 1) (bz a)) 0)))]) fun h42=>
J9 [(vS (ByteArray.extract (ByteArray.extract a (tn 1) (bz a)) (tn 1) (bz (ByteArray.extract a (tn 1) (bz a))))),vB true] h42)))) else
((if (n8==2)=true then
(S_key_wide (ByteArray.extract a (tn 1) (bz a)) h7 fun vs43 h44=>
∃n45 s46 b47,vs43=[(Value.int .u64 n45),vS s46,vB b47] ∧
stOk h44 (ad (nb h) 1) 1∧wth (wrs h44 (ad (nb h) 1) 0 [vI (wi (iXor .u64 n45 9223372036854775808))]) fun h48=>
J9 [vS s46,vB b47] h48) else
((if (n8==3)=true then
(S_key_wide (ByteArray.extract a (tn 1) (bz a)) h7 fun vs49 h50=>
∃n51 s52 b53,vs49=[(Value.int .u64 n51),vS s52,vB b53] ∧
S_float_From n51 h50 fun vs54 h55=>
∃x56 b57,vs54=[(Value.float .f64 x56),vB b57] ∧
(if b53=true then (stOk h55 (ad (nb h) 2) 1∧wth (wrs h55 (ad (nb h) 2) 0 [(Value.float .f64 x56)]) fun h58=>
J9 [vS s52,vB b57] h58) else
(stOk h55 (ad (nb h) 2) 1∧wth (wrs h55 (ad (nb h) 2) 0 [(Value.float .f64 x56)]) fun h59=>
J9 [vS s52,vB false] h59))) else
((if (n8==4)=true then
(S_key_text (ByteArray.extract a (tn 1) (bz a)) h7 fun vs60 h61=>
∃s62 s63 b64,vs60=[vS s62,vS s63,vB b64] ∧
stOk h61 (ad (nb h) 3) 1∧wth (wrs h61 (ad (nb h) 3) 0 [vS s62]) fun h65=>
J9 [vS s63,vB b64] h65) else
(J9 [vS (ByteArray.extract a (tn 1) (bz a)),vB true] h7)))))))))))))
theorem O_key_first (a:BA){h Q}(H:F_key_first a h Q):S_key_first a h Q:=fo Tryz.func223 (R (R (R (R (N (R (.mk (some ⟨[2],[(3,(.c .str)),(4,(.c .bool))]⟩) E Z Z)) (L (L (.mk (some ⟨[2,3],[(78,(.c .bool))]⟩) E Z Z)))))))) H
def F_key_Split (a:BA)(h:Hp)(Q:PQ):Prop:=
wth (pu h (oc #[vI 0,vI 0,(Value.float .f64 0),vS (ByteArray.mk #[])] T_api_Value)) fun h1=>
S_key_first a h1 fun vs2 h3=>
∃n4 n5 x6 s7 s8 b9,vs2=[(vA #[vI n4,vI n5,(Value.float .f64 x6),vS s7]),vS s8,vB b9] ∧
stOk h3 (nb h) 4∧wth (wrs h3 (nb h) 0 [vI n4,vI n5,(Value.float .f64 x6),vS s7]) fun h10=>
∀J11:PQ,(∀b12 h13,((if b12=true then
(stOk h13 (nb h) 4∧wth (wrs h13 (nb h) 0 [vI 0,vI 0,(Value.float .f64 0),vS (ByteArray.mk #[])]) fun h14=>
∃n15,rI h14 (ad (nb h) 0) n15∧∃n16,rI h14 (ad (nb h) 1) n16∧∃x17,rd h14 (ad (nb h) 2)=some (Value.float .f64 x17)∧∃s18,rS h14 (ad (nb h) 3) s18∧Q [(vA #[vI n15,vI n16,(Value.float .f64 x17),vS s18]),vI 0,vI 11] h14) else
(∃n19,rI h13 (ad (nb h) 0) n19∧∃n20,rI h13 (ad (nb h) 1) n20∧∃x21,rd h13 (ad (nb h) 2)=some (Value.float .f64 x21)∧∃s22,rS h13 (ad (nb h) 3) s22∧ixOk 0 (bz s8) (shOk 8 (ixOk 1 (bz s8) (stOk h13 (nb h) 4∧wth (wrs h13 (nb h) 0 [vI n19,vI n20,(Value.float .f64 x21),vS s22]) fun h23=>
∃n24,rI h23 (ad (nb h) 0) n24∧∃n25,rI h23 (ad (nb h) 1) n25∧∃x26,rd h23 (ad (nb h) 2)=some (Value.float .f64 x26)∧∃s27,rS h23 (ad (nb h) 3) s27∧Q [(vA #[vI n24,vI n25,(Value.float .f64 x26),vS s27]),(vI (iOr .i64 (iShl .i64 (wi (strIx s8 0)) 8) (wi (strIx s8 1)))),vI 0] h23))))))→J11 [vB b12] h13) →
(if (!b9)=true then (J11 [vB true] h10) else
(J11 [vB ((bz s8 : Int) != 2)] h10))
theorem O_key_Split (a:BA){h Q}(H:F_key_Split a h Q):S_key_Split a h Q:=fo Tryz.func200 (R (R (L (L (.mk (some ⟨[2,5],[(19,(.c .bool))]⟩) E Z Z))))) H
def FD_cmp_Or_int (a:Sl)(h:Hp)(Q:PQ):Prop:=
∀X1:PQ,(∀n2 h3,((if (decide (n2 < (a.n : Int)))=true then
(nilW a.a fun a4=>ixOk n2 a.n (∃n5,rI h3 (ad a4 (tn n2*1)) n5 ∧
(if (n5 != 0)=true then
(Q [vI n5] h3) else
(X1 [vI (wi (n2+1))] h3)))) else
(Q [vI 0] h3)))→X1 [vI n2] h3) →
X1 [vI 0] h
theorem OD_cmp_Or_int (a:Sl){h Q}(H:FD_cmp_Or_int a h Q):SD_cmp_Or_int a h Q:=foD Tryz.func227 (R (R (L (R (L (.mk none ⟨[3,6,7],[(8,(.c (.int .i64)))]⟩ Z Z)))))) H
def FD_cmp_Compare_int (a b:Int)(h:Hp)(Q:PQ):Prop:=
SD_cmp_isNaN_int a h fun vs1 h2=>
∃b3,vs1=[vB b3] ∧
SD_cmp_isNaN_int b h2 fun vs4 h5=>
∃b6,vs4=[vB b6] ∧
(if b3=true then
((if b6=true then
(Q [vI 0] h5) else
(Q [vI (-1 : Int)] h5))) else
((if b6=true then
(Q [vI 1] h5) else
((if (decide (a < b))=true then
(Q [vI (-1 : Int)] h5) else
((if (decide (a > b))=true then
(Q [vI 1] h5) else
(Q [vI 0] h5))))))))
theorem OD_cmp_Compare_int (a b:Int){h Q}(H:FD_cmp_Compare_int a b h Q):SD_cmp_Compare_int a b h Q:=foD Tryz.func228 Z H
def FD_siread_compare (a:Int)(b:BA)(c:Int)(d:BA)(e f:Int)(g:BA)(i:Int)(j:BA)(k:Int)(h:Hp)(Q:PQ):Prop:=
wth (pu h (oc #[vI a,vS b,vI c,vS d,vI e] T_siread_Thing)) fun h1=>
wth (pu h1 (oc #[vI f,vS g,vI i,vS j,vI k] T_siread_Thing)) fun h2=>
∃n3,rI h2 (ad (nb h) 0) n3 ∧
∃n4,rI h2 (ad (nb h1) 0) n4 ∧
∃s5,rS h2 (ad (nb h) 1) s5 ∧
∃s6,rS h2 (ad (nb h1) 1) s6 ∧
∃n7,rI h2 (ad (nb h) 2) n7 ∧
∃n8,rI h2 (ad (nb h1) 2) n8 ∧
∃s9,rS h2 (ad (nb h) 3) s9 ∧
∃s10,rS h2 (ad (nb h1) 3) s10 ∧
∃n11,rI h2 (ad (nb h) 4) n11 ∧
∃n12,rI h2 (ad (nb h1) 4) n12 ∧
SD_cmp_Compare_int n3 n4 h2 fun vs13 h14=>
∃n15,vs13=[vI n15] ∧
rI h14 (ad (nb h1) 4) n12∧rI h14 (ad (nb h) 4) n11∧rS h14 (ad (nb h1) 3) s10∧rS h14 (ad (nb h) 3) s9∧rI h14 (ad (nb h1) 2) n8∧rI h14 (ad (nb h) 2) n7∧rS h14 (ad (nb h1) 1) s6∧rS h14 (ad (nb h) 1) s5∧SD_cmp_Compare_string s5 s6 h14 fun vs16 h17=>
∃n18,vs16=[vI n18] ∧
rI h17 (ad (nb h1) 4) n12∧rI h17 (ad (nb h) 4) n11∧rS h17 (ad (nb h1) 3) s10∧rS h17 (ad (nb h) 3) s9∧rI h17 (ad (nb h1) 2) n8∧rI h17 (ad (nb h) 2) n7∧SD_cmp_Compare_int n7 n8 h17 fun vs19 h20=>
∃n21,vs19=[vI n21] ∧
rI h20 (ad (nb h1) 4) n12∧rI h20 (ad (nb h) 4) n11∧rS h20 (ad (nb h1) 3) s10∧rS h20 (ad (nb h) 3) s9∧SD_cmp_Compare_string s9 s10 h20 fun vs22 h23=>
∃n24,vs22=[vI n24] ∧
rI h23 (ad (nb h1) 4) n12∧rI h23 (ad (nb h) 4) n11∧SD_cmp_Compare_int n11 n12 h23 fun vs25 h26=>
∃n27,vs25=[vI n27] ∧
wth (pu h26 (oc #[vI n15,vI n18,vI n21,vI n24,vI n27] T_int)) fun h28=>
SD_cmp_Or_int ⟨(some (nb h26)),5,5⟩ h28 fun vs29 h30=>
∃n31,vs29=[vI n31] ∧
Q [vI n31] h30
theorem OD_siread_compare (a:Int)(b:BA)(c:Int)(d:BA)(e f:Int)(g:BA)(i:Int)(j:BA)(k:Int){h Q}(H:FD_siread_compare a b c d e f g i j k h Q):SD_siread_compare a b c d e f g i j k h Q:=foD Tryz.func203 Z H
def F_value_own_bare (a b:Int)(c:Nat)(d:BA)(e f g:Bool)(h:Hp)(Q:PQ):Prop:=
wth (pu h (oc #[vI a,vI b,(Value.float .f64 c),vS d] T_value_own)) fun h1=>
(if e=true then ((if f=true then ((if g=true then (Q [vB true] h1) else
(∃s2,rS h1 (ad (nb h) 3) s2 ∧
Q [(vB ((bl s2)==(bl (ByteArray.mk #[]))))] h1))) else
(∃x3,rd h1 (ad (nb h) 2)=some (Value.float .f64 x3) ∧
S_math_Float64bits x3 h1 fun vs4 h5=>
∃n6,vs4=[(Value.int .u64 n6)] ∧
(if (n6==0)=true then ((if g=true then (Q [vB true] h5) else
(∃s7,rS h5 (ad (nb h) 3) s7 ∧
Q [(vB ((bl s7)==(bl (ByteArray.mk #[]))))] h5))) else
(Q [vB false] h5))))) else
(∃n8,rI h1 (ad (nb h) 1) n8 ∧
(if (n8==0)=true then ((if f=true then ((if g=true then (Q [vB true] h1) else
(∃s9,rS h1 (ad (nb h) 3) s9 ∧
Q [(vB ((bl s9)==(bl (ByteArray.mk #[]))))] h1))) else
(∃x10,rd h1 (ad (nb h) 2)=some (Value.float .f64 x10) ∧
S_math_Float64bits x10 h1 fun vs11 h12=>
∃n13,vs11=[(Value.int .u64 n13)] ∧
(if (n13==0)=true then ((if g=true then (Q [vB true] h12) else
(∃s14,rS h12 (ad (nb h) 3) s14 ∧
Q [(vB ((bl s14)==(bl (ByteArray.mk #[]))))] h12))) else
(Q [vB false] h12))))) else
(Q [vB false] h1))))
theorem O_value_own_bare (a b:Int)(c:Nat)(d:BA)(e f g:Bool){h Q}(H:F_value_own_bare a b c d e f g h Q):S_value_own_bare a b c d e f g h Q:=fo Tryz.func230 Z H
def F_value_own_null (a b:Int)(c:Nat)(d:BA)(h:Hp)(Q:PQ):Prop:=
wth (pu h (oc #[vI a,vI b,(Value.float .f64 c),vS d] T_value_own)) fun h1=>
∃n2,rI h1 (ad (nb h) 0) n2∧∃n3,rI h1 (ad (nb h) 1) n3∧∃x4,rd h1 (ad (nb h) 2)=some (Value.float .f64 x4)∧∃s5,rS h1 (ad (nb h) 3) s5∧S_value_own_bare n2 n3 x4 s5 false false false h1 fun vs6 h7=>
∃b8,vs6=[vB b8] ∧
Q [vB b8] h7
theorem O_value_own_null (a b:Int)(c:Nat)(d:BA){h Q}(H:F_value_own_null a b c d h Q):S_value_own_null a b c d h Q:=fo Tryz.func205 Z H
def F_value_own_bool (a b:Int)(c:Nat)(d:BA)(h:Hp)(Q:PQ):Prop:=
wth (pu h (oc #[vI a,vI b,(Value.float .f64 c),vS d] T_value_own)) fun h1=>
∃n2,rI h1 (ad (nb h) 0) n2∧∃n3,rI h1 (ad (nb h) 1) n3∧∃x4,rd h1 (ad (nb h) 2)=some (Value.float .f64 x4)∧∃s5,rS h1 (ad (nb h) 3) s5∧S_value_own_bare n2 n3 x4 s5 true false false h1 fun vs6 h7=>
∃b8,vs6=[vB b8] ∧
(if b8=true then (∃n9,rI h7 (ad (nb h) 1) n9 ∧
(if (n9==0)=true then (Q [vB true] h7) else
(∃n10,rI h7 (ad (nb h) 1) n10 ∧
Q [vB (n10==1)] h7))) else
(Q [vB false] h7))
theorem O_value_own_bool (a b:Int)(c:Nat)(d:BA){h Q}(H:F_value_own_bool a b c d h Q):S_value_own_bool a b c d h Q:=fo Tryz.func206 Z H
def F_value_own_int (a b:Int)(c:Nat)(d:BA)(h:Hp)(Q:PQ):Prop:=
wth (pu h (oc #[vI a,vI b,(Value.float .f64 c),vS d] T_value_own)) fun h1=>
∃n2,rI h1 (ad (nb h) 0) n2∧∃n3,rI h1 (ad (nb h) 1) n3∧∃x4,rd h1 (ad (nb h) 2)=some (Value.float .f64 x4)∧∃s5,rS h1 (ad (nb h) 3) s5∧S_value_own_bare n2 n3 x4 s5 true false false h1 fun vs6 h7=>
∃b8,vs6=[vB b8] ∧
Q [vB b8] h7
theorem O_value_own_int (a b:Int)(c:Nat)(d:BA){h Q}(H:F_value_own_int a b c d h Q):S_value_own_int a b c d h Q:=fo Tryz.func207 Z H
def F_value_own_float (a b:Int)(c:Nat)(d:BA)(h:Hp)(Q:PQ):Prop:=
wth (pu h (oc #[vI a,vI b,(Value.float .f64 c),vS d] T_value_own)) fun h1=>
∃n2,rI h1 (ad (nb h) 0) n2∧∃n3,rI h1 (ad (nb h) 1) n3∧∃x4,rd h1 (ad (nb h) 2)=some (Value.float .f64 x4)∧∃s5,rS h1 (ad (nb h) 3) s5∧S_value_own_bare n2 n3 x4 s5 false true false h1 fun vs6 h7=>
∃b8,vs6=[vB b8] ∧
(if b8=true then (∃x9,rd h7 (ad (nb h) 2)=some (Value.float .f64 x9) ∧
S_float_Is x9 h7 fun vs10 h11=>
∃b12,vs10=[vB b12] ∧
Q [vB b12] h11) else
(Q [vB false] h7))
theorem O_value_own_float (a b:Int)(c:Nat)(d:BA){h Q}(H:F_value_own_float a b c d h Q):S_value_own_float a b c d h Q:=fo Tryz.func208 Z H
def F_value_own_text (a b:Int)(c:Nat)(d:BA)(h:Hp)(Q:PQ):Prop:=
wth (pu h (oc #[vI a,vI b,(Value.float .f64 c),vS d] T_value_own)) fun h1=>
∃n2,rI h1 (ad (nb h) 0) n2∧∃n3,rI h1 (ad (nb h) 1) n3∧∃x4,rd h1 (ad (nb h) 2)=some (Value.float .f64 x4)∧∃s5,rS h1 (ad (nb h) 3) s5∧S_value_own_bare n2 n3 x4 s5 false false true h1 fun vs6 h7=>
∃b8,vs6=[vB b8] ∧
(if b8=true then (∃s9,rS h7 (ad (nb h) 3) s9 ∧
Q [(vB (decide ((bz s9 : Int)≤(256 : Int))))] h7) else
(Q [vB false] h7))
theorem O_value_own_text (a b:Int)(c:Nat)(d:BA){h Q}(H:F_value_own_text a b c d h Q):S_value_own_text a b c d h Q:=fo Tryz.func209 Z H
end Go.Lift


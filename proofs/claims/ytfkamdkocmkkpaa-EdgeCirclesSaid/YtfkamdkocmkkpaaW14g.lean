/- Edges: none; the law that wakes; EdgeNone. -/
import Derived.Test.YtfkamdkocmkkpaaW14f
set_option linter.unusedSimpArgs false
set_option linter.unusedVariables false
namespace Go.Lift
open Go Go.Proofs Go.RowKit Go.Shelf
set_option maxRecDepth 100000
theorem sortI_one (x : Int) : sortI [x] = [x] := by unfold sortI; exact List.mergeSort_singleton _
section
variable {G G' : Nat → Prop} {h h' h'' : Hp} {cb e : Nat} {L : LM} {E : EM} {Q : List Value → Hp → Prop}
theorem New14_s (hG : ∀ b, G b → b < h.size) (hC : ClAt h cb L) (hc : ¬ G cb) (hQ : ∀ h' e, EvS G h' cb e L ⟨[], []⟩ → Ext [] h h' → Q [.pointer (some ⟨e, 0, none⟩)] h') : S_edge_New (some ⟨cb, 0, none⟩) h Q := by
  refine O_edge_New _ ?_
  unfold F_edge_New
  refine newI fun h1 s1 b1 e1 => newI fun h2 s2 b2 e2 => newI fun h3 s3 b3 e3 => ?_
  have e13 := (e1.trans0 e2).trans0 e3
  have b1' := (e2.trans0 e3).get b1 (by simp)
  have b2' := e3.get b2 (by simp)
  have hng : ∀ b, h.size ≤ b → ¬ G b := fun b hb hg => by have := hG b hg; omega
  refine hQ h3 h2.size ⟨fun b hb => by have := hG b hb; omega, hC.ext0 e13, ⟨h.size, h1.size, b3, ⟨#[], 0, b1', rfl, Born.nil 0⟩, ⟨#[], 0, b2', rfl, Born.nil 0⟩, by omega, hng _ (by omega), hng _ (by omega)⟩, hc, hng _ (by omega)⟩ e13
theorem NewN_s (hQ : ∀ h' e v w, Blk h' e #[.pointer none, v, w] T_edge_Edges → Ext [] h h' → Q [.pointer (some ⟨e, 0, none⟩)] h') : S_edge_New none h Q := by
  refine O_edge_New _ ?_
  unfold F_edge_New
  refine newI fun h1 s1 b1 e1 => newI fun h2 s2 b2 e2 => newI fun h3 s3 b3 e3 => ?_
  exact hQ h3 h2.size _ _ b3 ((e1.trans0 e2).trans0 e3)
/-- No edges: a pointer to nothing, or edges over nothing. -/
def NoE (h : Hp) (p : Option Addr) : Prop := p = none ∨ ∃ b v w, p = some ⟨b, 0, none⟩ ∧ Blk h b #[.pointer none, v, w] T_edge_Edges
theorem NoE.ext0 {p : Option Addr} (hp : NoE h p) (he : Ext [] h h') : NoE h' p := by
  rcases hp with rfl | ⟨b, v, w, rfl, hb⟩
  · exact Or.inl rfl
  · exact Or.inr ⟨b, v, w, rfl, he.get hb (by simp)⟩
theorem noE_s {p : Option Addr} (hp : NoE h p) (hQ : Q [.bool true] h) : S_edge_Edges_none p h Q := by
  rcases hp with rfl | ⟨b, v, w, rfl, hb⟩
  · exact noneN_s hQ
  · exact noneO_s hb hQ
theorem DropN14_s {p : Option Addr} {x : Int} (hp : NoE h p) (hQ : ∀ h', Ext [] h h' → Q [] h') : S_edge_Edges_Drop p x h Q := by
  refine O_edge_Edges_Drop _ _ ?_
  unfold F_edge_Edges_Drop
  refine newI fun h1 s1 b1 e1 => ?_
  refine noE_s (hp.ext0 e1) ⟨_, rfl, ?_⟩
  rw [if_pos rfl]
  exact hQ h1 e1
theorem SpoiltN_s {p : Option Addr} {x : Int} (hp : NoE h p) (hQ : Q [.slice none 0 0, .bool false] h) : S_edge_Edges_Spoilt p x h Q := by
  refine O_edge_Edges_Spoilt _ _ ?_
  unfold F_edge_Edges_Spoilt
  intro J hJ
  refine noE_s hp ⟨_, rfl, ?_⟩
  rw [if_pos rfl]
  refine hJ _ _ ?_
  rw [if_pos rfl]
  exact hQ
theorem AddN_s {p : Option Addr} {x y : Int} (hp : NoE h p) (hQ : Q [.bool false] h) : S_edge_Edges_Add p x y h Q := by
  refine O_edge_Edges_Add _ _ _ ?_
  unfold F_edge_Edges_Add
  intro J hJ
  refine noE_s hp ⟨_, rfl, ?_⟩
  rw [if_pos rfl]
  refine hJ _ _ ?_
  rw [if_pos rfl]
  exact hQ
theorem OldInN_s {p : Option Addr} {x y : Int} (hp : NoE h p) (hQ : Q [.bool false] h) : S_edge_Edges_OldIn p x y h Q := by
  refine O_edge_Edges_OldIn _ _ _ ?_
  unfold F_edge_Edges_OldIn
  intro J hJ
  refine noE_s hp ⟨_, rfl, ?_⟩
  rw [if_pos rfl]
  refine hJ _ _ ?_
  rw [if_pos rfl]
  exact hQ
theorem endsN_s {p : Option Addr} {x k : Int} (hp : NoE h p) (hQ : Q [.slice none 0 0] h) : S_edge_Edges_ends p x k h Q := by
  refine O_edge_Edges_ends _ _ _ ?_
  unfold F_edge_Edges_ends
  refine noE_s hp ⟨_, rfl, ?_⟩
  rw [if_pos rfl]
  exact hQ
theorem InN_s {p : Option Addr} {x : Int} (hp : NoE h p) (hQ : Q [.slice none 0 0] h) : S_edge_Edges_In p x h Q := by
  refine O_edge_Edges_In _ _ ?_
  unfold F_edge_Edges_In
  exact endsN_s hp ⟨⟨none, 0, 0⟩, rfl, hQ⟩
theorem OutN_s {p : Option Addr} {x : Int} (hp : NoE h p) (hQ : Q [.slice none 0 0] h) : S_edge_Edges_Out p x h Q := by
  refine O_edge_Edges_Out _ _ ?_
  unfold F_edge_Edges_Out
  exact endsN_s hp ⟨⟨none, 0, 0⟩, rfl, hQ⟩
theorem OldN14_s {p : Option Addr} {x : Int} (hp : NoE h p) (hQ : Q [.int .i64 0] h) : S_edge_Edges_Old p x h Q := by
  refine O_edge_Edges_Old _ _ ?_
  unfold F_edge_Edges_Old
  refine noE_s hp ⟨_, rfl, ?_⟩
  rw [if_pos rfl]
  exact hQ
theorem AheadN_s {p : Option Addr} {x : Int} (hp : NoE h p) (hQ : Q [.slice none 0 0] h) : S_edge_Edges_Ahead p x h Q := by
  refine O_edge_Edges_Ahead _ _ ?_
  unfold F_edge_Edges_Ahead
  refine InN_s hp ⟨⟨none, 0, 0⟩, rfl, ?_⟩
  intro X hX
  refine hX ⟨none, 0, 0⟩ 0 _ ?_
  rw [if_neg (by decide)]
  exact hQ
theorem AllN_s {p : Option Addr} (hp : NoE h p) (hQ : Q [.slice none 0 0] h) : S_edge_Edges_All p h Q := by
  refine O_edge_Edges_All _ ?_
  unfold F_edge_Edges_All
  refine noE_s hp ⟨_, rfl, ?_⟩
  rw [if_pos rfl]
  exact hQ
def wL3 : LM := ⟨[⟨1, 0, 0, false⟩, ⟨1, 0, 0, false⟩, ⟨1, 0, 0, false⟩], 0⟩
def wL4 : LM := ⟨[⟨1, 0, 0, false⟩, ⟨1, 0, 0, false⟩, ⟨2, 1, 0, false⟩], 1⟩
def wE : EM := ⟨[(1, 2), (2, 3)], []⟩
theorem wL3_eq : beginL (beginL (beginL ⟨[], 0⟩ false) false) false = wL3 := by kernel_rfl
theorem wL4_eq : commitL wL3 3 = wL4 := by kernel_rfl
theorem wIn : inE wE 2 = [1] ∧ inE wE 3 = [2] ∧ outE wE 2 = [3] := by
  unfold inE outE
  refine ⟨?_, ?_, ?_⟩
  · have : (wE.m.filter fun q => decide (q.2 = 2)).map Prod.fst = [1] := by kernel_rfl
    rw [this, sortI_one]
  · have : (wE.m.filter fun q => decide (q.2 = 3)).map Prod.fst = [2] := by kernel_rfl
    rw [this, sortI_one]
  · have : (wE.m.filter fun q => decide (q.1 = 2)).map Prod.snd = [3] := by kernel_rfl
    rw [this, sortI_one]
theorem wSp3 : spoiltE wL3 wE 2 = ([], false) := by
  have hf : firstE wL3 wE 2 = 0 := by
    unfold firstE
    rw [wIn.2.2]
    kernel_rfl
  unfold spoiltE
  rw [hf]
  simp
theorem wSp4 : spoiltE wL4 wE 2 = ([1], true) := by
  have hf : firstE wL4 wE 2 = 1 := by
    unfold firstE
    rw [wIn.2.2]
    kernel_rfl
  unfold spoiltE
  have k : ([1] : List Int).foldl (spStep wL4 1) ([], decide (oldE wE 2 ≥ 1)) = ([1], true) := by kernel_rfl
  rw [hf, wIn.1, if_neg (by decide), if_neg (by decide)]
  exact k
theorem wAh : aheadE wL3 wE 3 = [2] := by
  unfold aheadE
  rw [wIn.2.1]
  have hb : (decide ((txL wL3 2).state = 1) && (inE wE 2).any (aheadB wL3 3)) = true := by
    have k : (decide ((txL wL3 2).state = 1) && ([1] : List Int).any (aheadB wL3 3)) = true := by kernel_rfl
    rw [wIn.1]
    exact k
  simp only [List.filter_cons, hb, if_true, List.filter_nil]
theorem wakes14_s (hQ : ∀ h', Ext [] h h' → Q [.bool true] h') : S_liverylaw14_wakes h Q := by
  refine O_liverylaw14_wakes ?_
  unfold F_liverylaw14_wakes
  refine New08_s fun h1 cb hC1 e1 hcb => ⟨_, rfl, ?_⟩
  have hG1 : ∀ b, b < h.size → b < h1.size := fun b hb => by have := e1.sz; omega
  refine New14_s (G := fun b => b < h.size) hG1 hC1 (by omega) fun h2 e hE2 e2 => ⟨_, rfl, ?_⟩
  have k2 := kg_ext0 (G := fun b => b < h.size) (e1.trans0 e2) fun b hb => hb
  have kgx : ∀ g, KG (fun b => b < h.size) h g → Ext [] h g := fun g hk => ⟨hk.sz, fun b hb _ => hk.old b hb⟩
  intro J hJ
  rw [if_neg (by simp)]
  refine hJ _ _ ?_
  rw [if_neg (by simp)]
  refine Begin_s hE2.cl false fun h3 hC3 e3 _ => ⟨_, _, rfl, ?_⟩
  obtain ⟨hE3, k3⟩ := hE2.log hC3 e3
  refine Begin_s hE3.cl false fun h4 hC4 e4 _ => ⟨_, _, rfl, ?_⟩
  obtain ⟨hE4, k4⟩ := hE3.log hC4 e4
  refine Begin_s hE4.cl false fun h5 hC5 e5 _ => ⟨_, _, rfl, ?_⟩
  obtain ⟨hE5, k5⟩ := hE4.log hC5 e5
  rw [wL3_eq] at hE5
  intro J22 hJ22
  refine Add_s hE5 1 2 fun h6 hE6 k6 => ⟨_, rfl, ?_⟩
  have d1 : decide (besideL wL3 1 2 = true ∧ ((1, 2) : Int × Int) ∉ (⟨[], []⟩ : EM).m) = true := by kernel_rfl
  rw [d1, if_neg (by decide)]
  have a1 : addE wL3 ⟨[], []⟩ 1 2 = ⟨[(1, 2)], []⟩ := by kernel_rfl
  rw [a1] at hE6
  refine Add_s hE6 2 3 fun h7 hE7 k7 => ⟨_, rfl, ?_⟩
  have d2 : decide (besideL wL3 2 3 = true ∧ ((2, 3) : Int × Int) ∉ (⟨[(1, 2)], []⟩ : EM).m) = true := by kernel_rfl
  rw [d2, if_neg (by decide)]
  have a2 : addE wL3 ⟨[(1, 2)], []⟩ 2 3 = wE := by kernel_rfl
  rw [a2] at hE7
  refine Add_s hE7 1 2 fun h8 hE8 k8 => ⟨_, rfl, ?_⟩
  have d3 : decide (besideL wL3 1 2 = true ∧ ((1, 2) : Int × Int) ∉ wE.m) = false := by kernel_rfl
  rw [d3]
  have a3 : addE wL3 wE 1 2 = wE := by kernel_rfl
  rw [a3] at hE8
  refine hJ22 _ _ ?_
  rw [if_neg (by decide)]
  have hok : EOk 2 wE := ⟨by decide, by decide, by decide⟩
  refine Spoilt_s hE8 hok (by omega) 2 fun h9 s9 e9 ho9 => ⟨s9, _, rfl, ?_⟩
  have hE9 := hE8.ext0 e9
  refine Ahead_s hE9 hok (by omega) 3 fun h10 s10 e10 ho10 => ⟨s10, rfl, ?_⟩
  rw [wAh] at ho10
  have hE10 := hE9.more e10
  refine Commit_s hE10.cl 3 (by decide) fun h11 hC11 e11 _ => ⟨_, _, rfl, ?_⟩
  obtain ⟨hE11, k11⟩ := hE10.log hC11 e11
  rw [wL4_eq] at hE11
  have hcb10 := hE10.ng.1
  have ho11 := ho10.ext e11 fun a ha hb => by
    simp at hb
    have := own_ltG ho10 a.block (mem_sBlk.2 ⟨a, ha, rfl⟩)
    exact hcb10 (Or.inr (by rw [← hb]; exact this))
  refine Spoilt_s hE11 hok (by omega) 2 fun h12 s12 e12 ho12 => ⟨s12, _, rfl, ?_⟩
  rw [wSp4] at ho12
  rw [wSp3, wSp4, if_pos (by decide), if_pos (by decide)]
  refine newI fun h13 n13 b13 e13 => ?_
  refine Ints_s (xs := [2]) (ys := [2]) ((ho11.ext0 e12).ext0 e13).sl.reads (reads_lit b13 rfl rfl) (by simp) ⟨_, rfl, ?_⟩
  rw [if_pos (by decide)]
  refine newI fun h14 n14 b14 e14 => ?_
  refine Ints_s (xs := [1]) (ys := [1]) ((ho12.ext0 e13).ext0 e14).sl.reads (reads_lit b14 rfl rfl) (by simp) ⟨_, rfl, ?_⟩
  rw [if_pos (by decide)]
  have e24 := (e12.trans0 e13).trans0 e14
  have hE14 := hE11.ext0 e24
  refine In_s hE14 hok (by omega) 2 fun h15 s15 e15 ho15 => ⟨s15, rfl, ?_⟩
  rw [wIn.1] at ho15
  refine newI fun h16 n16 b16 e16 => ?_
  refine Ints_s (xs := [1]) (ys := [1]) (ho15.ext0 e16).sl.reads (reads_lit b16 rfl rfl) (by simp) ⟨_, rfl, ?_⟩
  rw [if_pos (by decide)]
  have hE16 := (hE14.ext0 e15).ext0 e16
  refine Out_s hE16 hok (by omega) 2 fun h17 s17 e17 ho17 => ⟨s17, rfl, ?_⟩
  rw [wIn.2.2] at ho17
  refine newI fun h18 n18 b18 e18 => ?_
  refine Ints_s (xs := [3]) (ys := [3]) (ho17.ext0 e18).sl.reads (reads_lit b18 rfl rfl) (by simp) ⟨_, rfl, ?_⟩
  have kk : KG (fun b => b < h.size) h h11 := ((((((k2.trans k3).trans k4).trans k5).trans k6).trans k7).trans k8 |>.trans ((kg_ext0 (e9.trans0 e10) hE8.lt).trans (k11.anti fun b hb => Or.inl hb)))
  exact hQ h18 (((((kgx _ kk).trans0 e24).trans0 e15).trans0 e16).trans0 e17 |>.trans0 e18)
theorem EdgeNone_s (a b : Int) (hQ : ∀ h', Ext [] h h' → Q [.bool true] h') : F_liverylaw14_EdgeNone a b h Q := by
  unfold F_liverylaw14_EdgeNone
  refine NewN_s fun h1 e v w hb e1 => ⟨_, rfl, ?_⟩
  have hn : ∀ g, NoE g none := fun g => Or.inl rfl
  have ho1 : NoE h1 (some ⟨e, 0, none⟩) := Or.inr ⟨e, v, w, rfl, hb⟩
  refine DropN14_s (hn _) fun h2 e2 => ⟨rfl, ?_⟩
  have ho2 := ho1.ext0 e2
  refine DropN14_s ho2 fun h3 e3 => ⟨rfl, ?_⟩
  have ho3 := ho2.ext0 e3
  refine SpoiltN_s (hn _) ⟨⟨none, 0, 0⟩, _, rfl, ?_⟩
  refine SpoiltN_s ho3 ⟨⟨none, 0, 0⟩, _, rfl, ?_⟩
  refine AddN_s (hn _) ⟨_, rfl, ?_⟩
  rw [if_pos (by decide)]
  refine AddN_s ho3 ⟨_, rfl, ?_⟩
  rw [if_pos (by decide)]
  refine OldInN_s (hn _) ⟨_, rfl, ?_⟩
  rw [if_pos (by decide)]
  refine OldInN_s ho3 ⟨_, rfl, ?_⟩
  rw [if_pos (by decide)]
  refine InN_s (hn _) ⟨⟨none, 0, 0⟩, rfl, ?_⟩
  rw [if_pos (by decide)]
  refine OutN_s (hn _) ⟨⟨none, 0, 0⟩, rfl, ?_⟩
  rw [if_pos (by decide)]
  refine OldN14_s (hn _) ⟨_, rfl, ?_⟩
  rw [if_pos (by decide), if_pos (by decide), if_pos (by decide)]
  refine AheadN_s (hn _) ⟨⟨none, 0, 0⟩, rfl, ?_⟩
  rw [if_pos (by decide)]
  refine AllN_s (hn _) ⟨⟨none, 0, 0⟩, rfl, ?_⟩
  rw [if_pos (by decide)]
  refine AllN_s ho3 ⟨⟨none, 0, 0⟩, rfl, ?_⟩
  rw [if_pos (by decide)]
  exact wakes14_s fun h4 e4 => ⟨_, rfl, hQ h4 (((e1.trans0 e2).trans0 e3).trans0 e4)⟩
end
end Go.Lift

/- Which indexes stand; which of them one may use, where all may be. -/
import Derived.Test.YtgdiihffjogdiaaGreatDoorT19k
import Derived.Test.YtgdiihffjogdiaaGreatDoorN19c
import Derived.Test.YtgdiihffjogdiaaGreatDoorCards
import Derived.Test.YtgdiihffjogdiaaGreatDoorTie
import Derived.Deep.DeepHandedRow
import Derived.Lib.LaidTab
import Derived.Shelf.Vars
set_option linter.unusedSimpArgs false
set_option linter.unusedVariables false
namespace Go.Lift.T
open Go Go.Proofs Go.RowKit Go.Lift.E14
set_option maxRecDepth 100000
set_option maxHeartbeats 1000000
abbrev encD (e : EC) : List Value := [.string e.name, .string e.col, .bool e.uq, .int .i64 e.st, .int .i64 e.mr, .int .i64 e.dr]
theorem encD_len (e : EC) : (encD e).length = 6 := rfl
theorem encD_one (e : EC) : ∀ v ∈ encD e, oneCell v = true := by
  intro v hv
  simp only [List.mem_cons, List.mem_nil_iff, or_false] at hv
  rcases hv with rfl | rfl | rfl | rfl | rfl | rfl <;> rfl
section
variable {NP : Part} {G : Nat → Prop} {h : Hp} {C : TC} {Q : List Value → Hp → Prop}
theorem Indexes_t (hT : Tb NP G h C) (hf : FewE C) (n : Int) (hQ : ∀ h' l, Ext [] h h' → Own T_table_Index 6 encD h.size h' l (standR C n) → Q [.slice l.a l.n l.c] h') : S_table_Store_Indexes (some ⟨C.s, 0, none⟩) n h Q := by
  refine O_table_Store_Indexes _ _ ?_
  delta F_table_Store_Indexes rI rB rS rP rM rL vI vB vS vP vM vL vC vA ad nb gb wi bl bz tn isn sib pu oc
  refine standing_t hT hf n fun h1 l e1 o1 => ⟨l, rfl, ?_⟩
  have hn := o1.1
  have hlen := standR_len hf n
  have T1 := TbX.e0 hT e1
  intro X hX
  refine loopI2 (va := fun a : Sl => Value.slice a.a a.n a.c) (standR C n).length (fun i a g => Ext [] h1 g ∧ Own T_table_Index 6 encD h1.size g a ((standR C n).take i)) ?_ ?_ ⟨none, 0, 0⟩ h1 ⟨Ext.refl _ _, Own.nil _ _⟩
  · rintro a g ⟨eg, og⟩
    refine hX a _ _ ?_
    rw [if_neg (by simp; omega)]
    rw [List.take_length] at og
    exact hQ g a (e1.trans0 eg) (own_lo og e1.sz)
  · rintro i a g hi ⟨eg, og⟩ hnext
    refine hX a _ _ ?_
    rw [if_pos (by simp; omega)]
    obtain ⟨ad, had, hrd⟩ := rdE (o1.ext0 eg) hi
    rw [had]
    simp only [nilW_some, Int.toNat_natCast]
    refine ⟨by omega, by omega, some ⟨(standR C n)[i].eb, 0, none⟩, hrd, ?_⟩
    have hb := Tb.ent (TbX.e0 T1 eg) (List.getElem_mem hi)
    generalize hy : (standR C n)[i] = y at *
    have r : ∀ q : Nat, rd g (Addr.add ⟨y.eb, 0, none⟩ q) = (encX y)[q]? := fun q => by rw [addr_mk, rd_blk hb, Nat.zero_add]
    have r0 : ∀ q : Nat, rd g (Addr.add (Addr.add ⟨y.eb, 0, none⟩ 0) q) = (encX y)[q]? := fun q => by rw [addr0]; exact r q
    simp only [nilW_some]
    refine ⟨y.name, r0 0, y.col, r0 1, y.uq, r0 2, y.st, r0 3, y.mr, ?_, y.dr, ?_, ?_⟩
    · exact r 4
    · exact r 5
    refine newI fun g1 s1 b1 e1' => ?_
    have hw : IntKind.wrap .i64 ((i : Int) + 1) = ((i + 1 : Nat) : Int) := by rw [wrap64 (by omega) (by omega)]; simp
    have hold := own_ltG (og.ext0 e1')
    have hna : a.n ≤ 19 := by have := og.1; rw [List.length_take] at this; omega
    refine ⟨_, cellsAt_blk b1 (o := 0) (n := 1 * 6) (by simp), ?_⟩
    rw [hw]
    refine app_own (ys := [y]) (og.ext0 e1') (by kernel_rfl) encD_len (fun x _ => encD_one x) (by simp) rfl (by show (a.n + 1) * _ ≤ _; omega) (by show a.n + 1 ≤ _; omega) (by have := eg.sz; omega) fun l1 g2 o2 e2 _ _ => ?_
    refine hnext l1 g2 ⟨(eg.trans0 e1').trans e2 fun b hb hlt => by have := hold b hb; omega, ?_⟩
    rw [List.take_succ_eq_append_getElem hi, hy]
    exact o2
/-- May one use it? -/
def useB (L : LM) (x : Int) (e : EC) : Bool := seesL L x e.mr && (!decide (e.dr = x) && decide (e.st = 3))
theorem Usable1_t {e : EC} {p1 p2 : Nat} {x : Int} {T1 T2 : TypeId} (hT : Tb NP G h C) (hp1 : Blk h p1 #[pt C.s] T1) (hp2 : Blk h p2 #[.int .i64 x] T2) (hQ : ∀ h', Ext [] h h' → Q [.bool (!useB C.M.L x e)] h') :
    Fn PP 91 ((#[] ++ #[.agg #[.string e.name, .string e.col, .bool e.uq, .int .i64 e.st, .int .i64 e.mr, .int .i64 e.dr]]) ++ #[pt p1, pt p2]) h Q := by
  refine O_table_Store_Usable_1 e.name e.col e.uq e.st e.mr e.dr ⟨p1, 0, none⟩ ⟨p2, 0, none⟩ ?_
  delta F_table_Store_Usable_1 rI rB rS rP rM rL vI vB vS vP vM vL vC vA ad nb gb wi bl bz tn isn sib pu oc
  refine newI fun h1 s1 b1 e1 => ?_
  have T1 := TbX.e0 hT e1
  have r1 : ∀ {g : Hp}, Ext [] h1 g → ∀ q : Nat, rd g (Addr.add ⟨h.size, 0, none⟩ q) = (#[Value.string e.name, .string e.col, .bool e.uq, .int .i64 e.st, .int .i64 e.mr, .int .i64 e.dr] : Array Value)[q]? := fun eg q => by rw [addr_mk, rd_blk (eg.get b1 (by simp)), Nat.zero_add]
  have hx : rd h1 ⟨p2, 0, none⟩ = some (.int .i64 x) := by rw [rd_blk (e1.get hp2 (by simp))]; rfl
  refine ⟨some ⟨C.s, 0, none⟩, by rw [rd_blk (e1.get hp1 (by simp))]; rfl, ?_⟩
  simp only [nilW_some]
  refine ⟨some ⟨C.cb, 0, none⟩, ?_, x, hx, e.mr, r1 (Ext.refl _ _) 4, ?_⟩
  · exact rdSt T1 0
  refine Sees_s (Tb.cl T1) x e.mr ⟨_, rfl, ?_⟩
  unfold useB at hQ
  cases hs : seesL C.M.L x e.mr with
  | false =>
    rw [if_pos (by rfl)]
    rw [hs] at hQ
    exact hQ h1 e1
  | true =>
    rw [if_neg (by decide)]
    rw [hs] at hQ
    refine ⟨e.dr, r1 (Ext.refl _ _) 5, x, hx, ?_⟩
    by_cases hd : e.dr = x
    · rw [if_pos (by simpa using hd)]
      rw [decide_eq_true hd] at hQ
      exact hQ h1 e1
    · rw [if_neg (by simpa using hd)]
      rw [decide_eq_false hd] at hQ
      refine ⟨e.st, by rw [addr0]; exact r1 (Ext.refl _ _) 3, ?_⟩
      have := hQ h1 e1
      have hb : (e.st != 3) = !(true && (!false && decide (e.st = 3))) := by
        by_cases h3 : e.st = 3 <;> simp [h3]
      rw [hb]
      exact this
theorem Usable_t (hT : Tb NP G h C) (hf : FewE C) (x n : Int) (hall : ∀ e ∈ standR C n, useB C.M.L x e = true) (hQ : ∀ h' l, Ext [] h h' → Own T_table_Index 6 encD h.size h' l (standR C n) → Q [.slice l.a l.n l.c] h') : S_table_Store_Usable (some ⟨C.s, 0, none⟩) x n h Q := by
  refine O_table_Store_Usable _ _ _ ?_
  delta F_table_Store_Usable rI rB rS rP rM rL vI vB vS vP vM vL vC vA ad nb gb wi bl bz tn isn sib pu oc
  refine newI fun h1 s1 b1 e1 => newI fun h2 s2 b2 e2 => ?_
  have b1' := e2.get b1 (by simp)
  have e02 := e1.trans0 e2
  have T2 := TbX.e0 hT e02
  refine ⟨some ⟨C.s, 0, none⟩, by rw [rd_blk b1']; rfl, ?_⟩
  refine Indexes_t T2 hf n fun h3 l e3 o3 => ⟨l, rfl, ?_⟩
  refine O_slices_DeleteFunc_stable_Index_table_Index _ _ _ ?_
  delta F_slices_DeleteFunc_stable_Index_table_Index rI rB rS rP rM rL vI vB vS vP vM vL vC vA ad nb gb wi bl bz tn isn sib pu oc
  refine O_slices_IndexFunc_stable_Index_table_Index _ _ _ ?_
  delta F_slices_IndexFunc_stable_Index_table_Index rI rB rS rP rM rL vI vB vS vP vM vL vC vA ad nb gb wi bl bz tn isn sib pu oc
  have hn := o3.1
  have hlen := standR_len hf n
  have T3 := TbX.e0 T2 e3
  intro X hX
  refine loopI (standR C n).length (fun i g => Ext [] h3 g) ?_ ?_ h3 (Ext.refl _ _)
  · intro g eg
    refine hX _ _ ?_
    rw [if_neg (by simp; omega)]
    refine ⟨-1, rfl, ?_⟩
    rw [if_pos (by decide)]
    exact ⟨l, rfl, hQ g l (e02.trans0 (e3.trans0 eg)) (own_lo (o3.ext0 eg) e02.sz)⟩
  · intro i g hi eg hnext
    refine hX _ _ ?_
    rw [if_pos (by simp; omega)]
    have og := o3.ext0 eg
    obtain ⟨b, o, ha, hr⟩ := og.sl.rd encD_len hi
    rw [ha]
    simp only [nilW_some, Int.toNat_natCast]
    have hy : useB C.M.L x (standR C n)[i] = true := hall _ (List.getElem_mem hi)
    generalize (standR C n)[i] = y at *
    have rr : ∀ q, q < 6 → rd g (Addr.add (Addr.add ⟨b, o, none⟩ (i * 6)) q) = (encD y)[q]? := fun q hq => by
      rw [addr_add_add, addr_mk, ← Nat.add_assoc]
      exact hr q hq
    refine ⟨by omega, by omega, y.name, rr 0 (by decide), y.col, rr 1 (by decide), y.uq, rr 2 (by decide), y.st, rr 3 (by decide), y.mr, rr 4 (by decide), y.dr, rr 5 (by decide), ?_⟩
    refine Usable1_t (e := y) (x := x) (TbX.e0 T3 eg) ((e3.trans0 eg).get b1' (by simp)) ((e3.trans0 eg).get b2 (by simp)) fun g1 e1' => ⟨_, rfl, ?_⟩
    rw [hy, if_neg (by decide)]
    have hw : IntKind.wrap .i64 ((i : Int) + 1) = ((i + 1 : Nat) : Int) := by rw [wrap64 (by omega) (by omega)]; simp
    rw [hw]
    exact hnext g1 (eg.trans0 e1')
end
end Go.Lift.T
namespace Go.Lift.T
open Go Go.Proofs Go.RowKit Go.Lift.E14
set_option maxRecDepth 100000
set_option maxHeartbeats 1000000
section
variable {NP : Part} {G : Nat → Prop} {h : Hp} {C C0 : TC} {Q : List Value → Hp → Prop} {K : Hp → Prop} {k m t : Nat} {rb hr eb ix : Nat} {M : SsiM} {hp : RelM} {lf : X.LeafM}
theorem begin1_t (hT : Tb NP G h C) (ok : Mk k C.M) {n : Nat} (hl : C.M.L.l.length = n) (hn : n ≠ 200) {a : Int} (ha : (n : Int) + 1 = a) (hQ : ∀ h', Tb NP G h' (withM C (beginM C.M false)) → KG G h h' → Q [.int .i64 a, .int .i64 0] h') : S_ssi_Ssi_Begin (some ⟨C.ss, 0, none⟩) false h Q := by
  refine begin_t hT ok false fun h' T' k' => ?_
  rw [hl, if_neg hn, if_neg hn, ha]
  exact hQ h' T' k'
theorem mk_rowok {v : X.V4} (hv : X.VOk v) : RowOk [colA] [v] := ⟨fun u hu => by obtain rfl := List.mem_singleton.1 hu; exact hv, fun c hc => by obtain rfl := List.mem_singleton.1 hc; exact ⟨by show (0 : Nat) < _; decide, by decide⟩⟩
/-- A version of one number is put. -/
theorem putN_t (hT : Tb NP G h (mkC C0 rb hr eb ix M hp lf)) (ok : Mk k M) (hk : k + 49 ≤ 1000) (hL : LfS t m hp lf) (ht : t < 512) (hm : m < 2 ^ 15) (hg : X.GM h) (hg0 : G 1) {x : Int} (hx : 1 ≤ x) (hs : (txL M.L 1).state ≠ 3) {n : Int} (hn : -9223372036854775808 ≤ n ∧ n < 9223372036854775808)
    (hK : ∀ h', Tb NP G h' (mkC C0 rb hr eb ix (putM M x (X.addM lf (numV n) hp.next).2) (insR hp x [numV n]) (X.addM lf (numV n) hp.next).1) → KG G h h' → K h') :
    S_liverylaw19_num n h fun vs1 h1 => ∃ (n1 n2 : Int) (x3 : Nat) (s4 : ByteArray), vs1 = [.agg #[.int .i64 n1, .int .i64 n2, .float .f64 x3, .string s4]] ∧ wth (h1.push (.cells #[.int .i64 n1, .int .i64 n2, .float .f64 x3, .string s4] T_api_Value)) fun h2 =>
      S_liverylaw19_one h2 fun vs3 h3 => ∃ l : Sl, vs3 = [.slice l.a l.n l.c] ∧ S_table_Store_Put (some ⟨C0.s, 0, none⟩) x 1 ⟨some ⟨h1.size, 0, none⟩, 1, 1⟩ ⟨l.a, l.n, l.c⟩ h3 fun vs4 h4 => ∃ (a e : Int), vs4 = [.int .i64 a, .int .i64 e] ∧ (if (e != 0) = true then Q [.bool false] h4 else K h4) := by
  refine num_t n fun h1 e1 => ⟨2, n, 0, ByteArray.mk #[], rfl, newI fun h2 s2 b2 e2 => ?_⟩
  refine one_t fun h3 e3 o3 => ⟨⟨some ⟨h2.size, 0, none⟩, 1, 1⟩, rfl, ?_⟩
  have e03 := (e1.trans0 e2).trans0 e3
  have T3 := TbX.more hT e03
  have orow : Own T_api_Value 4 encV h1.size h2 ⟨some ⟨h1.size, 0, none⟩, 1, 1⟩ [numV n] := ⟨rfl, nofun, fun a ha => by cases ha; exact ⟨h1.size, _, rfl, Nat.le_refl _, b2, Nat.le_refl _, by simp, rfl⟩⟩
  have hin : ∀ r ∈ (mkC C0 rb hr eb ix M hp lf).R, OkE m r.es := fun r hr' => by
    obtain rfl := List.mem_singleton.1 hr'
    intro e he
    obtain rfl := List.mem_singleton.1 he
    exact hL.ok
  have hp1 := put_mk (C0 := C0) (rb := rb) (hr := hr) (eb := eb) (ix := ix) (lf := lf) hx (hL.full ht) hs (numV n)
  refine Put_t (cl := [colA]) (vs := [numV n]) T3 (mk_few _ _ _ _ _ _ _ _) ok (by omega) hin hm x 1 o3.sl.reads (orow.sl.reads.ext0 e3) (fun _ b hb => ?_) (fun _ b hb => ?_) (by simp) (by simp) (mk_rowok (num_ok hn)) (hg.ext e03) (Or.inl hg0) fun h4 T4 k4 => ?_
  · have := own_ltG o3 b hb
    exact Or.inr ⟨by have := (e1.trans0 e2).sz; omega, this.2⟩
  · have := own_ltG orow b hb
    exact Or.inr ⟨by have := e1.sz; omega, by have := e3.sz; omega⟩
  · rw [hp1] at T4 ⊢
    refine ⟨_, _, rfl, ?_⟩
    rw [if_neg (by simp)]
    exact hK h4 (TbX.less T4 fun b hb => Or.inl hb) ((TbX.kg hT e03).trans (k4.anti fun b hb => Or.inl hb))
end
theorem gm_size {h : Hp} (hg : X.GM h) : 2 ≤ h.size := by
  obtain ⟨m, hm⟩ := hg
  rcases Nat.lt_or_ge 1 h.size with g | g
  · exact g
  · have : h[(1 : Nat)]? = none := Array.getElem?_eq_none g
    unfold rd at hm
    rw [this] at hm
    cases hm
theorem wr {n : Int} (h : -1000 ≤ n ∧ n ≤ 1000) : IntKind.wrap .i64 n = n := wrap64 (by omega) (by omega)
theorem wplays : ∃ N1 : SsiM, beginM (newM 9 99 9) false = N1 ∧ Mk 1 N1 ∧ N1.S.m = [] ∧ (txL N1.L 1).state = 1 ∧ seesL N1.L 1 1 = true :=
  ⟨_, rfl, Mk.begin (k := 0) (newM_ok (by decide) (by decide) (by decide)) (by decide) false, by kernel_rfl, by kernel_rfl, by kernel_rfl⟩
theorem wfind : X.findP (X.addM (lf0 4) (numV 5) 0).1 (numV 5) = ([0], [1]) := by kernel_rfl
theorem lit1 (n : Int) {h : Hp} {Q : List Value → Hp → Prop} {xs : List Int} {l : Sl} (o : Own T_int 1 encIL 0 h l xs) (hx : xs = [n]) (hQ : ∀ h', Ext [] h h' → Q [.bool true] h') :
    wth (h.push (.cells #[.int .i64 n] T_int)) fun h1 => S_liverykeep_Ints l ⟨some ⟨h.size, 0, none⟩, 1, 1⟩ h1 Q := by
  refine newI fun h1 s1 b1 e1 => ?_
  have ob : Own T_int 1 encIL h.size h1 ⟨some ⟨h.size, 0, none⟩, 1, 1⟩ [n] := ⟨rfl, nofun, fun a ha => by cases ha; exact ⟨h.size, _, rfl, Nat.le_refl _, b1, Nat.le_refl _, by simp, rfl⟩⟩
  refine ints_t (o.ext0 e1) ob (by rw [hx]; simp) ?_
  rw [decide_eq_true hx]
  exact hQ h1 e1
theorem wakes_t {h : Hp} {Q : List Value → Hp → Prop} (hg : X.GM h) (hQ : ∀ h', Ext [] h h' → Q [.bool true] h') : S_liverylaw19_wakes h Q := by
  refine O_liverylaw19_wakes ?_
  delta F_liverylaw19_wakes rI rB rS rP rM rL vI vB vS vP vM vL vC vA ad nb gb wi bl bz tn isn sib pu oc
  have hsz := gm_size hg
  obtain ⟨N1, p1, mk1, s1, r1, se⟩ := wplays
  have mk0 : Mk 0 (newM 9 99 9) := newM_ok (by decide) (by decide) (by decide)
  refine New_t (G := fun b => b < h.size) nameNew_any (by decide) (by decide) (by decide) (by decide) (fun _ hb => hb) fun h2 s rm ss cb tt ee nmb lkb T2 e2 => ⟨_, _, rfl, ?_⟩
  have hg0 : 1 < h.size := hsz
  intro J5 hJ5
  rw [if_neg (by decide)]
  refine hJ5 _ _ ?_
  rw [if_neg (by simp)]
  have K2 : KG (fun b => b < h.size) h h2 := kg_ext0 e2 fun _ hb => hb
  refine Ssi_t T2 ⟨_, rfl, ?_⟩
  refine begin1_t (n := 0) (a := 1) T2 mk0 rfl (by decide) rfl fun h3 T3 k3 => ⟨_, _, rfl, ?_⟩
  rw [show (newT s rm ss cb tt ee nmb lkb 9 99 9 4).M = newM 9 99 9 from rfl, p1] at T3
  refine NewRel_t T3 fun h4 rb hr T4 k4 => ?_
  have hlen : (withM (newT s rm ss cb tt ee nmb lkb 9 99 9 4) N1).R.length = 0 := rfl
  rw [hlen] at T4 ⊢
  rw [if_pos (by decide)] at T4
  rw [if_pos (by decide), if_pos (by decide), show ((0 : Nat) : Int) + 1 = 1 from rfl]
  refine ⟨_, _, rfl, ?_⟩
  have K4 := K2.trans (k3.trans k4)
  generalize hC1 : ({ withM (newT s rm ss cb tt ee nmb lkb 9 99 9 4) N1 with R := (withM (newT s rm ss cb tt ee nmb lkb 9 99 9 4) N1).R ++ [newC rb hr] } : TC) = C1 at T4
  have c1s : s = C1.s := by rw [← hC1]
  have c1M : C1.M = N1 := by rw [← hC1]
  have c1R : C1.R = [newC rb hr] := by rw [← hC1]; rfl
  have c1f : C1.fan = 4 := by rw [← hC1]
  clear hC1
  clear T2 T3 e2 k3
  subst c1s
  refine one_t fun h5 e5 o5 => ⟨⟨some ⟨h4.size, 0, none⟩, 1, 1⟩, rfl, ?_⟩
  have T5 := TbX.e0 T4 e5
  have K5 := K4.trans (TbX.kg T4 e5)
  have few1 : FewE C1 := fun r hr' => by
    rw [c1R] at hr'
    obtain rfl := List.mem_singleton.1 hr'
    simp [newC]
  have hrel : relAt C1.R 1 = some (newC rb hr) := by rw [c1R]; rfl
  have hst1 : standR C1 1 = [] := by unfold standR; rw [hrel]; rfl
  have hmk : makeE C1 1 1 sI sA [colA] = 0 := by
    unfold makeE
    rw [if_neg (by rw [hrel, c1M, r1]; simp)]
    unfold getM
    rw [hst1]
    kernel_rfl
  have hsz5 : 2 ≤ h5.size := Nat.le_trans hsz K5.sz
  refine Make_t T5 few1 hsz5 (by rw [c1f]; decide) 1 1 sI sA false 3 o5.sl.reads (by simp) fun h6 eb ix T6 k6 => ⟨_, rfl, ?_⟩
  rw [hmk] at T6 ⊢
  rw [if_pos rfl] at T6
  have hst : modC C1 ((1 : Int) - 1).toNat (addC ⟨eb, ix, sI, sA, false, 3, 1, 0, lf0 C1.fan⟩) = mkC C1 rb hr eb ix N1 ⟨[], 0⟩ (lf0 4) := by
    unfold modC mkC
    rw [c1R, c1f, c1M]
    rfl
  rw [hst] at T6
  have K6 := K5.trans k6
  have hL0 : LfS 0 0 ⟨[], 0⟩ (lf0 4) := ⟨X.new_ok (by decide), ⟨[], X.InI.new 4, by simp, by simp⟩, rfl, rfl⟩
  have s13 : (txL N1.L 1).state ≠ 3 := by rw [r1]; decide
  have hp1 := put_mk (C0 := C1) (rb := rb) (hr := hr) (eb := eb) (ix := ix) (M := N1) (lf := lf0 4) (hp := ⟨[], 0⟩) (x := 1) (by decide) (hL0.full (by decide)) s13 (numV 5)
  rw [put_none s1] at hp1
  have n5 : X.VOk (numV 5) := num_ok (by decide)
  obtain ⟨hL1, _⟩ := hL0.add (by decide) n5 (num_good 5) (x := 1) (by decide)
  refine num_t 5 fun h7 e7 => ⟨2, 5, 0, ByteArray.mk #[], rfl, newI fun h8 s8 b8 e8 => ?_⟩
  refine one_t fun h9 e9 o9 => ⟨⟨some ⟨h8.size, 0, none⟩, 1, 1⟩, rfl, ?_⟩
  have e69 := (e7.trans0 e8).trans0 e9
  have T9 := TbX.more T6 e69
  have K9 := K6.trans (TbX.kg T6 e69)
  have orow : Own T_api_Value 4 encV h7.size h8 ⟨some ⟨h7.size, 0, none⟩, 1, 1⟩ [numV 5] := ⟨rfl, nofun, fun a ha => by cases ha; exact ⟨h7.size, _, rfl, Nat.le_refl _, b8, Nat.le_refl _, by simp, rfl⟩⟩
  refine Put_t (m := 0) (cl := [colA]) (vs := [numV 5]) T9 (mk_few _ _ _ _ _ _ _ _) mk1 (by decide) (fun r hr' => by
    obtain rfl := List.mem_singleton.1 hr'
    intro e he
    obtain rfl := List.mem_singleton.1 he
    exact hL0.ok) (by decide) 1 1 o9.sl.reads (orow.sl.reads.ext0 e9) (fun _ b hb => ?_) (fun _ b hb => ?_) (by simp) (by simp) (mk_rowok n5) (gm_ext hg K9 hg0) (Or.inl hg0) fun h10 T10 k10 => ?_
  · have := own_ltG o9 b hb
    exact Or.inr ⟨by have := (e7.trans0 e8).sz; omega, this.2⟩
  · have := own_ltG orow b hb
    exact Or.inr ⟨by have := e7.sz; omega, by have := e9.sz; omega⟩
  rw [hp1] at T10 ⊢
  refine ⟨_, _, rfl, ?_⟩
  have T10 := TbX.less T10 fun b hb => Or.inl hb
  have K10 := K9.trans (k10.anti fun b hb => Or.inl hb)
  generalize insR ⟨[], 0⟩ 1 [numV 5] = hp1' at T10 hL1
  have hwf : X.findP (X.addM (lf0 4) (numV 5) 0).1 (numV 5) = ([0], [1]) := wfind
  generalize (X.addM (lf0 4) (numV 5) 0).1 = lf1 at T10 hL1 hwf
  refine num_t 5 fun h11 e11 => ⟨2, 5, 0, ByteArray.mk #[], rfl, ?_⟩
  have T11 := TbX.e0 T10 e11
  have K11 := K10.trans (TbX.kg T10 e11)
  have hst := mk_stand (C0 := C1) (rb := rb) (hr := hr) (eb := eb) (ix := ix) (hp := hp1') (lf := lf1) s13
  have hfind : findT (mkC C1 rb hr eb ix N1 hp1' lf1) 1 sI (numV 5) = ([0], [1]) := by
    unfold findT getM
    rw [hst]
    exact hwf
  refine Find_t (C := mkC C1 rb hr eb ix N1 hp1' lf1) (m := 1) T11 (mk_few _ _ _ _ _ _ _ _) 1 sI (fun e he => by
    rw [hst] at he
    obtain rfl := List.mem_singleton.1 he
    exact ⟨hL1.ok, hL1.km (by decide)⟩) (by decide) (numV 5) n5 (gm_ext hg K11 hg0) fun h12 st sn T12 e12 o1 o2 => ⟨st, sn, rfl, ?_⟩
  rw [hfind] at o1 o2
  rw [if_pos (by rfl), if_pos (by rfl), if_pos (by rfl), if_pos (by rfl), if_pos (by rfl), if_pos (by rfl)]
  refine lit1 0 (own_lo o1 (Nat.zero_le _)) rfl fun h13 e13 => ⟨_, rfl, ?_⟩
  rw [if_pos rfl]
  refine lit1 1 (own_lo (o2.ext0 e13) (Nat.zero_le _)) rfl fun h14 e14 => ⟨_, rfl, ?_⟩
  rw [if_pos rfl]
  have T14 := TbX.e0 (TbX.e0 T12 e13) e14
  refine Usable_t (C := mkC C1 rb hr eb ix N1 hp1' lf1) T14 (mk_few _ _ _ _ _ _ _ _) 1 1 (fun e he => by
    rw [hst] at he
    obtain rfl := List.mem_singleton.1 he
    unfold useB
    rw [show (mkC C1 rb hr eb ix N1 hp1' lf1).M.L = N1.L from rfl, se]
    rfl) fun h15 l e15 o15 => ⟨l, rfl, ?_⟩
  have hl : l.n = 1 := by rw [o15.1, hst]; rfl
  rw [hl]
  have K15 := K11.trans (TbX.kg T11 (e12.trans0 (e13.trans0 (e14.trans0 e15))))
  exact hQ h15 ⟨K15.sz, fun b hb _ => K15.old b hb⟩
end Go.Lift.T
namespace Go.Lift.T
open Go Go.Proofs Go.RowKit Go.Lift.E14
set_option maxRecDepth 100000
set_option maxHeartbeats 1000000
def PP2 (M : SsiM) (lf : X.LeafM) (v : X.V4) : Prop := has M.S 2 rt ∨ Cov M lf v
theorem TableReaders_t {h : Hp} {Q : List Value → Hp → Prop} (v w : Int) (hv : -128 ≤ v ∧ v < 128) (hw : -128 ≤ w ∧ w < 128) (c : Bool) (hg : X.GM h) (hQ : ∀ h', Ext [] h h' → Q [.bool true] h') : S_liverylaw19_TableReaders v w c h Q := by
  refine O_liverylaw19_TableReaders _ _ _ ?_
  delta F_liverylaw19_TableReaders rI rB rS rP rM rL vI vB vS vP vM vL vC vA ad nb gb wi bl bz tn isn sib pu oc
  have hsz := gm_size hg
  obtain ⟨N1, N2, N3, N4, p1, p2, p20, p3, p4, mk1, mk2, mk3, s1, r1, l2, l3, inv4, r42, r43, b4, f4, s41⟩ := plays
  have mk0 : Mk 0 (newM 50 500 9) := newM_ok (by decide) (by decide) (by decide)
  refine New_t (G := fun b => b < h.size) nameNew_any (by decide) (by decide) (by decide) (by decide) (fun _ hb => hb) fun h2 s rm ss cb tt ee nmb lkb T2 e2 => ⟨_, _, rfl, ?_⟩
  have hg0 : 1 < h.size := hsz
  rw [if_neg (by decide)]
  have K2 : KG (fun b => b < h.size) h h2 := kg_ext0 e2 fun _ hb => hb
  refine Ssi_t T2 ⟨_, rfl, ?_⟩
  refine begin1_t (n := 0) (a := 1) T2 mk0 rfl (by decide) rfl fun h3 T3 k3 => ⟨_, _, rfl, ?_⟩
  rw [show (newT s rm ss cb tt ee nmb lkb 50 500 9 3).M = newM 50 500 9 from rfl, p1] at T3
  refine NewRel_t T3 fun h4 rb hr T4 k4 => ?_
  have hlen : (withM (newT s rm ss cb tt ee nmb lkb 50 500 9 3) N1).R.length = 0 := rfl
  rw [hlen] at T4 ⊢
  rw [if_pos (by decide)] at T4
  rw [if_pos (by decide), if_pos (by decide), show ((0 : Nat) : Int) + 1 = 1 from rfl]
  refine ⟨_, _, rfl, ?_⟩
  have K4 := K2.trans (k3.trans k4)
  generalize hC1 : ({ withM (newT s rm ss cb tt ee nmb lkb 50 500 9 3) N1 with R := (withM (newT s rm ss cb tt ee nmb lkb 50 500 9 3) N1).R ++ [newC rb hr] } : TC) = C1 at T4
  have c1s : s = C1.s := by rw [← hC1]
  have c1M : C1.M = N1 := by rw [← hC1]
  have c1R : C1.R = [newC rb hr] := by rw [← hC1]; rfl
  have c1f : C1.fan = 3 := by rw [← hC1]
  clear hC1
  clear T2 T3 e2 k3
  subst c1s
  intro J16 hJ16
  rw [if_neg (by decide), if_neg (by decide)]
  refine one_t fun h5 e5 o5 => ⟨⟨some ⟨h4.size, 0, none⟩, 1, 1⟩, rfl, ?_⟩
  have T5 := TbX.e0 T4 e5
  have K5 := K4.trans (TbX.kg T4 e5)
  have few1 : FewE C1 := fun r hr' => by
    rw [c1R] at hr'
    obtain rfl := List.mem_singleton.1 hr'
    simp [newC]
  have hrel : relAt C1.R 1 = some (newC rb hr) := by rw [c1R]; rfl
  have hst1 : standR C1 1 = [] := by unfold standR; rw [hrel]; rfl
  have hmk : makeE C1 1 1 sI sA [colA] = 0 := by
    unfold makeE
    rw [if_neg (by rw [hrel, c1M, r1]; simp)]
    unfold getM
    rw [hst1]
    kernel_rfl
  have hsz5 : 2 ≤ h5.size := Nat.le_trans hsz K5.sz
  refine Make_t T5 few1 hsz5 (by rw [c1f]; decide) 1 1 sI sA false 3 o5.sl.reads (by simp) fun h6 eb ix T6 k6 => ⟨_, rfl, ?_⟩
  rw [hmk] at T6 ⊢
  rw [if_pos rfl] at T6
  have hst : modC C1 ((1 : Int) - 1).toNat (addC ⟨eb, ix, sI, sA, false, 3, 1, 0, lf0 C1.fan⟩) = mkC C1 rb hr eb ix N1 ⟨[], 0⟩ (lf0 3) := by
    unfold modC mkC
    rw [c1R, c1f, c1M]
    rfl
  rw [hst] at T6
  have K6 := K5.trans k6
  refine hJ16 _ _ ?_
  rw [if_neg (by decide)]
  -- nine versions
  intro X19 hX19
  have vok : ∀ {n : Int}, -1000 ≤ n ∧ n ≤ 1000 → -9223372036854775808 ≤ n ∧ n < 9223372036854775808 := fun h => by omega
  have hG0 : ∀ {g : Hp}, KG (fun b => b < h.size) h g → X.GM g := fun k => gm_ext hg k hg0
  have loop9 := loopI (X := X19) 9 (fun i g => ∃ hp lf, LfS i i hp lf ∧ Tb (fun _ _ => True) (fun b => b < h.size) g (mkC C1 rb hr eb ix N1 hp lf) ∧ KG (fun b => b < h.size) h g) ?_ ?_ h6 ?_
  · exact loop9
  · rintro g ⟨hp, lf, hL, Tg, kg⟩
    refine hX19 _ _ ?_
    rw [if_neg (by decide)]
    refine Ssi_t (C := mkC C1 rb hr eb ix N1 hp lf) Tg ⟨_, rfl, ?_⟩
    refine commit_t (k := 1) (C := mkC C1 rb hr eb ix N1 hp lf) Tg mk1 (by decide) 1 fun h7 T7 k7 => ⟨_, rfl, ?_⟩
    rw [if_neg (by rw [show (mkC C1 rb hr eb ix N1 hp lf).M = N1 from rfl, p20]; decide)]
    rw [show (mkC C1 rb hr eb ix N1 hp lf).M = N1 from rfl, p2] at T7
    refine Ssi_t (C := withM (mkC C1 rb hr eb ix N1 hp lf) N2) T7 ⟨_, rfl, ?_⟩
    refine begin1_t (C := withM (mkC C1 rb hr eb ix N1 hp lf) N2) (n := 1) (a := 2) T7 mk2 l2 (by decide) rfl fun h8 T8 k8 => ⟨_, _, rfl, ?_⟩
    rw [show (withM (mkC C1 rb hr eb ix N1 hp lf) N2).M = N2 from rfl, p3] at T8
    refine Ssi_t (C := withM (withM (mkC C1 rb hr eb ix N1 hp lf) N2) N3) T8 ⟨_, rfl, ?_⟩
    refine begin1_t (C := withM (withM (mkC C1 rb hr eb ix N1 hp lf) N2) N3) (n := 2) (a := 3) T8 mk3 l3 (by decide) rfl fun h9 T9 k9 => ⟨_, _, rfl, ?_⟩
    have K9 := kg.trans ((k7.trans k8).trans k9)
    rw [show (withM (withM (mkC C1 rb hr eb ix N1 hp lf) N2) N3).M = N3 from rfl, p4] at T9
    have T9 : Tb (fun _ _ => True) (fun b => b < h.size) h9 (mkC C1 rb hr eb ix N4 hp lf) := T9
    intro J56 hJ56
    rw [if_neg (by decide)]
    refine hJ56 _ _ ?_
    rw [if_neg (by decide)]
    intro J59 hJ59
    have body : ∀ (g : Hp) (M : SsiM) (k : Nat), k ≤ 20 → Inv N4.L N4.safe k M → PP2 M lf (numV v) → Tb (fun _ _ => True) (fun b => b < h.size) g (mkC C1 rb hr eb ix M hp lf) → KG (fun b => b < h.size) h g → J59 [] g := by
      intro g M k hk hi hP Tg kg
      refine hJ59 _ ?_
      intro X61 hX61
      have loop7 := loopI (X := X61) 7 (fun i g => ∃ M hp lf, Inv N4.L N4.safe (k + 3 * i) M ∧ PP2 M lf (numV v) ∧ LfS (9 + i) (9 + i) hp lf ∧ Tb (fun _ _ => True) (fun b => b < h.size) g (mkC C1 rb hr eb ix M hp lf) ∧ KG (fun b => b < h.size) h g) ?_ ?_ g ?_
      · exact loop7
      · rintro g ⟨M, hp, lf, hi, hP, hL, Tg, kg⟩
        refine hX61 _ _ ?_
        rw [if_neg (by decide), wr (n := v) (by omega)]
        have s1' : (txL M.L 1).state ≠ 3 := by rw [hi.L]; exact s41
        refine putN_t Tg hi.ok (by omega) hL (by omega) (by omega) (hG0 kg) hg0 (x := 3) (by decide) s1' (vok (by omega)) fun h7 T7 k7 => ?_
        obtain ⟨i7, a7, b7, e7⟩ := put_law hi (by omega) r43 b4 hL (by omega) (num_ok (vok (n := v) (by omega))) (num_good v)
        have hE : ((2 : Int), (3 : Int)) ∈ (putM M 3 (X.addM lf (numV v) hp.next).2).E.m := hP.elim (fun g => (a7 g).2) e7
        generalize hph : insR hp 3 [numV v] = hp7 at T7
        generalize hl7 : (X.addM lf (numV v) hp.next).1 = lf7 at T7
        generalize hM7 : putM M 3 (X.addM lf (numV v) hp.next).2 = M7 at T7 i7 hE
        have K7 := kg.trans k7
        refine Ssi_t (C := mkC C1 rb hr eb ix M7 hp7 lf7) T7 ⟨_, rfl, ?_⟩
        refine edges_t (C := mkC C1 rb hr eb ix M7 hp7 lf7) T7 ⟨_, rfl, ?_⟩
        refine out_t (C := mkC C1 rb hr eb ix M7 hp7 lf7) T7 i7.ok (by omega) 2 fun h8 s8 e8 o8 => ⟨s8, rfl, ?_⟩
        have hmem : (3 : Int) ∈ outE M7.E 2 := by
          unfold outE
          rw [sortI_mem]
          exact List.mem_map.2 ⟨_, List.mem_filter.2 ⟨hE, by simp⟩, rfl⟩
        have hle : (outE M7.E 2).length ≤ 2 ^ 40 := by
          have h1 := (inE_len i7.ok.e 2).2
          have h2 := mk_le (k := k + 3 * 7 + 3) (by omega)
          omega
        refine has_t 3 o8 hle ⟨_, rfl, ?_⟩
        rw [if_pos (show decide ((3 : Int) ∈ outE (mkC C1 rb hr eb ix M7 hp7 lf7).M.E 2) = true from decide_eq_true hmem)]
        have T8 := TbX.e0 T7 e8
        refine Ssi_t (C := mkC C1 rb hr eb ix M7 hp7 lf7) T8 ⟨_, rfl, ?_⟩
        refine edges_t (C := mkC C1 rb hr eb ix M7 hp7 lf7) T8 ⟨_, rfl, ?_⟩
        refine in_t (C := mkC C1 rb hr eb ix M7 hp7 lf7) T8 i7.ok (by omega) 2 fun h9 s9 e9 o9 => ⟨s9, rfl, ?_⟩
        have hnil : inE M7.E 2 = [] := by
          unfold inE
          have : M7.E.m.filter (fun q : Int × Int => decide (q.2 = 2)) = [] := List.filter_eq_nil_iff.2 fun q hq => by
            rw [i7.E q hq]
            decide
          rw [this]
          exact sortI0
        have hn9 : s9.n = 0 := by rw [o9.1]; show (inE M7.E 2).length = 0; rw [hnil]; rfl
        rw [if_pos (by rw [hn9]; rfl)]
        refine wakes_t ((hG0 K7).ext (e8.trans0 e9)) fun hz ez => ⟨_, rfl, ?_⟩
        have K9 := K7.trans ((TbX.kg T7 e8).trans (TbX.kg T8 (e9.trans0 ez)))
        exact hQ hz ⟨K9.sz, fun b hb _ => K9.old b hb⟩
      · rintro i g hi' ⟨M, hp, lf, hi, hP, hL, Tg, kg⟩ hnext
        refine hX61 _ _ ?_
        rw [if_pos (by simp; omega)]
        have hw' : IntKind.wrap .i64 ((i : Int) + 1) = ((i + 1 : Nat) : Int) := by rw [wrap64 (by omega) (by omega)]; simp
        rw [wr (n := w) (by omega), wr (n := w + (i : Int)) (by omega), hw']
        have s1' : (txL M.L 1).state ≠ 3 := by rw [hi.L]; exact s41
        refine putN_t (K := fun h33 => X61 [.int .i64 ((i + 1 : Nat) : Int)] h33) Tg hi.ok (by omega) hL (by omega) (by omega) (hG0 kg) hg0 (x := 3) (by decide) s1' (vok (by omega)) fun h7 T7 k7 => ?_
        obtain ⟨i7, a7, b7, _⟩ := put_law hi (by omega) r43 b4 hL (by omega) (num_ok (vok (n := w + (i : Int)) (by omega))) (num_good _)
        exact hnext h7 ⟨_, _, _, i7, hP.elim (fun g => Or.inl (a7 g).1) fun g => Or.inr (b7 _ g), (hL.add (by omega) (num_ok (vok (by omega))) (num_good _) (by decide)).1, T7, kg.trans k7⟩
      · exact ⟨M, hp, lf, hi, hP, hL, Tg, kg⟩
    have T9' := T9
    by_cases hc : c = true
    · rw [if_pos hc]
      refine Ssi_t (C := mkC C1 rb hr eb ix N4 hp lf) T9 ⟨_, rfl, ?_⟩
      obtain ⟨j1, j2, j3⟩ := inv4.read (by decide) r42 f4 (y := rt) (by decide) fun _ => rfl
      refine read_t (C := mkC C1 rb hr eb ix N4 hp lf) T9 inv4.ok 2 rt fun h10 T10 k10 => ⟨rfl, ?_⟩
      exact body h10 _ 5 (by decide) j1 (Or.inl j3) T10 (K9.trans k10)
    · rw [if_neg hc, wr (n := v) (by omega)]
      refine num_t v fun h10 e10 => ⟨2, v, 0, ByteArray.mk #[], rfl, ?_⟩
      have T10 := TbX.e0 T9 e10
      have K10 := K9.trans (TbX.kg T9 e10)
      have s1' : (txL N4.L 1).state ≠ 3 := s41
      obtain ⟨f1, f2, f3⟩ := find_cov hL (num_ok (vok (n := v) (by omega))) (num_good v)
      have hfind : findT (mkC C1 rb hr eb ix N4 hp lf) 1 sI (numV v) = X.findP lf (numV v) := by
        unfold findT getM
        rw [mk_stand s1']
        rfl
      have hst := mk_stand (C0 := C1) (rb := rb) (hr := hr) (eb := eb) (ix := ix) (hp := hp) (lf := lf) s1'
      refine Find_t (C := mkC C1 rb hr eb ix N4 hp lf) (m := 9) T10 (mk_few _ _ _ _ _ _ _ _) 1 sI (fun e he => by
        rw [hst] at he
        obtain rfl := List.mem_singleton.1 he
        exact ⟨hL.ok, hL.km (by decide)⟩) (by decide) (numV v) (num_ok (vok (by omega))) (hG0 K10) fun h11 st sn T11 e11 o1 o2 => ⟨st, sn, rfl, ?_⟩
      rw [hfind] at o2
      have hn2 := o2.1
      rw [if_neg (by
        rw [hn2]
        have : (X.findP lf (numV v)).2.length ≠ 0 := fun e => f1 (List.length_eq_zero_iff.1 e)
        simp
        omega)]
      intro X131 hX131
      have T11' := TbX.more T10 e11
      have K11 := K10.trans (TbX.kg T10 e11)
      have hsn : ∀ b ∈ sBlk sn, GX (fun b => b < h.size) h10 h11 b := fun b hb => Or.inr (own_ltG o2 b hb)
      generalize hls : (X.findP lf (numV v)).2 = ls at *
      have loopR := loopI (X := X131) ls.length (fun i g => ∃ M, Inv N4.L N4.safe (4 + i) M ∧ (∀ j ∈ ls.take i, has M.S 2 (lt j)) ∧ Tb (fun _ _ => True) (GX (fun b => b < h.size) h10 h11) g (mkC C1 rb hr eb ix M hp lf) ∧ KG (fun b => b < h.size) h g ∧ KG (GX (fun b => b < h.size) h10 h11) h11 g) ?_ ?_ h11 ?_
      · exact loopR
      · rintro g ⟨M, hi, hh, Tg, kg, _⟩
        refine hX131 _ _ ?_
        rw [if_neg (by rw [hn2]; simp)]
        rw [List.take_length] at hh
        exact body g M _ (by omega) hi (Or.inr (f3 M hh)) (TbX.less Tg fun b hb => Or.inl hb) kg
      · rintro i g hi' ⟨M, hi, hh, Tg, kg, kg2⟩ hnext
        refine hX131 _ _ ?_
        rw [if_pos (by rw [hn2]; simp; omega)]
        have og : Own T_int 1 encIL h10.size g sn ls := own_kg o2 fun b hb => kg2.old b (hsn b hb)
        obtain ⟨al, hal, hrd⟩ := own_rdI og hi'
        rw [hal]
        simp only [nilW_some, Int.toNat_natCast]
        have hw' : IntKind.wrap .i64 ((i : Int) + 1) = ((i + 1 : Nat) : Int) := by rw [wrap64 (by omega) (by omega)]; simp
        rw [hw']
        refine ⟨by omega, by omega, ls[i], hrd, ?_⟩
        refine Ssi_t (C := mkC C1 rb hr eb ix M hp lf) Tg ⟨_, rfl, hrd, ?_⟩
        obtain ⟨j1, j2, j3⟩ := hi.read (by omega) r42 f4 (y := lt ls[i]) ⟨(by decide : (1:Int) ≤ 3), (by decide : (3:Int) ≤ 4)⟩ fun e => by cases e
        refine read_t (C := mkC C1 rb hr eb ix M hp lf) Tg hi.ok 2 (lt ls[i]) fun h12 T12 k12 => ⟨rfl, ?_⟩
        refine hnext h12 ⟨_, j1, fun j hj => ?_, T12, kg.trans (k12.anti fun b hb => Or.inl hb), kg2.trans k12⟩
        rw [List.take_succ_eq_append_getElem hi'] at hj
        rcases List.mem_append.1 hj with q | q
        · exact j2 _ (hh j q)
        · obtain rfl := List.mem_singleton.1 q
          exact j3
      · exact ⟨N4, inv4, by simp, T11', K11, KG.refl _ _⟩
  · rintro i g hi ⟨hp, lf, hL, Tg, kg⟩ hnext
    refine hX19 _ _ ?_
    rw [if_pos (by simp; omega)]
    have hw : IntKind.wrap .i64 ((i : Int) + 1) = ((i + 1 : Nat) : Int) := by rw [wrap64 (by omega) (by omega)]; simp
    rw [wr (n := 10 * (i : Int)) (by omega), hw]
    refine putN_t (K := fun h33 => X19 [.int .i64 ((i + 1 : Nat) : Int)] h33) Tg mk1 (by decide) hL (by omega) (by omega) (hG0 kg) hg0 (x := 1) (by decide) (by rw [r1]; decide) (vok (by omega)) fun h7 T7 k7 => ?_
    rw [put_none s1] at T7
    exact hnext h7 ⟨_, _, (hL.add (by omega) (num_ok (vok (by omega))) (num_good _) (by decide)).1, T7, kg.trans k7⟩
  · exact ⟨⟨[], 0⟩, lf0 3, ⟨X.new_ok (by decide), ⟨[], X.InI.new 3, by simp, by simp⟩, rfl, rfl⟩, T6, K6⟩
end Go.Lift.T
namespace Go.Lift
open Go Go.Proofs Go.RowKit Go.ChangeShapes
set_option maxRecDepth 100000
theorem rd_world {w : World} {a : Addr} : w.cell? a = rd w.heap a := by
  unfold World.cell? rd
  rfl
theorem cell_i8 {P : Program} {w : World} {r : Reach} {b0 : Nat} {u : TypeId} {x : Value} (hu : P.underlying u = some (.int .i8)) (h : Cell.okWide P w r b0 u x) : ∃ n, x = .int .i8 n ∧ -128 ≤ n ∧ n < 128 := by
  unfold Cell.okWide at h
  rw [hu] at h
  unfold Cell.ok at h
  rw [hu] at h
  cases x <;> simp at h
  obtain ⟨h1, h2⟩ := h
  refine ⟨_, by rw [h1], ?_⟩
  unfold IntKind.has at h2
  have g1 : IntKind.i8.min = -128 := rfl
  have g2 : IntKind.i8.max = 127 := rfl
  omega
theorem cell_bo {P : Program} {w : World} {r : Reach} {b0 : Nat} {u : TypeId} {x : Value} (hu : P.underlying u = some .bool) (h : Cell.okWide P w r b0 u x) : ∃ b, x = .bool b := by
  unfold Cell.okWide at h
  rw [hu] at h
  unfold Cell.ok at h
  rw [hu] at h
  cases x <;> simp at h
  exact ⟨_, rfl⟩
section
variable {w : World} {r : Reach} {b0 : Nat} {v : Value}
theorem open_8 (hv : Value.okWide Tryz.prog w r b0 74 v) : ∃ n : Int, v = .int .i8 n ∧ -128 ≤ n ∧ n < 128 := by
  unfold Value.okWide at hv
  rw [Tryz.underlying74] at hv
  exact cell_i8 Tryz.underlying74 hv
theorem open_bo (hv : Value.okWide Tryz.prog w r b0 4 v) : ∃ b, v = .bool b := by
  unfold Value.okWide at hv
  rw [Tryz.underlying4] at hv
  exact cell_bo Tryz.underlying4 hv
theorem gm_of (h : w.ShapedOpen Tryz.prog) : X.GM w.heap := by
  obtain ⟨m, hm⟩ := cell_of_shapedOpen_int (g := 1) (t := 3) (k := .i64) (zero := #[.int .i64 0]) h (of_decide_eq_true (by kernel_rfl)) (by kernel_rfl) rfl (by kernel_rfl) (by kernel_rfl) Tryz.underlying3
  exact ⟨m, by rw [← rd_world]; exact hm⟩
end
end Go.Lift
namespace Go.Proofs.YtgdiihffjogdiaaGreatDoor
open Go Go.Lift Go.ChangeShapes Go.WideShapes Go.ChangeAt Go.RowKit
theorem own : ownKnob Tryz.prog.godebug = none := by kernel_rfl
theorem laidOut : laidOutB Tryz.prog = true := by kernel_rfl
/-- What the two tables hold. -/
noncomputable def lay2 : Obj → Obj
  | .cells _ t frozen => .cells #[.int .u8 128, .int .u8 191, .int .u8 160, .int .u8 191, .int .u8 128, .int .u8 159, .int .u8 144, .int .u8 191, .int .u8 128, .int .u8 143, .int .u8 0, .int .u8 0, .int .u8 0, .int .u8 0, .int .u8 0, .int .u8 0, .int .u8 0, .int .u8 0, .int .u8 0, .int .u8 0, .int .u8 0, .int .u8 0, .int .u8 0, .int .u8 0, .int .u8 0, .int .u8 0, .int .u8 0, .int .u8 0, .int .u8 0, .int .u8 0, .int .u8 0, .int .u8 0] t frozen
  | o => o
noncomputable def lay3 : Obj → Obj
  | .cells _ t frozen => .cells (Go.Pinned.utf8FirstZ.map fun (n : Nat) => Value.int .u8 (n : Int)).toArray t frozen
  | o => o
/-- A world for the witness: the settled one, the two tables holding what their initialisers lay. -/
noncomputable def laidWorld (os : Os) : World :=
  { World.holding Tryz.prog os ⟨#[], #[], []⟩ with heap := ((World.holding Tryz.prog os ⟨#[], #[], []⟩).heap.modify 2 lay3).modify 3 lay2 }
end Go.Proofs.YtgdiihffjogdiaaGreatDoor

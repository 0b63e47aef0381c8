/- What lies between two keys: the numbers, the leaves. -/
import Derived.Test.YtmlcjckocgnjfaaGreatDoorI11a
import Derived.Test.YtmlcjckocgnjfaaGreatDoorIt11
import Derived.Test.YtmlcjckocgnjfaaGreatDoorLvY
set_option linter.unusedSimpArgs false
set_option linter.unusedVariables false
namespace Go.Lift
open Go Go.Proofs Go.RowKit
set_option maxRecDepth 100000
def entP (k : ByteArray) : Option Int := if (splitP (btl k)).2.2 = 0 then some (splitP (btl k)).2.1 else none
def tidsL (ks : List ByteArray) : List Int := ks.filterMap entP
theorem enters11 {P : Program} {f : FuncId} {fn : Func} (hf : P.funcs[f]? = some fn) (hn : (fn.name == "runtime.NumGoroutine") = false) (hb : fn.body.isNone = false) : ∀ (args : Array Value) (w : World), (callFunc f args).run P w = .ok (.enter f args) w := by
  intro args w
  have hn' : ¬ fn.name = "runtime.NumGoroutine" := by simpa using hn
  have hb' : ¬ fn.body = none := fun e => by rw [e] at hb; cases hb
  simp [callFunc, Sem.run_bind, hf, hn', hb', Result.andThen]
theorem own_no {α : Type} {T : TypeId} {sz lo : Nat} {enc : α → List Value} {h : Hp} {s : Sl} {xs : List α} (ho : Own T sz enc lo h s xs) {b : Nat} {o : Obj} (hb : h[b]? = some o) (hno : ∀ c fz, o ≠ .cells c T fz) : b ∉ sBlk s := by
  intro hm
  obtain ⟨a, ha, e⟩ := mem_sBlk.1 hm
  obtain ⟨b', c, h1, _, hc, _⟩ := ho.2.2 a ha
  rw [h1] at e
  simp only at e
  subst e
  unfold Blk at hc
  rw [hb] at hc
  exact hno _ _ (Option.some.inj hc)
section
variable {lo n : Nat} {G : Nat → Prop} {h : Hp} {x : Nat} {M : LeafM} {Q : List Value → Hp → Prop}
theorem keep4 {v : V4} {T : TypeId} {K : Hp → Prop} (H : ∀ g, Ext [] h g → Blk g h.size (cells4 v) T → K g) :
    wth (Array.push h (Obj.cells #[(Value.int .i64 (0 : Int)), (Value.int .i64 (0 : Int)), (Value.float .f64 0), (Value.string (ByteArray.mk #[]))] T)) fun h1 =>
    stOk h1 (Addr.mk (Array.size h) 0 none) 4 ∧ wth (wrs h1 (Addr.mk (Array.size h) 0 none) 0 [.int .i64 v.k, .int .i64 v.n, .float .f64 v.f, .string v.s]) K :=
  newI fun h1 s1 b1 e1 => put4 b1 rfl v fun g sg bg eg => H g (e1.trans eg fun b hb hlt => by simp at hb; omega) bg
theorem between_s (hx : Ix lo G h x M) (ok : OkM M n) (hn : n < 2 ^ 15) (a b : ByteArray) (hk : ∀ k ∈ (M.rng a b).1, k.size ≤ 2 ^ 40) (hlk : (M.rng a b).1.length ≤ 2 ^ 29)
    (hQ : ∀ h' st sn, Ix lo G h' x M → Ext [] h h' → Own T_int 1 encIL h.size h' st (tidsL (M.rng a b).1) → Own T_int 1 encIL h.size h' sn (M.rng a b).2 → Q [.slice st.a st.n st.c, .slice sn.a sn.n sn.c] h') : S_index_Index_between (some ⟨x, 0, none⟩) a b h Q := by
  refine fn_of_calls Tryz.func34 (c := bodyOf Tryz.f34) (by kernel_rfl) (by kernel_rfl) (O_bt _ _ _ ?_)
  unfold F_bt
  refine newI fun h1 s1 b1 e1 => ?_
  rw [nilW_some]
  have hx1 := hx.e0 e1
  obtain ⟨q, hv, hb, _, _⟩ := hx1
  refine ⟨some ⟨q, 0, none⟩, by simp [rd_blk hb], ?_⟩
  refine Range_L hv ok hn a b fun h3 sk sn hv3 e3 ok3 on3 => ⟨sk, sn, rfl, ?_⟩
  have b3 := e3.get b1 (by simp)
  refine O_index_entries _ ?_
  unfold F_index_entries
  refine newI fun h4 s4 b4 e4 => ⟨73, _, rfl, 73, #[], _, rfl, enters11 Tryz.func73 (by kernel_rfl) (by kernel_rfl), fun L hy => ?_⟩
  obtain ⟨h6, hh6⟩ : ∃ h6, (h4.push (.deferred (some []))).push (.loop L) = h6 := ⟨_, rfl⟩
  rw [hh6]
  have z6 : h6.size = h4.size + 2 := by rw [← hh6]; simp
  have bD : h6[h4.size]? = some (.deferred (some [])) := by rw [← hh6]; exact push_old (push_get h4 _) _
  have bL : h6[h4.size + 1]? = some (.loop L) := by rw [← hh6]; have := push_get (h4.push (.deferred (some []))) (.loop L); rwa [Array.size_push] at this
  have e46 : Ext [] h4 h6 := by rw [← hh6]; exact (Ext.push [] h4 _).trans0 (Ext.push [] _ _)
  have e36 := e4.trans0 e46
  have e06 : Ext [] h h6 := ((e1.trans0 e3).trans0 e36)
  have hz1 : h1.size ≤ h3.size := e3.sz
  have ks6 : Own T_string 1 encB h1.size h6 sk (M.rng a b).1 := ok3.ext0 e36
  have ns6 : Own T_int 1 encIL h1.size h6 sn (M.rng a b).2 := on3.ext0 e36
  have ks_lt : ∀ c ∈ sBlk sk, h1.size ≤ c ∧ c < h3.size := own_ltG ok3
  have ns_lt : ∀ c ∈ sBlk sn, h1.size ≤ c ∧ c < h3.size := own_ltG on3
  refine O_ikX hy ⟨h3.size, 0, none⟩ ?_
  unfold F_ikX
  refine ⟨sk, by rw [rd_blk (e46.get b4 (by simp))]; rfl, ?_⟩
  intro X hX
  have hsk := ks6.1
  have key : ∀ (d i : Nat) (g : Hp) (s : Sl), d + i = (M.rng a b).1.length → Ext [h.size, h4.size + 1] h6 g → g[h.size]? = some (.cells #[.slice s.a s.n s.c] 44) → g[h4.size + 1]? = some (.loop L) → Own T_int 1 encIL h6.size g s (tidsL ((M.rng a b).1.take i)) → X [.int .i64 (i : Int)] g := by
    intro d
    induction d with
    | zero =>
      intro i g s hi eg bg gL og
      have : i = (M.rng a b).1.length := by omega
      subst this
      refine hX _ _ ?_
      rw [if_neg (by simp; omega)]
      rw [List.take_length] at og
      refine ⟨gL, setI gL fun g1 z1 k1 d1 => ⟨s, by rw [rd_blk (d1.get bg (by simp; omega))]; rfl, ?_⟩⟩
      refine st_blk (d1.get bg (by simp; omega)) (by simp) fun g2 z2 c2 d2 => ?_
      have gD : g[h4.size]? = some (.deferred (some [])) := eg.get bD (by simp; omega)
      have gD2 := d2.get (d1.get gD (by simp)) (by simp; omega)
      refine ⟨gD2, setI gD2 fun g3 z3 k3 d3 => ⟨s, by rw [rd_blk (d3.get c2 (by simp; omega))]; rfl, ?_⟩⟩
      have d13 : Ext [h.size, h4.size, h4.size + 1] g g3 := ((d1.mono (by intro b hb _; simp at hb; subst hb; simp)).trans d2 (by intro b hb _; simp at hb; subst hb; simp)).trans d3 (by intro b hb _; simp at hb; subst hb; simp)
      have d63 : Ext [h.size, h4.size, h4.size + 1] h6 g3 := (eg.mono (by intro b hb _; simp at hb; rcases hb with rfl | rfl <;> simp)).trans d13 (fun b hb _ => hb)
      have e3' : Ext [] h g3 := e06.trans d63 fun b hb hlt => by simp at hb; omega
      refine hQ g3 s sn (hx.e0 e3') e3' ?_ ?_
      · refine (og.ext d13 fun ad ha hm => ?_).mono (by omega)
        have := og.blk _ (mem_sBlk.2 ⟨ad, ha, rfl⟩)
        simp at hm
        omega
      · refine (ns6.ext d63 fun ad ha hm => ?_).mono (by omega)
        have := ns_lt _ (mem_sBlk.2 ⟨ad, ha, rfl⟩)
        simp at hm
        omega
    | succ d ih =>
      intro i g s hi eg bg gL og
      have hil : i < (M.rng a b).1.length := by omega
      refine hX _ _ ?_
      rw [if_pos (by simp; omega)]
      have ksg : Own T_string 1 encB h1.size g sk (M.rng a b).1 := ks6.ext eg fun ad ha hm => by
        have := ks_lt _ (mem_sBlk.2 ⟨ad, ha, rfl⟩)
        simp at hm
        omega
      obtain ⟨ad, ha, hrd⟩ := ksg.sl.reads.rd encB_len hil
      rw [ha, nilW_some]
      refine ⟨by omega, by omega, (M.rng a b).1[i], ?_, ?_⟩
      · have := hrd 0 (by decide)
        rw [Int.toNat_natCast]
        exact this
      have hki := hk _ (List.getElem_mem hil)
      have htake : (M.rng a b).1.take (i + 1) = (M.rng a b).1.take i ++ [(M.rng a b).1[i]] := by rw [List.take_add_one, List.getElem?_eq_getElem hil]; rfl
      have htid : tidsL ((M.rng a b).1.take (i + 1)) = tidsL ((M.rng a b).1.take i) ++ (entP (M.rng a b).1[i]).toList := by
        unfold tidsL
        rw [htake, List.filterMap_append]
        cases hE : entP (M.rng a b).1[i] <;> simp [hE]
      have hsz : (btl (M.rng a b).1[i]).length ≤ 2 ^ 40 := by rw [← size_btl]; exact hki
      have hof : (M.rng a b).1[i] = ofBtl (btl (M.rng a b).1[i]) := (ofBtl_btl _).symm
      have nx : ∀ g' s', Ext [h.size, h4.size + 1] h6 g' → g'[h.size]? = some (.cells #[.slice s'.a s'.n s'.c] 44) → g'[h4.size + 1]? = some (.loop L) → Own T_int 1 encIL h6.size g' s' (tidsL ((M.rng a b).1.take (i + 1))) → X [.int .i64 (IntKind.wrap .i64 ((i : Int) + 1))] g' := by
        intro g' s' h1' h2' h3' h4'
        rw [wrap64 (by omega) (by omega)]
        exact ih (i + 1) g' s' (by omega) h1' h2' h3' h4'
      rw [hof]
      refine Split_s (btl (M.rng a b).1[i]) hsz fun g2 f2 => ⟨_, _, _, _, _, _, rfl, ?_⟩
      refine keep4 (v := (splitP (btl (M.rng a b).1[i])).1) fun g3 f3 b3' => ?_
      have f23 := f2.trans0 f3
      have eg3 : Ext [h.size, h4.size + 1] h6 g3 := eg.trans0 f23
      have bg3 := f23.get bg (by simp)
      have gL3 := f23.get gL (by simp)
      have og3 := og.ext0 f23
      have hgz := eg3.sz
      intro J hJ
      by_cases he : (splitP (btl (M.rng a b).1[i])).2.2 = 0
      · rw [if_pos (by simp [he])]
        have hent : entP (M.rng a b).1[i] = some (splitP (btl (M.rng a b).1[i])).2.1 := by unfold entP; rw [if_pos he]
        rw [hent] at htid
        refine ⟨rfl, O_rbt ⟨gL3, gL3, setI gL3 fun g4 z4 k4 d4 => ?_⟩⟩
        have bg4 := d4.get bg3 (by simp; omega)
        have og4 := og3.ext d4 fun ad ha hm => own_no og3 gL3 (by simp) (mem_sBlk.2 ⟨ad, ha, by simpa using hm⟩)
        refine ⟨s, by rw [rd_blk bg4]; rfl, newI fun g5 z5 c5 d5 => ?_⟩
        have og5 := og4.ext0 d5
        have k5 := d5.get k4 (by simp)
        have bg5 := d5.get bg4 (by simp)
        have hln : (tidsL ((M.rng a b).1.take i)).length ≤ 2 ^ 30 := by
          unfold tidsL
          have := List.length_filterMap_le entP ((M.rng a b).1.take i)
          rw [List.length_take] at this
          omega
        refine oneG (k := (splitP (btl (M.rng a b).1[i])).2.1) encIL_len encIL_one zcInt (by decide) og5 c5 hln (by omega) fun s6 g6 o6 d6 hb6 => ?_
        have bg6 := d6.get bg5 (own_no og5 bg5 (by intro c fz e; cases e))
        have k6 := d6.get k5 (own_no og5 k5 (by simp))
        refine st_blk bg6 (by simp) fun g7 z7 c7 d7 => ?_
        have c7' : g7[h.size]? = some (.cells #[.slice s6.a s6.n s6.c] 44) := c7
        have k7 := d7.get k6 (by simp; omega)
        have o7 := o6.ext d7 fun ad ha hm => own_no o6 bg6 (by intro c fz e; cases e) (mem_sBlk.2 ⟨ad, ha, by simpa using hm⟩)
        refine ⟨k7, ?_⟩
        show J [.bool false] _
        have d8 := Ext.set g7 (h4.size + 1) (.loop L)
        have ob5 := og5.blk
        refine hJ _ _ ?_
        rw [if_neg (by decide)]
        refine nx _ s6 ?_ (d8.get c7' (by simp; omega)) (set_blk k7) ?_
        · refine (((eg3.trans d4 (by intro b hb _; simp at hb; subst hb; simp)).trans0 d5).trans d6 fun b hb hlt => ?_).trans d7 (by intro b hb _; simp at hb; subst hb; simp) |>.trans d8 (by intro b hb _; simp at hb; subst hb; simp)
          have := ob5 b hb
          omega
        · rw [htid]
          exact o7.ext d8 fun ad ha hm => own_no o7 k7 (by simp) (mem_sBlk.2 ⟨ad, ha, by simpa using hm⟩)
      · rw [if_neg (by simpa using he)]
        have hent : entP (M.rng a b).1[i] = none := by unfold entP; rw [if_neg he]
        rw [hent] at htid
        refine hJ _ _ ?_
        rw [if_neg (by decide)]
        refine nx g3 s eg3 bg3 gL3 ?_
        rw [htid]
        simpa using og3
  refine key (M.rng a b).1.length 0 h6 ⟨none, 0, 0⟩ (by omega) (Ext.refl _ _) ?_ bL ?_
  · exact e36.get b3 (by simp)
  · exact Own.nil _ _
end
end Go.Lift
namespace Go.Lift
open Go Go.Proofs Go.RowKit
set_option maxRecDepth 100000
/-- The keys between any two are few and short. -/
def KM (M : LeafM) : Prop := ∀ a b : ByteArray, (∀ k ∈ (M.rng a b).1, k.size ≤ 2 ^ 40) ∧ (M.rng a b).1.length ≤ 2 ^ 29
def findP (M : LeafM) (v : V4) : List Int × List Int := if goodX v = true then (tidsL (M.rng (entryP v 0).1 (afterP v).1).1, (M.rng (entryP v 0).1 (afterP v).1).2) else ([], [])
def rangeP (M : LeafM) (v w : V4) : List Int × List Int := if goodX v = true ∧ goodX w = true then (tidsL (M.rng (entryP v 0).1 (entryP w 0).1).1, (M.rng (entryP v 0).1 (entryP w 0).1).2) else ([], [])
theorem entry_err {v : V4} : (entryP v 0).2 = if goodX v = true then 0 else 11 := by
  unfold entryP
  split
  · rw [if_neg (by omega)]
  · rfl
theorem after_err {v : V4} : (afterP v).2 = if goodX v = true then 0 else 11 := by
  unfold afterP
  split <;> rfl
section
variable {lo n : Nat} {G : Nat → Prop} {h : Hp} {x : Nat} {M : LeafM} {Q : List Value → Hp → Prop}
theorem Find_i (hx : Ix lo G h x M) (ok : OkM M n) (hn : n < 2 ^ 15) (km : KM M) (v : V4) (hv : VOk v) (hg : GM h)
    (hQ : ∀ h' st sn, Ix lo G h' x M → Ext [] h h' → Own T_int 1 encIL h.size h' st (findP M v).1 → Own T_int 1 encIL h.size h' sn (findP M v).2 → Q [.slice st.a st.n st.c, .slice sn.a sn.n sn.c] h') : S_index_Index_Find (some ⟨x, 0, none⟩) v.k v.n v.f v.s h Q := by
  refine O_index_Index_Find _ _ _ _ _ ?_
  unfold F_index_Index_Find
  refine newI fun h1 s1 b1' e1 => ?_
  have b1 : Blk h1 h.size (cells4 v) T_api_Value := b1'
  refine rdV b1 ?_
  refine Least_s v hv (hg.ext e1) fun h7 e7 => ⟨_, _, rfl, ?_⟩
  refine rdV (e7.get b1 (by simp)) ?_
  refine After_s v hv ((hg.ext e1).ext e7) fun h15 e15 => ⟨_, _, rfl, ?_⟩
  have e015 := (e1.trans0 e7).trans0 e15
  intro J hJ
  rw [if_neg (by simp), entry_err, after_err]
  unfold findP at hQ
  cases hgd : goodX v with
  | false =>
    rw [hgd] at hQ
    have k : J [.bool true] h15 := by
      refine hJ _ _ ?_
      rw [if_pos rfl]
      exact hQ h15 ⟨none, 0, 0⟩ ⟨none, 0, 0⟩ (hx.e0 e015) e015 (Own.nil _ _) (Own.nil _ _)
    simpa using k
  | true =>
    rw [hgd] at hQ
    have k : J [.bool false] h15 := by
      refine hJ _ _ ?_
      rw [if_neg (by decide)]
      have hz := e015.sz
      refine between_s (hx.e0 e015) ok hn _ _ (km _ _).1 (km _ _).2 fun h' st sn hx' e' ot on => ⟨st, sn, rfl, ?_⟩
      exact hQ h' st sn hx' (e015.trans0 e') (ot.mono hz) (on.mono hz)
    simpa using k
theorem Range_i (hx : Ix lo G h x M) (ok : OkM M n) (hn : n < 2 ^ 15) (km : KM M) (v w : V4) (hv : VOk v) (hw : VOk w) (hg : GM h)
    (hQ : ∀ h' st sn, Ix lo G h' x M → Ext [] h h' → Own T_int 1 encIL h.size h' st (rangeP M v w).1 → Own T_int 1 encIL h.size h' sn (rangeP M v w).2 → Q [.slice st.a st.n st.c, .slice sn.a sn.n sn.c] h') : S_index_Index_Range (some ⟨x, 0, none⟩) v.k v.n v.f v.s w.k w.n w.f w.s h Q := by
  refine O_index_Index_Range _ _ _ _ _ _ _ _ _ ?_
  unfold F_index_Index_Range
  refine newI fun h1 s1 b1' e1 => newI fun h2 s2 b2' e2 => ?_
  have b1 : Blk h2 h.size (cells4 v) T_api_Value := e2.get b1' (by simp)
  have b2 : Blk h2 h1.size (cells4 w) T_api_Value := b2'
  have e02 := e1.trans0 e2
  refine rdV b1 ?_
  refine Least_s v hv (hg.ext e02) fun h7 e7 => ⟨_, _, rfl, ?_⟩
  refine rdV (e7.get b2 (by simp)) ?_
  refine Least_s w hw ((hg.ext e02).ext e7) fun h15 e15 => ⟨_, _, rfl, ?_⟩
  have e015 := (e02.trans0 e7).trans0 e15
  intro J hJ
  rw [if_neg (by simp), entry_err, entry_err]
  unfold rangeP at hQ
  have bad : ¬ (goodX v = true ∧ goodX w = true) → J [.bool true] h15 := fun hno => by
    refine hJ _ _ ?_
    rw [if_pos rfl]
    rw [if_neg hno] at hQ
    exact hQ h15 ⟨none, 0, 0⟩ ⟨none, 0, 0⟩ (hx.e0 e015) e015 (Own.nil _ _) (Own.nil _ _)
  cases hgd : goodX v with
  | false =>
    have k := bad (by simp [hgd])
    simpa using k
  | true =>
    cases hgw : goodX w with
    | false =>
      have k := bad (by simp [hgw])
      simpa using k
    | true =>
      rw [if_pos ⟨hgd, hgw⟩] at hQ
      have k : J [.bool false] h15 := by
        refine hJ _ _ ?_
        rw [if_neg (by decide)]
        have hz := e015.sz
        refine between_s (hx.e0 e015) ok hn _ _ (km _ _).1 (km _ _).2 fun h' st sn hx' e' ot on => ⟨st, sn, rfl, ?_⟩
        exact hQ h' st sn hx' (e015.trans0 e') (ot.mono hz) (on.mono hz)
      simpa using k
/-! No index. -/
theorem AddN_i (v : V4) (t : Int) (hQ : ∀ h', Ext [] h h' → Q (didV (noDid 1)) h') : S_index_Index_Add none v.k v.n v.f v.s t h Q := by
  refine O_index_Index_Add _ _ _ _ _ _ ?_
  unfold F_index_Index_Add
  refine newI fun h1 s1 b1' e1 => newI fun h2 s2 b2 e2 => ?_
  rw [if_pos (by rfl)]
  refine st_blk b2 (by simp) fun h3 s3 b3 e3 => ?_
  exact ⟨0, by simp [rd_blk b3], 0, by simp [rd_blk b3], hQ h3 ((e1.trans0 e2).trans e3 fun b hb hlt => by simp at hb; omega)⟩
theorem DropN_i (v : V4) (t : Int) (hQ : ∀ h', Ext [] h h' → Q (didV (noDid 1)) h') : S_index_Index_Drop none v.k v.n v.f v.s t h Q := by
  refine O_index_Index_Drop _ _ _ _ _ _ ?_
  unfold F_index_Index_Drop
  refine newI fun h1 s1 b1' e1 => newI fun h2 s2 b2 e2 => ?_
  rw [if_pos (by rfl)]
  refine st_blk b2 (by simp) fun h3 s3 b3 e3 => ?_
  exact ⟨0, by simp [rd_blk b3], 0, by simp [rd_blk b3], hQ h3 ((e1.trans0 e2).trans e3 fun b hb hlt => by simp at hb; omega)⟩
theorem FindN_i (v : V4) (hv : VOk v) (hg : GM h) (hQ : ∀ h', Ext [] h h' → Q [.slice none 0 0, .slice none 0 0] h') : S_index_Index_Find none v.k v.n v.f v.s h Q := by
  refine O_index_Index_Find _ _ _ _ _ ?_
  unfold F_index_Index_Find
  refine newI fun h1 s1 b1' e1 => ?_
  have b1 : Blk h1 h.size (cells4 v) T_api_Value := b1'
  refine rdV b1 ?_
  refine Least_s v hv (hg.ext e1) fun h7 e7 => ⟨_, _, rfl, ?_⟩
  refine rdV (e7.get b1 (by simp)) ?_
  refine After_s v hv ((hg.ext e1).ext e7) fun h15 e15 => ⟨_, _, rfl, ?_⟩
  intro J hJ
  rw [if_pos (by rfl)]
  refine hJ _ _ ?_
  rw [if_pos rfl]
  exact hQ h15 ((e1.trans0 e7).trans0 e15)
theorem RangeN_i (v w : V4) (hv : VOk v) (hw : VOk w) (hg : GM h) (hQ : ∀ h', Ext [] h h' → Q [.slice none 0 0, .slice none 0 0] h') : S_index_Index_Range none v.k v.n v.f v.s w.k w.n w.f w.s h Q := by
  refine O_index_Index_Range _ _ _ _ _ _ _ _ _ ?_
  unfold F_index_Index_Range
  refine newI fun h1 s1 b1' e1 => newI fun h2 s2 b2' e2 => ?_
  have b1 : Blk h2 h.size (cells4 v) T_api_Value := e2.get b1' (by simp)
  have b2 : Blk h2 h1.size (cells4 w) T_api_Value := b2'
  have e02 := e1.trans0 e2
  refine rdV b1 ?_
  refine Least_s v hv (hg.ext e02) fun h7 e7 => ⟨_, _, rfl, ?_⟩
  refine rdV (e7.get b2 (by simp)) ?_
  refine Least_s w hw ((hg.ext e02).ext e7) fun h15 e15 => ⟨_, _, rfl, ?_⟩
  intro J hJ
  rw [if_pos (by rfl)]
  refine hJ _ _ ?_
  rw [if_pos rfl]
  exact hQ h15 ((e02.trans0 e7).trans0 e15)
theorem HasN_i (v : V4) (hv : VOk v) (t : Int) (hg : GM h) (hQ : ∀ h', Ext [] h h' → Q [.bool false] h') : S_index_Index_Has none v.k v.n v.f v.s t h Q := by
  refine O_index_Index_Has _ _ _ _ _ _ ?_
  unfold F_index_Index_Has
  refine newI fun h1 s1 b1' e1 => ?_
  have b1 : Blk h1 h.size (cells4 v) T_api_Value := b1'
  refine rdV b1 ?_
  refine Entry_s v hv (hg.ext e1) t fun h3 e3 => ⟨_, _, rfl, ?_⟩
  rw [if_neg (by decide)]
  exact hQ h3 (e1.trans0 e3)
theorem LenN_i (hQ : Q [.int .i64 0] h) : S_index_Index_Len none h Q := by
  refine O_index_Index_Len _ ?_
  unfold F_index_Index_Len
  rw [if_pos (by rfl)]
  exact hQ
theorem LeavesN_i (hQ : Q [.slice none 0 0] h) : S_index_Index_Leaves none h Q := by
  refine O_index_Index_Leaves _ ?_
  unfold F_index_Index_Leaves
  rw [if_pos (by rfl)]
  exact hQ
theorem Large_i (v : V4) (hQ : ∀ h', Ext [] h h' → Q [.bool (decide ((v.s.size : Int) > 2000))] h') : S_liverykeep_LargeValue v.k v.n v.f v.s h Q := by
  refine O_liverykeep_LargeValue _ _ _ _ ?_
  unfold F_liverykeep_LargeValue
  refine newI fun h1 s1 b1 e1 => ?_
  have b1' : Blk h1 h.size (cells4 v) T_api_Value := b1
  exact ⟨v.s, (rd4V b1').2.2.2, hQ h1 e1⟩
end
end Go.Lift
namespace Go.Lift
open Go Go.Proofs Go.RowKit
set_option maxRecDepth 100000
theorem sub_flat {α β : Type} (f : α → List β) : ∀ {l m : List α}, l.Sublist m → (l.flatMap f).Sublist (m.flatMap f)
  | _, _, .slnil => List.Sublist.refl _
  | _, _, .cons a h => by
    rw [List.flatMap_cons]
    exact (sub_flat f h).trans (List.sublist_append_right _ _)
  | _, _, .cons_cons a h => by
    rw [List.flatMap_cons, List.flatMap_cons]
    exact List.Sublist.append (List.Sublist.refl _) (sub_flat f h)
theorem rng_sub (M : LeafM) (a b : ByteArray) : ((M.rng a b).1).Sublist (M.l.flatMap OneM.keys) := by
  unfold LeafM.rng
  split
  · exact List.nil_sublist _
  · exact List.filter_sublist.trans (sub_flat _ ((List.drop_sublist _ _).trans (List.take_sublist _ _)))
theorem KM_of {M : LeafM} (h1 : ∀ k ∈ M.l.flatMap OneM.keys, k.size ≤ 2 ^ 40) (h2 : (M.l.flatMap OneM.keys).length ≤ 2 ^ 29) : KM M := fun a b =>
  ⟨fun k hk => h1 k ((rng_sub M a b).subset hk), Nat.le_trans (rng_sub M a b).length_le h2⟩
theorem two_be {n : Nat} (hn : n ≤ 65535) : twoL (beL 2 n) = (n : Int) := by
  have h := num_beL (k := 2) (u := n) (by omega)
  have hl := beL_len 2 n
  unfold twoL
  generalize hb : beL 2 n = b at h hl ⊢
  obtain ⟨x, y, rfl⟩ : ∃ x y, b = [x, y] := by
    cases b with
    | nil => cases hl
    | cons x b => cases b with
      | nil => cases hl
      | cons y b => cases b with
        | nil => exact ⟨x, y, rfl⟩
        | cons z b => simp at hl
  rw [numL_cons, numL_cons] at h
  have h0 : numL [] = 0 := rfl
  rw [h0] at h
  simp at h ⊢
  omega
theorem splitP_of {v : V4} (hv : VOk v) (hg : goodX v = true) {n : Nat} (hn : n ≤ 65535) : splitP (encX v ++ beL 2 n) = (v, (n : Int), 0) := by
  unfold splitP
  rw [firstL_of hv hg]
  simp only
  rw [if_pos (beL_len 2 n), two_be hn]
theorem entryP_good {v : V4} (hg : goodX v = true) {n : Nat} (hn : n ≤ 65535) : entryP v n = (ofBtl (encX v ++ beL 2 n), 0) := by
  unfold entryP
  rw [if_pos hg, if_neg (by omega), Int.toNat_natCast]
theorem afterP_good {v : V4} (hg : goodX v = true) : afterP v = (ofBtl (encX v ++ beL 2 65535 ++ [0]), 0) := by
  unfold afterP
  rw [if_pos hg]
theorem entP_of {v : V4} (hv : VOk v) (hg : goodX v = true) {n : Nat} (hn : n ≤ 65535) : entP (ofBtl (encX v ++ beL 2 n)) = some (n : Int) := by
  unfold entP
  rw [btl_ofBtl, splitP_of hv hg hn, if_pos rfl]
def v5 : V4 := ⟨2, 5, 0, sE⟩
theorem v5_ok : VOk v5 := ⟨by decide, by decide, by decide⟩
theorem v5_good : goodX v5 = true := by
  unfold goodX goodV v5
  simp [bareV]
abbrev kT (t : UInt8) : ByteArray := ByteArray.mk #[2, 128, 0, 0, 0, 0, 0, 0, 5, 0, t]
theorem enc5 : encX v5 = [2, 128, 0, 0, 0, 0, 0, 0, 5] := by decide +kernel
theorem ent5 {t : Nat} (ht : t < 256) : entryP v5 t = (kT (UInt8.ofNat t), 0) := by
  rw [entryP_good v5_good (by omega), enc5]
  have h0 : t / 256 = 0 := by omega
  have : beL 2 t = [0, UInt8.ofNat t] := by
    unfold beL beL beL
    simp [h0]
    rw [Nat.mod_eq_of_lt ht]
  rw [this]
  rfl
theorem aft5 : afterP v5 = (ByteArray.mk #[2, 128, 0, 0, 0, 0, 0, 0, 5, 255, 255, 0], 0) := by
  rw [afterP_good v5_good, enc5]
  have : beL 2 65535 = [255, 255] := by decide +kernel
  rw [this]
  rfl
abbrev i0 : LeafM := ⟨2, 2, [⟨1, ByteArray.mk #[], []⟩]⟩
abbrev i1 : LeafM := ⟨2, 2, [⟨1, ByteArray.mk #[], [kT 3]⟩]⟩
abbrev i2 : LeafM := ⟨2, 2, [⟨1, ByteArray.mk #[], [kT 1, kT 3]⟩]⟩
abbrev i3 : LeafM := ⟨2, 3, [⟨1, ByteArray.mk #[], [kT 1, kT 3]⟩, ⟨2, kT 7, [kT 7]⟩]⟩
theorem insI_a : i0.ins (kT 3) = (i1, ⟨1, 0, 0, 0⟩) := by kernel_rfl
theorem insI_b : i1.ins (kT 1) = (i2, ⟨1, 0, 0, 0⟩) := by kernel_rfl
theorem insI_c : i2.ins (kT 7) = (i3, ⟨2, 1, 2, 0⟩) := by kernel_rfl
theorem rngI : i3.rng (kT 0) (ByteArray.mk #[2, 128, 0, 0, 0, 0, 0, 0, 5, 255, 255, 0]) = ([kT 1, kT 3, kT 7], [1, 2]) := by kernel_rfl
theorem hasI : ((i3.l[atL i3.l (kT 3)]?).map fun o => hasK o.keys (kT 3)) = some true := by kernel_rfl
theorem sumI : sumL i3.l = 3 := by kernel_rfl
theorem addI {M : LeafM} {t : Nat} (ht : t < 256) : addM M v5 t = M.ins (kT (UInt8.ofNat t)) := by
  unfold addM
  rw [ent5 ht, if_pos rfl]
theorem tids5 : tidsL [kT 1, kT 3, kT 7] = [1, 3, 7] := by
  have e : ∀ t : Nat, t < 256 → entP (kT (UInt8.ofNat t)) = some (t : Int) := fun t ht => by
    have h1 := ent5 ht
    rw [entryP_good v5_good (by omega)] at h1
    have h2 := congrArg Prod.fst h1
    simp only at h2
    rw [← h2]
    exact entP_of v5_ok v5_good (by omega)
  have e1 := e 1 (by decide)
  have e3 := e 3 (by decide)
  have e7 := e 7 (by decide)
  unfold tidsL
  simp only [List.filterMap_cons, List.filterMap_nil]
  have f1 : entP (kT 1) = some 1 := e1
  have f3 : entP (kT 3) = some 3 := e3
  have f7 : entP (kT 7) = some 7 := e7
  rw [f1, f3, f7]
theorem find5 : findP i3 v5 = ([1, 3, 7], [1, 2]) := by
  unfold findP
  have e0 : entryP v5 0 = (kT 0, 0) := ent5 (t := 0) (by decide)
  rw [if_pos v5_good, e0, aft5, rngI, tids5]
theorem km3 : KM i3 := KM_of (by decide +kernel) (by decide +kernel)
theorem reads_litI {h : Hp} {b : Nat} {T : TypeId} {xs : List Int} {n : Nat} (hb : Blk h b (xs.flatMap encIL).toArray T) (hn : n = xs.length) : Reads 1 encIL h ⟨some ⟨b, 0, none⟩, n, n⟩ xs := by
  have hl : (xs.flatMap encIL).length = xs.length := by rw [flatMap_length encIL_len]; omega
  refine ⟨hn, fun e => (by cases e), ?_⟩
  have := cellsAt_blk hb (o := 0) (n := n * 1) (by simp [hl, hn])
  rw [show (xs.flatMap encIL).toArray.toList.drop 0 = xs.flatMap encIL by simp, List.take_of_length_le (by omega)] at this
  exact this
section
variable {h : Hp} {Q : List Value → Hp → Prop}
theorem wakes_i (hg : GM h) (hQ : ∀ h', Ext [] h h' → Q [.bool true] h') : S_liverylaw11_wakes h Q := by
  refine O_liverylaw11_wakes ?_
  unfold F_liverylaw11_wakes
  have h2 := hg.two
  refine New_i (by decide) fun h1 x hx1 e1 => ⟨_, _, rfl, ?_⟩
  have ok0 : OkM i0 0 := new_ok (by decide)
  refine newI fun h5 s5 b5 e5 => put4 b5 rfl v5 fun h6 s6 b6 e6 => ?_
  have e16 : Ext [] h1 h6 := e5.trans e6 fun b hb hlt => by simp at hb; omega
  have e06 := e1.trans0 e16
  have hx6 : Ix h.size (fun b => b = h1.size) h6 x i0 := hx1.grow e16 fun b hb => ⟨Or.inr (by omega), by omega⟩
  intro J hJ
  rw [if_neg (by simp)]
  refine hJ _ _ ?_
  rw [if_neg (by simp)]
  refine rdV b6 ?_
  refine Add_i hx6 ok0 (by decide) h2 v5 v5_ok 3 (hg.ext e06) fun h7 S7 hx7 e7 hS7 => ⟨_, _, _, _, rfl, ?_⟩
  have a3 : addM i0 v5 3 = i0.ins (kT 3) := addI (t := 3) (by decide)
  rw [a3, insI_a] at hx7
  have ok1 := (ins_ok ok0 (kT 3)).1
  rw [insI_a] at ok1
  have b7 := e7.get b6 (fun hm => (hS7 _ hm).2 rfl)
  have g7 : GM h7 := (hg.ext e06).exS e7 fun b hb => by have := (hS7 b hb).1; omega
  refine rdV b7 ?_
  refine Add_i hx7 ok1 (by decide) h2 v5 v5_ok 1 g7 fun h8 S8 hx8 e8 hS8 => ⟨_, _, _, _, rfl, ?_⟩
  have a1 : addM i1 v5 1 = i1.ins (kT 1) := addI (t := 1) (by decide)
  rw [a1, insI_b] at hx8
  have ok2 := (ins_ok ok1 (kT 1)).1
  rw [insI_b] at ok2
  have b8 := e8.get b7 (fun hm => (hS8 _ hm).2 rfl)
  have g8 : GM h8 := g7.exS e8 fun b hb => by have := (hS8 b hb).1; omega
  refine rdV b8 ?_
  refine Add_i hx8 ok2 (by decide) h2 v5 v5_ok 7 g8 fun h9 S9 hx9 e9 hS9 => ?_
  have a7 : addM i2 v5 7 = i2.ins (kT 7) := addI (t := 7) (by decide)
  rw [a7, insI_c] at hx9 ⊢
  refine ⟨_, _, _, _, rfl, ?_⟩
  have ok3 := (ins_ok ok2 (kT 7)).1
  rw [insI_c] at ok3
  have b9 := e9.get b8 (fun hm => (hS9 _ hm).2 rfl)
  have g9 : GM h9 := g8.exS e9 fun b hb => by have := (hS9 b hb).1; omega
  have e09 : Ext [] h h9 := ((e06.trans e7 (fun b hb hlt => by have := (hS7 b hb).1; omega)).trans e8 (fun b hb hlt => by have := (hS8 b hb).1; omega)).trans e9 (fun b hb hlt => by have := (hS9 b hb).1; omega)
  refine newI fun h10 s10 b10 e10 => ?_
  refine st_blk b10 (by simp) fun h11 s11 b11 e11 => ?_
  have e911 : Ext [] h9 h11 := e10.trans e11 fun b hb hlt => by simp at hb; omega
  have hx11 := hx9.e0 e911
  have b9' := e911.get b9 (by simp)
  refine rdV b9' ?_
  refine Find_i hx11 ok3 (by decide) km3 v5 v5_ok (g9.ext e911) fun h12 st sn hx12 e12 ot on => ⟨st, sn, rfl, ?_⟩
  rw [find5] at ot on
  have b12 := e12.get b11 (by simp)
  have e912 := e911.trans0 e12
  rw [if_pos (by rfl)]
  refine ⟨1, by simp [rd_blk b12], ?_⟩
  rw [if_pos (by decide)]
  refine ⟨2, by simp [rd_blk b12], ?_⟩
  rw [if_pos (by decide)]
  refine newI fun h13 s13 b13 e13 => ?_
  refine Ints_s (ot.ext0 e13).sl.reads (reads_litI (xs := [(1 : Int), 3, 7]) b13 rfl) (by decide) ⟨_, rfl, ?_⟩
  rw [if_pos (by decide)]
  refine newI fun h14 s14 b14 e14 => ?_
  refine Ints_s ((on.ext0 e13).ext0 e14).sl.reads (reads_litI (xs := [(1 : Int), 2]) b14 rfl) (by decide) ⟨_, rfl, ?_⟩
  rw [if_pos (by decide)]
  have e914 := (e912.trans0 e13).trans0 e14
  have hx14 := hx9.e0 e914
  refine rdV (e914.get b9 (by simp)) ?_
  refine Has_i hx14 ok3 (by decide) v5 v5_ok 3 (g9.ext e914) fun h15 e15 => ⟨_, rfl, ?_⟩
  have e3 : entryP v5 3 = (kT 3, 0) := ent5 (t := 3) (by decide)
  have hh := hasI
  rw [List.getElem?_eq_getElem (atL_lt ok3.ne _)] at hh
  have hh2 := Option.some.inj hh
  rw [if_pos (by simp only [e3]; exact hh2)]
  refine Len_i (hx14.e0 e15) ok3 (by decide) ⟨_, rfl, ?_⟩
  rw [sumI]
  exact hQ h15 ((e09.trans0 e914).trans0 e15)
end
end Go.Lift

/- What lies between two keys: the numbers, the leaves. -/
import Derived.Test.YtmlcjckocgnjfaaDoorI11a
import Derived.Test.YtmlcjckocgnjfaaDoorIt11
import Derived.Test.YtmlcjckocgnjfaaDoorLvY
set_option linter.unusedSimpArgs false
set_option linter.unusedVariables false
namespace Go.Lift
open Go Go.Proofs Go.RowKit
set_option maxRecDepth 100000
def entP (k : ByteArray) : Option Int := if (splitP (btl k)).2.2 = 0 then some (splitP (btl k)).2.1 else none
def tidsL (ks : List ByteArray) : List Int := ks.filterMap entP
theorem enters11 {P : Program} {f : FuncId} {fn : Func} (hf : P.funcs[f]? = some fn) (hn : (fn.name == "runtime.NumGoroutine") = false) (hb : fn.body.isNone = false) : ∀ (args : Array Value) (w : World), (callFunc f args).run P w = .ok (.enter f args) w := by
  intro args w
  have hn' : ¬ fn.name = "runtime.NumGoroutine" := by simpa using hn
  have hb' : ¬ fn.body = none := fun e => by rw [e] at hb; cases hb
  simp [callFunc, Sem.run_bind, hf, hn', hb', Result.andThen]
theorem own_no {α : Type} {T : TypeId} {sz lo : Nat} {enc : α → List Value} {h : Hp} {s : Sl} {xs : List α} (ho : Own T sz enc lo h s xs) {b : Nat} {o : Obj} (hb : h[b]? = some o) (hno : ∀ c fz, o ≠ .cells c T fz) : b ∉ sBlk s := by
  intro hm
  obtain ⟨a, ha, e⟩ := mem_sBlk.1 hm
  obtain ⟨b', c, h1, _, hc, _⟩ := ho.2.2 a ha
  rw [h1] at e
  simp only at e
  subst e
  unfold Blk at hc
  rw [hb] at hc
  exact hno _ _ (Option.some.inj hc)
section
variable {lo n : Nat} {G : Nat → Prop} {h : Hp} {x : Nat} {M : LeafM} {Q : List Value → Hp → Prop}
theorem keep4 {v : V4} {T : TypeId} {K : Hp → Prop} (H : ∀ g, Ext [] h g → Blk g h.size (cells4 v) T → K g) :
    wth (Array.push h (Obj.cells #[(Value.int .i64 (0 : Int)), (Value.int .i64 (0 : Int)), (Value.float .f64 0), (Value.string (ByteArray.mk #[]))] T)) fun h1 =>
    stOk h1 (Addr.mk (Array.size h) 0 none) 4 ∧ wth (wrs h1 (Addr.mk (Array.size h) 0 none) 0 [.int .i64 v.k, .int .i64 v.n, .float .f64 v.f, .string v.s]) K :=
  newI fun h1 s1 b1 e1 => put4 b1 rfl v fun g sg bg eg => H g (e1.trans eg fun b hb hlt => by simp at hb; omega) bg
theorem between_s (hx : Ix lo G h x M) (ok : OkM M n) (hn : n < 2 ^ 15) (a b : ByteArray) (hk : ∀ k ∈ (M.rng a b).1, k.size ≤ 2 ^ 40) (hlk : (M.rng a b).1.length ≤ 2 ^ 29)
    (hQ : ∀ h' st sn, Ix lo G h' x M → Ext [] h h' → Own T_int 1 encIL h.size h' st (tidsL (M.rng a b).1) → Own T_int 1 encIL h.size h' sn (M.rng a b).2 → Q [.slice st.a st.n st.c, .slice sn.a sn.n sn.c] h') : S_index_Index_between (some ⟨x, 0, none⟩) a b h Q := by
  refine fn_of_calls Tryd.func26 (c := bodyOf Tryd.f26) (by kernel_rfl) (by kernel_rfl) (O_bt _ _ _ ?_)
  unfold F_bt
  refine newI fun h1 s1 b1 e1 => ?_
  rw [nilW_some]
  have hx1 := hx.e0 e1
  obtain ⟨q, hv, hb, _, _⟩ := hx1
  refine ⟨some ⟨q, 0, none⟩, by simp [rd_blk hb], ?_⟩
  refine Range_L hv ok hn a b fun h3 sk sn hv3 e3 ok3 on3 => ⟨sk, sn, rfl, ?_⟩
  have b3 := e3.get b1 (by simp)
  refine O_index_entries _ ?_
  unfold F_index_entries
  refine newI fun h4 s4 b4 e4 => ⟨59, _, rfl, 59, #[], _, rfl, enters11 Tryd.func59 (by kernel_rfl) (by kernel_rfl), fun L hy => ?_⟩
  obtain ⟨h6, hh6⟩ : ∃ h6, (h4.push (.deferred (some []))).push (.loop L) = h6 := ⟨_, rfl⟩
  rw [hh6]
  have z6 : h6.size = h4.size + 2 := by rw [← hh6]; simp
  have bD : h6[h4.size]? = some (.deferred (some [])) := by rw [← hh6]; exact push_old (push_get h4 _) _
  have bL : h6[h4.size + 1]? = some (.loop L) := by rw [← hh6]; have := push_get (h4.push (.deferred (some []))) (.loop L); rwa [Array.size_push] at this
  have e46 : Ext [] h4 h6 := by rw [← hh6]; exact (Ext.push [] h4 _).trans0 (Ext.push [] _ _)
  have e36 := e4.trans0 e46
  have e06 : Ext [] h h6 := ((e1.trans0 e3).trans0 e36)
  have hz1 : h1.size ≤ h3.size := e3.sz
  have ks6 : Own T_string 1 encB h1.size h6 sk (M.rng a b).1 := ok3.ext0 e36
  have ns6 : Own T_int 1 encIL h1.size h6 sn (M.rng a b).2 := on3.ext0 e36
  have ks_lt : ∀ c ∈ sBlk sk, h1.size ≤ c ∧ c < h3.size := own_ltG ok3
  have ns_lt : ∀ c ∈ sBlk sn, h1.size ≤ c ∧ c < h3.size := own_ltG on3
  refine O_ikX hy ⟨h3.size, 0, none⟩ ?_
  unfold F_ikX
  refine ⟨sk, by rw [rd_blk (e46.get b4 (by simp))]; rfl, ?_⟩
  intro X hX
  have hsk := ks6.1
  have key : ∀ (d i : Nat) (g : Hp) (s : Sl), d + i = (M.rng a b).1.length → Ext [h.size, h4.size + 1] h6 g → g[h.size]? = some (.cells #[.slice s.a s.n s.c] 41) → g[h4.size + 1]? = some (.loop L) → Own T_int 1 encIL h6.size g s (tidsL ((M.rng a b).1.take i)) → X [.int .i64 (i : Int)] g := by
    intro d
    induction d with
    | zero =>
      intro i g s hi eg bg gL og
      have : i = (M.rng a b).1.length := by omega
      subst this
      refine hX _ _ ?_
      rw [if_neg (by simp; omega)]
      rw [List.take_length] at og
      refine ⟨gL, setI gL fun g1 z1 k1 d1 => ⟨s, by rw [rd_blk (d1.get bg (by simp; omega))]; rfl, ?_⟩⟩
      refine st_blk (d1.get bg (by simp; omega)) (by simp) fun g2 z2 c2 d2 => ?_
      have gD : g[h4.size]? = some (.deferred (some [])) := eg.get bD (by simp; omega)
      have gD2 := d2.get (d1.get gD (by simp)) (by simp; omega)
      refine ⟨gD2, setI gD2 fun g3 z3 k3 d3 => ⟨s, by rw [rd_blk (d3.get c2 (by simp; omega))]; rfl, ?_⟩⟩
      have d13 : Ext [h.size, h4.size, h4.size + 1] g g3 := ((d1.mono (by intro b hb _; simp at hb; subst hb; simp)).trans d2 (by intro b hb _; simp at hb; subst hb; simp)).trans d3 (by intro b hb _; simp at hb; subst hb; simp)
      have d63 : Ext [h.size, h4.size, h4.size + 1] h6 g3 := (eg.mono (by intro b hb _; simp at hb; rcases hb with rfl | rfl <;> simp)).trans d13 (fun b hb _ => hb)
      have e3' : Ext [] h g3 := e06.trans d63 fun b hb hlt => by simp at hb; omega
      refine hQ g3 s sn (hx.e0 e3') e3' ?_ ?_
      · refine (og.ext d13 fun ad ha hm => ?_).mono (by omega)
        have := og.blk _ (mem_sBlk.2 ⟨ad, ha, rfl⟩)
        simp at hm
        omega
      · refine (ns6.ext d63 fun ad ha hm => ?_).mono (by omega)
        have := ns_lt _ (mem_sBlk.2 ⟨ad, ha, rfl⟩)
        simp at hm
        omega
    | succ d ih =>
      intro i g s hi eg bg gL og
      have hil : i < (M.rng a b).1.length := by omega
      refine hX _ _ ?_
      rw [if_pos (by simp; omega)]
      have ksg : Own T_string 1 encB h1.size g sk (M.rng a b).1 := ks6.ext eg fun ad ha hm => by
        have := ks_lt _ (mem_sBlk.2 ⟨ad, ha, rfl⟩)
        simp at hm
        omega
      obtain ⟨ad, ha, hrd⟩ := ksg.sl.reads.rd encB_len hil
      rw [ha, nilW_some]
      refine ⟨by omega, by omega, (M.rng a b).1[i], ?_, ?_⟩
      · have := hrd 0 (by decide)
        rw [Int.toNat_natCast]
        exact this
      have hki := hk _ (List.getElem_mem hil)
      have htake : (M.rng a b).1.take (i + 1) = (M.rng a b).1.take i ++ [(M.rng a b).1[i]] := by rw [List.take_add_one, List.getElem?_eq_getElem hil]; rfl
      have htid : tidsL ((M.rng a b).1.take (i + 1)) = tidsL ((M.rng a b).1.take i) ++ (entP (M.rng a b).1[i]).toList := by
        unfold tidsL
        rw [htake, List.filterMap_append]
        cases hE : entP (M.rng a b).1[i] <;> simp [hE]
      have hsz : (btl (M.rng a b).1[i]).length ≤ 2 ^ 40 := by rw [← size_btl]; exact hki
      have hof : (M.rng a b).1[i] = ofBtl (btl (M.rng a b).1[i]) := (ofBtl_btl _).symm
      have nx : ∀ g' s', Ext [h.size, h4.size + 1] h6 g' → g'[h.size]? = some (.cells #[.slice s'.a s'.n s'.c] 41) → g'[h4.size + 1]? = some (.loop L) → Own T_int 1 encIL h6.size g' s' (tidsL ((M.rng a b).1.take (i + 1))) → X [.int .i64 (IntKind.wrap .i64 ((i : Int) + 1))] g' := by
        intro g' s' h1' h2' h3' h4'
        rw [wrap64 (by omega) (by omega)]
        exact ih (i + 1) g' s' (by omega) h1' h2' h3' h4'
      rw [hof]
      refine Split_s (btl (M.rng a b).1[i]) hsz fun g2 f2 => ⟨_, _, _, _, _, _, rfl, ?_⟩
      refine keep4 (v := (splitP (btl (M.rng a b).1[i])).1) fun g3 f3 b3' => ?_
      have f23 := f2.trans0 f3
      have eg3 : Ext [h.size, h4.size + 1] h6 g3 := eg.trans0 f23
      have bg3 := f23.get bg (by simp)
      have gL3 := f23.get gL (by simp)
      have og3 := og.ext0 f23
      have hgz := eg3.sz
      intro J hJ
      by_cases he : (splitP (btl (M.rng a b).1[i])).2.2 = 0
      · rw [if_pos (by simp [he])]
        have hent : entP (M.rng a b).1[i] = some (splitP (btl (M.rng a b).1[i])).2.1 := by unfold entP; rw [if_pos he]
        rw [hent] at htid
        refine ⟨rfl, O_rbt ⟨gL3, gL3, setI gL3 fun g4 z4 k4 d4 => ?_⟩⟩
        have bg4 := d4.get bg3 (by simp; omega)
        have og4 := og3.ext d4 fun ad ha hm => own_no og3 gL3 (by simp) (mem_sBlk.2 ⟨ad, ha, by simpa using hm⟩)
        refine ⟨s, by rw [rd_blk bg4]; rfl, newI fun g5 z5 c5 d5 => ?_⟩
        have og5 := og4.ext0 d5
        have k5 := d5.get k4 (by simp)
        have bg5 := d5.get bg4 (by simp)
        have hln : (tidsL ((M.rng a b).1.take i)).length ≤ 2 ^ 30 := by
          unfold tidsL
          have := List.length_filterMap_le entP ((M.rng a b).1.take i)
          rw [List.length_take] at this
          omega
        refine oneG (k := (splitP (btl (M.rng a b).1[i])).2.1) encIL_len encIL_one zcInt (by decide) og5 c5 hln (by omega) fun s6 g6 o6 d6 hb6 => ?_
        have bg6 := d6.get bg5 (own_no og5 bg5 (by intro c fz e; cases e))
        have k6 := d6.get k5 (own_no og5 k5 (by simp))
        refine st_blk bg6 (by simp) fun g7 z7 c7 d7 => ?_
        have c7' : g7[h.size]? = some (.cells #[.slice s6.a s6.n s6.c] 41) := c7
        have k7 := d7.get k6 (by simp; omega)
        have o7 := o6.ext d7 fun ad ha hm => own_no o6 bg6 (by intro c fz e; cases e) (mem_sBlk.2 ⟨ad, ha, by simpa using hm⟩)
        refine ⟨k7, ?_⟩
        show J [.bool false] _
        have d8 := Ext.set g7 (h4.size + 1) (.loop L)
        have ob5 := og5.blk
        refine hJ _ _ ?_
        rw [if_neg (by decide)]
        refine nx _ s6 ?_ (d8.get c7' (by simp; omega)) (set_blk k7) ?_
        · refine (((eg3.trans d4 (by intro b hb _; simp at hb; subst hb; simp)).trans0 d5).trans d6 fun b hb hlt => ?_).trans d7 (by intro b hb _; simp at hb; subst hb; simp) |>.trans d8 (by intro b hb _; simp at hb; subst hb; simp)
          have := ob5 b hb
          omega
        · rw [htid]
          exact o7.ext d8 fun ad ha hm => own_no o7 k7 (by simp) (mem_sBlk.2 ⟨ad, ha, by simpa using hm⟩)
      · rw [if_neg (by simpa using he)]
        have hent : entP (M.rng a b).1[i] = none := by unfold entP; rw [if_neg he]
        rw [hent] at htid
        refine hJ _ _ ?_
        rw [if_neg (by decide)]
        refine nx g3 s eg3 bg3 gL3 ?_
        rw [htid]
        simpa using og3
  refine key (M.rng a b).1.length 0 h6 ⟨none, 0, 0⟩ (by omega) (Ext.refl _ _) ?_ bL ?_
  · exact e36.get b3 (by simp)
  · exact Own.nil _ _
end
end Go.Lift

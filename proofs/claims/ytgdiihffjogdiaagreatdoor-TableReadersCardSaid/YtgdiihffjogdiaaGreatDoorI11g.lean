/- An index: entries are added, dropped, looked for. -/
import Derived.Test.YtgdiihffjogdiaaGreatDoorL10u
import Derived.Test.YtgdiihffjogdiaaGreatDoorW03i
import Derived.Test.YtgdiihffjogdiaaGreatDoorIt11
import Derived.Test.YtgdiihffjogdiaaGreatDoorLvY
set_option linter.unusedSimpArgs false
set_option linter.unusedVariables false
namespace Go.Lift.X
open Go Go.Proofs Go.RowKit
set_option maxRecDepth 100000
/-- An index that stands in memory, apart from other blocks. -/
def Ix (lo : Nat) (G : Nat → Prop) (h : Hp) (x : Nat) (M : LeafM) : Prop :=
  ∃ q, Lv lo (fun b => G b ∨ b = x) h q M ∧ Blk h x #[.pointer (some ⟨q, 0, none⟩)] T_index_Index ∧ ¬ G x ∧ lo ≤ x
def noDid (e : Int) : Did := ⟨0, 0, 0, e⟩
def addM (M : LeafM) (v : V4) (t : Int) : LeafM × Did := if (entryP v t).2 = 0 then M.ins (entryP v t).1 else (M, noDid (entryP v t).2)
def dropM (M : LeafM) (v : V4) (t : Int) : LeafM × Did := if (entryP v t).2 = 0 then M.rem (entryP v t).1 else (M, noDid (entryP v t).2)
def didV (d : Did) : List Value := [.int .i64 d.leaf, .agg #[.int .i64 d.mf, .int .i64 d.mt], .int .i64 d.err]
section
variable {lo n : Nat} {G : Nat → Prop} {h : Hp} {x : Nat} {M : LeafM} {Q : List Value → Hp → Prop}
theorem Ix.grow {G' : Nat → Prop} {h' : Hp} (hx : Ix lo G h x M) (he : Ext [] h h') (hG : ∀ b, G' b → (G b ∨ h.size ≤ b) ∧ b < h'.size) : Ix lo G' h' x M := by
  obtain ⟨q, hv, hb, hn, hl⟩ := hx
  have hlt := blk_lt hb
  refine ⟨q, hv.grow he fun b hb => ?_, he.get hb (by simp), fun g => ?_, hl⟩
  · rcases hb with g | g
    · have := hG b g
      exact ⟨this.1.imp Or.inl id, this.2⟩
    · have := he.sz
      exact ⟨Or.inl (Or.inr g), by omega⟩
  · rcases (hG x g).1 with g | g
    · exact hn g
    · omega
theorem Ix.lt (hx : Ix lo G h x M) {b : Nat} (hb : G b) : b < h.size := by
  obtain ⟨q, hv, _⟩ := hx
  exact hv.1 b (Or.inl hb)
theorem Ix.le (hx : Ix lo G h x M) : lo ≤ h.size := by
  obtain ⟨q, hv, _⟩ := hx
  exact hv.2.1
theorem Ix.e0 {h' : Hp} (hx : Ix lo G h x M) (he : Ext [] h h') : Ix lo G h' x M := hx.grow he fun b hb => ⟨Or.inl hb, Nat.lt_of_lt_of_le (hx.lt hb) he.sz⟩
theorem Ix.less {G' : Nat → Prop} (hx : Ix lo G h x M) (hG : ∀ b, G' b → G b) : Ix lo G' h x M := hx.grow (Ext.refl _ _) fun b hb => ⟨Or.inl (hG b hb), hx.lt (hG b hb)⟩
theorem Ix.eG {h' : Hp} {S : List Nat} (hx : Ix lo G h x M) (he : Ext S h h') (hS : ∀ b ∈ S, b < h.size → G b) : Ix lo G h' x M := by
  obtain ⟨q, hv, hb, hn, hl⟩ := hx
  exact ⟨q, hv.eG he fun b hb hlt => Or.inl (hS b hb hlt), he.get hb (fun hm => hn (hS _ hm (blk_lt hb))), hn, hl⟩
theorem New_i {fan : Int} (hf : 2 ≤ fan ∧ fan ≤ 64) (hQ : ∀ h' x, Ix h.size (fun _ => False) h' x ⟨fan, 2, [⟨1, ByteArray.mk #[], []⟩]⟩ → Ext [] h h' → Q [.pointer (some ⟨x, 0, none⟩), .int .i64 0] h') : S_index_New fan h Q := by
  refine O_index_New _ ?_
  delta F_index_New rI rB rS rP rM rL vI vB vS vP vM vL vC vA ad nb gb wi bl bz tn isn sib pu oc
  refine New_L hf fun h1 q hv e1 => ⟨_, _, rfl, ?_⟩
  rw [if_neg (by simp)]
  refine newI fun h2 s2 b2 e2 => ?_
  refine hQ h2 _ ⟨q, hv.grow e2 fun b hb => ?_, b2, fun g => g, e1.sz⟩ (e1.trans0 e2)
  rcases hb with g | g
  · exact g.elim
  · subst g
    exact ⟨Or.inr (Nat.le_refl _), by omega⟩
/-- Adding and dropping end alike. -/
theorem did_end {h1 h' : Hp} {m : Nat} {T : TypeId} {d : Did} {S : List Nat} {M' : LeafM} (hsz : h.size ≤ m) (hlo : lo ≤ h.size) (hx : Ix lo (fun b => G b ∨ b = m) h' x M') (hb : Blk h1 m #[.int .i64 0, .int .i64 0] T) (e01 : Ext [] h h1) (he : Ext S h1 h') (hS : ∀ b ∈ S, lo ≤ b ∧ ¬ (G b ∨ b = m)) (hG : ∀ b, G b → b < h.size)
    (hQ : ∀ h' S, Ix lo G h' x M' → Ext S h h' → (∀ b ∈ S, lo ≤ b ∧ ¬ G b) → Q (didV d) h') :
    stOk h' (Addr.mk m 0 none) 2 ∧ wth (wrs h' (Addr.mk m 0 none) 0 [(Value.int .i64 d.mf), (Value.int .i64 d.mt)]) fun h25 =>
        ∃ n26 : Int, rd h25 (Addr.add (Addr.mk m 0 none) 0) = some (Value.int .i64 n26) ∧ ∃ n27 : Int, rd h25 (Addr.add (Addr.mk m 0 none) 1) = some (Value.int .i64 n27) ∧ Q [(Value.int .i64 d.leaf), (Value.agg #[(Value.int .i64 n26), (Value.int .i64 n27)]), (Value.int .i64 d.err)] h25 := by
  have b3 := he.get hb (fun hm => (hS _ hm).2 (Or.inr rfl))
  refine st_blk b3 (by simp) fun h4 s4 b4 e4 => ?_
  refine ⟨d.mf, by simp [rd_blk b4], d.mt, by simp [rd_blk b4], ?_⟩
  refine hQ h4 (S ++ [m]) ((hx.eG e4 fun b hb _ => by simp at hb; exact Or.inr hb).less fun b hb => Or.inl hb) ?_ fun b hb => ?_
  · exact (e01.mono (by simp)).trans ((he.mono (fun b hb _ => List.mem_append_left _ hb)).trans e4 (fun b hb _ => by simp at hb; simp [hb])) (fun b hb _ => hb)
  · rcases List.mem_append.1 hb with g | g
    · exact ⟨(hS b g).1, fun hg => (hS b g).2 (Or.inl hg)⟩
    · simp at g
      exact ⟨by omega, fun hg => by have := hG b hg; omega⟩
theorem Add_i (hx : Ix lo G h x M) (ok : OkM M n) (hn : n < 2 ^ 15) (hl2 : 2 ≤ lo) (v : V4) (hv : VOk v) (t : Int) (hg : GM h)
    (hQ : ∀ h' S, Ix lo G h' x (addM M v t).1 → Ext S h h' → (∀ b ∈ S, lo ≤ b ∧ ¬ G b) → Q (didV (addM M v t).2) h') : S_index_Index_Add (some ⟨x, 0, none⟩) v.k v.n v.f v.s t h Q := by
  refine O_index_Index_Add _ _ _ _ _ _ ?_
  delta F_index_Index_Add rI rB rS rP rM rL vI vB vS vP vM vL vC vA ad nb gb wi bl bz tn isn sib pu oc
  refine newI fun h1 s1 b1' e1 => newI fun h2 s2 b2 e2 => ?_
  rw [if_neg (by simp)]
  have b1 : Blk h2 h.size (cells4 v) T_api_Value := e2.get b1' (by simp)
  refine rdV b1 ?_
  have e02 := e1.trans0 e2
  refine Entry_s v hv (hg.ext e02) t fun h3 e3 => ⟨_, _, rfl, ?_⟩
  have e03 := e02.trans0 e3
  have b3 := e3.get b2 (by simp)
  have hlo := hx.le
  have hx3 : Ix lo (fun b => G b ∨ b = h1.size) h3 x M := hx.grow e03 fun b hb => by
    have := e3.sz
    rcases hb with g | g
    · exact ⟨Or.inl g, by have := hx.lt g; omega⟩
    · exact ⟨Or.inr (by omega), by omega⟩
  unfold addM at hQ
  by_cases he : (entryP v t).2 = 0
  · rw [if_neg (by simp [he])]
    rw [if_pos he] at hQ
    obtain ⟨q, hv3, hb3, hn3, hl3⟩ := hx3
    rw [nilW_some]
    refine ⟨some ⟨q, 0, none⟩, by simp [rd_blk hb3], ?_⟩
    refine ins_L hv3 ok hn _ fun h4 S hv4 e4 hS => ⟨_, _, _, _, rfl, ?_⟩
    have hx4 : Ix lo (fun b => G b ∨ b = h1.size) h4 x (M.ins (entryP v t).1).1 := ⟨q, hv4, e4.get hb3 (fun hm => (hS _ hm).2 (Or.inr rfl)), hn3, hl3⟩
    exact did_end (d := (M.ins (entryP v t).1).2) (by omega) hlo hx4 b3 e03 e4 (fun b hb => ⟨(hS b hb).1, fun hg => (hS b hb).2 (Or.inl hg)⟩) (fun b hb => hx.lt hb) hQ
  · rw [if_pos (by simpa using he)]
    rw [if_neg he] at hQ
    exact did_end (d := noDid (entryP v t).2) (S := []) (by omega) hlo hx3 b3 e03 (Ext.refl _ _) (by simp) (fun b hb => hx.lt hb) hQ
end
end Go.Lift.X
namespace Go.Lift.X
open Go Go.Proofs Go.RowKit
set_option maxRecDepth 100000
def entP (k : ByteArray) : Option Int := if (splitP (btl k)).2.2 = 0 then some (splitP (btl k)).2.1 else none
def tidsL (ks : List ByteArray) : List Int := ks.filterMap entP
theorem enters11 {P : Program} {f : FuncId} {fn : Func} (hf : P.funcs[f]? = some fn) (hn : (fn.name == "runtime.NumGoroutine") = false) (hb : fn.body.isNone = false) : ∀ (args : Array Value) (w : World), (callFunc f args).run P w = .ok (.enter f args) w := by
  intro args w
  have hn' : ¬ fn.name = "runtime.NumGoroutine" := by simpa using hn
  have hb' : ¬ fn.body = none := fun e => by rw [e] at hb; cases hb
  simp [callFunc, Sem.run_bind, hf, hn', hb', Result.andThen]
theorem own_no {α : Type} {T : TypeId} {sz lo : Nat} {enc : α → List Value} {h : Hp} {s : Sl} {xs : List α} (ho : Own T sz enc lo h s xs) {b : Nat} {o : Obj} (hb : h[b]? = some o) (hno : ∀ c fz, o ≠ .cells c T fz) : b ∉ sBlk s := by
  intro hm
  obtain ⟨a, ha, e⟩ := mem_sBlk.1 hm
  obtain ⟨b', c, h1, _, hc, _⟩ := ho.2.2 a ha
  rw [h1] at e
  simp only at e
  subst e
  unfold Blk at hc
  rw [hb] at hc
  exact hno _ _ (Option.some.inj hc)
section
variable {lo n : Nat} {G : Nat → Prop} {h : Hp} {x : Nat} {M : LeafM} {Q : List Value → Hp → Prop}
theorem keep4 {v : V4} {T : TypeId} {K : Hp → Prop} (H : ∀ g, Ext [] h g → Blk g h.size (cells4 v) T → K g) :
    wth (Array.push h (Obj.cells #[(Value.int .i64 (0 : Int)), (Value.int .i64 (0 : Int)), (Value.float .f64 0), (Value.string (ByteArray.mk #[]))] T)) fun h1 =>
    stOk h1 (Addr.mk (Array.size h) 0 none) 4 ∧ wth (wrs h1 (Addr.mk (Array.size h) 0 none) 0 [.int .i64 v.k, .int .i64 v.n, .float .f64 v.f, .string v.s]) K :=
  newI fun h1 s1 b1 e1 => put4 b1 rfl v fun g sg bg eg => H g (e1.trans eg fun b hb hlt => by simp at hb; omega) bg
theorem between_s (hx : Ix lo G h x M) (ok : OkM M n) (hn : n < 2 ^ 15) (a b : ByteArray) (hk : ∀ k ∈ (M.rng a b).1, k.size ≤ 2 ^ 40) (hlk : (M.rng a b).1.length ≤ 2 ^ 29)
    (hQ : ∀ h' st sn, Ix lo G h' x M → Ext [] h h' → Own T_int 1 encIL h.size h' st (tidsL (M.rng a b).1) → Own T_int 1 encIL h.size h' sn (M.rng a b).2 → Q [.slice st.a st.n st.c, .slice sn.a sn.n sn.c] h') : S_index_Index_between (some ⟨x, 0, none⟩) a b h Q := by
  refine fn_of_calls Tryz.func127 (c := bodyOf Tryz.f127) (by kernel_rfl) (by kernel_rfl) (O_bt _ _ _ ?_)
  delta F_bt rI rB rS rP rM rL vI vB vS vP vM vL vC vA ad nb gb wi bl bz tn isn sib pu oc
  refine newI fun h1 s1 b1 e1 => ?_
  rw [nilW_some]
  have hx1 := hx.e0 e1
  obtain ⟨q, hv, hb, _, _⟩ := hx1
  refine ⟨some ⟨q, 0, none⟩, by simp [rd_blk hb], ?_⟩
  refine Range_L hv ok hn a b fun h3 sk sn hv3 e3 ok3 on3 => ⟨sk, sn, rfl, ?_⟩
  have b3 := e3.get b1 (by simp)
  refine O_index_entries _ ?_
  delta F_index_entries rI rB rS rP rM rL vI vB vS vP vM vL vC vA ad nb gb wi bl bz tn isn sib pu oc
  refine newI fun h4 s4 b4 e4 => ⟨199, _, rfl, 199, #[], _, rfl, enters11 Tryz.func199 (by kernel_rfl) (by kernel_rfl), fun L hy => ?_⟩
  obtain ⟨h6, hh6⟩ : ∃ h6, (h4.push (.deferred (some []))).push (.loop L) = h6 := ⟨_, rfl⟩
  rw [hh6]
  have z6 : h6.size = h4.size + 2 := by rw [← hh6]; simp
  have bD : h6[h4.size]? = some (.deferred (some [])) := by rw [← hh6]; exact push_old (push_get h4 _) _
  have bL : h6[h4.size + 1]? = some (.loop L) := by rw [← hh6]; have := push_get (h4.push (.deferred (some []))) (.loop L); rwa [Array.size_push] at this
  have e46 : Ext [] h4 h6 := by rw [← hh6]; exact (Ext.push [] h4 _).trans0 (Ext.push [] _ _)
  have e36 := e4.trans0 e46
  have e06 : Ext [] h h6 := ((e1.trans0 e3).trans0 e36)
  have hz1 : h1.size ≤ h3.size := e3.sz
  have ks6 : Own T_string 1 encB h1.size h6 sk (M.rng a b).1 := ok3.ext0 e36
  have ns6 : Own T_int 1 encIL h1.size h6 sn (M.rng a b).2 := on3.ext0 e36
  have ks_lt : ∀ c ∈ sBlk sk, h1.size ≤ c ∧ c < h3.size := own_ltG ok3
  have ns_lt : ∀ c ∈ sBlk sn, h1.size ≤ c ∧ c < h3.size := own_ltG on3
  refine O_ikX hy ⟨h3.size, 0, none⟩ ?_
  delta F_ikX rI rB rS rP rM rL vI vB vS vP vM vL vC vA ad nb gb wi bl bz tn isn sib pu oc
  refine ⟨sk, by rw [rd_blk (e46.get b4 (by simp))]; rfl, ?_⟩
  intro X hX
  have hsk := ks6.1
  have key : ∀ (d i : Nat) (g : Hp) (s : Sl), d + i = (M.rng a b).1.length → Ext [h.size, h4.size + 1] h6 g → g[h.size]? = some (.cells #[.slice s.a s.n s.c] 56) → g[h4.size + 1]? = some (.loop L) → Own T_int 1 encIL h6.size g s (tidsL ((M.rng a b).1.take i)) → X [.int .i64 (i : Int)] g := by
    intro d
    induction d with
    | zero =>
      intro i g s hi eg bg gL og
      have : i = (M.rng a b).1.length := by omega
      subst this
      refine hX _ _ ?_
      rw [if_neg (by simp; omega)]
      rw [List.take_length] at og
      refine ⟨gL, setI gL fun g1 z1 k1 d1 => ⟨s, by rw [rd_blk (d1.get bg (by simp; omega))]; rfl, ?_⟩⟩
      refine st_blk (d1.get bg (by simp; omega)) (by simp) fun g2 z2 c2 d2 => ?_
      have gD : g[h4.size]? = some (.deferred (some [])) := eg.get bD (by simp; omega)
      have gD2 := d2.get (d1.get gD (by simp)) (by simp; omega)
      refine ⟨gD2, setI gD2 fun g3 z3 k3 d3 => ⟨s, by rw [rd_blk (d3.get c2 (by simp; omega))]; rfl, ?_⟩⟩
      have d13 : Ext [h.size, h4.size, h4.size + 1] g g3 := ((d1.mono (by intro b hb _; simp at hb; subst hb; simp)).trans d2 (by intro b hb _; simp at hb; subst hb; simp)).trans d3 (by intro b hb _; simp at hb; subst hb; simp)
      have d63 : Ext [h.size, h4.size, h4.size + 1] h6 g3 := (eg.mono (by intro b hb _; simp at hb; rcases hb with rfl | rfl <;> simp)).trans d13 (fun b hb _ => hb)
      have e3' : Ext [] h g3 := e06.trans d63 fun b hb hlt => by simp at hb; omega
      refine hQ g3 s sn (hx.e0 e3') e3' ?_ ?_
      · refine (og.ext d13 fun ad ha hm => ?_).mono (by omega)
        have := og.blk _ (mem_sBlk.2 ⟨ad, ha, rfl⟩)
        simp at hm
        omega
      · refine (ns6.ext d63 fun ad ha hm => ?_).mono (by omega)
        have := ns_lt _ (mem_sBlk.2 ⟨ad, ha, rfl⟩)
        simp at hm
        omega
    | succ d ih =>
      intro i g s hi eg bg gL og
      have hil : i < (M.rng a b).1.length := by omega
      refine hX _ _ ?_
      rw [if_pos (by simp; omega)]
      have ksg : Own T_string 1 encB h1.size g sk (M.rng a b).1 := ks6.ext eg fun ad ha hm => by
        have := ks_lt _ (mem_sBlk.2 ⟨ad, ha, rfl⟩)
        simp at hm
        omega
      obtain ⟨ad, ha, hrd⟩ := ksg.sl.reads.rd encB_len hil
      rw [ha, nilW_some]
      refine ⟨by omega, by omega, (M.rng a b).1[i], ?_, ?_⟩
      · have := hrd 0 (by decide)
        rw [Int.toNat_natCast]
        exact this
      have hki := hk _ (List.getElem_mem hil)
      have htake : (M.rng a b).1.take (i + 1) = (M.rng a b).1.take i ++ [(M.rng a b).1[i]] := by rw [List.take_add_one, List.getElem?_eq_getElem hil]; rfl
      have htid : tidsL ((M.rng a b).1.take (i + 1)) = tidsL ((M.rng a b).1.take i) ++ (entP (M.rng a b).1[i]).toList := by
        unfold tidsL
        rw [htake, List.filterMap_append]
        cases hE : entP (M.rng a b).1[i] <;> simp [hE]
      have hsz : (btl (M.rng a b).1[i]).length ≤ 2 ^ 40 := by rw [← size_btl]; exact hki
      have hof : (M.rng a b).1[i] = ofBtl (btl (M.rng a b).1[i]) := (ofBtl_btl _).symm
      have nx : ∀ g' s', Ext [h.size, h4.size + 1] h6 g' → g'[h.size]? = some (.cells #[.slice s'.a s'.n s'.c] 56) → g'[h4.size + 1]? = some (.loop L) → Own T_int 1 encIL h6.size g' s' (tidsL ((M.rng a b).1.take (i + 1))) → X [.int .i64 (IntKind.wrap .i64 ((i : Int) + 1))] g' := by
        intro g' s' h1' h2' h3' h4'
        rw [wrap64 (by omega) (by omega)]
        exact ih (i + 1) g' s' (by omega) h1' h2' h3' h4'
      rw [hof]
      refine Split_s (btl (M.rng a b).1[i]) hsz fun g2 f2 => ⟨_, _, _, _, _, _, rfl, ?_⟩
      refine keep4 (v := (splitP (btl (M.rng a b).1[i])).1) fun g3 f3 b3' => ?_
      have f23 := f2.trans0 f3
      have eg3 : Ext [h.size, h4.size + 1] h6 g3 := eg.trans0 f23
      have bg3 := f23.get bg (by simp)
      have gL3 := f23.get gL (by simp)
      have og3 := og.ext0 f23
      have hgz := eg3.sz
      intro J hJ
      by_cases he : (splitP (btl (M.rng a b).1[i])).2.2 = 0
      · rw [if_pos (by simp [he])]
        have hent : entP (M.rng a b).1[i] = some (splitP (btl (M.rng a b).1[i])).2.1 := by unfold entP; rw [if_pos he]
        rw [hent] at htid
        refine ⟨rfl, O_rbt ⟨gL3, gL3, setI gL3 fun g4 z4 k4 d4 => ?_⟩⟩
        have bg4 := d4.get bg3 (by simp; omega)
        have og4 := og3.ext d4 fun ad ha hm => own_no og3 gL3 (by simp) (mem_sBlk.2 ⟨ad, ha, by simpa using hm⟩)
        refine ⟨s, by rw [rd_blk bg4]; rfl, newI fun g5 z5 c5 d5 => ?_⟩
        have og5 := og4.ext0 d5
        have k5 := d5.get k4 (by simp)
        have bg5 := d5.get bg4 (by simp)
        have hln : (tidsL ((M.rng a b).1.take i)).length ≤ 2 ^ 30 := by
          unfold tidsL
          have := List.length_filterMap_le entP ((M.rng a b).1.take i)
          rw [List.length_take] at this
          omega
        refine oneG (k := (splitP (btl (M.rng a b).1[i])).2.1) encIL_len encIL_one zcInt (by decide) og5 c5 hln (by omega) fun s6 g6 o6 d6 hb6 => ?_
        have bg6 := d6.get bg5 (own_no og5 bg5 (by intro c fz e; cases e))
        have k6 := d6.get k5 (own_no og5 k5 (by simp))
        refine st_blk bg6 (by simp) fun g7 z7 c7 d7 => ?_
        have c7' : g7[h.size]? = some (.cells #[.slice s6.a s6.n s6.c] 56) := c7
        have k7 := d7.get k6 (by simp; omega)
        have o7 := o6.ext d7 fun ad ha hm => own_no o6 bg6 (by intro c fz e; cases e) (mem_sBlk.2 ⟨ad, ha, by simpa using hm⟩)
        refine ⟨k7, ?_⟩
        show J [.bool false] _
        have d8 := Ext.set g7 (h4.size + 1) (.loop L)
        have ob5 := og5.blk
        refine hJ _ _ ?_
        rw [if_neg (by decide)]
        refine nx _ s6 ?_ (d8.get c7' (by simp; omega)) (set_blk k7) ?_
        · refine (((eg3.trans d4 (by intro b hb _; simp at hb; subst hb; simp)).trans0 d5).trans d6 fun b hb hlt => ?_).trans d7 (by intro b hb _; simp at hb; subst hb; simp) |>.trans d8 (by intro b hb _; simp at hb; subst hb; simp)
          have := ob5 b hb
          omega
        · rw [htid]
          exact o7.ext d8 fun ad ha hm => own_no o7 k7 (by simp) (mem_sBlk.2 ⟨ad, ha, by simpa using hm⟩)
      · rw [if_neg (by simpa using he)]
        have hent : entP (M.rng a b).1[i] = none := by unfold entP; rw [if_neg he]
        rw [hent] at htid
        refine hJ _ _ ?_
        rw [if_neg (by decide)]
        refine nx g3 s eg3 bg3 gL3 ?_
        rw [htid]
        simpa using og3
  refine key (M.rng a b).1.length 0 h6 ⟨none, 0, 0⟩ (by omega) (Ext.refl _ _) ?_ bL ?_
  · exact e36.get b3 (by simp)
  · exact Own.nil _ _
end
end Go.Lift.X
namespace Go.Lift.X
open Go Go.Proofs Go.RowKit
set_option maxRecDepth 100000
/-- The keys between any two are few and short. -/
def KM (M : LeafM) : Prop := ∀ a b : ByteArray, (∀ k ∈ (M.rng a b).1, k.size ≤ 2 ^ 40) ∧ (M.rng a b).1.length ≤ 2 ^ 29
def findP (M : LeafM) (v : V4) : List Int × List Int := if goodX v = true then (tidsL (M.rng (entryP v 0).1 (afterP v).1).1, (M.rng (entryP v 0).1 (afterP v).1).2) else ([], [])
theorem entry_err {v : V4} : (entryP v 0).2 = if goodX v = true then 0 else 11 := by
  unfold entryP
  split
  · rw [if_neg (by omega)]
  · rfl
theorem after_err {v : V4} : (afterP v).2 = if goodX v = true then 0 else 11 := by
  unfold afterP
  split <;> rfl
section
variable {lo n : Nat} {G : Nat → Prop} {h : Hp} {x : Nat} {M : LeafM} {Q : List Value → Hp → Prop}
theorem Find_i (hx : Ix lo G h x M) (ok : OkM M n) (hn : n < 2 ^ 15) (km : KM M) (v : V4) (hv : VOk v) (hg : GM h)
    (hQ : ∀ h' st sn, Ix lo G h' x M → Ext [] h h' → Own T_int 1 encIL h.size h' st (findP M v).1 → Own T_int 1 encIL h.size h' sn (findP M v).2 → Q [.slice st.a st.n st.c, .slice sn.a sn.n sn.c] h') : S_index_Index_Find (some ⟨x, 0, none⟩) v.k v.n v.f v.s h Q := by
  refine O_index_Index_Find _ _ _ _ _ ?_
  delta F_index_Index_Find rI rB rS rP rM rL vI vB vS vP vM vL vC vA ad nb gb wi bl bz tn isn sib pu oc
  refine newI fun h1 s1 b1' e1 => ?_
  have b1 : Blk h1 h.size (cells4 v) T_api_Value := b1'
  refine rdV b1 ?_
  refine Least_s v hv (hg.ext e1) fun h7 e7 => ⟨_, _, rfl, ?_⟩
  refine rdV (e7.get b1 (by simp)) ?_
  refine After_s v hv ((hg.ext e1).ext e7) fun h15 e15 => ⟨_, _, rfl, ?_⟩
  have e015 := (e1.trans0 e7).trans0 e15
  intro J hJ
  rw [if_neg (by simp), entry_err, after_err]
  unfold findP at hQ
  cases hgd : goodX v with
  | false =>
    rw [hgd] at hQ
    have k : J [.bool true] h15 := by
      refine hJ _ _ ?_
      rw [if_pos rfl]
      exact hQ h15 ⟨none, 0, 0⟩ ⟨none, 0, 0⟩ (hx.e0 e015) e015 (Own.nil _ _) (Own.nil _ _)
    simpa using k
  | true =>
    rw [hgd] at hQ
    have k : J [.bool false] h15 := by
      refine hJ _ _ ?_
      rw [if_neg (by decide)]
      have hz := e015.sz
      refine between_s (hx.e0 e015) ok hn _ _ (km _ _).1 (km _ _).2 fun h' st sn hx' e' ot on => ⟨st, sn, rfl, ?_⟩
      exact hQ h' st sn hx' (e015.trans0 e') (ot.mono hz) (on.mono hz)
    simpa using k
/-! No index. -/
end
end Go.Lift.X
namespace Go.Lift.X
open Go Go.Proofs Go.RowKit
set_option maxRecDepth 100000
theorem sub_flat {α β : Type} (f : α → List β) : ∀ {l m : List α}, l.Sublist m → (l.flatMap f).Sublist (m.flatMap f)
  | _, _, .slnil => List.Sublist.refl _
  | _, _, .cons a h => by
    rw [List.flatMap_cons]
    exact (sub_flat f h).trans (List.sublist_append_right _ _)
  | _, _, .cons_cons a h => by
    rw [List.flatMap_cons, List.flatMap_cons]
    exact List.Sublist.append (List.Sublist.refl _) (sub_flat f h)
theorem rng_sub (M : LeafM) (a b : ByteArray) : ((M.rng a b).1).Sublist (M.l.flatMap OneM.keys) := by
  unfold LeafM.rng
  split
  · exact List.nil_sublist _
  · exact List.filter_sublist.trans (sub_flat _ ((List.drop_sublist _ _).trans (List.take_sublist _ _)))
theorem KM_of {M : LeafM} (h1 : ∀ k ∈ M.l.flatMap OneM.keys, k.size ≤ 2 ^ 40) (h2 : (M.l.flatMap OneM.keys).length ≤ 2 ^ 29) : KM M := fun a b =>
  ⟨fun k hk => h1 k ((rng_sub M a b).subset hk), Nat.le_trans (rng_sub M a b).length_le h2⟩
theorem afterP_good {v : V4} (hg : goodX v = true) : afterP v = (ofBtl (encX v ++ beL 2 65535 ++ [0]), 0) := by
  unfold afterP
  rw [if_pos hg]
def v5 : V4 := ⟨2, 5, 0, sE⟩
abbrev kT (t : UInt8) : ByteArray := ByteArray.mk #[2, 128, 0, 0, 0, 0, 0, 0, 5, 0, t]
abbrev i0 : LeafM := ⟨2, 2, [⟨1, ByteArray.mk #[], []⟩]⟩
abbrev i1 : LeafM := ⟨2, 2, [⟨1, ByteArray.mk #[], [kT 3]⟩]⟩
abbrev i2 : LeafM := ⟨2, 2, [⟨1, ByteArray.mk #[], [kT 1, kT 3]⟩]⟩
abbrev i3 : LeafM := ⟨2, 3, [⟨1, ByteArray.mk #[], [kT 1, kT 3]⟩, ⟨2, kT 7, [kT 7]⟩]⟩
section
variable {h : Hp} {Q : List Value → Hp → Prop}
end
end Go.Lift.X
namespace Go.Lift.X
open Go Go.Proofs Go.RowKit
set_option maxRecDepth 100000
section
variable {h : Hp} {Q : List Value → Hp → Prop}
end
end Go.Lift.X
namespace Go.Lift.X
open Go Go.Proofs Go.RowKit
set_option maxRecDepth 100000
theorem beL_inj {m n : Nat} (hm : m ≤ 65535) (hn : n ≤ 65535) (h : beL 2 m = beL 2 n) : m = n := by
  rw [← num_beL (k := 2) (u := m) (by omega), ← num_beL (k := 2) (u := n) (by omega), h]
theorem bl_prefix : ∀ (x : List UInt8) (c : UInt8) (t : List UInt8), Op.bytesLess x (x ++ c :: t) = true
  | [], _, _ => rfl
  | a :: x, c, t => by simp [Op.bytesLess, bl_prefix x c t]
section
variable {a b : V4} (ha : VOk a) (hb : VOk b) (ga : goodX a = true) (gb : goodX b = true)
include ha hb ga gb
theorem ent_lt {m n : Nat} (hm : m ≤ 65535) (hn : n ≤ 65535) : Op.bytesLess (encX a ++ beL 2 m) (encX b ++ beL 2 n) = if cmpV a b < 0 then true else if cmpV a b = 0 then decide (m < n) else false := by
  rcases enc_tri ha hb ga gb with ⟨h1, h2⟩ | ⟨h1, h2⟩ | ⟨h1, h2⟩
  · rw [if_pos h1, bl_part (h2.app _ _)]
  · rw [if_neg (by omega), if_pos h1, h2]
    by_cases hmn : m < n
    · rw [decide_eq_true hmn, bl_part ((beL_part (k := 2) (by omega) (by omega) hmn).pre _)]
    · rw [decide_eq_false hmn]
      by_cases e : m = n
      · rw [e, bl_irrefl]
      · rw [bl_npart ((beL_part (k := 2) (by omega) (by omega) (by omega)).pre _)]
  · rw [if_neg (by omega), if_neg (by omega), bl_npart (h2.app _ _)]
theorem ent_eq {m n : Nat} (hm : m ≤ 65535) (hn : n ≤ 65535) : (encX a ++ beL 2 m == encX b ++ beL 2 n) = if cmpV a b = 0 then decide (m = n) else false := by
  rcases enc_tri ha hb ga gb with ⟨h1, h2⟩ | ⟨h1, h2⟩ | ⟨h1, h2⟩
  · rw [if_neg (by omega)]
    simpa using (h2.app (beL 2 m) (beL 2 n)).ne
  · rw [if_pos h1, h2]
    by_cases e : m = n
    · rw [e]; simp
    · rw [decide_eq_false e]
      simp
      exact fun h => e (beL_inj hm hn h)
  · rw [if_neg (by omega)]
    simpa using (h2.app (beL 2 n) (beL 2 m)).ne.symm
theorem aft_lt {n : Nat} (hn : n ≤ 65535) (hc : cmpV a b = 0) : Op.bytesLess (encX b ++ beL 2 n) (encX a ++ beL 2 65535 ++ [0]) = true := by
  rcases enc_tri ha hb ga gb with ⟨h1, h2⟩ | ⟨h1, h2⟩ | ⟨h1, h2⟩
  · omega
  · rw [h2]
    by_cases e : n = 65535
    · rw [e]
      exact bl_prefix _ _ _
    · rw [List.append_assoc]
      exact bl_part (PartL.pre (by
        have := (beL_part (k := 2) (u := n) (w := 65535) (by omega) (by omega) (by omega)).app [] [0]
        rwa [List.append_nil] at this) _)
  · omega
theorem aft_nlt {n : Nat} (hc : cmpV a b < 0) : Op.bytesLess (encX b ++ beL 2 n) (encX a ++ beL 2 65535 ++ [0]) = false := by
  rcases enc_tri ha hb ga gb with ⟨h1, h2⟩ | ⟨h1, h2⟩ | ⟨h1, h2⟩
  · rw [List.append_assoc]
    exact bl_npart (h2.app _ _)
  · omega
  · omega
end
theorem lb_snd (l : List OneM) : (lb l).map Prod.snd = l := by
  cases l with
  | nil => rfl
  | cons o l =>
    show o :: (sb l).map Prod.snd = _
    unfold sb
    rw [List.map_map, show (Prod.snd ∘ fun p : OneM => (some p.bound, p)) = id from rfl, List.map_id]
theorem flat_ord {l : List OneM} (w : WF l) : InOrder (l.flatMap OneM.keys) := by
  unfold InOrder
  rw [List.pairwise_flatMap]
  refine ⟨fun o ho => wf_ord w o ho, ?_⟩
  rw [← lb_snd l, List.pairwise_map, List.pairwise_iff_getElem]
  intro i j hi hj hij a ha b hb
  obtain ⟨bb, g1, g2, g3⟩ := List.pairwise_iff_getElem.1 w.1 i j hi hj hij
  have := (w.2 _ (List.getElem_mem hj)).2 b hb bb g1
  exact sLt_le (g2 a ha) this
theorem split_at {l : List OneM} {i : Nat} (hi : i < l.length) : l = l.take i ++ l[i] :: l.drop (i + 1) := by
  conv => lhs; rw [← List.take_append_drop i l, List.drop_eq_getElem_cons hi]
theorem here {l : List OneM} (w : WF l) {i : Nat} (hi : i < l.length) {k : ByteArray} (hk : k ∈ l[i].keys) : atL l k = i ∧ ofL l k = l[i].n := by
  have e := split_at hi
  have hw := w
  rw [e] at hw
  have ws := wf_split.1 hw
  have h1 := ws.po.2 k hk
  have h2 : ∀ p ∈ l.drop (i + 1), sLt k p.bound = true := by
    intro p hp
    obtain ⟨bb, g1, g2, g3⟩ := ws.ob p hp
    cases g1
    exact g2 k hk
  have hlen : (l.take i).length = i := by simp; omega
  constructor
  · have := (at_iff ws k).2 ⟨h1, h2⟩
    rw [← e, hlen] at this
    exact this
  · have := ofL_here ws h1 h2
    rw [← e] at this
    exact this
/-! What a leaf's keys become. -/
abbrev ksM (M : LeafM) : List ByteArray := M.l.flatMap OneM.keys
theorem putK_perm (xs : List ByteArray) (k : ByteArray) : (putK xs k).Perm (k :: xs) := by
  have e : putK xs k = xs.take (posK xs k) ++ k :: xs.drop (posK xs k) := by simp [putK]
  rw [e]
  refine List.perm_middle.trans ?_
  rw [List.take_append_drop]
theorem not_here {M : LeafM} {n : Nat} (ok : OkM M n) {k : ByteArray} (hh : hasK (M.l[atL M.l k]'(atL_lt ok.ne k)).keys k = false) : k ∉ ksM M := by
  intro hm
  obtain ⟨o, ho, hk⟩ := List.mem_flatMap.1 hm
  obtain ⟨i, hi, rfl⟩ := List.getElem_of_mem ho
  have e := (here ok.wf hi hk).1
  have : k ∈ (M.l[atL M.l k]'(atL_lt ok.ne k)).keys := by simp only [e]; exact hk
  rw [← hasK_iff, hh] at this
  cases this
theorem insP {M : LeafM} {n : Nat} (ok : OkM M n) (k : ByteArray) : ((M.ins k).2.err = 0 ∧ k ∉ ksM M ∧ (ksM (M.ins k).1).Perm (k :: ksM M)) ∨ ((M.ins k).2.err ≠ 0 ∧ (M.ins k).1 = M) := by
  by_cases hk : k.size > 1024
  · unfold LeafM.ins
    rw [if_pos hk]
    exact Or.inr ⟨by simp, rfl⟩
  · have hlt := atL_lt ok.ne k
    rw [ins_eq hk hlt]
    obtain ⟨A, o, B, hl, ha, w, hlo, hhi, ho⟩ := at_split ok.wf ok.ne k
    have hno := not_here ok (k := k)
    rw [ho] at hno ⊢
    unfold LeafM.insAt
    cases hh : hasK o.keys k with
    | true =>
      rw [if_pos rfl]
      exact Or.inr ⟨by simp, rfl⟩
    | false =>
      rw [if_neg (by decide)]
      have hno := hno hh
      have hset : M.l.set (atL M.l k) { o with keys := putK o.keys k } = A ++ { o with keys := putK o.keys k } :: B := by
        rw [ha, hl, List.set_append_right _ _ (by omega)]; simp
      have hflat : ksM M = A.flatMap OneM.keys ++ (o.keys ++ B.flatMap OneM.keys) := by
        unfold ksM
        rw [hl, List.flatMap_append, List.flatMap_cons]
      have hp : (A.flatMap OneM.keys ++ (putK o.keys k ++ B.flatMap OneM.keys)).Perm (k :: ksM M) := by
        rw [hflat]
        refine List.Perm.trans (List.Perm.append_left _ (List.Perm.append_right _ (putK_perm o.keys k))) ?_
        rw [List.cons_append]
        exact List.perm_middle
      by_cases hf : ((putK o.keys k).length : Int) ≤ M.fan
      · rw [if_pos hf]
        refine Or.inl ⟨rfl, hno, ?_⟩
        unfold ksM
        simp only
        rw [hset, List.flatMap_append, List.flatMap_cons]
        exact hp
      · rw [if_neg hf]
        refine Or.inl ⟨rfl, hno, ?_⟩
        unfold ksM
        simp only
        rw [ha, hl, List.take_left, show (A ++ o :: B).drop (A.length + 1) = B by rw [List.drop_append]; simp]
        rw [← hl]
        simp only [List.flatMap_append, List.flatMap_cons, List.flatMap_nil, List.append_nil]
        rw [List.take_append_drop, List.append_assoc]
        exact hp
theorem cutK_perm {xs : List ByteArray} (ho : InOrder xs) {k : ByteArray} (hk : k ∈ xs) : xs.Perm (k :: cutK xs k) := by
  obtain ⟨h1, h2, h3⟩ := posK_spec ho k
  unfold cutK
  have hm : k ∈ xs.drop (posK xs k) := by
    rw [← List.take_append_drop (posK xs k) xs] at hk
    rcases List.mem_append.1 hk with g | g
    · have := h2 k g
      rw [sLt_irrefl] at this
      cases this
    · exact g
  have hlt : posK xs k < xs.length := by
    have := List.length_pos_of_mem hm
    rw [List.length_drop] at this
    omega
  have hd : xs.drop (posK xs k) = xs[posK xs k] :: xs.drop (posK xs k + 1) := List.drop_eq_getElem_cons hlt
  have hz : xs[posK xs k] = k := by
    rw [hd] at hm
    rcases List.mem_cons.1 hm with g | g
    · exact g.symm
    · have hp : InOrder (xs.drop (posK xs k)) := ho.sublist (List.drop_sublist _ _)
      rw [hd] at hp
      have h4 := (List.pairwise_cons.1 hp).1 k g
      have h5 := h3 (xs[posK xs k]) (by rw [hd]; exact List.mem_cons.2 (Or.inl rfl))
      rw [h4] at h5
      cases h5
  have e : xs = xs.take (posK xs k) ++ k :: xs.drop (posK xs k + 1) := by
    conv => lhs; rw [← List.take_append_drop (posK xs k) xs, hd, hz]
  conv => lhs; rw [e]
  exact List.perm_middle
theorem remP {M : LeafM} {n : Nat} (ok : OkM M n) (k : ByteArray) : (ksM M).Perm (k :: ksM (M.rem k).1) ∨ (k ∉ ksM M ∧ (M.rem k).1 = M) := by
  have hlt := atL_lt ok.ne k
  rw [rem_eq hlt]
  obtain ⟨A, o, B, hl, ha, w, hlo, hhi, ho⟩ := at_split ok.wf ok.ne k
  have hno := not_here ok (k := k)
  rw [ho] at hno ⊢
  unfold LeafM.remAt
  cases hh : hasK o.keys k with
  | false =>
    rw [if_pos rfl]
    exact Or.inr ⟨hno hh, rfl⟩
  | true =>
    rw [if_neg (by decide)]
    have hset : M.l.set (atL M.l k) { o with keys := cutK o.keys k } = A ++ { o with keys := cutK o.keys k } :: B := by
      rw [ha, hl, List.set_append_right _ _ (by omega)]; simp
    have hflat : ksM M = A.flatMap OneM.keys ++ (o.keys ++ B.flatMap OneM.keys) := by
      unfold ksM
      rw [hl, List.flatMap_append, List.flatMap_cons]
    have hp : (ksM M).Perm (k :: (A.flatMap OneM.keys ++ (cutK o.keys k ++ B.flatMap OneM.keys))) := by
      rw [hflat]
      refine List.Perm.trans (List.Perm.append_left _ (List.Perm.append_right _ (cutK_perm w.po.1 (hasK_iff.1 hh)))) ?_
      rw [List.cons_append]
      exact List.perm_middle
    refine Or.inl ?_
    by_cases hc : 0 < (cutK o.keys k).length ∨ M.l.length = 1
    · rw [if_pos hc]
      simp only
      have : ksM { M with l := M.l.set (atL M.l k) { o with keys := cutK o.keys k } } = A.flatMap OneM.keys ++ (cutK o.keys k ++ B.flatMap OneM.keys) := by
        unfold ksM
        simp only
        rw [hset, List.flatMap_append, List.flatMap_cons]
      rw [this]
      exact hp
    · rw [if_neg hc]
      have hz : cutK o.keys k = [] := List.eq_nil_of_length_eq_zero (by omega)
      rw [hz, List.nil_append] at hp
      have hlist : M.l.take (atL M.l k) ++ M.l.drop (atL M.l k + 1) = A ++ B := by
        rw [ha, hl, List.take_left, show (A ++ o :: B).drop (A.length + 1) = B by rw [List.drop_append]; simp]
      have : ksM (⟨M.fan, M.next, M.l.take (atL M.l k) ++ M.l.drop (atL M.l k + 1)⟩ : LeafM) = A.flatMap OneM.keys ++ B.flatMap OneM.keys := by
        unfold ksM
        simp only
        rw [hlist, List.flatMap_append]
      simp only
      rw [this]
      exact hp
end Go.Lift.X
namespace Go.Lift.X
open Go Go.Proofs Go.RowKit
set_option maxRecDepth 100000
structure StepI where
  kind : Int
  tid : Int
  v : V4
  w : V4
def keyI (s : StepI) : ByteArray := (entryP s.v s.tid).1
structure GoodS (s : StepI) : Prop where
  ok : VOk s.v
  good : goodX s.v = true
  lo : 0 ≤ s.tid
  hi : s.tid ≤ 65535
structure InI (M : LeafM) (L : List StepI) : Prop where
  perm : (ksM M).Perm (L.map keyI)
  good : ∀ s ∈ L, GoodS s
theorem entry_iff {v : V4} {t : Int} : (entryP v t).2 = 0 ↔ goodX v = true ∧ 0 ≤ t ∧ t ≤ 65535 := by
  unfold entryP
  by_cases hg : goodX v = true
  · rw [if_pos hg]
    by_cases ht : t < 0 ∨ t > 65535
    · rw [if_pos ht]
      refine ⟨fun h => absurd h (by simp), fun h => by omega⟩
    · rw [if_neg ht]
      exact ⟨fun _ => ⟨hg, by omega⟩, fun _ => rfl⟩
  · rw [if_neg hg]
    exact ⟨fun h => absurd h (by simp), fun h => absurd h.1 hg⟩
theorem keyI_of {s : StepI} (g : GoodS s) : keyI s = ofBtl (encX s.v ++ beL 2 s.tid.toNat) := by
  unfold keyI entryP
  rw [if_pos g.good, if_neg (by have := g.lo; have := g.hi; omega)]
theorem keyI_eq {s t : StepI} (g : GoodS s) (g' : GoodS t) : keyI s = keyI t ↔ s.tid = t.tid ∧ cmpV s.v t.v = 0 := by
  have h1 := g.lo
  have h2 := g.hi
  have h3 := g'.lo
  have h4 := g'.hi
  have e := ent_eq g.ok g'.ok g.good g'.good (m := s.tid.toNat) (n := t.tid.toNat) (by omega) (by omega)
  rw [keyI_of g, keyI_of g']
  constructor
  · intro h
    have h' : encX s.v ++ beL 2 s.tid.toNat = encX t.v ++ beL 2 t.tid.toNat := by rw [← btl_ofBtl (encX s.v ++ _), h, btl_ofBtl]
    rw [h'] at e
    by_cases hc : cmpV s.v t.v = 0
    · rw [if_pos hc] at e
      have : decide (s.tid.toNat = t.tid.toNat) = true := by rw [← e]; simp
      have := of_decide_eq_true this
      exact ⟨by omega, hc⟩
    · rw [if_neg hc] at e
      simp at e
  · rintro ⟨ht, hc⟩
    rw [if_pos hc, decide_eq_true (by omega)] at e
    rw [eq_of_beq e]
theorem keyI_lt {s t : StepI} (g : GoodS s) (g' : GoodS t) : sLt (keyI s) (keyI t) = if cmpV s.v t.v < 0 then true else if cmpV s.v t.v = 0 then decide (s.tid < t.tid) else false := by
  have h1 := g.lo
  have h2 := g.hi
  have h3 := g'.lo
  have h4 := g'.hi
  rw [keyI_of g, keyI_of g']
  unfold sLt
  rw [tl_ofBtl, tl_ofBtl, ent_lt g.ok g'.ok g.good g'.good (by omega) (by omega)]
  have : decide (s.tid.toNat < t.tid.toNat) = decide (s.tid < t.tid) := by
    by_cases h : s.tid < t.tid
    · rw [decide_eq_true h, decide_eq_true (by omega)]
    · rw [decide_eq_false h, decide_eq_false (by omega)]
  rw [this]
theorem ord_nodup {xs : List ByteArray} (h : InOrder xs) : xs.Nodup := h.imp fun {a b} hab e => by
  rw [e, sLt_irrefl] at hab
  cases hab
theorem InI.nd {M : LeafM} {L : List StepI} {n : Nat} (hi : InI M L) (ok : OkM M n) : (L.map keyI).Nodup := hi.perm.nodup_iff.1 (ord_nodup (flat_ord ok.wf))
/-- Does an entry stay when one is dropped? -/
def stayB (s o : StepI) : Bool := !(o.tid == s.tid) || (!goodX s.v || !(cmpV o.v s.v == 0))
def nextI (M : LeafM) (L : List StepI) (s : StepI) : LeafM × List StepI :=
  if s.kind = 0 then ((addM M s.v s.tid).1, if (addM M s.v s.tid).2.err = 0 then L ++ [s] else L) else ((dropM M s.v s.tid).1, L.filter (stayB s))
theorem stay_iff {s o : StepI} (g : GoodS s) (g' : GoodS o) : stayB s o = true ↔ keyI o ≠ keyI s := by
  unfold stayB
  rw [Ne, keyI_eq g' g, g.good]
  simp only [Bool.or_eq_true, Bool.not_eq_true', beq_eq_false_iff_ne, Bool.not_true, Bool.false_eq_true, false_or, beq_iff_eq, ne_eq]
  constructor
  · rintro (h | h) ⟨h1, h2⟩
    · exact h h1
    · exact h h2
  · intro h
    by_cases h1 : o.tid = s.tid
    · exact Or.inr fun h2 => h ⟨h1, h2⟩
    · exact Or.inl h1
theorem next_ok {M : LeafM} {L : List StepI} {n : Nat} (ok : OkM M n) (hi : InI M L) {s : StepI} (hv : VOk s.v) : OkM (nextI M L s).1 (n + 1) ∧ InI (nextI M L s).1 (nextI M L s).2 := by
  unfold nextI
  by_cases hk : s.kind = 0
  · rw [if_pos hk]
    unfold addM
    by_cases he : (entryP s.v s.tid).2 = 0
    · rw [if_pos he]
      have hg := entry_iff.1 he
      refine ⟨(ins_ok ok _).1, ?_⟩
      rcases insP ok (entryP s.v s.tid).1 with ⟨h1, h2, h3⟩ | ⟨h1, h2⟩
      · simp only
        rw [if_pos h1]
        refine ⟨h3.trans ?_, fun o ho => ?_⟩
        · rw [List.map_append, List.map_cons, List.map_nil]
          exact (hi.perm.cons _).trans (List.perm_append_comm (l₁ := [keyI s]))
        · rcases List.mem_append.1 ho with g | g
          · exact hi.good o g
          · rw [List.mem_singleton.1 g]
            exact ⟨hv, hg.1, hg.2.1, hg.2.2⟩
      · simp only
        rw [if_neg h1, h2]
        exact hi
    · rw [if_neg he]
      simp only
      rw [if_neg (by unfold noDid; exact he)]
      exact ⟨ok.up, hi⟩
  · rw [if_neg hk]
    unfold dropM
    by_cases he : (entryP s.v s.tid).2 = 0
    · rw [if_pos he]
      have hg := entry_iff.1 he
      have gs : GoodS s := ⟨hv, hg.1, hg.2.1, hg.2.2⟩
      refine ⟨(rem_ok ok _).1, ?_, fun o ho => hi.good o (List.mem_filter.1 ho).1⟩
      simp only
      have hnd := hi.nd ok
      rcases remP ok (entryP s.v s.tid).1 with h1 | ⟨h1, h2⟩
      · have hp : (L.map keyI).Perm (keyI s :: ksM (M.rem (entryP s.v s.tid).1).1) := hi.perm.symm.trans h1
        have hm : keyI s ∈ L.map keyI := hp.symm.subset (by simp)
        obtain ⟨o, ho, hko⟩ := List.mem_map.1 hm
        obtain ⟨A, B, rfl⟩ := List.append_of_mem ho
        have hp2 : ((A ++ B).map keyI).Perm (ksM (M.rem (entryP s.v s.tid).1).1) := by
          rw [List.map_append, List.map_cons, hko] at hp
          rw [List.map_append]
          exact (List.perm_middle.symm.trans hp).cons_inv
        have hnd2 := hnd
        rw [List.map_append, List.map_cons] at hnd2
        have hnot : keyI o ∉ A.map keyI ++ B.map keyI := (List.nodup_cons.1 (List.perm_middle.nodup_iff.1 hnd2)).1
        have hall : ∀ x ∈ A ++ B, stayB s x = true := fun x hx => by
          refine (stay_iff gs (hi.good x ?_)).2 fun e => hnot ?_
          · rcases List.mem_append.1 hx with g | g <;> simp [g]
          · rw [hko, ← e, ← List.map_append]
            exact List.mem_map.2 ⟨x, hx, rfl⟩
        have hfo : stayB s o = false := by
          rw [← Bool.not_eq_true]
          intro h
          exact (stay_iff gs (hi.good o ho)).1 h hko
        have : (A ++ o :: B).filter (stayB s) = A ++ B := by
          rw [List.filter_append, List.filter_cons, if_neg (by rw [hfo]; decide), ← List.filter_append]
          exact List.filter_eq_self.2 hall
        rw [this]
        exact hp2.symm
      · rw [h2]
        have : L.filter (stayB s) = L := List.filter_eq_self.2 fun o ho => (stay_iff gs (hi.good o ho)).2 fun e => h1 (hi.perm.symm.subset (List.mem_map.2 ⟨o, ho, e⟩))
        rw [this]
        exact hi.perm
    · rw [if_neg he]
      simp only
      have : L.filter (stayB s) = L := List.filter_eq_self.2 fun o ho => by
        have g := hi.good o ho
        unfold stayB
        by_cases hgd : goodX s.v = true
        · have hne : o.tid ≠ s.tid := fun e => he (entry_iff.2 ⟨hgd, e ▸ g.lo, e ▸ g.hi⟩)
          simp [hne]
        · simp [Bool.not_eq_true _ ▸ hgd]
      rw [this]
      exact ⟨ok.up, hi⟩
theorem InI.new (f : Int) : InI ⟨f, 2, [⟨1, ByteArray.mk #[], []⟩]⟩ [] := ⟨by simp, by simp⟩
theorem sz_of {s : StepI} (g : GoodS s) : (keyI s).size ≤ 2 ^ 40 := by
  rw [keyI_of g, ofBtl_size, List.length_append, beL_len]
  have := encX_len g.good
  omega
theorem InI.km {M : LeafM} {L : List StepI} (hi : InI M L) (hL : L.length ≤ 2 ^ 29) : KM M := by
  refine KM_of (fun k hk => ?_) ?_
  · obtain ⟨s, hs, rfl⟩ := List.mem_map.1 (hi.perm.subset hk)
    exact sz_of (hi.good s hs)
  · have := hi.perm.length_eq
    rw [List.length_map] at this
    exact this ▸ hL
/-! What is found. -/
theorem cmpV_anti {a b : V4} (ha : VOk a) (hb : VOk b) (ga : goodX a = true) (gb : goodX b = true) : (cmpV a b < 0 ↔ 0 < cmpV b a) ∧ (cmpV a b = 0 ↔ a = b) := by
  rcases enc_tri ha hb ga gb with ⟨h1, h2⟩ | ⟨h1, h2⟩ | ⟨h1, h2⟩
  · rcases enc_tri hb ha gb ga with ⟨h3, h4⟩ | ⟨h3, h4⟩ | ⟨h3, h4⟩
    · have a1 := bl_part h2
      have a2 := bl_npart h4
      rw [a1] at a2
      cases a2
    · rw [h4] at h1
      rw [cmpV_self] at h1
      omega
    · exact ⟨⟨fun _ => h3, fun _ => h1⟩, ⟨fun h => by omega, fun h => by rw [h, cmpV_self] at h1; omega⟩⟩
  · subst h2
    rw [cmpV_self]
    exact ⟨⟨fun h => by omega, fun h => by omega⟩, ⟨fun _ => rfl, fun _ => rfl⟩⟩
  · refine ⟨⟨fun h => by omega, fun h => ?_⟩, ⟨fun h => by omega, fun h => by rw [h, cmpV_self] at h1; omega⟩⟩
    rcases enc_tri hb ha gb ga with ⟨h3, h4⟩ | ⟨h3, h4⟩ | ⟨h3, h4⟩
    · omega
    · rw [h4] at h1
      rw [cmpV_self] at h1
      omega
    · have a1 := bl_part h2
      have a2 := bl_npart h4
      rw [a1] at a2
      cases a2
theorem lt_from {s : StepI} (g : GoodS s) {v : V4} (hv : VOk v) (hg : goodX v = true) : sLt (keyI s) (entryP v 0).1 = decide (cmpV s.v v < 0) := by
  have h := keyI_lt g (t := ⟨0, 0, v, v⟩) ⟨hv, hg, by simp, by simp⟩
  have e : keyI (⟨0, 0, v, v⟩ : StepI) = (entryP v 0).1 := rfl
  rw [e] at h
  rw [h]
  simp only
  have := g.lo
  by_cases h1 : cmpV s.v v < 0
  · rw [if_pos h1, decide_eq_true h1]
  · rw [if_neg h1, decide_eq_false h1]
    split
    · exact decide_eq_false (by omega)
    · rfl
theorem lt_after {s : StepI} (g : GoodS s) {v : V4} (hv : VOk v) (hg : goodX v = true) (hc : 0 ≤ cmpV s.v v) : sLt (keyI s) (afterP v).1 = (cmpV s.v v == 0) := by
  have h1 := g.lo
  have h2 := g.hi
  rw [keyI_of g, afterP_good hg]
  unfold sLt
  rw [tl_ofBtl, tl_ofBtl]
  have an := cmpV_anti hv g.ok hg g.good
  have an2 := cmpV_anti g.ok hv g.good hg
  by_cases h0 : cmpV s.v v = 0
  · rw [aft_lt hv g.ok hg g.good (by omega) (an.2.2 (an2.2.1 h0).symm), h0]
    rfl
  · rw [aft_nlt hv g.ok hg g.good (an.1.2 (by omega))]
    simpa using h0
theorem list_ne {x : UInt8} {l : List UInt8} : ((ofBtl (x :: l)).toList == []) = false := by
  rw [tl_ofBtl]
  rfl
theorem after_ne {v : V4} (hg : goodX v = true) : ((afterP v).1.toList == []) = false := by
  rw [afterP_good hg]
  unfold encX
  exact list_ne
theorem inR_find {s : StepI} (g : GoodS s) {v : V4} (hv : VOk v) (hg : goodX v = true) : inR (entryP v 0).1 (afterP v).1 (keyI s) = (cmpV s.v v == 0) := by
  unfold inR
  rw [after_ne hg, Bool.false_or, lt_from g hv hg]
  by_cases h1 : cmpV s.v v < 0
  · rw [decide_eq_true h1]
    have : (cmpV s.v v == 0) = false := by simp; omega
    rw [this]
    rfl
  · rw [decide_eq_false h1, lt_after g hv hg (by omega)]
    rfl
end Go.Lift.X

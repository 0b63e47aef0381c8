/- Edges: pairs of numbers, as keys of maps, in their order. -/
import Derived.Test.YtfkamdkocmkkpaaIt14
import Derived.Test.YtfkamdkocmkkpaaLvY
import Derived.Test.YtfkamdkocmkkpaaLvZ
import Derived.Test.YtfkamdkocmkkpaaLvD1
import Derived.Test.YtfkamdkocmkkpaaL10s
import Derived.Test.YtfkamdkocmkkpaaW14b
import Derived.Test.YtfkamdkocmkkpaaItM
import Derived.Test.YtfkamdkocmkkpaaItO
import Derived.Test.YtfkamdkocmkkpaaSh14
import Derived.Shelf.Abstract
set_option linter.unusedSimpArgs false
set_option linter.unusedVariables false
namespace Go.Lift
open Go Go.Proofs Go.RowKit Go.Shelf
set_option maxRecDepth 100000
abbrev sE : ByteArray := ByteArray.mk #[]
abbrev encP (x : Int × Int) : List Value := [.int .i64 x.1, .int .i64 x.2]
abbrev ekP (x : Int × Int) : Value := .agg #[.int .i64 x.1, .int .i64 x.2]
theorem encP_len (x : Int × Int) : (encP x).length = 2 := rfl
theorem encP_one (x : Int × Int) : ∀ v ∈ encP x, oneCell v = true := by
  intro v hv
  simp at hv
  rcases hv with rfl | rfl <;> rfl
theorem zc_pair : (zc PP T_2_int).size = 2 := by kernel_rfl
instance keyP : KeyEnc ekP := ⟨fun a b => by
  simp only [keyB, eqCS, keyS, Bool.and_true]
  obtain ⟨a1, a2⟩ := a
  obtain ⟨b1, b2⟩ := b
  rw [Bool.eq_iff_iff]
  simp, fun a b => by simp [likeK, likeCS, likeS]⟩
theorem own_ne {α : Type} {T : TypeId} {sz lo : Nat} {enc : α → List Value} {h : Hp} {s : Sl} {xs : List α} (ho : Own T sz enc lo h s xs) {b : Nat} {o : Obj} (hb : h[b]? = some o) (hno : ∀ c fz, o ≠ .cells c T fz) : ∀ a, s.a = some a → a.block ≠ b := by
  intro a ha e
  obtain ⟨b', c, h1, _, hc, _⟩ := ho.2.2 a ha
  rw [h1] at e
  simp only at e
  subst e
  unfold Blk at hc
  rw [hb] at hc
  exact hno _ _ (Option.some.inj hc)
/-- A map, or none. -/
def MapOr {K V : Type} (ek : K → Value) (ev : V → Value) (h : Hp) (r : Option Nat) (T : List (K × V)) : Prop := match r with | none => T = [] | some m => IsMap ek ev h m T
section
variable {K V : Type} {ek : K → Value} {ev : V → Value} {h h' : Hp} {r : Option Nat} {T : List (K × V)}
theorem MapOr.ext {S : List Nat} (hm : MapOr ek ev h r T) (he : Ext S h h') (hn : ∀ m, r = some m → m ∉ S) : MapOr ek ev h' r T := by
  cases r with
  | none => exact hm
  | some m => exact IsMap.ext hm he (hn m rfl)
theorem MapOr.mapAt (hm : MapOr ek ev h r T) : ∃ es, mapAt h r es ∧ EntsOf ek ev es T := by
  cases r with
  | none => exact ⟨#[], Or.inl ⟨rfl, rfl⟩, by have : T = [] := hm; subst this; rfl⟩
  | some m => exact IsMap.mapAt hm
end
section
variable {h : Hp} {Q : List Value → Hp → Prop}
theorem CollectP {V : Type} {ev : V → Value} {B : Nat} {r : Option Nat} {T : List ((Int × Int) × V)} {TM : TypeId} (hB : h[B]? = some (.cells #[.map r] TM)) (hm : MapOr ekP ev h r T) (hl : T.length ≤ 2 ^ 28)
    (hQ : ∀ h' s ks, ks.Perm (T.map Prod.fst) → Own T_2_int 2 encP h.size h' s ks → Ext [] h h' → Q [.slice s.a s.n s.c] h') : S_slices_Collect_2_int 61 #[.pointer (some ⟨B, 0, none⟩)] h Q := by
  refine O_slices_Collect_2_int _ _ ?_
  unfold F_slices_Collect_2_int
  refine fn_of_calls Try.func66 (c := bodyOf Try.f66) (by kernel_rfl) (by kernel_rfl) (O_asqP _ _ ?_)
  unfold F_asP
  refine newI fun h1 s1 b1 e1 => ⟨61, #[], #[.pointer (some ⟨B, 0, none⟩)], rfl, enters_of Try.func61 (by kernel_rfl) rfl, fun L hy => ?_⟩
  obtain ⟨h2, hh2⟩ : ∃ h2, (h1.push (.deferred (some []))).push (.loop L) = h2 := ⟨_, rfl⟩
  rw [hh2]
  have z2 : h2.size = h1.size + 2 := by rw [← hh2]; simp
  have bD : h2[h1.size]? = some (.deferred (some [])) := by rw [← hh2]; exact push_old (push_get h1 _) _
  have bL : h2[h1.size + 1]? = some (.loop L) := by rw [← hh2]; have := push_get (h1.push (.deferred (some []))) (.loop L); rwa [Array.size_push] at this
  have e2 : Ext [] h1 h2 := by rw [← hh2]; exact (Ext.push [] h1 _).trans0 (Ext.push [] _ _)
  have f2 := e1.trans0 e2
  have hBl := blk_lt hB
  refine O_ikP hy ⟨B, 0, none⟩ ?_
  unfold F_ikP
  refine ⟨r, by rw [rd_blk (f2.get hB (by simp))]; rfl, ?_⟩
  have hm2 := hm.ext f2 (by simp)
  have own0 : ∀ g, Own T_2_int 2 encP h.size g ⟨none, 0, 0⟩ [] := fun g => Own.nil _ _
  have fin : ∀ g (s : Sl) (ks : List (Int × Int)), ks.Perm (T.map Prod.fst) → Ext [] h g → g[h.size]? = some (.cells #[.slice s.a s.n s.c] 40) → Own T_2_int 2 encP h.size g s ks → g[h1.size]? = some (.deferred (some [])) → g[h1.size + 1]? = some (.loop L) →
      g[h1.size + 1]? = some (.loop L) ∧ wth (Array.setIfInBounds g (h1.size + 1) (.loop { L with state := .exhausted })) fun h3 =>
    ∃ s : Sl, rd h3 (Addr.mk (Array.size h) 0 none) = some (Value.slice s.a s.n s.c) ∧ h3[h1.size]? = some (.deferred (some [])) ∧ ∃ l3 : Sl, [(Value.slice s.a s.n s.c)] = [(Value.slice l3.a l3.n l3.c)] ∧ Q [(Value.slice l3.a l3.n l3.c)] (Array.setIfInBounds h3 h1.size (.deferred none)) := by
    intro g s ks hp eg bg ho gD gL
    refine ⟨gL, setI gL fun g1 z1 k1 d1 => ⟨s, by rw [rd_blk (d1.get bg (by simp; omega))]; rfl, d1.get gD (by simp), s, rfl, ?_⟩⟩
    have gD1 := d1.get gD (by simp)
    have d2 := Ext.set g1 h1.size (.deferred none)
    refine hQ _ s ks hp ((ho.ext d1 fun a ha hmm => own_ne ho gL (by simp) a ha (by simpa using hmm)).ext d2 fun a ha hmm => own_ne ho gD (by simp) a ha (by simpa using hmm)) ((eg.trans d1 fun b hb hlt => ?_).trans d2 fun b hb hlt => ?_)
    · simp at hb; omega
    · simp at hb; omega
  cases r with
  | none =>
    have hT : T = [] := hm
    subst hT
    refine ⟨.mapIter none 0 #[] 0, Or.inl ⟨rfl, rfl⟩, newI fun h3 s3 b3 e3 => ?_⟩
    intro X hX
    refine hX _ ⟨rfl, _, b3, .nil _ _ _, fun _ => ?_, fun k v o hs => by cases hs⟩
    exact fin h3 ⟨none, 0, 0⟩ [] (by simp) (f2.trans0 e3) (e3.get (e2.get b1 (by simp)) (by simp)) (own0 _) (e3.get bD (by simp)) (e3.get bL (by simp))
  | some m =>
    obtain ⟨o, ho, hR⟩ := range_start (h := h2) hm2
    refine ⟨o, ho, newI fun h3 s3 b3 e3 => ?_⟩
    have hml : m < h.size := IsMap.lt hm
    intro X hX
    refine rangeI (ek := ekP) (ev := ev) (b := h2.size) (m := m) (T := T) hX (fun done g => ∃ s : Sl, Ext [] h g ∧ h3.size ≤ g.size ∧ g[h.size]? = some (.cells #[.slice s.a s.n s.c] 40) ∧ Own T_2_int 2 encP h.size g s (done.map Prod.fst) ∧ g[h1.size]? = some (.deferred (some [])) ∧ g[h1.size + 1]? = some (.loop L) ∧ ∀ b ∈ sBlk s, b ≠ h2.size) ?_ ?_ h3 []
      ⟨⟨none, 0, 0⟩, f2.trans0 e3, Nat.le_refl _, e3.get (e2.get b1 (by simp)) (by simp), own0 _, e3.get bD (by simp), e3.get bL (by simp), by simp [sBlk]⟩ (hR b3 e3) rfl rfl
    · rintro done g ⟨s, eg, zg, bg, og, gD, gL, _⟩ hr hp
      exact fin g s _ (hp.map _) eg bg og gD gL
    · rintro done p g e g' ⟨s, eg, zg, bg, og, gD, gL, hne⟩ ⟨rest, hp⟩ hk hv f1 sz1 hr1 next
      have hlen := hp.length_eq
      simp at hlen
      have hgz := eg.sz
      obtain ⟨x, v⟩ := p
      have og1 := og.ext f1 fun a ha hmm => hne _ (mem_sBlk.2 ⟨a, ha, rfl⟩) (by simpa using hmm)
      have bg1 := f1.get bg (by simp; omega)
      have gD1 := f1.get gD (by simp; omega)
      have gL1 := f1.get gL (by simp; omega)
      have eg1 : Ext [] h g' := eg.trans f1 fun b hb hlt => by simp at hb; omega
      refine ⟨x.1, x.2, hk, _, hv, varI rfl rfl fun g2 z2' c2 d2 => ?_⟩
      refine ⟨x.1, by simp [rd_blk c2], x.2, by simp [rd_blk c2], rfl, ?_⟩
      have eg2 := eg1.trans0 d2
      refine O_asP ⟨d2.get gL1 (by simp), ?_⟩
      refine varI rfl rfl fun g3 z3 c3 d3 => ⟨d3.get (d2.get gL1 (by simp)) (by simp), setI (d3.get (d2.get gL1 (by simp)) (by simp)) fun g4 z4 k4 d4 => ?_⟩
      have d24 := d2.trans0 d3
      have bg4 := d4.get (d24.get bg1 (by simp)) (by simp; omega)
      have gD4 := d4.get (d24.get gD1 (by simp)) (by simp)
      have hd2 := d2.sz
      have c4 := d4.get c3 (by simp; omega)
      have og3 := og1.ext0 d24
      have og4 := og3.ext d4 fun a ha hmm => own_ne og3 (d24.get gL1 (by simp)) (by simp) a ha (by simpa using hmm)
      refine ⟨s, by rw [rd_blk bg4]; rfl, x.1, by simp [rd_blk c4], x.2, by simp [rd_blk c4], newI fun g5 z5 c5 d5 => ?_⟩
      have og5 := og4.ext0 d5
      have k5 := d5.get k4 (by simp)
      have bg5 := d5.get bg4 (by simp)
      have gD5 := d5.get gD4 (by simp)
      have hlo : h.size ≤ g5.size := by omega
      have hln := og5.1
      refine oneG (k := x) encP_len encP_one zc_pair (by decide) og5 c5 (by simp; omega) hlo fun s6 g6 o6 d6 hb6 => ?_
      have bg6 := d6.get bg5 fun hmm => by obtain ⟨a, ha, hb⟩ := mem_sBlk.1 hmm; exact own_ne og5 bg5 (by intro c fz e; cases e) a ha hb
      have gD6 := d6.get gD5 fun hmm => by obtain ⟨a, ha, hb⟩ := mem_sBlk.1 hmm; exact own_ne og5 gD5 (by simp) a ha hb
      have k6 := d6.get k5 fun hmm => by obtain ⟨a, ha, hb⟩ := mem_sBlk.1 hmm; exact own_ne og5 k5 (by simp) a ha hb
      refine st_blk bg6 (by simp) fun g7 z7 c7 d7 => ?_
      have c7' : g7[h.size]? = some (.cells #[.slice s6.a s6.n s6.c] 40) := c7
      have k7 := d7.get k6 (by simp; omega)
      have gD7 := d7.get gD6 (by simp; omega)
      have o7 := o6.ext d7 fun a ha hmm => own_ne o6 bg6 (by intro c fz e; cases e) a ha (by simpa using hmm)
      refine ⟨k7, ?_⟩
      show X [] _
      have d8 := Ext.set g7 (h1.size + 1) (.loop L)
      have hs := hb6
      have hs5 := own_ltG og5
      have e58 : Ext (sBlk s ++ [h.size, h1.size + 1]) g5 (Array.setIfInBounds g7 (h1.size + 1) (.loop L)) := ((d6.mono (fun b hb _ => List.mem_append_left _ hb)).trans d7 (by intro b hb _; simp at hb; subst hb; simp)).trans d8 (by intro b hb _; simp at hb; subst hb; simp)
      have e28 : Ext (sBlk s ++ [h.size, h1.size + 1]) g' (Array.setIfInBounds g7 (h1.size + 1) (.loop L)) := (((d24.mono (by simp)).trans d4 (by intro b hb _; simp at hb; subst hb; simp)).trans0 d5).trans e58 (fun b hb _ => hb)
      have hml' : m < h.size := hml
      have hs1 := own_ltG og1
      refine next _ ⟨s6, eg1.trans e28 fun b hb hlt => ?_, ?_, d8.get c7' (by simp; omega), ?_, d8.get gD7 (by simp), ?_, ?_⟩ (hr1.ext e28 ?_ ?_)
      · rcases List.mem_append.1 hb with hb | hb
        · have := (hs1 b hb).1; omega
        · simp at hb; omega
      · have := e28.sz; omega
      · rw [List.map_append, List.map_cons, List.map_nil]
        exact o7.ext d8 fun a ha hmm => own_ne o7 k7 (by simp) a ha (by simpa using hmm)
      · exact set_blk k7
      · intro b hb
        rcases hb6 b hb with q | q
        · exact hne b q
        · have := d24.sz; omega
      · intro hmm
        rcases List.mem_append.1 hmm with q | q
        · exact hne _ q rfl
        · simp at q; omega
      · intro hmm
        rcases List.mem_append.1 hmm with q | q
        · have := (hs1 m q).1; omega
        · simp at q; omega
end
abbrev encIL (n : Int) : List Value := [.int .i64 n]
theorem encIL_len (n : Int) : (encIL n).length = 1 := rfl
theorem encIL_one (n : Int) : ∀ v ∈ encIL n, oneCell v = true := by
  intro v hv
  simp at hv
  rw [hv]
  rfl
theorem zc_int : (zc PP T_int).size = 1 := by kernel_rfl
theorem rdI {h : Hp} {s : Sl} {xs : List Int} (hs : Reads 1 encIL h s xs) {i : Nat} (hi : i < xs.length) : ∃ a, s.a = some a ∧ rd h (Addr.add a (i * 1)) = some (.int .i64 xs[i]) := by
  obtain ⟨a, h1, h2⟩ := hs.rd encIL_len hi
  exact ⟨a, h1, by simpa using h2 0 (by omega)⟩
theorem reads_lit {h : Hp} {b n : Nat} {xs : List Int} {cs : Array Value} {T : TypeId} (hb : Blk h b cs T) (hc : cs.toList = xs.flatMap encIL) (hl : xs.length = n) : Reads 1 encIL h ⟨some ⟨b, 0, none⟩, n, n⟩ xs := by
  refine ⟨hl.symm, fun e => (by cases e), ?_⟩
  have hfl : (xs.flatMap encIL).length = xs.length := by rw [flatMap_length encIL_len]; omega
  have := cellsAt_blk hb (o := 0) (n := n * 1) (by have := congrArg List.length hc; rw [hfl, Array.length_toList] at this; omega)
  rw [List.drop_zero, List.take_of_length_le (by rw [hc, hfl]; omega), hc] at this
  exact this
def orI : List Int → Int
  | [] => 0
  | x :: xs => if x ≠ 0 then x else orI xs

def cmpP : Int × Int → Int × Int → Int := thenC (fun a b => cmpI a.1 b.1) fun a b => cmpI a.2 b.2
theorem cmpP3 : Cmp3 cmpP := (cmp3I.comap Prod.fst).then (cmp3I.comap Prod.snd)
theorem cmpP_zero (x y : Int × Int) (h : cmpP x y = 0) : x = y := by
  obtain ⟨h1, h2⟩ := thenC_zero h
  cases x
  cases y
  simp only at *
  rw [cmpI_zero h1, cmpI_zero h2]
theorem cmpP_or (x y : Int × Int) : orI [cmpI x.1 y.1, cmpI x.2 y.2] = cmpP x y := by
  unfold cmpP thenC
  simp only [orI]
  repeat' split
  all_goals first | rfl | contradiction | omega
section
variable {h : Hp} {Q : List Value → Hp → Prop}
theorem CmpI_s (a b : Int) (hQ : Q [.int .i64 (cmpI a b)] h) : S_cmp_Compare_int a b h Q := by
  refine O_cmp_Compare_int _ _ ?_
  unfold F_cmp_Compare_int
  refine O_cmp_isNaN_int _ ⟨_, rfl, O_cmp_isNaN_int _ ⟨_, rfl, ?_⟩⟩
  rw [if_neg (by simp), if_neg (by simp)]
  unfold cmpI at hQ
  by_cases h1 : a < b
  · rw [if_pos (by simpa using h1)]
    rw [if_pos h1] at hQ
    exact hQ
  · rw [if_neg (by simpa using h1)]
    rw [if_neg h1] at hQ
    by_cases h2 : a > b
    · rw [if_pos (by simpa using h2)]
      rw [if_pos h2] at hQ
      exact hQ
    · rw [if_neg (by simpa using h2)]
      rw [if_neg h2] at hQ
      exact hQ
theorem Or_s {s : Sl} {xs : List Int} (hs : Reads 1 encIL h s xs) (hl : xs.length ≤ 2 ^ 20) (hQ : Q [.int .i64 (orI xs)] h) : S_cmp_Or_int s h Q := by
  refine O_cmp_Or_int _ ?_
  unfold F_cmp_Or_int
  have hn := hs.1
  intro X hX
  have key : ∀ d i, d + i = xs.length → orI xs = orI (xs.drop i) → X [.int .i64 (i : Int)] h := by
    intro d
    induction d with
    | zero =>
      intro i hi he
      refine hX _ _ ?_
      rw [if_neg (by simp; omega)]
      rw [List.drop_eq_nil_of_le (by omega)] at he
      rw [he] at hQ
      exact hQ
    | succ d ih =>
      intro i hi he
      have hil : i < xs.length := by omega
      refine hX _ _ ?_
      rw [if_pos (by simp; omega)]
      obtain ⟨a, w1, w2⟩ := rdI hs hil
      rw [w1]
      simp only [nilW_some, Int.toNat_natCast]
      refine ⟨by omega, by omega, _, w2, ?_⟩
      rw [List.drop_eq_getElem_cons hil] at he
      by_cases hx : xs[i] = 0
      · rw [if_neg (by simp [hx]), wrap64 (by omega) (by omega)]
        have := ih (i + 1) (by omega) (by rw [he, orI, if_neg (by simp [hx])])
        simpa using this
      · rw [if_pos (by simp [hx])]
        rw [he, orI, if_pos hx] at hQ
        exact hQ
  have := key xs.length 0 (by omega) rfl
  simpa using this
theorem compareP_s (x y : Int × Int) (hQ : ∀ h', Ext [] h h' → Q [.int .i64 (cmpP x y)] h') : S_edge_Edges_All_1 x.1 x.2 y.1 y.2 h Q := by
  refine O_edge_Edges_All_1 _ _ _ _ ?_
  unfold F_edge_Edges_All_1
  refine newI fun h1 s1 b1 e1 => newI fun h2 s2 b2 e2 => ?_
  have b1' := e2.get b1 (by simp)
  have r : ∀ i (v : Value), (#[.int .i64 x.1, .int .i64 x.2] : Array Value)[i]? = some v → rd h2 (Addr.add (Addr.mk h.size 0 none) i) = some v := fun i v hv => by rw [addr_mk, rd_blk b1', Nat.zero_add, hv]
  have q : ∀ i (v : Value), (#[.int .i64 y.1, .int .i64 y.2] : Array Value)[i]? = some v → rd h2 (Addr.add (Addr.mk h1.size 0 none) i) = some v := fun i v hv => by rw [addr_mk, rd_blk b2, Nat.zero_add, hv]
  have r0 := r 0 _ rfl
  have r1 := r 1 _ rfl
  have q0 := q 0 _ rfl
  have q1 := q 1 _ rfl
  refine ⟨by decide, by decide, _, r0, by decide, by decide, _, q0, by decide, by decide, _, r1, by decide, by decide, _, q1, ?_⟩
  refine CmpI_s _ _ ⟨_, rfl, q1, r1, ?_⟩
  refine CmpI_s _ _ ⟨_, rfl, ?_⟩
  refine newI fun h3 s3 b3 e3 => ?_
  refine Or_s (xs := [cmpI x.1 y.1, cmpI x.2 y.2]) (reads_lit b3 rfl rfl) (by simp) ⟨_, rfl, ?_⟩
  rw [cmpP_or]
  exact hQ h3 ((e1.trans0 e2).trans0 e3)
end
section
variable {h : Hp} {Q : List Value → Hp → Prop}
theorem cmp_ltOf (x y : Int × Int) : Go.Proofs.ltOf cmpP x y = decide (cmpP x y < 0) := rfl
theorem SortedP {V : Type} {ev : V → Value} {r : Option Nat} {T : List ((Int × Int) × V)} (hm : MapOr ekP ev h r T) (hl : T.length ≤ 2 ^ 28) (hn : (T.map Prod.fst).Nodup)
    (hQ : ∀ h' s, Ext [] h h' → Own T_2_int 2 encP h.size h' s (sortC cmpP (T.map Prod.fst)) → Q [.slice s.a s.n s.c] h') : S_maps_Keys_map_2_int_int_2_int_int r h fun vs5 h6 =>
    ∃ f7 : Nat, ∃ cs8 : Array Value, vs5 = [(Value.func (.func f7) #[] cs8)] ∧
    S_slices_SortedFunc_2_int f7 cs8 41 #[] h6 fun (vs9 : List Value) (h10 : Hp) =>
    ∃ l11 : Sl, vs9 = [(Value.slice l11.a l11.n l11.c)] ∧
    Q [(Value.slice l11.a l11.n l11.c)] h10 := by
  refine O_maps_Keys_map_2_int_int_2_int_int _ ?_
  unfold F_maps_Keys_map_2_int_int_2_int_int
  refine newI fun h1 s1 b1 e1 => ⟨_, _, rfl, ?_⟩
  refine O_slices_SortedFunc_2_int _ _ _ _ ?_
  unfold F_slices_SortedFunc_2_int
  refine CollectP b1 (hm.ext e1 (by simp)) hl fun h2 s ks hp ho e2 => ⟨s, rfl, ?_⟩
  have hlk : ks.length ≤ 2 ^ 40 := by rw [hp.length_eq, List.length_map]; omega
  refine fn_of_calls Try.func60 (c := bodyOf Try.f60) (by kernel_rfl) (by kernel_rfl) ?_
  have hO : Go.Sort.SWO (Go.Proofs.ltOf cmpP) := ⟨fun x => by rw [cmp_ltOf, cmpP3.irr]; rfl, fun x y z h1 h2 => by
      rw [cmp_ltOf, decide_eq_true_eq] at *
      exact cmpP3.trans x y z h1 h2, fun x y z h1 h2 => by
      rw [cmp_ltOf, decide_eq_false_iff_not] at *
      exact cmpP3.nt x y z h1 h2⟩
  have hT : ∀ x y, Go.Proofs.ltOf cmpP x y = false → Go.Proofs.ltOf cmpP y x = false → x = y := fun x y h1 h2 => by
    rw [cmp_ltOf, decide_eq_false_iff_not] at *
    have := cmpP3.anti x y
    exact cmpP_zero x y (by omega)
  refine sortF_c Try.sortFT (by omega) Try.isAgg42 Try.sizeOf42 encP_len (fun x v hv => ?_) cmpP hO hT 41 #[] (enters_of Try.func41 (by kernel_rfl) rfl) (fun x y g _ => ?_) ho hlk fun h3 o3 e3 => ⟨rfl, s, rfl, ?_⟩
  · simp at hv
    rcases hv with rfl | rfl <;> rfl
  · refine calls_of_fn Try.func41 (c := bodyOf Try.f41) (by kernel_rfl) (by kernel_rfl) ?_
    exact compareP_s x y fun g' e => ⟨rfl, e⟩
  · have hs := own_ltG ho
    refine hQ h3 s (((e1.trans0 e2).trans e3 fun b hb hlt => by have := hs b hb; omega)) ?_
    have hEq : ks.mergeSort (fun x y => !(Go.Proofs.ltOf cmpP) y x) = sortC cmpP (T.map Prod.fst) := by
      have hks : ks.Nodup := hp.nodup_iff.2 hn
      exact ordC_ext cmpP3 (sortC_ord cmpP3 cmpP_zero hks) (sortC_ord cmpP3 cmpP_zero hn) fun x => by
        rw [sortC_mem, ← hp.mem_iff]
        exact List.mem_mergeSort
    rw [hEq] at o3
    exact o3.mono (by omega)
end
end Go.Lift

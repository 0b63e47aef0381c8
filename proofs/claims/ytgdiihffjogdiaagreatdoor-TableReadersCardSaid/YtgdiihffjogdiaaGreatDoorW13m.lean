/- Things: their order, and as keys of maps. -/
import Derived.Test.YtgdiihffjogdiaaGreatDoorIt13
import Derived.Test.YtgdiihffjogdiaaGreatDoorLvY
import Derived.Test.YtgdiihffjogdiaaGreatDoorL10s
import Derived.Shelf.Abstract
import Derived.Test.YtgdiihffjogdiaaGreatDoorItO
import Derived.Test.YtgdiihffjogdiaaGreatDoorItS
import Derived.Test.YtgdiihffjogdiaaGreatDoorSh
import Derived.Test.YtgdiihffjogdiaaGreatDoorLvX
import Derived.Test.YtgdiihffjogdiaaGreatDoorLvQ
import Derived.Test.YtgdiihffjogdiaaGreatDoorLvZ
import Derived.Test.YtgdiihffjogdiaaGreatDoorItM
set_option linter.unusedSimpArgs false
set_option linter.unusedVariables false
namespace Go.Lift
open Go Go.Proofs Go.RowKit Go.Shelf
set_option maxRecDepth 100000
abbrev sE : ByteArray := ByteArray.mk #[]
structure ThingM where
  kind : Int
  name : ByteArray
  rel : Int
  index : ByteArray
  n : Int
deriving DecidableEq
abbrev encT (x : ThingM) : List Value := [.int .i64 x.kind, .string x.name, .int .i64 x.rel, .string x.index, .int .i64 x.n]
abbrev ekT (x : ThingM) : Value := .agg #[.int .i64 x.kind, .string x.name, .int .i64 x.rel, .string x.index, .int .i64 x.n]
theorem encT_len (x : ThingM) : (encT x).length = 5 := rfl
theorem encT_one (x : ThingM) : ∀ v ∈ encT x, oneCell v = true := by
  intro v hv
  simp at hv
  rcases hv with rfl | rfl | rfl | rfl | rfl <;> rfl
theorem zc_thing : (zc PP T_siread_Thing).size = 5 := by kernel_rfl
theorem beq_bytes13 (a b : ByteArray) : (a == b) = decide (a = b) := by
  rw [Bool.eq_iff_iff, ba_beq, decide_eq_true_eq]
instance keyT : KeyEnc ekT := ⟨fun a b => by
  simp only [keyB, eqCS, keyS, beq_bytes13, Bool.and_true]
  obtain ⟨a1, a2, a3, a4, a5⟩ := a
  obtain ⟨b1, b2, b3, b4, b5⟩ := b
  rw [Bool.eq_iff_iff]
  simp [and_assoc], fun a b => by simp [likeK, likeCS, likeS]⟩
theorem own_ne {α : Type} {T : TypeId} {sz lo : Nat} {enc : α → List Value} {h : Hp} {s : Sl} {xs : List α} (ho : Own T sz enc lo h s xs) {b : Nat} {o : Obj} (hb : h[b]? = some o) (hno : ∀ c fz, o ≠ .cells c T fz) : ∀ a, s.a = some a → a.block ≠ b := by
  intro a ha e
  obtain ⟨b', c, h1, _, hc, _⟩ := ho.2.2 a ha
  rw [h1] at e
  simp only at e
  subst e
  unfold Blk at hc
  rw [hb] at hc
  exact hno _ _ (Option.some.inj hc)
/-- A map, or none. -/
def MapOr {K V : Type} (ek : K → Value) (ev : V → Value) (h : Hp) (r : Option Nat) (T : List (K × V)) : Prop := match r with | none => T = [] | some m => IsMap ek ev h m T
section
variable {K V : Type} {ek : K → Value} {ev : V → Value} {h h' : Hp} {r : Option Nat} {T : List (K × V)}
theorem MapOr.ext {S : List Nat} (hm : MapOr ek ev h r T) (he : Ext S h h') (hn : ∀ m, r = some m → m ∉ S) : MapOr ek ev h' r T := by
  cases r with
  | none => exact hm
  | some m => exact IsMap.ext hm he (hn m rfl)
theorem MapOr.mapAt (hm : MapOr ek ev h r T) : ∃ es, mapAt h r es ∧ EntsOf ek ev es T := by
  cases r with
  | none => exact ⟨#[], Or.inl ⟨rfl, rfl⟩, by have : T = [] := hm; subst this; rfl⟩
  | some m => exact IsMap.mapAt hm
end
section
variable {h : Hp} {Q : List Value → Hp → Prop}
theorem CollectT {V : Type} {ev : V → Value} {B : Nat} {r : Option Nat} {T : List (ThingM × V)} {TM : TypeId} (hB : h[B]? = some (.cells #[.map r] TM)) (hm : MapOr ekT ev h r T) (hl : T.length ≤ 2 ^ 28)
    (hQ : ∀ h' s ks, ks.Perm (T.map Prod.fst) → Own T_siread_Thing 5 encT h.size h' s ks → Ext [] h h' → Q [.slice s.a s.n s.c] h') : S_slices_Collect_siread_Thing 226 #[.pointer (some ⟨B, 0, none⟩)] h Q := by
  refine O_slices_Collect_siread_Thing _ _ ?_
  delta F_slices_Collect_siread_Thing rI rB rS rP rM rL vI vB vS vP vM vL vC vA ad nb gb wi bl bz tn isn sib pu oc
  refine fn_of_calls Tryz.func243 (c := bodyOf Tryz.f243) (by kernel_rfl) (by kernel_rfl) (O_asqT _ _ ?_)
  delta F_asT rI rB rS rP rM rL vI vB vS vP vM vL vC vA ad nb gb wi bl bz tn isn sib pu oc
  refine newI fun h1 s1 b1 e1 => ⟨226, #[], #[.pointer (some ⟨B, 0, none⟩)], rfl, enters_of Tryz.func226 (by kernel_rfl) rfl, fun L hy => ?_⟩
  obtain ⟨h2, hh2⟩ : ∃ h2, (h1.push (.deferred (some []))).push (.loop L) = h2 := ⟨_, rfl⟩
  rw [hh2]
  have z2 : h2.size = h1.size + 2 := by rw [← hh2]; simp
  have bD : h2[h1.size]? = some (.deferred (some [])) := by rw [← hh2]; exact push_old (push_get h1 _) _
  have bL : h2[h1.size + 1]? = some (.loop L) := by rw [← hh2]; have := push_get (h1.push (.deferred (some []))) (.loop L); rwa [Array.size_push] at this
  have e2 : Ext [] h1 h2 := by rw [← hh2]; exact (Ext.push [] h1 _).trans0 (Ext.push [] _ _)
  have f2 := e1.trans0 e2
  have hBl := blk_lt hB
  refine O_ikT hy ⟨B, 0, none⟩ ?_
  delta F_ikT rI rB rS rP rM rL vI vB vS vP vM vL vC vA ad nb gb wi bl bz tn isn sib pu oc
  refine ⟨r, by rw [rd_blk (f2.get hB (by simp))]; rfl, ?_⟩
  have hm2 := hm.ext f2 (by simp)
  have own0 : ∀ g, Own T_siread_Thing 5 encT h.size g ⟨none, 0, 0⟩ [] := fun g => Own.nil _ _
  have fin : ∀ g (s : Sl) (ks : List ThingM), ks.Perm (T.map Prod.fst) → Ext [] h g → g[h.size]? = some (.cells #[.slice s.a s.n s.c] 246) → Own T_siread_Thing 5 encT h.size g s ks → g[h1.size]? = some (.deferred (some [])) → g[h1.size + 1]? = some (.loop L) →
      g[h1.size + 1]? = some (.loop L) ∧ wth (Array.setIfInBounds g (h1.size + 1) (.loop { L with state := .exhausted })) fun h3 =>
    ∃ s : Sl, rd h3 (Addr.mk (Array.size h) 0 none) = some (Value.slice s.a s.n s.c) ∧ h3[h1.size]? = some (.deferred (some [])) ∧ ∃ l3 : Sl, [(Value.slice s.a s.n s.c)] = [(Value.slice l3.a l3.n l3.c)] ∧ Q [(Value.slice l3.a l3.n l3.c)] (Array.setIfInBounds h3 h1.size (.deferred none)) := by
    intro g s ks hp eg bg ho gD gL
    refine ⟨gL, setI gL fun g1 z1 k1 d1 => ⟨s, by rw [rd_blk (d1.get bg (by simp; omega))]; rfl, d1.get gD (by simp), s, rfl, ?_⟩⟩
    have gD1 := d1.get gD (by simp)
    have d2 := Ext.set g1 h1.size (.deferred none)
    refine hQ _ s ks hp ((ho.ext d1 fun a ha hmm => own_ne ho gL (by simp) a ha (by simpa using hmm)).ext d2 fun a ha hmm => own_ne ho gD (by simp) a ha (by simpa using hmm)) ((eg.trans d1 fun b hb hlt => ?_).trans d2 fun b hb hlt => ?_)
    · simp at hb; omega
    · simp at hb; omega
  cases r with
  | none =>
    have hT : T = [] := hm
    subst hT
    refine ⟨.mapIter none 0 #[] 0, Or.inl ⟨rfl, rfl⟩, newI fun h3 s3 b3 e3 => ?_⟩
    intro X hX
    refine hX _ ⟨rfl, _, b3, .nil _ _ _, fun _ => ?_, fun k v o hs => by cases hs⟩
    exact fin h3 ⟨none, 0, 0⟩ [] (by simp) (f2.trans0 e3) (e3.get (e2.get b1 (by simp)) (by simp)) (own0 _) (e3.get bD (by simp)) (e3.get bL (by simp))
  | some m =>
    obtain ⟨o, ho, hR⟩ := range_start (h := h2) hm2
    refine ⟨o, ho, newI fun h3 s3 b3 e3 => ?_⟩
    have hml : m < h.size := IsMap.lt hm
    intro X hX
    refine rangeI (ek := ekT) (ev := ev) (b := h2.size) (m := m) (T := T) hX (fun done g => ∃ s : Sl, Ext [] h g ∧ h3.size ≤ g.size ∧ g[h.size]? = some (.cells #[.slice s.a s.n s.c] 246) ∧ Own T_siread_Thing 5 encT h.size g s (done.map Prod.fst) ∧ g[h1.size]? = some (.deferred (some [])) ∧ g[h1.size + 1]? = some (.loop L) ∧ ∀ b ∈ sBlk s, b ≠ h2.size) ?_ ?_ h3 []
      ⟨⟨none, 0, 0⟩, f2.trans0 e3, Nat.le_refl _, e3.get (e2.get b1 (by simp)) (by simp), own0 _, e3.get bD (by simp), e3.get bL (by simp), by simp [sBlk]⟩ (hR b3 e3) rfl rfl
    · rintro done g ⟨s, eg, zg, bg, og, gD, gL, _⟩ hr hp
      exact fin g s _ (hp.map _) eg bg og gD gL
    · rintro done p g e g' ⟨s, eg, zg, bg, og, gD, gL, hne⟩ ⟨rest, hp⟩ hk hv f1 sz1 hr1 next
      have hlen := hp.length_eq
      simp at hlen
      have hgz := eg.sz
      obtain ⟨x, v⟩ := p
      have og1 := og.ext f1 fun a ha hmm => hne _ (mem_sBlk.2 ⟨a, ha, rfl⟩) (by simpa using hmm)
      have bg1 := f1.get bg (by simp; omega)
      have gD1 := f1.get gD (by simp; omega)
      have gL1 := f1.get gL (by simp; omega)
      have eg1 : Ext [] h g' := eg.trans f1 fun b hb hlt => by simp at hb; omega
      refine ⟨x.kind, x.name, x.rel, x.index, x.n, hk, _, hv, varI rfl rfl fun g2 z2' c2 d2 => ?_⟩
      refine ⟨x.kind, by simp [rd_blk c2], x.name, by simp [rd_blk c2], x.rel, by simp [rd_blk c2], x.index, by simp [rd_blk c2], x.n, by simp [rd_blk c2], rfl, ?_⟩
      have eg2 := eg1.trans0 d2
      refine O_asT ⟨d2.get gL1 (by simp), ?_⟩
      refine varI rfl rfl fun g3 z3 c3 d3 => ⟨d3.get (d2.get gL1 (by simp)) (by simp), setI (d3.get (d2.get gL1 (by simp)) (by simp)) fun g4 z4 k4 d4 => ?_⟩
      have d24 := d2.trans0 d3
      have bg4 := d4.get (d24.get bg1 (by simp)) (by simp; omega)
      have gD4 := d4.get (d24.get gD1 (by simp)) (by simp)
      have hd2 := d2.sz
      have c4 := d4.get c3 (by simp; omega)
      have og3 := og1.ext0 d24
      have og4 := og3.ext d4 fun a ha hmm => own_ne og3 (d24.get gL1 (by simp)) (by simp) a ha (by simpa using hmm)
      refine ⟨s, by rw [rd_blk bg4]; rfl, x.kind, by simp [rd_blk c4], x.name, by simp [rd_blk c4], x.rel, by simp [rd_blk c4], x.index, by simp [rd_blk c4], x.n, by simp [rd_blk c4], newI fun g5 z5 c5 d5 => ?_⟩
      have og5 := og4.ext0 d5
      have k5 := d5.get k4 (by simp)
      have bg5 := d5.get bg4 (by simp)
      have gD5 := d5.get gD4 (by simp)
      have hlo : h.size ≤ g5.size := by omega
      have hln := og5.1
      refine oneG (k := x) encT_len encT_one zc_thing (by decide) og5 c5 (by simp; omega) hlo fun s6 g6 o6 d6 hb6 => ?_
      have bg6 := d6.get bg5 fun hmm => by obtain ⟨a, ha, hb⟩ := mem_sBlk.1 hmm; exact own_ne og5 bg5 (by intro c fz e; cases e) a ha hb
      have gD6 := d6.get gD5 fun hmm => by obtain ⟨a, ha, hb⟩ := mem_sBlk.1 hmm; exact own_ne og5 gD5 (by simp) a ha hb
      have k6 := d6.get k5 fun hmm => by obtain ⟨a, ha, hb⟩ := mem_sBlk.1 hmm; exact own_ne og5 k5 (by simp) a ha hb
      refine st_blk bg6 (by simp) fun g7 z7 c7 d7 => ?_
      have c7' : g7[h.size]? = some (.cells #[.slice s6.a s6.n s6.c] 246) := c7
      have k7 := d7.get k6 (by simp; omega)
      have gD7 := d7.get gD6 (by simp; omega)
      have o7 := o6.ext d7 fun a ha hmm => own_ne o6 bg6 (by intro c fz e; cases e) a ha (by simpa using hmm)
      refine ⟨k7, ?_⟩
      show X [] _
      have d8 := Ext.set g7 (h1.size + 1) (.loop L)
      have hs := hb6
      have hs5 := own_ltG og5
      have e58 : Ext (sBlk s ++ [h.size, h1.size + 1]) g5 (Array.setIfInBounds g7 (h1.size + 1) (.loop L)) := ((d6.mono (fun b hb _ => List.mem_append_left _ hb)).trans d7 (by intro b hb _; simp at hb; subst hb; simp)).trans d8 (by intro b hb _; simp at hb; subst hb; simp)
      have e28 : Ext (sBlk s ++ [h.size, h1.size + 1]) g' (Array.setIfInBounds g7 (h1.size + 1) (.loop L)) := (((d24.mono (by simp)).trans d4 (by intro b hb _; simp at hb; subst hb; simp)).trans0 d5).trans e58 (fun b hb _ => hb)
      have hml' : m < h.size := hml
      have hs1 := own_ltG og1
      refine next _ ⟨s6, eg1.trans e28 fun b hb hlt => ?_, ?_, d8.get c7' (by simp; omega), ?_, d8.get gD7 (by simp), ?_, ?_⟩ (hr1.ext e28 ?_ ?_)
      · rcases List.mem_append.1 hb with hb | hb
        · have := (hs1 b hb).1; omega
        · simp at hb; omega
      · have := e28.sz; omega
      · rw [List.map_append, List.map_cons, List.map_nil]
        exact o7.ext d8 fun a ha hmm => own_ne o7 k7 (by simp) a ha (by simpa using hmm)
      · exact set_blk k7
      · intro b hb
        rcases hb6 b hb with q | q
        · exact hne b q
        · have := d24.sz; omega
      · intro hmm
        rcases List.mem_append.1 hmm with q | q
        · exact hne _ q rfl
        · simp at q; omega
      · intro hmm
        rcases List.mem_append.1 hmm with q | q
        · have := (hs1 m q).1; omega
        · simp at q; omega
end
end Go.Lift
namespace Go.Lift
open Go Go.Proofs
set_option maxRecDepth 100000
abbrev encIL (n : Int) : List Value := [.int .i64 n]
theorem encIL_len (n : Int) : (encIL n).length = 1 := rfl
theorem encIL_one (n : Int) : ∀ v ∈ encIL n, oneCell v = true := by
  intro v hv
  simp at hv
  rw [hv]
  rfl
theorem zc_int : (zc PP T_int).size = 1 := by kernel_rfl
theorem rdI {h : Hp} {s : Sl} {xs : List Int} (hs : Reads 1 encIL h s xs) {i : Nat} (hi : i < xs.length) : ∃ a, s.a = some a ∧ rd h (Addr.add a (i * 1)) = some (.int .i64 xs[i]) := by
  obtain ⟨a, h1, h2⟩ := hs.rd encIL_len hi
  exact ⟨a, h1, by simpa using h2 0 (by omega)⟩
theorem reads_lit {h : Hp} {b n : Nat} {xs : List Int} {cs : Array Value} {T : TypeId} (hb : Blk h b cs T) (hc : cs.toList = xs.flatMap encIL) (hl : xs.length = n) : Reads 1 encIL h ⟨some ⟨b, 0, none⟩, n, n⟩ xs := by
  refine ⟨hl.symm, fun e => (by cases e), ?_⟩
  have hfl : (xs.flatMap encIL).length = xs.length := by rw [flatMap_length encIL_len]; omega
  have := cellsAt_blk hb (o := 0) (n := n * 1) (by have := congrArg List.length hc; rw [hfl, Array.length_toList] at this; omega)
  rw [List.drop_zero, List.take_of_length_le (by rw [hc, hfl]; omega), hc] at this
  exact this
def orI : List Int → Int
  | [] => 0
  | x :: xs => if x ≠ 0 then x else orI xs
def cmpT : ThingM → ThingM → Int := thenC (fun a b => cmpI a.kind b.kind) (thenC (fun a b => cmpS a.name b.name) (thenC (fun a b => cmpI a.rel b.rel) (thenC (fun a b => cmpS a.index b.index) fun a b => cmpI a.n b.n)))
theorem cmpT3 : Cmp3 cmpT := (cmp3I.comap ThingM.kind).then ((cmp3S.comap ThingM.name).then ((cmp3I.comap ThingM.rel).then ((cmp3S.comap ThingM.index).then (cmp3I.comap ThingM.n))))
theorem cmpT_zero (x y : ThingM) (h : cmpT x y = 0) : x = y := by
  obtain ⟨h1, h⟩ := thenC_zero h
  obtain ⟨h2, h⟩ := thenC_zero h
  obtain ⟨h3, h⟩ := thenC_zero h
  obtain ⟨h4, h5⟩ := thenC_zero h
  cases x
  cases y
  simp only at *
  rw [cmpI_zero h1, cmpS_zero h2, cmpI_zero h3, cmpS_zero h4, cmpI_zero h5]
theorem cmpT_or (x y : ThingM) : orI [cmpI x.kind y.kind, cmpS x.name y.name, cmpI x.rel y.rel, cmpS x.index y.index, cmpI x.n y.n] = cmpT x y := by
  unfold cmpT thenC
  simp only [orI]
  repeat' split
  all_goals first | rfl | contradiction | omega
section
variable {h : Hp} {Q : List Value → Hp → Prop}
theorem CmpI_d (a b : Int) (hQ : Q [.int .i64 (cmpI a b)] h) : SD_cmp_Compare_int a b h Q := by
  refine OD_cmp_Compare_int _ _ ?_
  delta FD_cmp_Compare_int rI rB rS rP rM rL vI vB vS vP vM vL vC vA ad nb gb wi bl bz tn isn sib pu oc
  refine OD_cmp_isNaN_int _ ⟨_, rfl, OD_cmp_isNaN_int _ ⟨_, rfl, ?_⟩⟩
  rw [if_neg (by simp), if_neg (by simp)]
  unfold cmpI at hQ
  by_cases h1 : a < b
  · rw [if_pos (by simpa using h1)]
    rw [if_pos h1] at hQ
    exact hQ
  · rw [if_neg (by simpa using h1)]
    rw [if_neg h1] at hQ
    by_cases h2 : a > b
    · rw [if_pos (by simpa using h2)]
      rw [if_pos h2] at hQ
      exact hQ
    · rw [if_neg (by simpa using h2)]
      rw [if_neg h2] at hQ
      exact hQ
theorem CmpS_d (a b : ByteArray) (hQ : Q [.int .i64 (cmpS a b)] h) : SD_cmp_Compare_string a b h Q := by
  refine OD_cmp_Compare_string _ _ ?_
  delta FD_cmp_Compare_string rI rB rS rP rM rL vI vB vS vP vM vL vC vA ad nb gb wi bl bz tn isn sib pu oc
  refine OD_cmp_isNaN_string _ ⟨_, rfl, OD_cmp_isNaN_string _ ⟨_, rfl, ?_⟩⟩
  rw [if_neg (by simp), if_neg (by simp)]
  unfold cmpS at hQ
  by_cases h1 : sLt a b = true
  · rw [if_pos (show Op.bytesLess a.toList b.toList = true from h1)]
    rw [if_pos h1] at hQ
    exact hQ
  · rw [if_neg (show ¬ Op.bytesLess a.toList b.toList = true from h1)]
    rw [if_neg h1] at hQ
    have h1' : Op.bytesLess a.toList b.toList = false := by simpa [sLt] using h1
    by_cases h2 : sLt b a = true
    · rw [if_pos (by
        rw [h1', Bool.false_or]
        have : a.toList ≠ b.toList := fun e => by
          have e2 := toList_inj e
          subst e2
          rw [sLt_irrefl] at h2
          cases h2
        simp [this])]
      rw [if_pos h2] at hQ
      exact hQ
    · rw [if_neg (by
        rcases sLt_total a b with e | e | e
        · simp [e]
        · exact absurd e h1
        · exact absurd e h2)]
      rw [if_neg h2] at hQ
      exact hQ
theorem CmpS_s (a b : ByteArray) (hQ : Q [.int .i64 (cmpS a b)] h) : S_cmp_Compare_string a b h Q :=
  FnD.weak (CmpS_d a b hQ)
theorem Or_d {s : Sl} {xs : List Int} (hs : Reads 1 encIL h s xs) (hl : xs.length ≤ 2 ^ 20) (hQ : Q [.int .i64 (orI xs)] h) : SD_cmp_Or_int s h Q := by
  refine OD_cmp_Or_int _ ?_
  delta FD_cmp_Or_int rI rB rS rP rM rL vI vB vS vP vM vL vC vA ad nb gb wi bl bz tn isn sib pu oc
  have hn := hs.1
  intro X hX
  have key : ∀ d i, d + i = xs.length → orI xs = orI (xs.drop i) → X [.int .i64 (i : Int)] h := by
    intro d
    induction d with
    | zero =>
      intro i hi he
      refine hX _ _ ?_
      rw [if_neg (by simp; omega)]
      rw [List.drop_eq_nil_of_le (by omega)] at he
      rw [he] at hQ
      exact hQ
    | succ d ih =>
      intro i hi he
      have hil : i < xs.length := by omega
      refine hX _ _ ?_
      rw [if_pos (by simp; omega)]
      obtain ⟨a, w1, w2⟩ := rdI hs hil
      rw [w1]
      simp only [nilW_some, Int.toNat_natCast]
      refine ⟨by omega, by omega, _, w2, ?_⟩
      rw [List.drop_eq_getElem_cons hil] at he
      by_cases hx : xs[i] = 0
      · rw [if_neg (by simp [hx]), wrap64 (by omega) (by omega)]
        have := ih (i + 1) (by omega) (by rw [he, orI, if_neg (by simp [hx])])
        simpa using this
      · rw [if_pos (by simp [hx])]
        rw [he, orI, if_pos hx] at hQ
        exact hQ
  have := key xs.length 0 (by omega) rfl
  simpa using this
theorem compare_d (x y : ThingM) (hQ : ∀ h', Ext [] h h' → Q [.int .i64 (cmpT x y)] h') : SD_siread_compare x.kind x.name x.rel x.index x.n y.kind y.name y.rel y.index y.n h Q := by
  refine OD_siread_compare _ _ _ _ _ _ _ _ _ _ ?_
  delta FD_siread_compare rI rB rS rP rM rL vI vB vS vP vM vL vC vA ad nb gb wi bl bz tn isn sib pu oc
  refine newI fun h1 s1 b1 e1 => newI fun h2 s2 b2 e2 => ?_
  have b1' := e2.get b1 (by simp)
  have r : ∀ i (v : Value), (#[.int .i64 x.kind, .string x.name, .int .i64 x.rel, .string x.index, .int .i64 x.n] : Array Value)[i]? = some v → rd h2 (Addr.add (Addr.mk h.size 0 none) i) = some v := fun i v hv => by rw [addr_mk, rd_blk b1', Nat.zero_add, hv]
  have q : ∀ i (v : Value), (#[.int .i64 y.kind, .string y.name, .int .i64 y.rel, .string y.index, .int .i64 y.n] : Array Value)[i]? = some v → rd h2 (Addr.add (Addr.mk h1.size 0 none) i) = some v := fun i v hv => by rw [addr_mk, rd_blk b2, Nat.zero_add, hv]
  have r0 := r 0 _ rfl
  have r1 := r 1 _ rfl
  have r2 := r 2 _ rfl
  have r3 := r 3 _ rfl
  have r4 := r 4 _ rfl
  have q0 := q 0 _ rfl
  have q1 := q 1 _ rfl
  have q2 := q 2 _ rfl
  have q3 := q 3 _ rfl
  have q4 := q 4 _ rfl
  refine ⟨_, r0, _, q0, _, r1, _, q1, _, r2, _, q2, _, r3, _, q3, _, r4, _, q4, ?_⟩
  refine CmpI_d _ _ ⟨_, rfl, q4, r4, q3, r3, q2, r2, q1, r1, ?_⟩
  refine CmpS_d _ _ ⟨_, rfl, q4, r4, q3, r3, q2, r2, ?_⟩
  refine CmpI_d _ _ ⟨_, rfl, q4, r4, q3, r3, ?_⟩
  refine CmpS_d _ _ ⟨_, rfl, q4, r4, ?_⟩
  refine CmpI_d _ _ ⟨_, rfl, ?_⟩
  refine newI fun h3 s3 b3 e3 => ?_
  refine Or_d (xs := [cmpI x.kind y.kind, cmpS x.name y.name, cmpI x.rel y.rel, cmpS x.index y.index, cmpI x.n y.n]) (reads_lit b3 rfl rfl) (by simp) ⟨_, rfl, ?_⟩
  rw [cmpT_or]
  exact hQ h3 ((e1.trans0 e2).trans0 e3)
end
end Go.Lift
namespace Go.Lift
open Go
def fineT (x : ThingM) : Bool := decide (x.kind = 3) || decide (x.kind = 4)
def relT (x : ThingM) : ThingM := ⟨2, sE, x.rel, sE, 0⟩
abbrev MM := List (Int × List ThingM)
structure SM where
  each : Int
  all : Int
  m : MM
  fine : Int
  csn : Int
def thgs (m : MM) (o : Int) : List ThingM := (afind m o).getD []
def nF (l : List ThingM) : Nat := (l.filter fineT).length
def nR (l : List ThingM) (r : Int) : Nat := (l.filter fun y => fineT y && decide (y.rel = r)).length
def tot (m : MM) : Nat := (m.map fun p => p.2.length).sum
def totF (m : MM) : Nat := (m.map fun p => nF p.2).sum
/-- A thing more, for an owner that has an entry. -/
def addS (S : SM) (o : Int) (x : ThingM) (d : Int) : SM := { S with m := aput S.m o (thgs S.m o ++ [x]), fine := S.fine + d }
def loseS (S : SM) (o : Int) (p : ThingM → Bool) : SM :=
  match afind S.m o with
  | none => S
  | some l => { S with m := aput S.m o (l.filter fun x => !p x), fine := S.fine - (nF (l.filter p) : Int) }
def bornS (S : SM) (o : Int) : SM := match afind S.m o with | none => { S with m := aput S.m o [] } | some _ => S
/-- A relation, or a name, for an owner that has an entry. -/
def wholeS (S : SM) (o : Int) (x : ThingM) : SM := 
  let S := if x.kind = 2 then loseS S o fun y => fineT y && decide (y.rel = x.rel) else S
  if x ∈ thgs S.m o then S else addS S o x 0
def takeS (S0 : SM) (o : Int) (x : ThingM) : SM :=
  if x.kind < 1 ∨ x.kind > 4 then S0 else
  let S := bornS S0 o
  if x ∈ thgs S.m o ∨ (fineT x = true ∧ relT x ∈ thgs S.m o) then S
  else if fineT x = true then
    if (nR (thgs S.m o) x.rel : Int) < S.each ∧ S.fine < S.all then addS S o x 1 else wholeS S o (relT x)
  else wholeS S o x
def ownersS (S : SM) (p : ThingM → Bool) : List Int := sortI ((S.m.filter fun e => e.2.any p).map Prod.fst)
def ofS (S : SM) (o : Int) : List ThingM := sortC cmpT (thgs S.m o)
def dropS (S : SM) (o : Int) : SM :=
  let S1 := loseS S o fun _ => true
  { S1 with m := adel S1.m o, csn := if o = 0 then 0 else S1.csn }
def foldS (S : SM) (o csn : Int) : SM :=
  if o < 1 ∨ o > 200 then S else
  let S2 := (ofS S o).foldl (fun S x => takeS S 0 x) (dropS S o)
  { S2 with csn := max S2.csn csn }
def takesS (S : SM) (l : List Int) (x : ThingM) : SM := l.foldl (fun S o => takeS S o x) S
def ownP (x y : ThingM) : Bool := decide (y = x) || (fineT x && decide (y = relT x))
def copyS (S : SM) (a b : ThingM) : SM := takesS S (ownersS S fun y => decide (y = a)) b
/-- What a table keeps to. -/
structure SOk (N : Nat) (S : SM) : Prop where
  nd : (S.m.map Prod.fst).Nodup
  own : ∀ o ∈ S.m.map Prod.fst, 0 ≤ o ∧ o ≤ 200
  tnd : ∀ o l, afind S.m o = some l → l.Nodup
  kind : ∀ o l, afind S.m o = some l → ∀ x ∈ l, 1 ≤ x.kind ∧ x.kind ≤ 4
  one : ∀ o l, afind S.m o = some l → ∀ x ∈ l, fineT x = true → relT x ∉ l
  each : ∀ o l, afind S.m o = some l → ∀ r, (nR l r : Int) ≤ S.each
  fine : S.fine = (totF S.m : Int)
  all : S.fine ≤ S.all
  ea : 1 ≤ S.each ∧ S.each ≤ 10000
  al : 1 ≤ S.all ∧ S.all ≤ 10000
  bnd : tot S.m ≤ N
theorem thgs_some {m : MM} {o : Int} {l : List ThingM} (h : afind m o = some l) : thgs m o = l := by unfold thgs; rw [h]; rfl
theorem thgs_none {m : MM} {o : Int} (h : afind m o = none) : thgs m o = [] := by unfold thgs; rw [h]; rfl
theorem thgs_aput (m : MM) (o o' : Int) (l : List ThingM) : thgs (aput m o l) o' = if o' = o then l else thgs m o' := by
  unfold thgs
  rw [afind_aput]
  by_cases e : o' = o <;> simp [e]
theorem sum_aput {f : List ThingM → Nat} (h0 : f [] = 0) : ∀ (m : MM) (o : Int) (l : List ThingM), (m.map Prod.fst).Nodup → ((aput m o l).map fun p => f p.2).sum + f (thgs m o) = (m.map fun p => f p.2).sum + f l
  | [], o, l, _ => by simp [aput, thgs, afind, h0]
  | (a, u) :: m, o, l, hn => by
    rw [List.map_cons, List.nodup_cons] at hn
    simp only [aput]
    by_cases e : o = a
    · subst e
      simp only [if_true, thgs, afind, Option.getD_some, List.map_cons, List.sum_cons]
      omega
    · have ih := sum_aput h0 m o l hn.2
      simp only [if_neg e, List.map_cons, List.sum_cons]
      have : thgs ((a, u) :: m) o = thgs m o := by unfold thgs; simp only [afind, if_neg e]
      rw [this]
      omega
theorem sum_adel {f : List ThingM → Nat} (h0 : f [] = 0) : ∀ (m : MM) (o : Int), (m.map Prod.fst).Nodup → ((adel m o).map fun p => f p.2).sum + f (thgs m o) = (m.map fun p => f p.2).sum
  | [], o, _ => by simp [adel, thgs, afind, h0]
  | (a, u) :: m, o, hn => by
    rw [List.map_cons, List.nodup_cons] at hn
    simp only [adel]
    by_cases e : o = a
    · subst e
      simp only [if_true, thgs, afind, Option.getD_some, List.map_cons, List.sum_cons]
      omega
    · have ih := sum_adel h0 m o hn.2
      simp only [if_neg e, List.map_cons, List.sum_cons]
      have : thgs ((a, u) :: m) o = thgs m o := by unfold thgs; simp only [afind, if_neg e]
      rw [this]
      omega
theorem tot_aput {m : MM} (hn : (m.map Prod.fst).Nodup) (o : Int) (l : List ThingM) : tot (aput m o l) + (thgs m o).length = tot m + l.length := sum_aput (f := List.length) rfl m o l hn
theorem totF_aput {m : MM} (hn : (m.map Prod.fst).Nodup) (o : Int) (l : List ThingM) : totF (aput m o l) + nF (thgs m o) = totF m + nF l := sum_aput (f := nF) rfl m o l hn
theorem tot_adel {m : MM} (hn : (m.map Prod.fst).Nodup) (o : Int) : tot (adel m o) + (thgs m o).length = tot m := sum_adel (f := List.length) rfl m o hn
theorem totF_adel {m : MM} (hn : (m.map Prod.fst).Nodup) (o : Int) : totF (adel m o) + nF (thgs m o) = totF m := sum_adel (f := nF) rfl m o hn
theorem thgs_len {m : MM} (hn : (m.map Prod.fst).Nodup) (o : Int) : (thgs m o).length ≤ tot m := by have := tot_adel hn o; omega
theorem nF_le (l : List ThingM) : nF l ≤ l.length := List.length_filter_le _ _
theorem mem_keys_aput {m : MM} {o o' : Int} {l : List ThingM} (h : o' ∈ (aput m o l).map Prod.fst) : o' = o ∨ o' ∈ m.map Prod.fst := by
  rw [keys_aput] at h
  split at h
  · exact Or.inr h
  · rcases List.mem_append.1 h with h | h
    · exact Or.inr h
    · simp at h; exact Or.inl h
section
variable {N : Nat} {S : SM} {o : Int}
theorem SOk.thg (h : SOk N S) (o : Int) : (thgs S.m o).Nodup ∧ (∀ x ∈ thgs S.m o, 1 ≤ x.kind ∧ x.kind ≤ 4) ∧ (∀ x ∈ thgs S.m o, fineT x = true → relT x ∉ thgs S.m o) ∧ ∀ r, (nR (thgs S.m o) r : Int) ≤ S.each := by
  cases hf : afind S.m o with
  | none =>
    rw [thgs_none hf]
    have := h.ea.1
    exact ⟨by simp, by simp, by simp, fun r => by simp [nR]; omega⟩
  | some l =>
    rw [thgs_some hf]
    exact ⟨h.tnd o l hf, h.kind o l hf, h.one o l hf, h.each o l hf⟩
/-- An owner's things are set. -/
theorem SOk.put (h : SOk N S) (ho : 0 ≤ o ∧ o ≤ 200) {l : List ThingM} {f : Int} (h1 : l.Nodup) (h2 : ∀ x ∈ l, 1 ≤ x.kind ∧ x.kind ≤ 4) (h3 : ∀ x ∈ l, fineT x = true → relT x ∉ l) (h4 : ∀ r, (nR l r : Int) ≤ S.each)
    (hf : f = S.fine + (nF l : Int) - (nF (thgs S.m o) : Int)) (hall : f ≤ S.all) {N' : Nat} (hN : tot S.m + l.length ≤ N' + (thgs S.m o).length) : SOk N' { S with m := aput S.m o l, fine := f } := by
  refine ⟨aput_nodup h.nd _ _, fun o' ho' => ?_, fun o' l' hl' => ?_, fun o' l' hl' => ?_, fun o' l' hl' => ?_, fun o' l' hl' => ?_, ?_, hall, h.ea, h.al, ?_⟩
  · rcases mem_keys_aput ho' with e | e
    · rw [e]; exact ho
    · exact h.own o' e
  all_goals try (simp only at hl'; rw [afind_aput] at hl')
  · split at hl'
    · cases hl'; exact h1
    · exact h.tnd o' l' hl'
  · split at hl'
    · cases hl'; exact h2
    · exact h.kind o' l' hl'
  · split at hl'
    · cases hl'; exact h3
    · exact h.one o' l' hl'
  · split at hl'
    · cases hl'; exact h4
    · exact h.each o' l' hl'
  · have := totF_aput h.nd o l
    have := h.fine
    simp only
    omega
  · have := tot_aput h.nd o l
    simp only
    omega
theorem bornS_ok (h : SOk N S) (ho : 0 ≤ o ∧ o ≤ 200) : SOk N (bornS S o) ∧ (∀ o', thgs (bornS S o).m o' = thgs S.m o') ∧ (∃ l, afind (bornS S o).m o = some l) ∧ (bornS S o).each = S.each ∧ (bornS S o).all = S.all ∧ (bornS S o).fine = S.fine ∧ (bornS S o).csn = S.csn ∧ tot (bornS S o).m = tot S.m := by
  unfold bornS
  cases hf : afind S.m o with
  | none =>
    have hz := thgs_none hf
    have := h.put (o := o) ho (l := []) (f := S.fine) (by simp) (by simp) (by simp) (fun r => by have := h.ea.1; simp [nR]; omega) (by rw [hz]; simp) h.all (N' := N) (by rw [hz]; have := h.bnd; simp; omega)
    refine ⟨this, fun o' => ?_, ⟨[], by simp [afind_aput]⟩, rfl, rfl, rfl, rfl, ?_⟩
    · simp only
      rw [thgs_aput]
      split
      · rename_i e; rw [e, hz]
      · rfl
    · have := tot_aput h.nd o []
      rw [hz] at this
      simp only at this ⊢
      simpa using this
  | some l => exact ⟨h, fun _ => rfl, ⟨l, hf⟩, rfl, rfl, rfl, rfl, rfl⟩
theorem nF_app (l l' : List ThingM) : nF (l ++ l') = nF l + nF l' := by unfold nF; rw [List.filter_append, List.length_append]
theorem nF_split (l : List ThingM) (p : ThingM → Bool) : nF (l.filter fun x => !p x) + nF (l.filter p) = nF l := by
  unfold nF
  induction l with
  | nil => rfl
  | cons a l ih =>
    cases hp : p a <;> cases hf : fineT a <;> simp [hp, hf] at ih ⊢ <;> omega
theorem nR_filter (l : List ThingM) (p : ThingM → Bool) (r : Int) : nR (l.filter p) r ≤ nR l r := by
  unfold nR
  exact ((List.filter_sublist (p := p) (l := l)).filter _).length_le
theorem loseS_ok (h : SOk N S) (ho : 0 ≤ o ∧ o ≤ 200) (p : ThingM → Bool) : SOk N (loseS S o p) ∧ (loseS S o p).fine ≤ S.fine ∧ thgs (loseS S o p).m o = (thgs S.m o).filter (fun x => !p x) ∧ (∀ o', o' ≠ o → thgs (loseS S o p).m o' = thgs S.m o') ∧ tot (loseS S o p).m ≤ tot S.m ∧ tot (loseS S o p).m + ((thgs S.m o).filter p).length = tot S.m ∧ (loseS S o p).each = S.each ∧ (loseS S o p).all = S.all ∧ (loseS S o p).csn = S.csn := by
  unfold loseS
  cases hf : afind S.m o with
  | none =>
    have hz := thgs_none hf
    dsimp only
    exact ⟨h, by omega, by rw [hz]; rfl, fun _ _ => rfl, Nat.le_refl _, by rw [hz]; simp, rfl, rfl, rfl⟩
  | some l =>
    have hz := thgs_some hf
    have h1 := nF_split l p
    have h2 := List.length_filter_le (fun x => !p x) l
    have hk := h.put (o := o) ho (l := l.filter fun x => !p x) (f := S.fine - (nF (l.filter p) : Int)) ((h.tnd o l hf).sublist List.filter_sublist) (fun x hx => h.kind o l hf x (List.mem_filter.1 hx).1) (fun x hx hfx hr => h.one o l hf x (List.mem_filter.1 hx).1 hfx (List.mem_filter.1 hr).1)
      (fun r => by have := nR_filter l (fun x => !p x) r; have := h.each o l hf r; omega) (by rw [hz]; omega) (by have := h.all; omega) (N' := N) (by rw [hz]; have := h.bnd; omega)
    have hlen : (l.filter fun x => !p x).length + (l.filter p).length = l.length := by
      clear h1 h2 hk hz hf
      induction l with
      | nil => rfl
      | cons a l ih => cases hp : p a <;> simp [List.filter_cons, hp] <;> omega
    have ht := tot_aput h.nd o (l.filter fun x => !p x)
    rw [hz] at ht ⊢
    refine ⟨hk, by simp only; omega, by simp only; rw [thgs_aput, if_pos rfl], fun o' ho' => by simp only; rw [thgs_aput, if_neg ho'], by simp only; omega, by simp only; omega, rfl, rfl, rfl⟩
theorem wholeS_ok (h : SOk N S) (ho : 0 ≤ o ∧ o ≤ 200) {x : ThingM} (hx : 1 ≤ x.kind ∧ x.kind ≤ 2) : SOk (N + 1) (wholeS S o x) ∧ tot (wholeS S o x).m ≤ tot S.m + 1 ∧ x ∈ thgs (wholeS S o x).m o ∧ (∀ y ∈ thgs S.m o, y ∈ thgs (wholeS S o x).m o ∨ (x.kind = 2 ∧ fineT y = true ∧ y.rel = x.rel)) ∧ (∀ y ∈ thgs (wholeS S o x).m o, y = x ∨ (y ∈ thgs S.m o ∧ ¬ (x.kind = 2 ∧ fineT y = true ∧ y.rel = x.rel))) ∧ (∀ o', o' ≠ o → thgs (wholeS S o x).m o' = thgs S.m o') ∧ (wholeS S o x).each = S.each ∧ (wholeS S o x).all = S.all ∧ (wholeS S o x).csn = S.csn := by
  have hfx : fineT x = false := by
    unfold fineT
    have h1 : ¬ x.kind = 3 := by omega
    have h2 : ¬ x.kind = 4 := by omega
    simp [h1, h2]
  unfold wholeS
  generalize hS1 : (if x.kind = 2 then loseS S o fun y => fineT y && decide (y.rel = x.rel) else S) = S1
  have h1 : SOk N S1 ∧ tot S1.m ≤ tot S.m ∧ (∀ y, y ∈ thgs S1.m o ↔ y ∈ thgs S.m o ∧ ¬ (x.kind = 2 ∧ fineT y = true ∧ y.rel = x.rel)) ∧ (∀ o', o' ≠ o → thgs S1.m o' = thgs S.m o') ∧ S1.each = S.each ∧ S1.all = S.all ∧ S1.csn = S.csn := by
    by_cases hk : x.kind = 2
    · rw [if_pos hk] at hS1
      obtain ⟨a1, a2, a3, a4, a5, a6, a7, a8, a9⟩ := loseS_ok h ho fun y => fineT y && decide (y.rel = x.rel)
      rw [hS1] at a1 a2 a3 a4 a5 a6 a7 a8 a9
      refine ⟨a1, a5, fun y => ?_, a4, a7, a8, a9⟩
      rw [a3, List.mem_filter]
      simp [hk]
      intro _
      cases fineT y <;> simp
    · rw [if_neg hk] at hS1
      subst hS1
      exact ⟨h, Nat.le_refl _, fun y => ⟨fun hy => ⟨hy, fun hc => hk hc.1⟩, fun hy => hy.1⟩, fun _ _ => rfl, rfl, rfl, rfl⟩
  obtain ⟨b1, b2, b3, b4, b5, b6, b7⟩ := h1
  simp only
  by_cases hin : x ∈ thgs S1.m o
  · rw [if_pos hin]
    refine ⟨⟨b1.nd, b1.own, b1.tnd, b1.kind, b1.one, b1.each, b1.fine, b1.all, b1.ea, b1.al, by have := b1.bnd; omega⟩, by omega, hin, fun y hy => ?_, fun y hy => Or.inr ((b3 y).1 hy), b4, b5, b6, b7⟩
    by_cases hc : x.kind = 2 ∧ fineT y = true ∧ y.rel = x.rel
    · exact Or.inr hc
    · exact Or.inl ((b3 y).2 ⟨hy, hc⟩)
  · rw [if_neg hin]
    obtain ⟨t1, t2, t3, t4⟩ := b1.thg o
    have hthg : thgs (addS S1 o x 0).m o = thgs S1.m o ++ [x] := by unfold addS; simp only; rw [thgs_aput, if_pos rfl]
    have ht := tot_aput b1.nd o (thgs S1.m o ++ [x])
    simp only [List.length_append, List.length_cons, List.length_nil] at ht
    have hmm : ∀ y, y ∈ thgs S1.m o ++ [x] ↔ y ∈ thgs S1.m o ∨ y = x := fun y => by simp
    have hok : SOk (N + 1) (addS S1 o x 0) := by
      unfold addS
      refine b1.put ho ?_ (fun y hy => ?_) (fun y hy hfy hr => ?_) (fun r => ?_) ?_ (by have := b1.all; omega) (by have := b1.bnd; simp; omega)
      · rw [List.nodup_append]
        refine ⟨t1, by simp, fun a ha b hb e => ?_⟩
        simp at hb
        exact hin (hb ▸ e ▸ ha)
      · rcases (hmm y).1 hy with hy | hy
        · exact t2 y hy
        · subst hy; omega
      · rcases (hmm y).1 hy with hy | hy
        · rcases (hmm _).1 hr with hr | hr
          · exact t3 y hy hfy hr
          · have h2 := ((b3 y).1 hy).2
            refine h2 ⟨?_, hfy, ?_⟩
            · rw [← hr]; rfl
            · rw [← hr]; rfl
        · subst hy; rw [hfx] at hfy; cases hfy
      · have : nR (thgs S1.m o ++ [x]) r = nR (thgs S1.m o) r := by unfold nR; rw [List.filter_append]; simp [hfx]
        rw [this]
        exact t4 r
      · rw [nF_app]
        have : nF [x] = 0 := by unfold nF; simp [hfx]
        omega
    refine ⟨hok, ?_, by rw [hthg]; simp, fun y hy => ?_, fun y hy => ?_, fun o' ho' => ?_, b5, b6, b7⟩
    · unfold addS; simp only; omega
    · rw [hthg]
      by_cases hc : x.kind = 2 ∧ fineT y = true ∧ y.rel = x.rel
      · exact Or.inr hc
      · exact Or.inl (List.mem_append_left _ ((b3 y).2 ⟨hy, hc⟩))
    · rw [hthg] at hy
      rcases (hmm y).1 hy with hy | hy
      · exact Or.inr ((b3 y).1 hy)
      · exact Or.inl hy
    · unfold addS
      simp only
      rw [thgs_aput, if_neg ho', b4 o' ho']
/-- A thing is taken. -/
theorem takeS_ok (h : SOk N S) (ho : 0 ≤ o ∧ o ≤ 200) (x : ThingM) : SOk (N + 1) (takeS S o x) ∧ tot (takeS S o x).m ≤ tot S.m + 1 ∧ (∀ o', o' ≠ o → thgs (takeS S o x).m o' = thgs S.m o') ∧ (takeS S o x).each = S.each ∧ (takeS S o x).all = S.all ∧ (takeS S o x).csn = S.csn := by
  have hup : ∀ {S : SM}, SOk N S → SOk (N + 1) S := fun b1 => ⟨b1.nd, b1.own, b1.tnd, b1.kind, b1.one, b1.each, b1.fine, b1.all, b1.ea, b1.al, by have := b1.bnd; omega⟩
  unfold takeS
  by_cases hk : x.kind < 1 ∨ x.kind > 4
  · rw [if_pos hk]
    exact ⟨hup h, by omega, fun _ _ => rfl, rfl, rfl, rfl⟩
  rw [if_neg hk]
  obtain ⟨a1, a2, a3, a4, a5, a6, a7, a8⟩ := bornS_ok h ho
  generalize bornS S o = S1 at a1 a2 a3 a4 a5 a6 a7 a8
  simp only
  by_cases hin : x ∈ thgs S1.m o ∨ (fineT x = true ∧ relT x ∈ thgs S1.m o)
  · rw [if_pos hin]
    exact ⟨hup a1, by omega, fun o' _ => a2 o', a4, a5, a7⟩
  rw [if_neg hin]
  have hin1 : x ∉ thgs S1.m o := fun e => hin (Or.inl e)
  by_cases hf : fineT x = true
  · have hin2 : relT x ∉ thgs S1.m o := fun e => hin (Or.inr ⟨hf, e⟩)
    rw [if_pos hf]
    by_cases hc : (nR (thgs S1.m o) x.rel : Int) < S1.each ∧ S1.fine < S1.all
    · rw [if_pos hc]
      obtain ⟨t1, t2, t3, t4⟩ := a1.thg o
      have ht := tot_aput a1.nd o (thgs S1.m o ++ [x])
      simp only [List.length_append, List.length_cons, List.length_nil] at ht
      have hmm : ∀ y, y ∈ thgs S1.m o ++ [x] ↔ y ∈ thgs S1.m o ∨ y = x := fun y => by simp
      have hrx : ∀ y, relT y ≠ x := fun y e => by
        have : fineT (relT y) = false := rfl
        rw [e, hf] at this
        cases this
      refine ⟨?_, ?_, fun o' ho' => ?_, a4, a5, a7⟩
      · unfold addS
        refine a1.put ho ?_ (fun y hy => ?_) (fun y hy hfy hr => ?_) (fun r => ?_) ?_ (by omega) (by have := a1.bnd; simp; omega)
        · rw [List.nodup_append]
          refine ⟨t1, by simp, fun a ha b hb e => ?_⟩
          simp at hb
          exact hin1 (hb ▸ e ▸ ha)
        · rcases (hmm y).1 hy with hy | hy
          · exact t2 y hy
          · subst hy; omega
        · rcases (hmm _).1 hr with hr2 | hr2
          · rcases (hmm y).1 hy with hy | hy
            · exact t3 y hy hfy hr2
            · subst hy; exact hin2 hr2
          · exact hrx y hr2
        · have : nR (thgs S1.m o ++ [x]) r = nR (thgs S1.m o) r + if x.rel = r then 1 else 0 := by
            unfold nR
            rw [List.filter_append, List.length_append]
            by_cases e : x.rel = r <;> simp [hf, e]
          rw [this]
          have := t4 r
          by_cases e : x.rel = r
          · rw [if_pos e]; subst e; omega
          · rw [if_neg e]; omega
        · rw [nF_app]
          have : nF [x] = 1 := by unfold nF; simp [hf]
          omega
      · unfold addS; simp only; omega
      · unfold addS
        simp only
        rw [thgs_aput, if_neg ho', a2]
    · rw [if_neg hc]
      obtain ⟨c1, c2, _, _, _, c6, c7, c8, c9⟩ := wholeS_ok a1 ho (x := relT x) (by simp [relT])
      exact ⟨c1, by omega, fun o' ho' => by rw [c6 o' ho', a2], by rw [c7, a4], by rw [c8, a5], by rw [c9, a7]⟩
  · rw [if_neg hf]
    have hk12 : 1 ≤ x.kind ∧ x.kind ≤ 2 := by
      unfold fineT at hf
      simp at hf
      omega
    obtain ⟨c1, c2, _, _, _, c6, c7, c8, c9⟩ := wholeS_ok a1 ho hk12
    exact ⟨c1, by omega, fun o' ho' => by rw [c6 o' ho', a2], by rw [c7, a4], by rw [c8, a5], by rw [c9, a7]⟩
end
end Go.Lift
namespace Go.Lift
open Go Go.Proofs Go.RowKit Go.Shelf
set_option maxRecDepth 100000
abbrev encI (n : Int) : Value := .int .i64 n
abbrev evU (_ : Unit) : Value := .int .i64 1
abbrev evM (b : Nat) : Value := .map (some b)
def tU (l : List ThingM) : List (ThingM × Unit) := l.map fun x => (x, ())
theorem tU_keys (l : List ThingM) : (tU l).map Prod.fst = l := by unfold tU; rw [List.map_map]; exact List.map_id l
theorem afind_tU (l : List ThingM) (x : ThingM) : afind (tU l) x = if x ∈ l then some () else none := by
  unfold tU
  induction l with
  | nil => simp [afind]
  | cons a l ih =>
    simp only [List.map_cons, afind, ih, List.mem_cons]
    by_cases e : x = a <;> simp [e]
theorem aput_tU (l : List ThingM) (x : ThingM) : aput (tU l) x () = tU (if x ∈ l then l else l ++ [x]) := by
  unfold tU
  induction l with
  | nil => simp [aput]
  | cons a l ih =>
    simp only [List.map_cons, aput, ih, List.mem_cons]
    by_cases e : x = a
    · simp [e]
    · by_cases e2 : x ∈ l <;> simp [e, e2]
theorem adel_tU (l : List ThingM) (x : ThingM) : adel (tU l) x = tU (l.erase x) := by
  unfold tU
  induction l with
  | nil => simp [adel]
  | cons a l ih =>
    simp only [List.map_cons, adel, ih, List.erase_cons]
    by_cases e : x = a
    · simp [e]
    · have : (a == x) = false := by simpa using Ne.symm e
      simp [e, this]
structure CM where
  b : Nat
  l : List ThingM
abbrev CC := List (Int × CM)
abbrev mS (C : CC) : MM := amap CM.l C
structure TabS (lo : Nat) (h : Hp) (t mb : Nat) (C : CC) (each all fine csn : Int) : Prop where
  blk : Blk h t #[.int .i64 each, .int .i64 all, .map (some mb), .int .i64 fine, .int .i64 csn] T_siread_Table
  outer : IsMap encI evM h mb (amap CM.b C)
  nd : (C.map Prod.fst).Nodup
  inner : ∀ o c, afind C o = some c → IsMap ekT evU h c.b (tU c.l)
  tnd : ∀ o c, afind C o = some c → c.l.Nodup
  lob : ∀ o c, afind C o = some c → lo ≤ c.b
  sep : ∀ o o' c c', afind C o = some c → afind C o' = some c' → o ≠ o' → c.b ≠ c'.b
  smb : ∀ o c, afind C o = some c → c.b ≠ mb
  lot : lo ≤ t
  lom : lo ≤ mb
def FS (t mb : Nat) (C : CC) (b : Nat) : Prop := b = t ∨ b = mb ∨ ∃ o c, afind C o = some c ∧ b = c.b
section
variable {lo : Nat} {h h' : Hp} {t mb : Nat} {C : CC} {each all fine csn : Int} {Q : List Value → Hp → Prop}
theorem map_not_cells {b : Nat} {K V : Type} {ek : K → Value} {ev : V → Value} {T : List (K × V)} (hm : IsMap ek ev h b T) {c : Array Value} {Ty : TypeId} {fz : Nat × Nat} (hb : h[b]? = some (.cells c Ty fz)) : False := by
  obtain ⟨es, cl, h1, _⟩ := hm
  rw [hb] at h1
  cases h1
theorem TabS.lt (hT : TabS lo h t mb C each all fine csn) {b : Nat} (hb : FS t mb C b) : lo ≤ b ∧ b < h.size := by
  rcases hb with rfl | rfl | ⟨o, c, hf, rfl⟩
  · exact ⟨hT.lot, blk_lt hT.blk⟩
  · exact ⟨hT.lom, hT.outer.lt⟩
  · exact ⟨hT.lob o c hf, (hT.inner o c hf).lt⟩
theorem TabS.extF {S : List Nat} (hT : TabS lo h t mb C each all fine csn) (he : Ext S h h') (hS : ∀ b, FS t mb C b → b ∉ S) : TabS lo h' t mb C each all fine csn :=
  ⟨he.get hT.blk (hS _ (Or.inl rfl)), hT.outer.ext he (hS _ (Or.inr (Or.inl rfl))), hT.nd, fun o c hf => (hT.inner o c hf).ext he (hS _ (Or.inr (Or.inr ⟨o, c, hf, rfl⟩))), hT.tnd, hT.lob, hT.sep, hT.smb, hT.lot, hT.lom⟩
theorem TabS.ext0 (hT : TabS lo h t mb C each all fine csn) (he : Ext [] h h') : TabS lo h' t mb C each all fine csn := hT.extF he fun _ _ => by simp
theorem TabS.t_ne (hT : TabS lo h t mb C each all fine csn) : mb ≠ t ∧ ∀ o c, afind C o = some c → c.b ≠ t := by
  refine ⟨fun e => ?_, fun o c hf e => ?_⟩
  · have := hT.outer
    rw [e] at this
    exact map_not_cells this hT.blk
  · have := hT.inner o c hf
    rw [e] at this
    exact map_not_cells this hT.blk
/-- The owner's entry. -/
theorem tab_has (hT : TabS lo h t mb C each all fine csn) (o : Int) : ∃ es, mapAt h (some mb) es ∧ KeysLike (.int .i64 o) es ∧ mgetD (.int .i64 o) es (.map none) = .map ((afind C o).map CM.b) := by
  obtain ⟨es, h1, h2⟩ := hT.outer.mapAt
  refine ⟨es, h1, keysLike_ents h2 o, ?_⟩
  rw [mgetD_ents h2 o, afind_amap]
  cases afind C o <;> rfl
theorem tab_in (hT : TabS lo h t mb C each all fine csn) (o : Int) : MapOr ekT evU h ((afind C o).map CM.b) (tU (thgs (mS C) o)) := by
  unfold thgs
  rw [afind_amap]
  cases hf : afind C o with
  | none => rfl
  | some c => exact hT.inner o c hf
theorem has_get {r : Option Nat} {l : List ThingM} (hm : MapOr ekT evU h r (tU l)) (x : ThingM) : ∃ es, mapAt h r es ∧ KeysLike (ekT x) es ∧ ∃ n : Int, mgetD (ekT x) es (.int .i64 0) = .int .i64 n ∧ decide (n > 0) = decide (x ∈ l) := by
  obtain ⟨es, h1, h2⟩ := hm.mapAt
  refine ⟨es, h1, keysLike_ents h2 x, ?_⟩
  rw [mgetD_ents h2 x, afind_tU]
  by_cases hx : x ∈ l
  · rw [if_pos hx]; exact ⟨1, rfl, by simp [hx]⟩
  · rw [if_neg hx]; exact ⟨0, rfl, by simp [hx]⟩
theorem rd5I {v : Nat} {x : ThingM} {T : TypeId} {K : Int → ByteArray → Int → ByteArray → Int → Prop} (hb : Blk h v (encT x).toArray T) (H : K x.kind x.name x.rel x.index x.n) :
    ∃ n1 : Int, rd h (Addr.add (Addr.mk v 0 none) 0) = some (Value.int .i64 n1) ∧ ∃ s2 : ByteArray, rd h (Addr.add (Addr.mk v 0 none) 1) = some (Value.string s2) ∧ ∃ n3 : Int, rd h (Addr.add (Addr.mk v 0 none) 2) = some (Value.int .i64 n3) ∧ ∃ s4 : ByteArray, rd h (Addr.add (Addr.mk v 0 none) 3) = some (Value.string s4) ∧ ∃ n5 : Int, rd h (Addr.add (Addr.mk v 0 none) 4) = some (Value.int .i64 n5) ∧ K n1 s2 n3 s4 n5 := by
  have r : ∀ i, rd h (Addr.add (Addr.mk v 0 none) i) = (encT x).toArray[i]? := fun i => by rw [addr_mk, rd_blk hb, Nat.zero_add]
  exact ⟨_, r 0, _, r 1, _, r 2, _, r 3, _, r 4, H⟩
theorem rdT {s : Sl} {xs : List ThingM} (hs : Reads 5 encT h s xs) {i : Nat} (hi : i < xs.length) : ∃ a, s.a = some a ∧ ∀ (K : Int → ByteArray → Int → ByteArray → Int → Prop), K xs[i].kind xs[i].name xs[i].rel xs[i].index xs[i].n →
    ∃ n1 : Int, rd h (Addr.add (Addr.add a (i * 5)) 0) = some (Value.int .i64 n1) ∧ ∃ s2 : ByteArray, rd h (Addr.add (Addr.add a (i * 5)) 1) = some (Value.string s2) ∧ ∃ n3 : Int, rd h (Addr.add (Addr.add a (i * 5)) 2) = some (Value.int .i64 n3) ∧ ∃ s4 : ByteArray, rd h (Addr.add (Addr.add a (i * 5)) 3) = some (Value.string s4) ∧ ∃ n5 : Int, rd h (Addr.add (Addr.add a (i * 5)) 4) = some (Value.int .i64 n5) ∧ K n1 s2 n3 s4 n5 := by
  obtain ⟨a, h1, h2⟩ := hs.rd encT_len hi
  refine ⟨a, h1, fun K H => ?_⟩
  have r : ∀ k, k < 5 → rd h (Addr.add (Addr.add a (i * 5)) k) = (encT xs[i])[k]? := fun k hk => by rw [addr_add_add]; exact h2 k hk
  exact ⟨_, r 0 (by omega), _, r 1 (by omega), _, r 2 (by omega), _, r 3 (by omega), _, r 4 (by omega), H⟩
theorem fine_s (x : ThingM) (hQ : ∀ h', Ext [] h h' → Q [.bool (fineT x)] h') : S_siread_Thing_fine x.kind x.name x.rel x.index x.n h Q := by
  refine O_siread_Thing_fine _ _ _ _ _ ?_
  delta F_siread_Thing_fine rI rB rS rP rM rL vI vB vS vP vM vL vC vA ad nb gb wi bl bz tn isn sib pu oc
  refine newI fun h1 s1 b1 e1 => ?_
  refine ⟨x.kind, by simp [rd_blk b1], ?_⟩
  have := hQ h1 e1
  unfold fineT at this
  by_cases h3 : x.kind = 3
  · rw [if_pos (by simp [h3])]
    simpa [h3] using this
  · rw [if_neg (by simp [h3])]
    refine ⟨x.kind, by simp [rd_blk b1], ?_⟩
    have e4 : (x.kind == (4 : Int)) = decide (x.kind = 4) := by rw [Bool.eq_iff_iff]; simp
    rw [e4]
    simpa [h3] using this
theorem rel_s (x : ThingM) (hQ : ∀ h', Ext [] h h' → Q [ekT (relT x)] h') : S_siread_Thing_rel x.kind x.name x.rel x.index x.n h Q := by
  refine O_siread_Thing_rel _ _ _ _ _ ?_
  delta F_siread_Thing_rel rI rB rS rP rM rL vI vB vS vP vM vL vC vA ad nb gb wi bl bz tn isn sib pu oc
  refine newI fun h1 s1 b1 e1 => ?_
  refine newI fun h2 s2 b2 e2 => ?_
  have b1' := e2.get b1 (by simp)
  refine ⟨x.rel, by simp [rd_blk b1'], ?_⟩
  refine st_blk b2 (by simp) fun h3 s3 b3 e3 => ?_
  have b3' : Blk h3 h1.size (encT (relT x)).toArray T_siread_Thing := b3
  refine rd5I b3' ?_
  exact hQ h3 ((e1.trans0 e2).trans e3 fun b hb hlt => by simp at hb; omega)
instance : Inhabited ThingM := ⟨⟨0, sE, 0, sE, 0⟩⟩
theorem cmp_ltOf (x y : ThingM) : Go.Proofs.ltOf cmpT x y = decide (cmpT x y < 0) := rfl
theorem SortedT {V : Type} {ev : V → Value} {r : Option Nat} {T : List (ThingM × V)} (hm : MapOr ekT ev h r T) (hl : T.length ≤ 2 ^ 28) (hn : (T.map Prod.fst).Nodup)
    (hQ : ∀ h' s, Ext [] h h' → Own T_siread_Thing 5 encT h.size h' s (sortC cmpT (T.map Prod.fst)) → Q [.slice s.a s.n s.c] h') : S_maps_Keys_map_siread_Thing_int_siread_Thing_int r h fun vs5 h6 =>
    ∃ f7 : Nat, ∃ cs8 : Array Value, vs5 = [(Value.func (.func f7) #[] cs8)] ∧
    S_slices_SortedFunc_siread_Thing f7 cs8 203 #[] h6 fun (vs9 : List Value) (h10 : Hp) =>
    ∃ l11 : Sl, vs9 = [(Value.slice l11.a l11.n l11.c)] ∧
    Q [(Value.slice l11.a l11.n l11.c)] h10 := by
  refine O_maps_Keys_map_siread_Thing_int_siread_Thing_int _ ?_
  delta F_maps_Keys_map_siread_Thing_int_siread_Thing_int rI rB rS rP rM rL vI vB vS vP vM vL vC vA ad nb gb wi bl bz tn isn sib pu oc
  refine newI fun h1 s1 b1 e1 => ⟨_, _, rfl, ?_⟩
  refine O_slices_SortedFunc_siread_Thing _ _ _ _ ?_
  delta F_slices_SortedFunc_siread_Thing rI rB rS rP rM rL vI vB vS vP vM vL vC vA ad nb gb wi bl bz tn isn sib pu oc
  refine CollectT b1 (hm.ext e1 (by simp)) hl fun h2 s ks hp ho e2 => ⟨s, rfl, ?_⟩
  have hlk : ks.length ≤ 2 ^ 40 := by rw [hp.length_eq, List.length_map]; omega
  refine fn_of_calls Tryz.func225 (c := bodyOf Tryz.f225) (by kernel_rfl) (by kernel_rfl) ?_
  have hO : Go.Sort.SWO (Go.Proofs.ltOf cmpT) := ⟨fun x => by rw [cmp_ltOf, cmpT3.irr]; rfl, fun x y z h1 h2 => by
      rw [cmp_ltOf, decide_eq_true_eq] at *
      exact cmpT3.trans x y z h1 h2, fun x y z h1 h2 => by
      rw [cmp_ltOf, decide_eq_false_iff_not] at *
      exact cmpT3.nt x y z h1 h2⟩
  have hT : ∀ x y, Go.Proofs.ltOf cmpT x y = false → Go.Proofs.ltOf cmpT y x = false → x = y := fun x y h1 h2 => by
    rw [cmp_ltOf, decide_eq_false_iff_not] at *
    have := cmpT3.anti x y
    exact cmpT_zero x y (by omega)
  refine sortF_c Tryz.sortFT (by omega) Tryz.isAgg46 Tryz.sizeOf46 encT_len (fun x v hv => ?_) cmpT hO hT 203 #[] (enters_of Tryz.func203 (by kernel_rfl) rfl) (fun x y g _ => ?_) ho hlk fun h3 o3 e3 => ⟨rfl, s, rfl, ?_⟩
  · simp at hv
    rcases hv with rfl | rfl | rfl | rfl | rfl <;> rfl
  · refine calls_of_fn Tryz.func203 (c := bodyOf Tryz.f203) (by kernel_rfl) (by kernel_rfl) ?_
    exact compare_d x y fun g' e => ⟨rfl, e⟩
  · have hs := own_ltG ho
    refine hQ h3 s (((e1.trans0 e2).trans e3 fun b hb hlt => by have := hs b hb; omega)) ?_
    have hEq : ks.mergeSort (fun x y => !(Go.Proofs.ltOf cmpT) y x) = sortC cmpT (T.map Prod.fst) := by
      have hks : ks.Nodup := hp.nodup_iff.2 hn
      exact ordC_ext cmpT3 (sortC_ord cmpT3 cmpT_zero hks) (sortC_ord cmpT3 cmpT_zero hn) fun x => by
        rw [sortC_mem, ← hp.mem_iff]
        exact List.mem_mergeSort
    rw [hEq] at o3
    exact o3.mono (by omega)
end
end Go.Lift
namespace Go.Lift
open Go Go.Proofs Go.RowKit Go.Shelf
set_option maxRecDepth 100000
section
variable {lo : Nat} {h h' : Hp} {t mb : Nat} {C : CC} {each all fine csn : Int} {Q : List Value → Hp → Prop}
theorem thgs_nd (hT : TabS lo h t mb C each all fine csn) (o : Int) : (thgs (mS C) o).Nodup := by
  unfold thgs
  rw [afind_amap]
  cases hf : afind C o with
  | none => simp
  | some c => exact hT.tnd o c hf
theorem Of_s (hT : TabS lo h t mb C each all fine csn) (o : Int) (hl : (thgs (mS C) o).length ≤ 2 ^ 28)
    (hQ : ∀ h' s, Ext [] h h' → Own T_siread_Thing 5 encT h.size h' s (sortC cmpT (thgs (mS C) o)) → Q [.slice s.a s.n s.c] h') : S_siread_Table_Of (some ⟨t, 0, none⟩) o h Q := by
  refine O_siread_Table_Of _ _ ?_
  delta F_siread_Table_Of rI rB rS rP rM rL vI vB vS vP vM vL vC vA ad nb gb wi bl bz tn isn sib pu oc
  rw [if_neg (by simp)]
  simp only [nilW_some]
  obtain ⟨es, h1, h2, h3⟩ := tab_has hT o
  refine ⟨some mb, by rw [addr_mk, rd_blk hT.blk]; rfl, es, h1, h2, _, h3, ?_⟩
  refine SortedT (tab_in hT o) (by unfold tU; simpa using hl) (by rw [tU_keys]; exact thgs_nd hT o) fun h' s e ho => hQ h' s e ?_
  rw [tU_keys] at ho
  exact ho
theorem nR_snoc (l : List ThingM) (x : ThingM) (r : Int) : nR (l ++ [x]) r = nR l r + if fineT x = true ∧ x.rel = r then 1 else 0 := by
  unfold nR
  rw [List.filter_append, List.length_append]
  by_cases h1 : fineT x = true <;> by_cases h2 : x.rel = r <;> simp [h1, h2]
theorem nR_perm {l l' : List ThingM} (hp : l.Perm l') (r : Int) : nR l r = nR l' r := by unfold nR; exact (hp.filter _).length_eq
theorem MapOr.toN {K V : Type} {ek : K → Value} {ev : V → Value} {h : Hp} {r : Option Nat} {T : List (K × V)} (hm : MapOr ek ev h r T) : MapN ek ev h r T := by
  cases r <;> exact hm
/-- A thing is put into a cell of its own and handed on. -/
theorem cellT {g : Hp} {x : ThingM} {K : Hp → Prop} {n22 : Int} {s23 : ByteArray} {n24 : Int} {s25 : ByteArray} {n26 : Int} (hk : ekT x = Value.agg #[(Value.int .i64 n22), (Value.string s23), (Value.int .i64 n24), (Value.string s25), (Value.int .i64 n26)])
    (H : ∀ g', Ext [] g g' → g'.size = g.size + 1 → Blk g' g.size (encT x).toArray T_siread_Thing → K g') :
    wth (Array.push g (Obj.cells #[(Value.int .i64 (0 : Int)), (Value.string (ByteArray.mk #[])), (Value.int .i64 (0 : Int)), (Value.string (ByteArray.mk #[])), (Value.int .i64 (0 : Int))] T_siread_Thing)) fun h28 =>
        stOk h28 (Addr.mk (Array.size g) 0 none) 5 ∧ wth (wrs h28 (Addr.mk (Array.size g) 0 none) 0 [(Value.int .i64 n22), (Value.string s23), (Value.int .i64 n24), (Value.string s25), (Value.int .i64 n26)]) K := by
  refine newI fun h1 s1 b1 e1 => ?_
  refine st_blk b1 (by simp) fun h2 s2 b2 e2 => ?_
  refine H h2 (e1.trans e2 fun b hb hlt => by simp at hb; omega) (by omega) ?_
  have e : (encT x).toArray = #[(Value.int .i64 n22), (Value.string s23), (Value.int .i64 n24), (Value.string s25), (Value.int .i64 n26)] := Value.agg.inj hk
  rw [e]
  exact b2
theorem count_s (hT : TabS lo h t mb C each all fine csn) (o r : Int) (hl : (thgs (mS C) o).length ≤ 2 ^ 28) (hQ : ∀ h', Ext [] h h' → Q [.int .i64 (nR (thgs (mS C) o) r : Nat)] h') : S_siread_Table_count (some ⟨t, 0, none⟩) o r h Q := by
  refine O_siread_Table_count _ _ _ ?_
  delta F_siread_Table_count rI rB rS rP rM rL vI vB vS vP vM vL vC vA ad nb gb wi bl bz tn isn sib pu oc
  simp only [nilW_some]
  obtain ⟨es, h1, h2, h3⟩ := tab_has hT o
  refine ⟨some mb, by rw [addr_mk, rd_blk hT.blk]; rfl, es, h1, h2, _, h3, ?_⟩
  have hin := (tab_in hT o).toN
  generalize thgs (mS C) o = l at hin hl hQ
  obtain ⟨io, hio, hR⟩ := rangeO_start (h := h) hin
  refine ⟨io, hio, newI fun h2 s2 b2 e2 => ?_⟩
  intro X hX
  refine rangeV (ek := ekT) (ev := evU) (T := tU l) (r := (afind C o).map CM.b) (A := Int) (va := fun n => [.int .i64 n]) hX (fun done a g => Ext [] h g ∧ h2.size ≤ g.size ∧ a = (nR (done.map Prod.fst) r : Nat)) ?_ ?_ h2 [] 0 ?_ (hR b2 e2)
  · rintro done a g ⟨eg, zg, rfl⟩ hp
    have := hQ g eg
    rw [← tU_keys l, ← nR_perm (hp.map Prod.fst) r] at this
    exact this
  · rintro done p a g e g' ⟨eg, zg, rfl⟩ ⟨rest, hp⟩ hk hv f1 u1 hr hnext
    have eg' : Ext [] h g' := eg.trans f1 (by intro b hb hlt; simp at hb; omega)
    refine ⟨_, _, _, _, _, hk, _, rfl, ?_⟩
    refine cellT (x := p.1) rfl fun g2 e3 z3 b3 => ?_
    intro J hJ
    have hcnt : (nR (done.map Prod.fst) r : Int) ≤ 2 ^ 28 := by
      have h1 : nR (done.map Prod.fst) r ≤ (done.map Prod.fst).length := List.length_filter_le _ _
      have h2 := hp.length_eq
      simp [tU] at h1 h2
      omega
    have key : ∀ g3, Ext [] g2 g3 → J [.bool (fineT p.1 && decide (p.1.rel = r))] g3 := by
      intro g3 e4
      refine hJ _ _ ?_
      have e5 := (e3.trans0 e4)
      have hr3 := hr.ext e5 (by simp) (by simp)
      have zz := e5.sz
      have hsn := nR_snoc (done.map Prod.fst) p.1 r
      by_cases hc : fineT p.1 = true ∧ p.1.rel = r
      · rw [if_pos hc] at hsn
        rw [if_pos (by simp [hc.1, hc.2])]
        refine hnext _ g3 ⟨eg'.trans0 e5, by omega, ?_⟩ hr3
        rw [List.map_append, List.map_cons, List.map_nil, hsn, wrap64 (by omega) (by omega)]
        omega
      · rw [if_neg hc] at hsn
        rw [if_neg (by simpa using hc)]
        refine hnext _ g3 ⟨eg'.trans0 e5, by omega, ?_⟩ hr3
        rw [List.map_append, List.map_cons, List.map_nil, hsn]
        omega
    refine rd5I b3 ?_
    refine fine_s p.1 fun g3 e4 => ⟨_, rfl, ?_⟩
    cases hf : fineT p.1 with
    | false =>
      rw [if_neg (by decide)]
      have := key g3 e4
      rw [hf, Bool.false_and] at this
      exact this
    | true =>
      rw [if_pos rfl]
      have b4 := e4.get b3 (by simp)
      refine ⟨p.1.rel, by rw [addr_mk, rd_blk b4]; rfl, ?_⟩
      have := key g3 e4
      rw [hf, Bool.true_and] at this
      have e : (p.1.rel == r) = decide (p.1.rel = r) := by rw [Bool.eq_iff_iff]; simp
      rw [e]
      exact this
  · exact ⟨e2, Nat.le_refl _, by simp [nR]⟩
end
end Go.Lift
namespace Go.Lift
open Go Go.Proofs Go.RowKit Go.Shelf
set_option maxRecDepth 100000
theorem bytesI : (8 : Nat) ≤ 1024 := by decide
theorem int_sort_ext {l l' : List Int} (hp : l.Perm l') : sortI l = sortI l' := by
  unfold sortI
  refine List.Perm.eq_of_pairwise (le := fun a b => (decide (a ≤ b)) = true) (fun a b _ _ h1 h2 => ?_) (List.pairwise_mergeSort (fun a b c h1 h2 => by simp at *; omega) (fun a b => by simp; omega) l) (List.pairwise_mergeSort (fun a b c h1 h2 => by simp at *; omega) (fun a b => by simp; omega) l') (((List.mergeSort_perm l _).trans hp).trans (List.mergeSort_perm l' _).symm)
  simp at h1 h2
  omega
theorem afind_of_mem {K V : Type} [DecidableEq K] {T : List (K × V)} (hn : (T.map Prod.fst).Nodup) {n : K} {q : V} (hm : (n, q) ∈ T) : afind T n = some q := by
  induction T with
  | nil => cases hm
  | cons p T ih =>
    obtain ⟨a, u⟩ := p
    rw [List.map_cons, List.nodup_cons] at hn
    simp only [afind]
    rcases List.mem_cons.1 hm with g | g
    · cases g; simp
    · have : n ≠ a := fun e => hn.1 (e ▸ List.mem_map.2 ⟨_, g, rfl⟩)
      rw [if_neg this]
      exact ih hn.2 g
section
variable {lo : Nat} {h h' : Hp} {t mb : Nat} {C : CC} {each all fine csn : Int} {Q : List Value → Hp → Prop}
/-- slices.Sort over a slice of one's own. -/
theorem SortI_s {T : TypeId} {l : Nat} {s : Sl} {xs : List Int} (ho : Own T 1 encIL l h s xs) (hl : xs.length ≤ 2 ^ 40)
    (hQ : ∀ h', Own T 1 encIL l h' s (sortI xs) → Ext (sBlk s) h h' → Q [] h') : S_slices_Sort_sint_int s h Q := by
  refine fn_of_calls Tryz.func123 (c := bodyOf Tryz.f123) (by kernel_rfl) (by kernel_rfl) ?_
  refine sort1_c (P := PP) (enc := encI) (fun n : Int => n) (fun l => l.mergeSort fun x y => decide (x ≤ y)) (fun l => List.length_mergeSort _)
    (fun blk off cap zs w h1 h2 h3 => AnyM.slices_Sort_int Tryz.sortI blk off cap zs w h1 h2 h3) (fun p cap w => AnyM.slices_Sort_int_none Tryz.sortI p cap w) (ys := sortI xs) ?_ ho hl fun h' o e => hQ h' o e
  rw [List.map_id', List.map_id']
  rfl
theorem owners_s (hT : TabS lo h t mb C each all fine csn) {f : Nat} {cs : Array Value} (p : ThingM → Bool) (hlen : C.length ≤ 2 ^ 28)
    (hf : ∀ (x : ThingM) (g : Hp) (K : List Value → Hp → Prop), Ext [] h g → (∀ g', Ext [] g g' → K [.bool (p x)] g') → Fn PP f ((#[] ++ #[ekT x]) ++ cs) g K)
    (hQ : ∀ h' s, Ext [] h h' → Own T_int 1 encIL h.size h' s (sortI (((mS C).filter fun e => e.2.any p).map Prod.fst)) → Q [.slice s.a s.n s.c] h') : S_siread_Table_owners (some ⟨t, 0, none⟩) f cs h Q := by
  refine O_siread_Table_owners _ _ _ ?_
  delta F_siread_Table_owners rI rB rS rP rM rL vI vB vS vP vM vL vC vA ad nb gb wi bl bz tn isn sib pu oc
  simp only [nilW_some]
  refine ⟨some mb, by rw [addr_mk, rd_blk hT.blk]; rfl, ?_⟩
  obtain ⟨io, hio, hR⟩ := rangeO_start (r := some mb) (h := h) (T := amap CM.b C) (ek := encI) (ev := evM) hT.outer
  refine ⟨io, hio, newI fun h2 s2 b2 e2 => ?_⟩
  intro X hX
  -- the owner's things, by its block
  have hlm := hT.outer.lt
  refine rangeV (ek := encI) (ev := evM) (T := amap CM.b C) (r := some mb) (A := Sl) (va := fun l => [.slice l.a l.n l.c]) hX
    (fun done l g => Ext [] h g ∧ h2.size ≤ g.size ∧ Own T_int 1 encIL h.size g l ((done.filter fun q => (thgs (mS C) q.1).any p).map Prod.fst) ∧ h.size ∉ sBlk l) ?_ ?_ h2 [] ⟨none, 0, 0⟩ ?_ (hR b2 e2)
  · rintro done l g ⟨eg, zg, ho, hnb⟩ hp
    have hpl := hp.length_eq
    rw [amap, List.length_map] at hpl
    have hfl : ((done.filter fun q => (thgs (mS C) q.1).any p).map Prod.fst).length ≤ done.length := by rw [List.length_map]; exact List.length_filter_le _ _
    refine SortI_s ho (by omega) fun g2 o2 e3 => ⟨rfl, hQ g2 l (eg.trans e3 fun b hb hlt => ?_) ?_⟩
    · obtain ⟨a, ha, e⟩ := mem_sBlk.1 hb
      obtain ⟨b', c, h1, h2, _⟩ := ho.2.2 a ha
      rw [h1] at e
      simp only at e
      omega
    · have : sortI ((done.filter fun q => (thgs (mS C) q.1).any p).map Prod.fst) = sortI (((mS C).filter fun e => e.2.any p).map Prod.fst) := by
        refine int_sort_ext ?_
        have h1 : (((amap CM.b C).filter fun q => (thgs (mS C) q.1).any p).map Prod.fst) = (((mS C).filter fun e => e.2.any p).map Prod.fst) := by
          obtain ⟨G, hG'⟩ : ∃ G : Int → Bool, ∀ o, G o = (thgs (mS C) o).any p := ⟨_, fun _ => rfl⟩
          rw [show (fun q : Int × Nat => (thgs (mS C) q.1).any p) = fun q => G q.1 from funext fun q => (hG' _).symm]
          simp only [amap, List.filter_map, List.map_map]
          have : (List.filter ((fun q : Int × Nat => G q.1) ∘ fun q => (q.1, q.2.b)) C) = List.filter ((fun e : Int × List ThingM => e.2.any p) ∘ fun q => (q.1, q.2.l)) C := by
            refine List.filter_congr fun q hq => ?_
            have hf := afind_of_mem hT.nd hq
            simp only [Function.comp_def]
            rw [hG', thgs_some (l := q.2.l) (by rw [afind_amap, hf]; rfl)]
          have e2 := congrArg (List.map Prod.fst) this
          simpa [Function.comp_def] using e2
        rw [← h1]
        exact (hp.filter _).map _
      rw [← this]
      exact o2
  · rintro done q l g e g' ⟨eg, zg, ho, hnb⟩ ⟨rest, hp⟩ hk hv f1 u1 hr hnext
    have eg' : Ext [] h g' := eg.trans f1 (by intro b hb hlt; simp at hb; omega)
    have hpm : q ∈ amap CM.b C := hp.mem_iff.1 (by simp)
    have hpl := hp.length_eq
    have hal : (amap CM.b C).length = C.length := by simp [amap]
    simp only [List.length_append, List.length_cons, List.length_nil] at hpl
    obtain ⟨⟨o, c⟩, hc, rfl⟩ := List.mem_map.1 hpm
    have hf' : afind C o = some c := afind_of_mem hT.nd hc
    have hth : thgs (mS C) o = c.l := thgs_some (by rw [afind_amap, hf']; rfl)
    have hino := hT.inner o c hf'
    have hlc := hino.lt
    have ho' : Own T_int 1 encIL h.size g' l ((done.filter fun q => (thgs (mS C) q.1).any p).map Prod.fst) := by
      refine ho.ext f1 fun a ha hb => hnb ?_
      simp at hb
      exact mem_sBlk.2 ⟨a, ha, hb⟩
    refine ⟨o, hk, _, hv, ?_⟩
    obtain ⟨jo, hjo, hR2⟩ := rangeO_start (r := some c.b) (ek := ekT) (ev := evU) (h := g') (T := tU c.l) (hino.ext eg' (by simp))
    refine ⟨jo, hjo, newI fun h5 s5 b5 e5 => ?_⟩
    intro Y hY
    refine rangeV (ek := ekT) (ev := evU) (T := tU c.l) (r := some c.b) (A := Unit) (va := fun _ => [.slice l.a l.n l.c]) (fun _ => hY l)
      (fun dn _ k => Ext [] g' k ∧ h5.size ≤ k.size ∧ ∀ z ∈ dn, p z.1 = false) ?_ ?_ h5 [] () ?_ (hR2 b5 e5)
    · rintro dn - k ⟨ek, zk, hno⟩ hpn
      refine hnext l k ⟨eg'.trans0 ek, by omega, ?_, hnb⟩ (hr.ext ek (by simp) (by simp))
      have hany : (thgs (mS C) o).any p = false := by
        rw [hth, List.any_eq_false]
        intro x hx
        have hxm : (x, ()) ∈ dn := hpn.mem_iff.2 (List.mem_map.2 ⟨x, hx, rfl⟩)
        simp [hno _ hxm]
      rw [List.filter_append, List.map_append]
      simp only [List.filter_cons, hany, Bool.false_eq_true, if_false, List.filter_nil, List.map_nil, List.append_nil]
      exact ho'.ext0 ek
    · rintro dn z - k e2 k' ⟨ek, zk, hno⟩ ⟨rest2, hp2⟩ hk2 hv2 f2 u2 hr2 hnext2
      have ek' : Ext [] g' k' := ek.trans f2 (by intro b hb hlt; simp at hb; omega)
      refine ⟨_, _, _, _, _, hk2, _, rfl, ?_⟩
      refine cellT (x := z.1) rfl fun k2 e3 z3 b3 => ?_
      refine rd5I b3 ?_
      refine hf z.1 k2 _ ((eg'.trans0 ek').trans0 e3) fun k3 e4 => ⟨_, rfl, ?_⟩
      have e34 := e3.trans0 e4
      have zz := e34.sz
      cases hz : p z.1 with
      | false =>
        rw [if_neg (by decide)]
        refine hnext2 () k3 ⟨ek'.trans0 e34, by omega, fun y hy => ?_⟩ (hr2.ext e34 (by simp) (by simp))
        rcases List.mem_append.1 hy with hy | hy
        · exact hno y hy
        · simp at hy
          rw [hy]
          exact hz
      | true =>
        rw [if_pos rfl]
        have ek3 := ek'.trans0 e34
        refine newI fun k4 s4 b4 e5' => ?_
        have ho4 := (ho'.ext0 ek3).ext0 e5'
        have hfl : ((done.filter fun q => (thgs (mS C) q.1).any p).map Prod.fst).length ≤ done.length := by rw [List.length_map]; exact List.length_filter_le _ _
        refine oneG encIL_len encIL_one zc_int bytesI (k := o) ho4 b4 (by omega) (by omega) fun l' k5 ho5 e6 hb6 => ?_
        have hany : (thgs (mS C) o).any p = true := by
          rw [hth, List.any_eq_true]
          have hzm : z ∈ tU c.l := hp2.mem_iff.1 (by simp)
          obtain ⟨x, hx, rfl⟩ := List.mem_map.1 hzm
          exact ⟨x, hx, hz⟩
        have e7 := ek3.trans0 e5'
        have hsl := own_ltG ho4
        refine hnext l' k5 ⟨?_, ?_, ?_, ?_⟩ ?_
        · exact (eg'.trans0 e7).trans e6 fun b hb hlt => by have := hsl b hb; omega
        · have := e6.sz; have := e7.sz; omega
        · rw [List.filter_append, List.map_append]
          simp only [List.filter_cons, hany, if_true, List.filter_nil, List.map_cons, List.map_nil]
          exact ho5
        · intro hb
          rcases hb6 _ hb with hb | hb
          · exact hnb hb
          · have := e7.sz; omega
        · refine (hr.ext e7 (by simp) (by simp)).ext e6 hnb fun m hm hb => ?_
          cases hm
          have := hsl _ hb
          omega
    · exact ⟨e5, Nat.le_refl _, by simp⟩
  · exact ⟨e2, Nat.le_refl _, Own.nil _ _, by simp [sBlk]⟩
end
end Go.Lift
namespace Go.Lift
open Go Go.Proofs Go.RowKit Go.Shelf
set_option maxRecDepth 100000
theorem aput_same {K V : Type} [DecidableEq K] {T : List (K × V)} {k : K} {v : V} (h : afind T k = some v) : aput T k v = T := by
  induction T with
  | nil => cases h
  | cons p T ih =>
    obtain ⟨a, u⟩ := p
    simp only [afind] at h
    simp only [aput]
    by_cases e : k = a
    · subst e
      simp only [if_true] at h ⊢
      cases h
      rfl
    · rw [if_neg e] at h ⊢
      rw [ih h]
theorem aput_aput {K V : Type} [DecidableEq K] (T : List (K × V)) (k : K) (v w : V) : aput (aput T k v) k w = aput T k w := by
  induction T with
  | nil => simp [aput]
  | cons p T ih =>
    obtain ⟨a, u⟩ := p
    simp only [aput]
    by_cases e : k = a
    · simp [e, aput]
    · simp only [if_neg e, aput, ih]

/-- A loop that counts. -/
theorem loopI {X : List Value → Hp → Prop} (n : Nat) (I : Nat → Hp → Prop) (hend : ∀ g, I n g → X [.int .i64 (n : Int)] g)
    (hstep : ∀ i g, i < n → I i g → (∀ g', I (i + 1) g' → X [.int .i64 ((i + 1 : Nat) : Int)] g') → X [.int .i64 (i : Int)] g) (g : Hp) (h0 : I 0 g) : X [.int .i64 (0 : Int)] g := by
  have key : ∀ d i g, d + i = n → I i g → X [.int .i64 (i : Int)] g := by
    intro d
    induction d with
    | zero =>
      intro i g hi hI
      have : i = n := by omega
      subst this
      exact hend g hI
    | succ d ih =>
      intro i g hi hI
      exact hstep i g (by omega) hI fun g' hI' => ih (i + 1) g' (by omega) hI'
  exact key n 0 g (by omega) h0
section
variable {lo : Nat} {h h' : Hp} {t mb : Nat} {C : CC} {each all fine csn : Int} {Q : List Value → Hp → Prop}
/-- An owner's map is another one. -/
theorem TabS.setIn {o : Int} {c : CM} {S : List Nat} (hT : TabS lo h t mb C each all fine csn) (hf : afind C o = some c) (he : Ext S h h') (hS : ∀ b ∈ S, b < h.size → b = c.b) {l : List ThingM} (hm : IsMap ekT evU h' c.b (tU l)) (hl : l.Nodup) : TabS lo h' t mb (aput C o ⟨c.b, l⟩) each all fine csn := by
  have hne := hT.t_ne
  have hg : ∀ b, b < h.size → b ≠ c.b → b ∉ S := fun b h1 h2 h3 => h2 (hS b h3 h1)
  have hfa : ∀ o', afind (aput C o ⟨c.b, l⟩) o' = if o' = o then some ⟨c.b, l⟩ else afind C o' := fun o' => afind_aput _ _ _ _
  refine ⟨he.get hT.blk (hg _ (blk_lt hT.blk) (hne.2 o c hf).symm), ?_, aput_nodup hT.nd _ _, fun o' c' hf' => ?_, fun o' c' hf' => ?_, fun o' c' hf' => ?_, fun o1 o2 c1 c2 hf1 hf2 hn => ?_, fun o' c' hf' => ?_, hT.lot, hT.lom⟩
  · rw [← aput_amap, aput_same (by rw [afind_amap, hf]; rfl)]
    exact hT.outer.ext he (hg _ hT.outer.lt (hT.smb o c hf).symm)
  · rw [hfa] at hf'
    split at hf'
    · cases hf'; exact hm
    · rename_i hno
      exact (hT.inner o' c' hf').ext he (hg _ (hT.inner o' c' hf').lt (hT.sep o' o c' c hf' hf hno))
  · rw [hfa] at hf'
    split at hf'
    · cases hf'; exact hl
    · exact hT.tnd o' c' hf'
  · rw [hfa] at hf'
    split at hf'
    · cases hf'; exact hT.lob o c hf
    · exact hT.lob o' c' hf'
  · rw [hfa] at hf1 hf2
    split at hf1 <;> split at hf2
    · omega
    · cases hf1; rename_i q1 q2; exact hT.sep o o2 c c2 hf hf2 (fun e => q2 e.symm)
    · cases hf2; rename_i q1 q2; exact hT.sep o1 o c1 c hf1 hf q1
    · exact hT.sep o1 o2 c1 c2 hf1 hf2 hn
  · rw [hfa] at hf'
    split at hf'
    · cases hf'; exact hT.smb o c hf
    · exact hT.smb o' c' hf'
/-- The table's own block is another one. -/
theorem TabS.setT {e' a' f' c' : Int} (hT : TabS lo h t mb C each all fine csn) (hb : Blk h' t #[.int .i64 e', .int .i64 a', .map (some mb), .int .i64 f', .int .i64 c'] T_siread_Table) (he : Ext [t] h h') : TabS lo h' t mb C e' a' f' c' := by
  have hne := hT.t_ne
  exact ⟨hb, hT.outer.ext he (by simp; exact hne.1), hT.nd, fun o c hf => (hT.inner o c hf).ext he (by simp; exact hne.2 o c hf), hT.tnd, hT.lob, hT.sep, hT.smb, hT.lot, hT.lom⟩
def fb (C : CC) (o : Int) : List Nat := match afind C o with | none => [] | some c => [c.b]
def loseC (C : CC) (o : Int) (p : ThingM → Bool) : CC := match afind C o with | none => C | some c => aput C o ⟨c.b, c.l.filter fun x => !p x⟩
theorem sort_cut {l : List ThingM} {p : ThingM → Bool} {x : ThingM} {i : Nat} (hl : l.Nodup) (hi : i < (sortC cmpT l).length) (hx : (sortC cmpT l)[i] = x) :
    (p x = true → l.filter (fun y => !(decide (y ∈ (sortC cmpT l).take (i + 1)) && p y)) = (l.filter fun y => !(decide (y ∈ (sortC cmpT l).take i) && p y)).erase x ∧ x ∈ l.filter fun y => !(decide (y ∈ (sortC cmpT l).take i) && p y)) ∧
    (p x = false → l.filter (fun y => !(decide (y ∈ (sortC cmpT l).take (i + 1)) && p y)) = l.filter fun y => !(decide (y ∈ (sortC cmpT l).take i) && p y)) := by
  have hsn : (sortC cmpT l).Nodup := sortC_perm.nodup_iff.2 hl
  have htk : (sortC cmpT l).take (i + 1) = (sortC cmpT l).take i ++ [x] := by rw [List.take_add_one, List.getElem?_eq_getElem hi, hx]; rfl
  have hnx : x ∉ (sortC cmpT l).take i := by
    have h1 := List.Nodup.sublist (List.take_sublist (i + 1) _) hsn
    rw [htk, List.nodup_append] at h1
    intro hm
    exact h1.2.2 x hm x (by simp) rfl
  have hxl : x ∈ l := sortC_mem.1 (by rw [← hx]; exact List.getElem_mem hi)
  constructor
  · intro hp
    constructor
    · rw [List.Nodup.erase_eq_filter (hl.filter _), List.filter_filter]
      refine List.filter_congr fun y hy => ?_
      rw [htk]
      by_cases e : y = x
      · subst e; simp [hp]
      · simp [e]
    · rw [List.mem_filter]
      exact ⟨hxl, by simp [hnx]⟩
  · intro hp
    refine List.filter_congr fun y hy => ?_
    rw [htk]
    by_cases e : y = x
    · subst e; simp [hp]
    · simp [e]
theorem lose_s (hT : TabS lo h t mb C each all fine csn) (o : Int) (hl : (thgs (mS C) o).length ≤ 2 ^ 28) (hfi : (nF (thgs (mS C) o) : Int) ≤ fine ∧ fine ≤ 2 ^ 40) {f : Nat} {cs : Array Value} (p : ThingM → Bool)
    (hf : ∀ (x : ThingM) (g : Hp) (K : List Value → Hp → Prop), Ext (t :: fb C o) h g → (∀ g', Ext [] g g' → K [.bool (p x)] g') → Fn PP f ((#[] ++ #[ekT x]) ++ cs) g K)
    (hQ : ∀ h', TabS lo h' t mb (loseC C o p) each all (fine - (nF ((thgs (mS C) o).filter p) : Int)) csn → Ext (t :: fb C o) h h' → Q [] h') : S_siread_Table_lose (some ⟨t, 0, none⟩) o f cs h Q := by
  refine O_siread_Table_lose _ _ _ _ ?_
  delta F_siread_Table_lose rI rB rS rP rM rL vI vB vS vP vM vL vC vA ad nb gb wi bl bz tn isn sib pu oc
  refine Of_s hT o hl fun h2 s e2 ho => ⟨s, rfl, ?_⟩
  have hT2 := hT.ext0 e2
  intro X hX
  simp only [nilW_some] at hX
  cases hc : afind C o with
  | none =>
    have hth : thgs (mS C) o = [] := thgs_none (by rw [afind_amap, hc]; rfl)
    rw [hth] at ho hQ
    have hn := ho.1
    rw [sortC_len] at hn
    refine hX _ _ ?_
    rw [if_neg (by simp [hn])]
    refine hQ h2 ?_ (e2.mono (by simp))
    unfold loseC
    rw [hc]
    simpa [nF] using hT2
  | some c =>
    have hth : thgs (mS C) o = c.l := thgs_some (by rw [afind_amap, hc]; rfl)
    have hfb : fb C o = [c.b] := by unfold fb; rw [hc]
    rw [hth] at ho hQ hl hfi
    rw [hfb] at hf hQ
    have hcn := hT.tnd o c hc
    have hlt := hT.lt (Or.inl rfl)
    have hltc := hT.lt (Or.inr (Or.inr ⟨o, c, hc, rfl⟩))
    have hne := hT.t_ne
    have hsl : (sortC cmpT c.l).length = c.l.length := sortC_len
    generalize hK : (fun i : Nat => c.l.filter fun y => !(decide (y ∈ (sortC cmpT c.l).take i) && p y)) = Ki
    have hKi : ∀ i, Ki i = c.l.filter fun y => !(decide (y ∈ (sortC cmpT c.l).take i) && p y) := fun i => by rw [← hK]
    have hn := ho.1
    refine loopI s.n (fun i g => Ext (t :: [c.b]) h g ∧ h2.size ≤ g.size ∧ Own T_siread_Thing 5 encT h.size g s (sortC cmpT c.l) ∧ TabS lo g t mb (aput C o ⟨c.b, Ki i⟩) each all (fine - (nF (((sortC cmpT c.l).take i).filter p) : Int)) csn) ?_ ?_ h2 ?_
    · rintro g ⟨eg, zg, hog, hTg⟩
      refine hX _ _ ?_
      rw [if_neg (by simp)]
      refine hQ g ?_ eg
      rw [List.take_of_length_le (by omega)] at hTg
      have h1 : nF ((sortC cmpT c.l).filter p) = nF (c.l.filter p) := by
        unfold nF
        exact ((sortC_perm.filter _).filter _).length_eq
      have h2 : Ki s.n = c.l.filter fun x => !p x := by
        rw [hKi]
        refine List.filter_congr fun y hy => ?_
        rw [List.take_of_length_le (by omega)]
        have : y ∈ sortC cmpT c.l := sortC_mem.2 hy
        simp [this]
      rw [h1, h2] at hTg
      unfold loseC
      rw [hc]
      exact hTg
    · rintro i g hi ⟨eg, zg, hog, hTg⟩ hnext
      have hi' : i < (sortC cmpT c.l).length := by omega
      refine hX _ _ ?_
      rw [if_pos (by simpa using hi)]
      intro J hJ
      obtain ⟨a, ha, hrd⟩ := rdT hog.sl.reads hi'
      rw [ha]
      simp only [nilW_some]
      refine ⟨by omega, by omega, ?_⟩
      obtain ⟨x, hx⟩ : ∃ x, (sortC cmpT c.l)[i] = x := ⟨_, rfl⟩
      rw [hx] at hrd
      obtain ⟨cut1, cut2⟩ := sort_cut (p := p) hcn hi' hx
      rw [← hKi, ← hKi] at cut1 cut2
      have htk : (sortC cmpT c.l).take (i + 1) = (sortC cmpT c.l).take i ++ [x] := by rw [List.take_add_one, List.getElem?_eq_getElem hi', hx]; rfl
      rw [Int.toNat_natCast]
      refine hrd _ ?_
      refine cellT (x := x) rfl fun g2 e3 z3 b3 => ?_
      refine rd5I b3 ?_
      refine hf x g2 _ (eg.trans0 e3) fun g3 e4 => ⟨_, rfl, ?_⟩
      have e34 := e3.trans0 e4
      have b4 := e4.get b3 (by simp)
      have hT3 := hTg.ext0 e34
      have ho3 := hog.ext0 e34
      have z34 := e34.sz
      have hsmall : ∀ l : List ThingM, l.length ≤ 2 ^ 28 → (nF l : Int) ≤ 2 ^ 28 := fun l hl => by have := nF_le l; omega
      have step : ∀ g', TabS lo g' t mb (aput C o ⟨c.b, Ki (i + 1)⟩) each all (fine - (nF (((sortC cmpT c.l).take (i + 1)).filter p) : Int)) csn → Ext [t, c.b] g3 g' → J [] g' := by
        intro g' hT' e5
        refine hJ g' ?_
        rw [wrap64 (by omega) (by omega)]
        have z5 := e5.sz
        refine hnext g' ⟨(eg.trans0 e34).trans e5 fun b hb _ => hb, by omega, ?_, hT'⟩
        refine ho3.ext e5 fun a ha hb => ?_
        have := own_ltG hog a.block (mem_sBlk.2 ⟨a, ha, rfl⟩)
        simp at hb
        omega
      cases hpx : p x with
      | false =>
        rw [if_neg (by decide)]
        refine step g3 ?_ (Ext.refl _ _)
        rw [cut2 hpx, htk, List.filter_append, nF_app]
        simpa [hpx, nF] using hT3
      | true =>
        rw [if_pos rfl]
        obtain ⟨es, m1, m2, m3⟩ := tab_has hT3 o
        refine ⟨some mb, by rw [addr_mk, rd_blk hT3.blk]; rfl, es, m1, m2, _, m3, ?_⟩
        refine rd5I b4 ?_
        rw [afind_aput, if_pos rfl]
        have hin := hT3.inner o ⟨c.b, Ki i⟩ (by rw [afind_aput, if_pos rfl])
        obtain ⟨es2, cl, n1, n2, n3⟩ := hin.del x
        refine ⟨c.b, es2, cl, rfl, n1, n2, setI n1 fun g5 s5 b5 e5 => ?_⟩
        have hm5 := n3 g5 b5
        rw [adel_tU, ← (cut1 hpx).1] at hm5
        have hT5 := hT3.setIn (by rw [afind_aput, if_pos rfl]) e5 (by simp) hm5 (by rw [hKi]; exact hcn.filter _)
        rw [aput_aput] at hT5
        have hbt : g.size ≠ c.b := by have := eg.sz; omega
        have b5' := e5.get b4 (by simp; exact hbt)
        refine rd5I b5' ?_
        refine fine_s x fun g6 e6 => ⟨_, rfl, ?_⟩
        have hT6 := hT5.ext0 e6
        rw [htk, List.filter_append, nF_app] at step
        cases hfx : fineT x with
        | false =>
          rw [if_neg (by decide)]
          refine step g6 ?_ ((e5.mono (by intro b hb _; simp at hb; simp [hb])).trans0 e6)
          simpa [hpx, nF, hfx] using hT6
        | true =>
          rw [if_pos rfl]
          refine ⟨_, by rw [addr_mk, rd_blk hT6.blk]; rfl, ?_⟩
          rw [addr_mk]
          refine st_blk hT6.blk (by simp) fun g7 s7 b7 e7 => ?_
          refine step g7 ?_ (((e5.mono (S' := [t, c.b]) (by intro b hb _; simp at hb; simp [hb])).trans0 e6).trans e7 (by intro b hb _; simp at hb; simp [hb]))
          have hnf1 : nF (List.filter p [x]) = 1 := by simp [hpx, nF, hfx]
          rw [hnf1]
          have hle : nF (((sortC cmpT c.l).take (i + 1)).filter p) ≤ nF (c.l) := by
            have h1 : nF ((sortC cmpT c.l).filter p) ≤ nF (sortC cmpT c.l) := by unfold nF; exact (List.Sublist.filter _ List.filter_sublist).length_le
            have h2 : nF (sortC cmpT c.l) = nF c.l := by unfold nF; exact (sortC_perm.filter _).length_eq
            have h3 : nF (((sortC cmpT c.l).take (i + 1)).filter p) ≤ nF ((sortC cmpT c.l).filter p) := by unfold nF; exact (List.Sublist.filter _ (List.Sublist.filter _ (List.take_sublist _ _))).length_le
            omega
          rw [htk, List.filter_append, nF_app, hnf1] at hle
          have hw : IntKind.wrap .i64 (fine - (nF (((sortC cmpT c.l).take i).filter p) : Int) - 1) = fine - ((nF (((sortC cmpT c.l).take i).filter p) + 1 : Nat) : Int) := by
            rw [wrap64 (by omega) (by omega)]
            omega
          rw [← hw]
          exact hT6.setT b7 e7
    · have hT2' := hT2
      refine ⟨e2.mono (by simp), Nat.le_refl _, ho, ?_⟩
      have hK0 : Ki 0 = c.l := by rw [hKi]; simp
      rw [hK0, aput_same hc]
      simpa [nF] using hT2
end
end Go.Lift
namespace Go.Lift
open Go Go.Proofs Go.RowKit Go.Shelf
set_option maxRecDepth 100000
/-- The blocks of G are as they were. -/
structure KG (G : Nat → Prop) (h h' : Hp) : Prop where
  sz : h.size ≤ h'.size
  old : ∀ b, G b → h'[b]? = h[b]?
def GX (G : Nat → Prop) (h h' : Hp) : Nat → Prop := fun b => G b ∨ (h.size ≤ b ∧ b < h'.size)
def Sv (G : Nat → Prop) (h : Hp) (t : Nat) (S : SM) : Prop := (∀ b, G b → b < h.size) ∧ ∃ mb C, TabS 0 h t mb C S.each S.all S.fine S.csn ∧ mS C = S.m ∧ ∀ b, FS t mb C b → ¬ G b
/-- .. and this is an owner's map. -/
def SvO (G : Nat → Prop) (h : Hp) (t : Nat) (S : SM) (o : Int) (m : Nat) : Prop := (∀ b, G b → b < h.size) ∧ ∃ mb C, TabS 0 h t mb C S.each S.all S.fine S.csn ∧ mS C = S.m ∧ (∀ b, FS t mb C b → ¬ G b) ∧ ∃ c, afind C o = some c ∧ c.b = m
section
variable {G G' : Nat → Prop} {h h' h'' : Hp} {t m : Nat} {S : SM} {o : Int} {Q : List Value → Hp → Prop}
theorem KG.refl (G : Nat → Prop) (h : Hp) : KG G h h := ⟨Nat.le_refl _, fun _ _ => rfl⟩
theorem KG.trans (h1 : KG G h h') (h2 : KG G h' h'') : KG G h h'' := ⟨Nat.le_trans h1.sz h2.sz, fun b hb => by rw [h2.old b hb, h1.old b hb]⟩
theorem KG.anti (h1 : KG G h h') (hs : ∀ b, G' b → G b) : KG G' h h' := ⟨h1.sz, fun b hb => h1.old b (hs b hb)⟩
theorem KG.get (h1 : KG G h h') {b : Nat} {o : Obj} (hb : h[b]? = some o) (hG : G b) : h'[b]? = some o := by rw [h1.old b hG, hb]
theorem kg_ext {L : List Nat} (he : Ext L h h') (hG : ∀ b, G b → b < h.size) (hL : ∀ b ∈ L, ¬ G b) : KG G h h' := ⟨he.sz, fun b hb => he.old b (hG b hb) fun hm => hL b hm hb⟩
theorem kg_ext0 (he : Ext [] h h') (hG : ∀ b, G b → b < h.size) : KG G h h' := kg_ext he hG (by simp)
theorem Sv.anti (hS : Sv G h t S) (hs : ∀ b, G' b → G b) : Sv G' h t S := by
  obtain ⟨h1, mb, C, h2, h3, h4⟩ := hS
  exact ⟨fun b hb => h1 b (hs b hb), mb, C, h2, h3, fun b hb hg => h4 b hb (hs b hg)⟩
theorem SvO.sv (hS : SvO G h t S o m) : Sv G h t S := by
  obtain ⟨h1, mb, C, h2, h3, h4, _⟩ := hS
  exact ⟨h1, mb, C, h2, h3, h4⟩
theorem Sv.ext0 (hS : Sv G h t S) (he : Ext [] h h') : Sv G h' t S := by
  obtain ⟨h1, mb, C, h2, h3, h4⟩ := hS
  have := he.sz
  exact ⟨fun b hb => by have := h1 b hb; omega, mb, C, h2.ext0 he, h3, h4⟩
theorem SvO.ext0 (hS : SvO G h t S o m) (he : Ext [] h h') : SvO G h' t S o m := by
  obtain ⟨h1, mb, C, h2, h3, h4, h5⟩ := hS
  have := he.sz
  exact ⟨fun b hb => by have := h1 b hb; omega, mb, C, h2.ext0 he, h3, h4, h5⟩
theorem Sv.more (hS : Sv G h t S) (he : Ext [] h h') : Sv (GX G h h') h' t S := by
  obtain ⟨h1, mb, C, h2, h3, h4⟩ := hS
  have hz := he.sz
  refine ⟨fun b hb => ?_, mb, C, h2.ext0 he, h3, fun b hb hg => ?_⟩
  · rcases hb with hb | hb
    · have := h1 b hb; omega
    · exact hb.2
  · rcases hg with hg | hg
    · exact h4 b hb hg
    · have := (h2.lt hb).2; omega
/-- The list apart from G. -/
theorem Sv.outL {mb : Nat} {C : CC} (h4 : ∀ b, FS t mb C b → ¬ G b) (o : Int) : ∀ b ∈ t :: fb C o, ¬ G b := by
  intro b hb
  rcases List.mem_cons.1 hb with rfl | hb
  · exact h4 _ (Or.inl rfl)
  · unfold fb at hb
    split at hb
    · cases hb
    · rename_i c hc
      simp at hb
      exact h4 b (Or.inr (Or.inr ⟨o, c, hc, hb⟩))
/-- Reading an owner's entry. -/
theorem Sv.has (hS : Sv G h t S) (o : Int) : ∃ mb, rd h (Addr.add ⟨t, 0, none⟩ 2) = some (.map (some mb)) ∧ ∃ es r, mapAt h (some mb) es ∧ KeysLike (.int .i64 o) es ∧ mgetD (.int .i64 o) es (.map none) = .map r ∧ MapOr ekT evU h r (tU (thgs S.m o)) ∧
    ((r = none ∧ afind S.m o = none) ∨ ∃ m, r = some m ∧ SvO G h t S o m) := by
  obtain ⟨h1, mb, C, h2, h3, h4⟩ := hS
  obtain ⟨es, m1, m2, m3⟩ := tab_has h2 o
  refine ⟨mb, by rw [addr_mk, rd_blk h2.blk]; rfl, es, _, m1, m2, m3, ?_, ?_⟩
  · rw [← h3]; exact tab_in h2 o
  · cases hf : afind C o with
    | none => exact Or.inl ⟨rfl, by rw [← h3, afind_amap, hf]; rfl⟩
    | some c => exact Or.inr ⟨c.b, rfl, h1, mb, C, h2, h3, h4, c, hf, rfl⟩
theorem SvO.has (hS : SvO G h t S o m) : ∃ mb, rd h (Addr.add ⟨t, 0, none⟩ 2) = some (.map (some mb)) ∧ ∃ es, mapAt h (some mb) es ∧ KeysLike (.int .i64 o) es ∧ mgetD (.int .i64 o) es (.map none) = .map (some m) := by
  obtain ⟨h1, mb, C, h2, h3, h4, c, hc, rfl⟩ := hS
  obtain ⟨es, m1, m2, m3⟩ := tab_has h2 o
  rw [hc] at m3
  exact ⟨mb, by rw [addr_mk, rd_blk h2.blk]; rfl, es, m1, m2, m3⟩
theorem SvO.inn (hS : SvO G h t S o m) : IsMap ekT evU h m (tU (thgs S.m o)) ∧ afind S.m o = some (thgs S.m o) := by
  obtain ⟨h1, mb, C, h2, h3, h4, c, hc, rfl⟩ := hS
  have e : afind S.m o = some c.l := by rw [← h3, afind_amap, hc]; rfl
  rw [thgs_some e]
  exact ⟨h2.inner o c hc, e⟩
theorem Sv.fld (hS : Sv G h t S) : rd h (Addr.add ⟨t, 0, none⟩ 0) = some (.int .i64 S.each) ∧ rd h (Addr.add ⟨t, 0, none⟩ 1) = some (.int .i64 S.all) ∧ rd h (Addr.add ⟨t, 0, none⟩ 3) = some (.int .i64 S.fine) ∧ rd h (Addr.add ⟨t, 0, none⟩ 4) = some (.int .i64 S.csn) := by
  obtain ⟨h1, mb, C, h2, h3, h4⟩ := hS
  refine ⟨?_, ?_, ?_, ?_⟩ <;> (rw [addr_mk, rd_blk h2.blk]; rfl)
def putS (S : SM) (o : Int) (x : ThingM) : SM := if x ∈ thgs S.m o then S else addS S o x 0
theorem SvO.put (hS : SvO G h t S o m) (hnd : (thgs S.m o).Nodup) (x : ThingM) : ∃ es c, h[m]? = some (.map es c) ∧ KeysLike (ekT x) es ∧ ∀ h1 : Hp, Ext [m] h h1 → h1[m]? = some (mput (ekT x) (evU ()) es c) → SvO G h1 t (putS S o x) o m ∧ KG G h h1 := by
  have hin := hS.inn
  obtain ⟨es, c, p1, p2, p3⟩ := hin.1.put x ()
  refine ⟨es, c, p1, p2, fun h1 he hb => ?_⟩
  have hm := p3 h1 hb
  rw [aput_tU] at hm
  obtain ⟨g1, mb, C, g2, g3, g4, c', hc, rfl⟩ := hS
  have hz := he.sz
  have hkg : KG G h h1 := kg_ext he g1 fun b hb => by
    simp at hb
    subst hb
    exact g4 _ (Or.inr (Or.inr ⟨o, c', hc, rfl⟩))
  refine ⟨⟨fun b hb => by have := g1 b hb; omega, mb, aput C o ⟨c'.b, if x ∈ thgs S.m o then thgs S.m o else thgs S.m o ++ [x]⟩, ?_, ?_, ?_, ⟨c'.b, if x ∈ thgs S.m o then thgs S.m o else thgs S.m o ++ [x]⟩, by rw [afind_aput, if_pos rfl], rfl⟩, hkg⟩
  · have := g2.setIn hc he (by intro b hb _; simpa using hb) hm (by
      split
      · exact hnd
      · rename_i hx
        rw [List.nodup_append]
        exact ⟨hnd, by simp, fun a ha b hb e => by simp at hb; subst hb; subst e; exact hx ha⟩)
    have hfl : (putS S o x).each = S.each ∧ (putS S o x).all = S.all ∧ (putS S o x).fine = S.fine ∧ (putS S o x).csn = S.csn := by
      unfold putS
      split <;> simp [addS]
    rw [hfl.1, hfl.2.1, hfl.2.2.1, hfl.2.2.2]
    exact this
  · show amap CM.l (aput C o _) = _
    rw [← aput_amap, show amap CM.l C = S.m from g3]
    unfold putS
    split
    · rename_i hx
      simp only
      exact aput_same hin.2
    · rfl
  · intro b hb
    rcases hb with hb | hb | ⟨o', c2, hc2, rfl⟩
    · exact g4 b (Or.inl hb)
    · exact g4 b (Or.inr (Or.inl hb))
    · rw [afind_aput] at hc2
      split at hc2
      · cases hc2; exact g4 _ (Or.inr (Or.inr ⟨o, c', hc, rfl⟩))
      · exact g4 _ (Or.inr (Or.inr ⟨o', c2, hc2, rfl⟩))
theorem SvO.setFine (hS : SvO G h t S o m) (f : Int) {K : Hp → Prop} (H : ∀ h', SvO G h' t { S with fine := f } o m → KG G h h' → K h') :
    stOk h (Addr.add ⟨t, 0, none⟩ 3) 1 ∧ wth (wrs h (Addr.add ⟨t, 0, none⟩ 3) 0 [.int .i64 f]) K := by
  obtain ⟨g1, mb, C, g2, g3, g4, g5⟩ := hS
  rw [addr_mk]
  refine st_blk g2.blk (by simp) fun h1 s1 b1 e1 => H h1 ⟨fun b hb => by have := g1 b hb; omega, mb, C, g2.setT b1 e1, g3, g4, g5⟩ (kg_ext e1 g1 fun b hb => ?_)
  simp at hb
  subst hb
  exact g4 _ (Or.inl rfl)
theorem fs_lose {mb : Nat} {C : CC} {p : ThingM → Bool} {b : Nat} (hb : FS t mb (loseC C o p) b) : FS t mb C b := by
  rcases hb with hb | hb | ⟨o', c2, hc2, rfl⟩
  · exact Or.inl hb
  · exact Or.inr (Or.inl hb)
  · unfold loseC at hc2
    split at hc2
    · exact Or.inr (Or.inr ⟨o', c2, hc2, rfl⟩)
    · rename_i c hc
      rw [afind_aput] at hc2
      split at hc2
      · cases hc2; exact Or.inr (Or.inr ⟨o, c, hc, rfl⟩)
      · exact Or.inr (Or.inr ⟨o', c2, hc2, rfl⟩)
theorem mS_lose (C : CC) (S : SM) (p : ThingM → Bool) (h3 : mS C = S.m) : mS (loseC C o p) = (loseS S o p).m ∧ (loseS S o p).fine = S.fine - (nF ((thgs (mS C) o).filter p) : Int) ∧ (loseS S o p).each = S.each ∧ (loseS S o p).all = S.all ∧ (loseS S o p).csn = S.csn := by
  unfold loseC loseS
  cases hf : afind C o with
  | none =>
    have e : afind S.m o = none := by rw [← h3, afind_amap, hf]; rfl
    rw [e, h3, thgs_none e]
    simp [nF]
  | some c =>
    have e : afind S.m o = some c.l := by rw [← h3, afind_amap, hf]; rfl
    rw [e, h3, thgs_some e]
    refine ⟨?_, rfl, rfl, rfl, rfl⟩
    show amap CM.l (aput C o _) = _
    rw [← aput_amap, show amap CM.l C = S.m from h3]
theorem lose_core {N mb : Nat} {C : CC} (g1 : ∀ b, G b → b < h.size) (g2 : TabS 0 h t mb C S.each S.all S.fine S.csn) (g3 : mS C = S.m) (g4 : ∀ b, FS t mb C b → ¬ G b) (hok : SOk N S) (hN : N ≤ 2 ^ 20) {f : Nat} {cs : Array Value} (p : ThingM → Bool)
    (hf : ∀ (x : ThingM) (g : Hp) (K : List Value → Hp → Prop), KG G h g → (∀ g', Ext [] g g' → K [.bool (p x)] g') → Fn PP f ((#[] ++ #[ekT x]) ++ cs) g K)
    (hQ : ∀ h', (∀ b, G b → b < h'.size) → TabS 0 h' t mb (loseC C o p) (loseS S o p).each (loseS S o p).all (loseS S o p).fine (loseS S o p).csn → mS (loseC C o p) = (loseS S o p).m → (∀ b, FS t mb (loseC C o p) b → ¬ G b) → KG G h h' → Q [] h') : S_siread_Table_lose (some ⟨t, 0, none⟩) o f cs h Q := by
  have hlen := thgs_len hok.nd o
  have hb := hok.bnd
  have h1 := nF_le (thgs S.m o)
  have h2 : nF (thgs S.m o) ≤ totF S.m := by have := totF_adel hok.nd o; omega
  have h3 := hok.fine
  have h4 := hok.all
  have h5 := hok.al
  refine lose_s g2 o (by rw [g3]; omega) (by rw [g3]; omega) p (fun x g K he hk => hf x g K (kg_ext he g1 (Sv.outL g4 o)) hk) fun h' hT he => ?_
  have hm := mS_lose (o := o) C S p g3
  have hz := he.sz
  have hkg : KG G h h' := kg_ext he g1 (Sv.outL g4 o)
  have hlt : ∀ b, G b → b < h'.size := fun b hb => by have := g1 b hb; omega
  have hT' : TabS 0 h' t mb (loseC C o p) (loseS S o p).each (loseS S o p).all (loseS S o p).fine (loseS S o p).csn := by
    rw [hm.2.1, hm.2.2.1, hm.2.2.2.1, hm.2.2.2.2]
    exact hT
  exact hQ h' hlt hT' hm.1 (fun b hb => g4 b (fs_lose hb)) hkg
theorem loseV_s {N : Nat} (hS : Sv G h t S) (hok : SOk N S) (hN : N ≤ 2 ^ 20) {f : Nat} {cs : Array Value} (p : ThingM → Bool)
    (hf : ∀ (x : ThingM) (g : Hp) (K : List Value → Hp → Prop), KG G h g → (∀ g', Ext [] g g' → K [.bool (p x)] g') → Fn PP f ((#[] ++ #[ekT x]) ++ cs) g K)
    (hQ : ∀ h', Sv G h' t (loseS S o p) → KG G h h' → Q [] h') : S_siread_Table_lose (some ⟨t, 0, none⟩) o f cs h Q := by
  obtain ⟨g1, mb, C, g2, g3, g4⟩ := hS
  exact lose_core g1 g2 g3 g4 hok hN p hf fun h' a b c d e => hQ h' ⟨a, mb, _, b, c, d⟩ e
theorem loseO_s {N : Nat} (hS : SvO G h t S o m) (hok : SOk N S) (hN : N ≤ 2 ^ 20) {f : Nat} {cs : Array Value} (p : ThingM → Bool)
    (hf : ∀ (x : ThingM) (g : Hp) (K : List Value → Hp → Prop), KG G h g → (∀ g', Ext [] g g' → K [.bool (p x)] g') → Fn PP f ((#[] ++ #[ekT x]) ++ cs) g K)
    (hQ : ∀ h', SvO G h' t (loseS S o p) o m → KG G h h' → Q [] h') : S_siread_Table_lose (some ⟨t, 0, none⟩) o f cs h Q := by
  obtain ⟨g1, mb, C, g2, g3, g4, c, hc, rfl⟩ := hS
  refine lose_core g1 g2 g3 g4 hok hN p hf fun h' a b c' d e => hQ h' ⟨a, mb, _, b, c', d, ?_⟩ e
  unfold loseC
  rw [hc]
  exact ⟨⟨c.b, c.l.filter fun x => !p x⟩, by simp only [afind_aput, if_true], rfl⟩
/-- An owner that had no map has one. -/
theorem Sv.born (hS : Sv G h t S) (ho : afind S.m o = none) {h1 : Hp} (he1 : Ext [] h h1) (hsz : h1.size = h.size + 1) (hb : h1[h.size]? = some (.map #[] 0)) :
    ∃ mb, rd h1 (Addr.add ⟨t, 0, none⟩ 2) = some (.map (some mb)) ∧ ∃ es c, h1[mb]? = some (.map es c) ∧ KeysLike (.int .i64 o) es ∧ ∀ h2, Ext [mb] h1 h2 → h2[mb]? = some (mput (.int .i64 o) (.map (some h.size)) es c) → SvO G h2 t (bornS S o) o h.size ∧ KG G h h2 := by
  obtain ⟨g1, mb, C, g2, g3, g4⟩ := hS
  have g2' := g2.ext0 he1
  obtain ⟨es, c, p1, p2, p3⟩ := g2'.outer.put o h.size
  have hz := he1.sz
  refine ⟨mb, by rw [addr_mk, rd_blk g2'.blk]; rfl, es, c, p1, p2, fun h2 he2 hb2 => ?_⟩
  have hz2 := he2.sz
  have hm := p3 h2 hb2
  have hcn : afind C o = none := by
    have := ho
    rw [← g3, afind_amap] at this
    cases hc : afind C o with
    | none => rfl
    | some c => rw [hc] at this; cases this
  have hne := g2.t_ne
  have hmt := (g2.lt (b := mb) (Or.inr (Or.inl rfl))).2
  have htt := (g2.lt (b := t) (Or.inl rfl)).2
  have hbl : ∀ o' c', afind C o' = some c' → c'.b < h.size := fun o' c' hc => (g2.lt (Or.inr (Or.inr ⟨o', c', hc, rfl⟩))).2
  have hkg : KG G h h2 := (kg_ext0 he1 g1).trans (kg_ext he2 (fun b hb => by have := g1 b hb; omega) fun b hb => by
    simp at hb; subst hb; exact g4 _ (Or.inr (Or.inl rfl)))
  have hbs : bornS S o = { S with m := aput S.m o [] } := by unfold bornS; rw [ho]
  rw [hbs]
  have hfa : ∀ o', afind (aput C o ⟨h.size, []⟩) o' = if o' = o then some ⟨h.size, []⟩ else afind C o' := fun o' => afind_aput _ _ _ _
  refine ⟨⟨fun b hb => by have := g1 b hb; omega, mb, aput C o ⟨h.size, []⟩, ⟨he2.get g2'.blk (by simp; exact hne.1.symm), ?_, aput_nodup g2.nd _ _, fun o' c' hf' => ?_, fun o' c' hf' => ?_, fun o' c' hf' => Nat.zero_le _, fun o1 o2 c1 c2 hf1 hf2 hn => ?_, fun o' c' hf' => ?_, Nat.zero_le _, Nat.zero_le _⟩, ?_, ?_, ⟨h.size, []⟩, by rw [hfa, if_pos rfl], rfl⟩, hkg⟩
  · rw [← aput_amap]
    exact hm
  · rw [hfa] at hf'
    split at hf'
    · cases hf'
      exact ⟨#[], 0, he2.get hb (by simp; omega), rfl, Born.nil 0⟩
    · rename_i hno
      exact (g2'.inner o' c' hf').ext he2 (by simp; exact g2.smb o' c' hf')
  · rw [hfa] at hf'
    split at hf'
    · cases hf'; simp
    · exact g2.tnd o' c' hf'
  · rw [hfa] at hf1 hf2
    split at hf1 <;> split at hf2
    · omega
    · cases hf1; have := hbl _ _ hf2; simp only; omega
    · cases hf2; have := hbl _ _ hf1; simp only; omega
    · exact g2.sep o1 o2 c1 c2 hf1 hf2 hn
  · rw [hfa] at hf'
    split at hf'
    · cases hf'; simp only; omega
    · exact g2.smb o' c' hf'
  · show amap CM.l (aput C o _) = _
    rw [← aput_amap, show amap CM.l C = S.m from g3]
  · intro b hb
    rcases hb with hb | hb | ⟨o', c2, hc2, rfl⟩
    · exact g4 b (Or.inl hb)
    · exact g4 b (Or.inr (Or.inl hb))
    · rw [hfa] at hc2
      split at hc2
      · cases hc2
        intro hg
        have := g1 _ hg
        simp only at this
        omega
      · exact g4 _ (Or.inr (Or.inr ⟨o', c2, hc2, rfl⟩))
end
end Go.Lift
namespace Go.Lift
open Go Go.Proofs Go.RowKit Go.Shelf
set_option maxRecDepth 100000
theorem decEq (a b : Int) : (a == b) = decide (a = b) := by rw [Bool.eq_iff_iff]; simp
section
variable {G : Nat → Prop} {h : Hp} {t m : Nat} {S : SM} {o : Int} {Q : List Value → Hp → Prop}
theorem take1_s {b : Nat} (y x : ThingM) (hb : Blk h b (encT x).toArray T_siread_Thing) (hQ : ∀ h', Ext [] h h' → Q [.bool (fineT y && decide (y.rel = x.rel))] h') : Fn PP 151 ((#[] ++ #[ekT y]) ++ #[.pointer (some ⟨b, 0, none⟩)]) h Q := by
  refine O_siread_Table_take_1 _ _ _ _ _ _ ?_
  delta F_siread_Table_take_1 rI rB rS rP rM rL vI vB vS vP vM vL vC vA ad nb gb wi bl bz tn isn sib pu oc
  refine newI fun h1 s1 b1 e1 => ?_
  have b1' : Blk h1 h.size (encT y).toArray T_siread_Thing := b1
  refine rd5I b1' ?_
  refine fine_s y fun h2 e2 => ⟨_, rfl, ?_⟩
  have hb2 := (e1.trans0 e2).get hb (by simp)
  have b2 := e2.get b1' (by simp)
  cases hf : fineT y with
  | false =>
    rw [if_neg (by decide)]
    have := hQ h2 (e1.trans0 e2)
    rw [hf, Bool.false_and] at this
    exact this
  | true =>
    rw [if_pos rfl]
    refine ⟨y.rel, by rw [addr_mk, rd_blk b2]; rfl, x.rel, by rw [addr_mk, rd_blk hb2]; rfl, ?_⟩
    have := hQ h2 (e1.trans0 e2)
    rw [hf, Bool.true_and] at this
    rw [decEq]
    exact this
theorem rdT0 {v : Nat} {x : ThingM} {T : TypeId} (hb : Blk h v (encT x).toArray T) : rd h (Addr.add (Addr.mk v 0 none) 0) = some (.int .i64 x.kind) ∧ rd h (Addr.add (Addr.mk v 0 none) 2) = some (.int .i64 x.rel) := by
  constructor <;> (rw [addr_mk, rd_blk hb]; rfl)
theorem SvO.extG {L : List Nat} {h' : Hp} (hS : SvO G h t S o m) (he : Ext L h h') (hL : ∀ b ∈ L, G b) : SvO G h' t S o m := by
  obtain ⟨g1, mb, C, g2, g3, g4, g5⟩ := hS
  have := he.sz
  exact ⟨fun b hb => by have := g1 b hb; omega, mb, C, g2.extF he fun b hb hm => g4 b hb (hL b hm), g3, g4, g5⟩
theorem countV_s {N : Nat} (hS : Sv G h t S) (hok : SOk N S) (hN : N ≤ 2 ^ 20) (r : Int) (hQ : ∀ h', Ext [] h h' → Q [.int .i64 (nR (thgs S.m o) r : Nat)] h') : S_siread_Table_count (some ⟨t, 0, none⟩) o r h Q := by
  obtain ⟨g1, mb, C, g2, g3, g4⟩ := hS
  have hlen := thgs_len hok.nd o
  have hb := hok.bnd
  exact count_s g2 o r (by rw [g3]; omega) fun h' e => by rw [g3]; exact hQ h' e
theorem take_s {N : Nat} (hS : Sv G h t S) (hok : SOk N S) (hN : N ≤ 2 ^ 20) (ho : 0 ≤ o ∧ o ≤ 200) (x : ThingM) (hQ : ∀ h', Sv G h' t (takeS S o x) → KG G h h' → Q [] h') :
    S_siread_Table_take (some ⟨t, 0, none⟩) o x.kind x.name x.rel x.index x.n h Q := by
  refine O_siread_Table_take _ _ _ _ _ _ _ ?_
  delta F_siread_Table_take rI rB rS rP rM rL vI vB vS vP vM vL vC vA ad nb gb wi bl bz tn isn sib pu oc
  refine newI fun h1 s1 b1 e1 => ?_
  have b1' : Blk h1 h.size (encT x).toArray T_siread_Thing := b1
  have hS1 := hS.more e1
  have hkg1 : KG G h h1 := kg_ext0 e1 hS.1
  generalize hGe : GX G h h1 = G1 at hS1
  have hGG : ∀ b, G b → G1 b := fun b hb => by rw [← hGe]; exact Or.inl hb
  have hGc : G1 h.size := by rw [← hGe]; exact Or.inr ⟨Nat.le_refl _, by omega⟩
  -- what comes out, in the view that has the cell as well
  have out : ∀ g, Sv G1 g t (takeS S o x) → KG G h g → Q [] g := fun g h1' h2' => hQ g (h1'.anti hGG) h2'
  intro J2 hJ2
  simp only [nilW_some] at hJ2
  by_cases hk : x.kind < 1 ∨ x.kind > 4
  · have ht : takeS S o x = S := by unfold takeS; rw [if_pos hk]
    have fin : J2 [.bool true] h1 := by
      refine hJ2 _ _ ?_
      rw [if_pos rfl]
      exact out h1 (by rw [ht]; exact hS1) hkg1
    refine ⟨_, (rdT0 b1').1, ?_⟩
    by_cases h1k : x.kind < 1
    · rw [if_pos (by simpa using h1k)]; exact fin
    · rw [if_neg (by simpa using h1k)]
      refine ⟨_, (rdT0 b1').1, ?_⟩
      rw [decide_eq_true (by omega)]
      exact fin
  · have hk' : 1 ≤ x.kind ∧ x.kind ≤ 4 := by omega
    obtain ⟨hok1, hthb, ⟨l1, hl1⟩, f1, f2, f3, f4, f5⟩ := bornS_ok hok ho
    -- the end: the thing, or the relation, is put
    have wh : ∀ (S1 : SM) (m : Nat) (y : ThingM) (J : List Value → Hp → Prop) (g : Hp), SOk N S1 → SvO G1 g t S1 o m → KG G h g → Blk g h.size (encT y).toArray T_siread_Thing → (∀ g', SvO G1 g' t (wholeS S1 o y) o m → KG G h g' → Q [] g') →
        ∃ n25 : Int, rd g (Addr.add (Addr.mk (Array.size h) 0 none) 0) = some (Value.int .i64 n25) ∧
          ∀ J26 : List Value → Hp → Prop, (∀ h27 : Hp, (∃ r29 : Option Nat, rd h27 (Addr.add ⟨t, 0, none⟩ 2) = some (Value.map r29) ∧
            ∃ es30 : Array MapEntry, mapAt h27 r29 es30 ∧ KeysLike (Value.int .i64 o) es30 ∧ ∃ r31 : Option Nat, mgetD (Value.int .i64 o) es30 (Value.map none) = (Value.map r31) ∧
            ∃ n32 : Int, rd h27 (Addr.add (Addr.mk (Array.size h) 0 none) 0) = some (Value.int .i64 n32) ∧ ∃ s33 : ByteArray, rd h27 (Addr.add (Addr.mk (Array.size h) 0 none) 1) = some (Value.string s33) ∧ ∃ n34 : Int, rd h27 (Addr.add (Addr.mk (Array.size h) 0 none) 2) = some (Value.int .i64 n34) ∧ ∃ s35 : ByteArray, rd h27 (Addr.add (Addr.mk (Array.size h) 0 none) 3) = some (Value.string s35) ∧ ∃ n36 : Int, rd h27 (Addr.add (Addr.mk (Array.size h) 0 none) 4) = some (Value.int .i64 n36) ∧ ∃ (m37 : Nat) (es38 : Array MapEntry) (c39 : Nat), r31 = some m37 ∧ h27[m37]? = some (.map es38 c39) ∧ KeysLike (Value.agg #[(Value.int .i64 n32), (Value.string s33), (Value.int .i64 n34), (Value.string s35), (Value.int .i64 n36)]) es38 ∧ wth (Array.setIfInBounds h27 m37 (mput (Value.agg #[(Value.int .i64 n32), (Value.string s33), (Value.int .i64 n34), (Value.string s35), (Value.int .i64 n36)]) (Value.int .i64 (1 : Int)) es38 c39)) fun h40 =>
            Q [] h40) → J26 [] h27) →
          (if (n25 == (2 : Int)) = true then
            (S_siread_Table_lose (some ⟨t, 0, none⟩) o 151 #[(Value.pointer (some (Addr.mk (Array.size h) 0 none)))] g fun (vs41 : List Value) (h42 : Hp) =>
              vs41 = [] ∧
              J26 [] h42) else
            (J26 [] g)) := by
      intro S1 m y J g hok1 hO hkg hby hq
      refine ⟨_, (rdT0 hby).1, ?_⟩
      intro J26 hJ
      have last : ∀ (S2 : SM) (g2 : Hp), SOk N S2 → SvO G1 g2 t S2 o m → KG G h g2 → Blk g2 h.size (encT y).toArray T_siread_Thing → (∀ g', SvO G1 g' t (putS S2 o y) o m → KG G h g' → Q [] g') → J26 [] g2 := by
        intro S2 g2 hok2 hO2 hkg2 hb2 hq2
        refine hJ g2 ?_
        obtain ⟨mb, r1, es, r2, r3, r4⟩ := hO2.has
        refine ⟨_, r1, es, r2, r3, _, r4, ?_⟩
        refine rd5I hb2 ?_
        obtain ⟨es2, c2, p1, p2, p3⟩ := hO2.put (hok2.thg o).1 y
        refine ⟨m, es2, c2, rfl, p1, p2, setI p1 fun g3 s3 b3 e3 => ?_⟩
        obtain ⟨q1, q2⟩ := p3 g3 e3 b3
        exact hq2 g3 q1 (hkg2.trans (q2.anti hGG))
      by_cases hk2 : y.kind = 2
      · rw [if_pos (by simp [hk2])]
        refine loseO_s hO hok1 hN (fun z => fineT z && decide (z.rel = y.rel)) (fun z g3 K hk3 hK => ?_) fun g3 hO3 hkg3 => ⟨rfl, ?_⟩
        · exact take1_s z y (hk3.get hby hGc) hK
        · refine last _ g3 (loseS_ok hok1 ho _).1 hO3 (hkg.trans (hkg3.anti hGG)) (hkg3.get hby hGc) fun g4 hO4 hkg4 => ?_
          refine hq g4 ?_ hkg4
          unfold wholeS
          simp only [hk2, if_true]
          exact hO4
      · rw [if_neg (by simp [hk2])]
        refine last S1 g hok1 hO hkg hby fun g4 hO4 hkg4 => hq g4 ?_ hkg4
        unfold wholeS
        simp only [hk2, if_false]
        exact hO4
    refine ⟨_, (rdT0 b1').1, ?_⟩
    rw [if_neg (by simpa using hk'.1)]
    refine ⟨_, (rdT0 b1').1, ?_⟩
    rw [decide_eq_false (by omega)]
    refine hJ2 _ _ ?_
    rw [if_neg (by decide)]
    obtain ⟨mb, r1, es, r8, r2, r3, r4, r5, r6⟩ := hS1.has o
    refine ⟨_, r1, es, r2, r3, _, r4, ?_⟩
    intro J9 hJ9
    have hts : takeS S o x = if x ∈ thgs (bornS S o).m o ∨ (fineT x = true ∧ relT x ∈ thgs (bornS S o).m o) then bornS S o
      else if fineT x = true then
        if (nR (thgs (bornS S o).m o) x.rel : Int) < (bornS S o).each ∧ (bornS S o).fine < (bornS S o).all then addS (bornS S o) o x 1 else wholeS (bornS S o) o (relT x)
      else wholeS (bornS S o) o x := by
      unfold takeS
      rw [if_neg hk]
    have cont : ∀ (g : Hp) (m : Nat), SvO G1 g t (bornS S o) o m → KG G1 h1 g → J9 [.map (some m)] g := by
      intro g m hO hkg
      have hcell := hkg.get b1' hGc
      have hkgG : KG G h g := hkg1.trans (hkg.anti hGG)
      generalize hS' : bornS S o = S1 at *
      refine hJ9 _ _ ?_
      intro J12 hJ12
      have t12 : ∀ g', Ext [] g g' → (x ∈ thgs S1.m o ∨ (fineT x = true ∧ relT x ∈ thgs S1.m o)) → J12 [.bool true] g' := by
        intro g' e hin
        refine hJ12 _ _ ?_
        rw [if_pos rfl]
        refine out g' ?_ (hkgG.trans (kg_ext0 e fun b hb => hO.1 b (hGG b hb)))
        rw [hts, if_pos hin]
        exact (hO.ext0 e).sv
      have f12 : ∀ g', Ext [] g g' → ¬ (x ∈ thgs S1.m o ∨ (fineT x = true ∧ relT x ∈ thgs S1.m o)) → J12 [.bool false] g' := by
        intro g' e hin
        rw [if_neg hin] at hts
        have hO2 := hO.ext0 e
        have hc2 := e.get hcell (by simp)
        have hkg2 : KG G h g' := hkgG.trans (kg_ext0 e fun b hb => hO.1 b (hGG b hb))
        refine hJ12 _ _ ?_
        rw [if_neg (by decide)]
        refine rd5I hc2 ?_
        refine fine_s x fun g3 e3 => ⟨_, rfl, ?_⟩
        intro J23 hJ23
        have hO3 := hO2.ext0 e3
        have hc3 := e3.get hc2 (by simp)
        have hkg3 : KG G h g3 := hkg2.trans (kg_ext0 e3 fun b hb => hO2.1 b (hGG b hb))
        cases hf : fineT x with
        | false =>
          rw [if_neg (by decide)]
          rw [if_neg (by simp [hf])] at hts
          refine hJ23 g3 ?_
          exact wh S1 m x J23 g3 hok1 hO3 hkg3 hc3 fun g4 hO4 hkg4 => out g4 (by rw [hts]; exact hO4.sv) hkg4
        | true =>
          rw [if_pos rfl]
          rw [if_pos hf] at hts
          intro J43 hJ43
          refine ⟨_, (rdT0 hc3).2, _, hO3.sv.fld.1, ?_⟩
          refine countV_s hO3.sv hok1 hN x.rel fun g4 e4 => ⟨_, rfl, ?_⟩
          have hO4 := hO3.ext0 e4
          have hc4 := e4.get hc3 (by simp)
          have hkg4 : KG G h g4 := hkg3.trans (kg_ext0 e4 fun b hb => hO3.1 b (hGG b hb))
          refine ⟨hO4.sv.fld.1, ?_⟩
          have no43 : ¬ ((nR (thgs S1.m o) x.rel : Int) < S1.each ∧ S1.fine < S1.all) → J43 [.bool false] g4 := by
            intro hn
            rw [if_neg hn] at hts
            refine hJ43 _ _ ?_
            rw [if_neg (by decide)]
            refine rd5I hc4 ?_
            refine rel_s x fun g5 e5 => ⟨_, _, _, _, _, rfl, ?_⟩
            have hO5 := hO4.ext0 e5
            have hc5 : Blk g5 h.size (encT x).toArray T_siread_Thing := e5.get hc4 (by simp)
            have hkg5 : KG G h g5 := hkg4.trans (kg_ext0 e5 fun b hb => hO4.1 b (hGG b hb))
            refine st_blk hc5 (by simp) fun g6 s6 b6 e6 => ?_
            refine hJ23 g6 ?_
            have hO6 := hO5.extG e6 (by intro b hb; simp at hb; subst hb; exact hGc)
            have hkg6 : KG G h g6 := hkg5.trans (kg_ext e6 (fun b hb => hO5.1 b (hGG b hb)) fun b hb hg => by
              simp at hb; subst hb; have := hS.1 _ hg; omega)
            exact wh S1 m (relT x) J23 g6 hok1 hO6 hkg6 b6 fun g4 hO4 hkg4 => out g4 (by rw [hts]; exact hO4.sv) hkg4
          by_cases hc : (nR (thgs S1.m o) x.rel : Int) < S1.each
          · rw [if_pos (by simpa using hc)]
            refine ⟨_, hO4.sv.fld.2.2.1, _, hO4.sv.fld.2.1, ?_⟩
            by_cases hc2 : S1.fine < S1.all
            · rw [decide_eq_true hc2]
              refine hJ43 _ _ ?_
              rw [if_pos rfl]
              rw [if_pos ⟨hc, hc2⟩] at hts
              refine rd5I hc4 ?_
              obtain ⟨es2, c2, p1, p2, p3⟩ := hO4.put (hok1.thg o).1 x
              refine ⟨m, es2, c2, rfl, p1, p2, setI p1 fun g5 s5 b5 e5 => ?_⟩
              obtain ⟨q1, q2⟩ := p3 g5 e5 b5
              have hx : x ∉ thgs S1.m o := fun hx => hin (Or.inl hx)
              have hput : putS S1 o x = addS S1 o x 0 := by unfold putS; rw [if_neg hx]
              rw [hput] at q1
              refine ⟨_, q1.sv.fld.2.2.1, ?_⟩
              refine q1.setFine _ fun g6 hO6 hkg6 => ?_
              refine out g6 ?_ ((hkg4.trans (q2.anti hGG)).trans (hkg6.anti hGG))
              rw [hts]
              have hal := hok1.al
              have hfi := hok1.fine
              have h0 : (0 : Int) ≤ (totF S1.m : Int) := by omega
              have : IntKind.wrap .i64 ((addS S1 o x 0).fine + 1) = S1.fine + 1 := by
                show IntKind.wrap .i64 (S1.fine + 0 + 1) = _
                rw [wrap64 (by omega) (by omega)]
                omega
              rw [this] at hO6
              exact hO6.sv
            · rw [decide_eq_false hc2]
              exact no43 (fun h => hc2 h.2)
          · rw [if_neg (by simpa using hc)]
            exact no43 (fun h => hc h.1)
      refine rd5I hcell ?_
      obtain ⟨es1, k1, k2, n88, k3, k4⟩ := has_get (r := some m) (show MapOr ekT evU g (some m) (tU (thgs S1.m o)) from hO.inn.1) x
      refine ⟨es1, k1, k2, n88, k3, ?_⟩
      rw [k4]
      by_cases hx : x ∈ thgs S1.m o
      · rw [if_pos (by simpa using hx)]
        exact t12 g (Ext.refl _ _) (Or.inl hx)
      · rw [if_neg (by simpa using hx)]
        refine rd5I hcell ?_
        refine fine_s x fun g3 e3 => ⟨_, rfl, ?_⟩
        have hc3 := e3.get hcell (by simp)
        cases hf : fineT x with
        | false =>
          rw [if_neg (by decide)]
          refine f12 g3 e3 ?_
          rintro (q | q)
          · exact hx q
          · rw [hf] at q; cases q.1
        | true =>
          rw [if_pos rfl]
          refine rd5I hc3 ?_
          refine rel_s x fun g4 e4 => ⟨_, _, _, _, _, rfl, ?_⟩
          have e34 := e3.trans0 e4
          obtain ⟨es2, k1, k2, n110, k3, k5⟩ := has_get (r := some m) (show MapOr ekT evU g4 (some m) (tU (thgs S1.m o)) from (hO.ext0 e34).inn.1) (relT x)
          refine ⟨es2, k1, k2, n110, k3, ?_⟩
          rw [k5]
          by_cases hr : relT x ∈ thgs S1.m o
          · rw [decide_eq_true hr]
            exact t12 g4 e34 (Or.inr ⟨hf, hr⟩)
          · rw [decide_eq_false hr]
            refine f12 g4 e34 ?_
            rintro (q | q)
            · exact hx q
            · exact hr q.2
    rcases r6 with ⟨rfl, hn⟩ | ⟨m, rfl, hO⟩
    · rw [if_pos (by simp)]
      refine newI fun g2 s2 b2 e2 => ?_
      obtain ⟨mb2, q1, es2, c2, q2, q3, q4⟩ := hS1.born hn e2 s2 b2
      refine ⟨_, q1, mb2, es2, c2, rfl, q2, q3, setI q2 fun g3 s3 b3 e3 => ?_⟩
      obtain ⟨w1, w2⟩ := q4 g3 e3 b3
      exact cont g3 _ w1 w2
    · rw [if_neg (by simp)]
      have hb : bornS S o = S := by
        unfold bornS
        rw [hO.inn.2]
      exact cont h1 m (by rw [hb]; exact hO) (.refl _ _)
end
end Go.Lift
namespace Go.Lift
open Go
theorem nodup_len : ∀ (n : Nat) (l : List Int), l.Nodup → (∀ x ∈ l, 0 ≤ x ∧ x < (n : Int)) → l.length ≤ n
  | 0, l, _, hb => by
    cases l with
    | nil => simp
    | cons a l => have := hb a (by simp); omega
  | n + 1, l, hn, hb => by
    have h1 := nodup_len n (l.erase (n : Int)) (hn.erase _) fun x hx => by
      have h2 := (hn.mem_erase_iff).1 hx
      have := hb x h2.2
      have := h2.1
      omega
    by_cases hm : (n : Int) ∈ l
    · rw [List.length_erase_of_mem hm] at h1
      omega
    · rw [List.erase_of_not_mem hm] at h1
      omega
section
variable {N : Nat} {S : SM} {o : Int}
theorem SOk.up (h : SOk N S) {N' : Nat} (hN : tot S.m ≤ N') : SOk N' S := ⟨h.nd, h.own, h.tnd, h.kind, h.one, h.each, h.fine, h.all, h.ea, h.al, hN⟩
theorem SOk.owners (h : SOk N S) : S.m.length ≤ 201 := by
  have := nodup_len 201 (S.m.map Prod.fst) h.nd fun x hx => by have := h.own x hx; omega
  simpa using this
theorem ownersS_mem (h : SOk N S) (p : ThingM → Bool) {x : Int} (hx : x ∈ ownersS S p) : (0 ≤ x ∧ x ≤ 200) ∧ ∃ y ∈ thgs S.m x, p y = true := by
  unfold ownersS at hx
  rw [sortI_mem] at hx
  obtain ⟨⟨a, l⟩, h1, rfl⟩ := List.mem_map.1 hx
  obtain ⟨h2, h3⟩ := List.mem_filter.1 h1
  refine ⟨h.own a (List.mem_map.2 ⟨_, h2, rfl⟩), ?_⟩
  rw [thgs_some (afind_of_mem h.nd h2)]
  obtain ⟨y, hy, hp⟩ := List.any_eq_true.1 h3
  exact ⟨y, hy, hp⟩
theorem mem_ownersS (h : SOk N S) (p : ThingM → Bool) {x : Int} : x ∈ ownersS S p ↔ ∃ y ∈ thgs S.m x, p y = true := by
  refine ⟨fun hx => (ownersS_mem h p hx).2, fun ⟨y, hy, hp⟩ => ?_⟩
  unfold ownersS
  rw [sortI_mem]
  cases hf : afind S.m x with
  | none => rw [thgs_none hf] at hy; cases hy
  | some l =>
    rw [thgs_some hf] at hy
    exact List.mem_map.2 ⟨(x, l), List.mem_filter.2 ⟨afind_mem hf, List.any_eq_true.2 ⟨y, hy, hp⟩⟩, rfl⟩
theorem ownersS_len (h : SOk N S) (p : ThingM → Bool) : (ownersS S p).length ≤ 201 := by
  have := h.owners
  unfold ownersS
  rw [sortI_len, List.length_map]
  exact Nat.le_trans (List.length_filter_le _ _) this
theorem takesS_ok (x : ThingM) : ∀ (l : List Int) {N : Nat} {S : SM}, SOk N S → (∀ o ∈ l, 0 ≤ o ∧ o ≤ 200) → SOk (N + l.length) (takesS S l x) ∧ (takesS S l x).each = S.each ∧ (takesS S l x).all = S.all ∧ (takesS S l x).csn = S.csn ∧ ∀ o, o ∉ l → thgs (takesS S l x).m o = thgs S.m o
  | [], N, S, h, _ => ⟨h, rfl, rfl, rfl, fun _ _ => rfl⟩
  | a :: l, N, S, h, hl => by
    obtain ⟨h1, _, h2, h3, h4, h5⟩ := takeS_ok h (hl a (by simp)) x
    obtain ⟨g1, g2, g3, g4, g5⟩ := takesS_ok x l h1 fun o ho => hl o (by simp [ho])
    have e : takesS S (a :: l) x = takesS (takeS S a x) l x := rfl
    rw [e]
    refine ⟨?_, by rw [g2, h3], by rw [g3, h4], by rw [g4, h5], fun o ho => ?_⟩
    · rw [List.length_cons]
      have : N + (l.length + 1) = N + 1 + l.length := by omega
      rw [this]
      exact g1
    · simp only [List.mem_cons, not_or] at ho
      rw [g5 o ho.2, h2 o ho.1]
theorem dropS_ok (h : SOk N S) (ho : 0 ≤ o ∧ o ≤ 200) : SOk N (dropS S o) ∧ thgs (dropS S o).m o = [] ∧ (∀ o', o' ≠ o → thgs (dropS S o).m o' = thgs S.m o') ∧ tot (dropS S o).m + (thgs S.m o).length = tot S.m ∧ (dropS S o).each = S.each ∧ (dropS S o).all = S.all ∧ (dropS S o).csn = if o = 0 then 0 else S.csn := by
  obtain ⟨a1, a2, a3, a4, a5, a6, a7, a8, a9⟩ := loseS_ok h ho fun _ => true
  have hd : dropS S o = { loseS S o (fun _ => true) with m := adel (loseS S o fun _ => true).m o, csn := if o = 0 then 0 else (loseS S o fun _ => true).csn } := rfl
  rw [hd]
  clear hd
  dsimp only at a1 a2 a3 a4 a5 a6 a7 a8 a9 ⊢
  generalize loseS S o (fun _ => true) = S1 at *
  have a3 : thgs S1.m o = [] := by rw [a3]; simp
  rw [show (thgs S.m o).filter (fun _ => true) = thgs S.m o from List.filter_eq_self.2 (by simp)] at a6
  have hfa : ∀ o', afind (adel S1.m o) o' = if o' = o then none else afind S1.m o' := fun o' => afind_adel a1.nd o o'
  have hsub := (adel_nodup a1.nd o).2
  have ht := tot_adel a1.nd o
  have hf := totF_adel a1.nd o
  rw [a3] at ht hf
  simp only [List.length_nil, Nat.add_zero] at ht
  have hnf : nF [] = 0 := rfl
  rw [hnf] at hf
  have hb := a1.bnd
  refine ⟨⟨(adel_nodup a1.nd o).1, fun o' ho' => a1.own o' (hsub o' ho'), fun o' l hl => ?_, fun o' l hl => ?_, fun o' l hl => ?_, fun o' l hl => ?_, ?_, a1.all, a1.ea, a1.al, by first | omega | (simp only; omega)⟩, ?_, fun o' ho' => ?_, by first | omega | (simp only; omega), a7, a8, ?_⟩
  · simp only [hfa] at hl; split at hl
    · cases hl
    · exact a1.tnd o' l hl
  · simp only [hfa] at hl; split at hl
    · cases hl
    · exact a1.kind o' l hl
  · simp only [hfa] at hl; split at hl
    · cases hl
    · exact a1.one o' l hl
  · simp only [hfa] at hl; split at hl
    · cases hl
    · exact a1.each o' l hl
  · simp only; have := a1.fine; omega
  · unfold thgs; rw [hfa, if_pos rfl]; rfl
  · unfold thgs; rw [hfa, if_neg ho']; exact a4 o' ho'
  · simp only [a9]
theorem foldTakes_ok : ∀ (l : List ThingM) {N : Nat} {S : SM}, SOk N S → SOk (N + l.length) (l.foldl (fun S x => takeS S 0 x) S) ∧ (l.foldl (fun S x => takeS S 0 x) S).each = S.each ∧ (l.foldl (fun S x => takeS S 0 x) S).all = S.all ∧ ∀ o, o ≠ 0 → thgs (l.foldl (fun S x => takeS S 0 x) S).m o = thgs S.m o
  | [], N, S, h => ⟨h, rfl, rfl, fun _ _ => rfl⟩
  | a :: l, N, S, h => by
    obtain ⟨h1, _, h2, h3, h4, h5⟩ := takeS_ok h (o := 0) (by omega) a
    obtain ⟨g1, g2, g3, g4⟩ := foldTakes_ok l h1
    rw [List.foldl_cons]
    refine ⟨?_, by rw [g2, h3], by rw [g3, h4], fun o ho => by rw [g4 o ho, h2 o ho]⟩
    rw [List.length_cons]
    have : N + (l.length + 1) = N + 1 + l.length := by omega
    rw [this]
    exact g1
theorem foldS_ok (h : SOk N S) (csn : Int) : SOk N (foldS S o csn) ∧ (foldS S o csn).each = S.each ∧ (foldS S o csn).all = S.all := by
  unfold foldS
  split
  · exact ⟨h, rfl, rfl⟩
  · rename_i ho
    obtain ⟨d1, d2, d3, d4, d5, d6, d7⟩ := dropS_ok h (o := o) (by omega)
    obtain ⟨g1, g2, g3, g4⟩ := foldTakes_ok (ofS S o) (d1.up (Nat.le_refl _))
    have hl : (ofS S o).length = (thgs S.m o).length := sortC_len
    have hb := g1.bnd
    have hb2 := h.bnd
    have g1' := g1.up (N' := N) (by omega)
    exact ⟨⟨g1'.nd, g1'.own, g1'.tnd, g1'.kind, g1'.one, g1'.each, g1'.fine, g1'.all, g1'.ea, g1'.al, g1'.bnd⟩, by rw [g2, d5], by rw [g3, d6]⟩
theorem takesO_ok (h : SOk N S) (p : ThingM → Bool) (x : ThingM) : SOk (N + 201) (takesS S (ownersS S p) x) ∧ (takesS S (ownersS S p) x).each = S.each ∧ (takesS S (ownersS S p) x).all = S.all := by
  have hl := ownersS_len h p
  obtain ⟨h1, h2, h3, _⟩ := takesS_ok x (ownersS S p) h fun o ho => (ownersS_mem h p ho).1
  have := h1.bnd
  exact ⟨h1.up (by omega), h2, h3⟩
end
end Go.Lift
namespace Go.Lift
open Go Go.Proofs Go.RowKit Go.Shelf
set_option maxRecDepth 100000
section
variable {G : Nat → Prop} {h : Hp} {t m : Nat} {S : SM} {o : Int} {Q : List Value → Hp → Prop}
theorem Own.kg {α : Type} {T : TypeId} {sz lo : Nat} {enc : α → List Value} {h h' : Hp} {s : Sl} {xs : List α} (ho : Own T sz enc lo h s xs) (hk : KG G h h') (hG : ∀ b ∈ sBlk s, G b) : Own T sz enc lo h' s xs := by
  refine ⟨ho.1, ho.2.1, fun a ha => ?_⟩
  obtain ⟨b, c, h1, h2, h3, h4⟩ := ho.2.2 a ha
  exact ⟨b, c, h1, h2, hk.get h3 (hG b (mem_sBlk.2 ⟨a, ha, by rw [h1]⟩)), h4⟩
theorem gx_l {h' : Hp} : ∀ b, G b → GX G h h' b := fun _ hb => Or.inl hb
theorem one_s (n : Int) (hQ : Q [.bool (decide (1 ≤ n ∧ n ≤ 200))] h) : S_siread_one n h Q := by
  refine O_siread_one _ ?_
  delta F_siread_one rI rB rS rP rM rL vI vB vS vP vM vL vC vA ad nb gb wi bl bz tn isn sib pu oc
  by_cases h1 : 1 ≤ n
  · rw [if_pos (by simpa using h1)]
    have e : decide (1 ≤ n ∧ n ≤ 200) = decide (n ≤ 200) := by simp [h1]
    rw [e] at hQ
    exact hQ
  · rw [if_neg (by simpa using h1)]
    have e : decide (1 ≤ n ∧ n ≤ 200) = false := by simp [h1]
    rw [e] at hQ
    exact hQ
theorem Take_s {N : Nat} (hS : Sv G h t S) (hok : SOk N S) (hN : N ≤ 2 ^ 20) (x : ThingM) (hQ : ∀ h', (if (1 ≤ o ∧ o ≤ 200) ∧ 1 ≤ x.kind ∧ x.kind ≤ 4 then Sv G h' t (takeS S o x) else Sv G h' t S) → KG G h h' → Q [.int .i64 (if (1 ≤ o ∧ o ≤ 200) ∧ 1 ≤ x.kind ∧ x.kind ≤ 4 then 0 else 1)] h') :
    S_siread_Table_Take (some ⟨t, 0, none⟩) o x.kind x.name x.rel x.index x.n h Q := by
  refine O_siread_Table_Take _ _ _ _ _ _ _ ?_
  delta F_siread_Table_Take rI rB rS rP rM rL vI vB vS vP vM vL vC vA ad nb gb wi bl bz tn isn sib pu oc
  refine newI fun g1 s1 b1 e1 => ?_
  have b1' : Blk g1 h.size (encT x).toArray T_siread_Thing := b1
  have hS1 := hS.ext0 e1
  have hkg1 : KG G h g1 := kg_ext0 e1 hS.1
  intro J hJ
  rw [if_neg (by simp)]
  refine one_s o ⟨_, rfl, ?_⟩
  by_cases h1 : 1 ≤ o ∧ o ≤ 200
  · rw [decide_eq_true h1, if_neg (by decide)]
    by_cases h2 : 1 ≤ x.kind ∧ x.kind ≤ 4
    · rw [if_pos ⟨h1, h2⟩] at hQ
      refine ⟨_, (rdT0 b1').1, ?_⟩
      rw [if_neg (by simpa using h2.1)]
      refine ⟨_, (rdT0 b1').1, ?_⟩
      rw [decide_eq_false (by omega)]
      refine hJ _ _ ?_
      rw [if_neg (by decide)]
      refine rd5I b1' ?_
      refine take_s hS1 hok hN (by omega) x fun h2 hS2 hk2 => ⟨rfl, ?_⟩
      have := hQ h2
      rw [if_pos ⟨h1, by assumption⟩] at this
      exact this hS2 (hkg1.trans hk2)
    · have fin : J [.bool true] g1 := by
        refine hJ _ _ ?_
        rw [if_pos rfl]
        have := hQ g1
        rw [if_neg (fun e => h2 e.2), if_neg (fun e => h2 e.2)] at this
        exact this hS1 hkg1
      refine ⟨_, (rdT0 b1').1, ?_⟩
      by_cases h3 : x.kind < 1
      · rw [if_pos (by simpa using h3)]; exact fin
      · rw [if_neg (by simpa using h3)]
        refine ⟨_, (rdT0 b1').1, ?_⟩
        rw [decide_eq_true (by omega)]
        exact fin
  · rw [decide_eq_false h1, if_pos (by decide)]
    refine hJ _ _ ?_
    rw [if_pos rfl]
    have := hQ g1
    rw [if_neg (fun e => h1 e.1), if_neg (fun e => h1 e.1)] at this
    exact this hS1 hkg1
theorem Old_s (hS : Sv G h t S) (hQ : Q [.int .i64 S.csn] h) : S_siread_Table_Old (some ⟨t, 0, none⟩) h Q := by
  refine O_siread_Table_Old _ ?_
  delta F_siread_Table_Old rI rB rS rP rM rL vI vB vS vP vM vL vC vA ad nb gb wi bl bz tn isn sib pu oc
  rw [if_neg (by simp)]
  simp only [nilW_some]
  exact ⟨_, hS.fld.2.2.2, hQ⟩
theorem OfV_s {N : Nat} (hS : Sv G h t S) (hok : SOk N S) (hN : N ≤ 2 ^ 20) (hQ : ∀ h' s, Ext [] h h' → Own T_siread_Thing 5 encT h.size h' s (ofS S o) → Q [.slice s.a s.n s.c] h') : S_siread_Table_Of (some ⟨t, 0, none⟩) o h Q := by
  obtain ⟨g1, mb, C, g2, g3, g4⟩ := hS
  have hlen := thgs_len hok.nd o
  have hb := hok.bnd
  unfold ofS at hQ
  rw [← g3] at hQ hlen
  exact Of_s g2 o (by rw [g3] at hlen ⊢; omega) hQ
theorem ownersV_s {N : Nat} (hS : Sv G h t S) (hok : SOk N S) {f : Nat} {cs : Array Value} (p : ThingM → Bool)
    (hf : ∀ (x : ThingM) (g : Hp) (K : List Value → Hp → Prop), Ext [] h g → (∀ g', Ext [] g g' → K [.bool (p x)] g') → Fn PP f ((#[] ++ #[ekT x]) ++ cs) g K)
    (hQ : ∀ h' s, Ext [] h h' → Own T_int 1 encIL h.size h' s (ownersS S p) → Q [.slice s.a s.n s.c] h') : S_siread_Table_owners (some ⟨t, 0, none⟩) f cs h Q := by
  obtain ⟨g1, mb, C, g2, g3, g4⟩ := hS
  have hl := hok.owners
  have hl2 : C.length = S.m.length := by rw [← g3]; simp [amap]
  unfold ownersS at hQ
  rw [← g3] at hQ
  exact owners_s g2 p (by omega) hf hQ
/-- Every owner of a list takes a thing. -/
theorem takes_s {N : Nat} {l : List Int} (hS : Sv G h t S) (hok : SOk N S) (hN : N + l.length ≤ 2 ^ 20) (hl : ∀ o ∈ l, 0 ≤ o ∧ o ≤ 200) (x : ThingM) {X : List Value → Hp → Prop}
    (hend : ∀ g, Sv G g t (takesS S l x) → KG G h g → X [.int .i64 (l.length : Int)] g)
    (hstep : ∀ (i : Nat) (hi : i < l.length) (g : Hp), KG G h g → (S_siread_Table_take (some ⟨t, 0, none⟩) l[i] x.kind x.name x.rel x.index x.n g fun vs g2 => vs = [] ∧ X [.int .i64 (IntKind.wrap .i64 ((i : Int) + (1 : Int)))] g2) → X [.int .i64 (i : Int)] g) : X [.int .i64 (0 : Int)] h := by
  refine loopI l.length (fun i g => Sv G g t (takesS S (l.take i) x) ∧ KG G h g) (fun g hI => hend g (by have := hI.1; rw [List.take_of_length_le (Nat.le_refl _)] at this; exact this) hI.2) (fun i g hi hI hnext => ?_) h ⟨hS, .refl _ _⟩
  refine hstep i hi g hI.2 ?_
  obtain ⟨ok1, _⟩ := takesS_ok x (l.take i) hok fun o ho => hl o (List.mem_of_mem_take ho)
  refine take_s hI.1 ok1 (by rw [List.length_take]; omega) (hl _ (List.getElem_mem hi)) x fun g2 hS2 hk2 => ⟨rfl, ?_⟩
  rw [wrap64 (by omega) (by omega)]
  refine hnext g2 ⟨?_, hI.2.trans hk2⟩
  rw [List.take_add_one, List.getElem?_eq_getElem hi]
  have e : takesS S (l.take i ++ [l[i]]) x = takeS (takesS S (l.take i) x) l[i] x := by unfold takesS; rw [List.foldl_append]; rfl
  rw [Option.toList, e]
  exact hS2
theorem beqT (x y : ThingM) : (x.kind == y.kind && (x.name == y.name && (x.rel == y.rel && (x.index == y.index && (x.n == y.n && true))))) = decide (x = y) := by
  rw [Bool.eq_iff_iff]
  cases x
  cases y
  simp [beq_bytes13]
end
end Go.Lift
namespace Go.Lift
open Go Go.Proofs Go.RowKit Go.Shelf
set_option maxRecDepth 100000
section
variable {G : Nat → Prop} {h : Hp} {t m : Nat} {S : SM} {o : Int} {Q : List Value → Hp → Prop}
theorem owners1_s {b : Nat} (y x : ThingM) (hb : Blk h b (encT x).toArray T_siread_Thing) (hQ : ∀ h', Ext [] h h' → Q [.bool (ownP x y)] h') : Fn PP 159 ((#[] ++ #[ekT y]) ++ #[.pointer (some ⟨b, 0, none⟩)]) h Q := by
  refine O_siread_Table_Owners_1 _ _ _ _ _ _ ?_
  delta F_siread_Table_Owners_1 rI rB rS rP rM rL vI vB vS vP vM vL vC vA ad nb gb wi bl bz tn isn sib pu oc
  refine newI fun h1 s1 b1 e1 => ?_
  have b1' : Blk h1 h.size (encT y).toArray T_siread_Thing := b1
  have hb1 := e1.get hb (by simp)
  refine rd5I b1' ?_
  refine rd5I hb1 ?_
  rw [beqT y x]
  unfold ownP at hQ
  by_cases e : y = x
  · rw [if_pos (by simpa using e)]
    have := hQ h1 e1
    simpa [e] using this
  · rw [if_neg (by simpa using e)]
    simp only [e, decide_false, Bool.false_or] at hQ
    refine rd5I hb1 ?_
    refine fine_s x fun h2 e2 => ⟨_, rfl, ?_⟩
    have b2 := e2.get b1' (by simp)
    have hb2 := e2.get hb1 (by simp)
    have e12 := e1.trans0 e2
    cases hf : fineT x with
    | false =>
      rw [if_neg (by decide)]
      have := hQ h2 e12
      simpa [hf] using this
    | true =>
      rw [if_pos rfl]
      refine rd5I b2 ?_
      refine rd5I hb2 ?_
      refine rel_s x fun h3 e3 => ⟨_, _, _, _, _, rfl, ?_⟩
      have b3 := e3.get b2 (by simp)
      have r : ∀ i, rd h3 (Addr.add (Addr.mk h.size 0 none) i) = (encT y).toArray[i]? := fun i => by rw [addr_mk, rd_blk b3, Nat.zero_add]
      refine ⟨r 0, r 1, r 2, r 3, r 4, ?_⟩
      have := hQ h3 (e12.trans0 e3)
      rw [hf, Bool.true_and, ← beqT] at this
      exact this
theorem btlInj {a b : ByteArray} (e : a.toList = b.toList) : a = b := by
  have : ∀ s : ByteArray, s.toList = s.data.toList := fun s => ByteArray.toList_eq s
  rw [this, this] at e
  cases a
  cases b
  simp only at e
  congr 1
  exact Array.toList_inj.1 e
theorem btlEq (a b : ByteArray) : (a.toList == b.toList) = decide (a = b) := by
  rw [Bool.eq_iff_iff, beq_iff_eq, decide_eq_true_eq]
  constructor
  · intro e
    exact btlInj e
  · rintro rfl; rfl
theorem drop1_s (y : ThingM) (hQ : ∀ h', Ext [] h h' → Q [.bool true] h') : Fn PP 168 ((#[] ++ #[ekT y]) ++ #[]) h Q := by
  refine O_siread_Table_Drop_1 _ _ _ _ _ ?_
  delta F_siread_Table_Drop_1 rI rB rS rP rM rL vI vB vS vP vM vL vC vA ad nb gb wi bl bz tn isn sib pu oc
  exact newI fun h1 s1 b1 e1 => hQ h1 e1
theorem Owners_s {N : Nat} (hS : Sv G h t S) (hok : SOk N S) (x : ThingM) (hQ : ∀ h' s, Ext [] h h' → Own T_int 1 encIL h.size h' s (ownersS S (ownP x)) → Q [.slice s.a s.n s.c] h') : S_siread_Table_Owners (some ⟨t, 0, none⟩) x.kind x.name x.rel x.index x.n h Q := by
  refine O_siread_Table_Owners _ _ _ _ _ _ ?_
  delta F_siread_Table_Owners rI rB rS rP rM rL vI vB vS vP vM vL vC vA ad nb gb wi bl bz tn isn sib pu oc
  refine newI fun h1 s1 b1 e1 => ?_
  have b1' : Blk h1 h.size (encT x).toArray T_siread_Thing := b1
  rw [if_neg (by simp)]
  refine ownersV_s (hS.ext0 e1) hok (ownP x) (fun y g K e hK => owners1_s y x (e.get b1' (by simp)) hK) fun h2 s e2 ho => ⟨s, rfl, ?_⟩
  exact hQ h2 s (e1.trans0 e2) (ho.mono (by omega))
/-- The owners that were found, and the view beside them. -/
theorem own_gx {h h' : Hp} {s : Sl} {xs : List Int} {T : TypeId} {lo : Nat} (ho : Own T 1 encIL lo h' s xs) (hlo : h.size ≤ lo) : ∀ b ∈ sBlk s, GX G h h' b := fun b hb => by
  have := own_ltG ho b hb
  exact Or.inr ⟨by omega, this.2⟩
theorem Sv.del (hS : Sv G h t S) (o : Int) : ∃ mb, rd h (Addr.add ⟨t, 0, none⟩ 2) = some (.map (some mb)) ∧ ∃ es c, h[mb]? = some (.map es c) ∧ KeysLike (.int .i64 o) es ∧ ∀ h1, Ext [mb] h h1 → h1[mb]? = some (mdel (.int .i64 o) es c) → Sv G h1 t { S with m := adel S.m o } ∧ KG G h h1 := by
  obtain ⟨g1, mb, C, g2, g3, g4⟩ := hS
  obtain ⟨es, c, p1, p2, p3⟩ := g2.outer.del o
  refine ⟨mb, by rw [addr_mk, rd_blk g2.blk]; rfl, es, c, p1, p2, fun h1 he hb => ?_⟩
  have hm := p3 h1 hb
  have hz := he.sz
  have hne := g2.t_ne
  have hfa : ∀ o', afind (adel C o) o' = if o' = o then none else afind C o' := fun o' => afind_adel g2.nd o o'
  have hsub : ∀ o' c', afind (adel C o) o' = some c' → afind C o' = some c' := fun o' c' hf => by
    rw [hfa] at hf
    split at hf
    · cases hf
    · exact hf
  refine ⟨⟨fun b hb => by have := g1 b hb; omega, mb, adel C o, ⟨he.get g2.blk (by simp; exact hne.1.symm), ?_, (adel_nodup g2.nd o).1, fun o' c' hf => ?_, fun o' c' hf => g2.tnd o' c' (hsub _ _ hf), fun o' c' hf => Nat.zero_le _, fun o1 o2 c1 c2 h1 h2 hn => g2.sep o1 o2 c1 c2 (hsub _ _ h1) (hsub _ _ h2) hn, fun o' c' hf => g2.smb o' c' (hsub _ _ hf), Nat.zero_le _, Nat.zero_le _⟩, ?_, ?_⟩, kg_ext he g1 fun b hb => ?_⟩
  · rw [← adel_amap]
    exact hm
  · exact (g2.inner o' c' (hsub _ _ hf)).ext he (by simp; exact g2.smb o' c' (hsub _ _ hf))
  · show amap CM.l (adel C o) = _
    rw [← adel_amap, show amap CM.l C = S.m from g3]
  · intro b hb
    rcases hb with hb | hb | ⟨o', c2, hc2, rfl⟩
    · exact g4 b (Or.inl hb)
    · exact g4 b (Or.inr (Or.inl hb))
    · exact g4 _ (Or.inr (Or.inr ⟨o', c2, hsub _ _ hc2, rfl⟩))
  · simp at hb
    subst hb
    exact g4 _ (Or.inr (Or.inl rfl))
theorem Sv.setCsn (hS : Sv G h t S) (v : Int) {K : Hp → Prop} (H : ∀ h', Sv G h' t { S with csn := v } → KG G h h' → K h') :
    stOk h (Addr.add ⟨t, 0, none⟩ 4) 1 ∧ wth (wrs h (Addr.add ⟨t, 0, none⟩ 4) 0 [.int .i64 v]) K := by
  obtain ⟨g1, mb, C, g2, g3, g4⟩ := hS
  rw [addr_mk]
  refine st_blk g2.blk (by simp) fun h1 s1 b1 e1 => H h1 ⟨fun b hb => by have := g1 b hb; omega, mb, C, g2.setT b1 e1, g3, g4⟩ (kg_ext e1 g1 fun b hb => ?_)
  simp at hb
  subst hb
  exact g4 _ (Or.inl rfl)
theorem Drop_s {N : Nat} (hS : Sv G h t S) (hok : SOk N S) (hN : N ≤ 2 ^ 20) (o : Int) (hQ : ∀ h', Sv G h' t (dropS S o) → KG G h h' → Q [] h') : S_siread_Table_Drop (some ⟨t, 0, none⟩) o h Q := by
  refine O_siread_Table_Drop _ _ ?_
  delta F_siread_Table_Drop rI rB rS rP rM rL vI vB vS vP vM vL vC vA ad nb gb wi bl bz tn isn sib pu oc
  rw [if_neg (by simp)]
  refine loseV_s hS hok hN (fun _ => true) (fun y g K _ hK => drop1_s y hK) fun h2 hS2 hk2 => ⟨rfl, ?_⟩
  simp only [nilW_some]
  obtain ⟨mb, r1, es, c, p1, p2, p3⟩ := hS2.del o
  refine ⟨_, r1, mb, es, c, rfl, p1, p2, setI p1 fun h3 s3 b3 e3 => ?_⟩
  obtain ⟨hS3, hk3⟩ := p3 h3 e3 b3
  have hd : dropS S o = { loseS S o (fun _ => true) with m := adel (loseS S o fun _ => true).m o, csn := if o = 0 then 0 else (loseS S o fun _ => true).csn } := rfl
  by_cases e : o = 0
  · rw [if_pos (by simpa using e)]
    refine hS3.setCsn 0 fun h4 hS4 hk4 => hQ h4 ?_ ((hk2.trans hk3).trans hk4)
    rw [hd, if_pos e]
    exact hS4
  · rw [if_neg (by simpa using e)]
    refine hQ h3 ?_ (hk2.trans hk3)
    rw [hd, if_neg e]
    exact hS3
theorem mxI_max (a b : Int) : mxI a b = max a b := by unfold mxI; split <;> omega
theorem Fold_s {N : Nat} (hS : Sv G h t S) (hok : SOk N S) (hN : N ≤ 2 ^ 20) (o csn : Int) (hQ : ∀ h', Sv G h' t (foldS S o csn) → KG G h h' → Q [] h') : S_siread_Table_Fold (some ⟨t, 0, none⟩) o csn h Q := by
  refine O_siread_Table_Fold _ _ _ ?_
  delta F_siread_Table_Fold rI rB rS rP rM rL vI vB vS vP vM vL vC vA ad nb gb wi bl bz tn isn sib pu oc
  intro J hJ
  rw [if_neg (by simp)]
  refine one_s o ⟨_, rfl, ?_⟩
  refine hJ _ _ ?_
  by_cases ho : o < 1 ∨ o > 200
  · rw [if_pos (by simp; omega)]
    refine hQ h ?_ (.refl _ _)
    unfold foldS
    rw [if_pos ho]
    exact hS
  · rw [if_neg (by simp; omega)]
    refine OfV_s hS hok hN fun h1 s e1 hos => ⟨s, rfl, ?_⟩
    have hS1 := hS.more e1
    have hk1 := kg_ext0 e1 hS.1
    have hGo : ∀ b ∈ sBlk s, GX G h h1 b := fun b hb => by
      have := own_ltG hos b hb
      exact Or.inr ⟨by omega, this.2⟩
    refine Drop_s hS1 hok hN o fun h2 hS2 hk2 => ⟨rfl, ?_⟩
    have hos2 := hos.kg hk2 hGo
    have hn := hos.1
    obtain ⟨d1, d2, d3, d4, d5, d6, d7⟩ := dropS_ok hok (o := o) (by omega)
    have hl : (ofS S o).length = (thgs S.m o).length := sortC_len
    have hb2 := hok.bnd
    intro X hX
    simp only [nilW_some] at hX
    refine loopI (ofS S o).length (fun i g => Sv (GX G h h1) g t (((ofS S o).take i).foldl (fun S x => takeS S 0 x) (dropS S o)) ∧ KG (GX G h h1) h2 g) (fun g hI => ?_) (fun i g hi hI hnext => ?_) h2 ⟨hS2, .refl _ _⟩
    · refine hX _ _ ?_
      rw [if_neg (by simp [hn])]
      obtain ⟨hSg, hkg⟩ := hI
      rw [List.take_of_length_le (Nat.le_refl _)] at hSg
      refine ⟨_, hSg.fld.2.2.2, ?_⟩
      refine hSg.setCsn _ fun h3 hS3 hk3 => hQ h3 ?_ (((hk1.trans (hk2.anti gx_l)).trans (hkg.anti gx_l)).trans (hk3.anti gx_l))
      rw [mxI_max] at hS3
      unfold foldS
      rw [if_neg ho]
      exact hS3.anti gx_l
    · refine hX _ _ ?_
      rw [if_pos (by simp; omega)]
      obtain ⟨hSg, hkg⟩ := hI
      obtain ⟨a, ha, hrd⟩ := rdT (hos2.kg hkg hGo).sl.reads hi
      rw [ha]
      simp only [nilW_some]
      refine ⟨by omega, by omega, ?_⟩
      rw [Int.toNat_natCast]
      refine hrd _ ?_
      refine cellT (x := (ofS S o)[i]) rfl fun g2 e3 z3 b3 => ?_
      refine rd5I b3 ?_
      obtain ⟨ok1, _⟩ := foldTakes_ok ((ofS S o).take i) (d1.up (Nat.le_refl _))
      refine take_s (hSg.ext0 e3) ok1 (by rw [List.length_take]; omega) (by omega) _ fun g3 hS3 hk3 => ⟨rfl, ?_⟩
      rw [wrap64 (by omega) (by omega)]
      refine hnext g3 ⟨?_, (hkg.trans (kg_ext0 e3 hSg.1)).trans hk3⟩
      rw [List.take_add_one, List.getElem?_eq_getElem hi, List.foldl_append]
      exact hS3
end
end Go.Lift
namespace Go.Lift
open Go Go.Proofs Go.RowKit Go.Shelf
set_option maxRecDepth 100000
structure StepS where
  op : Int
  xid : Int
  csn : Int
  a : ThingM
  b : ThingM
def encStep (x : StepS) : List Value := [.int .i64 x.op, .int .i64 x.xid, .int .i64 x.csn, .int .i64 x.a.kind, .string x.a.name, .int .i64 x.a.rel, .string x.a.index, .int .i64 x.a.n, .int .i64 x.b.kind, .string x.b.name, .int .i64 x.b.rel, .string x.b.index, .int .i64 x.b.n]
def okT (o : Int) (x : ThingM) : Prop := (1 ≤ o ∧ o ≤ 200) ∧ 1 ≤ x.kind ∧ x.kind ≤ 4
instance (o : Int) (x : ThingM) : Decidable (okT o x) := by unfold okT; exact inferInstance
def TakeS (S : SM) (o : Int) (x : ThingM) : SM := if okT o x then takeS S o x else S
theorem dropS_any {N : Nat} {S : SM} (h : SOk N S) (o : Int) : SOk N (dropS S o) ∧ (dropS S o).each = S.each ∧ (dropS S o).all = S.all := by
  by_cases ho : 0 ≤ o ∧ o ≤ 200
  · obtain ⟨d1, _, _, _, d5, d6, _⟩ := dropS_ok h ho
    exact ⟨d1, d5, d6⟩
  · have hn : afind S.m o = none := (afind_none _ _).2 fun hm => ho (h.own o hm)
    have hl : loseS S o (fun _ => true) = S := by unfold loseS; rw [hn]
    have hd : dropS S o = { S with m := adel S.m o, csn := if o = 0 then 0 else S.csn } := by
      show ({ loseS S o (fun _ => true) with m := adel (loseS S o fun _ => true).m o, csn := if o = 0 then 0 else (loseS S o fun _ => true).csn } : SM) = _
      rw [hl]
    have ha : adel S.m o = S.m := by
      have : ∀ m : MM, afind m o = none → adel m o = m := by
        intro m
        induction m with
        | nil => intro _; rfl
        | cons p m ih =>
          obtain ⟨a, u⟩ := p
          intro hf
          simp only [afind] at hf
          simp only [adel]
          split at hf
          · cases hf
          · rename_i hne
            rw [if_neg hne, ih hf]
      exact this _ hn
    rw [hd, ha]
    exact ⟨⟨h.nd, h.own, h.tnd, h.kind, h.one, h.each, h.fine, h.all, h.ea, h.al, h.bnd⟩, rfl, rfl⟩
section
variable {G : Nat → Prop} {h : Hp} {t m : Nat} {S : SM} {o : Int} {Q : List Value → Hp → Prop}
/-- A new table. -/
theorem New_s (hG : ∀ b, G b → b < h.size) {each all : Int} (he : 1 ≤ each ∧ each ≤ 10000) (ha : 1 ≤ all ∧ all ≤ 10000) (hQ : ∀ h' t, Sv G h' t ⟨each, all, [], 0, 0⟩ → Ext [] h h' → Q [.pointer (some ⟨t, 0, none⟩), .int .i64 0] h') : S_siread_New each all h Q := by
  refine O_siread_New _ _ ?_
  delta F_siread_New rI rB rS rP rM rL vI vB vS vP vM vL vC vA ad nb gb wi bl bz tn isn sib pu oc
  intro J hJ
  rw [if_neg (by simp; omega), if_neg (by simp; omega), if_neg (by simp; omega), decide_eq_false (by omega)]
  refine hJ _ _ ?_
  rw [if_neg (by decide)]
  refine newI fun h1 s1 b1 e1 => ?_
  refine newI fun h2 s2 b2 e2 => ?_
  have b1' := e2.get b1 (by simp)
  refine hQ h2 h1.size ⟨fun b hb => by have := hG b hb; omega, h.size, [], ⟨b2, ⟨#[], 0, b1', rfl, Born.nil 0⟩, by simp, fun o c hf => (by cases hf), fun o c hf => (by cases hf), fun o c hf => (by cases hf), fun o o' c c' hf => (by cases hf), fun o c hf => (by cases hf), Nat.zero_le _, Nat.zero_le _⟩, rfl, ?_⟩ (e1.trans0 e2)
  rintro b (rfl | rfl | ⟨o, c, hf, _⟩) hg
  · have := hG _ hg; omega
  · have := hG _ hg; omega
  · cases hf
theorem SOk.new {each all : Int} (he : 1 ≤ each ∧ each ≤ 10000) (ha : 1 ≤ all ∧ all ≤ 10000) : SOk 0 ⟨each, all, [], 0, 0⟩ :=
  ⟨by simp, by simp, fun o l hf => (by cases hf), fun o l hf => (by cases hf), fun o l hf => (by cases hf), fun o l hf => (by cases hf), rfl, by first | omega | (simp only; omega), he, ha, Nat.le_refl _⟩
theorem TakeV_s {N : Nat} (hS : Sv G h t S) (hok : SOk N S) (hN : N ≤ 2 ^ 20) (x : ThingM) (hQ : ∀ h', Sv G h' t (TakeS S o x) → KG G h h' → Q [.int .i64 (if okT o x then 0 else 1)] h') :
    S_siread_Table_Take (some ⟨t, 0, none⟩) o x.kind x.name x.rel x.index x.n h Q := by
  refine Take_s hS hok hN x fun h' hS' hk' => hQ h' ?_ hk'
  unfold TakeS
  by_cases e : okT o x
  · have e' : (1 ≤ o ∧ o ≤ 200) ∧ 1 ≤ x.kind ∧ x.kind ≤ 4 := e
    rw [if_pos e'] at hS'
    rw [if_pos e]
    exact hS'
  · have e' : ¬ ((1 ≤ o ∧ o ≤ 200) ∧ 1 ≤ x.kind ∧ x.kind ≤ 4) := e
    rw [if_neg e'] at hS'
    rw [if_neg e]
    exact hS'
/-! no table -/
/-! steps -/
theorem rdSt {v : Nat} {x : StepS} {T : TypeId} (hb : Blk h v (encStep x).toArray T) (i : Nat) : rd h (Addr.add (Addr.mk v 0 none) i) = (encStep x)[i]? := by rw [addr_mk, rd_blk hb, Nat.zero_add]; simp
theorem rdSt2 {v : Nat} {x : StepS} {T : TypeId} (hb : Blk h v (encStep x).toArray T) (i j : Nat) : rd h (Addr.add (Addr.add (Addr.mk v 0 none) i) j) = (encStep x)[i + j]? := by rw [addr_add_add]; exact rdSt hb _
theorem rdB {v : Nat} {x : StepS} {T : TypeId} {K : Int → ByteArray → Int → ByteArray → Int → Prop} (hb : Blk h v (encStep x).toArray T) (H : K x.b.kind x.b.name x.b.rel x.b.index x.b.n) :
    ∃ n1 : Int, rd h (Addr.add (Addr.add (Addr.mk v 0 none) 8) 0) = some (Value.int .i64 n1) ∧ ∃ s2 : ByteArray, rd h (Addr.add (Addr.add (Addr.mk v 0 none) 8) 1) = some (Value.string s2) ∧ ∃ n3 : Int, rd h (Addr.add (Addr.add (Addr.mk v 0 none) 8) 2) = some (Value.int .i64 n3) ∧ ∃ s4 : ByteArray, rd h (Addr.add (Addr.add (Addr.mk v 0 none) 8) 3) = some (Value.string s4) ∧ ∃ n5 : Int, rd h (Addr.add (Addr.add (Addr.mk v 0 none) 8) 4) = some (Value.int .i64 n5) ∧ K n1 s2 n3 s4 n5 :=
  ⟨_, rdSt2 hb 8 0, _, rdSt2 hb 8 1, _, rdSt2 hb 8 2, _, rdSt2 hb 8 3, _, rdSt2 hb 8 4, H⟩
end
end Go.Lift

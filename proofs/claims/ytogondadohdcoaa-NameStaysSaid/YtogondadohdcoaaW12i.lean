/- Numbers as keys of maps, in their order. -/
import Derived.Test.YtogondadohdcoaaIt12
import Derived.Test.YtogondadohdcoaaLvY
import Derived.Test.YtogondadohdcoaaLvZ
import Derived.Test.YtogondadohdcoaaL10s
import Derived.Test.YtogondadohdcoaaW12b
import Derived.Shelf.Abstract
import Derived.Test.YtogondadohdcoaaItO
set_option linter.unusedSimpArgs false
set_option linter.unusedVariables false
namespace Go.Lift
open Go Go.Proofs Go.RowKit Go.Shelf
set_option maxRecDepth 100000
abbrev sE : ByteArray := ByteArray.mk #[]
abbrev encI (n : Int) : Value := .int .i64 n
abbrev encIL (n : Int) : List Value := [.int .i64 n]
theorem encIL_len (n : Int) : (encIL n).length = 1 := rfl
theorem encIL_one (n : Int) : ∀ v ∈ encIL n, oneCell v = true := by
  intro v hv
  simp at hv
  subst hv
  rfl
theorem zc_int : (zc PP T_int).size = 1 := by kernel_rfl
theorem own_ne {α : Type} {T : TypeId} {sz lo : Nat} {enc : α → List Value} {h : Hp} {s : Sl} {xs : List α} (ho : Own T sz enc lo h s xs) {b : Nat} {o : Obj} (hb : h[b]? = some o) (hno : ∀ c fz, o ≠ .cells c T fz) : ∀ a, s.a = some a → a.block ≠ b := by
  intro a ha e
  obtain ⟨b', c, h1, _, hc, _⟩ := ho.2.2 a ha
  rw [h1] at e
  simp only at e
  subst e
  unfold Blk at hc
  rw [hb] at hc
  exact hno _ _ (Option.some.inj hc)
/-- A map, or none. -/
def MapOr {K V : Type} (ek : K → Value) (ev : V → Value) (h : Hp) (r : Option Nat) (T : List (K × V)) : Prop := match r with | none => T = [] | some m => IsMap ek ev h m T
section
variable {K V : Type} {ek : K → Value} {ev : V → Value} {h h' : Hp} {r : Option Nat} {T : List (K × V)}
theorem MapOr.ext {S : List Nat} (hm : MapOr ek ev h r T) (he : Ext S h h') (hn : ∀ m, r = some m → m ∉ S) : MapOr ek ev h' r T := by
  cases r with
  | none => exact hm
  | some m => exact IsMap.ext hm he (hn m rfl)
theorem MapOr.mapAt (hm : MapOr ek ev h r T) : ∃ es, mapAt h r es ∧ EntsOf ek ev es T := by
  cases r with
  | none => exact ⟨#[], Or.inl ⟨rfl, rfl⟩, by have : T = [] := hm; subst this; rfl⟩
  | some m => exact IsMap.mapAt hm
end
section
variable {h : Hp} {Q : List Value → Hp → Prop}
theorem CollectI {V : Type} {ev : V → Value} {B : Nat} {r : Option Nat} {T : List (Int × V)} {TM : TypeId} (hB : h[B]? = some (.cells #[.map r] TM)) (hm : MapOr encI ev h r T) (hl : T.length ≤ 2 ^ 28)
    (hQ : ∀ h' s ks, ks.Perm (T.map Prod.fst) → Own T_int 1 encIL h.size h' s ks → Ext [] h h' → Q [.slice s.a s.n s.c] h') : S_slices_Collect_int 47 #[.pointer (some ⟨B, 0, none⟩)] h Q := by
  refine O_slices_Collect_int _ _ ?_
  unfold F_slices_Collect_int
  refine fn_of_calls Try.func57 (c := bodyOf Try.f57) (by kernel_rfl) (by kernel_rfl) (O_asqI _ _ ?_)
  unfold F_asI
  refine newI fun h1 s1 b1 e1 => ⟨47, #[], #[.pointer (some ⟨B, 0, none⟩)], rfl, enters_of Try.func47 (by kernel_rfl) rfl, fun L hy => ?_⟩
  obtain ⟨h2, hh2⟩ : ∃ h2, (h1.push (.deferred (some []))).push (.loop L) = h2 := ⟨_, rfl⟩
  rw [hh2]
  have z2 : h2.size = h1.size + 2 := by rw [← hh2]; simp
  have bD : h2[h1.size]? = some (.deferred (some [])) := by rw [← hh2]; exact push_old (push_get h1 _) _
  have bL : h2[h1.size + 1]? = some (.loop L) := by rw [← hh2]; have := push_get (h1.push (.deferred (some []))) (.loop L); rwa [Array.size_push] at this
  have e2 : Ext [] h1 h2 := by rw [← hh2]; exact (Ext.push [] h1 _).trans0 (Ext.push [] _ _)
  have f2 := e1.trans0 e2
  have hBl := blk_lt hB
  refine O_ikI hy ⟨B, 0, none⟩ ?_
  unfold F_ikI
  refine ⟨r, by rw [rd_blk (f2.get hB (by simp))]; rfl, ?_⟩
  have hm2 := hm.ext f2 (by simp)
  have own0 : ∀ g, Own T_int 1 encIL h.size g ⟨none, 0, 0⟩ [] := fun g => Own.nil _ _
  have fin : ∀ g (s : Sl) (ks : List Int), ks.Perm (T.map Prod.fst) → Ext [] h g → g[h.size]? = some (.cells #[.slice s.a s.n s.c] 34) → Own T_int 1 encIL h.size g s ks → g[h1.size]? = some (.deferred (some [])) → g[h1.size + 1]? = some (.loop L) →
      g[h1.size + 1]? = some (.loop L) ∧ wth (Array.setIfInBounds g (h1.size + 1) (.loop { L with state := .exhausted })) fun h3 =>
    ∃ s : Sl, rd h3 (Addr.mk (Array.size h) 0 none) = some (Value.slice s.a s.n s.c) ∧ h3[h1.size]? = some (.deferred (some [])) ∧ ∃ l3 : Sl, [(Value.slice s.a s.n s.c)] = [(Value.slice l3.a l3.n l3.c)] ∧ Q [(Value.slice l3.a l3.n l3.c)] (Array.setIfInBounds h3 h1.size (.deferred none)) := by
    intro g s ks hp eg bg ho gD gL
    refine ⟨gL, setI gL fun g1 z1 k1 d1 => ⟨s, by rw [rd_blk (d1.get bg (by simp; omega))]; rfl, d1.get gD (by simp), s, rfl, ?_⟩⟩
    have gD1 := d1.get gD (by simp)
    have d2 := Ext.set g1 h1.size (.deferred none)
    refine hQ _ s ks hp ((ho.ext d1 fun a ha hmm => own_ne ho gL (by simp) a ha (by simpa using hmm)).ext d2 fun a ha hmm => own_ne ho gD (by simp) a ha (by simpa using hmm)) ((eg.trans d1 fun b hb hlt => ?_).trans d2 fun b hb hlt => ?_)
    · simp at hb; omega
    · simp at hb; omega
  cases r with
  | none =>
    have hT : T = [] := hm
    subst hT
    refine ⟨.mapIter none 0 #[] 0, Or.inl ⟨rfl, rfl⟩, newI fun h3 s3 b3 e3 => ?_⟩
    intro X hX
    refine hX _ ⟨rfl, _, b3, .nil _ _ _, fun _ => ?_, fun k v o hs => by cases hs⟩
    exact fin h3 ⟨none, 0, 0⟩ [] (by simp) (f2.trans0 e3) (e3.get (e2.get b1 (by simp)) (by simp)) (own0 _) (e3.get bD (by simp)) (e3.get bL (by simp))
  | some m =>
    obtain ⟨o, ho, hR⟩ := range_start (h := h2) hm2
    refine ⟨o, ho, newI fun h3 s3 b3 e3 => ?_⟩
    have hml : m < h.size := IsMap.lt hm
    intro X hX
    refine rangeI (ek := encI) (ev := ev) (b := h2.size) (m := m) (T := T) hX (fun done g => ∃ s : Sl, Ext [] h g ∧ h3.size ≤ g.size ∧ g[h.size]? = some (.cells #[.slice s.a s.n s.c] 34) ∧ Own T_int 1 encIL h.size g s (done.map Prod.fst) ∧ g[h1.size]? = some (.deferred (some [])) ∧ g[h1.size + 1]? = some (.loop L) ∧ ∀ b ∈ sBlk s, b ≠ h2.size) ?_ ?_ h3 []
      ⟨⟨none, 0, 0⟩, f2.trans0 e3, Nat.le_refl _, e3.get (e2.get b1 (by simp)) (by simp), own0 _, e3.get bD (by simp), e3.get bL (by simp), by simp [sBlk]⟩ (hR b3 e3) rfl rfl
    · rintro done g ⟨s, eg, zg, bg, og, gD, gL, _⟩ hr hp
      exact fin g s _ (hp.map _) eg bg og gD gL
    · rintro done p g e g' ⟨s, eg, zg, bg, og, gD, gL, hne⟩ ⟨rest, hp⟩ hk hv f1 sz1 hr1 next
      have hlen := hp.length_eq
      simp at hlen
      have hgz := eg.sz
      obtain ⟨x, v⟩ := p
      have og1 := og.ext f1 fun a ha hmm => hne _ (mem_sBlk.2 ⟨a, ha, rfl⟩) (by simpa using hmm)
      have bg1 := f1.get bg (by simp; omega)
      have gD1 := f1.get gD (by simp; omega)
      have gL1 := f1.get gL (by simp; omega)
      have eg1 : Ext [] h g' := eg.trans f1 fun b hb hlt => by simp at hb; omega
      refine ⟨x, hk, _, hv, rfl, ?_⟩
      refine O_asI ⟨gL1, gL1, setI gL1 fun g4 z4 k4 d4 => ?_⟩
      have bg4 := d4.get bg1 (by simp; omega)
      have gD4 := d4.get gD1 (by simp)
      have hd2 := f1.sz
      have og4 := og1.ext d4 fun a ha hmm => own_ne og1 gL1 (by simp) a ha (by simpa using hmm)
      refine ⟨s, by rw [rd_blk bg4]; rfl, newI fun g5 z5 c5 d5 => ?_⟩
      have og5 := og4.ext0 d5
      have k5 := d5.get k4 (by simp)
      have bg5 := d5.get bg4 (by simp)
      have gD5 := d5.get gD4 (by simp)
      have hlo : h.size ≤ g5.size := by omega
      have hln := og5.1
      refine oneG (k := x) encIL_len encIL_one zc_int (by decide) og5 c5 (by simp; omega) hlo fun s6 g6 o6 d6 hb6 => ?_
      have bg6 := d6.get bg5 fun hmm => by obtain ⟨a, ha, hb⟩ := mem_sBlk.1 hmm; exact own_ne og5 bg5 (by intro c fz e; cases e) a ha hb
      have gD6 := d6.get gD5 fun hmm => by obtain ⟨a, ha, hb⟩ := mem_sBlk.1 hmm; exact own_ne og5 gD5 (by simp) a ha hb
      have k6 := d6.get k5 fun hmm => by obtain ⟨a, ha, hb⟩ := mem_sBlk.1 hmm; exact own_ne og5 k5 (by simp) a ha hb
      refine st_blk bg6 (by simp) fun g7 z7 c7 d7 => ?_
      have c7' : g7[h.size]? = some (.cells #[.slice s6.a s6.n s6.c] 34) := c7
      have k7 := d7.get k6 (by simp; omega)
      have gD7 := d7.get gD6 (by simp; omega)
      have o7 := o6.ext d7 fun a ha hmm => own_ne o6 bg6 (by intro c fz e; cases e) a ha (by simpa using hmm)
      refine ⟨k7, ?_⟩
      show X [] _
      have d8 := Ext.set g7 (h1.size + 1) (.loop L)
      have hs := hb6
      have hs5 := own_ltG og5
      have e58 : Ext (sBlk s ++ [h.size, h1.size + 1]) g5 (Array.setIfInBounds g7 (h1.size + 1) (.loop L)) := ((d6.mono (fun b hb _ => List.mem_append_left _ hb)).trans d7 (by intro b hb _; simp at hb; subst hb; simp)).trans d8 (by intro b hb _; simp at hb; subst hb; simp)
      have e28 : Ext (sBlk s ++ [h.size, h1.size + 1]) g' (Array.setIfInBounds g7 (h1.size + 1) (.loop L)) := ((d4.mono (by intro b hb _; simp at hb; subst hb; simp)).trans0 d5).trans e58 (fun b hb _ => hb)
      have hml' : m < h.size := hml
      have hs1 := own_ltG og1
      refine next _ ⟨s6, eg1.trans e28 fun b hb hlt => ?_, ?_, d8.get c7' (by simp; omega), ?_, d8.get gD7 (by simp), ?_, ?_⟩ (hr1.ext e28 ?_ ?_)
      · rcases List.mem_append.1 hb with hb | hb
        · have := (hs1 b hb).1; omega
        · simp at hb; omega
      · have := e28.sz; omega
      · rw [List.map_append, List.map_cons, List.map_nil]
        exact o7.ext d8 fun a ha hmm => own_ne o7 k7 (by simp) a ha (by simpa using hmm)
      · exact set_blk k7
      · intro b hb
        rcases hb6 b hb with q | q
        · exact hne b q
        · omega
      · intro hmm
        rcases List.mem_append.1 hmm with q | q
        · exact hne _ q rfl
        · simp at q; omega
      · intro hmm
        rcases List.mem_append.1 hmm with q | q
        · have := (hs1 m q).1; omega
        · simp at q; omega
end
end Go.Lift

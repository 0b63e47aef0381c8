/- Things that were read: what an owner has; how many; who has such things. -/
import Derived.Test.YtifmibpjpnpcpaaW13d
import Derived.Test.YtifmibpjpnpcpaaLvZ
import Derived.Test.YtifmibpjpnpcpaaItM
set_option linter.unusedSimpArgs false
set_option linter.unusedVariables false
namespace Go.Lift
open Go Go.Proofs Go.RowKit Go.Shelf
set_option maxRecDepth 100000
section
variable {lo : Nat} {h h' : Hp} {t mb : Nat} {C : CC} {each all fine csn : Int} {Q : List Value → Hp → Prop}
theorem thgs_nd (hT : TabS lo h t mb C each all fine csn) (o : Int) : (thgs (mS C) o).Nodup := by
  unfold thgs
  rw [afind_amap]
  cases hf : afind C o with
  | none => simp
  | some c => exact hT.tnd o c hf
theorem Of_s (hT : TabS lo h t mb C each all fine csn) (o : Int) (hl : (thgs (mS C) o).length ≤ 2 ^ 28)
    (hQ : ∀ h' s, Ext [] h h' → Own T_siread_Thing 5 encT h.size h' s (sortC cmpT (thgs (mS C) o)) → Q [.slice s.a s.n s.c] h') : S_siread_Table_Of (some ⟨t, 0, none⟩) o h Q := by
  refine O_siread_Table_Of _ _ ?_
  unfold F_siread_Table_Of
  rw [if_neg (by simp)]
  simp only [nilW_some]
  obtain ⟨es, h1, h2, h3⟩ := tab_has hT o
  refine ⟨some mb, by rw [addr_mk, rd_blk hT.blk]; rfl, es, h1, h2, _, h3, ?_⟩
  refine SortedT (tab_in hT o) (by unfold tU; simpa using hl) (by rw [tU_keys]; exact thgs_nd hT o) fun h' s e ho => hQ h' s e ?_
  rw [tU_keys] at ho
  exact ho
theorem nR_snoc (l : List ThingM) (x : ThingM) (r : Int) : nR (l ++ [x]) r = nR l r + if fineT x = true ∧ x.rel = r then 1 else 0 := by
  unfold nR
  rw [List.filter_append, List.length_append]
  by_cases h1 : fineT x = true <;> by_cases h2 : x.rel = r <;> simp [h1, h2]
theorem nR_perm {l l' : List ThingM} (hp : l.Perm l') (r : Int) : nR l r = nR l' r := by unfold nR; exact (hp.filter _).length_eq
theorem MapOr.toN {K V : Type} {ek : K → Value} {ev : V → Value} {h : Hp} {r : Option Nat} {T : List (K × V)} (hm : MapOr ek ev h r T) : MapN ek ev h r T := by
  cases r <;> exact hm
/-- A thing is put into a cell of its own and handed on. -/
theorem cellT {g : Hp} {x : ThingM} {K : Hp → Prop} {n22 : Int} {s23 : ByteArray} {n24 : Int} {s25 : ByteArray} {n26 : Int} (hk : ekT x = Value.agg #[(Value.int .i64 n22), (Value.string s23), (Value.int .i64 n24), (Value.string s25), (Value.int .i64 n26)])
    (H : ∀ g', Ext [] g g' → g'.size = g.size + 1 → Blk g' g.size (encT x).toArray T_siread_Thing → K g') :
    wth (Array.push g (Obj.cells #[(Value.int .i64 (0 : Int)), (Value.string (ByteArray.mk #[])), (Value.int .i64 (0 : Int)), (Value.string (ByteArray.mk #[])), (Value.int .i64 (0 : Int))] T_siread_Thing)) fun h28 =>
        stOk h28 (Addr.mk (Array.size g) 0 none) 5 ∧ wth (wrs h28 (Addr.mk (Array.size g) 0 none) 0 [(Value.int .i64 n22), (Value.string s23), (Value.int .i64 n24), (Value.string s25), (Value.int .i64 n26)]) K := by
  refine newI fun h1 s1 b1 e1 => ?_
  refine st_blk b1 (by simp) fun h2 s2 b2 e2 => ?_
  refine H h2 (e1.trans e2 fun b hb hlt => by simp at hb; omega) (by omega) ?_
  have e : (encT x).toArray = #[(Value.int .i64 n22), (Value.string s23), (Value.int .i64 n24), (Value.string s25), (Value.int .i64 n26)] := Value.agg.inj hk
  rw [e]
  exact b2
theorem count_s (hT : TabS lo h t mb C each all fine csn) (o r : Int) (hl : (thgs (mS C) o).length ≤ 2 ^ 28) (hQ : ∀ h', Ext [] h h' → Q [.int .i64 (nR (thgs (mS C) o) r : Nat)] h') : S_siread_Table_count (some ⟨t, 0, none⟩) o r h Q := by
  refine O_siread_Table_count _ _ _ ?_
  unfold F_siread_Table_count
  simp only [nilW_some]
  obtain ⟨es, h1, h2, h3⟩ := tab_has hT o
  refine ⟨some mb, by rw [addr_mk, rd_blk hT.blk]; rfl, es, h1, h2, _, h3, ?_⟩
  have hin := (tab_in hT o).toN
  generalize thgs (mS C) o = l at hin hl hQ
  obtain ⟨io, hio, hR⟩ := rangeO_start (h := h) hin
  refine ⟨io, hio, newI fun h2 s2 b2 e2 => ?_⟩
  intro X hX
  refine rangeV (ek := ekT) (ev := evU) (T := tU l) (r := (afind C o).map CM.b) (A := Int) (va := fun n => [.int .i64 n]) hX (fun done a g => Ext [] h g ∧ h2.size ≤ g.size ∧ a = (nR (done.map Prod.fst) r : Nat)) ?_ ?_ h2 [] 0 ?_ (hR b2 e2)
  · rintro done a g ⟨eg, zg, rfl⟩ hp
    have := hQ g eg
    rw [← tU_keys l, ← nR_perm (hp.map Prod.fst) r] at this
    exact this
  · rintro done p a g e g' ⟨eg, zg, rfl⟩ ⟨rest, hp⟩ hk hv f1 u1 hr hnext
    have eg' : Ext [] h g' := eg.trans f1 (by intro b hb hlt; simp at hb; omega)
    refine ⟨_, _, _, _, _, hk, _, rfl, ?_⟩
    refine cellT (x := p.1) rfl fun g2 e3 z3 b3 => ?_
    intro J hJ
    have hcnt : (nR (done.map Prod.fst) r : Int) ≤ 2 ^ 28 := by
      have h1 : nR (done.map Prod.fst) r ≤ (done.map Prod.fst).length := List.length_filter_le _ _
      have h2 := hp.length_eq
      simp [tU] at h1 h2
      omega
    have key : ∀ g3, Ext [] g2 g3 → J [.bool (fineT p.1 && decide (p.1.rel = r))] g3 := by
      intro g3 e4
      refine hJ _ _ ?_
      have e5 := (e3.trans0 e4)
      have hr3 := hr.ext e5 (by simp) (by simp)
      have zz := e5.sz
      have hsn := nR_snoc (done.map Prod.fst) p.1 r
      by_cases hc : fineT p.1 = true ∧ p.1.rel = r
      · rw [if_pos hc] at hsn
        rw [if_pos (by simp [hc.1, hc.2])]
        refine hnext _ g3 ⟨eg'.trans0 e5, by omega, ?_⟩ hr3
        rw [List.map_append, List.map_cons, List.map_nil, hsn, wrap64 (by omega) (by omega)]
        omega
      · rw [if_neg hc] at hsn
        rw [if_neg (by simpa using hc)]
        refine hnext _ g3 ⟨eg'.trans0 e5, by omega, ?_⟩ hr3
        rw [List.map_append, List.map_cons, List.map_nil, hsn]
        omega
    refine rd5I b3 ?_
    refine fine_s p.1 fun g3 e4 => ⟨_, rfl, ?_⟩
    cases hf : fineT p.1 with
    | false =>
      rw [if_neg (by decide)]
      have := key g3 e4
      rw [hf, Bool.false_and] at this
      exact this
    | true =>
      rw [if_pos rfl]
      have b4 := e4.get b3 (by simp)
      refine ⟨p.1.rel, by rw [addr_mk, rd_blk b4]; rfl, ?_⟩
      have := key g3 e4
      rw [hf, Bool.true_and] at this
      have e : (p.1.rel == r) = decide (p.1.rel = r) := by rw [Bool.eq_iff_iff]; simp
      rw [e]
      exact this
  · exact ⟨e2, Nat.le_refl _, by simp [nR]⟩
end
end Go.Lift

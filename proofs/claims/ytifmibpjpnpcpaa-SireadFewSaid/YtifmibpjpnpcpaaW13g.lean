/- Things that were read: what an owner has is lost. -/
import Derived.Test.YtifmibpjpnpcpaaW13f
set_option linter.unusedSimpArgs false
set_option linter.unusedVariables false
namespace Go.Lift
open Go Go.Proofs Go.RowKit Go.Shelf
set_option maxRecDepth 100000
theorem aput_same {K V : Type} [DecidableEq K] {T : List (K × V)} {k : K} {v : V} (h : afind T k = some v) : aput T k v = T := by
  induction T with
  | nil => cases h
  | cons p T ih =>
    obtain ⟨a, u⟩ := p
    simp only [afind] at h
    simp only [aput]
    by_cases e : k = a
    · subst e
      simp only [if_true] at h ⊢
      cases h
      rfl
    · rw [if_neg e] at h ⊢
      rw [ih h]
theorem aput_aput {K V : Type} [DecidableEq K] (T : List (K × V)) (k : K) (v w : V) : aput (aput T k v) k w = aput T k w := by
  induction T with
  | nil => simp [aput]
  | cons p T ih =>
    obtain ⟨a, u⟩ := p
    simp only [aput]
    by_cases e : k = a
    · simp [e, aput]
    · simp only [if_neg e, aput, ih]

/-- A loop that counts. -/
theorem loopI {X : List Value → Hp → Prop} (n : Nat) (I : Nat → Hp → Prop) (hend : ∀ g, I n g → X [.int .i64 (n : Int)] g)
    (hstep : ∀ i g, i < n → I i g → (∀ g', I (i + 1) g' → X [.int .i64 ((i + 1 : Nat) : Int)] g') → X [.int .i64 (i : Int)] g) (g : Hp) (h0 : I 0 g) : X [.int .i64 (0 : Int)] g := by
  have key : ∀ d i g, d + i = n → I i g → X [.int .i64 (i : Int)] g := by
    intro d
    induction d with
    | zero =>
      intro i g hi hI
      have : i = n := by omega
      subst this
      exact hend g hI
    | succ d ih =>
      intro i g hi hI
      exact hstep i g (by omega) hI fun g' hI' => ih (i + 1) g' (by omega) hI'
  exact key n 0 g (by omega) h0
section
variable {lo : Nat} {h h' : Hp} {t mb : Nat} {C : CC} {each all fine csn : Int} {Q : List Value → Hp → Prop}
/-- An owner's map is another one. -/
theorem TabS.setIn {o : Int} {c : CM} {S : List Nat} (hT : TabS lo h t mb C each all fine csn) (hf : afind C o = some c) (he : Ext S h h') (hS : ∀ b ∈ S, b < h.size → b = c.b) {l : List ThingM} (hm : IsMap ekT evU h' c.b (tU l)) (hl : l.Nodup) : TabS lo h' t mb (aput C o ⟨c.b, l⟩) each all fine csn := by
  have hne := hT.t_ne
  have hg : ∀ b, b < h.size → b ≠ c.b → b ∉ S := fun b h1 h2 h3 => h2 (hS b h3 h1)
  have hfa : ∀ o', afind (aput C o ⟨c.b, l⟩) o' = if o' = o then some ⟨c.b, l⟩ else afind C o' := fun o' => afind_aput _ _ _ _
  refine ⟨he.get hT.blk (hg _ (blk_lt hT.blk) (hne.2 o c hf).symm), ?_, aput_nodup hT.nd _ _, fun o' c' hf' => ?_, fun o' c' hf' => ?_, fun o' c' hf' => ?_, fun o1 o2 c1 c2 hf1 hf2 hn => ?_, fun o' c' hf' => ?_, hT.lot, hT.lom⟩
  · rw [← aput_amap, aput_same (by rw [afind_amap, hf]; rfl)]
    exact hT.outer.ext he (hg _ hT.outer.lt (hT.smb o c hf).symm)
  · rw [hfa] at hf'
    split at hf'
    · cases hf'; exact hm
    · rename_i hno
      exact (hT.inner o' c' hf').ext he (hg _ (hT.inner o' c' hf').lt (hT.sep o' o c' c hf' hf hno))
  · rw [hfa] at hf'
    split at hf'
    · cases hf'; exact hl
    · exact hT.tnd o' c' hf'
  · rw [hfa] at hf'
    split at hf'
    · cases hf'; exact hT.lob o c hf
    · exact hT.lob o' c' hf'
  · rw [hfa] at hf1 hf2
    split at hf1 <;> split at hf2
    · omega
    · cases hf1; rename_i q1 q2; exact hT.sep o o2 c c2 hf hf2 (fun e => q2 e.symm)
    · cases hf2; rename_i q1 q2; exact hT.sep o1 o c1 c hf1 hf q1
    · exact hT.sep o1 o2 c1 c2 hf1 hf2 hn
  · rw [hfa] at hf'
    split at hf'
    · cases hf'; exact hT.smb o c hf
    · exact hT.smb o' c' hf'
/-- The table's own block is another one. -/
theorem TabS.setT {e' a' f' c' : Int} (hT : TabS lo h t mb C each all fine csn) (hb : Blk h' t #[.int .i64 e', .int .i64 a', .map (some mb), .int .i64 f', .int .i64 c'] T_siread_Table) (he : Ext [t] h h') : TabS lo h' t mb C e' a' f' c' := by
  have hne := hT.t_ne
  exact ⟨hb, hT.outer.ext he (by simp; exact hne.1), hT.nd, fun o c hf => (hT.inner o c hf).ext he (by simp; exact hne.2 o c hf), hT.tnd, hT.lob, hT.sep, hT.smb, hT.lot, hT.lom⟩
def fb (C : CC) (o : Int) : List Nat := match afind C o with | none => [] | some c => [c.b]
def loseC (C : CC) (o : Int) (p : ThingM → Bool) : CC := match afind C o with | none => C | some c => aput C o ⟨c.b, c.l.filter fun x => !p x⟩
theorem sort_cut {l : List ThingM} {p : ThingM → Bool} {x : ThingM} {i : Nat} (hl : l.Nodup) (hi : i < (sortC cmpT l).length) (hx : (sortC cmpT l)[i] = x) :
    (p x = true → l.filter (fun y => !(decide (y ∈ (sortC cmpT l).take (i + 1)) && p y)) = (l.filter fun y => !(decide (y ∈ (sortC cmpT l).take i) && p y)).erase x ∧ x ∈ l.filter fun y => !(decide (y ∈ (sortC cmpT l).take i) && p y)) ∧
    (p x = false → l.filter (fun y => !(decide (y ∈ (sortC cmpT l).take (i + 1)) && p y)) = l.filter fun y => !(decide (y ∈ (sortC cmpT l).take i) && p y)) := by
  have hsn : (sortC cmpT l).Nodup := sortC_perm.nodup_iff.2 hl
  have htk : (sortC cmpT l).take (i + 1) = (sortC cmpT l).take i ++ [x] := by rw [List.take_add_one, List.getElem?_eq_getElem hi, hx]; rfl
  have hnx : x ∉ (sortC cmpT l).take i := by
    have h1 := List.Nodup.sublist (List.take_sublist (i + 1) _) hsn
    rw [htk, List.nodup_append] at h1
    intro hm
    exact h1.2.2 x hm x (by simp) rfl
  have hxl : x ∈ l := sortC_mem.1 (by rw [← hx]; exact List.getElem_mem hi)
  constructor
  · intro hp
    constructor
    · rw [List.Nodup.erase_eq_filter (hl.filter _), List.filter_filter]
      refine List.filter_congr fun y hy => ?_
      rw [htk]
      by_cases e : y = x
      · subst e; simp [hp]
      · simp [e]
    · rw [List.mem_filter]
      exact ⟨hxl, by simp [hnx]⟩
  · intro hp
    refine List.filter_congr fun y hy => ?_
    rw [htk]
    by_cases e : y = x
    · subst e; simp [hp]
    · simp [e]
theorem lose_s (hT : TabS lo h t mb C each all fine csn) (o : Int) (hl : (thgs (mS C) o).length ≤ 2 ^ 28) (hfi : (nF (thgs (mS C) o) : Int) ≤ fine ∧ fine ≤ 2 ^ 40) {f : Nat} {cs : Array Value} (p : ThingM → Bool)
    (hf : ∀ (x : ThingM) (g : Hp) (K : List Value → Hp → Prop), Ext (t :: fb C o) h g → (∀ g', Ext [] g g' → K [.bool (p x)] g') → Fn PP f ((#[] ++ #[ekT x]) ++ cs) g K)
    (hQ : ∀ h', TabS lo h' t mb (loseC C o p) each all (fine - (nF ((thgs (mS C) o).filter p) : Int)) csn → Ext (t :: fb C o) h h' → Q [] h') : S_siread_Table_lose (some ⟨t, 0, none⟩) o f cs h Q := by
  refine O_siread_Table_lose _ _ _ _ ?_
  unfold F_siread_Table_lose
  refine Of_s hT o hl fun h2 s e2 ho => ⟨s, rfl, ?_⟩
  have hT2 := hT.ext0 e2
  intro X hX
  simp only [nilW_some] at hX
  cases hc : afind C o with
  | none =>
    have hth : thgs (mS C) o = [] := thgs_none (by rw [afind_amap, hc]; rfl)
    rw [hth] at ho hQ
    have hn := ho.1
    rw [sortC_len] at hn
    refine hX _ _ ?_
    rw [if_neg (by simp [hn])]
    refine hQ h2 ?_ (e2.mono (by simp))
    unfold loseC
    rw [hc]
    simpa [nF] using hT2
  | some c =>
    have hth : thgs (mS C) o = c.l := thgs_some (by rw [afind_amap, hc]; rfl)
    have hfb : fb C o = [c.b] := by unfold fb; rw [hc]
    rw [hth] at ho hQ hl hfi
    rw [hfb] at hf hQ
    have hcn := hT.tnd o c hc
    have hlt := hT.lt (Or.inl rfl)
    have hltc := hT.lt (Or.inr (Or.inr ⟨o, c, hc, rfl⟩))
    have hne := hT.t_ne
    have hsl : (sortC cmpT c.l).length = c.l.length := sortC_len
    generalize hK : (fun i : Nat => c.l.filter fun y => !(decide (y ∈ (sortC cmpT c.l).take i) && p y)) = Ki
    have hKi : ∀ i, Ki i = c.l.filter fun y => !(decide (y ∈ (sortC cmpT c.l).take i) && p y) := fun i => by rw [← hK]
    have hn := ho.1
    refine loopI s.n (fun i g => Ext (t :: [c.b]) h g ∧ h2.size ≤ g.size ∧ Own T_siread_Thing 5 encT h.size g s (sortC cmpT c.l) ∧ TabS lo g t mb (aput C o ⟨c.b, Ki i⟩) each all (fine - (nF (((sortC cmpT c.l).take i).filter p) : Int)) csn) ?_ ?_ h2 ?_
    · rintro g ⟨eg, zg, hog, hTg⟩
      refine hX _ _ ?_
      rw [if_neg (by simp)]
      refine hQ g ?_ eg
      rw [List.take_of_length_le (by omega)] at hTg
      have h1 : nF ((sortC cmpT c.l).filter p) = nF (c.l.filter p) := by
        unfold nF
        exact ((sortC_perm.filter _).filter _).length_eq
      have h2 : Ki s.n = c.l.filter fun x => !p x := by
        rw [hKi]
        refine List.filter_congr fun y hy => ?_
        rw [List.take_of_length_le (by omega)]
        have : y ∈ sortC cmpT c.l := sortC_mem.2 hy
        simp [this]
      rw [h1, h2] at hTg
      unfold loseC
      rw [hc]
      exact hTg
    · rintro i g hi ⟨eg, zg, hog, hTg⟩ hnext
      have hi' : i < (sortC cmpT c.l).length := by omega
      refine hX _ _ ?_
      rw [if_pos (by simpa using hi)]
      intro J hJ
      obtain ⟨a, ha, hrd⟩ := rdT hog.sl.reads hi'
      rw [ha]
      simp only [nilW_some]
      refine ⟨by omega, by omega, ?_⟩
      obtain ⟨x, hx⟩ : ∃ x, (sortC cmpT c.l)[i] = x := ⟨_, rfl⟩
      rw [hx] at hrd
      obtain ⟨cut1, cut2⟩ := sort_cut (p := p) hcn hi' hx
      rw [← hKi, ← hKi] at cut1 cut2
      have htk : (sortC cmpT c.l).take (i + 1) = (sortC cmpT c.l).take i ++ [x] := by rw [List.take_add_one, List.getElem?_eq_getElem hi', hx]; rfl
      rw [Int.toNat_natCast]
      refine hrd _ ?_
      refine cellT (x := x) rfl fun g2 e3 z3 b3 => ?_
      refine rd5I b3 ?_
      refine hf x g2 _ (eg.trans0 e3) fun g3 e4 => ⟨_, rfl, ?_⟩
      have e34 := e3.trans0 e4
      have b4 := e4.get b3 (by simp)
      have hT3 := hTg.ext0 e34
      have ho3 := hog.ext0 e34
      have z34 := e34.sz
      have hsmall : ∀ l : List ThingM, l.length ≤ 2 ^ 28 → (nF l : Int) ≤ 2 ^ 28 := fun l hl => by have := nF_le l; omega
      have step : ∀ g', TabS lo g' t mb (aput C o ⟨c.b, Ki (i + 1)⟩) each all (fine - (nF (((sortC cmpT c.l).take (i + 1)).filter p) : Int)) csn → Ext [t, c.b] g3 g' → J [] g' := by
        intro g' hT' e5
        refine hJ g' ?_
        rw [wrap64 (by omega) (by omega)]
        have z5 := e5.sz
        refine hnext g' ⟨(eg.trans0 e34).trans e5 fun b hb _ => hb, by omega, ?_, hT'⟩
        refine ho3.ext e5 fun a ha hb => ?_
        have := own_ltG hog a.block (mem_sBlk.2 ⟨a, ha, rfl⟩)
        simp at hb
        omega
      cases hpx : p x with
      | false =>
        rw [if_neg (by decide)]
        refine step g3 ?_ (Ext.refl _ _)
        rw [cut2 hpx, htk, List.filter_append, nF_app]
        simpa [hpx, nF] using hT3
      | true =>
        rw [if_pos rfl]
        obtain ⟨es, m1, m2, m3⟩ := tab_has hT3 o
        refine ⟨some mb, by rw [addr_mk, rd_blk hT3.blk]; rfl, es, m1, m2, _, m3, ?_⟩
        refine rd5I b4 ?_
        rw [afind_aput, if_pos rfl]
        have hin := hT3.inner o ⟨c.b, Ki i⟩ (by rw [afind_aput, if_pos rfl])
        obtain ⟨es2, cl, n1, n2, n3⟩ := hin.del x
        refine ⟨c.b, es2, cl, rfl, n1, n2, setI n1 fun g5 s5 b5 e5 => ?_⟩
        have hm5 := n3 g5 b5
        rw [adel_tU, ← (cut1 hpx).1] at hm5
        have hT5 := hT3.setIn (by rw [afind_aput, if_pos rfl]) e5 (by simp) hm5 (by rw [hKi]; exact hcn.filter _)
        rw [aput_aput] at hT5
        have hbt : g.size ≠ c.b := by have := eg.sz; omega
        have b5' := e5.get b4 (by simp; exact hbt)
        refine rd5I b5' ?_
        refine fine_s x fun g6 e6 => ⟨_, rfl, ?_⟩
        have hT6 := hT5.ext0 e6
        rw [htk, List.filter_append, nF_app] at step
        cases hfx : fineT x with
        | false =>
          rw [if_neg (by decide)]
          refine step g6 ?_ ((e5.mono (by intro b hb _; simp at hb; simp [hb])).trans0 e6)
          simpa [hpx, nF, hfx] using hT6
        | true =>
          rw [if_pos rfl]
          refine ⟨_, by rw [addr_mk, rd_blk hT6.blk]; rfl, ?_⟩
          rw [addr_mk]
          refine st_blk hT6.blk (by simp) fun g7 s7 b7 e7 => ?_
          refine step g7 ?_ (((e5.mono (S' := [t, c.b]) (by intro b hb _; simp at hb; simp [hb])).trans0 e6).trans e7 (by intro b hb _; simp at hb; simp [hb]))
          have hnf1 : nF (List.filter p [x]) = 1 := by simp [hpx, nF, hfx]
          rw [hnf1]
          have hle : nF (((sortC cmpT c.l).take (i + 1)).filter p) ≤ nF (c.l) := by
            have h1 : nF ((sortC cmpT c.l).filter p) ≤ nF (sortC cmpT c.l) := by unfold nF; exact (List.Sublist.filter _ List.filter_sublist).length_le
            have h2 : nF (sortC cmpT c.l) = nF c.l := by unfold nF; exact (sortC_perm.filter _).length_eq
            have h3 : nF (((sortC cmpT c.l).take (i + 1)).filter p) ≤ nF ((sortC cmpT c.l).filter p) := by unfold nF; exact (List.Sublist.filter _ (List.Sublist.filter _ (List.take_sublist _ _))).length_le
            omega
          rw [htk, List.filter_append, nF_app, hnf1] at hle
          have hw : IntKind.wrap .i64 (fine - (nF (((sortC cmpT c.l).take i).filter p) : Int) - 1) = fine - ((nF (((sortC cmpT c.l).take i).filter p) + 1 : Nat) : Int) := by
            rw [wrap64 (by omega) (by omega)]
            omega
          rw [← hw]
          exact hT6.setT b7 e7
    · have hT2' := hT2
      refine ⟨e2.mono (by simp), Nat.le_refl _, ho, ?_⟩
      have hK0 : Ki 0 = c.l := by rw [hKi]; simp
      rw [hK0, aput_same hc]
      simpa [nF] using hT2
end
end Go.Lift

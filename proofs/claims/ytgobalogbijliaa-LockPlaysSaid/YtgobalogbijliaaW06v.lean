/- Locks: the reference: all of a holder go, all names. -/
import Derived.Test.YtgobalogbijliaaW06u
set_option linter.unusedSimpArgs false
set_option linter.unusedVariables false
namespace Go.Lift
open Go Go.Proofs
set_option maxRecDepth 100000
theorem touchL_mem {R : RM} {k : Int} {n : ByteArray} : n ∈ touchL R k ↔ ∃ x ∈ R.has ++ R.queue, x.2.1 = k ∧ x.1 = n := by
  unfold touchL
  simp only [List.mem_append, List.mem_map, List.mem_filter, beq_iff_eq]
  constructor
  · rintro (⟨x, ⟨h1, h2⟩, h3⟩ | ⟨x, ⟨h1, h2⟩, h3⟩)
    · exact ⟨x, Or.inl h1, h2, h3⟩
    · exact ⟨x, Or.inr h1, h2, h3⟩
  · rintro ⟨x, h1 | h1, h2, h3⟩
    · exact Or.inl ⟨x, ⟨h1, h2⟩, h3⟩
    · exact Or.inr ⟨x, ⟨h1, h2⟩, h3⟩
theorem stepP_fit {N : Nat} (L : List ByteArray) (X : RM × List Int) (n : ByteArray) (h : RFit N X.1) : RFit N (stepP L X n).1 ∧ (stepP L X n).2.length + (stepP L X n).1.queue.length = X.2.length + X.1.queue.length := by
  unfold stepP
  split
  · have := goR_fit (N := N) n X.1.queue X.1.has [] X.2 (by simpa using h)
    simpa using this
  · exact ⟨h, rfl⟩
theorem eraseDups_len {α : Type} [BEq α] (l : List α) : l.eraseDups.length ≤ l.length := by
  induction h : l.length using Nat.strongRecOn generalizing l with
  | ind n ih =>
    cases l with
    | nil => simp
    | cons a l =>
      rw [List.eraseDups_cons]
      subst h
      have h1 := List.length_filter_le (fun b => !b == a) l
      have := ih _ (by simp only [List.length_cons]; omega) (l.filter fun b => !b == a) rfl
      simp only [List.length_cons]
      omega
section
variable {lo : Nat} {h : Hp} {b : Nat} {R : RM} {sh sq : Sl} {Q : List Value → Hp → Prop}
theorem ReleaseR_s (hr : RAt lo h b R sh sq) (hfit : RFit (2 ^ 16) R) (k : Int) (hlo : lo ≤ h.size)
    (hQ : ∀ h' sh' sq' s', RAt h.size h' b (releaseP R k).1 sh' sq' → Own T_int 1 encIL h.size h' s' (releaseP R k).2 → Ext [b] h h' → Q [.slice s'.a s'.n s'.c] h') : S_liveryref06_Table_Release (some ⟨b, 0, none⟩) k h Q := by
  refine O_liveryref06_Table_Release _ _ ?_
  unfold F_liveryref06_Table_Release
  have hlen := hfit.len
  have hbl := blk_lt hr.blk
  refine NamesR_s hr (by omega) (by omega) fun h2 l3 e2 oN => ⟨l3, rfl, ?_⟩
  have hr2 := hr.ext0 e2
  have hnh := hr2.has.1
  have hnq := hr2.queue.1
  have z2 := e2.sz
  have hl3 := own_ltG oN
  have hnames : (namesP R).length ≤ 2 ^ 17 := by
    unfold namesP
    rw [sortS_len]
    have := eraseDups_len ((R.has ++ R.queue).map Prod.fst)
    simp only [List.length_map, List.length_append] at this
    omega
  intro X hX
  simp only [nilW_some] at hX
  -- the first list
  have key1 : ∀ (d i : Nat) g l5 l6, d + i = R.has.length → Ext [] h g → h2.size ≤ g.size → Own T_string 1 encB h.size g l3 (namesP R) → Own T_held 3 encH h.size g l5 ((R.has.take i).filter fun x => x.2.1 != k) → Own T_string 1 encB h2.size g l6 (((R.has.take i).filter fun x => x.2.1 == k).map Prod.fst) →
      X [.slice l5.a l5.n l5.c, .slice l6.a l6.n l6.c, .int .i64 (i : Int)] g := by
    intro d
    induction d with
    | zero =>
      intro i g l5 l6 hi eg zg oN o5 o6
      refine hX _ _ _ _ ?_
      have hrg := hr.ext0 eg
      refine ⟨sh, by rw [addr_mk, rd_blk hrg.blk]; rfl, ?_⟩
      rw [if_neg (by simp; omega)]
      rw [List.take_of_length_le (by omega)] at o5 o6
      have hl5g := own_ltG o5
      intro Y hY
      -- the second one
      have key2 : ∀ (d j : Nat) g2 l38 l39, d + j = R.queue.length → Ext [] h g2 → g.size ≤ g2.size → Own T_string 1 encB h.size g2 l3 (namesP R) → Own T_held 3 encH h.size g2 l5 (R.has.filter fun x => x.2.1 != k) → Own T_held 3 encH g.size g2 l38 ((R.queue.take j).filter fun x => x.2.1 != k) → Own T_string 1 encB h2.size g2 l39 ((R.has.filter fun x => x.2.1 == k).map Prod.fst ++ ((R.queue.take j).filter fun x => x.2.1 == k).map Prod.fst) →
          Y [.slice l38.a l38.n l38.c, .slice l39.a l39.n l39.c, .int .i64 (j : Int)] g2 := by
        intro d
        induction d with
        | zero =>
          intro j g2 l38 l39 hj eg2 zg2 oN o5 o38 o39
          refine hY _ _ _ _ ?_
          have hrg2 := hr.ext0 eg2
          refine ⟨sq, by rw [addr_mk, rd_blk hrg2.blk]; rfl, ?_⟩
          rw [if_neg (by simp; omega)]
          rw [List.take_of_length_le (by omega)] at o38 o39
          refine setHs_s hrg2 (o5.mono hlo) fun g3 hr3 e3 s3 => ?_
          have o38' : Own T_held 3 encH lo g3 l38 (R.queue.filter fun x => x.2.1 != k) := (own_b (b := b) o38 hrg2.blk e3).mono (by omega)
          refine setQ_s hr3 o38' fun g4 hr4 e4 s4 => ?_
          have own4 : ∀ {α : Type} {T : TypeId} {s : Nat} {en : α → List Value} {c : Sl} {ys : List α} {l0 : Nat}, Own T s en l0 g2 c ys → T_liveryref06_Table ≠ T → Own T s en l0 g4 c ys := fun hd hT => hd.ext (e3.trans e4 (by simp)) fun ad ha hm => by
            simp at hm
            exact hd.other (Ne.symm hT) _ (mem_sBlk.2 ⟨ad, ha, rfl⟩) _ _ (hm ▸ hrg2.blk)
          have hr4' : RAt h.size g4 b ⟨R.has.filter fun x => x.2.1 != k, R.queue.filter fun x => x.2.1 != k⟩ l5 l38 := ⟨hr4.blk, own4 o5 (Ne.symm ne_held), (own4 o38 (Ne.symm ne_held)).mono eg.sz⟩
          have oN4 := own4 oN ne_ts
          have oT4 := own4 o39 ne_ts
          have hEq : (R.has.filter fun x => x.2.1 == k).map Prod.fst ++ (R.queue.filter fun x => x.2.1 == k).map Prod.fst = touchL R k := rfl
          rw [hEq] at oT4
          have hnT := oT4.1
          have hTl : (touchL R k).length ≤ 2 ^ 17 := by
            unfold touchL
            have h1 := List.length_filter_le (fun x : HM => x.2.1 == k) R.has
            have h2 := List.length_filter_le (fun x : HM => x.2.1 == k) R.queue
            simp only [List.length_append, List.length_map]
            omega
          have hnN := oN4.1
          have E4 : Ext [b] h g4 := ((eg2.mono (by simp)).trans e3 (by simp)).trans e4 (by simp)
          have hf0 : RFit (2 ^ 16) ⟨R.has.filter fun x => x.2.1 != k, R.queue.filter fun x => x.2.1 != k⟩ := ⟨fun x hx => hfit.m1 x (List.mem_filter.1 hx).1, fun x hx => hfit.m2 x (List.mem_filter.1 hx).1, by
            have h1 := List.length_filter_le (fun x : HM => x.2.1 != k) R.has
            have h2 := List.length_filter_le (fun x : HM => x.2.1 != k) R.queue
            simp only
            omega⟩
          intro Z hZ
          -- the names
          have key3 : ∀ (N' : List ByteArray) (Xs : RM × List Int) (i : Nat) g5 sh5 sq5 l75, N' = (namesP R).drop i → i ≤ (namesP R).length → RAt h.size g5 b Xs.1 sh5 sq5 → RFit (2 ^ 16) Xs.1 → Xs.2.length + Xs.1.queue.length ≤ 2 ^ 16 → Own T_int 1 encIL g4.size g5 l75 Xs.2 → Own T_string 1 encB h.size g5 l3 (namesP R) → Own T_string 1 encB h2.size g5 l39 (touchL R k) →
              (∀ b', b' < g4.size → b' ≠ b → g5[b']? = g4[b']?) → g4.size ≤ g5.size → N'.foldl (stepP (touchL R k)) Xs = releaseP R k → Z [.slice l75.a l75.n l75.c, .int .i64 (i : Int)] g5 := by
            intro N'
            induction N' with
            | nil =>
              intro Xs i g5 sh5 sq5 l75 hN' hi5 hr5 hf5 hO5 o75 oN5 oT5 hk5 hz5 hfold
              have hil : (namesP R).length ≤ i := by
                have := congrArg List.length hN'
                simp at this
                omega
              refine hZ _ _ _ ?_
              rw [if_neg (by simp; omega)]
              rw [List.foldl_nil] at hfold
              have := hQ g5 sh5 sq5 l75
              rw [← hfold] at this
              refine this hr5 (o75.mono (by have := E4.sz; omega)) ⟨by have := E4.sz; omega, fun b' h1 h2 => ?_⟩
              rw [hk5 b' (by have := E4.sz; omega) (by simpa using h2)]
              exact E4.old b' h1 h2
            | cons n N' ih3 =>
              intro Xs i g5 sh5 sq5 l75 hN' hi5 hr5 hf5 hO5 o75 oN5 oT5 hk5 hz5 hfold
              have hil : i < (namesP R).length := by
                have := congrArg List.length hN'
                simp at this
                omega
              have hdr : (namesP R).drop i = (namesP R)[i] :: (namesP R).drop (i + 1) := List.drop_eq_getElem_cons hil
              rw [hdr] at hN'
              simp only [List.cons.injEq] at hN'
              obtain ⟨hn, hN'⟩ := hN'
              rw [List.foldl_cons] at hfold
              refine hZ _ _ _ ?_
              rw [if_pos (by simp; omega)]
              intro W hW
              have key4 : ∀ (d j : Nat) (mine : Bool), d + j = (touchL R k).length → mine = decide (n ∈ (touchL R k).take j) → W [.bool mine, .int .i64 (j : Int)] g5 := by
                intro d
                induction d with
                | zero =>
                  intro j mine hj hm
                  refine hW _ _ _ ?_
                  rw [if_neg (by simp; omega)]
                  rw [List.take_of_length_le (by omega)] at hm
                  cases mine with
                  | true =>
                    have hin : n ∈ touchL R k := of_decide_eq_true hm.symm
                    have hst : stepP (touchL R k) Xs n = goR n Xs.1.has [] Xs.1.queue Xs.2 := by unfold stepP; rw [if_pos hin]
                    rw [hst] at hfold
                    have hgf := goR_fit (N := 2 ^ 16) n Xs.1.queue Xs.1.has [] Xs.2 (by simpa using hf5)
                    have G := goR_s (k0 := g4.size) (n := n) hr5 (by have := E4.sz; omega) hz5 hf5 o75 (by omega) (N := namesP R) oN5 oT5 hil (by omega) hn.symm rfl (X74 := Z) fun g6 sh6 sq6 l6 hr6 o6 oN6 oT6 hk6 hz6 => by
                      rw [wrap64 (by omega) (by omega)]
                      have := ih3 (goR n Xs.1.has [] Xs.1.queue Xs.2) (i + 1) g6 sh6 sq6 l6 hN' (by omega) hr6 hgf.1 (by rw [hgf.2]; simpa using hO5) o6 oN6 oT6 (fun b' h1 h2 => by rw [hk6 b' h1 h2, hk5 b' h1 h2]) (by omega) hfold
                      simpa using this
                    simp only [nilW_some] at G
                    exact G
                  | false =>
                    have hin : n ∉ touchL R k := of_decide_eq_false hm.symm
                    have hst : stepP (touchL R k) Xs n = Xs := by unfold stepP; rw [if_neg hin]
                    rw [hst] at hfold
                    intro V hV
                    refine hV _ _ _ ?_
                    intro J hJ
                    rw [if_neg (by decide)]
                    refine hJ _ _ ?_
                    rw [if_neg (by decide), wrap64 (by omega) (by omega)]
                    have := ih3 Xs (i + 1) g5 sh5 sq5 l75 hN' (by omega) hr5 hf5 hO5 o75 oN5 oT5 hk5 hz5 hfold
                    simpa using this
                | succ d ih4 =>
                  intro j mine hj hm
                  have hjl : j < (touchL R k).length := by omega
                  refine hW _ _ _ ?_
                  rw [if_pos (by simp; omega)]
                  intro J hJ
                  have htk : (touchL R k).take (j + 1) = (touchL R k).take j ++ [(touchL R k)[j]] := by rw [List.take_add_one, List.getElem?_eq_getElem hjl]; rfl
                  cases mine with
                  | true =>
                    rw [if_pos rfl]
                    refine hJ _ _ ?_
                    rw [wrap64 (by omega) (by omega)]
                    have hin : n ∈ (touchL R k).take j := of_decide_eq_true hm.symm
                    have := ih4 (j + 1) true (by omega) (by rw [htk]; exact (decide_eq_true (List.mem_append_left _ hin)).symm)
                    simpa using this
                  | false =>
                    rw [if_neg (by decide)]
                    have hin : n ∉ (touchL R k).take j := of_decide_eq_false hm.symm
                    obtain ⟨a, w1, w2⟩ := rdB oT5.sl.reads hjl
                    obtain ⟨a3, v1, v2⟩ := rdB oN5.sl.reads hil
                    rw [w1, v1]
                    have := oT5.1
                    have := oN5.1
                    simp only [nilW_some, Int.toNat_natCast]
                    refine ⟨by omega, by omega, _, w2, by omega, by omega, _, v2, hJ _ _ ?_⟩
                    rw [wrap64 (by omega) (by omega), toList_eq_iff, ← hn]
                    have := ih4 (j + 1) (decide ((touchL R k)[j] = n)) (by omega) (by
                      rw [htk, decide_eq_decide, List.mem_append, List.mem_singleton]
                      constructor
                      · intro e; exact Or.inr e.symm
                      · rintro (e | e)
                        · exact absurd e hin
                        · exact e.symm)
                    simpa using this
              have := key4 (touchL R k).length 0 false (by omega) (by simp)
              simpa using this
          have := key3 (namesP R) (⟨R.has.filter fun x => x.2.1 != k, R.queue.filter fun x => x.2.1 != k⟩, []) 0 g4 l5 l38 ⟨none, 0, 0⟩ rfl (by omega) hr4' hf0 (by have := hf0.len; simp only at this ⊢; simp; omega) (Own.nil _ _) oN4 oT4 (fun _ _ _ => rfl) (Nat.le_refl _) rfl
          simpa using this
        | succ d ih2 =>
          intro j g2 l38 l39 hj eg2 zg2 oN o5 o38 o39
          have hjl : j < R.queue.length := by omega
          refine hY _ _ _ _ ?_
          have hrg2 := hr.ext0 eg2
          refine ⟨sq, by rw [addr_mk, rd_blk hrg2.blk]; rfl, ?_⟩
          rw [if_pos (by simp; omega)]
          intro J hJ
          refine ⟨sq, by rw [addr_mk, rd_blk hrg2.blk]; rfl, ?_⟩
          obtain ⟨a, w1, w2, w3, w4⟩ := rdH hrg2.queue.sl.reads hjl
          rw [w1]
          simp only [nilW_some, Int.toNat_natCast]
          refine ⟨by omega, by omega, _, w3, ?_⟩
          have hs1 := filter_snoc (fun x : HM => x.2.1 != k) hjl
          have hs2 := filter_snoc (fun x : HM => x.2.1 == k) hjl
          have hle1 := List.length_filter_le (fun x : HM => x.2.1 != k) (R.queue.take j)
          have hle2 := List.length_filter_le (fun x : HM => x.2.1 == k) (R.queue.take j)
          have hle3 := List.length_filter_le (fun x : HM => x.2.1 == k) R.has
          simp only [List.length_take] at hle1 hle2
          have z38 := eg2.sz
          by_cases hk : R.queue[j].2.1 = k
          · rw [if_pos (by simpa using hk)]
            refine ⟨sq, by rw [addr_mk, rd_blk hrg2.blk]; rfl, ?_⟩
            rw [w1]
            simp only [nilW_some]
            refine ⟨by omega, by omega, _, w2, ?_⟩
            refine app1 (x := R.queue[j].1) o39 rfl zc_str encB_len encB_one (by simp; omega) (by decide) (by omega) fun s10 g10 o10 e10 hb10 => hJ _ _ _ ?_
            have hlb := own_ltG o39
            rw [wrap64 (by omega) (by omega)]
            rw [if_neg (by simp [hk])] at hs1
            rw [if_pos (by simp [hk])] at hs2
            have := ih2 (j + 1) g10 l38 s10 (by omega) (eg2.trans e10 fun b hb hlt => by have := hlb b hb; omega) (by have := e10.sz; omega) (oN.ext e10 fun a ha hm => by have := hlb _ hm; have := hl3 _ (mem_sBlk.2 ⟨a, ha, rfl⟩); omega) (own_apart o5 o39 ne_hs e10) (by rw [hs1]; exact own_apart o38 o39 ne_hs e10) (by rw [hs2]; simpa using o10)
            simpa using this
          · rw [if_neg (by simpa using hk)]
            refine ⟨sq, by rw [addr_mk, rd_blk hrg2.blk]; rfl, ?_⟩
            rw [w1]
            simp only [nilW_some]
            refine ⟨by omega, by omega, _, w2, _, w3, _, w4, ?_⟩
            refine app1 (x := R.queue[j]) o38 rfl zc_held encH_len encH_one (by omega) (by decide) (by omega) fun s10 g10 o10 e10 hb10 => hJ _ _ _ ?_
            have hlb := own_ltG o38
            rw [wrap64 (by omega) (by omega)]
            rw [if_pos (by simp [hk])] at hs1
            rw [if_neg (by simp [hk])] at hs2
            have := ih2 (j + 1) g10 s10 l39 (by omega) (eg2.trans e10 fun b hb hlt => by have := hlb b hb; have := eg.sz; omega) (by have := e10.sz; omega) (own_apart oN o38 (Ne.symm ne_hs) e10) (o5.ext e10 fun a ha hm => by have := hlb _ hm; have := hl5g _ (mem_sBlk.2 ⟨a, ha, rfl⟩); omega) (by rw [hs1]; exact o10) (by rw [hs2]; exact own_apart o39 o38 (Ne.symm ne_hs) e10)
            simpa using this
      have := key2 R.queue.length 0 g ⟨none, 0, 0⟩ l6 (by omega) eg (Nat.le_refl _) oN o5 (Own.nil _ _) (by simpa using o6)
      simpa using this
    | succ d ih1 =>
      intro i g l5 l6 hi eg zg oN o5 o6
      have hil : i < R.has.length := by omega
      refine hX _ _ _ _ ?_
      have hrg := hr.ext0 eg
      refine ⟨sh, by rw [addr_mk, rd_blk hrg.blk]; rfl, ?_⟩
      rw [if_pos (by simp; omega)]
      intro J hJ
      refine ⟨sh, by rw [addr_mk, rd_blk hrg.blk]; rfl, ?_⟩
      obtain ⟨a, w1, w2, w3, w4⟩ := rdH hrg.has.sl.reads hil
      rw [w1]
      simp only [nilW_some, Int.toNat_natCast]
      refine ⟨by omega, by omega, _, w3, ?_⟩
      have hs1 := filter_snoc (fun x : HM => x.2.1 != k) hil
      have hs2 := filter_snoc (fun x : HM => x.2.1 == k) hil
      have hle1 := List.length_filter_le (fun x : HM => x.2.1 != k) (R.has.take i)
      have hle2 := List.length_filter_le (fun x : HM => x.2.1 == k) (R.has.take i)
      simp only [List.length_take] at hle1 hle2
      have zg0 := eg.sz
      by_cases hk : R.has[i].2.1 = k
      · rw [if_pos (by simpa using hk)]
        refine ⟨sh, by rw [addr_mk, rd_blk hrg.blk]; rfl, ?_⟩
        rw [w1]
        simp only [nilW_some]
        refine ⟨by omega, by omega, _, w2, ?_⟩
        refine app1 (x := R.has[i].1) o6 rfl zc_str encB_len encB_one (by simp; omega) (by decide) (by omega) fun s10 g10 o10 e10 hb10 => hJ _ _ _ ?_
        have hlb := own_ltG o6
        rw [wrap64 (by omega) (by omega)]
        rw [if_neg (by simp [hk])] at hs1
        rw [if_pos (by simp [hk])] at hs2
        have := ih1 (i + 1) g10 l5 s10 (by omega) (eg.trans e10 fun b hb hlt => by have := hlb b hb; omega) (by have := e10.sz; omega) (oN.ext e10 fun a ha hm => by have := hlb _ hm; have := hl3 _ (mem_sBlk.2 ⟨a, ha, rfl⟩); omega) (by rw [hs1]; exact own_apart o5 o6 ne_hs e10) (by rw [hs2]; simpa using o10)
        simpa using this
      · rw [if_neg (by simpa using hk)]
        refine ⟨sh, by rw [addr_mk, rd_blk hrg.blk]; rfl, ?_⟩
        rw [w1]
        simp only [nilW_some]
        refine ⟨by omega, by omega, _, w2, _, w3, _, w4, ?_⟩
        refine app1 (x := R.has[i]) o5 rfl zc_held encH_len encH_one (by omega) (by decide) (by omega) fun s10 g10 o10 e10 hb10 => hJ _ _ _ ?_
        have hlb := own_ltG o5
        rw [wrap64 (by omega) (by omega)]
        rw [if_pos (by simp [hk])] at hs1
        rw [if_neg (by simp [hk])] at hs2
        have := ih1 (i + 1) g10 s10 l6 (by omega) (eg.trans e10 fun b hb hlt => by have := hlb b hb; omega) (by have := e10.sz; omega) (own_apart oN o5 (Ne.symm ne_hs) e10) (by rw [hs1]; exact o10) (by rw [hs2]; exact own_apart o6 o5 (Ne.symm ne_hs) e10)
        simpa using this
  have := key1 R.has.length 0 h2 ⟨none, 0, 0⟩ ⟨none, 0, 0⟩ (by omega) e2 (Nat.le_refl _) oN (Own.nil _ _) (Own.nil _ _)
  simpa using this
end
end Go.Lift

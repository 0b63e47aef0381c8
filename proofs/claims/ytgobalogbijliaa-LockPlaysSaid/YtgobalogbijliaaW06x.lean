/- Locks: the table and the reference, step by step. -/
import Derived.Test.YtgobalogbijliaaW06w
import Derived.Test.YtgobalogbijliaaW06z
set_option linter.unusedSimpArgs false
set_option linter.unusedVariables false
namespace Go.Lift
open Go Go.Proofs
set_option maxRecDepth 100000
section
variable {h : Hp} {Q : List Value → Hp → Prop}
theorem Texts_s {a b : Sl} {xs ys : List ByteArray} (ha : Reads 1 encB h a xs) (hb : Reads 1 encB h b ys) (hl : xs.length ≤ 2 ^ 40) (hQ : Q [.bool (decide (xs = ys))] h) : S_liverykeep_Texts a b h Q := by
  refine O_liverykeep_Texts _ _ ?_
  unfold F_liverykeep_Texts
  have ha1 := ha.1
  have hb1 := hb.1
  by_cases hn : xs.length = ys.length
  · rw [if_neg (by simp; omega)]
    intro X hX
    have key : ∀ d i, d + i = xs.length → xs.take i = ys.take i → X [.int .i64 (i : Int)] h := by
      intro d
      induction d with
      | zero =>
        intro i hi ht
        refine hX _ _ ?_
        rw [if_neg (by simp; omega)]
        rw [List.take_of_length_le (by omega), List.take_of_length_le (by omega)] at ht
        simpa [ht] using hQ
      | succ d ih =>
        intro i hi ht
        refine hX _ _ ?_
        rw [if_pos (by simp; omega)]
        obtain ⟨a1, u1, u2⟩ := rdB ha (i := i) (by omega)
        obtain ⟨b1, v1, v2⟩ := rdB hb (i := i) (by omega)
        rw [u1, v1]
        simp only [nilW_some, Int.toNat_natCast]
        refine ⟨by omega, by omega, _, u2, by omega, by omega, _, v2, ?_⟩
        have hx : xs.take (i + 1) = xs.take i ++ [xs[i]'(by omega)] := by rw [List.take_add_one, List.getElem?_eq_getElem (by omega)]; rfl
        have hy : ys.take (i + 1) = ys.take i ++ [ys[i]'(by omega)] := by rw [List.take_add_one, List.getElem?_eq_getElem (by omega)]; rfl
        rw [toList_eq_iff]
        by_cases he : xs[i]'(by omega) = ys[i]'(by omega)
        · rw [if_neg (by simp [he]), wrap64 (by omega) (by omega)]
          have := ih (i + 1) (by omega) (by rw [hx, hy, ht, he])
          simpa using this
        · rw [if_pos (by simp [he])]
          have hne : xs ≠ ys := fun e => he (by subst e; rfl)
          simpa [hne] using hQ
    have := key xs.length 0 (by omega) (by simp)
    simpa using this
  · rw [if_pos (by simp; omega)]
    have hne : xs ≠ ys := fun e => hn (by rw [e])
    simpa [hne] using hQ
theorem RAt.extS {lo b : Nat} {R : RM} {sh sq : Sl} {h h' : Hp} {S : List Nat} (hr : RAt lo h b R sh sq) (he : Ext S h h') (hS : ∀ x ∈ S, ¬ (x = b ∨ x ∈ sBlk sh ∨ x ∈ sBlk sq)) : RAt lo h' b R sh sq :=
  ⟨he.get hr.blk fun hm => hS _ hm (Or.inl rfl), hr.has.ext he fun a ha hm => hS _ hm (Or.inr (Or.inl (mem_sBlk.2 ⟨a, ha, rfl⟩))), hr.queue.ext he fun a ha hm => hS _ hm (Or.inr (Or.inr (mem_sBlk.2 ⟨a, ha, rfl⟩)))⟩
def GR (v b : Nat) (sh sq : Sl) (x : Nat) : Prop := x = v ∨ x = b ∨ x ∈ sBlk sh ∨ x ∈ sBlk sq
theorem RAt.lt {lo b : Nat} {R : RM} {sh sq : Sl} {h : Hp} (hr : RAt lo h b R sh sq) {x : Nat} (hx : x = b ∨ x ∈ sBlk sh ∨ x ∈ sBlk sq) : x < h.size := by
  rcases hx with rfl | hx | hx
  · exact blk_lt hr.blk
  · exact (own_ltG hr.has x hx).2
  · exact (own_ltG hr.queue x hx).2
theorem modes_eq {T : TM} {R : RM} (hs : Sim T R) (k : Int) (n : ByteArray) : modesT T k n = setH R.has k n := hs.has n k
theorem LockPlays_s {s : Sl} {xs : List StepK} (hs : Reads 4 encK h s xs) (hl : xs.length ≤ 9223372036854775807) (hQ : ∀ h', Ext [] h h' → Q [.bool true] h') : F_liverylaw06_LockPlays s h Q := by
  unfold F_liverylaw06_LockPlays
  refine new_L (G := fun _ => False) (fun b hb => hb.elim) fun h1 t hv1 e1 => ⟨_, rfl, ?_⟩
  refine newI fun h2 z2 c2 e2 => ?_
  have f2 := e1.trans0 e2
  have z1 := e1.sz
  have hr2 : RAt h.size h2 h1.size ⟨[], []⟩ ⟨none, 0, 0⟩ ⟨none, 0, 0⟩ := ⟨c2, Own.nil _ _, Own.nil _ _⟩
  have hv2 : Lk h.size (GR h1.size h1.size ⟨none, 0, 0⟩ ⟨none, 0, 0⟩) h2 t [] := hv1.mv e2 (by simp) fun b hb => by
    have : b = h1.size := by
      rcases hb with hb | hb | hb | hb
      · exact hb
      · exact hb
      · simp [sBlk] at hb
      · simp [sBlk] at hb
    subst this
    exact ⟨Or.inr (Nat.le_refl _), by omega⟩
  intro J hJ
  rw [if_neg (by simp)]
  refine fair_s (hs.ext0 f2) hl ⟨_, rfl, hJ _ _ ?_⟩
  have hsn := hs.1
  cases hfair : fairK xs with
  | false =>
    rw [if_pos (by decide)]
    intro J2 hJ2
    rw [if_pos (by simp)]
    exact wakes_s fun h3 e3 => ⟨_, rfl, hJ2 _ _ (hQ h3 (f2.trans0 e3))⟩
  | true =>
    rw [if_neg (by decide)]
    have hx150 : xs.length ≤ 150 := by
      unfold fairK at hfair
      rw [Bool.and_eq_true, decide_eq_true_eq] at hfair
      exact hfair.2
    intro X hX
    have key : ∀ (d i : Nat) g T R sh sq, d + i = xs.length → Ext [] h g → Lk h.size (GR h1.size h1.size sh sq) g t T → RAt h.size g h1.size R sh sq → Sim T R → T.length ≤ i → R.has.length + R.queue.length ≤ i → X [.int .i64 (i : Int)] g := by
      intro d
      induction d with
      | zero =>
        intro i g T R sh sq hi eg hv hr hsim hTl hRl
        refine hX _ _ ?_
        rw [if_neg (by simp; omega)]
        exact wakes_s fun h2 e2 => ⟨_, rfl, hQ h2 (eg.trans0 e2)⟩
      | succ d ih =>
        intro i g T R sh sq hi eg hv hr hsim hTl hRl
        refine hX _ _ ?_
        rw [if_pos (by simp; omega)]
        have hil : i < xs.length := by omega
        obtain ⟨a, w1, w2, w3, w4, w5⟩ := rdK (hs.ext0 eg) hil
        rw [w1]
        simp only [nilW_some, Int.toNat_natCast]
        refine ⟨by omega, by omega, _, w2, _, w3, _, w4, _, w5, ?_⟩
        refine varI rfl rfl fun g1 s1 b1 f1 => ?_
        refine ⟨xs[i].kind, by simp [rd_blk b1], ?_⟩
        have eg1 := eg.trans0 f1
        have hb1 := blk_lt hr.blk
        have hr1 := hr.ext0 f1
        have hv1' : Lk h.size (GR g.size h1.size sh sq) g1 t T := hv.mv f1 (by simp) fun x hx => by
          rcases hx with hx | hx
          · subst hx; exact ⟨Or.inr (Nat.le_refl _), by omega⟩
          · exact ⟨Or.inl (Or.inr hx), by have := hr.lt hx; omega⟩
        intro J2 hJ2
        -- what is looked at behind a step
        have go : ∀ g2 T2 R2 sh2 sq2, Ext [] h g2 → Lk h.size (GR g.size h1.size sh2 sq2) g2 t T2 → RAt h.size g2 h1.size R2 sh2 sq2 → Sim T2 R2 → T2.length ≤ i + 1 → R2.has.length + R2.queue.length ≤ i + 1 → Blk g2 g.size (encK xs[i]).toArray T_liverylaw06_Step → J2 [] g2 := by
          intro g2 T2 R2 sh2 sq2 eg2 hv2 hr2 hs2 hTl2 hRl2 b2
          refine hJ2 _ ?_
          have hok2 := hv2.ok
          intro Y hY
          have key2 : ∀ (d k : Nat) g3, d + k = 9 → Ext [] g2 g3 → Y [.int .i64 (k : Int)] g3 := by
            intro d
            induction d with
            | zero =>
              intro k g3 hk e3
              refine hY _ _ ?_
              rw [if_neg (by simp; omega)]
              have hv3 := hv2.e0 e3
              have hr3 := hr2.ext0 e3
              refine names_L hv3 (by omega) fun g4 s4 hv4 e4 ho4 => ⟨s4, rfl, ?_⟩
              refine NamesR_s (hr3.ext0 e4) (by omega) (by omega) fun g5 s5 e5 ho5 => ⟨s5, rfl, ?_⟩
              have hlN : (namesT T2).length ≤ 2 ^ 40 := by unfold namesT; rw [sortS_len, List.length_map]; omega
              refine Texts_s (ho4.ext0 e5).sl.reads ho5.sl.reads hlN ⟨_, rfl, ?_⟩
              rw [hs2.names hok2, decide_eq_true rfl, if_neg (by decide), wrap64 (by omega) (by omega)]
              have e25 := (e3.trans0 e4).trans0 e5
              have := ih (i + 1) g5 T2 R2 sh2 sq2 (by omega) (eg2.trans0 e25) ((hv4.e0 e5).less fun x hx => hx.elim (fun e => Or.inr (Or.inl e)) Or.inr) (hr2.ext0 e25) hs2 hTl2 hRl2
              simpa using this
            | succ d ih2 =>
              intro k g3 hk e3
              refine hY _ _ ?_
              rw [if_pos (by simp; omega)]
              have hv3 := hv2.e0 e3
              have hr3 := hr2.ext0 e3
              intro J3 hJ3
              have look : ∀ kk : Int, J3 [.int .i64 kk] g3 := by
                intro kk
                refine hJ3 _ _ ?_
                refine waits_L hv3 kk fun g4 hv4 e4 => ?_
                have hw := hs2.waits hok2 kk
                have rest : ∀ (n0 : ByteArray) (m0 : Int) (b0 : Bool), ∃ (s35 : ByteArray) (n36 : Int) (b37 : Bool), [Value.string n0, .int .i64 m0, .bool b0] = [(Value.string s35), (Value.int .i64 n36), (Value.bool b37)] ∧ s35 = n0 ∧ n36 = m0 ∧ b37 = b0 := fun n0 m0 b0 => ⟨_, _, _, rfl, rfl, rfl, rfl⟩
                have tail : ∀ (n0 : ByteArray) (m0 : Int) (b0 : Bool), (match findH R2.queue kk with | none => #[Value.string (ByteArray.mk #[]), .int .i64 0, .bool false] | some x => #[.string x.1, .int .i64 x.2.2, .bool true]) = #[.string n0, .int .i64 m0, .bool b0] →
                    S_liveryref06_Table_Waits (some (Addr.mk (Array.size h1) 0 none)) kk g4 fun (vs38 : List Value) (h39 : Hp) =>
                                  ∃ s40 : ByteArray, ∃ n41 : Int, ∃ b42 : Bool, vs38 = [(Value.agg #[(Value.string s40), (Value.int .i64 n41), (Value.bool b42)])] ∧
                                  wth (Array.push h39 (Obj.cells #[(Value.string (ByteArray.mk #[])), (Value.int .i64 (0 : Int)), (Value.bool false)] T_liveryref06_Wants)) fun h43 =>
                                  stOk h43 (Addr.mk (Array.size h39) 0 none) 3 ∧ wth (wrs h43 (Addr.mk (Array.size h39) 0 none) 0 [(Value.string s40), (Value.int .i64 n41), (Value.bool b42)]) fun h44 =>
                                  ∀ J45 : List Value → Hp → Prop, (∀ b46 : Bool, ∀ h47 : Hp, ((if b46 = true then
                                        (Q [(Value.bool false)] h47) else
                                        (Y [(Value.int .i64 (IntKind.wrap .i64 ((k : Int) + (1 : Int))))] h47))) → J45 [(Value.bool b46)] h47) →
                                  ∃ s48 : ByteArray, rd h44 (Addr.add (Addr.mk (Array.size h39) 0 none) 0) = some (Value.string s48) ∧
                                  (if (!((ByteArray.toList n0) == (ByteArray.toList s48))) = true then (J45 [(Value.bool true)] h44) else
                                    (∃ n49 : Int, rd h44 (Addr.add (Addr.mk (Array.size h39) 0 none) 1) = some (Value.int .i64 n49) ∧
                                      (if (m0 != n49) = true then (J45 [(Value.bool true)] h44) else
                                        (∃ b50 : Bool, rd h44 (Addr.add (Addr.mk (Array.size h39) 0 none) 2) = some (Value.bool b50) ∧
                                          (if (!(b0 == b50)) = true then (J45 [(Value.bool true)] h44) else
                                            (∃ s51 : ByteArray, rd h44 (Addr.add (Addr.mk (Array.size g) 0 none) 3) = some (Value.string s51) ∧
                                              ∃ s52 : ByteArray, rd h44 (Addr.add (Addr.mk (Array.size g) 0 none) 3) = some (Value.string s52) ∧
                                              S_lock_Table_Modes (some ⟨t, 0, none⟩) kk s51 h44 fun (vs53 : List Value) (h54 : Hp) =>
                                              ∃ n55 : Int, vs53 = [(Value.int .i64 n55)] ∧
                                              rd h54 (Addr.add (Addr.mk (Array.size g) 0 none) 3) = some (Value.string s52) ∧ S_liveryref06_Table_Set (some (Addr.mk (Array.size h1) 0 none)) kk s52 h54 fun (vs56 : List Value) (h57 : Hp) =>
                                              ∃ n58 : Int, vs56 = [(Value.int .i64 n58)] ∧
                                              (if (n55 != n58) = true then (J45 [(Value.bool true)] h57) else
                                                (S_lock_Table_For (some ⟨t, 0, none⟩) kk h57 fun (vs59 : List Value) (h60 : Hp) =>
                                                  ∃ l61 : Sl, vs59 = [(Value.slice l61.a l61.n l61.c)] ∧
                                                  S_liveryref06_Table_For (some (Addr.mk (Array.size h1) 0 none)) kk h60 fun (vs62 : List Value) (h63 : Hp) =>
                                                  ∃ l64 : Sl, vs62 = [(Value.slice l64.a l64.n l64.c)] ∧
                                                  S_liverykeep_Ints ⟨l61.a, l61.n, l61.c⟩ ⟨l64.a, l64.n, l64.c⟩ h63 fun (vs65 : List Value) (h66 : Hp) =>
                                                  ∃ b67 : Bool, vs65 = [(Value.bool b67)] ∧
                                                  J45 [(Value.bool (!b67))] h66)))))))) := by
                  intro n0 m0 b0 hagg
                  refine WaitsR_s (hr3.ext0 e4) (by omega) kk fun g5 e5 => ?_
                  refine ⟨n0, m0, b0, congrArg (fun x => [Value.agg x]) hagg, ?_⟩
                  refine varI rfl rfl fun g6 z6 c6 e6 => ?_
                  have e46 := e5.trans0 e6
                  have b6 : Blk g6 g.size (encK xs[i]).toArray T_liverylaw06_Step := e46.get (e4.get (e3.get b2 (by simp)) (by simp)) (by simp)
                  intro J4 hJ4
                  refine ⟨n0, by simp [rd_blk c6], ?_⟩
                  rw [if_neg (by simp)]
                  refine ⟨m0, by simp [rd_blk c6], ?_⟩
                  rw [if_neg (by simp)]
                  refine ⟨b0, by simp [rd_blk c6], ?_⟩
                  rw [if_neg (by simp)]
                  have r3 : ∀ g7, Ext [] g6 g7 → rd g7 (Addr.add (Addr.mk g.size 0 none) 3) = some (.string xs[i].name) := fun g7 e7 => by simp [rd_blk (e7.get b6 (by simp))]
                  refine ⟨_, r3 g6 (Ext.refl _ _), _, r3 g6 (Ext.refl _ _), ?_⟩
                  have hv6 := hv4.e0 e46
                  have hr6 := (hr3.ext0 e4).ext0 e46
                  refine modes_L hv6 kk _ ⟨_, rfl, r3 g6 (Ext.refl _ _), ?_⟩
                  refine SetR_s hr6 hs2.m1 (by omega) kk _ ⟨_, rfl, ?_⟩
                  rw [modes_eq hs2, if_neg (by simp)]
                  refine for_L hv6 kk fun g7 s7 hv7 e7 ho7 => ⟨s7, rfl, ?_⟩
                  refine ForR_s (hr6.ext0 e7) hs2.m1 (by omega) (by omega) kk fun g8 s8 e8 ho8 => ⟨s8, rfl, ?_⟩
                  rw [hs2.for hok2] at ho7
                  have hfl : (forP R2 kk).length ≤ 2 ^ 40 := by
                    rw [← hs2.for hok2, forT_len]
                    unfold forLen
                    cases hw : waitsT T2 kk with
                    | none => simp
                    | some p =>
                      obtain ⟨n, m⟩ := p
                      simp only
                      refine Nat.le_trans (eraseDups_len _) ?_
                      have hA : (metA (hasT T2 n) kk m).length ≤ (hasT T2 n).length := by unfold metA; rw [List.length_map]; exact List.length_filter_le _ _
                      have hB : (metB ((waitT T2 n).takeWhile fun r => r.1 != kk) kk m).length ≤ (waitT T2 n).length := by unfold metB; rw [List.length_map]; exact Nat.le_trans (List.length_filter_le _ _) (List.takeWhile_sublist _).length_le
                      have hq := has_ok hok2 n
                      have h1 := hq.lenH
                      have h2 := hq.lenW
                      simp only at h1 h2
                      rw [List.length_append]
                      split
                      · omega
                      · simp; omega
                  refine Ints_s (ho7.ext0 e8).sl.reads ho8.sl.reads hfl ⟨_, rfl, ?_⟩
                  rw [decide_eq_true rfl]
                  refine hJ4 _ _ ?_
                  rw [if_neg (by decide), wrap64 (by omega) (by omega)]
                  have := ih2 (k + 1) g8 (by omega) ((((e3.trans0 e4).trans0 e46).trans0 e7).trans0 e8)
                  simpa using this
                cases hfd : findH R2.queue kk with
                | none =>
                  rw [hfd] at hw tail
                  rw [hw]
                  exact ⟨_, _, _, rfl, tail _ _ _ rfl⟩
                | some x =>
                  rw [hfd] at hw tail
                  rw [hw]
                  exact ⟨_, _, _, rfl, tail _ _ _ rfl⟩
              by_cases hk8 : (k : Int) = 8
              · rw [if_pos (by simpa using hk8)]
                exact ⟨xs[i].holder, by simp [rd_blk (e3.get b2 (by simp))], look _⟩
              · rw [if_neg (by simpa using hk8)]
                exact look _
          have := key2 9 0 g2 (by omega) (Ext.refl _ _)
          simpa using this
        have bstep : ∀ {S : List Nat} {ga gb : Hp}, Ext S ga gb → g.size ∉ S → Blk ga g.size (encK xs[i]).toArray T_liverylaw06_Step → Blk gb g.size (encK xs[i]).toArray T_liverylaw06_Step := fun e hn hb => e.get hb hn
        have vb : g.size ≠ h1.size := by omega
        -- the reference's step keeps the table
        have after : ∀ {T2 : TM} {R2 : RM} {g2 g3 : Hp} {sh3 sq3 : Sl}, Lk h.size (GR g.size h1.size sh sq) g2 t T2 → RAt h.size g3 h1.size R2 sh3 sq3 → Ext [h1.size] g2 g3 → (∀ x, x ∈ sBlk sh3 ∨ x ∈ sBlk sq3 → (x ∈ sBlk sh ∨ x ∈ sBlk sq) ∨ g2.size ≤ x) → Lk h.size (GR g.size h1.size sh3 sq3) g3 t T2 := by
          intro T2 R2 g2 g3 sh3 sq3 hv2 hr3 e3 hb3
          refine hv2.mv e3 (fun b hb _ => by simp at hb; exact Or.inr (Or.inl hb)) fun x hx => ?_
          have hz3 := e3.sz
          rcases hx with hx | hx | hx
          · have := hv2.1 x (Or.inl hx)
            exact ⟨Or.inl (Or.inl hx), by omega⟩
          · have := hv2.1 x (Or.inr (Or.inl hx))
            exact ⟨Or.inl (Or.inr (Or.inl hx)), by omega⟩
          · refine ⟨?_, hr3.lt (Or.inr hx)⟩
            rcases hb3 x hx with h | h
            · exact Or.inl (Or.inr (Or.inr h))
            · exact Or.inr h
        by_cases hk0 : xs[i].kind = 0
        · rw [if_pos (by simpa using hk0)]
          refine ⟨xs[i].holder, by simp [rd_blk b1], xs[i].name, by simp [rd_blk b1], xs[i].mode, by simp [rd_blk b1], xs[i].holder, by simp [rd_blk b1], xs[i].name, by simp [rd_blk b1], xs[i].mode, by simp [rd_blk b1], ?_⟩
          obtain ⟨hsim2, hans⟩ := hsim.take hv1'.ok xs[i].holder xs[i].name xs[i].mode
          refine take_L hv1' xs[i].holder _ _ fun g2 S2 hv2 e2 hS2 => ⟨_, rfl, ?_⟩
          have b2 := bstep e2 (fun hm => (hS2 _ hm).2 (Or.inl rfl)) b1
          refine ⟨by simp [rd_blk b2], by simp [rd_blk b2], by simp [rd_blk b2], ?_⟩
          have eg2 := ext_lo eg1 e2 fun b hb => (hS2 b hb).1
          have hr2 := hr1.extS e2 fun x hx hg => (hS2 x hx).2 (Or.inr hg)
          have hz2 := eg2.sz
          refine TakeR_s hr2 hsim.m1 (by omega) (by omega) xs[i].holder _ _ (by omega) fun g3 sh3 sq3 hr3 e3 hb3 => ⟨_, rfl, ?_⟩
          rw [hans, if_neg (by simp)]
          have hlenR := takeR_len R xs[i].holder xs[i].name xs[i].mode
          refine go g3 _ _ sh3 sq3 (eg2.trans e3 fun b hb hlt => by simp at hb; omega) (after hv2 hr3 e3 hb3) hr3 hsim2 (by have := (takeT_ok hv1'.ok xs[i].holder xs[i].name xs[i].mode).2; omega) (by omega) (bstep e3 (by simpa using vb) b2)
        · rw [if_neg (by simpa using hk0)]
          refine ⟨xs[i].holder, by simp [rd_blk b1], xs[i].holder, by simp [rd_blk b1], ?_⟩
          obtain ⟨hsim2, hans⟩ := hsim.release hv1'.ok xs[i].holder
          refine release_L hv1' xs[i].holder (by omega) fun g2 s2 S2 hv2 ho2 hs2 e2 hS2 => ⟨s2, rfl, ?_⟩
          have b2 := bstep e2 (fun hm => (hS2 _ hm).2 (Or.inl rfl)) b1
          refine ⟨by simp [rd_blk b2], ?_⟩
          have eg2 := ext_lo eg1 e2 fun b hb => (hS2 b hb).1
          have hr2 := hr1.extS e2 fun x hx hg => (hS2 x hx).2 (Or.inr hg)
          have hz2 := eg2.sz
          have hfit : RFit (2 ^ 16) R := ⟨hsim.m1, hsim.m2, by omega⟩
          have hlenR := releaseP_len (N := R.has.length + R.queue.length) ⟨hsim.m1, hsim.m2, Nat.le_refl _⟩ xs[i].holder
          refine ReleaseR_s hr2 hfit xs[i].holder (by omega) fun g3 sh3 sq3 s3 hr3' ho3 e3 => ⟨s3, rfl, ?_⟩
          have hr3 := hr3'.mono (lo' := h.size) (by omega)
          have hb3 : ∀ x, x ∈ sBlk sh3 ∨ x ∈ sBlk sq3 → (x ∈ sBlk sh ∨ x ∈ sBlk sq) ∨ g2.size ≤ x := fun x hx => Or.inr (hx.elim (fun q => (own_ltG hr3'.has x q).1) fun q => (own_ltG hr3'.queue x q).1)
          have ho2' : Own T_int 1 encIL g1.size g3 s2 (releaseT T xs[i].holder).2 := ho2.ext e3 fun ad ha hm => by
            simp at hm
            exact (hs2 _ (mem_sBlk.2 ⟨ad, ha, rfl⟩)).2 (Or.inr (Or.inl hm))
          refine Ints_s ho2'.sl.reads ho3.sl.reads (by rw [hans]; omega) ⟨_, rfl, ?_⟩
          rw [hans, decide_eq_true rfl, if_neg (by decide)]
          refine go g3 _ _ sh3 sq3 (eg2.trans e3 fun b hb hlt => by simp at hb; omega) (after hv2 hr3 e3 hb3) hr3 hsim2 (by have := (releaseT_ok hv1'.ok xs[i].holder).2; omega) (by omega) (bstep e3 (by simpa using vb) b2)
    have := key xs.length 0 h2 [] ⟨[], []⟩ ⟨none, 0, 0⟩ ⟨none, 0, 0⟩ (by omega) f2 hv2 hr2 Sim.nil (by simp) (by simp)
    simpa using this
end
end Go.Lift

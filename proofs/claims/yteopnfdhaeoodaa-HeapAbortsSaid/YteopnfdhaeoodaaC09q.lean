/- HeapAborts: whatever an aborted one put and ended, everybody sees what there was ahead of it. -/
import Derived.Test.YteopnfdhaeoodaaC09m
import Derived.Test.YteopnfdhaeoodaaLvR
set_option linter.unusedSimpArgs false
set_option linter.unusedVariables false
namespace Go.Lift
open Go Go.Proofs
set_option maxRecDepth 100000
def LAb : LogM := (((log0.begin false).commit 1).begin false).begin false
def LAc : LogM := (LAb.abort 2).begin true
theorem filter_ints {p : Int → Bool} {k : Nat} : ∀ {N : Nat}, k ≤ N → (∀ t : Int, 0 ≤ t → t < N → p t = decide (t < k)) → (ints N).filter p = ints k
  | 0, hk, _ => by
    have : k = 0 := by omega
    subst this; rfl
  | N + 1, hk, h => by
    rw [ints_succ, List.filter_append]
    by_cases e : k = N + 1
    · subst e
      rw [List.filter_eq_self.2 (by intro t ht; have := ints_mem.1 ht; rw [h t (by omega) (by omega)]; simp; omega)]
      rw [ints_succ]
      have : p (N : Int) = true := by rw [h N (by omega) (by omega)]; simp; omega
      simp [this]
    · rw [filter_ints (N := N) (by omega) (fun t h1 h2 => h t h1 (by omega))]
      have : p (N : Int) = false := by rw [h N (by omega) (by omega)]; simp; omega
      simp [this]
structure AbInv (k : Nat) (R : RelM) : Prop where
  keys : ∃ N : Nat, k ≤ N ∧ R.T.map Prod.fst = ints N ∧ R.next = N
  val : ∀ t u, R.find t = some u → (t < k → u.xmin = 1) ∧ ((k : Int) ≤ t → u.xmin = 2) ∧ (u.xmax = 0 ∨ u.xmax = 2)
theorem AbInv.find {k : Nat} {R : RelM} (hi : AbInv k R) {t : Int} (h0 : 0 ≤ t) (hN : t < R.next) : ∃ u, R.find t = some u := by
  obtain ⟨N, h1, h2, h3⟩ := hi.keys
  cases hf : R.find t with
  | some u => exact ⟨u, rfl⟩
  | none =>
    have := (afind_none R.T t).1 hf
    rw [h2] at this
    exact absurd (ints_mem.2 ⟨h0, by omega⟩) this
theorem AbInv.base (k : Nat) : AbInv k (baseR k) := by
  refine ⟨⟨k, Nat.le_refl _, baseT_keys k, rfl⟩, fun t u hf => ?_⟩
  have hm := afind_mem hf
  simp only [baseR, baseT, List.mem_map, List.mem_range, Prod.mk.injEq] at hm
  obtain ⟨i, h1, h2, h3⟩ := hm
  subst h3
  exact ⟨fun _ => rfl, fun h => by omega, Or.inl rfl⟩
theorem AbInv.ins {k : Nat} {R : RelM} (hi : AbInv k R) (row : List Val) : AbInv k (R.ins 2 row) := by
  obtain ⟨N, h1, h2, h3⟩ := hi.keys
  refine ⟨⟨N + 1, by omega, by simp [RelM.ins, h2, h3, ints_succ], by simp [RelM.ins, h3]⟩, fun t u hf => ?_⟩
  have hm := afind_mem hf
  simp only [RelM.ins, List.mem_append, List.mem_singleton, Prod.mk.injEq] at hm
  rcases hm with hm | ⟨rfl, rfl⟩
  · exact hi.val t u (afind_of_mem (by rw [h2]; exact ints_nodup N) hm)
  · exact ⟨fun h => by omega, fun _ => rfl, Or.inl rfl⟩
theorem AbInv.del {k : Nat} {R : RelM} (hi : AbInv k R) {e : Int} (he : (R.find e).isSome = true) : AbInv k (R.del 2 e) := by
  obtain ⟨N, h1, h2, h3⟩ := hi.keys
  obtain ⟨v, hv⟩ := Option.isSome_iff_exists.1 he
  have hmem : e ∈ R.T.map Prod.fst := by
    apply Classical.byContradiction
    intro hn
    have := (afind_none R.T e).2 hn
    unfold RelM.find at hv
    rw [this] at hv; cases hv
  refine ⟨⟨N, h1, by simp only [RelM.del, keys_aput]; rw [if_pos hmem]; exact h2, h3⟩, fun t u hf => ?_⟩
  unfold RelM.find RelM.del at hf
  simp only [afind_aput] at hf
  split at hf
  · rename_i e1
    subst e1
    cases hf
    have h4 := hi.val t v hv
    have hg : R.get t = v := by unfold RelM.get; rw [hv]; rfl
    rw [hg]
    exact ⟨h4.1, h4.2.1, Or.inr rfl⟩
  · exact hi.val t u hf
theorem AbInv.visible {k : Nat} {R : RelM} (hi : AbInv k R) {L : LogM} {x : Int} (h1 : L.sees x 1 = true) (h2 : L.sees x 2 = false) : R.visible L x = ints k := by
  obtain ⟨N, g1, g2, g3⟩ := hi.keys
  unfold RelM.visible RelM.keys
  rw [g2, sortI_sorted (ints_sorted N)]
  refine filter_ints g1 fun t ht htN => ?_
  obtain ⟨u, hu⟩ := hi.find ht (by omega)
  have hg : R.get t = u := by unfold RelM.get; rw [hu]; rfl
  obtain ⟨v1, v2, v3⟩ := hi.val t u hu
  unfold RelM.sees
  rw [hu, hg]
  by_cases hk : t < k
  · rw [v1 hk, h1]
    rcases v3 with e | e
    · simp [endedM, e, hk]
    · simp [e, h2, hk]
  · rw [v2 (by omega), h2]
    simp [hk]
theorem AbInv.unseen {k : Nat} {R : RelM} (hi : AbInv k R) {L : LogM} {x t : Int} (h0 : 0 ≤ t) (hk : t < k) (h1 : L.sees x 1 = true) (h3 : (L.at 2).st = 3) : R.unseen L x t = [] := by
  obtain ⟨N, g1, g2, g3⟩ := hi.keys
  obtain ⟨u, hu⟩ := hi.find h0 (by omega)
  have hg : R.get t = u := by unfold RelM.get; rw [hu]; rfl
  obtain ⟨v1, v2, v3⟩ := hi.val t u hu
  have he : endedM L u = false := by
    rcases v3 with e | e
    · simp [endedM, e]
    · simp [endedM, e, h3]
  unfold RelM.unseen
  rw [hu, hg, v1 hk, h1, he]
  simp
theorem lab_facts : LAb.sees 3 1 = true ∧ LAb.sees 3 2 = false ∧ LAc.sees 3 1 = true ∧ LAc.sees 3 2 = false ∧ LAc.sees 4 1 = true ∧ LAc.sees 4 2 = false ∧ (LAc.at 2).st = 3 ∧ LAb.live 2 = true := by decide
section
variable {h : Hp} {p r m : Nat} {L : LogM} {R : RelM} {Q : List Value → Hp → Prop}
theorem HeapAborts_s {h0 : Hp} {n : Int} {sl : Sl} {xs : List Int} (hn : 0 ≤ n ∧ n ≤ 255) (hr : Reads 1 (fun n : Int => [Value.int .u8 n]) h0 sl xs) (hx : ∀ x ∈ xs, 0 ≤ x ∧ x ≤ 255) (hQ : ∀ h', Ext [] h0 h' → Q [.bool true] h') :
    F_liverylaw09_HeapAborts n sl h0 Q := by
  unfold F_liverylaw09_HeapAborts
  refine New_s fun h1 l1 e1 s1 => ⟨_, rfl, ?_⟩
  refine HNew_s fun h2 r2 e2 => ⟨_, rfl, ?_⟩
  have st : St h0 h2 h0.size (h1.size + 1) h1.size log0 (baseR 0) := ⟨l1.ext e2 (by simp), r2, e1.trans0 e2, Nat.le_refl _, by omega, by omega⟩
  generalize h0.size = p at *
  generalize h1.size + 1 = r at *
  generalize h1.size = m at *
  clear l1 r2 e1 e2 s1
  have hlen := hr.1
  intro J hJ
  rw [if_neg (by simp), if_neg (by simp)]
  refine hJ _ _ ?_
  by_cases h60 : sl.n > 60
  · rw [if_pos (by simp; omega)]
    intro J1 hJ1
    rw [if_pos (by simp), if_pos (by simp)]
    refine wakes_s fun h3 e3 => ⟨_, rfl, ?_⟩
    exact hJ1 _ _ (hQ _ (st.ext.trans0 e3))
  rw [if_neg (by simp; omega)]
  refine Begin_s st.log fun h3 l3 e3 => ⟨_, _, rfl, ?_⟩
  have st := st.eL e3 l3
  refine ⟨by decide, ?_⟩
  obtain ⟨k, hk, hk29⟩ : ∃ k : Nat, Int.tmod (IntKind.wrap .i64 n) 30 = k ∧ k ≤ 29 := by
    rw [wrap64 (by omega) (by omega), Int.tmod_eq_emod_of_nonneg hn.1]
    exact ⟨(n % 30).toNat, by omega, by omega⟩
  rw [hk]
  intro X hX
  have key1 : ∀ d i h, d + i = k → St h0 h p r m (log0.begin false) (baseR i) → X [.int .i64 (i : Int)] h := by
    intro d
    induction d with
    | succ d ih =>
      intro i h hi st
      refine hX _ _ ?_
      rw [if_pos (by simp; omega)]
      refine one9_s fun h5 s hs hsn e5 => ⟨s, rfl, ?_⟩
      have st := st.e0 e5
      have hf : (baseR i).full = false := by simp [RelM.full, baseR, baseT_len]; omega
      refine Insert_s st.rel hs.reads (show s.n ≤ 2 ^ 20 by omega) fun h6 r6 e6 => ⟨_, _, rfl, ?_⟩
      have st := st.eR e6 r6
      have hc1 : (1 : Int) ≤ 1 ∧ (baseR i).full = false := ⟨by decide, hf⟩
      have hc2 : ¬ (baseR i).full = true := by simp [hf]
      rw [if_pos hc1] at st
      rw [if_pos hc1.1, if_neg hc2, if_neg (by decide)]
      rw [wrap64 (by omega) (by omega)]
      have := ih (i + 1) h6 (by omega) (by rw [← base_ins]; exact st)
      simpa using this
    | zero =>
      intro i h hi st
      have : i = k := by omega
      subst this
      refine hX _ _ ?_
      rw [if_neg (by simp)]
      refine Commit_s st.log (by decide) fun h7 l7 e7 => ⟨_, _, rfl, ?_⟩
      have st := st.eL e7 l7
      refine Begin_s st.log fun h8 l8 e8 => ⟨_, _, rfl, ?_⟩
      have st := st.eL e8 l8
      refine Begin_s st.log fun h9 l9 e9 => ⟨_, _, rfl, ?_⟩
      have st : St h0 h9 p r m LAb (baseR i) := st.eL e9 l9
      obtain ⟨f1, f2, f3, f4, f5, f6, f7, f8⟩ := lab_facts
      intro Y hY
      have key2 : ∀ d j h (R : RelM), d + j = xs.length → St h0 h p r m LAb R → AbInv i R → Y [.int .i64 (j : Int)] h := by
        intro d
        induction d with
        | succ d ih =>
          intro j h R hj st hi
          refine hY _ _ ?_
          rw [if_pos (by simp; omega)]
          have hrd := hr.ext0 st.ext
          obtain ⟨a, g1, g2⟩ := hrd.rd (fun _ => rfl) (i := j) (by omega)
          have g2 := g2 0 (by decide)
          simp only [Nat.add_zero, List.getElem?_cons_zero] at g2
          have hxj := hx (xs[j]'(by omega)) (List.getElem_mem _)
          generalize xs[j]'(by omega) = e at *
          rw [g1]
          simp only [nilW_some, Int.toNat_natCast]
          refine ⟨by omega, by omega, e, g2, by decide, ?_⟩
          intro J2 hJ2
          have rest : ∀ h (R : RelM), St h0 h p r m LAb R → AbInv i R → J2 [] h := by
            intro h R st hi
            refine hJ2 _ ?_
            refine Visible_s st.log st.rel fun h10 s e10 ho => ⟨s, rfl, ?_⟩
            rw [hi.visible f1 f2] at ho
            have hn : s.n = i := by rw [ho.1, ints_len]
            rw [if_neg (by simp [hn]), wrap64 (by omega) (by omega)]
            have := ih (j + 1) h10 R (by omega) (st.e0 e10) hi
            simpa using this
          by_cases hev : Int.tmod e 2 = 0
          · rw [if_pos (by simp [hev])]
            refine ⟨by omega, by omega, e, g2, ?_⟩
            refine one9_s fun h5 s hs hsn e5 => ⟨s, rfl, ?_⟩
            have st := st.e0 e5
            refine Insert_s st.rel hs.reads (show s.n ≤ 2 ^ 20 by omega) fun h6 r6 e6 => ⟨_, _, rfl, ?_⟩
            have st := st.eR e6 r6
            refine rest _ _ st ?_
            split
            · exact hi.ins _
            · exact hi
          · rw [if_neg (by simp [hev])]
            refine ⟨by omega, by omega, e, g2, ?_⟩
            rw [wrap64 (x := e) (by omega) (by omega)]
            refine May_s st.log st.rel fun h5 e5 => ⟨_, _, rfl, ?_⟩
            have st := st.e0 e5
            split
            · have g3 := rd_ext0 e5 g2
              refine ⟨by omega, by omega, e, g3, ?_⟩
              rw [wrap64 (x := e) (by omega) (by omega)]
              refine Delete_s st.rel fun h6 r6 e6 => ⟨_, rfl, ?_⟩
              have st := st.eR e6 r6
              refine rest _ _ st ?_
              split
              · rename_i hc
                exact hi.del hc.2
              · exact hi
            · exact rest _ _ st hi
        | zero =>
          intro j h R hj st hi
          refine hY _ _ ?_
          rw [if_neg (by simp; omega)]
          refine Abort_s st.log fun h5 l5 e5 => ⟨_, rfl, ?_⟩
          have st := st.eL e5 l5
          rw [if_pos f8, if_neg (by decide)]
          refine Begin_s st.log fun h6 l6 e6 => ⟨_, _, rfl, ?_⟩
          have st : St h0 h6 p r m LAc R := st.eL e6 l6
          refine Visible_s st.log st.rel fun h7 sa e7 hoa => ⟨sa, rfl, ?_⟩
          have st := st.e0 e7
          refine Visible_s st.log st.rel fun h8 sb e8 hob => ⟨sb, rfl, ?_⟩
          have st := st.e0 e8
          rw [hi.visible f3 f4] at hoa
          rw [hi.visible f5 f6] at hob
          have hoa := hoa.sl.ext0 e8
          have hob := hob.sl
          have hna : sa.n = i := by rw [hoa.1, ints_len]
          intro Z hZ
          have key3 : ∀ d j h, d + j = i → St h0 h p r m LAc R → IntsAt h sa (ints i) → IntsAt h sb (ints i) → Z [.int .i64 (j : Int)] h := by
            intro d
            induction d with
            | succ d ih =>
              intro j h hj st ha hb
              refine hZ _ _ ?_
              rw [if_pos (by simp; omega)]
              intro J3 hJ3
              obtain ⟨a, g1, g2⟩ := sl_get ha (i := j) (by rw [ints_len]; omega)
              have hij : (ints i)[j]'(by rw [ints_len]; omega) = (j : Int) := by simp [ints]
              rw [hij] at g2
              rw [g1]
              simp only [nilW_some, Int.toNat_natCast]
              refine ⟨by omega, by omega, _, g2, ?_⟩
              rw [if_neg (by simp)]
              refine Unseen_s st.log st.rel fun h9 u e9 hu => ⟨u, rfl, ?_⟩
              rw [hi.unseen (by omega) (by omega) f3 f7] at hu
              have hu0 : u.n = 0 := hu.1
              refine hJ3 _ _ ?_
              rw [if_neg (by simp [hu0]), wrap64 (by omega) (by omega)]
              have := ih (j + 1) h9 (by omega) (st.e0 e9) (ha.ext0 e9) (hb.ext0 e9)
              simpa using this
            | zero =>
              intro j h hj st ha hb
              refine hZ _ _ ?_
              rw [if_neg (by simp; omega), if_pos (by simp [hna])]
              refine Ints_s ha hb (by rw [ints_len]; omega) ⟨_, rfl, ?_⟩
              rw [if_pos (by simp)]
              refine wakes_s fun h9 e9 => ⟨_, rfl, ?_⟩
              exact hQ _ (st.ext.trans0 e9)
          exact key3 i 0 h8 (by omega) st hoa hob
      exact key2 xs.length 0 h9 (baseR i) (by omega) st (AbInv.base i)
  exact key1 k 0 h3 (by omega) st
end
end Go.Lift

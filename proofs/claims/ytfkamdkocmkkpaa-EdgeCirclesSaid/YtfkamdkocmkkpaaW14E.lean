/- EdgeCircles: the walk. -/
import Derived.Test.YtfkamdkocmkkpaaW14D
set_option linter.unusedSimpArgs false
set_option linter.unusedVariables false
namespace Go.Lift
open Go Go.Proofs
set_option maxRecDepth 100000
theorem EvS.ref2 {G G' : Nat → Prop} {g g' : Hp} {cb e : Nat} {L : LM} {E : EM} {S : List Nat} (hE : EvS G g cb e L E) (he : Ext S g g') (hS : ∀ b ∈ S, G b) (hG' : ∀ b, G' b → (G b ∨ g.size ≤ b) ∧ b < g'.size) : EvS G' g' cb e L E := by
  obtain ⟨h1, h2, ⟨mb, ob, a1, a2, a3, a4, a5, a6⟩, h4⟩ := hE
  have n1 : ∀ b, b < g.size → ¬ G b → ¬ G' b := fun b hb hg hg' => by
    rcases (hG' b hg').1 with k | k
    · exact hg k
    · omega
  exact ⟨fun b hb => (hG' b hb).2, h2.ext he fun hm => h4.1 (hS _ hm), ⟨mb, ob, he.get a1 fun hm => h4.2 (hS _ hm), a2.ext he fun hm => a5 (hS _ hm), a3.ext he fun hm => a6 (hS _ hm), a4, n1 _ a2.lt a5, n1 _ a3.lt a6⟩, n1 _ h2.lt h4.1, n1 _ (blk_lt a1) h4.2⟩
theorem loopLeC {X : List Value → Hp → Prop} (n : Nat) (I : Nat → Bool → Bool → Hp → Prop) (hend : ∀ c p g, I (n + 1) c p g → X [.bool c, .bool p, .int .i64 ((n + 1 : Nat) : Int)] g)
    (hstep : ∀ i c p g, 1 ≤ i → i ≤ n → I i c p g → (∀ c' p' g', I (i + 1) c' p' g' → X [.bool c', .bool p', .int .i64 ((i + 1 : Nat) : Int)] g') → X [.bool c, .bool p, .int .i64 (i : Int)] g) (g : Hp) (h0 : I 1 false false g) : X [.bool false, .bool false, .int .i64 (1 : Int)] g := by
  have key : ∀ d i c p g, d + i = n + 1 → 1 ≤ i → I i c p g → X [.bool c, .bool p, .int .i64 (i : Int)] g := by
    intro d
    induction d with
    | zero =>
      intro i c p g hi _ hI
      have : i = n + 1 := by omega
      subst this
      exact hend c p g hI
    | succ d ih =>
      intro i c p g hi h1 hI
      exact hstep i c p g h1 (by omega) hI fun c' p' g' hI' => ih (i + 1) c' p' g' (by omega) (by omega) hI'
  exact key n 1 false false g (by omega) (Nat.le_refl _) h0
/-- True places of the matrix are ways. -/
def MI (n : Nat) (L : LM) (E : EM) (mb : Nat) (g : Hp) : Prop := ∃ F, MatAt g mb F ∧ ∀ i j, F i j = true → (1 ≤ i ∧ i ≤ n) ∧ (1 ≤ j ∧ j ≤ n) ∧ Way (RC L E) (i : Int) (j : Int)
theorem MI.st {n : Nat} {L : LM} {E : EM} {mb : Nat} {g : Hp} (hm : MI n L E mb g) {i j : Nat} (hi : i < 21) (hj : j < 21) (v : Bool) (hv : v = true → (1 ≤ i ∧ i ≤ n) ∧ (1 ≤ j ∧ j ≤ n) ∧ Way (RC L E) (i : Int) (j : Int)) {K : Hp → Prop} (H : ∀ g', MI n L E mb g' → Ext [mb] g g' → K g') :
    stOk g (Addr.add (Addr.add (Addr.mk mb 0 none) (Int.toNat (i : Int) * 21)) (Int.toNat (j : Int) * 1)) 1 ∧ wth (wrs g (Addr.add (Addr.add (Addr.mk mb 0 none) (Int.toNat (i : Int) * 21)) (Int.toNat (j : Int) * 1)) 0 [.bool v]) K := by
  obtain ⟨F, h1, h2⟩ := hm
  refine h1.st hi hj v fun g' hm' he => H g' ⟨_, hm', fun a c hac => ?_⟩ he
  by_cases e : a = i ∧ c = j
  · obtain ⟨rfl, rfl⟩ := e
    rw [if_pos ⟨rfl, rfl⟩] at hac
    exact hv hac
  · rw [if_neg e] at hac
    exact h2 a c hac
section
variable {h : Hp} {Q : List Value → Hp → Prop}
theorem EdgeCircles_s {s : Sl} {xs : List StepE} (hs : Reads 4 encStE h s xs) (hl : xs.length ≤ 9223372036854775807) (hQ : ∀ h', Ext [] h h' → Q [.bool true] h') : F_liverylaw14_EdgeCircles s h Q := by
  unfold F_liverylaw14_EdgeCircles
  refine New08_s fun h1 cb hC1 e1 hcb => ⟨_, rfl, ?_⟩
  have hG1 : ∀ b, b < h.size → b < h1.size := fun b hb => by have := e1.sz; omega
  refine New14_s (G := fun b => b < h.size) hG1 hC1 (by omega) fun h2 e hE2 e2 => ⟨_, rfl, ?_⟩
  have k2 := kg_ext0 (G := fun b => b < h.size) (e1.trans0 e2) fun b hb => hb
  have kgx : ∀ g, KG (fun b => b < h.size) h g → Ext [] h g := fun g hk => ⟨hk.sz, fun b hb _ => hk.old b hb⟩
  have hn := hs.1
  intro J hJ
  rw [if_neg (by simp), if_neg (by simp)]
  refine hJ _ _ ?_
  by_cases hlong : (s.n : Int) > 60
  · rw [if_pos (by simpa using hlong)]
    intro J10 hJ10
    rw [if_pos (by simp), if_pos (by simp)]
    exact wakes14_s fun h3 e3 => ⟨_, rfl, hJ10 _ _ (hQ h3 ((e1.trans0 e2).trans0 e3))⟩
  rw [if_neg (by simpa using hlong)]
  intro X hX
  have ok0 : COk 0 ⟨[], 0⟩ ⟨[], []⟩ := ⟨⟨lok_new, ⟨by simp, by simp, by simp⟩, fun q hq => (by cases hq), rfl⟩, fun x => by
    have : ¬ hasL ⟨[], 0⟩ x := fun hh => by have := hh.1; have := hh.2; simp at this; omega
    rw [txL_no this]; rfl, by simp⟩
  refine loopI2 (A := Int) (va := fun n => .int .i64 n) xs.length (fun i c g => ∃ L E, COk i L E ∧ c = (L.l.length : Int) ∧ EvS (fun b => b < h.size) g cb e L E ∧ KG (fun b => b < h.size) h g) ?_ ?_ 0 h2 ⟨_, _, ok0, rfl, hE2, k2⟩
  · rintro c g ⟨L, E, hok, rfl, hE, kg⟩
    refine hX _ _ _ ?_
    rw [if_neg (by simp; omega)]
    by_cases hbig : (L.l.length : Int) > 20
    · rw [if_pos (by simpa using hbig)]
      exact wakes14_s fun h3 e3 => ⟨_, rfl, hQ h3 ((kgx _ kg).trans0 e3)⟩
    rw [if_neg (by simpa using hbig)]
    obtain ⟨n, hnn⟩ : ∃ n, n = L.l.length := ⟨_, rfl⟩
    rw [← hnn] at hbig ⊢
    intro Y hY
    have hclk0 := hok.b.lk.clk
    refine loopLe n (fun i g1 => ∃ L1 m, BOk m L1 E ∧ m ≤ 60 + i ∧ (∀ x, (txL L1 x).reads = false) ∧ L1.l.length = n ∧ (∀ x : Int, 1 ≤ x → x < (i : Int) → (txL L1 x).state ≠ 1) ∧ EvS (fun b => b < h.size) g1 cb e L1 E ∧ KG (fun b => b < h.size) h g1) ?_ ?_ g ⟨L, xs.length, hok.b, by omega, hok.rd, hnn.symm, fun x h1 h2 => by omega, hE, kg⟩
    · rintro g1 ⟨L1, m, hb, hm, hrd, hln, hst, hE1, kg1⟩
      refine hY _ _ ?_
      rw [if_neg (by simp; omega)]
      have hall : ∀ x, (txL L1 x).state ≠ 1 := fun x => by
        by_cases hh : hasL L1 x
        · have q1 := hh.1
          have q2 := hh.2
          exact hst x q1 (by omega)
        · rw [txL_no hh]; decide
      refine newI fun g2 s2 b2 e2' => ?_
      have hE2 := hE1.more e2'
      have hgl : ∀ b, b < h.size → GX (fun b => b < h.size) g1 g2 b := fun b hb => Or.inl hb
      have hgm : GX (fun b => b < h.size) g1 g2 g1.size := Or.inr ⟨Nat.le_refl _, by omega⟩
      have kg2 := kg1.trans (kg_ext0 e2' hE1.lt)
      have hmb : h.size ≤ g1.size := kg1.sz
      generalize GX (fun b => b < h.size) g1 g2 = G2 at hE2 hgl hgm
      obtain ⟨mb, hmbe⟩ : ∃ mb, mb = g1.size := ⟨_, rfl⟩
      rw [← hmbe] at hgm b2 hmb ⊢
      -- the state of all loops over the matrix
      obtain ⟨ST, hST⟩ : ∃ ST : Hp → Prop, ∀ g', ST g' ↔ EvS G2 g' cb e L1 E ∧ MI n L1 E mb g' ∧ KG (fun b => b < h.size) h g' := ⟨_, fun _ => Iff.rfl⟩
      have st0 : ST g2 := (hST g2).2 ⟨hE2, ⟨_, mat_new b2, fun i j hij => by cases hij⟩, kg2⟩
      have stE : ∀ {g' g''}, ST g' → Ext [] g' g'' → ST g'' := fun hs he => by
        rw [hST] at hs ⊢
        obtain ⟨q1, ⟨F, q2, q3⟩, q4⟩ := hs
        exact ⟨q1.ext0 he, ⟨F, q2.ext he (by simp), q3⟩, q4.trans (kg_ext0 he fun b hb => q1.lt b (hgl b hb))⟩
      have stW : ∀ {g'} {i j : Nat} (v : Bool) {K : Hp → Prop}, ST g' → i < 21 → j < 21 → (v = true → (1 ≤ i ∧ i ≤ n) ∧ (1 ≤ j ∧ j ≤ n) ∧ Way (RC L1 E) (i : Int) (j : Int)) → (∀ g'', ST g'' → Ext [mb] g' g'' → K g'') →
          stOk g' (Addr.add (Addr.add (Addr.mk mb 0 none) (Int.toNat (i : Int) * 21)) (Int.toNat (j : Int) * 1)) 1 ∧ wth (wrs g' (Addr.add (Addr.add (Addr.mk mb 0 none) (Int.toNat (i : Int) * 21)) (Int.toNat (j : Int) * 1)) 0 [.bool v]) K := by
        intro g' i j v K hs hi hj hv H
        obtain ⟨q1, q2, q4⟩ := (hST g').1 hs
        refine q2.st hi hj v hv fun g'' hm' he => H g'' ((hST g'').2 ⟨?_, hm', q4.trans ⟨he.sz, fun b hb => he.old b (q1.lt b (hgl b hb)) (by simp; omega)⟩⟩) he
        exact q1.ref2 he (by intro b hb; simp at hb; rw [hb]; exact hgm) fun b hb => ⟨Or.inl hb, by have := q1.lt b hb; have := he.sz; omega⟩
      have hek := hb.ek
      have hn20 : n ≤ 20 := by omega
      intro A hA
      have hcl : ∀ {g'}, ST g' → ClAt g' cb L1 := fun hs => ((hST _).1 hs).1.cl
      have rr0 : ∀ {i : Nat}, i ≤ n → (0 : Int) ≤ (i : Int) ∧ (i : Int) < (21 : Nat) := fun hi => ⟨by omega, by omega⟩
      have hfal : ∀ {i j : Nat}, false = true → (1 ≤ i ∧ i ≤ n) ∧ (1 ≤ j ∧ j ≤ n) ∧ Way (RC L1 E) (i : Int) (j : Int) := fun h => by cases h
      refine loopLe n (fun _ g' => ST g') ?_ ?_ g2 st0
      · intro g3 s3
        refine hA _ _ ?_
        rw [if_neg (by simp; omega)]
        refine All_s ((hST _).1 s3).1 hek (by omega) fun g4 s4 e4 ho4 => ⟨s4, rfl, ?_⟩
        have hn4 := ho4.1
        have hl4 : (allE E).length = E.m.length := sortC_len
        have hle := hek.len
        have s4' := stE s3 e4
        have hmb3 : mb < g3.size := by
          obtain ⟨_, ⟨F, q2, _⟩, _⟩ := (hST _).1 s3
          obtain ⟨c, q3, _⟩ := q2.ex
          exact blk_lt q3
        intro Y2 hY2
        refine loopI (allE E).length (fun _ g5 => ST g5 ∧ Ext [mb] g4 g5) ?_ ?_ g4 ⟨s4', Ext.refl _ _⟩
        · rintro g5 ⟨s5, _⟩
          refine hY2 _ _ ?_
          rw [if_neg (by simp; omega)]
          intro X3 hX3
          refine loopLe n (fun _ g' => ST g') ?_ ?_ g5 s5
          · intro g6 s6
            refine hX3 _ _ ?_
            rw [if_neg (by simp; omega)]
            intro X4 hX4
            refine loopLeC n (fun i c p g' => ST g' ∧ (c = true → ∃ x, Way (RC L1 E) x x) ∧ (p = false → ∀ q : Int, 1 ≤ q → q < (i : Int) → (spoiltE L1 E q).2 = false)) ?_ ?_ g6 ⟨s6, by simp, fun _ q h1 h2 => by omega⟩
            · rintro c p g7 ⟨s7, k1, k2⟩
              refine hX4 _ _ _ _ ?_
              rw [if_neg (by simp; omega)]
              have fin : S_liverylaw14_wakes g7 fun vs h' => ∃ b, vs = [.bool b] ∧ Q [.bool b] h' := wakes14_s fun h3 e3 => ⟨_, rfl, hQ h3 ((kgx _ ((hST _).1 s7).2.2).trans0 e3)⟩
              cases c with
              | false => rw [if_pos (by decide)]; exact fin
              | true =>
                rw [if_neg (by decide)]
                obtain ⟨x, hx⟩ := k1 rfl
                obtain ⟨q, hq1, hq2⟩ := circle_spoilt hb.lk hb.bi hall hrd hx
                cases p with
                | true => rw [if_pos rfl]; exact fin
                | false =>
                  have := k2 rfl q hq1.1 (by have := hq1.2; omega)
                  rw [this] at hq2; cases hq2
            · rintro i c p g7 h1i hin ⟨s7, k1, k2⟩ hnext
              refine hX4 _ _ _ _ ?_
              rw [if_pos (by simp; omega)]
              intro J5 hJ5 J6 hJ6
              have go : ∀ c', (c' = true → ∃ x, Way (RC L1 E) x x) → J6 [.bool c'] g7 := by
                intro c' hc'
                refine hJ6 _ _ ?_
                refine Spoilt_s ((hST _).1 s7).1 hek (by omega) _ fun g8 s8 e8 ho8 => ⟨s8, _, rfl, ?_⟩
                by_cases hsp : (spoiltE L1 E (i : Int)).2 = true
                · rw [if_pos hsp]
                  refine hJ5 _ _ _ ?_
                  rw [wrap64 (by omega) (by omega)]
                  exact hnext _ _ _ ⟨stE s7 e8, hc', by simp⟩
                · rw [if_neg hsp]
                  refine hJ5 _ _ _ ?_
                  rw [wrap64 (by omega) (by omega)]
                  refine hnext _ _ _ ⟨stE s7 e8, hc', fun hp q h1 h2 => ?_⟩
                  rcases (by omega : q < (i : Int) ∨ q = (i : Int)) with k | k
                  · exact k2 hp q h1 k
                  · rw [k]; simpa using hsp
              by_cases hc : c = true
              · rw [if_pos hc]; exact go true fun _ => k1 hc
              · rw [if_neg hc]
                obtain ⟨_, ⟨F, q2, q3⟩, _⟩ := (hST _).1 s7
                exact ⟨(rr0 hin).1, (rr0 hin).2, (rr0 hin).1, (rr0 hin).2, _, q2.rd (by omega) (by omega), go _ fun hf => ⟨_, (q3 _ _ hf).2.2⟩⟩
          · rintro k g6 h1k hkn s6 hnext3
            refine hX3 _ _ ?_
            rw [if_pos (by simp; omega)]
            intro X4 hX4
            refine loopLe n (fun _ g' => ST g') ?_ ?_ g6 s6
            · intro g7 s7
              refine hX4 _ _ ?_
              rw [if_neg (by simp; omega), wrap64 (by omega) (by omega)]
              exact hnext3 _ s7
            · rintro a g7 h1a han s7 hnext4
              refine hX4 _ _ ?_
              rw [if_pos (by simp; omega)]
              intro X5 hX5
              refine loopLe n (fun _ g' => ST g') ?_ ?_ g7 s7
              · intro g8 s8
                refine hX5 _ _ ?_
                rw [if_neg (by simp; omega), wrap64 (by omega) (by omega)]
                exact hnext4 _ s8
              · rintro c g8 h1c hcn s8 hnext5
                refine hX5 _ _ ?_
                rw [if_pos (by simp; omega)]
                intro J6 hJ6
                have fin : ∀ {g0 : Hp} (g9 : Hp), ST g9 → Ext [mb] g0 g9 → J6 [] g9 := fun {_} g9 s9 _ => by
                  refine hJ6 _ ?_
                  rw [wrap64 (by omega) (by omega)]
                  exact hnext5 _ s9
                obtain ⟨_, ⟨F, q2, q3⟩, _⟩ := (hST _).1 s8
                refine ⟨(rr0 han).1, (rr0 han).2, (rr0 hcn).1, (rr0 hcn).2, _, q2.rd (by omega) (by omega), ?_⟩
                by_cases f1 : F a c = true
                · rw [if_pos f1]
                  exact ⟨(rr0 han).1, (rr0 han).2, (rr0 hcn).1, (rr0 hcn).2, stW true s8 (by omega) (by omega) (fun _ => q3 _ _ f1) fin⟩
                rw [if_neg f1]
                refine ⟨(rr0 han).1, (rr0 han).2, (rr0 hkn).1, (rr0 hkn).2, _, q2.rd (by omega) (by omega), ?_⟩
                by_cases f2 : F a k = true
                · rw [if_pos f2]
                  exact ⟨(rr0 hkn).1, (rr0 hkn).2, (rr0 hcn).1, (rr0 hcn).2, _, q2.rd (by omega) (by omega), (rr0 han).1, (rr0 han).2, (rr0 hcn).1, (rr0 hcn).2, stW (F k c) s8 (by omega) (by omega) (fun f3 => ⟨(q3 _ _ f2).1, (q3 _ _ f3).2.1, (q3 _ _ f2).2.2.trans (q3 _ _ f3).2.2⟩) fin⟩
                · rw [if_neg f2]
                  exact ⟨(rr0 han).1, (rr0 han).2, (rr0 hcn).1, (rr0 hcn).2, stW false s8 (by omega) (by omega) hfal fin⟩
        · rintro j g5 hj ⟨s5, e5⟩ hnext2
          refine hY2 _ _ ?_
          rw [if_pos (by simp; omega)]
          obtain ⟨ad, ha, hrd2⟩ := (ho4.ext (S := [mb]) e5 (fun a ha => by obtain ⟨b, c, h1, h2, h3, h4⟩ := ho4.2.2 a ha; subst h1; simp; omega)).sl.reads.rd encP_len hj
          have q0 := hrd2 0 (by omega)
          have q1 := hrd2 1 (by omega)
          rw [ha]
          simp only [nilW_some, Int.toNat_natCast]
          have w0 : rd g5 (Addr.add (Addr.add ad (j * 2)) (Int.toNat 0 * 1)) = some (.int .i64 (allE E)[j].1) := by rw [addr_add_add]; exact q0
          have w1 : rd g5 (Addr.add (Addr.add ad (j * 2)) (Int.toNat 1 * 1)) = some (.int .i64 (allE E)[j].2) := by rw [addr_add_add]; exact q1
          refine ⟨by omega, by omega, by decide, by decide, _, w0, by omega, by omega, by decide, by decide, _, w1, ?_⟩
          have hm : (allE E)[j] ∈ E.m := sortC_mem.1 (List.getElem_mem hj)
          obtain ⟨⟨c1, c2, _⟩, _⟩ := beside_iff.1 (hb.bi _ hm)
          generalize (allE E)[j] = q at hm c1 c2
          obtain ⟨qa, qb⟩ := q
          obtain ⟨a, rfl⟩ := Int.eq_ofNat_of_zero_le (show 0 ≤ qa by have := c1.1; simp at this; omega)
          obtain ⟨b, rfl⟩ := Int.eq_ofNat_of_zero_le (show 0 ≤ qb by have := c2.1; simp at this; omega)
          have c1a := c1.1
          have c1b := c1.2
          have c2a := c2.1
          have c2b := c2.2
          simp only at c1a c1b c2a c2b
          intro J8 hJ8
          have fin : J8 [.bool false] g5 := by
            refine hJ8 _ _ ?_
            rw [if_neg (by decide)]
            refine ⟨by omega, by omega, by omega, by omega, stW (i := a) (j := b) true s5 (by omega) (by omega) (fun _ => ⟨⟨by omega, by omega⟩, ⟨by omega, by omega⟩, Way.one (Or.inr hm)⟩) fun g6 s6 e6 => ?_⟩
            rw [wrap64 (by omega) (by omega)]
            exact hnext2 g6 ⟨s6, e5.trans e6 fun b hb _ => hb⟩
          rw [if_neg (by simp; omega), if_neg (by simp; omega), if_neg (by simp; omega)]
          have : decide ((b : Int) > (n : Int)) = false := by simp; omega
          simp only [this]
          exact fin
      · rintro a g3 h1a han s3 hnext
        refine hA _ _ ?_
        rw [if_pos (by simp; omega)]
        intro X2 hX2
        refine loopLe n (fun _ g' => ST g') ?_ ?_ g3 s3
        · intro g4 s4
          refine hX2 _ _ ?_
          rw [if_neg (by simp; omega), wrap64 (by omega) (by omega)]
          exact hnext _ s4
        · rintro c g4 h1c hcn s4 hnext2
          refine hX2 _ _ ?_
          rw [if_pos (by simp; omega)]
          intro J6 hJ6
          have fin : ∀ {g0 : Hp} (g9 : Hp), ST g9 → Ext [mb] g0 g9 → J6 [] g9 := fun {_} g9 s9 _ => by
            refine hJ6 _ ?_
            rw [wrap64 (by omega) (by omega)]
            exact hnext2 _ s9
          by_cases hac : a = c
          · rw [if_neg (by simp; omega)]
            exact ⟨(rr0 han).1, (rr0 han).2, (rr0 hcn).1, (rr0 hcn).2, stW false s4 (by omega) (by omega) hfal fin⟩
          rw [if_pos (by simp; omega)]
          refine ⟨(rr0 han).1, (rr0 han).2, ?_⟩
          refine State_s (hcl s4) _ fun g5 e5 => ⟨_, rfl, ?_⟩
          have s5 := stE s4 e5
          by_cases t1 : (txL L1 (a : Int)).state = 2
          · rw [if_pos (by simpa using t1)]
            refine State_s (hcl s5) _ fun g6 e6 => ⟨_, rfl, ?_⟩
            have s6 := stE s5 e6
            by_cases t2 : (txL L1 (c : Int)).state = 2
            · rw [if_pos (by simpa using t2)]
              refine Sees_s (hcl s6) _ _ ⟨_, rfl, (rr0 hcn).1, (rr0 hcn).2, stW _ s6 (by omega) (by omega) (fun hs => ⟨⟨by omega, by omega⟩, ⟨by omega, by omega⟩, Way.one (Or.inl ⟨by omega, t1, t2, hs⟩)⟩) fin⟩
            · rw [if_neg (by simpa using t2)]
              exact ⟨(rr0 hcn).1, (rr0 hcn).2, stW false s6 (by omega) (by omega) hfal fin⟩
          · rw [if_neg (by simpa using t1)]
            exact ⟨(rr0 hcn).1, (rr0 hcn).2, stW false s5 (by omega) (by omega) hfal fin⟩
    · rintro i g1 h1i hin ⟨L1, m, hb, hm, hrd, hln, hst, hE1, kg1⟩ hnext
      refine hY _ _ ?_
      rw [if_pos (by simp; omega)]
      have hck := hb.lk.clk
      have hmm : m ≤ 100 := by omega
      refine Commit_s hE1.cl (i : Int) (by omega) fun g2 hC2 e2' _ => ⟨_, _, rfl, ?_⟩
      obtain ⟨w1, w2⟩ := hE1.log hC2 e2'
      have hh : hasL L1 (i : Int) := ⟨by omega, by omega⟩
      have hst' : ∀ x : Int, 1 ≤ x → x < ((i + 1 : Nat) : Int) → (txL (commitL L1 (i : Int)) x).state ≠ 1 := by
        intro x h1 h2
        by_cases hr : runsL L1 (i : Int)
        · obtain ⟨c1, c2, c3⟩ := commit_tx hr
          rw [c2]
          split
          · simp
          · exact hst x h1 (by omega)
        · rw [commit_no hr]
          rcases (by omega : x < (i : Int) ∨ x = (i : Int)) with k | k
          · exact hst x h1 k
          · rw [k]; exact fun hs => hr ⟨hh, hs⟩
      have hb' : BOk (m + 1) (commitL L1 (i : Int)) E := ⟨hb.lk.commit _, hb.ek.up (by omega), fun q hq => beside_commit hb.lk _ (hb.bi q hq), hb.od⟩
      intro J62 hJ62
      have fin : ∀ g3, Ext [] g2 g3 → J62 [.bool false] g3 := by
        intro g3 e3
        refine hJ62 _ _ ?_
        rw [if_neg (by decide), wrap64 (by omega) (by omega)]
        exact hnext g3 ⟨_, m + 1, hb', by omega, reads_commit hrd _, by rw [len_commit]; exact hln, hst', w1.ext0 e3, (kg1.trans w2).trans (kg_ext0 e3 w1.lt)⟩
      by_cases hr : runsL L1 (i : Int)
      · rw [if_pos hr, if_neg (by decide)]
        exact fin g2 (Ext.refl _ _)
      · rw [if_neg hr, if_pos (by decide)]
        refine State_s w1.cl (i : Int) fun g3 e3 => ⟨_, rfl, ?_⟩
        have hne : ((txL (commitL L1 (i : Int)) (i : Int)).state == 1) = false := by
          have := hst' (i : Int) (by omega) (by omega)
          simpa using this
        rw [hne]
        exact fin g3 e3
  · rintro i c g hi ⟨L, E, hok, rfl, hE, kg⟩ hnext
    refine hX _ _ _ ?_
    rw [if_pos (by simp; omega)]
    intro J20 hJ20
    obtain ⟨a, ha, r0, r1, r2, r3⟩ := rdStE (hs.ext0 (kgx _ kg)) hi
    rw [ha]
    simp only [nilW_some]
    refine ⟨by omega, by omega, ?_⟩
    rw [Int.toNat_natCast]
    refine ⟨_, r0, _, r1, _, r2, _, r3, ?_⟩
    obtain ⟨x, hx⟩ : ∃ x, xs[i] = x := ⟨_, rfl⟩
    rw [hx]
    refine newI fun g1 s1 b1 e1' => ?_
    refine st_blk b1 (by simp) fun g2 s2 b2 e2' => ?_
    have e12 : Ext [] g g2 := e1'.trans e2' fun b hb hlt => by simp at hb; omega
    have b2' : Blk g2 g.size (encStE x).toArray T_liverylaw14_Step := b2
    have rr : ∀ k, rd g2 (Addr.add (Addr.mk g.size 0 none) k) = (encStE x)[k]? := fun k => by rw [addr_mk, rd_blk b2', Nat.zero_add]; simp
    have kgl := kg.trans (kg_ext0 e12 hE.lt)
    have hE2 := hE.more e12
    have hgx : ∀ b, b < h.size → GX (fun b => b < h.size) g g2 b := fun b hb => Or.inl hb
    have hgc : GX (fun b => b < h.size) g g2 g.size := Or.inr ⟨Nat.le_refl _, blk_lt b2'⟩
    generalize GX (fun b => b < h.size) g g2 = G2 at hE2 hgx hgc
    have fin : ∀ g3 L1 E1, COk (i + 1) L1 E1 → EvS G2 g3 cb e L1 E1 → KG (fun b => b < h.size) h g3 → J20 [.int .i64 (L1.l.length : Int)] g3 := by
      intro g3 L1 E1 h1 h2' h3
      refine hJ20 _ _ ?_
      rw [wrap64 (by omega) (by omega)]
      exact hnext _ g3 ⟨L1, E1, h1, rfl, h2'.anti hgx, h3⟩
    have hlen := hE.cl.len
    have hln := hok.ln
    refine ⟨_, rr 0, ?_⟩
    by_cases c0 : x.kind = 0
    · rw [if_pos (by simpa using c0)]
      refine Begin_s hE2.cl false fun g3 hC3 e3 _ => ⟨_, _, rfl, ?_⟩
      obtain ⟨w1, w2⟩ := hE2.log hC3 e3
      have hc : COk (i + 1) (beginL L false) E := ⟨⟨(hok.b.lk.begin _).up (by omega), hok.b.ek.up (by omega), fun q hq => beside_begin _ (hok.b.bi q hq), hok.b.od⟩, reads_begin hok.rd, by rw [len_begin]; split <;> omega⟩
      have hf := fin g3 _ _ hc w1 (kgl.trans (w2.anti hgx))
      rw [len_begin] at hf
      by_cases hfull : L.l.length = 200
      · rw [if_pos hfull] at hf
        rw [if_pos hfull, if_neg (by decide)]
        exact hf
      · rw [if_neg hfull] at hf
        rw [if_neg hfull, if_pos (by decide), wrap64 (by omega) (by omega)]
        exact hf
    rw [if_neg (by simpa using c0)]
    by_cases c1 : x.kind = 1
    · rw [if_pos (by simpa using c1)]
      refine ⟨_, rr 1, ?_⟩
      refine Commit_s hE2.cl x.a (by have := hok.b.lk.clk; omega) fun g3 hC3 e3 _ => ⟨_, _, rfl, ?_⟩
      obtain ⟨w1, w2⟩ := hE2.log hC3 e3
      have hf := fin g3 _ _ ⟨⟨hok.b.lk.commit x.a, hok.b.ek.up (by omega), fun q hq => beside_commit hok.b.lk _ (hok.b.bi q hq), hok.b.od⟩, reads_commit hok.rd _, by rw [len_commit]; omega⟩ w1 (kgl.trans (w2.anti hgx))
      rw [len_commit] at hf
      exact hf
    rw [if_neg (by simpa using c1)]
    by_cases c2 : x.kind = 2
    · rw [if_pos (by simpa using c2)]
      refine ⟨_, rr 1, ?_⟩
      refine Abort_s hE2.cl x.a fun g3 hC3 e3 _ => ⟨_, rfl, ?_⟩
      obtain ⟨w1, w2⟩ := hE2.log hC3 e3
      have b3 := w2.get b2' hgc
      refine ⟨x.a, by rw [addr_mk, rd_blk b3]; rfl, ?_⟩
      refine Drop14_s w1 hok.b.ek x.a fun g4 w3 w4 => ⟨rfl, ?_⟩
      have hod : (dropE E x.a).old = [] := by
        show adel E.old x.a = []
        rw [hok.b.od]; rfl
      have hf := fin g4 _ _ ⟨⟨(hok.b.lk.abort x.a).up (by omega), (hok.b.ek.drop x.a).up (by omega), BI.drop fun q hq h1 h2 => beside_abort h1 h2 (hok.b.bi q hq), hod⟩, reads_abort hok.rd _, by rw [len_abort]; omega⟩ w3 ((kgl.trans (w2.anti hgx)).trans (w4.anti hgx))
      rw [len_abort] at hf
      exact hf
    rw [if_neg (by simpa using c2)]
    by_cases c3 : x.kind = 3
    · rw [if_pos (by simpa using c3)]
      refine ⟨_, rr 1, _, rr 2, ?_⟩
      refine Add_s hE2 x.a x.b fun g3 w1 w2 => ⟨_, rfl, ?_⟩
      have hbs := hok.b.step ⟨3, x.a, x.b, false⟩
      have hbs' : BOk (i + 1) L (addE L E x.a x.b) := hbs
      exact fin g3 _ _ ⟨hbs', hok.rd, by omega⟩ w1 (kgl.trans (w2.anti hgx))
    · rw [if_neg (by simpa using c3)]
      exact fin g2 _ _ ⟨⟨hok.b.lk.up (by omega), hok.b.ek.up (by omega), hok.b.bi, hok.b.od⟩, hok.rd, by omega⟩ hE2 kgl
end
end Go.Lift

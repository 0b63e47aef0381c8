/- SsiCircles: true, whatever the input. -/
import Derived.Test.YtdgkfjbmlfmimaaGreatS15n
set_option linter.unusedSimpArgs false
set_option linter.unusedVariables false
namespace Go.Lift.E14
open Go Go.Proofs Go.RowKit
set_option maxRecDepth 100000
structure MatAt (h : Hp) (b : Nat) (F : Nat → Nat → Bool) : Prop where
  ex : ∃ c, Blk h b c T_21_21_bool ∧ c.size = 441 ∧ ∀ i j, i < 21 → j < 21 → c[i * 21 + j]? = some (.bool (F i j))
section
variable {h h' : Hp} {b : Nat} {F : Nat → Nat → Bool}
theorem MatAt.ext {S : List Nat} (hm : MatAt h b F) (he : Ext S h h') (hn : b ∉ S) : MatAt h' b F := by
  obtain ⟨c, h1, h2⟩ := hm.ex
  exact ⟨c, he.get h1 hn, h2⟩
theorem MatAt.rd (hm : MatAt h b F) {i j : Nat} (hi : i < 21) (hj : j < 21) : Go.Lift.rd h (Addr.add (Addr.add (Addr.mk b 0 none) (Int.toNat (i : Int) * 21)) (Int.toNat (j : Int) * 1)) = some (.bool (F i j)) := by
  obtain ⟨c, h1, h2, h3⟩ := hm.ex
  rw [addr_add_add, addr_mk, rd_blk h1, Int.toNat_natCast, Int.toNat_natCast, Nat.zero_add, Nat.mul_one]
  exact h3 i j hi hj
theorem MatAt.st (hm : MatAt h b F) {i j : Nat} (hi : i < 21) (hj : j < 21) (v : Bool) {K : Hp → Prop} (H : ∀ h', MatAt h' b (fun a c => if a = i ∧ c = j then v else F a c) → Ext [b] h h' → K h') :
    stOk h (Addr.add (Addr.add (Addr.mk b 0 none) (Int.toNat (i : Int) * 21)) (Int.toNat (j : Int) * 1)) 1 ∧ wth (wrs h (Addr.add (Addr.add (Addr.mk b 0 none) (Int.toNat (i : Int) * 21)) (Int.toNat (j : Int) * 1)) 0 [.bool v]) K := by
  obtain ⟨c, h1, h2, h3⟩ := hm.ex
  rw [addr_add_add, addr_mk, Int.toNat_natCast, Int.toNat_natCast, Nat.zero_add, Nat.mul_one]
  refine st_blk h1 (by omega) fun h4 s4 b4 e4 => H h4 ⟨⟨_, b4, by simpa using h2, fun a d ha hd => ?_⟩⟩ e4
  rw [putAt_get0 _ _ _ _ (by simp; omega)]
  by_cases e : a = i ∧ d = j
  · obtain ⟨rfl, rfl⟩ := e
    rw [if_pos (by simp), if_pos ⟨rfl, rfl⟩, Nat.sub_self]
    rfl
  · rw [if_neg (by simp only [List.length_singleton]; omega), if_neg e]
    exact h3 a d ha hd
theorem mat_new {b : Nat} (hb : h[b]? = some (.cells (zc PP T_21_21_bool) T_21_21_bool (0, 0))) : MatAt h b fun _ _ => false := by
  have hz : zc PP T_21_21_bool = Array.replicate 441 (.bool false) := by kernel_rfl
  rw [hz] at hb
  refine ⟨_, hb, by simp, fun i j hi hj => ?_⟩
  rw [Array.getElem?_replicate, if_pos (by omega)]
end
theorem loopLe {X : List Value → Hp → Prop} (n : Nat) (I : Nat → Hp → Prop) (hend : ∀ g, I (n + 1) g → X [.int .i64 ((n + 1 : Nat) : Int)] g)
    (hstep : ∀ i g, 1 ≤ i → i ≤ n → I i g → (∀ g', I (i + 1) g' → X [.int .i64 ((i + 1 : Nat) : Int)] g') → X [.int .i64 (i : Int)] g) (g : Hp) (h0 : I 1 g) : X [.int .i64 (1 : Int)] g := by
  have key : ∀ d i g, d + i = n + 1 → 1 ≤ i → I i g → X [.int .i64 (i : Int)] g := by
    intro d
    induction d with
    | zero =>
      intro i g hi _ hI
      have : i = n + 1 := by omega
      subst this
      exact hend g hI
    | succ d ih =>
      intro i g hi h1 hI
      exact hstep i g h1 (by omega) hI fun g' hI' => ih (i + 1) g' (by omega) (by omega) hI'
  exact key n 1 g (by omega) (Nat.le_refl _) h0
/-- True places of the matrix are ways. -/
def MI (n : Nat) (L : LM) (E : EM) (mb : Nat) (g : Hp) : Prop := ∃ F, MatAt g mb F ∧ ∀ i j, F i j = true → (1 ≤ i ∧ i ≤ n) ∧ (1 ≤ j ∧ j ≤ n) ∧ Way (RZ L E) (i : Int) (j : Int)
theorem MI.st {n : Nat} {L : LM} {E : EM} {mb : Nat} {g : Hp} (hm : MI n L E mb g) {i j : Nat} (hi : i < 21) (hj : j < 21) (v : Bool) (hv : v = true → (1 ≤ i ∧ i ≤ n) ∧ (1 ≤ j ∧ j ≤ n) ∧ Way (RZ L E) (i : Int) (j : Int)) {K : Hp → Prop} (H : ∀ g', MI n L E mb g' → Ext [mb] g g' → K g') :
    stOk g (Addr.add (Addr.add (Addr.mk mb 0 none) (Int.toNat (i : Int) * 21)) (Int.toNat (j : Int) * 1)) 1 ∧ wth (wrs g (Addr.add (Addr.add (Addr.mk mb 0 none) (Int.toNat (i : Int) * 21)) (Int.toNat (j : Int) * 1)) 0 [.bool v]) K := by
  obtain ⟨F, h1, h2⟩ := hm
  refine h1.st hi hj v fun g' hm' he => H g' ⟨_, hm', fun a c hac => ?_⟩ he
  by_cases e : a = i ∧ c = j
  · obtain ⟨rfl, rfl⟩ := e
    rw [if_pos ⟨rfl, rfl⟩] at hac
    exact hv hac
  · rw [if_neg e] at hac
    exact h2 a c hac
section
variable {h : Hp} {Q : List Value → Hp → Prop}
theorem SsiCircles_s {a : Sl} {xs : List StepZ} {n0 n1 n2 : Int} (ha : Reads 9 encZ h a xs) (hlen : xs.length ≤ 9223372036854775807) (h0 : 0 ≤ n0 ∧ n0 ≤ 255) (h1' : 0 ≤ n1 ∧ n1 ≤ 255) (h2' : 0 ≤ n2 ∧ n2 ≤ 255) (hQ : ∀ h', Ext [] h h' → Q [.bool true] h') : F_liverylaw15_SsiCircles n0 n1 n2 a h Q := by
  unfold F_liverylaw15_SsiCircles
  have han := ha.1
  refine newI fun h1 s1 b1' e1 => ?_
  have b1 : Blk h1 h.size #[.int .u8 n0, .int .u8 n1, .int .u8 n2] T_3_uint8 := b1'
  refine rdU3 0 b1 (by decide) rfl ?_
  refine ⟨by decide, ?_⟩
  refine rdU3 1 b1 (by decide) rfl ?_
  refine ⟨by decide, ?_⟩
  refine rdU3 2 b1 (by decide) rfl ?_
  refine ⟨by decide, ?_⟩
  rw [modU h0 (by decide), modU h1' (by decide), modU h2' (by decide)]
  have q0 : 0 ≤ n0 % 6 ∧ n0 % 6 ≤ 5 := by omega
  have q1 : 0 ≤ n1 % 20 ∧ n1 % 20 ≤ 19 := by omega
  have q2 : 0 ≤ n2 % 5 ∧ n2 % 5 ≤ 4 := by omega
  rw [wrap64 (x := 1 + n0 % 6) (by omega) (by omega), wrap64 (x := 1 + n1 % 20) (by omega) (by omega)]
  refine Made_z (G := fun b => b < h1.size) (by omega) (by omega) (by omega) (fun b hb => hb) fun h2 s cb t e hS2 e2 => ⟨_, _, _, rfl, ?_⟩
  have e02 := e1.trans0 e2
  intro J6 hJ6
  rw [if_neg (by decide)]
  refine Fair_z (ha.ext0 e02) hlen ⟨_, rfl, ?_⟩
  cases hf : fairZ xs with
  | false =>
    refine hJ6 _ _ ?_
    rw [if_pos (by rfl)]
    intro J9 hJ9
    rw [if_pos rfl]
    exact wakes_z fun h' e' => ⟨_, rfl, hJ9 _ _ (hQ h' (e02.trans0 e'))⟩
  | true =>
  have hl120 := fairZ_len hf
  refine hJ6 _ _ ?_
  rw [if_neg (by decide)]
  intro X hX
  have kg2 : KG (fun b => b < h.size) h h2 := kg_ext0 e02 fun b hb => hb
  have hS2' : Ss (fun b => b < h.size) h2 s cb t e (newM (1 + n0 % 6) (1 + n1 % 20) (n2 % 5)) := hS2.less fun b hb => by omega
  have m0 : Mk 0 (newM (1 + n0 % 6) (1 + n1 % 20) (n2 % 5)) := newM_ok (by omega) (by omega) (by omega)
  have key : ∀ d i g k M, d + i = xs.length → Ss (fun b => b < h.size) g s cb t e M → CirI i M → M.L.l.length = k → k ≤ 20 → Mk i M → KG (fun b => b < h.size) h g → X [.int .i64 (k : Int), .int .i64 (i : Int)] g := by
    intro d
    induction d with
    | zero =>
      intro i g k M hi hSg inv hln hk20 mg kg
      refine hX _ _ _ ?_
      rw [if_neg (by simp; omega)]
      intro Y hY
      refine loopLe k (fun x g1 => ∃ M1, Ss (fun b => b < h.size) g1 s cb t e M1 ∧ CirI (i + x) M1 ∧ M1.L.l.length = k ∧ (∀ y : Int, 1 ≤ y → y < (x : Int) → (txL M1.L y).state ≠ 1) ∧ Mk (i + x) M1 ∧ KG (fun b => b < h.size) h g1) ?_ ?_ g ⟨M, hSg, ⟨inv.lk.up (by omega), inv.bi, inv.rd, inv.sp, inv.dn⟩, hln, fun y h1 h2 => by omega, mk_up (j := 0) mg (by omega) (Nat.mul_le_mul_left _ (by omega)) (by omega), kg⟩
      · rintro g1 ⟨M1, hS1, inv1, hl1, hst, m1, kg1⟩
        refine hY _ _ ?_
        rw [if_neg (by simp; omega)]
        have hall : ∀ x, (txL M1.L x).state ≠ 1 := fun x => by
          by_cases hh : hasL M1.L x
          · have q1 := hh.1
            have q2 := hh.2
            exact hst x q1 (by omega)
          · rw [txL_no hh]; decide
        clear hst
        refine newI fun g2 s2 b2 e2' => ?_
        have hmb : h.size ≤ g1.size := kg1.sz
        have hS3 : Ss (fun b => b < h.size ∨ b = g1.size) g2 s cb t e M1 := hS1.grow e2' fun b hb => by
          rcases hb with k | k
          · exact ⟨Or.inl k, by have := hS1.lt k; omega⟩
          · exact ⟨Or.inr (by omega), by omega⟩
        have kg3 : KG (fun b => b < h.size) h g2 := kg1.trans (hS1.kgE e2')
        obtain ⟨mb, hmbe⟩ : ∃ mb, mb = g1.size := ⟨_, rfl⟩
        rw [← hmbe] at hS3 b2 hmb ⊢
        obtain ⟨L1, hL1⟩ : ∃ L1, L1 = M1.L := ⟨_, rfl⟩
        obtain ⟨E, hE1⟩ : ∃ E, E = M1.E := ⟨_, rfl⟩
        obtain ⟨n, hnn⟩ : ∃ n : Nat, n = k := ⟨_, rfl⟩
        rw [← hnn] at hl1 hk20 ⊢
        have hek := m1.e
        have hnn1 := m1.nn
        obtain ⟨ST, hST⟩ : ∃ ST : Hp → Prop, ∀ g', ST g' ↔ Ss (fun b => b < h.size ∨ b = mb) g' s cb t e M1 ∧ MI n L1 E mb g' ∧ KG (fun b => b < h.size) h g' := ⟨_, fun _ => Iff.rfl⟩
        have st0 : ST g2 := (hST g2).2 ⟨hS3, ⟨_, mat_new b2, fun i j hij => by cases hij⟩, kg3⟩
        have stE : ∀ {g' g''}, ST g' → Ext [] g' g'' → ST g'' := fun hs he => by
          rw [hST] at hs ⊢
          obtain ⟨q1, ⟨F, q2, q3⟩, q4⟩ := hs
          exact ⟨q1.e0 he, ⟨F, q2.ext he (by simp), q3⟩, q4.trans (kg_ext0 he fun b hb => q1.lt (Or.inl hb))⟩
        have stW : ∀ {g'} {i j : Nat} (v : Bool) {K : Hp → Prop}, ST g' → i < 21 → j < 21 → (v = true → (1 ≤ i ∧ i ≤ n) ∧ (1 ≤ j ∧ j ≤ n) ∧ Way (RZ L1 E) (i : Int) (j : Int)) → (∀ g'', ST g'' → Ext [mb] g' g'' → K g'') →
            stOk g' (Addr.add (Addr.add (Addr.mk mb 0 none) (Int.toNat (i : Int) * 21)) (Int.toNat (j : Int) * 1)) 1 ∧ wth (wrs g' (Addr.add (Addr.add (Addr.mk mb 0 none) (Int.toNat (i : Int) * 21)) (Int.toNat (j : Int) * 1)) 0 [.bool v]) K := by
          intro g' i j v K hs hi hj hv H
          obtain ⟨q1, q2, q4⟩ := (hST g').1 hs
          refine q2.st hi hj v hv fun g'' hm' he => H g'' ((hST g'').2 ⟨?_, hm', q4.trans ⟨he.sz, fun b hb => he.old b (q1.lt (Or.inl hb)) (by simp; omega)⟩⟩) he
          exact q1.eG he fun b hb => by simp at hb; exact Or.inr hb
        have hcl : ∀ {g'}, ST g' → ClAt g' cb L1 := fun hs => by rw [hL1]; exact ((hST _).1 hs).1.cl
        have rr0 : ∀ {i : Nat}, i ≤ n → (0 : Int) ≤ (i : Int) ∧ (i : Int) < (21 : Nat) := fun hi => ⟨by omega, by omega⟩
        have hfal : ∀ {i j : Nat}, false = true → (1 ≤ i ∧ i ≤ n) ∧ (1 ≤ j ∧ j ≤ n) ∧ Way (RZ L1 E) (i : Int) (j : Int) := fun h => by cases h
        have hno : ∀ {x : Int}, ¬ Way (RZ L1 E) x x := fun hw => by rw [hL1, hE1] at hw; exact no_circle inv1 hall hw
        intro A hA
        refine loopLe n (fun _ g' => ST g') ?_ ?_ g2 st0
        · intro g3 s3
          refine hA _ _ ?_
          rw [if_neg (by simp; omega)]
          obtain ⟨w3, _, _⟩ := (hST _).1 s3
          refine Edges_z w3 ⟨_, rfl, ?_⟩
          obtain ⟨P, hE, _, _, _⟩ := w3.onE
          refine All_s hE hek (by omega) fun g4 s4 e4 ho4 => ⟨s4, rfl, ?_⟩
          rw [← hE1] at ho4
          have hn4 := ho4.1
          have hl4 : (allE E).length = E.m.length := sortC_len
          have hle := hek.len
          rw [← hE1] at hle
          have s4' := stE s3 e4
          have hmb3 : mb < g3.size := w3.lt (Or.inr rfl)
          intro Y2 hY2
          refine loopI (allE E).length (fun _ g5 => ST g5 ∧ Ext [mb] g4 g5) ?_ ?_ g4 ⟨s4', Ext.refl _ _⟩
          · rintro g5 ⟨s5, _⟩
            refine hY2 _ _ ?_
            rw [if_neg (by simp; omega)]
            intro X3 hX3
            refine loopLe n (fun _ g' => ST g') ?_ ?_ g5 s5
            · intro g6 s6
              refine hX3 _ _ ?_
              rw [if_neg (by simp; omega)]
              intro X4 hX4
              refine loopLe n (fun _ g' => ST g') ?_ ?_ g6 s6
              · intro g7 s7
                refine hX4 _ _ ?_
                rw [if_neg (by simp; omega)]
                exact wakes_z fun h' e' => ⟨_, rfl, hQ h' ((kgx ((hST _).1 s7).2.2).trans0 e')⟩
              · rintro x g7 h1x hxn s7 hnext
                refine hX4 _ _ ?_
                rw [if_pos (by simp; omega)]
                obtain ⟨_, ⟨F, q2, q3⟩, _⟩ := (hST _).1 s7
                refine ⟨(rr0 hxn).1, (rr0 hxn).2, (rr0 hxn).1, (rr0 hxn).2, _, q2.rd (by omega) (by omega), ?_⟩
                rw [if_neg fun hf => hno (q3 _ _ hf).2.2, wrap64 (by omega) (by omega)]
                exact hnext _ s7
            · rintro m g6 h1k hkn s6 hnext3
              refine hX3 _ _ ?_
              rw [if_pos (by simp; omega)]
              intro X4 hX4
              refine loopLe n (fun _ g' => ST g') ?_ ?_ g6 s6
              · intro g7 s7
                refine hX4 _ _ ?_
                rw [if_neg (by simp; omega), wrap64 (by omega) (by omega)]
                exact hnext3 _ s7
              · rintro a g7 h1a han s7 hnext4
                refine hX4 _ _ ?_
                rw [if_pos (by simp; omega)]
                intro X5 hX5
                refine loopLe n (fun _ g' => ST g') ?_ ?_ g7 s7
                · intro g8 s8
                  refine hX5 _ _ ?_
                  rw [if_neg (by simp; omega), wrap64 (by omega) (by omega)]
                  exact hnext4 _ s8
                · rintro c g8 h1c hcn s8 hnext5
                  refine hX5 _ _ ?_
                  rw [if_pos (by simp; omega)]
                  intro J6 hJ6
                  have fin : ∀ {g0 : Hp} (g9 : Hp), ST g9 → Ext [mb] g0 g9 → J6 [] g9 := fun {_} g9 s9 _ => by
                    refine hJ6 _ ?_
                    rw [wrap64 (by omega) (by omega)]
                    exact hnext5 _ s9
                  obtain ⟨_, ⟨F, q2, q3⟩, _⟩ := (hST _).1 s8
                  refine ⟨(rr0 han).1, (rr0 han).2, (rr0 hcn).1, (rr0 hcn).2, _, q2.rd (by omega) (by omega), ?_⟩
                  by_cases f1 : F a c = true
                  · rw [if_pos f1]
                    exact ⟨(rr0 han).1, (rr0 han).2, (rr0 hcn).1, (rr0 hcn).2, stW true s8 (by omega) (by omega) (fun _ => q3 _ _ f1) fin⟩
                  rw [if_neg f1]
                  refine ⟨(rr0 han).1, (rr0 han).2, (rr0 hkn).1, (rr0 hkn).2, _, q2.rd (by omega) (by omega), ?_⟩
                  by_cases f2 : F a m = true
                  · rw [if_pos f2]
                    exact ⟨(rr0 hkn).1, (rr0 hkn).2, (rr0 hcn).1, (rr0 hcn).2, _, q2.rd (by omega) (by omega), (rr0 han).1, (rr0 han).2, (rr0 hcn).1, (rr0 hcn).2, stW (F m c) s8 (by omega) (by omega) (fun f3 => ⟨(q3 _ _ f2).1, (q3 _ _ f3).2.1, (q3 _ _ f2).2.2.trans (q3 _ _ f3).2.2⟩) fin⟩
                  · rw [if_neg f2]
                    exact ⟨(rr0 han).1, (rr0 han).2, (rr0 hcn).1, (rr0 hcn).2, stW false s8 (by omega) (by omega) hfal fin⟩
          · rintro j g5 hj ⟨s5, e5⟩ hnext2
            refine hY2 _ _ ?_
            rw [if_pos (by simp; omega)]
            intro J7 hJ7
            obtain ⟨ad, ha, hrd2⟩ := (ho4.ext (S := [mb]) e5 (fun a ha => by obtain ⟨b, c, h1, h2, h3, h4⟩ := ho4.2.2 a ha; subst h1; simp; omega)).sl.reads.rd encP_len hj
            have q0 := hrd2 0 (by omega)
            have q1 := hrd2 1 (by omega)
            rw [ha]
            simp only [nilW_some, Int.toNat_natCast]
            have w0 : rd g5 (Addr.add (Addr.add ad (j * 2)) (Int.toNat 0 * 1)) = some (.int .i64 (allE E)[j].1) := by rw [addr_add_add]; exact q0
            have w1 : rd g5 (Addr.add (Addr.add ad (j * 2)) (Int.toNat 1 * 1)) = some (.int .i64 (allE E)[j].2) := by rw [addr_add_add]; exact q1
            refine ⟨by omega, by omega, by decide, by decide, _, w0, by omega, by omega, by decide, by decide, _, w1, ?_⟩
            have hm : (allE E)[j] ∈ E.m := sortC_mem.1 (List.getElem_mem hj)
            obtain ⟨⟨c1, c2, _⟩, _⟩ := beside_iff.1 (inv1.bi _ (by rw [← hE1]; exact hm))
            generalize (allE E)[j] = q at hm c1 c2
            obtain ⟨qa, qb⟩ := q
            obtain ⟨a, rfl⟩ := Int.eq_ofNat_of_zero_le (show 0 ≤ qa by have := c1.1; simp at this; omega)
            obtain ⟨b, rfl⟩ := Int.eq_ofNat_of_zero_le (show 0 ≤ qb by have := c2.1; simp at this; omega)
            have c1a := c1.1
            have c1b := c1.2
            have c2a := c2.1
            have c2b := c2.2
            simp only at c1a c1b c2a c2b
            have han : a ≤ n := by omega
            have hbn : b ≤ n := by omega
            intro J8 hJ8
            have fin : J8 [.bool false] g5 := by
              refine hJ8 _ _ ?_
              rw [if_neg (by decide)]
              have done : ∀ {g0 : Hp} (g9 : Hp), Ext [] g5 g0 → ST g9 → Ext [mb] g0 g9 → J7 [] g9 := fun {_} g9 e0 s9 e9 => by
                refine hJ7 _ ?_
                rw [wrap64 (by omega) (by omega)]
                exact hnext2 g9 ⟨s9, (e5.trans e0 fun b hb _ => by cases hb).trans e9 fun b hb _ => hb⟩
              obtain ⟨_, ⟨F, q2, q3⟩, _⟩ := (hST _).1 s5
              refine ⟨(rr0 han).1, (rr0 han).2, (rr0 hbn).1, (rr0 hbn).2, _, q2.rd (by omega) (by omega), ?_⟩
              by_cases f1 : F a b = true
              · rw [if_pos f1]
                exact ⟨(rr0 han).1, (rr0 han).2, (rr0 hbn).1, (rr0 hbn).2, stW true s5 (by omega) (by omega) (fun _ => q3 _ _ f1) fun g9 => done g9 (Ext.refl _ _)⟩
              rw [if_neg f1]
              refine ⟨(rr0 han).1, (rr0 han).2, ?_⟩
              refine State_s (hcl s5) _ fun g6 e6 => ⟨_, rfl, ?_⟩
              have s6 := stE s5 e6
              by_cases t1 : (txL L1 (a : Int)).state = 2
              · rw [if_pos (by simpa using t1)]
                refine State_s (hcl s6) _ fun g7 e7 => ⟨_, rfl, ?_⟩
                have s7 := stE s6 e7
                exact ⟨(rr0 hbn).1, (rr0 hbn).2, stW _ s7 (by omega) (by omega) (fun hs => ⟨⟨by omega, by omega⟩, ⟨by omega, by omega⟩, Way.one (Or.inr ⟨hm, t1, by simpa using hs⟩)⟩) fun g9 => done g9 (e6.trans0 e7)⟩
              · rw [if_neg (by simpa using t1)]
                exact ⟨(rr0 hbn).1, (rr0 hbn).2, stW false s6 (by omega) (by omega) hfal fun g9 => done g9 e6⟩
            rw [if_neg (by simp; omega), if_neg (by simp; omega), if_neg (by simp; omega)]
            have : decide ((b : Int) > (n : Int)) = false := by simp; omega
            simp only [this]
            exact fin
        · rintro a g3 h1a han s3 hnext
          refine hA _ _ ?_
          rw [if_pos (by simp; omega)]
          intro X2 hX2
          refine loopLe n (fun _ g' => ST g') ?_ ?_ g3 s3
          · intro g4 s4
            refine hX2 _ _ ?_
            rw [if_neg (by simp; omega), wrap64 (by omega) (by omega)]
            exact hnext _ s4
          · rintro c g4 h1c hcn s4 hnext2
            refine hX2 _ _ ?_
            rw [if_pos (by simp; omega)]
            intro J6 hJ6
            have fin : ∀ {g0 : Hp} (g9 : Hp), ST g9 → Ext [mb] g0 g9 → J6 [] g9 := fun {_} g9 s9 _ => by
              refine hJ6 _ ?_
              rw [wrap64 (by omega) (by omega)]
              exact hnext2 _ s9
            by_cases hac : a = c
            · rw [if_neg (by simp; omega)]
              exact ⟨(rr0 han).1, (rr0 han).2, (rr0 hcn).1, (rr0 hcn).2, stW false s4 (by omega) (by omega) hfal fin⟩
            rw [if_pos (by simp; omega)]
            refine ⟨(rr0 han).1, (rr0 han).2, ?_⟩
            refine State_s (hcl s4) _ fun g5 e5 => ⟨_, rfl, ?_⟩
            have s5 := stE s4 e5
            by_cases t1 : (txL L1 (a : Int)).state = 2
            · rw [if_pos (by simpa using t1)]
              refine State_s (hcl s5) _ fun g6 e6 => ⟨_, rfl, ?_⟩
              have s6 := stE s5 e6
              by_cases t2 : (txL L1 (c : Int)).state = 2
              · rw [if_pos (by simpa using t2)]
                refine Sees_s (hcl s6) _ _ ⟨_, rfl, (rr0 hcn).1, (rr0 hcn).2, stW _ s6 (by omega) (by omega) (fun hs => ⟨⟨by omega, by omega⟩, ⟨by omega, by omega⟩, Way.one (Or.inl ⟨by omega, t1, t2, hs⟩)⟩) fin⟩
              · rw [if_neg (by simpa using t2)]
                exact ⟨(rr0 hcn).1, (rr0 hcn).2, stW false s6 (by omega) (by omega) hfal fin⟩
            · rw [if_neg (by simpa using t1)]
              exact ⟨(rr0 hcn).1, (rr0 hcn).2, stW false s5 (by omega) (by omega) hfal fin⟩
      · rintro x g1 h1x hxk ⟨M1, hS1, inv1, hl1, hst, m1, kg1⟩ hnext
        refine hY _ _ ?_
        rw [if_pos (by simp; omega)]
        refine commitK_z hS1 m1 (by omega) _ fun g2 hS2 k2 => ⟨_, rfl, ?_⟩
        rw [wrap64 (by omega) (by omega)]
        obtain ⟨inv2, hL2⟩ := inv1.commit (x : Int)
        refine hnext g2 ⟨_, hS2, inv2, ?_, ?_, m1.commit (by omega) _, kg1.trans k2⟩
        · rcases hL2 with ⟨q, _⟩ | ⟨q, _⟩ | ⟨q, _⟩
          · rw [q]; exact hl1
          · rw [q, len_abort]; exact hl1
          · rw [q, len_commit]; exact hl1
        · intro y hy1 hy2
          rcases hL2 with ⟨q, hr⟩ | ⟨q, hr⟩ | ⟨q, hr⟩
          · rw [q]
            rcases (by omega : y < (x : Int) ∨ y = (x : Int)) with k | k
            · exact hst y hy1 k
            · rw [k]; exact fun hs => hr ⟨⟨by omega, by omega⟩, hs⟩
          · rw [q, (abort_tx hr).2.1]
            split
            · simp
            · exact hst y hy1 (by omega)
          · rw [q, (commit_tx hr).2.1]
            split
            · simp
            · exact hst y hy1 (by omega)
    | succ d ih =>
      intro i g k M hi hSg inv hln hk20 mg kg
      have hil : i < xs.length := by omega
      refine hX _ _ _ ?_
      rw [if_pos (by simp; omega)]
      intro J23 hJ23
      refine atZ (ha.ext0 (kgx kg)) hil ?_
      refine keepZ (st := xs[i]) fun g1 d1 bs => ?_
      have hlt := blk_lt bs
      have hS1 : Ss (fun b => b < h.size ∨ b = g.size) g1 s cb t e M := hSg.grow d1 fun b hb => by
        rcases hb with k | k
        · exact ⟨Or.inl k, by have := hSg.lt k; omega⟩
        · exact ⟨Or.inr (by omega), by omega⟩
      have kg1 : KG (fun b => b < h.size) h g1 := kg.trans (hSg.kgE d1)
      have up : ∀ {M'}, CirI i M' → CirI (i + 1) M' := fun q => ⟨q.lk.up (by omega), q.bi, q.rd, q.sp, q.dn⟩
      have nx : ∀ g2 k2 M2, Ss (fun b => b < h.size ∨ b = g.size) g2 s cb t e M2 → CirI (i + 1) M2 → M2.L.l.length = k2 → k2 ≤ 20 → Mk (i + 1) M2 → KG (fun b => b < h.size ∨ b = g.size) g1 g2 → J23 [.int .i64 (k2 : Int)] g2 := by
        intro g2 k2 M2 hS2 inv2 hln2 hk2 m2 kk
        refine hJ23 _ _ ?_
        rw [wrap64 (by omega) (by omega)]
        exact ih (i + 1) g2 k2 M2 (by omega) (hS2.less fun b hb => Or.inl hb) inv2 hln2 hk2 m2 (kg1.trans (kk.anti fun b hb => Or.inl hb))
      have same : ∀ g2, Ss (fun b => b < h.size ∨ b = g.size) g2 s cb t e M → KG (fun b => b < h.size ∨ b = g.size) g1 g2 → J23 [.int .i64 (k : Int)] g2 := fun g2 hS2 kk =>
        nx g2 k M hS2 (up inv) hln hk20 (mk_up (j := 0) mg (by omega) (Nat.mul_le_mul_left _ (by omega)) (by omega)) kk
      refine ⟨_, rdZb bs 0, ?_⟩
      by_cases k0 : xs[i].kind = 0
      · rw [if_pos (by simp [k0])]
        by_cases hfull : k < 20
        · rw [if_pos (by simp; omega)]
          refine ⟨_, rdZb bs 3, ?_⟩
          have hne : ¬ M.L.l.length = 200 := by omega
          refine Begin_z hS1 mg _ fun g2 hS2 kk => ⟨_, _, rfl, ?_⟩
          rw [if_neg hne, if_pos (by rfl), wrap64 (by omega) (by omega)]
          obtain ⟨b1, b2⟩ := inv.begin hne xs[i].reads
          exact nx g2 (k + 1) _ hS2 (up b1) (by omega) (by omega) (mg.begin (by omega) _) kk
        · rw [if_neg (by simp; omega)]
          exact same g1 hS1 (KG.refl _ _)
      rw [if_neg (by simpa using k0)]
      by_cases k1 : xs[i].kind = 1
      · rw [if_pos (by simp [k1])]
        refine ⟨_, rdZb bs 1, ?_⟩
        refine commitK_z hS1 mg (by omega) _ fun g2 hS2 kk => ⟨_, rfl, ?_⟩
        obtain ⟨inv2, hL2⟩ := inv.commit xs[i].xid
        refine nx g2 k _ hS2 inv2 ?_ hk20 (mg.commit (by omega) _) kk
        rcases hL2 with ⟨q, _⟩ | ⟨q, _⟩ | ⟨q, _⟩
        · rw [q]; exact hln
        · rw [q, len_abort]; exact hln
        · rw [q, len_commit]; exact hln
      rw [if_neg (by simpa using k1)]
      by_cases k2 : xs[i].kind = 2
      · rw [if_pos (by simp [k2])]
        refine ⟨_, rdZb bs 1, ?_⟩
        refine Abort_z hS1 mg _ fun g2 hS2 kk => ⟨_, rfl, ?_⟩
        obtain ⟨inv2, hL2⟩ := inv.abort xs[i].xid
        exact nx g2 k _ hS2 (up inv2) (by rw [hL2, len_abort]; exact hln) hk20 (mg.abort (by omega) _) kk
      rw [if_neg (by simpa using k2)]
      by_cases k3 : xs[i].kind = 3
      · rw [if_pos (by simp [k3])]
        refine ⟨_, rdZb bs 1, ?_⟩
        refine rdZx bs ?_
        refine Read_z hS1 mg _ xs[i].x fun g2 hS2 kk => ⟨rfl, ?_⟩
        obtain ⟨inv2, hL2⟩ := inv.read xs[i].xid xs[i].x
        exact nx g2 k _ hS2 (up inv2) (by rw [hL2]; exact hln) hk20 (mg.read (by omega) _ _) kk
      rw [if_neg (by simpa using k3)]
      by_cases k4 : xs[i].kind = 4
      · rw [if_pos (by simp [k4])]
        refine ⟨_, rdZb bs 1, ?_⟩
        refine Reads_s hS1.cl _ fun g2 e2' => ⟨_, rfl, ?_⟩
        have hS2 := hS1.e0 e2'
        have k12 := hS1.kgE e2'
        have bs2 := e2'.get bs (by simp)
        cases hrd : (txL M.L xs[i].xid).reads with
        | true =>
          rw [if_neg (by decide)]
          exact same g2 hS2 k12
        | false =>
          rw [if_pos (by rfl)]
          refine ⟨_, rdZb bs2 1, ?_⟩
          refine rdZx bs2 ?_
          refine wroteK_z hS2 mg (by omega) _ xs[i].x fun g3 hS3 kk => ⟨rfl, ?_⟩
          obtain ⟨inv2, hL2⟩ := inv.wrote hrd xs[i].x
          exact nx g3 k _ hS3 (up inv2) (by rw [hL2]; exact hln) hk20 (mg.wrote (by omega) _ _) (k12.trans kk)
      rw [if_neg (by simpa using k4)]
      by_cases k5 : xs[i].kind = 5
      · rw [if_pos (by simp [k5])]
        refine ⟨_, rdZb bs 2, ?_⟩
        refine Reads_s hS1.cl _ fun g2 e2' => ⟨_, rfl, ?_⟩
        have hS2 := hS1.e0 e2'
        have k12 := hS1.kgE e2'
        have bs2 := e2'.get bs (by simp)
        cases hrd : (txL M.L xs[i].other).reads with
        | true =>
          rw [if_neg (by decide)]
          exact same g2 hS2 k12
        | false =>
          rw [if_pos (by rfl)]
          refine ⟨_, rdZb bs2 1, _, rdZb bs2 2, ?_⟩
          refine sawK_z hS2 mg (by omega) _ _ fun g3 hS3 kk => ⟨rfl, ?_⟩
          obtain ⟨inv2, hL2⟩ := inv.saw xs[i].xid hrd
          exact nx g3 k _ hS3 (up inv2) (by rw [hL2]; exact hln) hk20 (mg.saw (by omega) _ _) (k12.trans kk)
      · rw [if_neg (by simpa using k5)]
        exact same g1 hS1 (KG.refl _ _)
  have := key xs.length 0 h2 0 _ (by omega) hS2' (CirI.new _ _ _) rfl (by omega) m0 kg2
  simpa using this
end
end Go.Lift.E14

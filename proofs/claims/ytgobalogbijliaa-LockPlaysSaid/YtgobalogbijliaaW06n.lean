/- Locks: all are released in the end. -/
import Derived.Test.YtgobalogbijliaaW06m
import Derived.Test.YtgobalogbijliaaW06z
set_option linter.unusedSimpArgs false
set_option linter.unusedVariables false
namespace Go.Lift
open Go Go.Proofs
set_option maxRecDepth 100000
theorem rdK {h : Hp} {s : Sl} {xs : List StepK} (hs : Reads 4 encK h s xs) {i : Nat} (hi : i < xs.length) : ∃ a, s.a = some a ∧ rd h (Addr.add (Addr.add a (i * 4)) 0) = some (.int .i64 xs[i].kind) ∧ rd h (Addr.add (Addr.add a (i * 4)) 1) = some (.int .i64 xs[i].holder) ∧
    rd h (Addr.add (Addr.add a (i * 4)) 2) = some (.int .i64 xs[i].mode) ∧ rd h (Addr.add (Addr.add a (i * 4)) 3) = some (.string xs[i].name) := by
  obtain ⟨a, h1, h2⟩ := hs.rd encK_len hi
  refine ⟨a, h1, ?_, ?_, ?_, ?_⟩
  · have := h2 0 (by omega); rw [addr_add_add]; simpa using this
  · have := h2 1 (by omega); rw [addr_add_add]; simpa using this
  · have := h2 2 (by omega); rw [addr_add_add]; simpa using this
  · have := h2 3 (by omega); rw [addr_add_add]; simpa using this
/-- All are in 1 to 8. -/
def HB (T : TM) : Prop := ∀ n j, j ∈ wk T n ∨ j ∈ hk T n → 1 ≤ j ∧ j ≤ 8
def NB (T : TM) (j : Int) : Prop := ∀ n, j ∉ wk T n ∧ j ∉ hk T n
theorem HB.take {T : TM} (h : HB T) {k : Int} (hk : 1 ≤ k ∧ k ≤ 8) (n : ByteArray) (m : Int) : HB (takeT T k n m).1 := fun n' j hj => by
  rcases take_facts k n m n' j hj with rfl | g
  · exact hk
  · exact h n' j g
theorem HB.release {T : TM} (hT : TOk T) (h : HB T) (k : Int) : HB (releaseT T k).1 := fun n j hj => by
  obtain ⟨n', g⟩ := (release_facts hT k).2.2.2.2 n j hj
  exact h n' j g
theorem NB.release {T : TM} (hT : TOk T) {j : Int} (h : NB T j) (k : Int) : NB (releaseT T k).1 j := fun n => by
  refine ⟨fun g => ?_, fun g => ?_⟩
  · obtain ⟨n', q⟩ := (release_facts hT k).2.2.2.2 n j (Or.inl g)
    exact q.elim (h n').1 (h n').2
  · obtain ⟨n', q⟩ := (release_facts hT k).2.2.2.2 n j (Or.inr g)
    exact q.elim (h n').1 (h n').2
def bl9 (f : Nat → Bool) : List Value := (List.range 9).map fun i => .bool (f i)
theorem bl9_len (f : Nat → Bool) : (bl9 f).length = 9 := by simp [bl9]
theorem bl9_get (f : Nat → Bool) {i : Nat} (hi : i < 9) : (bl9 f)[i]? = some (.bool (f i)) := by
  unfold bl9
  rw [List.getElem?_map, List.getElem?_range hi]
  rfl
theorem bl9_set (f : Nat → Bool) {i : Nat} (v : Bool) : (bl9 f).set i (.bool v) = bl9 fun j => if j = i then v else f j := by
  apply List.ext_getElem?
  intro j
  rcases Nat.lt_or_ge j 9 with hj | hj
  · rw [bl9_get _ hj, List.getElem?_set]
    by_cases e : i = j
    · subst e
      rw [if_pos rfl, if_pos (by rw [bl9_len]; exact hj), if_pos rfl]
    · rw [if_neg e, bl9_get _ hj, if_neg (fun g => e g.symm)]
  · rw [List.getElem?_eq_none (by rw [List.length_set, bl9_len]; exact hj), List.getElem?_eq_none (by rw [bl9_len]; exact hj)]
theorem bl9_congr {f g : Nat → Bool} (h : ∀ i, i < 9 → f i = g i) : bl9 f = bl9 g := by
  unfold bl9
  exact List.map_congr_left fun i hi => by rw [h i (List.mem_range.1 hi)]
theorem bl9_rd {h : Hp} {b : Nat} {f : Nat → Bool} (hb : Blk h b (bl9 f).toArray T_9_bool) {i : Nat} (hi : i < 9) : rd h (Addr.add (Addr.mk b 0 none) (i * 1)) = some (.bool (f i)) := by
  rw [addr_mk, rd_blk hb, List.getElem?_toArray]
  simp only [Nat.zero_add, Nat.mul_one]
  rw [bl9_get _ hi]
theorem bl9_st {h : Hp} {b : Nat} {f : Nat → Bool} {K : Hp → Prop} (hb : Blk h b (bl9 f).toArray T_9_bool) {i : Nat} (hi : i < 9) (v : Bool)
    (H : ∀ h', h'.size = h.size → Blk h' b (bl9 fun j => if j = i then v else f j).toArray T_9_bool → Ext [b] h h' → K h') : stOk h (Addr.add (Addr.mk b 0 none) (i * 1)) 1 ∧ wth (wrs h (Addr.add (Addr.mk b 0 none) (i * 1)) 0 [.bool v]) K := by
  have hl := bl9_len f
  rw [addr_mk]
  refine st_blk hb (by simp [hl]; omega) fun h' s' b' e' => H h' s' ?_ e'
  have hput : putAt (bl9 f).toArray (0 + i * 1) [.bool v] = (bl9 fun j => if j = i then v else f j).toArray := by
    rw [← bl9_set]
    apply Array.toList_inj.1
    rw [putAt_all _ _ (by simp [hl]; omega)]
    simp only [Nat.zero_add, Nat.mul_one, List.length_singleton]
    rw [List.set_eq_take_append_cons_drop, if_pos (by rw [hl]; exact hi)]
    simp
  rw [hput] at b'
  exact b'
theorem wrap64o {x : Int} (h1 : 9223372036854775808 ≤ x) (h2 : x < 18446744073709551616) : IntKind.wrap .i64 x = x - 18446744073709551616 := by
  unfold IntKind.wrap
  simp [IntKind.signed, IntKind.bits]
  omega
def fairK (xs : List StepK) : Bool := xs.all (fun x => decide (x.name.size ≤ 100)) && decide (xs.length ≤ 150)
section
variable {h : Hp} {Q : List Value → Hp → Prop}
theorem fair_s {s : Sl} {xs : List StepK} (hs : Reads 4 encK h s xs) (hl : xs.length ≤ 9223372036854775807) (hQ : Q [.bool (fairK xs)] h) : S_liverylaw06_fair s h Q := by
  refine O_liverylaw06_fair _ ?_
  unfold F_liverylaw06_fair
  have hn := hs.1
  intro X hX
  have key : ∀ d i, d + i = xs.length → (∀ x ∈ xs.take i, x.name.size ≤ 100) → X [.int .i64 (i : Int)] h := by
    intro d
    induction d with
    | zero =>
      intro i hi hall
      refine hX _ _ ?_
      rw [if_neg (by simp; omega)]
      rw [List.take_of_length_le (by omega)] at hall
      have h1 : xs.all (fun x => decide (x.name.size ≤ 100)) = true := List.all_eq_true.2 fun x hx => decide_eq_true (hall x hx)
      unfold fairK at hQ
      rw [h1, Bool.true_and] at hQ
      have h2 : decide ((s.n : Int) ≤ 150) = decide (xs.length ≤ 150) := by rw [Bool.eq_iff_iff]; simp; omega
      rw [h2]
      exact hQ
    | succ d ih =>
      intro i hi hall
      refine hX _ _ ?_
      rw [if_pos (by simp; omega)]
      have hil : i < xs.length := by omega
      obtain ⟨a, w1, _, _, _, w5⟩ := rdK hs hil
      rw [w1]
      simp only [nilW_some, Int.toNat_natCast]
      refine ⟨by omega, by omega, _, w5, ?_⟩
      by_cases hb : xs[i].name.size ≤ 100
      · rw [if_neg (by simp; omega), wrap64 (by omega) (by omega)]
        have := ih (i + 1) (by omega) fun x hx => by
          rw [List.take_add_one, List.getElem?_eq_getElem hil, List.mem_append] at hx
          rcases hx with hx | hx
          · exact hall x hx
          · simp at hx
            subst hx
            exact hb
        simpa using this
      · rw [if_pos (by simp; omega)]
        have h1 : xs.all (fun x => decide (x.name.size ≤ 100)) = false := by
          rw [Bool.eq_false_iff]
          intro g
          rw [List.all_eq_true] at g
          exact hb (of_decide_eq_true (g _ (List.getElem_mem hil)))
        unfold fairK at hQ
        rw [h1, Bool.false_and] at hQ
        exact hQ
  have := key xs.length 0 (by omega) (by simp)
  simpa using this
theorem Mod8_s (k : Int) (hQ : ∀ v : Int, 0 ≤ v → v ≤ 7 → Q [.int .i64 v] h) : S_liverykeep_Mod k 8 h Q := by
  refine O_liverykeep_Mod _ _ ?_
  unfold F_liverykeep_Mod
  rw [if_neg (by decide)]
  refine ⟨by decide, by decide, ?_⟩
  have h1 : -8 < Int.tmod k 8 := Int.lt_tmod_of_pos k (by decide)
  have h2 : Int.tmod k 8 < 8 := Int.tmod_lt_of_pos k (by decide)
  rw [wrap64 (by omega) (by omega), Int.tmod_eq_emod_of_nonneg (by omega)]
  exact hQ _ (by omega) (by omega)
theorem LockEnds_s {s s2 : Sl} {xs : List StepK} {ys : List Int} (hs : Reads 4 encK h s xs) (hl : xs.length ≤ 9223372036854775807) (hs2 : Reads 1 enc8 h s2 ys) (hl2 : ys.length ≤ 9223372036854775807) (hy : ∀ y ∈ ys, (Lit.int .u8 y).wf = true)
    (hQ : ∀ h', Ext [] h h' → Q [.bool true] h') : F_liverylaw06_LockEnds s s2 h Q := by
  unfold F_liverylaw06_LockEnds
  refine new_L (G := fun _ => False) (fun b hb => hb.elim) fun h1 t hv1 e1 => ⟨_, rfl, ?_⟩
  intro J hJ
  rw [if_neg (by simp)]
  refine fair_s (hs.ext0 e1) hl ⟨_, rfl, hJ _ _ ?_⟩
  have hsn := hs.1
  have hsn2 := hs2.1
  cases hfair : fairK xs with
  | false =>
    rw [if_pos (by decide)]
    intro J2 hJ2
    rw [if_pos (by simp)]
    exact wakes_s fun h2 e2 => ⟨_, rfl, hJ2 _ _ (hQ h2 (e1.trans0 e2))⟩
  | true =>
    rw [if_neg (by decide)]
    have hx150 : xs.length ≤ 150 := by
      unfold fairK at hfair
      rw [Bool.and_eq_true, decide_eq_true_eq] at hfair
      exact hfair.2
    intro X hX
    have key : ∀ d i g T, d + i = xs.length → Ext [] h g → Lk h.size (fun _ => False) g t T → HB T → T.length ≤ i → X [.int .i64 (i : Int)] g := by
      intro d
      induction d with
      | succ d ih =>
        intro i g T hi eg hv hHB hTl
        refine hX _ _ ?_
        rw [if_pos (by simp; omega)]
        have hil : i < xs.length := by omega
        obtain ⟨a, w1, _, w3, w4, w5⟩ := rdK (hs.ext0 eg) hil
        rw [w1]
        simp only [nilW_some, Int.toNat_natCast]
        refine ⟨by omega, by omega, _, w3, by omega, by omega, _, w5, by omega, by omega, _, w4, ?_⟩
        refine Mod8_s _ fun v hv0 hv7 => ⟨_, rfl, w4, w5, ?_⟩
        rw [wrap64 (by omega) (by omega)]
        refine take_L hv (1 + v) _ _ fun g2 S2 hv2 e2 hS2 => ⟨_, rfl, ?_⟩
        rw [wrap64 (by omega) (by omega)]
        have := ih (i + 1) g2 _ (by omega) (ext_lo eg e2 fun b hb => (hS2 b hb).1) hv2 (hHB.take (by omega) _ _) (by have := (takeT_ok hv.ok (1 + v) xs[i].name xs[i].mode).2; omega)
        simpa using this
      | zero =>
        intro i g T hi eg hv hHB hTl
        refine hX _ _ ?_
        rw [if_neg (by simp; omega)]
        refine newI fun g1 s1 b1 f1 => ?_
        have z1 := f1.sz
        have zg := eg.sz
        intro Y hY
        obtain ⟨W, hWe, hW⟩ : ∃ W : Int, IntKind.wrap .i64 ((8 : Int) + (s2.n : Int)) = W ∧ ((8 + ys.length ≤ 9223372036854775807 ∧ W = 8 + (ys.length : Int)) ∨ (9223372036854775807 < 8 + ys.length ∧ W < 0)) := by
          refine ⟨_, rfl, ?_⟩
          rcases Nat.lt_or_ge 9223372036854775807 (8 + ys.length) with g | g
          · right
            refine ⟨g, ?_⟩
            rw [wrap64o (by omega) (by omega)]
            omega
          · left
            refine ⟨g, ?_⟩
            rw [wrap64 (by omega) (by omega)]
            omega
        have key2 : ∀ (d i : Nat) g2 T gs, d + i = min W.toNat 108 → i ≤ 108 → Ext [] h g2 → g1.size ≤ g2.size → Lk h.size (fun b => b = g.size) g2 t T → HB T → T.length ≤ 150 → Blk g2 g.size (bl9 gs).toArray T_9_bool → (ys.length = 0 → ∀ j, j < i → j < 8 → gs (1 + j) = true) →
            Y [.int .i64 (i : Int)] g2 := by
          intro d
          induction d with
          | zero =>
            intro i g2 T gs hi hi108 eg2 zg2 hv2 hHB2 hTl2 bg2 hgs
            refine hY _ _ ?_
            rw [hWe]
            intro J3 hJ3
            have go : J3 [.bool false] g2 := by
              refine hJ3 _ _ ?_
              rw [if_neg (by decide)]
              intro Z hZ
              have key3 : ∀ (d k : Nat) g3 T, d + k = 9 → 1 ≤ k → Ext [] h g3 → Lk h.size (fun b => b = g.size) g3 t T → HB T → T.length ≤ 150 → Blk g3 g.size (bl9 gs).toArray T_9_bool → (∀ j : Int, 1 ≤ j → j < k → NB T j) → Z [.int .i64 (k : Int)] g3 := by
                intro d
                induction d with
                | succ d ih3 =>
                  intro k g3 T hk hk1 eg3 hv3 hHB3 hTl3 bg3 hnb
                  refine hZ _ _ ?_
                  rw [if_pos (by simp; omega)]
                  refine release_L hv3 k (by omega) fun g4 s4 S4 hv4 ho4 hs4 e4 hS4 => ⟨s4, rfl, ?_⟩
                  rw [wrap64 (by omega) (by omega)]
                  have hrf := release_facts hv3.ok k
                  have := ih3 (k + 1) g4 _ (by omega) (by omega) (ext_lo eg3 e4 fun b hb => (hS4 b hb).1) hv4 (hHB3.release hv3.ok k) (by have := (releaseT_ok hv3.ok k).2; omega) (e4.get bg3 fun hm => (hS4 _ hm).2 rfl) fun j hj1 hj2 => by
                    by_cases e : j = k
                    · subst e
                      exact hrf.2.2.2.1
                    · exact (hnb j hj1 (by omega)).release hv3.ok k
                  simpa using this
                | zero =>
                  intro k g3 T hk hk1 eg3 hv3 hHB3 hTl3 bg3 hnb
                  refine hZ _ _ ?_
                  rw [if_neg (by simp; omega)]
                  have hT0 : T = [] := nobody hv3.ok fun n j hj => by
                    have := hHB3 n j hj
                    have h2 := hnb j (by omega) (by omega) n
                    exact hj.elim h2.1 h2.2
                  subst hT0
                  refine names_L hv3 (by simp) fun g4 s4 hv4 e4 ho4 => ⟨s4, rfl, ?_⟩
                  have hn4 := ho4.1
                  rw [names_nil] at hn4
                  rw [if_pos (by simpa using hn4)]
                  have b4 := e4.get bg3 (by simp)
                  have fin : S_liverylaw06_wakes g4 fun (vs94 : List Value) (h95 : Hp) => ∃ b96 : Bool, vs94 = [(Value.bool b96)] ∧ Q [(Value.bool b96)] h95 := wakes_s fun g5 e5 => ⟨_, rfl, hQ g5 ((eg3.trans0 e4).trans0 e5)⟩
                  by_cases hy0 : ys.length = 0
                  · rw [if_neg (by simp; omega)]
                    have h8 : gs 8 = true := hgs hy0 7 (by omega) (by omega)
                    refine ⟨by omega, by omega, true, ?_, ?_⟩
                    · have := bl9_rd b4 (i := 8) (by omega)
                      rw [h8] at this
                      exact this
                    · rw [if_pos rfl]
                      exact fin
                  · rw [if_pos (by simp; omega)]
                    exact fin
              have := key3 8 1 g2 T (by omega) (by omega) eg2 hv2 hHB2 hTl2 bg2 fun j h1 h2 => by omega
              simpa using this
            by_cases hlt : (i : Int) < W
            · rw [if_pos (by simpa using hlt)]
              rw [decide_eq_false (by omega : ¬ ((i : Int) < 108))]
              exact go
            · rw [if_neg (by simpa using hlt)]
              exact go
          | succ d ih =>
            intro i g2 T gs hi hi108 eg2 zg2 hv2 hHB2 hTl2 bg2 hgs
            refine hY _ _ ?_
            rw [hWe]
            intro J3 hJ3
            rw [if_pos (by rw [decide_eq_true_eq]; omega), decide_eq_true (by omega : ((i : Int) < 108))]
            refine hJ3 _ _ ?_
            rw [if_pos rfl]
            refine ⟨by decide, ?_⟩
            intro J4 hJ4
            have go : ∀ k : Nat, 1 ≤ k → k ≤ 8 → (ys.length = 0 → k = 1 + i % 8) → J4 [.int .i64 (k : Int)] g2 := by
              intro k hk1 hk8 hky
              refine hJ4 _ _ ?_
              refine varI rfl rfl fun g3 s3 b3 e3 => ?_
              have b3' : Blk g3 g2.size (bl9 fun _ => false).toArray T_9_bool := by
                have : (bl9 fun _ => false).toArray = #[(Value.bool false), (Value.bool false), (Value.bool false), (Value.bool false), (Value.bool false), (Value.bool false), (Value.bool false), (Value.bool false), (Value.bool false)] := by kernel_rfl
                rw [this]
                exact b3
              have hgl := blk_lt bg2
              have hv3 : Lk h.size (fun b => b = g.size ∨ b = g2.size) g3 t T := hv2.mv e3 (by simp) fun b hb => by
                rcases hb with rfl | rfl
                · exact ⟨Or.inl rfl, by omega⟩
                · exact ⟨Or.inr (Nat.le_refl _), by omega⟩
              have eg3 := eg2.trans0 e3
              have bg3 := e3.get bg2 (by simp)
              intro Z hZ
              have key3 : ∀ (d k2 : Nat) g4, d + k2 = 9 → 1 ≤ k2 → Ext [] h g4 → g3.size ≤ g4.size → Lk h.size (fun b => b = g.size ∨ b = g2.size) g4 t T → Blk g4 g.size (bl9 gs).toArray T_9_bool → Blk g4 g2.size (bl9 fun j => decide (1 ≤ j ∧ j < k2) && (waitsT T j).isSome).toArray T_9_bool → Z [.int .i64 (k2 : Int)] g4 := by
                intro d
                induction d with
                | succ d ih3 =>
                  intro k2 g4 hk2 hk21 eg4 zg4 hv4 bg4 bw4
                  refine hZ _ _ ?_
                  rw [if_pos (by simp; omega)]
                  refine waits_L hv4 k2 fun g5 hv5 e5 => ?_
                  have rest : ∀ (s45 : ByteArray) (n46 : Int) (b : Bool), b = (waitsT T k2).isSome → ∃ s45' : ByteArray, ∃ n46' : Int, ∃ b47 : Bool, [Value.string s45, .int .i64 n46, .bool b] = [(Value.string s45'), (Value.int .i64 n46'), (Value.bool b47)] ∧
                      ixOk (k2 : Int) 9 (stOk g5 (Addr.add (Addr.mk (Array.size g2) 0 none) (Int.toNat (k2 : Int) * 1)) 1 ∧ wth (wrs g5 (Addr.add (Addr.mk (Array.size g2) 0 none) (Int.toNat (k2 : Int) * 1)) 0 [(Value.bool b47)]) fun h48 => Z [(Value.int .i64 (IntKind.wrap .i64 ((k2 : Int) + (1 : Int))))] h48) := by
                    intro s45 n46 b hb
                    refine ⟨_, _, _, rfl, by omega, by omega, ?_⟩
                    rw [Int.toNat_natCast]
                    refine bl9_st (e5.get bw4 (by simp)) (by omega) b fun g6 s6 b6 e6 => ?_
                    rw [wrap64 (by omega) (by omega)]
                    have z5 := e5.sz
                    have hne : g.size ≠ g2.size := by omega
                    have := ih3 (k2 + 1) g6 (by omega) (by omega) ((eg4.trans0 e5).trans e6 fun b hb hlt => by simp at hb; have := eg2.sz; omega) (by omega) (hv5.eG e6 fun b hb _ => by simp at hb; exact Or.inr hb) (e6.get (e5.get bg4 (by simp)) (by simp; exact hne)) (by
                      have hc : bl9 (fun j => if j = k2 then b else (decide (1 ≤ j ∧ j < k2) && (waitsT T j).isSome)) = bl9 fun j => decide (1 ≤ j ∧ j < k2 + 1) && (waitsT T j).isSome := bl9_congr fun j hj => by
                        by_cases e : j = k2
                        · subst e
                          rw [if_pos rfl, hb, decide_eq_true (by omega), Bool.true_and]
                        · rw [if_neg e]
                          congr 1
                          rw [Bool.eq_iff_iff]
                          simp only [decide_eq_true_eq]
                          omega
                      rw [← hc]
                      exact b6)
                    simpa using this
                  cases hw : waitsT T k2 with
                  | none => exact rest _ _ false (by rw [hw]; rfl)
                  | some p => exact rest _ _ true (by rw [hw]; rfl)
                | zero =>
                  intro k2 g4 hk2 hk21 eg4 zg4 hv4 bg4 bw4
                  refine hZ _ _ ?_
                  rw [if_neg (by simp; omega)]
                  have hk9 : k2 = 9 := by omega
                  subst hk9
                  refine release_L hv4 k (by omega) fun g5 s5 S5 hv5 ho5 hs5 e5 hS5 => ⟨s5, rfl, ?_⟩
                  have hrf := release_facts hv4.ok k
                  obtain ⟨r1, r2, r3, r4, r5⟩ := hrf
                  have hOb : ∀ j ∈ (releaseT T k).2, 1 ≤ j ∧ j ≤ 8 := fun j hj => by
                    obtain ⟨n, hn⟩ := (waits_iff hv4.ok j).1 (r2 j hj).2
                    exact hHB2 n j (Or.inl hn)
                  have eg5 := ext_lo eg4 e5 fun b hb => (hS5 b hb).1
                  have z5 := e5.sz
                  have bg5 := e5.get bg4 fun hm => (hS5 _ hm).2 (Or.inl rfl)
                  have bw5 := e5.get bw4 fun hm => (hS5 _ hm).2 (Or.inr rfl)
                  have hn5 := ho5.1
                  have hTl5 := (releaseT_ok hv4.ok k).2
                  have hOl : (releaseT T k).2.length ≤ 200 := len200 r1 fun x hx => by have := hOb x hx; omega
                  have hgsz := eg2.sz
                  intro U hU
                  have key4 : ∀ (d j : Nat) g6, d + j = (releaseT T k).2.length → Ext [] h g6 → g5.size ≤ g6.size → Lk h.size (fun b => b = g.size ∨ b = g2.size) g6 t (releaseT T k).1 → Own T_int 1 encIL g4.size g6 s5 (releaseT T k).2 → Blk g6 g.size (bl9 gs).toArray T_9_bool →
                      Blk g6 g2.size (bl9 fun a => decide (1 ≤ a) && (waitsT T a).isSome && decide ((a : Int) ∉ (releaseT T k).2.take j)).toArray T_9_bool → U [.int .i64 (j : Int)] g6 := by
                    intro d
                    induction d with
                    | succ d ih4 =>
                      intro j g6 hj eg6 zg6 hv6 ho6 bg6 bw6
                      refine hU _ _ ?_
                      rw [if_pos (by simp; omega)]
                      intro J5 hJ5
                      have hjl : j < (releaseT T k).2.length := by omega
                      have hjm := List.getElem_mem hjl
                      have hjb := hOb _ hjm
                      obtain ⟨a, w1, w2⟩ := rdI ho6.sl.reads hjl
                      obtain ⟨x, hx⟩ : ∃ x : Nat, (releaseT T k).2[j] = (x : Int) := ⟨((releaseT T k).2[j]).toNat, by omega⟩
                      rw [hx] at w2 hjb hjm
                      rw [w1]
                      simp only [nilW_some, Int.toNat_natCast]
                      refine ⟨by omega, by omega, _, w2, ?_⟩
                      rw [if_neg (by simp; omega)]
                      refine ⟨by omega, by omega, _, w2, ?_⟩
                      rw [if_neg (by simp; omega)]
                      refine ⟨by omega, by omega, _, w2, by omega, by omega, true, ?_, ?_⟩
                      · rw [Int.toNat_natCast, bl9_rd bw6 (by omega)]
                        have h1 : (waitsT T (x : Int)).isSome = true := (r2 _ hjm).2
                        have h2 : (x : Int) ∉ (releaseT T k).2.take j := by
                          intro hm
                          have hd : (releaseT T k).2.drop j = (releaseT T k).2[j] :: (releaseT T k).2.drop (j + 1) := List.drop_eq_getElem_cons hjl
                          have hnd : ((releaseT T k).2.take j ++ (releaseT T k).2.drop j).Nodup := by rw [List.take_append_drop]; exact r1
                          rw [List.nodup_append] at hnd
                          exact hnd.2.2 _ hm _ (by rw [hd, hx]; exact List.mem_cons_self) rfl
                        rw [h1, decide_eq_true (by omega : 1 ≤ x), decide_eq_true h2]
                        rfl
                      · rw [if_neg (by decide)]
                        refine ⟨by omega, by omega, _, w2, hJ5 _ _ ?_⟩
                        have hxk : (x : Int) ≠ k := (r2 _ hjm).1
                        rw [if_neg (by simpa using hxk), w1]
                        simp only [nilW_some, Int.toNat_natCast]
                        refine ⟨by omega, by omega, _, w2, by omega, by omega, ?_⟩
                        rw [Int.toNat_natCast]
                        refine bl9_st bw6 (by omega) false fun g7 s7 b7 e7 => ?_
                        rw [wrap64 (by omega) (by omega)]
                        have hne : g.size ≠ g2.size := by omega
                        have hlow := blk_lt bw4
                        have htk : (releaseT T k).2.take (j + 1) = (releaseT T k).2.take j ++ [(x : Int)] := by rw [List.take_add_one, List.getElem?_eq_getElem hjl, hx]; rfl
                        have := ih4 (j + 1) g7 (by omega) (eg6.trans e7 fun b hb hlt => by simp at hb; omega) (by omega) (hv6.eG e7 fun b hb _ => by simp at hb; exact Or.inr hb) (ho6.ext e7 fun a ha hm => by
                          simp at hm
                          have := (own_ltG ho6 _ (mem_sBlk.2 ⟨a, ha, rfl⟩)).1
                          omega) (e7.get bg6 (by simp; exact hne)) (by
                          have hc : bl9 (fun a => if a = x then false else (decide (1 ≤ a) && (waitsT T a).isSome && decide ((a : Int) ∉ (releaseT T k).2.take j))) = bl9 fun a => decide (1 ≤ a) && (waitsT T a).isSome && decide ((a : Int) ∉ (releaseT T k).2.take (j + 1)) := bl9_congr fun a ha => by
                            rw [htk]
                            by_cases e : a = x
                            · subst e
                              simp
                            · rw [if_neg e]
                              have : ¬ ((a : Int) = (x : Int)) := by omega
                              simp [this]
                          rw [← hc]
                          exact b7)
                        simpa using this
                    | zero =>
                      intro j g6 hj eg6 zg6 hv6 ho6 bg6 bw6
                      refine hU _ _ ?_
                      rw [if_neg (by simp; omega)]
                      rw [List.take_of_length_le (by omega)] at bw6
                      intro V hV
                      have key5 : ∀ (d a : Nat) g7, d + a = 9 → 1 ≤ a → Ext [] h g7 → g6.size ≤ g7.size → Lk h.size (fun b => b = g.size ∨ b = g2.size) g7 t (releaseT T k).1 → Blk g7 g.size (bl9 gs).toArray T_9_bool →
                          Blk g7 g2.size (bl9 fun a => decide (1 ≤ a) && (waitsT T a).isSome && decide ((a : Int) ∉ (releaseT T k).2)).toArray T_9_bool → V [.int .i64 (a : Int)] g7 := by
                        intro d
                        induction d with
                        | succ d ih5 =>
                          intro a g7 ha ha1 eg7 zg7 hv7 bg7 bw7
                          refine hV _ _ ?_
                          rw [if_pos (by simp; omega)]
                          refine waits_L hv7 a fun g8 hv8 e8 => ?_
                          have bw8 := e8.get bw7 (by simp)
                          have rest : ∀ (s75 : ByteArray) (n76 : Int) (b : Bool), b = (waitsT (releaseT T k).1 a).isSome → ∃ s75' : ByteArray, ∃ n76' : Int, ∃ b77 : Bool, [Value.string s75, .int .i64 n76, .bool b] = [(Value.string s75'), (Value.int .i64 n76'), (Value.bool b77)] ∧
                              ∀ J78 : List Value → Hp → Prop, (∀ b79 : Bool, ∀ h80 : Hp, ((if b79 = true then (Q [(Value.bool false)] h80) else (V [(Value.int .i64 (IntKind.wrap .i64 ((a : Int) + (1 : Int))))] h80))) → J78 [(Value.bool b79)] h80) →
                                ixOk (a : Int) 9 (∃ b81 : Bool, rd g8 (Addr.add (Addr.mk (Array.size g2) 0 none) (Int.toNat (a : Int) * 1)) = some (Value.bool b81) ∧
                                  (if b81 = true then (J78 [(Value.bool (!(b77 == ((a : Int) != (k : Int)))))] g8) else (J78 [(Value.bool (!(b77 == false)))] g8))) := by
                            intro s75 n76 b hb
                            refine ⟨_, _, _, rfl, ?_⟩
                            intro J6 hJ6
                            have z8 := e8.sz
                            have nxt : J6 [.bool false] g8 := by
                              refine hJ6 _ _ ?_
                              rw [if_neg (by decide), wrap64 (by omega) (by omega)]
                              have := ih5 (a + 1) g8 (by omega) (by omega) (eg7.trans0 e8) (by omega) hv8 (e8.get bg7 (by simp)) bw8
                              simpa using this
                            refine ⟨by omega, by omega, _, by rw [Int.toNat_natCast]; exact bl9_rd bw8 (by omega), ?_⟩
                            rw [r3 a] at hb
                            rw [decide_eq_true (by omega : 1 ≤ a), Bool.true_and]
                            by_cases hc : ((waitsT T (a : Int)).isSome && decide ((a : Int) ∉ (releaseT T k).2)) = true
                            · rw [if_pos hc]
                              rw [hc, Bool.true_and] at hb
                              have : (!(b == ((a : Int) != (k : Int)))) = false := by
                                rw [hb]
                                by_cases e : (a : Int) = k <;> simp [e]
                              rw [this]
                              exact nxt
                            · rw [if_neg hc]
                              rw [Bool.not_eq_true] at hc
                              rw [hc, Bool.false_and] at hb
                              subst hb
                              exact nxt
                          cases hw : waitsT (releaseT T k).1 a with
                          | none => exact rest _ _ false (by rw [hw]; rfl)
                          | some p => exact rest _ _ true (by rw [hw]; rfl)
                        | zero =>
                          intro a g7 ha ha1 eg7 zg7 hv7 bg7 bw7
                          refine hV _ _ ?_
                          rw [if_neg (by simp; omega)]
                          refine ⟨by omega, by omega, ?_⟩
                          rw [Int.toNat_natCast]
                          refine bl9_st bg7 (by omega) true fun g8 s8 b8 e8 => ?_
                          rw [wrap64 (by omega) (by omega)]
                          have := ih (i + 1) g8 (releaseT T k).1 _ (by omega) (by omega) (eg7.trans e8 fun b hb hlt => by simp at hb; omega) (by omega) ((hv7.eG e8 fun b hb _ => by simp at hb; exact Or.inl hb).less fun b hb => Or.inl hb) (hHB2.release hv4.ok k) (by omega) b8 (fun hy0 j hj hj8 => by
                            have hk := hky hy0
                            by_cases e : 1 + j = k
                            · simp [e]
                            · simp only [if_neg e]
                              exact hgs hy0 j (by omega) hj8)
                          simpa using this
                      have := key5 8 1 g6 (by omega) (by omega) eg6 (Nat.le_refl _) hv6 bg6 bw6
                      simpa using this
                  have := key4 (releaseT T k).2.length 0 g5 (by omega) eg5 (Nat.le_refl _) hv5 ho5 bg5 (by
                    have hc : bl9 (fun j => decide (1 ≤ j ∧ j < 9) && (waitsT T j).isSome) = bl9 fun a => decide (1 ≤ a) && (waitsT T a).isSome && decide ((a : Int) ∉ (releaseT T k).2.take 0) := bl9_congr fun j hj => by
                      simp [hj]
                    rw [← hc]
                    exact bw5)
                  simpa using this
              have := key3 8 1 g3 (by omega) (by omega) eg3 (Nat.le_refl _) hv3 bg3 (by
                have hc : bl9 (fun _ => false) = bl9 fun j => decide (1 ≤ j ∧ j < 1) && (waitsT T j).isSome := bl9_congr fun j hj => by
                  rw [decide_eq_false (by omega), Bool.false_and]
                rw [← hc]
                exact b3')
              simpa using this
            by_cases hio : i < ys.length
            · rw [if_pos (by simp; omega)]
              obtain ⟨a, w1, w2⟩ := (hs2.ext0 eg2).rd (fun _ => rfl) hio
              have w2 := w2 0 (by omega)
              rw [w1]
              simp only [nilW_some, Int.toNat_natCast]
              refine ⟨by omega, by omega, ys[i], by simpa using w2, by decide, ?_⟩
              have hyi := wf_u8 (hy _ (List.getElem_mem hio))
              have hv : IntKind.wrap .i64 ((1 : Int) + (Int.tmod (IntKind.wrap .i64 ys[i]) (8 : Int))) = ((1 + (ys[i] % 8).toNat : Nat) : Int) := by
                rw [wrap64 (x := ys[i]) (by omega) (by omega), Int.tmod_eq_emod_of_nonneg hyi.1, wrap64 (by omega) (by omega)]
                omega
              rw [hv]
              exact go _ (by omega) (by omega) (fun e => by omega)
            · rw [if_neg (by simp; omega)]
              have hv : IntKind.wrap .i64 ((1 : Int) + (Int.tmod (i : Int) (8 : Int))) = ((1 + i % 8 : Nat) : Int) := by
                rw [Int.tmod_eq_emod_of_nonneg (by omega), wrap64 (by omega) (by omega)]
                omega
              rw [hv]
              exact go _ (by omega) (by omega) (fun e => rfl)
        have hb1 : Blk g1 g.size (bl9 fun _ => false).toArray T_9_bool := by
          have : (bl9 fun _ => false).toArray = #[(Value.bool false), (Value.bool false), (Value.bool false), (Value.bool false), (Value.bool false), (Value.bool false), (Value.bool false), (Value.bool false), (Value.bool false)] := by kernel_rfl
          rw [this]
          exact b1
        have := key2 (min W.toNat 108) 0 g1 T (fun _ => false) (by omega) (by omega) (eg.trans0 f1) (Nat.le_refl _) (hv.mv f1 (by simp) fun b hb => by
          subst hb
          exact ⟨Or.inr (Nat.le_refl _), by omega⟩) hHB (by omega) hb1 (fun _ j hj => by omega)
        simpa using this
    have := key xs.length 0 h1 [] (by omega) e1 hv1 (fun n j hj => by simp [wk, hk, waitT, hasT, afind] at hj) (by simp)
    simpa using this
end
end Go.Lift

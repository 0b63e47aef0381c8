/- Locks: the laws of a few steps. -/
import Derived.Test.YtgobalogbijliaaW06h
set_option linter.unusedSimpArgs false
set_option linter.unusedVariables false
namespace Go.Lift
open Go Go.Proofs
set_option maxRecDepth 100000
/-- Nobody bars a request. -/
def freeQ (L : List (Int × Nat)) (W : List (Int × Int)) (k m : Int) : Bool := (metA L k m).isEmpty && (hasM L k != 0 || (metB W k m).isEmpty)
theorem barsQ_nil {L : List (Int × Nat)} {W : List (Int × Int)} {k m : Int} : barsQ L W k m = [] ↔ freeQ L W k m = true := by
  have h1 : barsQ L W k m = [] ↔ ∀ x, x ∉ barsQ L W k m := by rw [List.eq_nil_iff_forall_not_mem]
  rw [h1]
  unfold freeQ
  rw [Bool.and_eq_true, Bool.or_eq_true, List.isEmpty_iff, List.isEmpty_iff, bne_iff_ne, List.eq_nil_iff_forall_not_mem, List.eq_nil_iff_forall_not_mem]
  constructor
  · intro h
    refine ⟨fun x hx => h x (barsQ_mem.2 (Or.inl hx)), ?_⟩
    by_cases h0 : hasM L k = 0
    · exact Or.inr fun x hx => h x (barsQ_mem.2 (Or.inr ⟨h0, hx⟩))
    · exact Or.inl h0
  · rintro ⟨h, g⟩ x hx
    rcases barsQ_mem.1 hx with q | ⟨q1, q2⟩
    · exact h x q
    · rcases g with g | g
      · exact g q1
      · exact g x q2
def takeE (T : TM) (k : Int) (n : ByteArray) (m : Int) : TM × Int :=
  if decide (k < 1) || decide (k > 200) || !isM m || decide (n.size > 8) then (T, 1)
  else if (waitsT T k).isSome then (T, 76)
  else if modesT T k n &&& bitM m != 0 then (T, 0)
  else if freeQ (hasT T n) (waitT T n) k m then (aput T n ⟨aput (hasT T n) k (modesT T k n ||| bitM m), waitT T n⟩, 0)
  else (aput T n ⟨hasT T n, waitT T n ++ [(k, m)]⟩, 75)
theorem takeT_eq (T : TM) (k : Int) (n : ByteArray) (m : Int) : takeT T k n m = takeE T k n m := by
  unfold takeT takeE
  by_cases h1 : k < 1 ∨ k > 200 ∨ isM m = false ∨ n.size > 8
  · have hb : (decide (k < 1) || decide (k > 200) || !isM m || decide (n.size > 8)) = true := by
      rcases h1 with h | h | h | h <;> simp [h]
    rw [if_pos h1, hb]
    rfl
  · have hb : (decide (k < 1) || decide (k > 200) || !isM m || decide (n.size > 8)) = false := by
      cases hc : (decide (k < 1) || decide (k > 200) || !isM m || decide (n.size > 8)) with
      | false => rfl
      | true =>
        exfalso
        apply h1
        simpa [or_assoc] using hc
    rw [if_neg h1, hb]
    simp only [Bool.false_eq_true, if_false]
    cases hw : (waitsT T k).isSome with
    | true => simp
    | false =>
      simp only [Bool.false_eq_true, if_false]
      by_cases h3 : modesT T k n &&& bitM m = 0
      · have hb3 : (modesT T k n &&& bitM m != 0) = false := by simpa using h3
        rw [if_neg (by simpa using h3), hb3]
        simp only [Bool.false_eq_true, if_false]
        by_cases h4 : barsQ (hasT T n) (waitT T n) k m = []
        · have h5 := barsQ_nil.1 h4
          rw [if_neg (by simpa using h4), if_pos h5]
        · have h5 : ¬ freeQ (hasT T n) (waitT T n) k m = true := fun g => h4 (barsQ_nil.2 g)
          rw [if_pos h4, if_neg h5]
      · have hb3 : (modesT T k n &&& bitM m != 0) = true := by simpa using h3
        rw [if_pos h3, hb3]
        rfl
def grantE : List (Int × Nat) → List (Int × Int) → List Int → List (Int × Int) → List (Int × Nat) × List (Int × Int) × List Int
  | L, W, O, [] => (L, W, O)
  | L, W, O, r :: R => if freeQ L W r.1 r.2 then grantE (aput L r.1 (hasM L r.1 ||| bitM r.2)) W (O ++ [r.1]) R else grantE L (W ++ [r]) O R
theorem grantQ_eq : ∀ (R : List (Int × Int)) (L : List (Int × Nat)) (W : List (Int × Int)) (O : List Int), grantQ L W O R = grantE L W O R
  | [], _, _, _ => rfl
  | r :: R, L, W, O => by
    rw [grantQ_cons]
    show _ = if freeQ L W r.1 r.2 then _ else _
    by_cases h : barsQ L W r.1 r.2 = []
    · rw [if_neg (by simpa using h), if_pos (barsQ_nil.1 h), grantQ_eq]
    · rw [if_pos h, if_neg (fun g => h (barsQ_nil.2 g)), grantQ_eq]
def relE (k : Int) (X : TM × List Int) (n : ByteArray) : TM × List Int :=
  match afind X.1 n with
  | none => X
  | some q => if hasM q.has k == 0 && q.waits.all (fun r => r.1 != k) then X else
    let g := grantE (adel q.has k) [] [] (q.waits.filter fun r => r.1 != k)
    (if g.1.isEmpty && g.2.1.isEmpty then adel X.1 n else aput X.1 n ⟨g.1, g.2.1⟩, X.2 ++ g.2.2)
theorem relStep_eq (k : Int) (X : TM × List Int) (n : ByteArray) : relStep k X n = relE k X n := by
  unfold relStep relE
  cases afind X.1 n with
  | none => rfl
  | some q =>
    simp only
    by_cases h : hasM q.has k = 0 ∧ ∀ r ∈ q.waits, r.1 ≠ k
    · rw [if_pos h, if_pos]
      rw [Bool.and_eq_true, List.all_eq_true]
      exact ⟨by simpa using h.1, fun r hr => by simpa using h.2 r hr⟩
    · have hb : (hasM q.has k == 0 && q.waits.all (fun r => r.1 != k)) = false := by
        cases hc : (hasM q.has k == 0 && q.waits.all (fun r => r.1 != k)) with
        | false => rfl
        | true =>
          exfalso
          rw [Bool.and_eq_true, List.all_eq_true] at hc
          exact h ⟨by simpa using hc.1, fun r hr => by simpa using hc.2 r hr⟩
      rw [if_neg h, hb, grantQ_eq]
      simp only [Bool.false_eq_true, if_false, List.isEmpty_iff, Bool.and_eq_true]
def releaseE (N : List ByteArray) (T : TM) (k : Int) : TM × List Int := N.foldl (relE k) (T, [])
theorem releaseT_eq {N : List ByteArray} {T : TM} (h : namesT T = N) (k : Int) : releaseT T k = releaseE N T k := by
  unfold releaseT releaseE
  rw [h]
  have : relStep k = relE k := funext fun X => funext fun n => relStep_eq k X n
  rw [this]
theorem names_of {T : TM} {N : List ByteArray} (hn : (T.map Prod.fst).Nodup) (h1 : InOrder N) (h2 : ∀ x, x ∈ T.map Prod.fst ↔ x ∈ N) : namesT T = N :=
  by unfold namesT; exact inOrder_ext (sortS_ord hn) h1 fun x => by rw [sortS_mem]; exact h2 x
theorem names_nil : namesT [] = [] := names_of (by simp) List.Pairwise.nil (by simp)
theorem names_one (n : ByteArray) (q : QM) : namesT [(n, q)] = [n] := names_of (by simp) (by simp [InOrder]) (by simp)
abbrev sT : ByteArray := ByteArray.mk #[116]
abbrev sU : ByteArray := ByteArray.mk #[117]
section
variable {lo : Nat} {G : Nat → Prop} {h : Hp} {t : Nat} {T : TM} {Q : List Value → Hp → Prop}
/-- A step whose result is known. -/
theorem take_K (hv : Lk lo G h t T) {k : Int} {n : ByteArray} {m : Int} {T' : TM} {r : Int} (he : takeE T k n m = (T', r))
    (hQ : ∀ h' S, Lk lo G h' t T' → Ext S h h' → (∀ b ∈ S, lo ≤ b ∧ ¬ G b) → Q [.int .i64 r] h') : S_lock_Table_Take (some ⟨t, 0, none⟩) k n m h Q := by
  refine take_L hv k n m fun h' S hv' e hS => ?_
  rw [takeT_eq, he] at hv' ⊢
  exact hQ h' S hv' e hS
theorem release_K (hv : Lk lo G h t T) {k : Int} {N : List ByteArray} (hN : namesT T = N) (hl : T.length ≤ 2 ^ 16) {T' : TM} {O : List Int} (he : releaseE N T k = (T', O))
    (hQ : ∀ h' s' S, Lk lo G h' t T' → Own T_int 1 encIL h.size h' s' O → (∀ b ∈ sBlk s', h.size ≤ b ∧ ¬ G b) → Ext S h h' → (∀ b ∈ S, lo ≤ b ∧ ¬ G b) → Q [.slice s'.a s'.n s'.c] h') : S_lock_Table_Release (some ⟨t, 0, none⟩) k h Q := by
  refine release_L hv k hl fun h' s' S hv' ho hs e hS => ?_
  rw [releaseT_eq hN, he] at hv' ho
  exact hQ h' s' S hv' ho hs e hS
/-- The blocks from lo on alone were written. -/
theorem ext_lo {h0 h1 h2 : Hp} {S : List Nat} (e1 : Ext [] h0 h1) (e2 : Ext S h1 h2) (hS : ∀ b ∈ S, h0.size ≤ b) : Ext [] h0 h2 := e1.trans e2 fun b hb hlt => by have := hS b hb; omega
def one2 : List Int := [2]
theorem reads_lit {h : Hp} {b n : Nat} {xs : List Int} {cs : Array Value} (hb : Blk h b cs T_int) (hc : cs.toList = xs.flatMap encIL) (hl : xs.length = n) : Reads 1 encIL h ⟨some ⟨b, 0, none⟩, n, n⟩ xs := by
  refine ⟨hl.symm, fun e => (by cases e), ?_⟩
  have hfl := flatMap_length encIL_len xs
  have h1 : cs.size = xs.length * 1 := by rw [← hfl, ← hc, Array.length_toList]
  have := cellsAt_blk hb (o := 0) (n := n * 1) (by omega)
  rw [List.drop_zero, List.take_of_length_le (by rw [Array.length_toList]; omega), hc] at this
  exact this
def tW1 : TM := [(sT, ⟨[(1, 8)], []⟩)]
def tW2 : TM := [(sT, ⟨[(1, 8)], [(2, 5)]⟩)]
def tW3 : TM := [(sT, ⟨[(1, 8)], [(2, 5), (3, 3)]⟩)]
def tW4 : TM := [(sT, ⟨[(2, 32)], [(3, 3)]⟩)]
theorem for_W3 : forT tW3 3 = [2] := by
  have h1 : waitsT tW3 3 = some (sT, 3) := by kernel_rfl
  have h2 : forT tW3 3 = barsQ (hasT tW3 sT) ((waitT tW3 sT).takeWhile fun r => r.1 != 3) 3 3 := by unfold forT; rw [h1]
  have h3 : ((metA (hasT tW3 sT) 3 3 ++ if hasM (hasT tW3 sT) 3 = 0 then metB ((waitT tW3 sT).takeWhile fun r => r.1 != 3) 3 3 else []).eraseDups) = [2] := by kernel_rfl
  rw [h2]
  unfold barsQ
  rw [h3]
  unfold sortI
  simp
theorem wakes_s (hQ : ∀ h', Ext [] h h' → Q [.bool true] h') : S_liverylaw06_wakes h Q := by
  refine O_liverylaw06_wakes ?_
  unfold F_liverylaw06_wakes
  refine new_L (G := fun _ => False) (fun b hb => hb.elim) fun h1 t hv1 e1 => ⟨_, rfl, ?_⟩
  intro J hJ
  rw [if_neg (by simp)]
  refine take_K hv1 (T' := tW1) (r := 0) (by kernel_rfl) fun h2 S2 hv2 e2 hS2 => ⟨_, rfl, ?_⟩
  rw [if_neg (by decide)]
  refine take_K hv2 (T' := tW2) (r := 75) (by kernel_rfl) fun h3 S3 hv3 e3 hS3 => ⟨_, rfl, ?_⟩
  rw [if_neg (by decide)]
  refine take_K hv3 (T' := tW3) (r := 75) (by kernel_rfl) fun h4 S4 hv4 e4 hS4 => ⟨_, rfl, hJ _ _ ?_⟩
  rw [if_neg (by decide)]
  have f2 := ext_lo e1 e2 fun b hb => (hS2 b hb).1
  have f3 := ext_lo f2 e3 fun b hb => (hS3 b hb).1
  have f4 := ext_lo f3 e4 fun b hb => (hS4 b hb).1
  refine for_L hv4 3 fun h5 s5 hv5 e5 ho5 => ⟨s5, rfl, ?_⟩
  rw [for_W3] at ho5
  have z5 := e5.sz
  have hv5' : Lk h.size (fun b => b ∈ sBlk s5) h5 t tW3 := by
    refine hv4.grow e5 fun b hb => ?_
    have := own_ltG ho5 b hb
    exact ⟨Or.inr this.1, this.2⟩
  refine release_K hv5' (N := [sT]) (names_one _ _) (by decide) (T' := tW4) (O := [2]) (by kernel_rfl) fun h6 s6 S6 hv6 ho6 hs6 e6 hS6 => ⟨s6, rfl, ?_⟩
  have f6 := ext_lo (f4.trans0 e5) e6 fun b hb => (hS6 b hb).1
  have ho56 := ho5.ext e6 fun a ha hm => (hS6 _ hm).2 (mem_sBlk.2 ⟨a, ha, rfl⟩)
  refine newI fun h7 s7 b7 e7 => ?_
  refine Ints_s (ho56.ext0 e7).sl.reads (reads_lit (xs := [2]) b7 rfl rfl) (by decide) ⟨_, rfl, ?_⟩
  rw [if_pos (by decide)]
  refine newI fun h8 s8 b8 e8 => ?_
  refine Ints_s ((ho6.ext0 e7).ext0 e8).sl.reads (reads_lit (xs := [2]) b8 rfl rfl) (by decide) ⟨_, rfl, ?_⟩
  rw [if_pos (by decide)]
  refine modes_L ((hv6.e0 e7).e0 e8) 2 sT ⟨_, rfl, ?_⟩
  have hm : modesT tW4 2 sT = 32 := by kernel_rfl
  rw [hm]
  exact hQ h8 ((f6.trans0 e7).trans0 e8)
theorem LockNone_s (a b c : Int) (n : ByteArray) (hQ : ∀ h', Ext [] h h' → Q [.bool true] h') : F_liverylaw06_LockNone a b c n h Q := by
  unfold F_liverylaw06_LockNone
  refine newI fun h1 s1 b1 e1 => ?_
  refine ⟨n, by simp [rd_blk b1], ?_⟩
  by_cases hn : n.size > 100
  · rw [if_pos (by simp; omega)]
    exact wakes_s fun h2 e2 => ⟨_, rfl, hQ h2 (e1.trans0 e2)⟩
  · rw [if_neg (by simp; omega)]
    refine ⟨b, by simp [rd_blk b1], ?_⟩
    refine waitsN_s b fun h2 e2 => ⟨_, _, _, rfl, ?_⟩
    have b2 := e2.get b1 (by simp)
    refine ⟨b, by simp [rd_blk b2], n, by simp [rd_blk b2], c, by simp [rd_blk b2], ?_⟩
    refine takeN_s b n c ⟨_, rfl, ?_⟩
    rw [if_pos (by decide)]
    refine ⟨b, by simp [rd_blk b2], ?_⟩
    refine releaseN_s b fun h3 e3 => ⟨⟨none, 0, 0⟩, rfl, ?_⟩
    have b3 := e3.get b2 (by simp)
    rw [if_pos (by decide)]
    refine ⟨b, by simp [rd_blk b3], n, by simp [rd_blk b3], ?_⟩
    refine modesN_s b n ⟨_, rfl, ?_⟩
    rw [if_pos (by decide), if_pos (by decide)]
    refine ⟨b, by simp [rd_blk b3], ?_⟩
    refine forN_s b fun h4 e4 => ⟨⟨none, 0, 0⟩, rfl, ?_⟩
    rw [if_pos (by decide)]
    refine namesN_s ⟨⟨none, 0, 0⟩, rfl, ?_⟩
    rw [if_pos (by decide)]
    exact wakes_s fun h5 e5 => ⟨_, rfl, hQ h5 (((e1.trans0 e2).trans0 e3).trans0 e4 |>.trans0 e5)⟩
end
end Go.Lift

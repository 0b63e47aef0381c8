/- Edges: a matrix of truths in memory; logs whose transactions never only read. -/
import Derived.Test.YtfkamdkocmkkpaaW14C
set_option linter.unusedSimpArgs false
set_option linter.unusedVariables false
namespace Go.Lift
open Go Go.Proofs
set_option maxRecDepth 100000
structure MatAt (h : Hp) (b : Nat) (F : Nat → Nat → Bool) : Prop where
  ex : ∃ c, Blk h b c T_21_21_bool ∧ c.size = 441 ∧ ∀ i j, i < 21 → j < 21 → c[i * 21 + j]? = some (.bool (F i j))
section
variable {h h' : Hp} {b : Nat} {F : Nat → Nat → Bool}
theorem MatAt.ext {S : List Nat} (hm : MatAt h b F) (he : Ext S h h') (hn : b ∉ S) : MatAt h' b F := by
  obtain ⟨c, h1, h2⟩ := hm.ex
  exact ⟨c, he.get h1 hn, h2⟩
theorem MatAt.rd (hm : MatAt h b F) {i j : Nat} (hi : i < 21) (hj : j < 21) : Go.Lift.rd h (Addr.add (Addr.add (Addr.mk b 0 none) (Int.toNat (i : Int) * 21)) (Int.toNat (j : Int) * 1)) = some (.bool (F i j)) := by
  obtain ⟨c, h1, h2, h3⟩ := hm.ex
  rw [addr_add_add, addr_mk, rd_blk h1, Int.toNat_natCast, Int.toNat_natCast, Nat.zero_add, Nat.mul_one]
  exact h3 i j hi hj
theorem MatAt.st (hm : MatAt h b F) {i j : Nat} (hi : i < 21) (hj : j < 21) (v : Bool) {K : Hp → Prop} (H : ∀ h', MatAt h' b (fun a c => if a = i ∧ c = j then v else F a c) → Ext [b] h h' → K h') :
    stOk h (Addr.add (Addr.add (Addr.mk b 0 none) (Int.toNat (i : Int) * 21)) (Int.toNat (j : Int) * 1)) 1 ∧ wth (wrs h (Addr.add (Addr.add (Addr.mk b 0 none) (Int.toNat (i : Int) * 21)) (Int.toNat (j : Int) * 1)) 0 [.bool v]) K := by
  obtain ⟨c, h1, h2, h3⟩ := hm.ex
  rw [addr_add_add, addr_mk, Int.toNat_natCast, Int.toNat_natCast, Nat.zero_add, Nat.mul_one]
  refine st_blk h1 (by omega) fun h4 s4 b4 e4 => H h4 ⟨⟨_, b4, by simpa using h2, fun a d ha hd => ?_⟩⟩ e4
  rw [putAt_get0 _ _ _ _ (by simp; omega)]
  by_cases e : a = i ∧ d = j
  · obtain ⟨rfl, rfl⟩ := e
    rw [if_pos (by simp), if_pos ⟨rfl, rfl⟩, Nat.sub_self]
    rfl
  · rw [if_neg (by simp only [List.length_singleton]; omega), if_neg e]
    exact h3 a d ha hd
theorem mat_new {b : Nat} (hb : h[b]? = some (.cells (zc PP T_21_21_bool) T_21_21_bool (0, 0))) : MatAt h b fun _ _ => false := by
  have hz : zc PP T_21_21_bool = Array.replicate 441 (.bool false) := by kernel_rfl
  rw [hz] at hb
  refine ⟨_, hb, by simp, fun i j hi hj => ?_⟩
  rw [Array.getElem?_replicate, if_pos (by omega)]
end
theorem loopLe {X : List Value → Hp → Prop} (n : Nat) (I : Nat → Hp → Prop) (hend : ∀ g, I (n + 1) g → X [.int .i64 ((n + 1 : Nat) : Int)] g)
    (hstep : ∀ i g, 1 ≤ i → i ≤ n → I i g → (∀ g', I (i + 1) g' → X [.int .i64 ((i + 1 : Nat) : Int)] g') → X [.int .i64 (i : Int)] g) (g : Hp) (h0 : I 1 g) : X [.int .i64 (1 : Int)] g := by
  have key : ∀ d i g, d + i = n + 1 → 1 ≤ i → I i g → X [.int .i64 (i : Int)] g := by
    intro d
    induction d with
    | zero =>
      intro i g hi _ hI
      have : i = n + 1 := by omega
      subst this
      exact hend g hI
    | succ d ih =>
      intro i g hi h1 hI
      exact hstep i g h1 (by omega) hI fun g' hI' => ih (i + 1) g' (by omega) (by omega) hI'
  exact key n 1 g (by omega) (Nat.le_refl _) h0
section
variable {L : LM}
theorem reads_begin (h : ∀ x, (txL L x).reads = false) : ∀ x, (txL (beginL L false) x).reads = false := by
  intro x
  by_cases hf : L.l.length = 200
  · rw [begin_full false hf]; exact h x
  obtain ⟨b1, b2, b3, b4⟩ := begin_tx (L := L) false hf
  by_cases hx : hasL (beginL L false) x
  · rcases (b1 x).1 hx with k | k
    · rw [b2 x k]; exact h x
    · rw [k, b3]
  · rw [txL_no hx]; rfl
theorem reads_commit (h : ∀ x, (txL L x).reads = false) (a : Int) : ∀ x, (txL (commitL L a) x).reads = false := by
  intro x
  by_cases hr : runsL L a
  · obtain ⟨c1, c2, c3⟩ := commit_tx hr
    rw [c2]
    split
    · exact h a
    · exact h x
  · rw [commit_no hr]; exact h x
theorem reads_abort (h : ∀ x, (txL L x).reads = false) (a : Int) : ∀ x, (txL (abortL L a) x).reads = false := by
  intro x
  by_cases hr : runsL L a
  · obtain ⟨c1, c2, c3⟩ := abort_tx hr
    rw [c2]
    split
    · exact h a
    · exact h x
  · rw [abort_no hr]; exact h x
theorem len_begin (r : Bool) : (beginL L r).l.length = if L.l.length = 200 then L.l.length else L.l.length + 1 := by
  unfold beginL
  split <;> simp
theorem len_commit (a : Int) : (commitL L a).l.length = L.l.length := by
  unfold commitL
  split
  · simp [setL]
  · rfl
theorem len_abort (a : Int) : (abortL L a).l.length = L.l.length := by
  unfold abortL
  split
  · simp [setL]
  · rfl
/-- What the law of circles keeps of its log and edges. -/
structure COk (n : Nat) (L : LM) (E : EM) : Prop where
  b : BOk n L E
  rd : ∀ x, (txL L x).reads = false
  ln : L.l.length ≤ n
end
end Go.Lift

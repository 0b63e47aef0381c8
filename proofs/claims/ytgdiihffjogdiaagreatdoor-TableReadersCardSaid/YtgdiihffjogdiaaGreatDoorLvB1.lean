/- Parts of memory: each block belongs to one part; what a part does leaves the others as they were. -/
import Derived.Test.YtgdiihffjogdiaaGreatDoorLvZ
set_option linter.unusedSimpArgs false
set_option linter.unusedVariables false
namespace Go.Lift
open Go
/-- A structure in memory that lives in just these blocks. -/
abbrev Part := (Nat → Prop) → Hp → Prop
def PartOK (X : Part) : Prop := ∀ (o : Nat → Prop) (h h' : Hp), X o h → (∀ b, o b → h'[b]? = h[b]?) → h.size ≤ h'.size → X o h'
/-- All but these blocks stays. -/
structure Ks (o : Nat → Prop) (h h' : Hp) : Prop where
  sz : h.size ≤ h'.size
  old : ∀ b, b < h.size → ¬ o b → h'[b]? = h[b]?
/-- All else. -/
def gl (o : Nat → Prop) (h : Hp) : Nat → Prop := fun b => b < h.size ∧ ¬ o b
/-- These, and what is new. -/
def nw (o : Nat → Prop) (h h' : Hp) : Nat → Prop := fun b => o b ∨ (h.size ≤ b ∧ b < h'.size)
theorem gl_nw {o : Nat → Prop} {h h' : Hp} (hz : h.size ≤ h'.size) : gl (nw o h h') h' = gl o h := by
  funext b
  unfold gl nw
  apply propext
  by_cases hb : b < h.size
  · exact ⟨fun g => ⟨hb, fun q => g.2 (Or.inl q)⟩, fun g => ⟨by omega, fun q => q.elim g.2 fun r => by omega⟩⟩
  · exact ⟨fun g => absurd (Or.inr ⟨by omega, g.1⟩) g.2, fun g => absurd g.1 hb⟩
theorem gl_or {o : Nat → Prop} {h h' : Hp} {b : Nat} (hb : gl o h' b) : (gl o h b ∨ h.size ≤ b) ∧ b < h'.size := by
  by_cases g : b < h.size
  · exact ⟨Or.inl ⟨g, hb.2⟩, hb.1⟩
  · exact ⟨Or.inr (by omega), hb.1⟩
theorem Ks.refl (o : Nat → Prop) (h : Hp) : Ks o h h := ⟨Nat.le_refl _, fun _ _ _ => rfl⟩
theorem Ks.trans {o o' : Nat → Prop} {h h' h'' : Hp} (a : Ks o h h') (b : Ks o' h' h'') (ho : ∀ x, x < h.size → o' x → o x) : Ks o h h'' :=
  ⟨Nat.le_trans a.sz b.sz, fun x hx hn => by rw [b.old x (Nat.lt_of_lt_of_le hx a.sz) (fun q => hn (ho x hx q)), a.old x hx hn]⟩
theorem ks_ext {o : Nat → Prop} {S : List Nat} {h h' : Hp} (he : Ext S h h') (hS : ∀ b ∈ S, b < h.size → o b) : Ks o h h' := ⟨he.sz, fun b hb hn => he.old b hb fun q => hn (hS b q hb)⟩
open Classical in
/-- From a predicate that says which blocks stay, to a list of those that may change. -/
theorem Ks.ext {o : Nat → Prop} {h h' : Hp} (hk : Ks o h h') : ∃ S, Ext S h h' ∧ ∀ b ∈ S, o b := by
  refine ⟨(List.range h.size).filter fun b => decide (o b), ⟨hk.sz, fun b hb hn => ?_⟩, fun b hb => ?_⟩
  · refine hk.old b hb fun g => hn ?_
    simp only [List.mem_filter, List.mem_range]
    exact ⟨hb, by simpa using g⟩
  · simp only [List.mem_filter] at hb
    simpa using hb.2
section
variable {τ : Type} {w : Nat → τ} {h h' : Hp} {k : τ}
/-- The blocks of a part. -/
def own (w : Nat → τ) (h : Hp) (k : τ) : Nat → Prop := fun b => b < h.size ∧ w b = k
open Classical in
/-- New blocks belong to a part. -/
noncomputable def wz (w : Nat → τ) (h : Hp) (k : τ) : Nat → τ := fun b => if b < h.size then w b else k
theorem wz_lt {b : Nat} (hb : b < h.size) : wz w h k b = w b := by unfold wz; rw [if_pos hb]
theorem wz_ge {b : Nat} (hb : h.size ≤ b) : wz w h k b = k := by unfold wz; rw [if_neg (by omega)]
theorem own_wz {j : τ} (hj : j ≠ k) (hz : h.size ≤ h'.size) : own (wz w h k) h' j = own w h j := by
  funext b
  unfold own
  apply propext
  by_cases hb : b < h.size
  · rw [wz_lt hb]
    exact ⟨fun g => ⟨hb, g.2⟩, fun g => ⟨by omega, g.2⟩⟩
  · rw [wz_ge (by omega)]
    exact ⟨fun g => absurd g.2.symm hj, fun g => absurd g.1 hb⟩
theorem own_nw (hz : h.size ≤ h'.size) : own (wz w h k) h' k = nw (own w h k) h h' := by
  funext b
  unfold own nw
  apply propext
  by_cases hb : b < h.size
  · rw [wz_lt hb]
    exact ⟨fun g => Or.inl ⟨hb, g.2⟩, fun g => g.elim (fun q => ⟨by omega, q.2⟩) fun q => by omega⟩
  · rw [wz_ge (by omega)]
    exact ⟨fun g => Or.inr ⟨by omega, g.1⟩, fun g => g.elim (fun q => absurd q.1 hb) fun q => ⟨q.2, rfl⟩⟩
/-- Every part is in memory. -/
def Parts (X : τ → Part) (z : τ) (w : Nat → τ) (h : Hp) : Prop := ∀ k, k ≠ z → X k (own w h k) h
/-- One part has changed. -/
theorem Parts.put {X Y : τ → Part} {z : τ} (ok : ∀ k, PartOK (X k)) (hX : Parts X z w h) (hk : Ks (own w h k) h h') (hn : k ≠ z → Y k (nw (own w h k) h h') h') (he : ∀ j, j ≠ k → Y j = X j) : Parts Y z (wz w h k) h' := by
  intro j hj
  by_cases e : j = k
  · subst e
    rw [own_nw hk.sz]
    exact hn hj
  · rw [he j e, own_wz e hk.sz]
    exact ok j _ _ _ (hX j hj) (fun b hb => hk.old b hb.1 fun g => e (hb.2.symm.trans g.2)) hk.sz
end
end Go.Lift

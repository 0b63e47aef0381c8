/- Columns; row.Find. -/
import Derived.Test.YtgdiihffjogdiaaGreatDoorW13m
import Derived.Test.YtgdiihffjogdiaaGreatDoorLvZ
set_option linter.unusedSimpArgs false
set_option linter.unusedVariables false
namespace Go.Lift.N
open Go Go.Proofs Go.RowKit
set_option maxRecDepth 100000
structure ColM where
  name : ByteArray
  kind : Int
  nn : Bool
  dk : Int
  dn : Int
  df : Nat
  ds : ByteArray
  deriving DecidableEq
abbrev encC (c : ColM) : List Value := [.string c.name, .int .i64 c.kind, .bool c.nn, .int .i64 c.dk, .int .i64 c.dn, .float .f64 c.df, .string c.ds]
theorem encC_len (c : ColM) : (encC c).length = 7 := rfl
def idxP {α : Type} (p : α → Bool) : List α → Nat → Int
  | [], _ => -1
  | v :: l, i => if p v = true then (i : Int) else idxP p l (i + 1)
theorem idxP_cons {α : Type} (p : α → Bool) (v : α) (l : List α) (i : Nat) : idxP p (v :: l) i = if p v = true then (i : Int) else idxP p l (i + 1) := rfl
theorem idxP_find {α : Type} (p : α → Bool) : ∀ (l : List α) (i : Nat), (idxP p l i = -1 ∧ l.find? p = none ∧ l.any p = false) ∨ (∃ j, idxP p l i = ((i + j : Nat) : Int) ∧ l.any p = true ∧ ∃ hj : j < l.length, l.find? p = some l[j])
  | [], i => Or.inl ⟨rfl, rfl, rfl⟩
  | v :: l, i => by
    rw [idxP_cons]
    by_cases hv : p v = true
    · right
      refine ⟨0, by rw [if_pos hv]; rfl, by simp [hv], by simp, ?_⟩
      rw [List.find?_cons_of_pos hv]
      rfl
    · rw [if_neg hv, List.find?_cons_of_neg hv]
      rcases idxP_find p l (i + 1) with ⟨a, b, c⟩ | ⟨j, a, c, hj, b⟩
      · exact Or.inl ⟨a, b, by simp [hv, c]⟩
      · exact Or.inr ⟨j + 1, by rw [a]; congr 1; omega, by simp [c], by simpa using hj, by simpa using b⟩
section
variable {h : Hp} {Q : List Value → Hp → Prop}
theorem rdC {s : Sl} {xs : List ColM} (hs : Reads 7 encC h s xs) {i : Nat} (hi : i < xs.length) : ∃ a, s.a = some a ∧ ∀ (K : ByteArray → Int → Bool → Int → Int → Nat → ByteArray → Prop), K xs[i].name xs[i].kind xs[i].nn xs[i].dk xs[i].dn xs[i].df xs[i].ds →
    ∃ s8 : ByteArray, rd h (Addr.add (Addr.add a (i * 7)) 0) = some (Value.string s8) ∧ ∃ n9 : Int, rd h (Addr.add (Addr.add a (i * 7)) 1) = some (Value.int .i64 n9) ∧ ∃ b10 : Bool, rd h (Addr.add (Addr.add a (i * 7)) 2) = some (Value.bool b10) ∧ ∃ n11 : Int, rd h (Addr.add (Addr.add a (i * 7)) 3) = some (Value.int .i64 n11) ∧ ∃ n12 : Int, rd h (Addr.add (Addr.add a (i * 7)) 4) = some (Value.int .i64 n12) ∧ ∃ x13 : Nat, rd h (Addr.add (Addr.add a (i * 7)) 5) = some (Value.float .f64 x13) ∧ ∃ s14 : ByteArray, rd h (Addr.add (Addr.add a (i * 7)) 6) = some (Value.string s14) ∧ K s8 n9 b10 n11 n12 x13 s14 := by
  obtain ⟨a, h1, h2⟩ := hs.rd encC_len hi
  refine ⟨a, h1, fun K H => ?_⟩
  have r : ∀ k, k < 7 → rd h (Addr.add (Addr.add a (i * 7)) k) = (encC xs[i])[k]? := fun k hk => by rw [addr_add_add]; exact h2 k hk
  exact ⟨_, r 0 (by omega), _, r 1 (by omega), _, r 2 (by omega), _, r 3 (by omega), _, r 4 (by omega), _, r 5 (by omega), _, r 6 (by omega), H⟩
theorem IndexC_s {f : Nat} {cs : Array Value} {p : ColM → Bool} {s : Sl} {xs : List ColM} (hs : Reads 7 encC h s xs) (hl : xs.length ≤ 2 ^ 30)
    (hf : ∀ (w : ColM) g K, Ext [] h g → (∀ g', Ext [] g g' → K [.bool (p w)] g') → Fn PP f ((#[] ++ #[.agg #[.string w.name, .int .i64 w.kind, .bool w.nn, .int .i64 w.dk, .int .i64 w.dn, .float .f64 w.df, .string w.ds]]) ++ cs) g K)
    (hQ : ∀ h', Ext [] h h' → Q [.int .i64 (idxP p xs 0)] h') : S_slices_IndexFunc_sapi_Column_api_Column s f cs h Q := by
  refine O_slices_IndexFunc_sapi_Column_api_Column _ _ _ ?_
  delta F_slices_IndexFunc_sapi_Column_api_Column rI rB rS rP rM rL vI vB vS vP vM vL vC vA ad nb gb wi bl bz tn isn sib pu oc
  have hn := hs.1
  intro X hX
  have key : ∀ d i g, d + i = xs.length → Ext [] h g → idxP p xs 0 = idxP p (xs.drop i) i → X [.int .i64 (i : Int)] g := by
    intro d
    induction d with
    | zero =>
      intro i g hi eg ha
      refine hX _ _ ?_
      rw [if_neg (by simp; omega)]
      have := hQ g eg
      rw [ha, List.drop_of_length_le (by omega)] at this
      exact this
    | succ d ih =>
      intro i g hi eg ha
      refine hX _ _ ?_
      rw [if_pos (by simp; omega)]
      obtain ⟨a, u1, u2⟩ := rdC (hs.ext0 eg) (i := i) (by omega)
      rw [u1]
      simp only [nilW_some, Int.toNat_natCast]
      refine ⟨by omega, by omega, u2 _ ?_⟩
      have hd : xs.drop i = xs[i] :: xs.drop (i + 1) := List.drop_eq_getElem_cons (by omega)
      refine hf _ g _ eg fun g3 e3 => ⟨_, rfl, ?_⟩
      generalize xs[i]'(by omega) = v at hd
      rw [hd, idxP_cons] at ha
      by_cases hv : p v = true
      · rw [if_pos hv]
        rw [if_pos hv] at ha
        have := hQ g3 (eg.trans0 e3)
        rw [ha] at this
        exact this
      · rw [if_neg hv]
        rw [if_neg hv] at ha
        rw [wrap64 (by omega) (by omega)]
        have := ih (i + 1) g3 (by omega) (eg.trans0 e3) ha
        simpa using this
  exact key xs.length 0 h (by omega) (Ext.refl _ _) (by simp)
theorem Find_s {s : Sl} {xs : List ColM} (hs : Reads 7 encC h s xs) (hl : xs.length ≤ 2 ^ 30) (nm : ByteArray) (hQ : ∀ h', Ext [] h h' → Q [.int .i64 (idxP (fun d : ColM => decide (d.name = nm)) xs 0)] h') : S_row_Find s nm h Q := by
  refine O_row_Find _ _ ?_
  delta F_row_Find rI rB rS rP rM rL vI vB vS vP vM vL vC vA ad nb gb wi bl bz tn isn sib pu oc
  refine newI fun h1 s1 b1 e1 => ?_
  refine IndexC_s (p := fun d : ColM => decide (d.name = nm)) (hs.ext0 e1) hl (fun w g K eg hK => ?_) fun h2 e2 => ⟨_, rfl, hQ h2 (e1.trans0 e2)⟩
  refine O_row_Find_1 w.name w.kind w.nn w.dk w.dn w.df w.ds ⟨h.size, 0, none⟩ ?_
  delta F_row_Find_1 rI rB rS rP rM rL vI vB vS vP vM vL vC vA ad nb gb wi bl bz tn isn sib pu oc
  refine newI fun g1 z1 c1 f1 => ?_
  have b2 := f1.get (eg.get b1 (by simp)) (by simp)
  refine ⟨w.name, by simp [rd_blk c1], nm, by simp [rd_blk b2], ?_⟩
  have ek : (w.name.toList == nm.toList) = decide (w.name = nm) := by rw [Bool.eq_iff_iff]; simp only [beq_iff_eq, decide_eq_true_eq]; exact ⟨fun e => toList_inj e, fun e => by rw [e]⟩
  rw [ek]
  exact hK g1 f1
end
end Go.Lift.N

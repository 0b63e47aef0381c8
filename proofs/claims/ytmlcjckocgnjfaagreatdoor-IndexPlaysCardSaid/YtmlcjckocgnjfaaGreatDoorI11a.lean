/- An index: entries are added, dropped, looked for. -/
import Derived.Test.YtmlcjckocgnjfaaGreatDoorL10u
import Derived.Test.YtmlcjckocgnjfaaGreatDoorW03i
set_option linter.unusedSimpArgs false
set_option linter.unusedVariables false
namespace Go.Lift
open Go Go.Proofs Go.RowKit
set_option maxRecDepth 100000
theorem GM.exS {h h' : Hp} {S : List Nat} (hg : GM h) (he : Ext S h h') (hS : ∀ b ∈ S, 2 ≤ b) : GM h' := by
  obtain ⟨m, hm⟩ := hg
  unfold rd at hm
  simp only at hm
  cases hb : h[1]? with
  | none => rw [hb] at hm; cases hm
  | some o =>
    have := he.get hb (fun h1 => by have := hS _ h1; omega)
    refine ⟨m, ?_⟩
    unfold rd
    simp only
    rw [this]
    rw [hb] at hm
    exact hm
theorem GM.two {h : Hp} (hg : GM h) : 2 ≤ h.size := by
  obtain ⟨m, hm⟩ := hg
  unfold rd at hm
  simp only at hm
  cases hb : h[1]? with
  | none => rw [hb] at hm; cases hm
  | some o =>
    obtain ⟨hi, _⟩ := Array.getElem?_eq_some_iff.1 hb
    omega
/-- An index that stands in memory, apart from other blocks. -/
def Ix (lo : Nat) (G : Nat → Prop) (h : Hp) (x : Nat) (M : LeafM) : Prop :=
  ∃ q, Lv lo (fun b => G b ∨ b = x) h q M ∧ Blk h x #[.pointer (some ⟨q, 0, none⟩)] T_index_Index ∧ ¬ G x ∧ lo ≤ x
def noDid (e : Int) : Did := ⟨0, 0, 0, e⟩
def addM (M : LeafM) (v : V4) (t : Int) : LeafM × Did := if (entryP v t).2 = 0 then M.ins (entryP v t).1 else (M, noDid (entryP v t).2)
def dropM (M : LeafM) (v : V4) (t : Int) : LeafM × Did := if (entryP v t).2 = 0 then M.rem (entryP v t).1 else (M, noDid (entryP v t).2)
def didV (d : Did) : List Value := [.int .i64 d.leaf, .agg #[.int .i64 d.mf, .int .i64 d.mt], .int .i64 d.err]
section
variable {lo n : Nat} {G : Nat → Prop} {h : Hp} {x : Nat} {M : LeafM} {Q : List Value → Hp → Prop}
theorem Ix.grow {G' : Nat → Prop} {h' : Hp} (hx : Ix lo G h x M) (he : Ext [] h h') (hG : ∀ b, G' b → (G b ∨ h.size ≤ b) ∧ b < h'.size) : Ix lo G' h' x M := by
  obtain ⟨q, hv, hb, hn, hl⟩ := hx
  have hlt := blk_lt hb
  refine ⟨q, hv.grow he fun b hb => ?_, he.get hb (by simp), fun g => ?_, hl⟩
  · rcases hb with g | g
    · have := hG b g
      exact ⟨this.1.imp Or.inl id, this.2⟩
    · have := he.sz
      exact ⟨Or.inl (Or.inr g), by omega⟩
  · rcases (hG x g).1 with g | g
    · exact hn g
    · omega
theorem Ix.lt (hx : Ix lo G h x M) {b : Nat} (hb : G b) : b < h.size := by
  obtain ⟨q, hv, _⟩ := hx
  exact hv.1 b (Or.inl hb)
theorem Ix.le (hx : Ix lo G h x M) : lo ≤ h.size := by
  obtain ⟨q, hv, _⟩ := hx
  exact hv.2.1
theorem Ix.e0 {h' : Hp} (hx : Ix lo G h x M) (he : Ext [] h h') : Ix lo G h' x M := hx.grow he fun b hb => ⟨Or.inl hb, Nat.lt_of_lt_of_le (hx.lt hb) he.sz⟩
theorem Ix.less {G' : Nat → Prop} (hx : Ix lo G h x M) (hG : ∀ b, G' b → G b) : Ix lo G' h x M := hx.grow (Ext.refl _ _) fun b hb => ⟨Or.inl (hG b hb), hx.lt (hG b hb)⟩
theorem Ix.eG {h' : Hp} {S : List Nat} (hx : Ix lo G h x M) (he : Ext S h h') (hS : ∀ b ∈ S, b < h.size → G b) : Ix lo G h' x M := by
  obtain ⟨q, hv, hb, hn, hl⟩ := hx
  exact ⟨q, hv.eG he fun b hb hlt => Or.inl (hS b hb hlt), he.get hb (fun hm => hn (hS _ hm (blk_lt hb))), hn, hl⟩
theorem New_i {fan : Int} (hf : 2 ≤ fan ∧ fan ≤ 64) (hQ : ∀ h' x, Ix h.size (fun _ => False) h' x ⟨fan, 2, [⟨1, ByteArray.mk #[], []⟩]⟩ → Ext [] h h' → Q [.pointer (some ⟨x, 0, none⟩), .int .i64 0] h') : S_index_New fan h Q := by
  refine O_index_New _ ?_
  unfold F_index_New
  refine New_L hf fun h1 q hv e1 => ⟨_, _, rfl, ?_⟩
  rw [if_neg (by simp)]
  refine newI fun h2 s2 b2 e2 => ?_
  refine hQ h2 _ ⟨q, hv.grow e2 fun b hb => ?_, b2, fun g => g, e1.sz⟩ (e1.trans0 e2)
  rcases hb with g | g
  · exact g.elim
  · subst g
    exact ⟨Or.inr (Nat.le_refl _), by omega⟩
/-- Adding and dropping end alike. -/
theorem did_end {h1 h' : Hp} {m : Nat} {T : TypeId} {d : Did} {S : List Nat} {M' : LeafM} (hsz : h.size ≤ m) (hlo : lo ≤ h.size) (hx : Ix lo (fun b => G b ∨ b = m) h' x M') (hb : Blk h1 m #[.int .i64 0, .int .i64 0] T) (e01 : Ext [] h h1) (he : Ext S h1 h') (hS : ∀ b ∈ S, lo ≤ b ∧ ¬ (G b ∨ b = m)) (hG : ∀ b, G b → b < h.size)
    (hQ : ∀ h' S, Ix lo G h' x M' → Ext S h h' → (∀ b ∈ S, lo ≤ b ∧ ¬ G b) → Q (didV d) h') :
    stOk h' (Addr.mk m 0 none) 2 ∧ wth (wrs h' (Addr.mk m 0 none) 0 [(Value.int .i64 d.mf), (Value.int .i64 d.mt)]) fun h25 =>
        ∃ n26 : Int, rd h25 (Addr.add (Addr.mk m 0 none) 0) = some (Value.int .i64 n26) ∧ ∃ n27 : Int, rd h25 (Addr.add (Addr.mk m 0 none) 1) = some (Value.int .i64 n27) ∧ Q [(Value.int .i64 d.leaf), (Value.agg #[(Value.int .i64 n26), (Value.int .i64 n27)]), (Value.int .i64 d.err)] h25 := by
  have b3 := he.get hb (fun hm => (hS _ hm).2 (Or.inr rfl))
  refine st_blk b3 (by simp) fun h4 s4 b4 e4 => ?_
  refine ⟨d.mf, by simp [rd_blk b4], d.mt, by simp [rd_blk b4], ?_⟩
  refine hQ h4 (S ++ [m]) ((hx.eG e4 fun b hb _ => by simp at hb; exact Or.inr hb).less fun b hb => Or.inl hb) ?_ fun b hb => ?_
  · exact (e01.mono (by simp)).trans ((he.mono (fun b hb _ => List.mem_append_left _ hb)).trans e4 (fun b hb _ => by simp at hb; simp [hb])) (fun b hb _ => hb)
  · rcases List.mem_append.1 hb with g | g
    · exact ⟨(hS b g).1, fun hg => (hS b g).2 (Or.inl hg)⟩
    · simp at g
      exact ⟨by omega, fun hg => by have := hG b hg; omega⟩
theorem Add_i (hx : Ix lo G h x M) (ok : OkM M n) (hn : n < 2 ^ 15) (hl2 : 2 ≤ lo) (v : V4) (hv : VOk v) (t : Int) (hg : GM h)
    (hQ : ∀ h' S, Ix lo G h' x (addM M v t).1 → Ext S h h' → (∀ b ∈ S, lo ≤ b ∧ ¬ G b) → Q (didV (addM M v t).2) h') : S_index_Index_Add (some ⟨x, 0, none⟩) v.k v.n v.f v.s t h Q := by
  refine O_index_Index_Add _ _ _ _ _ _ ?_
  unfold F_index_Index_Add
  refine newI fun h1 s1 b1' e1 => newI fun h2 s2 b2 e2 => ?_
  rw [if_neg (by simp)]
  have b1 : Blk h2 h.size (cells4 v) T_api_Value := e2.get b1' (by simp)
  refine rdV b1 ?_
  have e02 := e1.trans0 e2
  refine Entry_s v hv (hg.ext e02) t fun h3 e3 => ⟨_, _, rfl, ?_⟩
  have e03 := e02.trans0 e3
  have b3 := e3.get b2 (by simp)
  have hlo := hx.le
  have hx3 : Ix lo (fun b => G b ∨ b = h1.size) h3 x M := hx.grow e03 fun b hb => by
    have := e3.sz
    rcases hb with g | g
    · exact ⟨Or.inl g, by have := hx.lt g; omega⟩
    · exact ⟨Or.inr (by omega), by omega⟩
  unfold addM at hQ
  by_cases he : (entryP v t).2 = 0
  · rw [if_neg (by simp [he])]
    rw [if_pos he] at hQ
    obtain ⟨q, hv3, hb3, hn3, hl3⟩ := hx3
    rw [nilW_some]
    refine ⟨some ⟨q, 0, none⟩, by simp [rd_blk hb3], ?_⟩
    refine ins_L hv3 ok hn _ fun h4 S hv4 e4 hS => ⟨_, _, _, _, rfl, ?_⟩
    have hx4 : Ix lo (fun b => G b ∨ b = h1.size) h4 x (M.ins (entryP v t).1).1 := ⟨q, hv4, e4.get hb3 (fun hm => (hS _ hm).2 (Or.inr rfl)), hn3, hl3⟩
    exact did_end (d := (M.ins (entryP v t).1).2) (by omega) hlo hx4 b3 e03 e4 (fun b hb => ⟨(hS b hb).1, fun hg => (hS b hb).2 (Or.inl hg)⟩) (fun b hb => hx.lt hb) hQ
  · rw [if_pos (by simpa using he)]
    rw [if_neg he] at hQ
    exact did_end (d := noDid (entryP v t).2) (S := []) (by omega) hlo hx3 b3 e03 (Ext.refl _ _) (by simp) (fun b hb => hx.lt hb) hQ
theorem Drop_i (hx : Ix lo G h x M) (ok : OkM M n) (hn : n < 2 ^ 15) (hl2 : 2 ≤ lo) (v : V4) (hv : VOk v) (t : Int) (hg : GM h)
    (hQ : ∀ h' S, Ix lo G h' x (dropM M v t).1 → Ext S h h' → (∀ b ∈ S, lo ≤ b ∧ ¬ G b) → Q (didV (dropM M v t).2) h') : S_index_Index_Drop (some ⟨x, 0, none⟩) v.k v.n v.f v.s t h Q := by
  refine O_index_Index_Drop _ _ _ _ _ _ ?_
  unfold F_index_Index_Drop
  refine newI fun h1 s1 b1' e1 => newI fun h2 s2 b2 e2 => ?_
  rw [if_neg (by simp)]
  have b1 : Blk h2 h.size (cells4 v) T_api_Value := e2.get b1' (by simp)
  refine rdV b1 ?_
  have e02 := e1.trans0 e2
  refine Entry_s v hv (hg.ext e02) t fun h3 e3 => ⟨_, _, rfl, ?_⟩
  have e03 := e02.trans0 e3
  have b3 := e3.get b2 (by simp)
  have hlo := hx.le
  have hx3 : Ix lo (fun b => G b ∨ b = h1.size) h3 x M := hx.grow e03 fun b hb => by
    have := e3.sz
    rcases hb with g | g
    · exact ⟨Or.inl g, by have := hx.lt g; omega⟩
    · exact ⟨Or.inr (by omega), by omega⟩
  unfold dropM at hQ
  by_cases he : (entryP v t).2 = 0
  · rw [if_neg (by simp [he])]
    rw [if_pos he] at hQ
    obtain ⟨q, hv3, hb3, hn3, hl3⟩ := hx3
    rw [nilW_some]
    refine ⟨some ⟨q, 0, none⟩, by simp [rd_blk hb3], ?_⟩
    refine rem_L hv3 ok hn _ fun h4 S hv4 e4 hS => ⟨_, _, _, _, rfl, ?_⟩
    have hx4 : Ix lo (fun b => G b ∨ b = h1.size) h4 x (M.rem (entryP v t).1).1 := ⟨q, hv4, e4.get hb3 (fun hm => (hS _ hm).2 (Or.inr rfl)), hn3, hl3⟩
    exact did_end (d := (M.rem (entryP v t).1).2) (by omega) hlo hx4 b3 e03 e4 (fun b hb => ⟨(hS b hb).1, fun hg => (hS b hb).2 (Or.inl hg)⟩) (fun b hb => hx.lt hb) hQ
  · rw [if_pos (by simpa using he)]
    rw [if_neg he] at hQ
    exact did_end (d := noDid (entryP v t).2) (S := []) (by omega) hlo hx3 b3 e03 (Ext.refl _ _) (by simp) (fun b hb => hx.lt hb) hQ
theorem Len_i (hx : Ix lo G h x M) (ok : OkM M n) (hn : n < 2 ^ 15) (hQ : Q [.int .i64 (sumL M.l)] h) : S_index_Index_Len (some ⟨x, 0, none⟩) h Q := by
  refine O_index_Index_Len _ ?_
  unfold F_index_Index_Len
  rw [if_neg (by simp)]
  obtain ⟨q, hv, hb, _, _⟩ := hx
  rw [nilW_some]
  refine ⟨some ⟨q, 0, none⟩, by simp [rd_blk hb], ?_⟩
  exact Len_L hv ok hn ⟨_, rfl, hQ⟩
theorem Leaves_i (hx : Ix lo G h x M) (ok : OkM M n) (hn : n < 2 ^ 15) (hQ : ∀ h' s, Ix lo G h' x M → Ext [] h h' → Own T_int 1 encIL h.size h' s (M.l.map OneM.n) → Q [.slice s.a s.n s.c] h') : S_index_Index_Leaves (some ⟨x, 0, none⟩) h Q := by
  refine O_index_Index_Leaves _ ?_
  unfold F_index_Index_Leaves
  rw [if_neg (by simp)]
  have hx0 := hx
  obtain ⟨q, hv, hb, _, _⟩ := hx
  rw [nilW_some]
  refine ⟨some ⟨q, 0, none⟩, by simp [rd_blk hb], ?_⟩
  exact All_L hv ok hn fun h1 s _ e ho => ⟨s, rfl, hQ h1 s (hx0.e0 e) e ho⟩
def hasP (M : LeafM) (v : V4) (t : Int) : Bool := decide ((entryP v t).2 = 0) && (M.l.any fun o => hasK o.keys (entryP v t).1)
theorem Has_i (hx : Ix lo G h x M) (ok : OkM M n) (hn : n < 2 ^ 15) (v : V4) (hv : VOk v) (t : Int) (hg : GM h)
    (hQ : ∀ h', Ext [] h h' → Q [.bool (decide ((entryP v t).2 = 0) && hasK (M.l[atL M.l (entryP v t).1]'(atL_lt ok.ne _)).keys (entryP v t).1)] h') : S_index_Index_Has (some ⟨x, 0, none⟩) v.k v.n v.f v.s t h Q := by
  refine O_index_Index_Has _ _ _ _ _ _ ?_
  unfold F_index_Index_Has
  refine newI fun h1 s1 b1' e1 => ?_
  have b1 : Blk h1 h.size (cells4 v) T_api_Value := b1'
  refine rdV b1 ?_
  refine Entry_s v hv (hg.ext e1) t fun h3 e3 => ⟨_, _, rfl, ?_⟩
  have e03 := e1.trans0 e3
  rw [if_pos (by rfl)]
  have hq := hQ h3 e03
  by_cases he : (entryP v t).2 = 0
  · rw [if_pos (by simp [he])]
    rw [decide_eq_true he] at hq
    obtain ⟨q, hv3, hb3, _, _⟩ := hx.e0 e03
    rw [nilW_some]
    refine ⟨some ⟨q, 0, none⟩, by simp [rd_blk hb3], ?_⟩
    exact Has_L hv3 ok hn _ ⟨_, rfl, hq⟩
  · rw [if_neg (by simpa using he)]
    rw [decide_eq_false he] at hq
    exact hq
end
end Go.Lift

/- The reference's index; both indices beside each other. -/
import Derived.Test.YtmlcjckocgnjfaaGreatDoorL10o4
import Derived.Test.YtmlcjckocgnjfaaGreatDoorW03l
import Derived.Test.YtmlcjckocgnjfaaGreatDoorI11h
set_option linter.unusedSimpArgs false
set_option linter.unusedVariables false
namespace Go.Lift
open Go Go.Proofs Go.RowKit
set_option maxRecDepth 100000
abbrev aggD (d : Did) : Value := .agg #[.int .i64 d.leaf, .int .i64 d.mf, .int .i64 d.mt, .int .i64 d.err]
abbrev aggS (s t : Sl) : Value := .agg #[.slice s.a s.n s.c, .slice t.a t.n t.c]
/-- Both indices in memory, apart from each other and from what else is held; the program's may have gone ahead. -/
def Bo (lo : Nat) (sv : Nat → Prop) (h : Hp) (x q : Nat) (M M' : LeafM) : Prop :=
  ∃ r ls R, RefAt lo h r M ls R ∧ Blk h q #[.pointer (some ⟨r, 0, none⟩)] T_liveryref11_Index ∧ lo ≤ q ∧ ¬ RFp r ls R q ∧ ¬ sv q ∧ (∀ b, sv b → ¬ RFp r ls R b) ∧ Ix lo (fun b => RFp r ls R b ∨ b = q ∨ sv b) h x M'
section
variable {lo n : Nat} {sv : Nat → Prop} {h h' : Hp} {x q : Nat} {M M' : LeafM} {Q : List Value → Hp → Prop}
theorem Bo.grow {sv' : Nat → Prop} (hb : Bo lo sv h x q M M') (he : Ext [] h h') (hs : ∀ b, sv' b → (sv b ∨ h.size ≤ b) ∧ b < h'.size) : Bo lo sv' h' x q M M' := by
  obtain ⟨r, ls, R, hr, bq, hl, n1, n2, n3, hx⟩ := hb
  have hq := blk_lt bq
  have hz := he.sz
  refine ⟨r, ls, R, hr.ext0 he, he.get bq (by simp), hl, n1, fun g => ?_, fun b hb g => ?_, hx.grow he fun b hb => ?_⟩
  · rcases (hs q g).1 with k | k
    · exact n2 k
    · omega
  · rcases (hs b hb).1 with k | k
    · exact n3 b k g
    · have := rfp_lt hr g
      omega
  · rcases hb with g | g | g
    · exact ⟨Or.inl (Or.inl g), by have := rfp_lt hr g; omega⟩
    · exact ⟨Or.inl (Or.inr (Or.inl g)), by omega⟩
    · exact ⟨(hs b g).1.imp (fun k => Or.inr (Or.inr k)) id, (hs b g).2⟩
theorem Bo.lt (hb : Bo lo sv h x q M M') {b : Nat} (g : sv b) : b < h.size := by
  obtain ⟨r, ls, R, hr, bq, hl, n1, n2, n3, hx⟩ := hb
  exact hx.lt (Or.inr (Or.inr g))
theorem Bo.le (hb : Bo lo sv h x q M M') : lo ≤ h.size := by
  obtain ⟨r, ls, R, hr, bq, hl, n1, n2, n3, hx⟩ := hb
  exact hx.le
theorem Bo.e0 (hb : Bo lo sv h x q M M') (he : Ext [] h h') : Bo lo sv h' x q M M' := hb.grow he fun b g => ⟨Or.inl g, Nat.lt_of_lt_of_le (hb.lt g) he.sz⟩
theorem Bo.less {sv' : Nat → Prop} (hb : Bo lo sv h x q M M') (hs : ∀ b, sv' b → sv b) : Bo lo sv' h x q M M' := hb.grow (Ext.refl _ _) fun b g => ⟨Or.inl (hs b g), hb.lt (hs b g)⟩
theorem Bo.ix (hb : Bo lo sv h x q M M') : ∃ G, Ix lo G h x M' := by
  obtain ⟨r, ls, R, hr, bq, hl, n1, n2, n3, hx⟩ := hb
  exact ⟨_, hx⟩
theorem addB (hb : Bo lo sv h x q M M) (ok : OkM M n) (hn : n < 2 ^ 15) (hl2 : 2 ≤ lo) (v : V4) (hv : VOk v) (t : Int) (hg : GM h)
    (hQ : ∀ h' S, Bo lo sv h' x q M (addM M v t).1 → Ext S h h' → (∀ b ∈ S, lo ≤ b ∧ ¬ sv b) → Q (didV (addM M v t).2) h') : S_index_Index_Add (some ⟨x, 0, none⟩) v.k v.n v.f v.s t h Q := by
  obtain ⟨r, ls, R, hr, bq, hl, n1, n2, n3, hx⟩ := hb
  exact Add_i hx ok hn hl2 v hv t hg fun h' S hx' he hS => hQ h' S ⟨r, ls, R, hr.extF he (fun b hb hm => (hS b hm).2 (Or.inl hb)), he.get bq (fun hm => (hS _ hm).2 (Or.inr (Or.inl rfl))), hl, n1, n2, n3, hx'⟩ he fun b hb => ⟨(hS b hb).1, fun g => (hS b hb).2 (Or.inr (Or.inr g))⟩
theorem dropB (hb : Bo lo sv h x q M M) (ok : OkM M n) (hn : n < 2 ^ 15) (hl2 : 2 ≤ lo) (v : V4) (hv : VOk v) (t : Int) (hg : GM h)
    (hQ : ∀ h' S, Bo lo sv h' x q M (dropM M v t).1 → Ext S h h' → (∀ b ∈ S, lo ≤ b ∧ ¬ sv b) → Q (didV (dropM M v t).2) h') : S_index_Index_Drop (some ⟨x, 0, none⟩) v.k v.n v.f v.s t h Q := by
  obtain ⟨r, ls, R, hr, bq, hl, n1, n2, n3, hx⟩ := hb
  exact Drop_i hx ok hn hl2 v hv t hg fun h' S hx' he hS => hQ h' S ⟨r, ls, R, hr.extF he (fun b hb hm => (hS b hm).2 (Or.inl hb)), he.get bq (fun hm => (hS _ hm).2 (Or.inr (Or.inl rfl))), hl, n1, n2, n3, hx'⟩ he fun b hb => ⟨(hS b hb).1, fun g => (hS b hb).2 (Or.inr (Or.inr g))⟩
/-- The reference has caught up. -/
theorem caught {r : Nat} {ls ls' : Sl} {R R' : List RC} {S : List Nat} (hr : RefAt lo h r M ls R) (bq : Blk h q #[.pointer (some ⟨r, 0, none⟩)] T_liveryref11_Index) (hl : lo ≤ q) (n1 : ¬ RFp r ls R q) (n2 : ¬ sv q) (n3 : ∀ b, sv b → ¬ RFp r ls R b) (hx : Ix lo (fun b => RFp r ls R b ∨ b = q ∨ sv b) h x M')
    (hr' : RefAt lo h' r M' ls' R') (he : Ext S h h') (hS : ∀ b ∈ S, RFp r ls R b) (hF : ∀ b, RFp r ls' R' b → RFp r ls R b ∨ h.size ≤ b) : Bo lo sv h' x q M' M' := by
  have hq := blk_lt bq
  have hz := he.sz
  refine ⟨r, ls', R', hr', he.get bq (fun hm => n1 (hS _ hm)), hl, fun g => ?_, n2, fun b hb g => ?_, hx.growS he (fun b hb _ => Or.inl (hS b hb)) fun b hb => ?_⟩
  · rcases hF q g with k | k
    · exact n1 k
    · omega
  · rcases hF b g with k | k
    · exact n3 b hb k
    · have := hx.lt (Or.inr (Or.inr hb))
      omega
  · rcases hb with g | g | g
    · exact ⟨(hF b g).imp Or.inl id, rfp_lt hr' g⟩
    · exact ⟨Or.inl (Or.inr (Or.inl g)), by omega⟩
    · exact ⟨Or.inl (Or.inr (Or.inr g)), by have := hx.lt (Or.inr (Or.inr g)); omega⟩
theorem rd4d {b : Nat} {d : Did} {c : Array Value} {T : TypeId} {K : Hp → Prop} {V : Value → Hp → Prop} (hb : Blk h b c T) (hc : c.size = 4) (H : ∀ g, Ext [b] h g → V (aggD d) g) :
    stOk h (Addr.mk b 0 none) 4 ∧ wth (wrs h (Addr.mk b 0 none) 0 [(Value.int .i64 d.leaf), (Value.int .i64 d.mf), (Value.int .i64 d.mt), (Value.int .i64 d.err)]) fun h11 =>
    ∃ n12 : Int, rd h11 (Addr.add (Addr.mk b 0 none) 0) = some (Value.int .i64 n12) ∧ ∃ n13 : Int, rd h11 (Addr.add (Addr.mk b 0 none) 1) = some (Value.int .i64 n13) ∧ ∃ n14 : Int, rd h11 (Addr.add (Addr.mk b 0 none) 2) = some (Value.int .i64 n14) ∧ ∃ n15 : Int, rd h11 (Addr.add (Addr.mk b 0 none) 3) = some (Value.int .i64 n15) ∧ V (Value.agg #[(Value.int .i64 n12), (Value.int .i64 n13), (Value.int .i64 n14), (Value.int .i64 n15)]) h11 := by
  refine st_blk hb (by omega) fun g s bg e => ?_
  have hp : putAt c 0 [(Value.int .i64 d.leaf), (Value.int .i64 d.mf), (Value.int .i64 d.mt), (Value.int .i64 d.err)] = #[(Value.int .i64 d.leaf), (Value.int .i64 d.mf), (Value.int .i64 d.mt), (Value.int .i64 d.err)] := by
    obtain ⟨l⟩ := c
    simp only [List.size_toArray] at hc
    obtain ⟨x, y, z, w, rfl⟩ := list4 hc
    simp [putAt]
  rw [hp] at bg
  have r : ∀ i, rd g (Addr.add (Addr.mk b 0 none) i) = (#[(Value.int .i64 d.leaf), (Value.int .i64 d.mf), (Value.int .i64 d.mt), (Value.int .i64 d.err)] : Array Value)[i]? := fun i => by rw [addr_mk, rd_blk bg, Nat.zero_add]
  exact ⟨_, r 0, _, r 1, _, r 2, _, r 3, H g e⟩
theorem addRB {v : V4} {t : Int} (hb : Bo lo sv h x q M (addM M v t).1) (ok : OkM M n) (hn : n < 2 ^ 15) (hv : VOk v) (ht : -9223372036854775808 ≤ t ∧ t < 9223372036854775808)
    (hQ : ∀ h' S, Bo lo sv h' x q (addM M v t).1 (addM M v t).1 → Ext S h h' → (∀ b ∈ S, lo ≤ b ∧ ¬ sv b) → Q [aggD (addM M v t).2] h') : S_liveryref11_Index_Add (some ⟨q, 0, none⟩) v.k v.n v.f v.s t h Q := by
  refine O_liveryref11_Index_Add _ _ _ _ _ _ ?_
  unfold F_liveryref11_Index_Add
  refine newI fun h1 s1 b1' e1 => newI fun h2 s2 b2 e2 => ?_
  have b1 : Blk h2 h.size (cells4 v) T_api_Value := e2.get b1' (by simp)
  refine rdV b1 ?_
  have e02 := e1.trans0 e2
  refine EntryR_s v hv t ht fun h3 e3 => ⟨_, _, rfl, ?_⟩
  have e03 := e02.trans0 e3
  have b3 := e3.get b2 (by simp)
  have hlo := hb.le
  have hz3 := e3.sz
  have hb3 : Bo lo (fun b => sv b ∨ b = h1.size) h3 x q M (addM M v t).1 := hb.grow e03 fun b g => by
    rcases g with g | g
    · exact ⟨Or.inl g, by have := hb.lt g; omega⟩
    · exact ⟨Or.inr (by omega), by omega⟩
  by_cases he : (entryP v t).2 = 0
  · rw [if_neg (by simp [he])]
    have hadd : addM M v t = M.ins (entryP v t).1 := by unfold addM; rw [if_pos he]
    rw [hadd] at hQ hb3
    have hb3lt : ∀ {b}, sv b → b < h.size := fun k => hb.lt k
    obtain ⟨r, ls, R, hr, bq, hl, n1, n2, n3, hx⟩ := hb3
    rw [nilW_some]
    refine ⟨some ⟨r, 0, none⟩, by simp [rd_blk bq], ?_⟩
    refine InsertR_s hr ok hn (by omega) _ fun h4 ls' R' S hr' he4 hS hF => ⟨_, _, _, _, rfl, ?_⟩
    have hb4 := caught hr bq hl n1 n2 n3 hx hr' he4 hS hF
    have b4 := he4.get b3 (fun hm => n3 _ (Or.inr rfl) (hS _ hm))
    refine rd4d (K := fun _ => True) (V := fun u g => Q [u] g) b4 rfl fun g eg => hQ g (S ++ [h1.size]) ?_ ?_ ?_
    · obtain ⟨r5, ls5, R5, hr5, bq5, hl5, m1, m2, m3, hx5⟩ := hb4
      exact ⟨r5, ls5, R5, hr5.extF eg (fun b hb hm => m3 h1.size (Or.inr rfl) (by simp at hm; rw [← hm]; exact hb)), eg.get bq5 (fun hm => m2 (Or.inr (by simpa using hm))), hl5, m1, fun g => m2 (Or.inl g), fun b g => m3 b (Or.inl g), hx5.growS eg (fun b hb _ => Or.inr (Or.inr (Or.inr (by simpa using hb)))) fun b hb => ⟨Or.inl (hb.imp id (Or.imp id Or.inl)), by
        have hz := eg.sz
        have := hx5.lt (hb.imp id (Or.imp id Or.inl))
        omega⟩⟩
    · exact (e03.mono (by simp)).trans ((he4.mono (fun b hb _ => List.mem_append_left _ hb)).trans eg (fun b hb _ => by simp at hb; simp [hb])) (fun b hb _ => hb)
    · intro b hb
      rcases List.mem_append.1 hb with g | g
      · exact ⟨rfp_lo hr (hS b g), fun k => n3 b (Or.inl k) (hS b g)⟩
      · simp at g
        exact ⟨by omega, fun k => by have := hb3lt k; omega⟩
  · rw [if_pos (by simpa using he)]
    have hadd : addM M v t = (M, noDid (entryP v t).2) := by unfold addM; rw [if_neg he]
    rw [hadd] at hQ hb3
    refine rd4d (d := noDid (entryP v t).2) (K := fun _ => True) (V := fun u g => Q [u] g) b3 rfl fun g eg => hQ g [h1.size] ?_ ?_ ?_
    · obtain ⟨r5, ls5, R5, hr5, bq5, hl5, m1, m2, m3, hx5⟩ := hb3
      exact ⟨r5, ls5, R5, hr5.extF eg (fun b hb hm => m3 h1.size (Or.inr rfl) (by simp at hm; rw [← hm]; exact hb)), eg.get bq5 (fun hm => m2 (Or.inr (by simpa using hm))), hl5, m1, fun g => m2 (Or.inl g), fun b g => m3 b (Or.inl g), hx5.growS eg (fun b hb _ => Or.inr (Or.inr (Or.inr (by simpa using hb)))) fun b hb => ⟨Or.inl (hb.imp id (Or.imp id Or.inl)), by
        have hz := eg.sz
        have := hx5.lt (hb.imp id (Or.imp id Or.inl))
        omega⟩⟩
    · exact (e03.mono (by simp)).trans eg (fun b hb _ => hb)
    · intro b hb'
      simp at hb'
      exact ⟨by omega, fun k => by have := hb.lt k; omega⟩
theorem dropRB {v : V4} {t : Int} (hb : Bo lo sv h x q M (dropM M v t).1) (ok : OkM M n) (hn : n < 2 ^ 15) (hv : VOk v) (ht : -9223372036854775808 ≤ t ∧ t < 9223372036854775808)
    (hQ : ∀ h' S, Bo lo sv h' x q (dropM M v t).1 (dropM M v t).1 → Ext S h h' → (∀ b ∈ S, lo ≤ b ∧ ¬ sv b) → Q [aggD (dropM M v t).2] h') : S_liveryref11_Index_Drop (some ⟨q, 0, none⟩) v.k v.n v.f v.s t h Q := by
  refine O_liveryref11_Index_Drop _ _ _ _ _ _ ?_
  unfold F_liveryref11_Index_Drop
  refine newI fun h1 s1 b1' e1 => newI fun h2 s2 b2 e2 => ?_
  have b1 : Blk h2 h.size (cells4 v) T_api_Value := e2.get b1' (by simp)
  refine rdV b1 ?_
  have e02 := e1.trans0 e2
  refine EntryR_s v hv t ht fun h3 e3 => ⟨_, _, rfl, ?_⟩
  have e03 := e02.trans0 e3
  have b3 := e3.get b2 (by simp)
  have hlo := hb.le
  have hz3 := e3.sz
  have hb3 : Bo lo (fun b => sv b ∨ b = h1.size) h3 x q M (dropM M v t).1 := hb.grow e03 fun b g => by
    rcases g with g | g
    · exact ⟨Or.inl g, by have := hb.lt g; omega⟩
    · exact ⟨Or.inr (by omega), by omega⟩
  by_cases he : (entryP v t).2 = 0
  · rw [if_neg (by simp [he])]
    have hdr : dropM M v t = M.rem (entryP v t).1 := by unfold dropM; rw [if_pos he]
    rw [hdr] at hQ hb3
    have hb3lt : ∀ {b}, sv b → b < h.size := fun k => hb.lt k
    obtain ⟨r, ls, R, hr, bq, hl, n1, n2, n3, hx⟩ := hb3
    rw [nilW_some]
    refine ⟨some ⟨r, 0, none⟩, by simp [rd_blk bq], ?_⟩
    refine RemoveR_s hr ok hn (by omega) _ fun h4 ls' R' S hr' he4 hS hF => ⟨_, _, _, _, rfl, ?_⟩
    have hb4 := caught hr bq hl n1 n2 n3 hx hr' he4 hS hF
    have b4 := he4.get b3 (fun hm => n3 _ (Or.inr rfl) (hS _ hm))
    refine rd4d (K := fun _ => True) (V := fun u g => Q [u] g) b4 rfl fun g eg => hQ g (S ++ [h1.size]) ?_ ?_ ?_
    · obtain ⟨r5, ls5, R5, hr5, bq5, hl5, m1, m2, m3, hx5⟩ := hb4
      exact ⟨r5, ls5, R5, hr5.extF eg (fun b hb hm => m3 h1.size (Or.inr rfl) (by simp at hm; rw [← hm]; exact hb)), eg.get bq5 (fun hm => m2 (Or.inr (by simpa using hm))), hl5, m1, fun g => m2 (Or.inl g), fun b g => m3 b (Or.inl g), hx5.growS eg (fun b hb _ => Or.inr (Or.inr (Or.inr (by simpa using hb)))) fun b hb => ⟨Or.inl (hb.imp id (Or.imp id Or.inl)), by
        have hz := eg.sz
        have := hx5.lt (hb.imp id (Or.imp id Or.inl))
        omega⟩⟩
    · exact (e03.mono (by simp)).trans ((he4.mono (fun b hb _ => List.mem_append_left _ hb)).trans eg (fun b hb _ => by simp at hb; simp [hb])) (fun b hb _ => hb)
    · intro b hb
      rcases List.mem_append.1 hb with g | g
      · exact ⟨rfp_lo hr (hS b g), fun k => n3 b (Or.inl k) (hS b g)⟩
      · simp at g
        exact ⟨by omega, fun k => by have := hb3lt k; omega⟩
  · rw [if_pos (by simpa using he)]
    have hdr : dropM M v t = (M, noDid (entryP v t).2) := by unfold dropM; rw [if_neg he]
    rw [hdr] at hQ hb3
    refine rd4d (d := noDid (entryP v t).2) (K := fun _ => True) (V := fun u g => Q [u] g) b3 rfl fun g eg => hQ g [h1.size] ?_ ?_ ?_
    · obtain ⟨r5, ls5, R5, hr5, bq5, hl5, m1, m2, m3, hx5⟩ := hb3
      exact ⟨r5, ls5, R5, hr5.extF eg (fun b hb hm => m3 h1.size (Or.inr rfl) (by simp at hm; rw [← hm]; exact hb)), eg.get bq5 (fun hm => m2 (Or.inr (by simpa using hm))), hl5, m1, fun g => m2 (Or.inl g), fun b g => m3 b (Or.inl g), hx5.growS eg (fun b hb _ => Or.inr (Or.inr (Or.inr (by simpa using hb)))) fun b hb => ⟨Or.inl (hb.imp id (Or.imp id Or.inl)), by
        have hz := eg.sz
        have := hx5.lt (hb.imp id (Or.imp id Or.inl))
        omega⟩⟩
    · exact (e03.mono (by simp)).trans eg (fun b hb _ => hb)
    · intro b hb'
      simp at hb'
      exact ⟨by omega, fun k => by have := hb.lt k; omega⟩
end
end Go.Lift

/- SireadNone. -/
import Derived.Test.YtifmibpjpnpcpaaW13p
set_option linter.unusedSimpArgs false
set_option linter.unusedVariables false
namespace Go.Lift
open Go Go.Proofs Go.RowKit Go.Shelf
set_option maxRecDepth 100000
section
variable {h : Hp} {Q : List Value → Hp → Prop}
theorem reads_one {α : Type} {enc : α → List Value} {sz b : Nat} {x : α} {T : TypeId} (hb : Blk h b (enc x).toArray T) (hz : (enc x).length = sz) : Reads sz enc h ⟨some ⟨b, 0, none⟩, 1, 1⟩ [x] := by
  refine ⟨rfl, fun e => (by cases e), ?_⟩
  have := cellsAt_blk hb (o := 0) (n := 1 * sz) (by simp [hz])
  rw [List.drop_zero, List.take_of_length_le (by simp [hz])] at this
  simpa using this
theorem SireadNone_s (x : StepS) (hQ : ∀ h', Ext [] h h' → Q [.bool true] h') :
    F_liverylaw13_SireadNone x.op x.xid x.csn x.a.kind x.a.name x.a.rel x.a.index x.a.n x.b.kind x.b.name x.b.rel x.b.index x.b.n h Q := by
  unfold F_liverylaw13_SireadNone
  refine newI fun h1 s1 b1 e1 => ?_
  have hb : Blk h1 h.size (encStep x).toArray T_liverylaw13_Step := b1
  refine rd13 (fun k _ => rdSt hb k) ?_
  refine newI fun h2 s2 b2 e2 => ?_
  have hb2 : Blk h2 h1.size (encStep x).toArray T_liverylaw13_Step := b2
  have e12 := e1.trans0 e2
  refine Fair_s (reads_one hb2 rfl) (by simp) fun bf _ => ⟨_, rfl, ?_⟩
  cases bf with
  | false =>
    rw [if_pos (by decide)]
    exact wakes_s fun h3 e3 => ⟨_, rfl, hQ h3 (e12.trans0 e3)⟩
  | true =>
    rw [if_neg (by decide)]
    have hb3 := e2.get hb (by simp)
    refine ⟨_, rdSt hb3 0, ?_⟩
    refine Mod5_s _ fun v hv1 hv2 => ⟨_, rfl, ?_⟩
    rw [addr_mk]
    refine st_blk hb3 (by simp [encStep]) fun h4 s4 b4 e4 => ?_
    rw [wrap64 (by omega) (by omega)] at b4
    obtain ⟨y, hy⟩ : ∃ y : StepS, y = ⟨1 + v, x.xid, x.csn, x.a, x.b⟩ := ⟨_, rfl⟩
    have hb4 : Blk h4 h.size (encStep y).toArray T_liverylaw13_Step := by rw [hy]; exact b4
    have e14 : Ext [] h h4 := e12.trans e4 fun b hb hlt => by simp at hb; omega
    refine rd13 (fun k _ => rdSt hb4 k) ?_
    refine doN_s y fun h5 e5 => ⟨rfl, ?_⟩
    have hb5 := e5.get hb4 (by simp)
    refine ⟨_, rdSt hb5 1, ?_⟩
    refine rdA hb5 ?_
    refine TakeN_s y.a fun h6 e6 => ⟨_, rfl, ?_⟩
    rw [if_pos (by decide)]
    have hb6 := e6.get hb5 (by simp)
    refine ⟨_, rdSt hb6 1, ?_⟩
    refine rdA hb6 ?_
    refine HasN_s y.a fun h7 e7 => ⟨_, rfl, ?_⟩
    rw [if_pos (by decide)]
    have hb7 := e7.get hb6 (by simp)
    refine rdA hb7 ?_
    refine OwnersN_s y.a fun h8 e8 => ⟨⟨none, 0, 0⟩, rfl, ?_⟩
    rw [if_pos (by decide)]
    refine OldN_s ⟨_, rfl, ?_⟩
    rw [if_pos (by decide)]
    have hb8 := e8.get hb7 (by simp)
    refine ⟨_, rdSt hb8 1, ?_⟩
    refine OfN_s ⟨⟨none, 0, 0⟩, rfl, ?_⟩
    rw [if_pos (by decide)]
    refine FineN_s ⟨_, rfl, ?_⟩
    rw [if_pos (by decide)]
    refine wakes_s fun h9 e9 => ⟨_, rfl, hQ h9 ?_⟩
    exact ((((e14.trans0 e5).trans0 e6).trans0 e7).trans0 e8).trans0 e9
end
end Go.Lift

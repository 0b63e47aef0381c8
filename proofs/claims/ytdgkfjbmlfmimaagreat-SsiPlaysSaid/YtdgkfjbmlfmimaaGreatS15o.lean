/- SsiLate, SsiSkew: what they come to. -/
import Derived.Test.YtdgkfjbmlfmimaaGreatS15i
set_option linter.unusedSimpArgs false
set_option linter.unusedVariables false
namespace Go.Lift.E14
open Go Go.Proofs Go.RowKit
set_option maxRecDepth 100000
/-! SsiLate -/
/-! SsiSkew -/
abbrev kL (n : Nat) : LM := ⟨List.replicate n ⟨1, 0, 0, false⟩, 0⟩
end Go.Lift.E14
namespace Go.Lift.E14
open Go Go.Proofs Go.RowKit
set_option maxRecDepth 100000
section
variable {kk : Prop} {w : Nat → Nat} {G G' : Nat → Prop} {h h' : Hp} {s cb t e me mo ms dm sm : Nat} {C : CC} {kp : Sl} {M : SsiM} {Q : List Value → Hp → Prop}
end
end Go.Lift.E14
namespace Go.Lift.E14
open Go Go.Proofs Go.RowKit
set_option maxRecDepth 100000
section
variable {h : Hp} {s : Sl} {xs : List StepZ} {i : Nat}
theorem atZ (hs : Reads 9 encZ h s xs) (hi : i < xs.length) {K : Int → Int → Int → Bool → Int → ByteArray → Int → ByteArray → Int → Prop}
  (H : K xs[i].kind xs[i].xid xs[i].other xs[i].reads xs[i].x.kind xs[i].x.name xs[i].x.rel xs[i].x.index xs[i].x.n) :
  nilW s.a fun a => ixOk (i : Int) s.n (∃ n24 : Int, rd h (Addr.add (Addr.add a (Int.toNat (i : Int) * 9)) 0) = some (Value.int .i64 n24) ∧ ∃ n25 : Int, rd h (Addr.add (Addr.add a (Int.toNat (i : Int) * 9)) 1) = some (Value.int .i64 n25) ∧ ∃ n26 : Int, rd h (Addr.add (Addr.add a (Int.toNat (i : Int) * 9)) 2) = some (Value.int .i64 n26) ∧ ∃ b27 : Bool, rd h (Addr.add (Addr.add a (Int.toNat (i : Int) * 9)) 3) = some (Value.bool b27) ∧ ∃ n28 : Int, rd h (Addr.add (Addr.add a (Int.toNat (i : Int) * 9)) 4) = some (Value.int .i64 n28) ∧ ∃ s29 : ByteArray, rd h (Addr.add (Addr.add a (Int.toNat (i : Int) * 9)) 5) = some (Value.string s29) ∧ ∃ n30 : Int, rd h (Addr.add (Addr.add a (Int.toNat (i : Int) * 9)) 6) = some (Value.int .i64 n30) ∧ ∃ s31 : ByteArray, rd h (Addr.add (Addr.add a (Int.toNat (i : Int) * 9)) 7) = some (Value.string s31) ∧ ∃ n32 : Int, rd h (Addr.add (Addr.add a (Int.toNat (i : Int) * 9)) 8) = some (Value.int .i64 n32) ∧ K n24 n25 n26 b27 n28 s29 n30 s31 n32) := by
 have hn := hs.1
 obtain ⟨a, h1, h2⟩ := rdSz hs hi
 rw [h1, nilW_some, Int.toNat_natCast]
 exact ⟨by omega, by omega, _, h2 0 (by decide), _, h2 1 (by decide), _, h2 2 (by decide), _, h2 3 (by decide), _, h2 4 (by decide), _, h2 5 (by decide), _, h2 6 (by decide), _, h2 7 (by decide), _, h2 8 (by decide), H⟩
theorem keepZ {st : StepZ} {T : TypeId} {K : Hp → Prop} (H : ∀ g, Ext [] h g → Blk g h.size (encZ st).toArray T → K g) :
  wth (Array.push h (Obj.cells #[(Value.int .i64 (0 : Int)), (Value.int .i64 (0 : Int)), (Value.int .i64 (0 : Int)), (Value.bool false), (Value.int .i64 (0 : Int)), (Value.string (ByteArray.mk #[])), (Value.int .i64 (0 : Int)), (Value.string (ByteArray.mk #[])), (Value.int .i64 (0 : Int))] T)) fun h1 =>
  stOk h1 (Addr.mk (Array.size h) 0 none) 9 ∧ wth (wrs h1 (Addr.mk (Array.size h) 0 none) 0 [(Value.int .i64 st.kind), (Value.int .i64 st.xid), (Value.int .i64 st.other), (Value.bool st.reads), (Value.int .i64 st.x.kind), (Value.string st.x.name), (Value.int .i64 st.x.rel), (Value.string st.x.index), (Value.int .i64 st.x.n)]) K :=
 newI fun h1 s1 b1 e1 => st_blk b1 (by simp) fun g sg bg eg => H g (e1.trans eg fun b hb hlt => by simp at hb; omega) (by
  have : putAt #[(Value.int .i64 (0 : Int)), (Value.int .i64 (0 : Int)), (Value.int .i64 (0 : Int)), (Value.bool false), (Value.int .i64 (0 : Int)), (Value.string (ByteArray.mk #[])), (Value.int .i64 (0 : Int)), (Value.string (ByteArray.mk #[])), (Value.int .i64 (0 : Int))] 0 (encZ st) = (encZ st).toArray := by
   simp [putAt, encZ]
  rw [← this]
  exact bg)
variable {b : Nat} {st : StepZ} {T : TypeId}
theorem rdZb (hb : Blk h b (encZ st).toArray T) (k : Nat) : rd h (Addr.add (Addr.mk b 0 none) k) = (encZ st)[k]? := by
 rw [addr_mk, rd_blk hb]
 simp
theorem rdZx (hb : Blk h b (encZ st).toArray T) {K : Int → ByteArray → Int → ByteArray → Int → Prop} (H : K st.x.kind st.x.name st.x.rel st.x.index st.x.n) :
  ∃ n23 : Int, rd h (Addr.add (Addr.add (Addr.mk b 0 none) 4) 0) = some (Value.int .i64 n23) ∧ ∃ s24 : ByteArray, rd h (Addr.add (Addr.add (Addr.mk b 0 none) 4) 1) = some (Value.string s24) ∧ ∃ n25 : Int, rd h (Addr.add (Addr.add (Addr.mk b 0 none) 4) 2) = some (Value.int .i64 n25) ∧ ∃ s26 : ByteArray, rd h (Addr.add (Addr.add (Addr.mk b 0 none) 4) 3) = some (Value.string s26) ∧ ∃ n27 : Int, rd h (Addr.add (Addr.add (Addr.mk b 0 none) 4) 4) = some (Value.int .i64 n27) ∧ K n23 s24 n25 s26 n27 :=
 ⟨_, by rw [addr_add_add]; exact rdZb hb 4, _, by rw [addr_add_add]; exact rdZb hb 5, _, by rw [addr_add_add]; exact rdZb hb 6, _, by rw [addr_add_add]; exact rdZb hb 7, _, by rw [addr_add_add]; exact rdZb hb 8, H⟩
end
/-! Nothing that was read. -/
section
variable {me : Int} {M : SsiM}
end
section
variable {h : Hp} {Q : List Value → Hp → Prop}
theorem kgx {g g' : Hp} (hk : KG (fun b => b < g.size) g g') : Ext [] g g' := ⟨hk.sz, fun b hb _ => hk.old b hb⟩
end
end Go.Lift.E14
namespace Go.Lift.E14
open Go Go.Proofs Go.RowKit
set_option maxRecDepth 100000
section
variable {n : Nat} {me : Int} {M : SsiM}
end
theorem len_commit (L : LM) (x : Int) : (commitL L x).l.length = L.l.length := by
 unfold commitL
 split
 ·simp [setL]
 ·rfl
theorem len_abort (L : LM) (x : Int) : (abortL L x).l.length = L.l.length := by
 unfold abortL
 split
 ·simp [setL]
 ·rfl
section
variable {h : Hp} {Q : List Value → Hp → Prop}
end
end Go.Lift.E14
namespace Go.Lift.E14
open Go
set_option maxRecDepth 100000
theorem cnt_mem {x : Int} : ∀ (ys : List Int) (l : List (Int × Int)), (∀ y, 0 ≤ cnt l y) → x ∈ ys → 0 < cnt (ys.foldl bump l) x := by
 intro ys
 induction ys with
 | nil => intro l _ h; cases h
 | cons y ys ih =>
  intro l h0 hx
  rw [List.foldl_cons]
  have hb : ∀ z, 0 ≤ cnt (bump l y) z := fun z => by
   rw [cnt_bump]
   have := h0 z
   split <;> omega
  rcases List.mem_cons.1 hx with rfl | hx
  ·have h1 := (cnt_bumps ys (bump l x) x).1
   have h2 := cnt_bump l x x
   rw [if_pos rfl] at h2
   have := h0 x
   omega
  ·exact ih _ hb hx
section
variable {n : Nat} {M : SsiM}
theorem look_fld (M : SsiM) (p : Int) : (lookM M p).L = M.L ∧ (lookM M p).E = M.E ∧ ∀ x, cnt M.doomed x ≤ cnt (lookM M p).doomed x := by
 unfold lookM
 split
 ·exact ⟨rfl, rfl, fun x => (cnt_bumps _ _ x).1⟩
 ·exact ⟨rfl, rfl, fun x => Int.le_refl _⟩
theorem behind_fld (M : SsiM) (a b : Int) : (behindM M a b).L = M.L := by
 unfold behindM
 split
 ·exact (look_fld _ _).1.trans (look_fld _ _).1
 ·rfl
theorem oldIn_m (L : LM) (E : EM) (b c : Int) : (oldInE L E b c).m = E.m := by
 unfold oldInE
 split <;> rfl
end
end Go.Lift.E14
namespace Go.Lift.E14
open Go Go.Proofs Go.RowKit
set_option maxRecDepth 100000
section
variable {h h' : Hp} {b : Nat} {F : Nat → Nat → Bool}
end
section
variable {h : Hp} {Q : List Value → Hp → Prop}
end
end Go.Lift.E14

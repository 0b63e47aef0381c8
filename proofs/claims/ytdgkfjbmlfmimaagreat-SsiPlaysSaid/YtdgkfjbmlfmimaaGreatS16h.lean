/- The reference's table of what was read: in memory, its model; small functions, Has, Fine. -/
import Derived.Test.YtdgkfjbmlfmimaaGreatW14t
set_option linter.unusedSimpArgs false
set_option linter.unusedVariables false
namespace Go.Lift.E14
open Go Go.Proofs Go.RowKit
set_option maxRecDepth 100000
abbrev OT := Int × ThingM
abbrev encO (y : OT) : List Value := [.int .i64 y.1, .int .i64 y.2.kind, .string y.2.name, .int .i64 y.2.rel, .string y.2.index, .int .i64 y.2.n]
theorem encO_len (y : OT) : (encO y).length = 6 := rfl
theorem encO_one (y : OT) : ∀ v ∈ encO y, oneCell v = true := by
 intro v hv
 simp only [encO, List.mem_cons, List.not_mem_nil, or_false] at hv
 rcases hv with rfl | rfl | rfl | rfl | rfl | rfl <;> rfl
theorem zc_own : (zc PP T_liveryref13_Own).size = 6 := by kernel_rfl
theorem zc_thg : (zc PP T_liveryref13_Thing).size = 5 := by kernel_rfl
structure QT where
 l : List OT
 each : Int
 all : Int
 csn : Int
structure TAt (lo : Nat) (h : Hp) (t : Nat) (T : QT) (s : Sl) : Prop where
 blk : Blk h t #[.slice s.a s.n s.c, .int .i64 T.each, .int .i64 T.all, .int .i64 T.csn] T_liveryref13_Table
 own : Own T_liveryref13_Own 6 encO lo h s T.l
section
variable {lo : Nat} {h h' : Hp} {t : Nat} {T : QT} {s : Sl} {Q : List Value → Hp → Prop}
theorem TAt.ext {S : List Nat} (hT : TAt lo h t T s) (he : Ext S h h') (h1 : t ∉ S) (h2 : ∀ c ∈ sBlk s, c ∉ S) : TAt lo h' t T s :=
 ⟨he.get hT.blk h1, hT.own.ext he fun a ha hm => h2 _ (mem_sBlk.2 ⟨a, ha, rfl⟩) hm⟩
theorem TAt.ext0 (hT : TAt lo h t T s) (he : Ext [] h h') : TAt lo h' t T s := hT.ext he (by simp) (by simp)
theorem TAt.nb (hT : TAt lo h t T s) : t ∉ sBlk s := fun hm => hT.own.other (T' := T_liveryref13_Table) (by decide) t hm _ _ hT.blk
theorem TAt.rd (hT : TAt lo h t T s) : Go.Lift.rd h (Addr.add ⟨t, 0, none⟩ 0) = some (.slice s.a s.n s.c) ∧ Go.Lift.rd h (Addr.add ⟨t, 0, none⟩ 1) = some (.int .i64 T.each) ∧ Go.Lift.rd h (Addr.add ⟨t, 0, none⟩ 2) = some (.int .i64 T.all) ∧ Go.Lift.rd h (Addr.add ⟨t, 0, none⟩ 3) = some (.int .i64 T.csn) := by
 refine ⟨?_, ?_, ?_, ?_⟩ <;> (rw [addr_mk, rd_blk hT.blk]; rfl)
theorem rdO {xs : List OT} (hs : Own T_liveryref13_Own 6 encO lo h s xs) {i : Nat} (hi : i < xs.length) : ∃ a, s.a = some a ∧ (∀ k, k < 6 → Go.Lift.rd h (Addr.add (Addr.add a (i * 6)) k) = (encO xs[i])[k]?) ∧ (∀ k, k < 5 → Go.Lift.rd h (Addr.add (Addr.add (Addr.add a (i * 6)) 1) k) = (encT xs[i].2)[k]?) := by
 obtain ⟨a, h1, h2⟩ := hs.sl.reads.rd encO_len hi
 refine ⟨a, h1, fun k hk => by rw [addr_add_add]; exact h2 k hk, fun k hk => ?_⟩
 rw [addr_add_add, addr_add_add, h2 (1 + k) (by omega), Nat.add_comm 1 k]
 rfl
theorem atX (hT : TAt lo h t T s) {i : Nat} (hi : i < T.l.length) {K : Int → ByteArray → Int → ByteArray → Int → Prop} (H : K T.l[i].2.kind T.l[i].2.name T.l[i].2.rel T.l[i].2.index T.l[i].2.n) :
  nilW (some ⟨t, 0, none⟩) fun a => ∃ l : Sl, Go.Lift.rd h (Addr.add a 0) = some (Value.slice l.a l.n l.c) ∧ nilW l.a fun b => ixOk (i : Int) l.n (∃ n17 : Int, Go.Lift.rd h (Addr.add (Addr.add (Addr.add b (Int.toNat (i : Int) * 6)) 1) 0) = some (Value.int .i64 n17) ∧ ∃ s18 : ByteArray, Go.Lift.rd h (Addr.add (Addr.add (Addr.add b (Int.toNat (i : Int) * 6)) 1) 1) = some (Value.string s18) ∧ ∃ n19 : Int, Go.Lift.rd h (Addr.add (Addr.add (Addr.add b (Int.toNat (i : Int) * 6)) 1) 2) = some (Value.int .i64 n19) ∧ ∃ s20 : ByteArray, Go.Lift.rd h (Addr.add (Addr.add (Addr.add b (Int.toNat (i : Int) * 6)) 1) 3) = some (Value.string s20) ∧ ∃ n21 : Int, Go.Lift.rd h (Addr.add (Addr.add (Addr.add b (Int.toNat (i : Int) * 6)) 1) 4) = some (Value.int .i64 n21) ∧ K n17 s18 n19 s20 n21) := by
 have hn := hT.own.1
 obtain ⟨a, h1, _, h2⟩ := rdO hT.own hi
 rw [nilW_some]
 refine ⟨s, hT.rd.1, ?_⟩
 rw [h1, nilW_some, Int.toNat_natCast]
 exact ⟨by omega, by omega, _, h2 0 (by decide), _, h2 1 (by decide), _, h2 2 (by decide), _, h2 3 (by decide), _, h2 4 (by decide), H⟩
theorem atO (hT : TAt lo h t T s) {i : Nat} (hi : i < T.l.length) {K : Int → Prop} (H : K T.l[i].1) :
  nilW (some ⟨t, 0, none⟩) fun a => ∃ l : Sl, Go.Lift.rd h (Addr.add a 0) = some (Value.slice l.a l.n l.c) ∧ nilW l.a fun b => ixOk (i : Int) l.n (∃ n17 : Int, Go.Lift.rd h (Addr.add (Addr.add b (Int.toNat (i : Int) * 6)) 0) = some (Value.int .i64 n17) ∧ K n17) := by
 have hn := hT.own.1
 obtain ⟨a, h1, h2, _⟩ := rdO hT.own hi
 rw [nilW_some]
 refine ⟨s, hT.rd.1, ?_⟩
 rw [h1, nilW_some, Int.toNat_natCast]
 exact ⟨by omega, by omega, _, h2 0 (by decide), H⟩
theorem atR (hT : TAt lo h t T s) {i : Nat} (hi : i < T.l.length) {K : Int → Prop} (H : K T.l[i].2.rel) :
  nilW (some ⟨t, 0, none⟩) fun a => ∃ l : Sl, Go.Lift.rd h (Addr.add a 0) = some (Value.slice l.a l.n l.c) ∧ nilW l.a fun b => ixOk (i : Int) l.n (∃ n17 : Int, Go.Lift.rd h (Addr.add (Addr.add (Addr.add b (Int.toNat (i : Int) * 6)) 1) 2) = some (Value.int .i64 n17) ∧ K n17) := by
 have hn := hT.own.1
 obtain ⟨a, h1, _, h2⟩ := rdO hT.own hi
 rw [nilW_some]
 refine ⟨s, hT.rd.1, ?_⟩
 rw [h1, nilW_some, Int.toNat_natCast]
 exact ⟨by omega, by omega, _, h2 2 (by decide), H⟩
theorem atA (hT : TAt lo h t T s) {i : Nat} (hi : i < T.l.length) {K : Int → Int → ByteArray → Int → ByteArray → Int → Prop} (H : K T.l[i].1 T.l[i].2.kind T.l[i].2.name T.l[i].2.rel T.l[i].2.index T.l[i].2.n) :
  nilW (some ⟨t, 0, none⟩) fun a => ∃ l : Sl, Go.Lift.rd h (Addr.add a 0) = some (Value.slice l.a l.n l.c) ∧ nilW l.a fun b => ixOk (i : Int) l.n (∃ n16 : Int, Go.Lift.rd h (Addr.add (Addr.add b (Int.toNat (i : Int) * 6)) 0) = some (Value.int .i64 n16) ∧ ∃ n17 : Int, Go.Lift.rd h (Addr.add (Addr.add b (Int.toNat (i : Int) * 6)) 1) = some (Value.int .i64 n17) ∧ ∃ s18 : ByteArray, Go.Lift.rd h (Addr.add (Addr.add b (Int.toNat (i : Int) * 6)) 2) = some (Value.string s18) ∧ ∃ n19 : Int, Go.Lift.rd h (Addr.add (Addr.add b (Int.toNat (i : Int) * 6)) 3) = some (Value.int .i64 n19) ∧ ∃ s20 : ByteArray, Go.Lift.rd h (Addr.add (Addr.add b (Int.toNat (i : Int) * 6)) 4) = some (Value.string s20) ∧ ∃ n21 : Int, Go.Lift.rd h (Addr.add (Addr.add b (Int.toNat (i : Int) * 6)) 5) = some (Value.int .i64 n21) ∧ K n16 n17 s18 n19 s20 n21) := by
 have hn := hT.own.1
 obtain ⟨a, h1, h2, _⟩ := rdO hT.own hi
 rw [nilW_some]
 refine ⟨s, hT.rd.1, ?_⟩
 rw [h1, nilW_some, Int.toNat_natCast]
 exact ⟨by omega, by omega, _, h2 0 (by decide), _, h2 1 (by decide), _, h2 2 (by decide), _, h2 3 (by decide), _, h2 4 (by decide), _, h2 5 (by decide), H⟩
theorem thgR {v : Nat} {x : ThingM} {T : TypeId} (hb : Blk h v (encT x).toArray T) (k : Nat) : Go.Lift.rd h (Addr.add (Addr.mk v 0 none) k) = (encT x)[k]? := by
 rw [addr_mk, rd_blk hb]
 simp
def kindB (x : ThingM) : Bool := decide (x.kind ≥ 1) && decide (x.kind ≤ 4)
theorem kindR_s (x : ThingM) (hQ : ∀ h', Ext [] h h' → Q [.bool (kindB x)] h') : S_liveryref13_kind x.kind x.name x.rel x.index x.n h Q := by
 refine O_liveryref13_kind _ _ _ _ _ ?_
 unfold F_liveryref13_kind
 refine newI fun h1 s1 b1' e1 => ?_
 have b1 : Blk h1 h.size (encT x).toArray T_liveryref13_Thing := b1'
 refine ⟨_, thgR b1 0, ?_⟩
 have := hQ h1 e1
 unfold kindB at this
 by_cases g : x.kind ≥ 1
 ·rw [if_pos (by simpa using g)]
  refine ⟨_, thgR b1 0, ?_⟩
  rw [decide_eq_true g, Bool.true_and] at this
  exact this
 ·rw [if_neg (by simpa using g)]
  rw [decide_eq_false g, Bool.false_and] at this
  exact this
theorem fineR_s (x : ThingM) (hQ : ∀ h', Ext [] h h' → Q [.bool (fineT x)] h') : S_liveryref13_fine x.kind x.name x.rel x.index x.n h Q := by
 refine O_liveryref13_fine _ _ _ _ _ ?_
 unfold F_liveryref13_fine
 refine newI fun h1 s1 b1' e1 => ?_
 have b1 : Blk h1 h.size (encT x).toArray T_liveryref13_Thing := b1'
 refine ⟨_, thgR b1 0, ?_⟩
 have := hQ h1 e1
 unfold fineT at this
 by_cases g : x.kind = 3
 ·rw [if_pos (by simpa using g)]
  rw [decide_eq_true g, Bool.true_or] at this
  exact this
 ·rw [if_neg (by simpa using g)]
  refine ⟨_, thgR b1 0, ?_⟩
  rw [decide_eq_false g, Bool.false_or] at this
  rw [show (x.kind == 4) = decide (x.kind = 4) by rw [Bool.eq_iff_iff]; simp]
  exact this
theorem relR_s (x : ThingM) (hQ : ∀ h', Ext [] h h' → Q [ekT (relT x)] h') : S_liveryref13_rel x.kind x.name x.rel x.index x.n h Q := by
 refine O_liveryref13_rel _ _ _ _ _ ?_
 unfold F_liveryref13_rel
 refine newI fun h1 s1 b1' e1 => newI fun h2 s2 b2 e2 => ?_
 have b1 : Blk h2 h.size (encT x).toArray T_liveryref13_Thing := e2.get b1' (by simp)
 refine ⟨_, thgR b1 2, ?_⟩
 refine st_blk b2 (by simp) fun h3 s3 b3 e3 => ?_
 have b3' : Blk h3 h1.size (encT (relT x)).toArray T_liveryref13_Thing := b3
 refine rd5I b3' ?_
 exact hQ h3 ((e1.trans0 e2).trans e3 fun b hb hlt => by simp at hb; omega)
/-- How many fine things there are. -/
def fineQ (l : List OT) : Nat := (l.filter fun y => fineT y.2).length
theorem filter_snoc {α : Type} (f : α → Bool) (l : List α) {i : Nat} (hi : i < l.length) : ((l.take (i + 1)).filter f).length = ((l.take i).filter f).length + if f l[i] = true then 1 else 0 := by
 rw [List.take_add_one, List.getElem?_eq_getElem hi, Option.toList_some, List.filter_append, List.length_append]
 congr 1
 by_cases h : f l[i] = true
 ·rw [if_pos h]; simp [h]
 ·rw [if_neg h]; simp [h]
theorem FineR_s (hT : TAt lo h t T s) (hl : T.l.length ≤ 2 ^ 28) (hQ : ∀ h', Ext [] h h' → Q [.int .i64 (fineQ T.l : Nat)] h') : S_liveryref13_Table_Fine (some ⟨t, 0, none⟩) h Q := by
 refine O_liveryref13_Table_Fine _ ?_
 unfold F_liveryref13_Table_Fine
 intro X hX
 refine loopI2 (A := Int) (va := fun n => .int .i64 n) T.l.length (fun i a g => Ext [] h g ∧ a = (((T.l.take i).filter fun y => fineT y.2).length : Nat)) ?_ ?_ 0 h ⟨Ext.refl _ _, by simp⟩
 ·rintro a g ⟨eg, rfl⟩
  have hT' := hT.ext0 eg
  refine hX _ _ _ ?_
  rw [nilW_some]
  refine ⟨s, hT'.rd.1, ?_⟩
  have hn := hT.own.1
  rw [if_neg (by simp; omega)]
  rw [List.take_of_length_le (Nat.le_refl _)]
  exact hQ g eg
 ·rintro i a g hi ⟨eg, rfl⟩ hnext
  have hT' := hT.ext0 eg
  refine hX _ _ _ ?_
  rw [nilW_some]
  refine ⟨s, hT'.rd.1, ?_⟩
  have hn := hT.own.1
  rw [if_pos (by simp; omega)]
  intro J hJ
  refine atX hT' hi ?_
  have hle : ((T.l.take i).filter fun y => fineT y.2).length ≤ i := filter_take_len _ _ _
  have hsn := filter_snoc (fun y : OT => fineT y.2) T.l hi
  have go : ∀ g2 (a : Int), Ext [] g g2 → a = (((T.l.take (i + 1)).filter fun y => fineT y.2).length : Nat) → J [.int .i64 a] g2 := by
   intro g2 a e2 ha
   refine hJ _ _ ?_
   rw [wrap64 (by omega) (by omega)]
   exact hnext a g2 ⟨eg.trans0 e2, ha⟩
  refine fineR_s T.l[i].2 fun g2 e2 => ⟨_, rfl, ?_⟩
  by_cases hf : fineT T.l[i].2 = true
  ·rw [if_pos hf]
   rw [if_pos hf] at hsn
   refine go g2 _ e2 ?_
   rw [wrap64 (by omega) (by omega)]
   omega
  ·rw [if_neg hf]
   rw [if_neg hf] at hsn
   exact go g2 _ e2 (by omega)
end
end Go.Lift.E14
namespace Go.Lift.E14
open Go Go.Proofs Go.RowKit
set_option maxRecDepth 100000
section
variable {lo : Nat} {h h' : Hp} {t : Nat} {T : QT} {s : Sl} {Q : List Value → Hp → Prop}
theorem snocT {h17 : Hp} {xb : Nat} {x : ThingM} {o : Int} (hT : TAt lo h17 t T s) (hxb : Blk h17 xb (encT x).toArray T_liveryref13_Thing) (hl : T.l.length ≤ 2 ^ 28) (hlo : lo ≤ h17.size) {K : Hp → Prop}
  (H : ∀ g l', TAt lo g t { T with l := T.l ++ [(o, x)] } l' → Ext [t] h17 g → (∀ c ∈ sBlk l', h17.size ≤ c) → K g) :
  (nilW (some ⟨t, 0, none⟩) fun a18 => ∃ l19 : Sl, rd h17 (Addr.add a18 0) = some (Value.slice l19.a l19.n l19.c) ∧
        ∃ n20 : Int, rd h17 (Addr.add (Addr.mk xb 0 none) 0) = some (Value.int .i64 n20) ∧ ∃ s21 : ByteArray, rd h17 (Addr.add (Addr.mk xb 0 none) 1) = some (Value.string s21) ∧ ∃ n22 : Int, rd h17 (Addr.add (Addr.mk xb 0 none) 2) = some (Value.int .i64 n22) ∧ ∃ s23 : ByteArray, rd h17 (Addr.add (Addr.mk xb 0 none) 3) = some (Value.string s23) ∧ ∃ n24 : Int, rd h17 (Addr.add (Addr.mk xb 0 none) 4) = some (Value.int .i64 n24) ∧ (wth (Array.push h17 (Obj.cells #[] T_liveryref13_Own)) fun h25 =>
         rd h25 (Addr.add (Addr.mk xb 0 none) 0) = some (Value.int .i64 n20) ∧ rd h25 (Addr.add (Addr.mk xb 0 none) 1) = some (Value.string s21) ∧ rd h25 (Addr.add (Addr.mk xb 0 none) 2) = some (Value.int .i64 n22) ∧ rd h25 (Addr.add (Addr.mk xb 0 none) 3) = some (Value.string s23) ∧ rd h25 (Addr.add (Addr.mk xb 0 none) 4) = some (Value.int .i64 n24) ∧ rd h25 (Addr.add a18 0) = some (Value.slice l19.a l19.n l19.c) ∧ (∃ cs34 : List Value, cellsAt h25 l19.a (l19.n * 6) cs34 ∧ appS PP T_liveryref13_Own 64 6 h25 ⟨(some (Addr.mk (Array.size h17) 0 none)), 0, 0⟩ l19.n cs34 fun (l26 : Sl) (h27 : Hp) =>
          rd h27 (Addr.add (Addr.mk xb 0 none) 0) = some (Value.int .i64 n20) ∧ rd h27 (Addr.add (Addr.mk xb 0 none) 1) = some (Value.string s21) ∧ rd h27 (Addr.add (Addr.mk xb 0 none) 2) = some (Value.int .i64 n22) ∧ rd h27 (Addr.add (Addr.mk xb 0 none) 3) = some (Value.string s23) ∧ rd h27 (Addr.add (Addr.mk xb 0 none) 4) = some (Value.int .i64 n24) ∧ wth (Array.push h27 (Obj.cells #[(Value.int .i64 o), (Value.int .i64 n20), (Value.string s21), (Value.int .i64 n22), (Value.string s23), (Value.int .i64 n24)] T_liveryref13_Own)) fun h28 =>
          ∃ cs33 : List Value, cellsAt h28 (some (Addr.mk (Array.size h27) 0 none)) (1 * 6) cs33 ∧ appS PP T_liveryref13_Own 64 6 h28 ⟨l26.a, l26.n, l26.c⟩ 1 cs33 fun (l29 : Sl) (h30 : Hp) =>
          nilW (some ⟨t, 0, none⟩) fun a31 => stOk h30 (Addr.add a31 0) 1 ∧ wth (wrs h30 (Addr.add a31 0) 0 [(Value.slice l29.a l29.n l29.c)]) fun h32 =>
          K h32) ∧
         (wth (Array.push h25 (Obj.cells #[(Value.int .i64 o), (Value.int .i64 n20), (Value.string s21), (Value.int .i64 n22), (Value.string s23), (Value.int .i64 n24)] T_liveryref13_Own)) fun h35 =>
          rd h35 (Addr.add a18 0) = some (Value.slice l19.a l19.n l19.c) ∧ ∃ cs43 : List Value, cellsAt h35 l19.a (l19.n * 6) cs43 ∧ appS PP T_liveryref13_Own 64 6 h35 ⟨(some (Addr.mk (Array.size h17) 0 none)), 0, 0⟩ l19.n cs43 fun (l36 : Sl) (h37 : Hp) =>
          ∃ cs42 : List Value, cellsAt h37 (some (Addr.mk (Array.size h25) 0 none)) (1 * 6) cs42 ∧ appS PP T_liveryref13_Own 64 6 h37 ⟨l36.a, l36.n, l36.c⟩ 1 cs42 fun (l38 : Sl) (h39 : Hp) =>
          nilW (some ⟨t, 0, none⟩) fun a40 => stOk h39 (Addr.add a40 0) 1 ∧ wth (wrs h39 (Addr.add a40 0) 0 [(Value.slice l38.a l38.n l38.c)]) fun h41 =>
          K h41)) ∧
        (wth (Array.push h17 (Obj.cells #[(Value.int .i64 o), (Value.int .i64 n20), (Value.string s21), (Value.int .i64 n22), (Value.string s23), (Value.int .i64 n24)] T_liveryref13_Own)) fun h44 =>
         rd h44 (Addr.add a18 0) = some (Value.slice l19.a l19.n l19.c) ∧ wth (Array.push h44 (Obj.cells #[] T_liveryref13_Own)) fun h45 =>
         rd h45 (Addr.add a18 0) = some (Value.slice l19.a l19.n l19.c) ∧ ∃ cs53 : List Value, cellsAt h45 l19.a (l19.n * 6) cs53 ∧ appS PP T_liveryref13_Own 64 6 h45 ⟨(some (Addr.mk (Array.size h44) 0 none)), 0, 0⟩ l19.n cs53 fun (l46 : Sl) (h47 : Hp) =>
         ∃ cs52 : List Value, cellsAt h47 (some (Addr.mk (Array.size h17) 0 none)) (1 * 6) cs52 ∧ appS PP T_liveryref13_Own 64 6 h47 ⟨l46.a, l46.n, l46.c⟩ 1 cs52 fun (l48 : Sl) (h49 : Hp) =>
         nilW (some ⟨t, 0, none⟩) fun a50 => stOk h49 (Addr.add a50 0) 1 ∧ wth (wrs h49 (Addr.add a50 0) 0 [(Value.slice l48.a l48.n l48.c)]) fun h51 =>
         K h51)) := by
 simp only [nilW_some]
 have r5 : ∀ {g : Hp}, Ext [] h17 g → ∀ k, rd g (Addr.add (Addr.mk xb 0 none) k) = (encT x)[k]? := fun eg k => thgR (eg.get hxb (by simp)) k
 have rT : ∀ {g : Hp}, Ext [] h17 g → rd g (Addr.add ⟨t, 0, none⟩ 0) = some (.slice s.a s.n s.c) := fun eg => (hT.ext0 eg).rd.1
 have hn := hT.own.1
 have hrd := hT.own.sl.reads
 obtain ⟨y, hy⟩ : ∃ y : OT, y = (o, x) := ⟨_, rfl⟩
 have htc : ∀ g : Hp, g.push (Obj.cells #[(Value.int .i64 o), (Value.int .i64 x.kind), (Value.string x.name), (Value.int .i64 x.rel), (Value.string x.index), (Value.int .i64 x.n)] T_liveryref13_Own) = g.push (Obj.cells (encO y).toArray T_liveryref13_Own) := fun g => by rw [hy]
 have fin : ∀ (l' : Sl) (g2 : Hp), Own T_liveryref13_Own 6 encO h17.size g2 l' (T.l ++ [y]) → Ext [] h17 g2 → stOk g2 (Addr.add ⟨t, 0, none⟩ 0) 1 ∧ wth (wrs g2 (Addr.add ⟨t, 0, none⟩ 0) 0 [.slice l'.a l'.n l'.c]) K := by
  intro l' g2 ho eg
  rw [addr_mk]
  have hb2 := eg.get hT.blk (by simp)
  refine st_blk hb2 (by simp) fun g3 s3 b3 e3 => ?_
  have hlt := blk_lt hT.blk
  have hnb : t ∉ sBlk l' := fun hm => by have := ho.blk t hm; omega
  rw [hy] at ho
  exact H g3 l' ⟨b3, (ho.ext e3 fun a ha hm => by simp at hm; exact hnb (mem_sBlk.2 ⟨a, ha, hm⟩)).mono hlo⟩ ((eg.mono (by simp)).trans e3 fun c hc _ => hc) fun c hc => ho.blk c hc
 refine ⟨s, hT.rd.1, x.kind, r5 (Ext.refl _ _) 0, x.name, r5 (Ext.refl _ _) 1, x.rel, r5 (Ext.refl _ _) 2, x.index, r5 (Ext.refl _ _) 3, x.n, r5 (Ext.refl _ _) 4, newI fun h1 s1 b1 e1 => ?_, newI fun h1 s1 b1 e1 => ?_⟩
 ·refine ⟨r5 e1 0, r5 e1 1, r5 e1 2, r5 e1 3, r5 e1 4, rT e1, ?_, ?_⟩
  ·refine clG encO_len encO_one zc_own (by decide) (hrd.ext0 e1).2.2 hn (by omega) b1 (lo' := h17.size) (Nat.le_refl _) fun l1 g2 o2 e2 hb2 => ?_
   have e12 : Ext [] h17 g2 := e1.trans e2 fun c hc hlt => by simp at hc; omega
   refine ⟨r5 e12 0, r5 e12 1, r5 e12 2, r5 e12 3, r5 e12 4, ?_⟩
   rw [htc]
   refine newI fun h3 s3 b3 e3 => ?_
   refine oneG encO_len encO_one zc_own (by decide) (k := y) (o2.ext0 e3) b3 (by omega) (by have := e12.sz; omega) fun s' g' ho' he' hb' => ?_
   have hsl := own_ltG (o2.ext0 e3)
   exact fin s' g' ho' ((e12.trans0 e3).trans he' fun c hc hlt => by have := (o2.ext0 e3).blk c hc; omega)
  ·rw [htc]
   refine newI fun h2 s2 b2 e2 => ?_
   have e12 := e1.trans0 e2
   refine ⟨rT e12, ?_⟩
   refine clOneG encO_len encO_one zc_own (by decide) (k := y) (hrd.ext0 e12) rfl (by omega) (e2.get b1 (by simp)) (lo' := h17.size) (Nat.le_refl _) b2 (by omega) fun s' g' ho' he' => ?_
   exact fin s' g' ho' (e12.trans he' fun c hc hlt => by simp at hc; omega)
 ·refine ⟨rT e1, newI fun h2 s2 b2 e2 => ?_⟩
  have e12 := e1.trans0 e2
  refine ⟨rT e12, ?_⟩
  have b1' : Blk h2 h17.size (encO y).toArray T_liveryref13_Own := by
   have := e2.get b1 (by simp)
   rw [hy]
   exact this
  refine clOneG encO_len encO_one zc_own (by decide) (k := y) (hrd.ext0 e12) rfl (by omega) b2 (lo' := h17.size) (by omega) b1' (by omega) fun s' g' ho' he' => ?_
  exact fin s' g' ho' (e12.trans he' fun c hc hlt => by simp at hc; omega)
theorem HasT_s (hT : TAt lo h t T s) (o : Int) (x : ThingM) (hl : T.l.length ≤ 2 ^ 28) (hQ : ∀ h', Ext [] h h' → Q [.bool (decide ((o, x) ∈ T.l))] h') : S_liveryref13_Table_Has (some ⟨t, 0, none⟩) o x.kind x.name x.rel x.index x.n h Q := by
 refine O_liveryref13_Table_Has _ _ _ _ _ _ _ ?_
 unfold F_liveryref13_Table_Has
 refine newI fun h1 s1 b1' e1 => ?_
 have b1 : Blk h1 h.size (encT x).toArray T_liveryref13_Thing := b1'
 intro X hX
 have hT1 := hT.ext0 e1
 have hn := hT.own.1
 have key : ∀ d i, d + i = T.l.length → (∀ j (hj : j < T.l.length), j < i → T.l[j] ≠ (o, x)) → X [.int .i64 (i : Int)] h1 := by
  intro d
  induction d with
  | zero =>
   intro i hi hno
   refine hX _ _ ?_
   rw [nilW_some]
   refine ⟨s, hT1.rd.1, ?_⟩
   rw [if_neg (by simp; omega)]
   have : ¬ (o, x) ∈ T.l := fun hm => by
    obtain ⟨j, hj, e⟩ := List.getElem_of_mem hm
    exact hno j hj (by omega) e
   have hq := hQ h1 e1
   rw [decide_eq_false this] at hq
   exact hq
  | succ d ih =>
   intro i hi hno
   have hil : i < T.l.length := by omega
   refine hX _ _ ?_
   rw [nilW_some]
   refine ⟨s, hT1.rd.1, ?_⟩
   rw [if_pos (by simp; omega)]
   intro J hJ
   have go : ∀ bb, bb = decide (T.l[i] = (o, x)) → J [.bool bb] h1 := by
    rintro bb rfl
    refine hJ _ _ ?_
    by_cases e : T.l[i] = (o, x)
    ·rw [if_pos (decide_eq_true e)]
     have hq := hQ h1 e1
     rw [decide_eq_true (show (o, x) ∈ T.l by rw [← e]; exact List.getElem_mem hil)] at hq
     exact hq
    ·rw [if_neg (by simpa using e), wrap64 (by omega) (by omega)]
     refine ih (i + 1) (by omega) fun j hj hlt => ?_
     rcases (by omega : j < i ∨ j = i) with k | k
     ·exact hno j hj k
     ·subst k; exact e
   refine atO hT1 hil ?_
   by_cases ho : T.l[i].1 = o
   ·rw [if_pos (by simpa using ho)]
    refine atX hT1 hil ?_
    refine ⟨_, thgR b1 0, _, thgR b1 1, _, thgR b1 2, _, thgR b1 3, _, thgR b1 4, ?_⟩
    rw [beqT]
    refine go _ (decide_eq_decide.2 ?_)
    constructor
    ·intro e; rw [← ho, ← e]
    ·intro e; rw [e]
   ·rw [if_neg (by simpa using ho)]
    refine go _ (Eq.symm (decide_eq_false fun e => ho ?_))
    rw [e]
 have := key T.l.length 0 (by omega) (fun j _ hj => by omega)
 simpa using this
end
end Go.Lift.E14
namespace Go.Lift.E14
open Go Go.Proofs Go.RowKit
set_option maxRecDepth 100000
def nRQ (l : List OT) (o r : Int) : Nat := (l.filter fun y => decide (y.1 = o) && (fineT y.2 && decide (y.2.rel = r))).length
def stayP (o r : Int) (y : OT) : Bool := decide (y.1 ≠ o) || !fineT y.2 || decide (y.2.rel ≠ r)
def backQ (T : QT) (o : Int) (x : ThingM) : Prop := kindB x = false ∨ (o, x) ∈ T.l ∨ (fineT x = true ∧ (o, relT x) ∈ T.l)
instance (T : QT) (o : Int) (x : ThingM) : Decidable (backQ T o x) := by unfold backQ; infer_instance
def putQ (T : QT) (o : Int) (x : ThingM) : QT := { T with l := (if x.kind = 2 then T.l.filter (stayP o x.rel) else T.l) ++ [(o, x)] }
def roomQ (T : QT) (o : Int) (x : ThingM) : Prop := (nRQ T.l o x.rel : Int) < T.each ∧ (fineQ T.l : Int) < T.all
instance (T : QT) (o : Int) (x : ThingM) : Decidable (roomQ T o x) := by unfold roomQ; infer_instance
def takeQ (T : QT) (o : Int) (x : ThingM) : QT :=
 if backQ T o x then T
 else if fineT x = true then (if roomQ T o x then { T with l := T.l ++ [(o, x)] } else putQ T o (relT x))
 else putQ T o x
section
variable {lo : Nat} {h h' : Hp} {t : Nat} {T : QT} {s : Sl} {Q : List Value → Hp → Prop}
theorem takeT_s (hT : TAt lo h t T s) (o : Int) (x : ThingM) (hl : T.l.length ≤ 2 ^ 27) (hlo : lo ≤ h.size) (hQ : ∀ h' s', TAt lo h' t (takeQ T o x) s' → Ext [t] h h' → (∀ c ∈ sBlk s', c ∈ sBlk s ∨ h.size ≤ c) → Q [] h') : S_liveryref13_Table_take (some ⟨t, 0, none⟩) o x.kind x.name x.rel x.index x.n h Q := by
 refine O_liveryref13_Table_take _ _ _ _ _ _ _ ?_
 unfold F_liveryref13_Table_take
 refine newI fun h1 s1 b1' e1 => ?_
 have b1 : Blk h1 h.size (encT x).toArray T_liveryref13_Thing := b1'
 have hn := hT.own.1
 have htb := blk_lt hT.blk
 have hsb := own_ltG hT.own
 intro J2 hJ2
 have jT : ∀ g, Ext [] h g → backQ T o x → J2 [.bool true] g := by
  intro g eg hb
  refine hJ2 _ _ ?_
  rw [if_pos rfl]
  have := hQ g s
  unfold takeQ at this
  rw [if_pos hb] at this
  exact this (hT.ext0 eg) (eg.mono (by simp)) fun c hc => Or.inl hc
 have jF : ∀ g, Ext [] h1 g → ¬ backQ T o x → J2 [.bool false] g := by
  intro g eg hb
  have e01 := e1.trans0 eg
  refine hJ2 _ _ ?_
  rw [if_neg (by decide)]
  have bx := eg.get b1 (by simp)
  refine rd5I bx ?_
  refine fineR_s x fun g1 eg1 => ⟨_, rfl, ?_⟩
  have e02 := e01.trans0 eg1
  have bx1 := eg1.get bx (by simp)
  have hT1 := hT.ext0 e02
  intro J13 hJ13
  -- behind the count: x may be another one
  have j13 : ∀ g2 (x' : ThingM), Ext [] h g2 → Blk g2 h.size (encT x').toArray T_liveryref13_Thing → takeQ T o x = putQ T o x' → J13 [] g2 := by
   intro g2 x' e2 bx2 htk
   rw [htk] at hQ
   refine hJ13 _ ?_
   refine ⟨_, thgR bx2 0, ?_⟩
   intro J16 hJ16
   have hT2 := hT.ext0 e2
   have last : ∀ g3 s3 (T3 : QT), TAt lo g3 t T3 s3 → Ext [t] h g3 → (∀ c ∈ sBlk s3, c ∈ sBlk s ∨ h.size ≤ c) → Blk g3 h.size (encT x').toArray T_liveryref13_Thing → T3.l.length ≤ 2 ^ 28 → { T3 with l := T3.l ++ [(o, x')] } = putQ T o x' → J16 [] g3 := by
    intro g3 s3 T3 hT3 e3 hs3 b3 hl3 hp
    refine hJ16 _ ?_
    refine snocT hT3 b3 hl3 (by have := e3.sz; omega) fun g4 l4 h4 e4 hl4 => ?_
    rw [hp] at h4
    exact hQ g4 l4 h4 (e3.trans e4 fun b hb _ => hb) fun c hc => Or.inr (by have := hl4 c hc; have := e3.sz; omega)
   by_cases k2 : x'.kind = 2
   ·rw [if_pos (by simp [k2])]
    intro X hX
    have hns : t ∉ ([] : List Nat) := by simp
    have key : ∀ d i g3 l3, d + i = T.l.length → Ext [] g2 g3 → Own T_liveryref13_Own 6 encO g2.size g3 l3 ((T.l.take i).filter (stayP o x'.rel)) → X [.slice l3.a l3.n l3.c, .int .i64 (i : Int)] g3 := by
     intro d
     induction d with
     | zero =>
      intro i g3 l3 hi e3 ho3
      have hT3 := hT2.ext0 e3
      refine hX _ _ _ ?_
      rw [nilW_some]
      refine ⟨s, hT3.rd.1, ?_⟩
      rw [if_neg (by simp; omega), nilW_some, addr_mk]
      rw [List.take_of_length_le (by omega)] at ho3
      have hz2 := e2.sz
      refine st_blk hT3.blk (by simp) fun g4 s4 b4 e4 => ?_
      have hnb : t ∉ sBlk l3 := fun hm => by have := ho3.blk t hm; omega
      have b5 : Blk g4 h.size (encT x').toArray T_liveryref13_Thing := e4.get (e3.get bx2 (by simp)) (by simp; omega)
      refine last g4 l3 { T with l := T.l.filter (stayP o x'.rel) } ⟨b4, (ho3.ext e4 fun a ha hm => by simp at hm; exact hnb (mem_sBlk.2 ⟨a, ha, hm⟩)).mono (by omega)⟩ (((e2.trans0 e3).mono (by simp)).trans e4 fun c hc _ => hc) (fun c hc => Or.inr (by have := ho3.blk c hc; omega)) b5 ?_ ?_
      ·have := List.length_filter_le (stayP o x'.rel) T.l
       simp only
       omega
      ·unfold putQ
       rw [if_pos k2]
     | succ d ih =>
      intro i g3 l3 hi e3 ho3
      have hT3 := hT2.ext0 e3
      have hil : i < T.l.length := by omega
      refine hX _ _ _ ?_
      rw [nilW_some]
      refine ⟨s, hT3.rd.1, ?_⟩
      rw [if_pos (by simp; omega)]
      intro J60 hJ60 J63 hJ63
      have hfs := filter_step1 (stayP o x'.rel) T.l hil
      have hfl := filter_take_len (stayP o x'.rel) T.l i
      have bx3 := e3.get bx2 (by simp)
      have go : ∀ bb g4, Ext [] g3 g4 → bb = stayP o x'.rel T.l[i] → J63 [.bool bb] g4 := by
       rintro bb g4 e4 rfl
       refine hJ63 _ _ ?_
       have j60 : ∀ g5 l5, Ext [] g2 g5 → Own T_liveryref13_Own 6 encO g2.size g5 l5 ((T.l.take (i + 1)).filter (stayP o x'.rel)) → J60 [.slice l5.a l5.n l5.c] g5 := by
        intro g5 l5 e5 ho5
        refine hJ60 _ _ ?_
        rw [wrap64 (by omega) (by omega)]
        exact ih (i + 1) g5 l5 (by omega) e5 ho5
       cases hs : stayP o x'.rel T.l[i] with
       | false =>
        rw [if_neg (by decide)]
        rw [hs, if_neg (by decide), List.append_nil] at hfs
        exact j60 g4 l3 (e3.trans0 e4) (by rw [hfs]; exact ho3.ext0 e4)
       | true =>
        rw [if_pos rfl]
        rw [hs, if_pos rfl] at hfs
        refine atA (hT3.ext0 e4) hil ?_
        have hz3 := e3.sz
        have hz4 := e4.sz
        refine app1 (x := T.l[i]) (ho3.ext0 e4) rfl zc_own encO_len encO_one (by omega) (by decide) (by omega) fun l5 g5 ho5 e5 hb5 => ?_
        have hsl := own_ltG (ho3.ext0 e4)
        refine j60 g5 l5 ((e3.trans0 e4).trans e5 fun b hb hlt => by have := ho3.blk b hb; omega) ?_
        rw [hfs]
        exact ho5
      refine atO hT3 hil ?_
      unfold stayP at go
      by_cases k1 : T.l[i].1 = o
      ·rw [if_neg (by simpa using k1)]
       refine atX hT3 hil ?_
       refine fineR_s T.l[i].2 fun g4 e4 => ⟨_, rfl, ?_⟩
       by_cases kf : fineT T.l[i].2 = true
       ·rw [if_neg (by rw [kf]; decide)]
        refine atR (hT3.ext0 e4) hil ?_
        refine ⟨_, thgR (e4.get bx3 (by simp)) 2, ?_⟩
        refine go _ g4 e4 ?_
        rw [kf, decide_eq_false (by simpa using k1)]
        simp [bne]
        rw [Bool.eq_iff_iff]; simp
       ·rw [if_pos (by simpa using kf)]
        refine go _ g4 e4 ?_
        have : fineT T.l[i].2 = false := by simpa using kf
        rw [this]
        simp
      ·rw [if_pos (by simpa using k1)]
       refine go _ g3 (Ext.refl _ _) ?_
       rw [decide_eq_true k1]
       simp
    have := key T.l.length 0 g2 ⟨none, 0, 0⟩ (by omega) (Ext.refl _ _) (by simpa using Own.nil _ _)
    simpa using this
   ·rw [if_neg (by simpa using k2)]
    refine last g2 s T hT2 (e2.mono (by simp)) (fun c hc => Or.inl hc) bx2 (by omega) ?_
    unfold putQ
    rw [if_neg k2]
  by_cases kf : fineT x = true
  ·rw [if_pos kf]
   intro X hX
   have key : ∀ d i g2, d + i = T.l.length → Ext [] g1 g2 → X [.int .i64 (((T.l.take i).filter fun y => decide (y.1 = o) && (fineT y.2 && decide (y.2.rel = x.rel))).length : Nat), .int .i64 (i : Int)] g2 := by
    intro d
    induction d with
    | zero =>
     intro i g2 hi e2
     have hT2 := hT1.ext0 e2
     have e03 := e02.trans0 e2
     have bx2 := e2.get bx1 (by simp)
     refine hX _ _ _ ?_
     rw [nilW_some]
     refine ⟨s, hT2.rd.1, ?_⟩
     rw [if_neg (by simp; omega)]
     rw [List.take_of_length_le (by omega)]
     intro J133 hJ133
     have hc : nRQ T.l o x.rel = (T.l.filter fun y => decide (y.1 = o) && (fineT y.2 && decide (y.2.rel = x.rel))).length := rfl
     rw [← hc]
     have no : ∀ g3, Ext [] g2 g3 → ¬ roomQ T o x → J133 [.bool false] g3 := by
      intro g3 e3 hnr
      refine hJ133 _ _ ?_
      rw [if_neg (by decide)]
      refine rd5I (e3.get bx2 (by simp)) ?_
      refine relR_s x fun g4 e4 => ⟨_, _, _, _, _, rfl, ?_⟩
      have bx4 := e4.get (e3.get bx2 (by simp)) (by simp)
      refine st_blk bx4 (by simp) fun g5 s5 b5 e5 => ?_
      have b5' : Blk g5 h.size (encT (relT x)).toArray T_liveryref13_Thing := by simpa [putAt, encT] using b5
      refine j13 g5 (relT x) (((e03.trans0 e3).trans0 e4).trans e5 fun b hb hlt => by simp at hb; omega) b5' ?_
      unfold takeQ
      rw [if_neg hb, if_pos kf, if_neg hnr]
     have yes : ∀ g3, Ext [] g2 g3 → roomQ T o x → J133 [.bool true] g3 := by
      intro g3 e3 hr
      refine hJ133 _ _ ?_
      rw [if_pos rfl]
      intro J136 hJ136
      refine snocT (hT2.ext0 e3) (e3.get bx2 (by simp)) (by omega) (by have := e03.sz; have := e3.sz; omega) fun g4 l4 h4 e4 hl4 => hJ136 _ ?_
      have htk : takeQ T o x = { T with l := T.l ++ [(o, x)] } := by
       unfold takeQ
       rw [if_neg hb, if_pos kf, if_pos hr]
      rw [htk] at hQ
      exact hQ g4 l4 h4 (((e03.trans0 e3).mono (by simp)).trans e4 fun b hb _ => hb) fun c hc => Or.inr (by have := hl4 c hc; have := e03.sz; have := e3.sz; omega)
     rw [nilW_some]
     refine ⟨_, hT2.rd.2.1, ?_⟩
     by_cases r1 : (nRQ T.l o x.rel : Int) < T.each
     ·rw [if_pos (by simpa using r1), nilW_some]
      refine ⟨_, hT2.rd.2.2.1, ?_⟩
      refine FineR_s hT2 (by omega) fun g3 e3 => ⟨_, rfl, (hT2.ext0 e3).rd.2.2.1, ?_⟩
      by_cases r2 : (fineQ T.l : Int) < T.all
      ·rw [decide_eq_true r2]
       exact yes g3 e3 ⟨r1, r2⟩
      ·rw [decide_eq_false r2]
       exact no g3 e3 fun q => r2 q.2
     ·rw [if_neg (by simpa using r1)]
      exact no g2 (Ext.refl _ _) fun q => r1 q.1
    | succ d ih =>
     intro i g2 hi e2
     have hT2 := hT1.ext0 e2
     have bx2 := e2.get bx1 (by simp)
     have hil : i < T.l.length := by omega
     refine hX _ _ _ ?_
     rw [nilW_some]
     refine ⟨s, hT2.rd.1, ?_⟩
     rw [if_pos (by simp; omega)]
     intro J107 hJ107 J110 hJ110
     have hsn := filter_snoc (fun y : OT => decide (y.1 = o) && (fineT y.2 && decide (y.2.rel = x.rel))) T.l hil
     have hle := filter_take_len (fun y : OT => decide (y.1 = o) && (fineT y.2 && decide (y.2.rel = x.rel))) T.l i
     have j107 : ∀ g3 (a : Int), Ext [] g2 g3 → a = (((T.l.take (i + 1)).filter fun y => decide (y.1 = o) && (fineT y.2 && decide (y.2.rel = x.rel))).length : Nat) → J107 [.int .i64 a] g3 := by
      rintro g3 a e3 rfl
      refine hJ107 _ _ ?_
      rw [wrap64 (x := (i : Int) + 1) (by omega) (by omega)]
      exact ih (i + 1) g3 (by omega) (e2.trans0 e3)
     have go : ∀ bb g3, Ext [] g2 g3 → bb = (decide (T.l[i].1 = o) && (fineT T.l[i].2 && decide (T.l[i].2.rel = x.rel))) → J110 [.bool bb] g3 := by
      rintro bb g3 e3 hbb
      refine hJ110 _ _ ?_
      cases bb with
      | true =>
       rw [if_pos rfl]
       rw [← hbb, if_pos rfl] at hsn
       refine j107 g3 _ e3 ?_
       rw [wrap64 (by omega) (by omega)]
       omega
      | false =>
       rw [if_neg (by decide)]
       rw [← hbb, if_neg (by decide)] at hsn
       exact j107 g3 _ e3 (by omega)
     refine atO hT2 hil ?_
     by_cases k1 : T.l[i].1 = o
     ·rw [if_pos (by simpa using k1)]
      refine atX hT2 hil ?_
      refine fineR_s T.l[i].2 fun g3 e3 => ⟨_, rfl, ?_⟩
      by_cases kf2 : fineT T.l[i].2 = true
      ·rw [if_pos kf2]
       refine atR (hT2.ext0 e3) hil ?_
       refine ⟨_, thgR (e3.get bx2 (by simp)) 2, ?_⟩
       refine go _ g3 e3 ?_
       rw [decide_eq_true k1, kf2, Bool.true_and, Bool.true_and, decEq]
      ·rw [if_neg kf2]
       refine go _ g3 e3 ?_
       have : fineT T.l[i].2 = false := by simpa using kf2
       rw [this]
       simp
     ·rw [if_neg (by simpa using k1)]
      refine go _ g2 (Ext.refl _ _) ?_
      rw [decide_eq_false k1, Bool.false_and]
   have := key T.l.length 0 g1 (by omega) (Ext.refl _ _)
   simpa using this
  ·rw [if_neg kf]
   refine j13 g1 x e02 bx1 ?_
   unfold takeQ
   rw [if_neg hb, if_neg kf]
 refine rd5I b1 ?_
 refine kindR_s x fun g1 eg1 => ⟨_, rfl, ?_⟩
 cases hk : kindB x with
 | false =>
  rw [if_pos (by rfl)]
  exact jT g1 (e1.trans0 eg1) (Or.inl hk)
 | true =>
  rw [if_neg (by decide)]
  have bx1 := eg1.get b1 (by simp)
  refine rd5I bx1 ?_
  have hT1 := hT.ext0 (e1.trans0 eg1)
  refine HasT_s hT1 o x (by omega) fun g2 eg2 => ⟨_, rfl, ?_⟩
  by_cases h1 : (o, x) ∈ T.l
  ·rw [if_pos (decide_eq_true h1)]
   exact jT g2 ((e1.trans0 eg1).trans0 eg2) (Or.inr (Or.inl h1))
  ·rw [if_neg (by simpa using h1)]
   have bx2 := eg2.get bx1 (by simp)
   refine rd5I bx2 ?_
   refine fineR_s x fun g3 eg3 => ⟨_, rfl, ?_⟩
   have bx3 := eg3.get bx2 (by simp)
   have e13 := (eg1.trans0 eg2).trans0 eg3
   by_cases hf : fineT x = true
   ·rw [if_pos hf]
    refine rd5I bx3 ?_
    refine relR_s x fun g4 eg4 => ⟨_, _, _, _, _, rfl, ?_⟩
    refine HasT_s (hT.ext0 ((e1.trans0 e13).trans0 eg4)) o (relT x) (by omega) fun g5 eg5 => ⟨_, rfl, ?_⟩
    by_cases h2 : (o, relT x) ∈ T.l
    ·rw [decide_eq_true h2]
     exact jT g5 (((e1.trans0 e13).trans0 eg4).trans0 eg5) (Or.inr (Or.inr ⟨hf, h2⟩))
    ·rw [decide_eq_false h2]
     refine jF g5 ((e13.trans0 eg4).trans0 eg5) ?_
     rintro (q | q | q)
     ·rw [hk] at q; cases q
     ·exact h1 q
     ·exact h2 q.2
   ·rw [if_neg hf]
    refine jF g3 e13 ?_
    rintro (q | q | q)
    ·rw [hk] at q; cases q
    ·exact h1 q
    ·exact hf q.1
end
end Go.Lift.E14
namespace Go.Lift.E14
open Go Go.Proofs Go.RowKit
set_option maxRecDepth 100000
def TakeQ (T : QT) (o : Int) (x : ThingM) : QT := if o < 1 ∨ o > 200 then T else takeQ T o x
def dropQ (T : QT) (o : Int) : QT := { T with l := T.l.filter (fun y => decide (y.1 ≠ o)), csn := if o = 0 then 0 else T.csn }
def ownStep (x : ThingM) (l : List Int) (y : OT) : List Int := if ownP x y.2 = true then putI l y.1 else l
def ownersQ (T : QT) (x : ThingM) : List Int := T.l.foldl (ownStep x) []
section
variable {lo : Nat} {h h' : Hp} {t : Nat} {T : QT} {s : Sl} {Q : List Value → Hp → Prop}
theorem put13_s {s : Sl} {xs : List Int} (ho : Own T_int 1 encIL lo h s xs) (hor : OrdC cmpI xs) (n : Int) (hl : xs.length ≤ 2 ^ 28) (hlo : lo ≤ h.size) (hQ : ∀ h' s', Own T_int 1 encIL lo h' s' (putI xs n) → Ext [] h h' → Q [.slice s'.a s'.n s'.c] h') : S_liveryref13_put s n h Q := by
 refine O_liveryref13_put _ _ ?_
 unfold F_liveryref13_put
 have hn := ho.1
 intro X hX
 have key : ∀ d i, xs.length - i = d → i ≤ xs.length → (∀ j (hj : j < xs.length), j < i → cmpI xs[j] n < 0) → X [.int .i64 (i : Int)] h := by
  intro d
  induction d using Nat.strongRecOn with
  | ind d ih =>
   intro i hd hi hall
   refine hX _ _ ?_
   intro J4 hJ4
   have no : posC cmpI xs n = i → J4 [.bool false] h := by
    intro hpos
    refine hJ4 _ _ ?_
    rw [if_neg (by decide)]
    intro J7 hJ7
    have hat := posC_at cmp3I hor n
    have jy : n ∈ xs → J7 [.bool true] h := fun hm => by
     refine hJ7 _ _ ?_
     rw [if_pos rfl]
     have := hQ h s
     unfold putI at this
     rw [if_pos hm] at this
     exact this ho (Ext.refl _ _)
    have jn : n ∉ xs → J7 [.bool false] h := fun hm => by
     refine hJ7 _ _ ?_
     rw [if_neg (by decide), Int.toNat_natCast]
     have hcap := ho.capN
     have hlt := own_ltG ho
     have fin : ∀ (l' : Sl) (g : Hp), Own T_int 1 encIL h.size g l' (xs.take i ++ [n] ++ xs.drop i) → Ext [] h g → Q [.slice l'.a l'.n l'.c] g := by
      intro l' g o e
      refine hQ g l' ?_ e
      unfold putI insC
      rw [if_neg hm, hpos]
      exact o.mono hlo
     refine ⟨by omega, by omega, newI fun h1 s1 b1 e1 => ?_, newI fun h1 s1 b1 e1 => ?_⟩
     ·constructor
      ·refine clG (lo' := h.size) encIL_len encIL_one zc_int bytesI (takeCN encIL_len (ho.ext0 e1) (c := i) (by omega)) (by simp; omega) (by omega) b1 (Nat.le_refl _) fun l1 g2 o2 e2 hb2 => ?_
       have z2 := e2.sz
       refine newI fun h3 s3 b3 e3 => ?_
       have o3 := o2.ext0 e3
       refine oneG encIL_len encIL_one zc_int bytesI (k := n) o3 b3 (by simp; omega) (by omega) fun l2 g4 o4 e4 hb4 => ?_
       have z4 := e4.sz
       have hsl3 := own_ltG o3
       have e14 : Ext [] h g4 := (((e1.trans e2 fun b hb hlt => by simp at hb; omega).trans0 e3).trans e4 fun b hb hlt => by have := hsl3 b hb; omega)
       refine appG encIL_len encIL_one zc_int bytesI o4 (dropCN encIL_len (ho.ext0 e14) (c := i) (by omega)) (by rw [List.length_drop, hn]) (by rw [List.length_append, List.length_take, List.length_singleton, hn]; omega) (by omega) fun l3 g5 o5 e5 hb5 => ?_
       have hsl4 := own_ltG o4
       exact fin l3 g5 o5 (e14.trans e5 fun b hb hlt => by have := hsl4 b hb; omega)
      ·refine newI fun h2 s2 b2 e2 => ?_
       have e12 := e1.trans0 e2
       refine insG (lo' := h.size) encIL_len encIL_one zc_int bytesI (k := n) (ho.ext0 e12) (p := i) (by omega) hl (e2.get b1 (by simp)) (Nat.le_refl _) b2 (by omega) (fun b hb => by have := hlt b hb; omega) (fun b hb => (hlt b hb).2) (by omega) fun l' g o e => ?_
       exact fin l' g o (e12.trans e fun b hb hlt => by simp at hb; omega)
     ·refine newI fun h2 s2 b2 e2 => ?_
      have e12 := e1.trans0 e2
      refine insG (lo' := h.size) encIL_len encIL_one zc_int bytesI (k := n) (ho.ext0 e12) (p := i) (by omega) hl b2 (by omega) (e2.get b1 (by simp)) (by omega) (fun b hb => by have := hlt b hb; omega) (fun b hb => (hlt b hb).2) (by omega) fun l' g o e => ?_
      exact fin l' g o (e12.trans e fun b hb hlt => by simp at hb; omega)
    by_cases hil : i < xs.length
    ·rw [if_pos (by simp; omega)]
     obtain ⟨ad, ha, hrd⟩ := rdI ho.sl.reads hil
     rw [ha]
     simp only [nilW_some, Int.toNat_natCast]
     refine ⟨by omega, by omega, _, hrd, ?_⟩
     by_cases he : xs[i] = n
     ·have : (xs[i] == n) = true := by simp [he]
      rw [this]
      exact jy (by rw [← he]; exact List.getElem_mem hil)
     ·have : (xs[i] == n) = false := by simp [he]
      rw [this]
      refine jn fun hm => ?_
      obtain ⟨_, e2⟩ := hat.1 hm
      simp only [hpos] at e2
      exact he e2
    ·rw [if_neg (by simp; omega)]
     refine jn fun hm => ?_
     obtain ⟨h1, _⟩ := hat.1 hm
     omega
   by_cases hil : i < xs.length
   ·rw [if_pos (by simp; omega)]
    obtain ⟨ad, ha, hrd⟩ := rdI ho.sl.reads hil
    rw [ha]
    simp only [nilW_some, Int.toNat_natCast]
    refine ⟨by omega, by omega, _, hrd, ?_⟩
    by_cases hlt : xs[i] < n
    ·rw [decide_eq_true hlt]
     refine hJ4 _ _ ?_
     rw [if_pos rfl, wrap64 (by omega) (by omega)]
     have := ih (xs.length - (i + 1)) (by omega) (i + 1) rfl (by omega) fun j hj hji => by
      rcases (by omega : j < i ∨ j = i) with g | g
      ·exact hall j hj g
      ·subst g; exact (cmpI_lt _ _).2 hlt
     simpa using this
    ·rw [decide_eq_false hlt]
     exact no (posC_eq hi hall fun hp => by rw [cmpI_lt]; exact hlt)
   ·rw [if_neg (by simp; omega)]
    exact no (posC_eq hi hall fun hp => by omega)
 have := key xs.length 0 (by omega) (by omega) fun j hj hji => by omega
 simpa using this
theorem TakeT_s (hT : TAt lo h t T s) (o : Int) (x : ThingM) (hl : T.l.length ≤ 2 ^ 27) (hlo : lo ≤ h.size) (hQ : ∀ h' s' r, TAt lo h' t (TakeQ T o x) s' → Ext [t] h h' → (∀ c ∈ sBlk s', c ∈ sBlk s ∨ h.size ≤ c) → Q [.int .i64 r] h') : S_liveryref13_Table_Take (some ⟨t, 0, none⟩) o x.kind x.name x.rel x.index x.n h Q := by
 refine O_liveryref13_Table_Take _ _ _ _ _ _ _ ?_
 unfold F_liveryref13_Table_Take
 refine newI fun h1 s1 b1' e1 => ?_
 have b1 : Blk h1 h.size (encT x).toArray T_liveryref13_Thing := b1'
 have htb := blk_lt hT.blk
 intro J hJ
 have back : ∀ g, Ext [] h g → TakeQ T o x = T → J [.bool true] g := by
  intro g eg hb
  refine hJ _ _ ?_
  rw [if_pos rfl]
  have := hQ g s 1
  rw [hb] at this
  exact this (hT.ext0 eg) (eg.mono (by simp)) fun c hc => Or.inl hc
 unfold TakeQ at hQ back
 by_cases h1' : o < 1
 ·rw [if_pos (by simpa using h1')]
  exact back h1 e1 (if_pos (Or.inl h1'))
 rw [if_neg (by simpa using h1')]
 by_cases h2 : o > 200
 ·rw [if_pos (by simpa using h2)]
  exact back h1 e1 (if_pos (Or.inr h2))
 rw [if_neg (by simpa using h2)]
 rw [if_neg (by omega)] at hQ back
 refine rd5I b1 ?_
 refine kindR_s x fun g1 eg1 => ⟨_, rfl, ?_⟩
 cases hk : kindB x with
 | false =>
  refine back g1 (e1.trans0 eg1) ?_
  unfold takeQ
  rw [if_pos (show backQ T o x from Or.inl hk)]
 | true =>
  refine hJ _ _ ?_
  rw [if_neg (by decide)]
  refine rd5I (eg1.get b1 (by simp)) ?_
  have e02 := e1.trans0 eg1
  refine takeT_s (hT.ext0 e02) o x hl (by have := e02.sz; omega) fun g2 s2 hT2 e2 hs2 => ⟨rfl, ?_⟩
  exact hQ g2 s2 0 hT2 ((e02.mono (by simp)).trans e2 fun b hb _ => hb) fun c hc => (hs2 c hc).imp id fun q => by have := e02.sz; omega
theorem putI_len (l : List Int) (n : Int) : (putI l n).length ≤ l.length + 1 := by
 unfold putI
 split
 ·omega
 ·unfold insC
  simp
  omega
theorem OwnersT_s (hT : TAt lo h t T s) (x : ThingM) (hl : T.l.length ≤ 2 ^ 27) (hQ : ∀ h' l, Ext [] h h' → Own T_int 1 encIL h.size h' l (ownersQ T x) → Q [.slice l.a l.n l.c] h') : S_liveryref13_Table_Owners (some ⟨t, 0, none⟩) x.kind x.name x.rel x.index x.n h Q := by
 refine O_liveryref13_Table_Owners _ _ _ _ _ _ ?_
 unfold F_liveryref13_Table_Owners
 refine newI fun h1 s1 b1' e1 => ?_
 have b1 : Blk h1 h.size (encT x).toArray T_liveryref13_Thing := b1'
 have hn := hT.own.1
 have hz1 := e1.sz
 intro X hX
 have key : ∀ d i g (l : Sl) (out : List Int), d + i = T.l.length → Ext [] h1 g → Own T_int 1 encIL h.size g l out → out = (T.l.take i).foldl (ownStep x) [] → OrdC cmpI out → out.length ≤ i → X [.slice l.a l.n l.c, .int .i64 (i : Int)] g := by
  intro d
  induction d with
  | zero =>
   intro i g l out hi eg ho hout _ _
   have hT2 := hT.ext0 (e1.trans0 eg)
   refine hX _ _ _ ?_
   rw [nilW_some]
   refine ⟨s, hT2.rd.1, ?_⟩
   rw [if_neg (by simp; omega)]
   rw [List.take_of_length_le (by omega)] at hout
   subst hout
   exact hQ g l (e1.trans0 eg) ho
  | succ d ih =>
   intro i g l out hi eg ho hout hor hle
   have hil : i < T.l.length := by omega
   have hT2 := hT.ext0 (e1.trans0 eg)
   refine hX _ _ _ ?_
   rw [nilW_some]
   refine ⟨s, hT2.rd.1, ?_⟩
   rw [if_pos (by simp; omega)]
   intro J8 hJ8
   have hstep : (T.l.take (i + 1)).foldl (ownStep x) [] = ownStep x out T.l[i] := by
    rw [List.take_add_one, List.getElem?_eq_getElem hil, Option.toList_some, List.foldl_append, ← hout]
    rfl
   refine atX hT2 hil ?_
   obtain ⟨y, hy⟩ : ∃ y, y = T.l[i].2 := ⟨_, rfl⟩
   rw [← hy]
   refine newI fun g1 z1 c1 eg1 => ?_
   refine st_blk c1 (by simp) fun g2 z2 c2' eg2 => ?_
   have c2 : Blk g2 g.size (encT y).toArray T_liveryref13_Thing := by simpa [putAt, encT] using c2'
   have e2 : Ext [] g g2 := eg1.trans eg2 fun b hb hlt => by simp at hb; omega
   have bx := e2.get (eg.get b1 (by simp)) (by simp)
   intro J21 hJ21
   have go : ∀ bb g3, Ext [] g2 g3 → bb = ownP x y → J21 [.bool bb] g3 := by
    rintro bb g3 e3 rfl
    refine hJ21 _ _ ?_
    have e03 := e2.trans0 e3
    unfold ownStep at hstep
    rw [← hy] at hstep
    cases hb : ownP x y with
    | true =>
     rw [if_pos rfl]
     rw [hb, if_pos rfl] at hstep
     refine atO (hT2.ext0 e03) hil ?_
     refine put13_s (ho.ext0 e03) hor _ (by omega) (by have := e03.sz; have := eg.sz; omega) fun g4 l4 ho4 e4 => ⟨l4, rfl, ?_⟩
     refine hJ8 _ _ ?_
     rw [wrap64 (by omega) (by omega)]
     have := putI_len out T.l[i].1
     exact ih (i + 1) g4 l4 _ (by omega) ((eg.trans0 e03).trans0 e4) ho4 hstep.symm (putI_ord hor _) (by omega)
    | false =>
     rw [if_neg (by decide)]
     rw [hb, if_neg (by decide)] at hstep
     refine hJ8 _ _ ?_
     rw [wrap64 (by omega) (by omega)]
     exact ih (i + 1) g3 l out (by omega) (eg.trans0 e03) (ho.ext0 e03) hstep.symm hor (by omega)
   refine ⟨_, thgR c2 0, _, thgR c2 1, _, thgR c2 2, _, thgR c2 3, _, thgR c2 4, _, thgR bx 0, _, thgR bx 1, _, thgR bx 2, _, thgR bx 3, _, thgR bx 4, ?_⟩
   rw [beqT]
   unfold ownP at go
   by_cases k1 : y = x
   ·rw [if_pos (decide_eq_true k1)]
    exact go _ g2 (Ext.refl _ _) (by rw [decide_eq_true k1, Bool.true_or])
   ·rw [if_neg (by simpa using k1)]
    rw [decide_eq_false k1] at go
    simp only [Bool.false_or] at go
    refine rd5I bx ?_
    refine fineR_s x fun g3 e3 => ⟨_, rfl, ?_⟩
    by_cases kf : fineT x = true
    ·rw [if_pos kf]
     rw [kf] at go
     simp only [Bool.true_and] at go
     have c3 := e3.get c2 (by simp)
     have bx3 := e3.get bx (by simp)
     refine ⟨_, thgR c3 0, _, thgR c3 1, _, thgR c3 2, _, thgR c3 3, _, thgR c3 4, ?_⟩
     refine rd5I bx3 ?_
     refine relR_s x fun g4 e4 => ⟨_, _, _, _, _, rfl, ?_⟩
     have c4 := e4.get c3 (by simp)
     refine ⟨thgR c4 0, thgR c4 1, thgR c4 2, thgR c4 3, thgR c4 4, ?_⟩
     rw [beqT y (relT x)]
     exact go _ g4 (e3.trans0 e4) rfl
    ·rw [if_neg kf]
     have : fineT x = false := by simpa using kf
     rw [this] at go
     simp only [Bool.false_and] at go
     exact go _ g3 e3 rfl
 have := key T.l.length 0 h1 ⟨none, 0, 0⟩ [] (by omega) (Ext.refl _ _) (Own.nil _ _) (by simp) List.Pairwise.nil (by simp)
 simpa using this
theorem DropT_s (hT : TAt lo h t T s) (o : Int) (hl : T.l.length ≤ 2 ^ 27) (hlo : lo ≤ h.size) (hQ : ∀ h' s', TAt lo h' t (dropQ T o) s' → Ext [t] h h' → (∀ c ∈ sBlk s', h.size ≤ c) → Q [] h') : S_liveryref13_Table_Drop (some ⟨t, 0, none⟩) o h Q := by
 refine O_liveryref13_Table_Drop _ _ ?_
 unfold F_liveryref13_Table_Drop
 have hn := hT.own.1
 have htb := blk_lt hT.blk
 intro X hX
 have key : ∀ d i g l, d + i = T.l.length → Ext [] h g → Own T_liveryref13_Own 6 encO h.size g l ((T.l.take i).filter (fun y => decide (y.1 ≠ o))) → X [.slice l.a l.n l.c, .int .i64 (i : Int)] g := by
  intro d
  induction d with
  | zero =>
   intro i g l hi eg ho
   have hT2 := hT.ext0 eg
   refine hX _ _ _ ?_
   rw [nilW_some]
   refine ⟨s, hT2.rd.1, ?_⟩
   rw [if_neg (by simp; omega), nilW_some, addr_mk]
   rw [List.take_of_length_le (by omega)] at ho
   have hnb : t ∉ sBlk l := fun hm => by have := ho.blk t hm; omega
   refine st_blk hT2.blk (by simp) fun g1 s1 b1 e1 => ?_
   have ho1 := ho.ext e1 fun a ha hm => by simp at hm; exact hnb (mem_sBlk.2 ⟨a, ha, hm⟩)
   have e01 : Ext [t] h g1 := (eg.mono (by simp)).trans e1 fun c hc _ => hc
   by_cases h0 : o = 0
   ·rw [if_pos (by simp [h0]), nilW_some, addr_mk]
    refine st_blk b1 (by simp [putAt]) fun g2 s2 b2 e2 => ?_
    refine hQ g2 l ⟨?_, (ho1.ext e2 fun a ha hm => by simp at hm; exact hnb (mem_sBlk.2 ⟨a, ha, hm⟩)).mono hlo⟩ (e01.trans e2 fun c hc _ => hc) fun c hc => ho.blk c hc
    unfold dropQ
    rw [if_pos h0]
    exact b2
   ·rw [if_neg (by simpa using h0)]
    refine hQ g1 l ⟨?_, ho1.mono hlo⟩ e01 fun c hc => ho.blk c hc
    unfold dropQ
    rw [if_neg h0]
    exact b1
  | succ d ih =>
   intro i g l hi eg ho
   have hil : i < T.l.length := by omega
   have hT2 := hT.ext0 eg
   refine hX _ _ _ ?_
   rw [nilW_some]
   refine ⟨s, hT2.rd.1, ?_⟩
   rw [if_pos (by simp; omega)]
   intro J hJ
   have hfs := filter_step1 (fun y : OT => decide (y.1 ≠ o)) T.l hil
   have hfl := filter_take_len (fun y : OT => decide (y.1 ≠ o)) T.l i
   have hz := eg.sz
   refine atO hT2 hil ?_
   by_cases k : T.l[i].1 = o
   ·rw [if_neg (by simpa using k)]
    rw [if_neg (by simpa using k), List.append_nil] at hfs
    refine hJ _ _ ?_
    rw [wrap64 (by omega) (by omega)]
    exact ih (i + 1) g l (by omega) eg (by rw [hfs]; exact ho)
   ·rw [if_pos (by simpa using k)]
    rw [if_pos (by simpa using k)] at hfs
    refine atA hT2 hil ?_
    refine app1 (x := T.l[i]) ho rfl zc_own encO_len encO_one (by omega) (by decide) (by omega) fun l5 g5 ho5 e5 hb5 => ?_
    refine hJ _ _ ?_
    rw [wrap64 (by omega) (by omega)]
    exact ih (i + 1) g5 l5 (by omega) (eg.trans e5 fun b hb hlt => by have := ho.blk b hb; omega) (by rw [hfs]; exact ho5)
 have := key T.l.length 0 h ⟨none, 0, 0⟩ (by omega) (Ext.refl _ _) (by simpa using Own.nil _ _)
 simpa using this
end
end Go.Lift.E14
namespace Go.Lift.E14
open Go Go.Proofs Go.RowKit
set_option maxRecDepth 100000
def ofStep (o : Int) (out : List ThingM) (y : OT) : List ThingM := if y.1 = o then insC cmpT out y.2 else out
def ofQ (T : QT) (o : Int) : List ThingM := T.l.foldl (ofStep o) []
def foldQ (T : QT) (o csn : Int) : QT :=
 if o < 1 ∨ o > 200 then T else
 let T2 := (ofQ T o).foldl (fun T x => takeQ T 0 x) (dropQ T o)
 { T2 with csn := max T2.csn csn }
theorem insC_len (l : List ThingM) (n : ThingM) : (insC cmpT l n).length = l.length + 1 := by
 unfold insC
 have := posC_le (c := cmpT) l n
 simp
 omega
section
variable {lo : Nat} {h h' : Hp} {t : Nat} {T : QT} {s : Sl} {Q : List Value → Hp → Prop}
theorem cmpI_dec (a b : Int) : decide (cmpI a b < 0) = decide (a < b) := decide_eq_decide.2 (cmpI_lt a b)
theorem cmpS_dec (a b : ByteArray) : decide (cmpS a b < 0) = Op.bytesLess a.toList b.toList := by
 show _ = sLt a b
 unfold cmpS
 cases h1 : sLt a b with
 | true => simp
 | false =>
  rw [if_neg (by decide)]
  split <;> simp
theorem cmpI_ne {a b : Int} : (a != b) = decide (cmpI a b ≠ 0) := by
 rw [bne, decEq, ← decide_not]
 refine decide_eq_decide.2 ⟨fun h e => h (cmpI_zero e), fun h e => h ?_⟩
 subst e
 unfold cmpI
 simp
theorem cmpS_ne {a b : ByteArray} : (!(a.toList == b.toList)) = decide (cmpS a b ≠ 0) := by
 rw [Bool.eq_iff_iff]
 simp only [Bool.not_eq_true', beq_eq_false_iff_ne, ne_eq, decide_eq_true_eq]
 refine ⟨fun h e => h (by rw [cmpS_zero e]), fun h e => h ?_⟩
 have := toList_inj e
 subst this
 unfold cmpS
 simp [sLt_irrefl]
theorem aheadT_s (x y : ThingM) (hQ : ∀ h', Ext [] h h' → Q [.bool (decide (cmpT x y < 0))] h') : S_liveryref13_ahead x.kind x.name x.rel x.index x.n y.kind y.name y.rel y.index y.n h Q := by
 refine O_liveryref13_ahead _ _ _ _ _ _ _ _ _ _ ?_
 unfold F_liveryref13_ahead
 refine newI fun h1 s1 b1' e1 => newI fun h2 s2 b2' e2 => ?_
 have b1 : Blk h2 h.size (encT x).toArray T_liveryref13_Thing := e2.get b1' (by simp)
 have b2 : Blk h2 h1.size (encT y).toArray T_liveryref13_Thing := b2'
 have r1 := thgR b1
 have r2 := thgR b2
 have hq := hQ h2 (e1.trans0 e2)
 refine ⟨_, r1 0, _, r2 0, ?_⟩
 unfold cmpT at hq
 rw [cmpI_ne]
 by_cases k1 : cmpI x.kind y.kind ≠ 0
 ·rw [if_pos (decide_eq_true k1)]
  rw [show thenC (fun a b : ThingM => cmpI a.kind b.kind) _ x y = cmpI x.kind y.kind from if_pos k1, cmpI_dec] at hq
  exact ⟨_, r1 0, _, r2 0, hq⟩
 rw [if_neg (by simpa using k1)]
 rw [show thenC (fun a b : ThingM => cmpI a.kind b.kind) (thenC (fun a b => cmpS a.name b.name) (thenC (fun a b => cmpI a.rel b.rel) (thenC (fun a b => cmpS a.index b.index) fun a b => cmpI a.n b.n))) x y = (thenC (fun a b => cmpS a.name b.name) (thenC (fun a b => cmpI a.rel b.rel) (thenC (fun a b => cmpS a.index b.index) fun a b => cmpI a.n b.n))) x y from if_neg k1] at hq
 refine ⟨_, r1 1, _, r2 1, ?_⟩
 rw [cmpS_ne]
 by_cases k2 : cmpS x.name y.name ≠ 0
 ·rw [if_pos (decide_eq_true k2)]
  rw [show thenC (fun a b : ThingM => cmpS a.name b.name) _ x y = cmpS x.name y.name from if_pos k2, cmpS_dec] at hq
  exact ⟨_, r1 1, _, r2 1, hq⟩
 rw [if_neg (by simpa using k2)]
 rw [show (thenC (fun a b : ThingM => cmpS a.name b.name) (thenC (fun a b => cmpI a.rel b.rel) (thenC (fun a b => cmpS a.index b.index) fun a b => cmpI a.n b.n))) x y = (thenC (fun a b => cmpI a.rel b.rel) (thenC (fun a b => cmpS a.index b.index) fun a b => cmpI a.n b.n)) x y from if_neg k2] at hq
 refine ⟨_, r1 2, _, r2 2, ?_⟩
 rw [cmpI_ne]
 by_cases k3 : cmpI x.rel y.rel ≠ 0
 ·rw [if_pos (decide_eq_true k3)]
  rw [show thenC (fun a b : ThingM => cmpI a.rel b.rel) _ x y = cmpI x.rel y.rel from if_pos k3, cmpI_dec] at hq
  exact ⟨_, r1 2, _, r2 2, hq⟩
 rw [if_neg (by simpa using k3)]
 rw [show (thenC (fun a b : ThingM => cmpI a.rel b.rel) (thenC (fun a b => cmpS a.index b.index) fun a b => cmpI a.n b.n)) x y = (thenC (fun a b => cmpS a.index b.index) fun a b => cmpI a.n b.n) x y from if_neg k3] at hq
 refine ⟨_, r1 3, _, r2 3, ?_⟩
 rw [cmpS_ne]
 by_cases k4 : cmpS x.index y.index ≠ 0
 ·rw [if_pos (decide_eq_true k4)]
  rw [show thenC (fun a b : ThingM => cmpS a.index b.index) _ x y = cmpS x.index y.index from if_pos k4, cmpS_dec] at hq
  exact ⟨_, r1 3, _, r2 3, hq⟩
 rw [if_neg (by simpa using k4)]
 rw [show (thenC (fun a b : ThingM => cmpS a.index b.index) fun a b => cmpI a.n b.n) x y = cmpI x.n y.n from if_neg k4, cmpI_dec] at hq
 exact ⟨_, r1 4, _, r2 4, hq⟩
theorem OfT_s (hT : TAt lo h t T s) (o : Int) (hl : T.l.length ≤ 2 ^ 27) (hQ : ∀ h' l, Ext [] h h' → Own T_liveryref13_Thing 5 encT h.size h' l (ofQ T o) → (ofQ T o).length ≤ T.l.length → Q [.slice l.a l.n l.c] h') : S_liveryref13_Table_Of (some ⟨t, 0, none⟩) o h Q := by
 refine O_liveryref13_Table_Of _ _ ?_
 unfold F_liveryref13_Table_Of
 have hn := hT.own.1
 intro X hX
 have key : ∀ d i g (l : Sl) (out : List ThingM), d + i = T.l.length → Ext [] h g → Own T_liveryref13_Thing 5 encT h.size g l out → out = (T.l.take i).foldl (ofStep o) [] → out.length ≤ i → X [.slice l.a l.n l.c, .int .i64 (i : Int)] g := by
  intro d
  induction d with
  | zero =>
   intro i g l out hi eg ho hout hle
   have hT2 := hT.ext0 eg
   refine hX _ _ _ ?_
   rw [nilW_some]
   refine ⟨s, hT2.rd.1, ?_⟩
   rw [if_neg (by simp; omega)]
   rw [List.take_of_length_le (by omega)] at hout
   subst hout
   have : (ofQ T o).length ≤ T.l.length := by unfold ofQ; omega
   exact hQ g l eg ho this
  | succ d ih =>
   intro i g l out hi eg ho hout hle
   have hil : i < T.l.length := by omega
   have hT2 := hT.ext0 eg
   have hz := eg.sz
   refine hX _ _ _ ?_
   rw [nilW_some]
   refine ⟨s, hT2.rd.1, ?_⟩
   rw [if_pos (by simp; omega)]
   intro J7 hJ7
   have hstep : (T.l.take (i + 1)).foldl (ofStep o) [] = ofStep o out T.l[i] := by
    rw [List.take_add_one, List.getElem?_eq_getElem hil, Option.toList_some, List.foldl_append, ← hout]
    rfl
   unfold ofStep at hstep
   have j7 : ∀ g' (l' : Sl) (out' : List ThingM), Ext [] h g' → Own T_liveryref13_Thing 5 encT h.size g' l' out' → out' = (T.l.take (i + 1)).foldl (ofStep o) [] → out'.length ≤ i + 1 → J7 [.slice l'.a l'.n l'.c] g' := by
    intro g' l' out' e' ho' hh hle'
    refine hJ7 _ _ ?_
    rw [wrap64 (by omega) (by omega)]
    exact ih (i + 1) g' l' out' (by omega) e' ho' hh hle'
   refine atO hT2 hil ?_
   by_cases ko : T.l[i].1 = o
   ·rw [if_neg (by simpa using ko)]
    rw [if_pos ko] at hstep
    obtain ⟨y, hy⟩ : ∃ y, y = T.l[i].2 := ⟨_, rfl⟩
    rw [← hy] at hstep
    have hns := ho.1
    intro Y hY
    have keyK : ∀ d2 k g2, out.length - k = d2 → k ≤ out.length → Ext [] g g2 → (∀ j (hj : j < out.length), j < k → cmpT out[j] y < 0) → Y [.int .i64 (k : Int)] g2 := by
     intro d2
     induction d2 using Nat.strongRecOn with
     | ind d2 ih2 =>
      intro k g2 hd hk eg2 hall
      refine hY _ _ ?_
      intro J17 hJ17
      have hT3 := hT2.ext0 eg2
      have ho2 := ho.ext0 eg2
      have no : ∀ g3, Ext [] g2 g3 → posC cmpT out y = k → J17 [.bool false] g3 := by
       intro g3 eg3 hpos
       refine hJ17 _ _ ?_
       rw [if_neg (by decide)]
       have e03 := eg2.trans0 eg3
       have hT4 := hT2.ext0 e03
       have ho3 := ho.ext0 e03
       have hcap := ho3.capN
       have hlt := own_ltG ho3
       have hz3 := e03.sz
       obtain ⟨ad, had, hrd, hrt⟩ := rdO hT4.own hil
       have hrt' : ∀ {g' : Hp}, Ext [] g3 g' → ∀ k, k < 5 → rd g' (Addr.add (Addr.add (Addr.add ad (i * 6)) 1) k) = (encT y)[k]? := by
        intro g' e' k hk'
        obtain ⟨ad2, had2, _, hrt2⟩ := rdO (hT4.ext0 e').own hil
        rw [had] at had2
        cases had2
        rw [hrt2 k hk', hy]
       have rT : ∀ {g' : Hp}, Ext [] g3 g' → rd g' (Addr.add ⟨t, 0, none⟩ 0) = some (.slice (some ad) s.n s.c) := fun e' => by rw [← had]; exact (hT4.ext0 e').rd.1
       refine ⟨⟨by omega, by omega⟩, ?_⟩
       rw [nilW_some]
       refine ⟨s, hT4.rd.1, ?_⟩
       rw [had, nilW_some]
       simp only [Int.toNat_natCast]
       refine ⟨by omega, by omega, y.kind, hrt' (Ext.refl _ _) 0 (by decide), y.name, hrt' (Ext.refl _ _) 1 (by decide), y.rel, hrt' (Ext.refl _ _) 2 (by decide), y.index, hrt' (Ext.refl _ _) 3 (by decide), y.n, hrt' (Ext.refl _ _) 4 (by decide), ⟨by omega, by omega⟩, ?_⟩
       have htc : ∀ g : Hp, g.push (Obj.cells #[(Value.int .i64 y.kind), (Value.string y.name), (Value.int .i64 y.rel), (Value.string y.index), (Value.int .i64 y.n)] T_liveryref13_Thing) = g.push (Obj.cells (encT y).toArray T_liveryref13_Thing) := fun g => rfl
       have fin : ∀ (l' : Sl) (g' : Hp), Own T_liveryref13_Thing 5 encT g3.size g' l' (out.take k ++ [y] ++ out.drop k) → Ext [] g3 g' → J7 [.slice l'.a l'.n l'.c] g' := by
        intro l' g' o' e'
        refine j7 g' l' (insC cmpT out y) ((eg.trans0 e03).trans0 e') ?_ hstep.symm (by rw [insC_len]; omega)
        unfold insC
        rw [hpos]
        exact o'.mono (by omega)
       refine ⟨newI fun h1 s1 b1 e1 => ?_, newI fun h1 s1 b1 e1 => ?_⟩
       ·refine ⟨hrt' e1 0 (by decide), hrt' e1 1 (by decide), hrt' e1 2 (by decide), hrt' e1 3 (by decide), hrt' e1 4 (by decide), rT e1, ?_, ?_⟩
        ·refine clG (lo' := g3.size) encT_len encT_one zc_thg (by decide) (takeCN encT_len (ho3.ext0 e1) (c := k) (by omega)) (by simp; omega) (by omega) b1 (Nat.le_refl _) fun l1 g4 o2 e2 hb2 => ?_
         have z2 := e2.sz
         have e12 : Ext [] g3 g4 := e1.trans e2 fun b hb hlt => by simp at hb; omega
         refine ⟨hrt' e12 0 (by decide), hrt' e12 1 (by decide), hrt' e12 2 (by decide), hrt' e12 3 (by decide), hrt' e12 4 (by decide), rT e12, ?_⟩
         rw [htc]
         refine newI fun h3 s3 b3 e3 => ?_
         have o3 := o2.ext0 e3
         refine oneG encT_len encT_one zc_thg (by decide) (k := y) o3 b3 (by simp; omega) (by omega) fun l2 g5 o4 e4 hb4 => ?_
         have z4 := e4.sz
         have e14 : Ext [] g3 g5 := ((e12.trans0 e3).trans e4 fun b hb hlt => by have := o3.blk b hb; omega)
         refine appG encT_len encT_one zc_thg (by decide) o4 (dropCN encT_len (ho3.ext0 e14) (c := k) (by omega)) (by rw [List.length_drop, hns]) (by rw [List.length_append, List.length_take, List.length_singleton, hns]; omega) (by omega) fun l3 g6 o5 e5 hb5 => ?_
         exact fin l3 g6 o5 (e14.trans e5 fun b hb hlt => by have := o4.blk b hb; omega)
        ·rw [htc]
         refine newI fun h2 s2 b2 e2 => ?_
         have e12 := e1.trans0 e2
         refine ?_
         refine insG (lo' := g3.size) encT_len encT_one zc_thg (by decide) (k := y) (ho3.ext0 e12) (p := k) (by omega) (by omega) (e2.get b1 (by simp)) (Nat.le_refl _) b2 (by omega) (fun b hb => by have := hlt b hb; omega) (fun b hb => (hlt b hb).2) (by omega) fun l' g' o' e' => ?_
         exact fin l' g' o' (e12.trans e' fun b hb hlt => by simp at hb; omega)
       ·refine newI fun h2 s2 b2 e2 => ?_
        have e12 := e1.trans0 e2
        have b1' : Blk h2 g3.size (encT y).toArray T_liveryref13_Thing := e2.get b1 (by simp)
        refine insG (lo' := g3.size) encT_len encT_one zc_thg (by decide) (k := y) (ho3.ext0 e12) (p := k) (by omega) (by omega) b2 (by omega) b1' (by omega) (fun b hb => by have := hlt b hb; omega) (fun b hb => (hlt b hb).2) (by omega) fun l' g' o' e' => ?_
        exact fin l' g' o' (e12.trans e' fun b hb hlt => by simp at hb; omega)
      by_cases hkl : k < out.length
      ·rw [if_pos (by simp; omega)]
       obtain ⟨ad, had, hrd⟩ := rdT ho2.sl.reads hkl
       rw [had]
       simp only [nilW_some, Int.toNat_natCast]
       refine ⟨by omega, by omega, ?_⟩
       refine hrd _ ?_
       have := atX hT3 hil (K := fun n69 s70 n71 s72 n73 => S_liveryref13_ahead out[k].kind out[k].name out[k].rel out[k].index out[k].n n69 s70 n71 s72 n73 g2 fun (vs74 : List Value) (h75 : Hp) => ∃ b76 : Bool, vs74 = [(Value.bool b76)] ∧ J17 [(Value.bool b76)] h75)
       simp only [nilW_some, Int.toNat_natCast] at this
       refine this ?_
       rw [← hy]
       refine aheadT_s out[k] y fun g3 eg3 => ⟨_, rfl, ?_⟩
       by_cases hlt : cmpT out[k] y < 0
       ·rw [decide_eq_true hlt]
        refine hJ17 _ _ ?_
        rw [if_pos rfl, wrap64 (by omega) (by omega)]
        have := ih2 (out.length - (k + 1)) (by omega) (k + 1) g3 rfl (by omega) (eg2.trans0 eg3) fun j hj hji => by
         rcases (by omega : j < k ∨ j = k) with q | q
         ·exact hall j hj q
         ·subst q; exact hlt
        simpa using this
       ·rw [decide_eq_false hlt]
        exact no g3 eg3 (posC_eq hk hall fun hp => hlt)
      ·rw [if_neg (by simp; omega)]
       exact no g2 (Ext.refl _ _) (posC_eq hk hall fun hp => by omega)
    have := keyK out.length 0 g (by omega) (by omega) (Ext.refl _ _) fun j hj hji => by omega
    simpa using this
   ·rw [if_pos (by simpa using ko)]
    rw [if_neg ko] at hstep
    exact j7 g l out eg ho hstep.symm (by omega)
 have := key T.l.length 0 h ⟨none, 0, 0⟩ [] (by omega) (Ext.refl _ _) (Own.nil _ _) (by simp) (by simp)
 simpa using this
theorem takeQ_len (T : QT) (o : Int) (x : ThingM) : (takeQ T o x).l.length ≤ T.l.length + 1 := by
 unfold takeQ putQ
 have h1 := List.length_filter_le (stayP o (relT x).rel) T.l
 have h2 := List.length_filter_le (stayP o x.rel) T.l
 split
 ·omega
 ·split
  ·split
   ·simp
   ·simp only
    split <;> simp <;> omega
  ·simp only
   split <;> simp <;> omega
theorem FoldT_s (hT : TAt lo h t T s) (o csn : Int) (hl : T.l.length ≤ 2 ^ 25) (hlo : lo ≤ h.size) (hQ : ∀ h' s', TAt lo h' t (foldQ T o csn) s' → Ext [t] h h' → (∀ c ∈ sBlk s', c ∈ sBlk s ∨ h.size ≤ c) → Q [] h') : S_liveryref13_Table_Fold (some ⟨t, 0, none⟩) o csn h Q := by
 refine O_liveryref13_Table_Fold _ _ _ ?_
 unfold F_liveryref13_Table_Fold
 have htb := blk_lt hT.blk
 intro J hJ
 unfold foldQ at hQ
 have back : (o < 1 ∨ o > 200) → J [.bool true] h := by
  intro hb
  refine hJ _ _ ?_
  rw [if_pos rfl]
  rw [if_pos hb] at hQ
  exact hQ h s hT (Ext.refl _ _) fun c hc => Or.inl hc
 by_cases h1 : o < 1
 ·rw [if_pos (by simpa using h1)]
  exact back (Or.inl h1)
 rw [if_neg (by simpa using h1)]
 by_cases h2 : o > 200
 ·rw [decide_eq_true h2]
  exact back (Or.inr h2)
 rw [decide_eq_false h2]
 rw [if_neg (by omega)] at hQ
 simp only at hQ
 refine hJ _ _ ?_
 rw [if_neg (by decide)]
 refine OfT_s hT o (by omega) fun g1 l e1 ho hol => ⟨l, rfl, ?_⟩
 have hT1 := hT.ext0 e1
 have hz1 := e1.sz
 refine DropT_s hT1 o (by omega) (by omega) fun g2 s2 hT2 e2 hs2 => ⟨rfl, ?_⟩
 have hnl : t ∉ sBlk l := fun hm => by have := ho.blk t hm; omega
 have ho2 := ho.ext e2 fun a ha hm => by simp at hm; exact hnl (mem_sBlk.2 ⟨a, ha, hm⟩)
 have hd : (dropQ T o).l.length ≤ T.l.length := List.length_filter_le _ _
 have hns := ho.1
 intro X hX
 have key : ∀ d i g (T' : QT) s', d + i = (ofQ T o).length → TAt lo g t T' s' → Ext [t] g2 g → (∀ c ∈ sBlk s', h.size ≤ c) → T' = ((ofQ T o).take i).foldl (fun T x => takeQ T 0 x) (dropQ T o) → T'.l.length ≤ T.l.length + i → X [.int .i64 (i : Int)] g := by
  intro d
  induction d with
  | zero =>
   intro i g T' s' hi hT' eg hs' hTe hle
   refine hX _ _ ?_
   rw [if_neg (by simp; omega), nilW_some]
   refine ⟨_, hT'.rd.2.2.2, ?_⟩
   rw [nilW_some, addr_mk]
   rw [List.take_of_length_le (by omega)] at hTe
   refine st_blk hT'.blk (by simp) fun g3 s3 b3 e3 => ?_
   have hnb : t ∉ sBlk s' := hT'.nb
   subst hTe
   refine hQ g3 s' ⟨?_, hT'.own.ext e3 fun a ha hm => by simp at hm; exact hnb (mem_sBlk.2 ⟨a, ha, hm⟩)⟩ ((((e1.mono (by simp)).trans e2 fun c hc _ => hc).trans eg fun c hc _ => hc).trans e3 fun c hc _ => hc) fun c hc => Or.inr (hs' c hc)
   have hm : ∀ a b : Int, mxI a b = max a b := fun a b => by unfold mxI; split <;> omega
   rw [hm] at b3
   exact b3
  | succ d ih =>
   intro i g T' s' hi hT' eg hs' hTe hle
   have hil : i < (ofQ T o).length := by omega
   refine hX _ _ ?_
   rw [if_pos (by simp; omega)]
   have ho3 := ho2.ext eg fun a ha hm => by simp at hm; exact hnl (mem_sBlk.2 ⟨a, ha, hm⟩)
   obtain ⟨ad, had, hrd⟩ := rdT ho3.sl.reads hil
   rw [had]
   simp only [nilW_some, Int.toNat_natCast]
   refine ⟨by omega, by omega, ?_⟩
   refine hrd _ ?_
   have hz2 := e2.sz
   have hz := eg.sz
   refine takeT_s hT' 0 (ofQ T o)[i] (by omega) (by omega) fun g4 s4 hT4 e4 hs4 => ⟨rfl, ?_⟩
   rw [wrap64 (by omega) (by omega)]
   have hln := takeQ_len T' 0 (ofQ T o)[i]
   refine ih (i + 1) g4 _ s4 (by omega) hT4 (eg.trans e4 fun c hc _ => hc) (fun c hc => (hs4 c hc).elim (hs' c) fun q => by omega) ?_ (by omega)
   rw [List.take_add_one, List.getElem?_eq_getElem hil, Option.toList_some, List.foldl_append, ← hTe]
   rfl
 have := key (ofQ T o).length 0 g2 (dropQ T o) s2 (by omega) hT2 (Ext.refl _ _) (fun c hc => by have := hs2 c hc; omega) (by simp) (by omega)
 simpa using this
end
end Go.Lift.E14
namespace Go.Lift.E14
open Go Go.Proofs Go.RowKit
set_option maxRecDepth 100000
structure RsM where
 L : LM
 T : QT
 E : EM
 doomed : List Int
 safe : List Int
 keeps : List Int
 keep : Int
abbrev qCells (rb tb eb : Nat) (sd sf sk : Sl) (keep : Int) : Array Value := #[.pointer (some ⟨rb, 0, none⟩), .pointer (some ⟨tb, 0, none⟩), .pointer (some ⟨eb, 0, none⟩), .slice sd.a sd.n sd.c, .slice sf.a sf.n sf.c, .slice sk.a sk.n sk.c, .int .i64 keep]
/-- Everything that belongs to the reference, by parts: 1 itself, 2 log, 3 table, 4 edges, 5 doomed, 6 safe, 7 keeps. -/
structure RzAt (w : Nat → Nat) (G : Nat → Prop) (h : Hp) (q rb tb eb : Nat) (s08 sT sl so sd sf sk : Sl) (R : RsM) : Prop where
 gw : ∀ b, G b → w b = 0 ∧ b < h.size
 blk : Blk h q (qCells rb tb eb sd sf sk R.keep) T_liveryref15_Ssi
 wq : w q = 1
 ra : RAt 0 h rb R.L s08
 wr : w rb = 2
 wrs : ∀ b ∈ sBlk s08, w b = 2
 ta : TAt 0 h tb R.T sT
 wt : w tb = 3
 wts : ∀ b ∈ sBlk sT, w b = 3
 qa : QAt 0 h eb rb R.E sl so
 we : w eb = 4
 wsl : ∀ b ∈ sBlk sl, w b = 4
 wso : ∀ b ∈ sBlk so, w b = 4
 dd : Own T_int 1 encIL 0 h sd R.doomed
 wd : ∀ b ∈ sBlk sd, w b = 5
 ff : Own T_int 1 encIL 0 h sf R.safe
 wf : ∀ b ∈ sBlk sf, w b = 6
 kk : Own T_int 1 encIL 0 h sk R.keeps
 wk : ∀ b ∈ sBlk sk, w b = 7
def Rz (G : Nat → Prop) (h : Hp) (q rb tb eb : Nat) (R : RsM) : Prop := ∃ w s08 sT sl so sd sf sk, RzAt w G h q rb tb eb s08 sT sl so sd sf sk R
section
variable {h h' : Hp}
theorem ra_kg {lo b : Nat} {L : LM} {s : Sl} (hR : RAt lo h b L s) (e1 : h'[b]? = h[b]?) (e2 : ∀ c ∈ sBlk s, h'[c]? = h[c]?) : RAt lo h' b L s := ⟨blk_kg hR.blk e1, own_kg hR.own e2, hR.len, hR.clk⟩
theorem ta_kg {lo b : Nat} {T : QT} {s : Sl} (hR : TAt lo h b T s) (e1 : h'[b]? = h[b]?) (e2 : ∀ c ∈ sBlk s, h'[c]? = h[c]?) : TAt lo h' b T s := ⟨blk_kg hR.blk e1, own_kg hR.own e2⟩
theorem qa_kg {lo b rb : Nat} {M : EM} {sl so : Sl} (hR : QAt lo h b rb M sl so) (e1 : h'[b]? = h[b]?) (e2 : ∀ c ∈ sBlk sl, h'[c]? = h[c]?) (e3 : ∀ c ∈ sBlk so, h'[c]? = h[c]?) : QAt lo h' b rb M sl so := ⟨blk_kg hR.blk e1, own_kg hR.l e2, own_kg hR.o e3⟩
end
section
variable {w : Nat → Nat} {G G' : Nat → Prop} {h h' : Hp} {q rb tb eb : Nat} {s08 sT sl so sd sf sk : Sl} {R : RsM} {Q : List Value → Hp → Prop}
theorem RzAt.lt (hA : RzAt w G h q rb tb eb s08 sT sl so sd sf sk R) : q < h.size ∧ rb < h.size ∧ tb < h.size ∧ eb < h.size := ⟨blk_lt hA.blk, blk_lt hA.ra.blk, blk_lt hA.ta.blk, blk_lt hA.qa.blk⟩
theorem RzAt.other (hA : RzAt w G h q rb tb eb s08 sT sl so sd sf sk R) (hz : h.size ≤ h'.size) (ho : ∀ b, b < h.size → w b ≠ 0 → h'[b]? = h[b]?) (hG' : ∀ b, G' b → (b < h.size → w b = 0) ∧ b < h'.size) : RzAt (wx w h 0) G' h' q rb tb eb s08 sT sl so sd sf sk R := by
 obtain ⟨l1, l2, l3, l4⟩ := hA.lt
 have k1 : ∀ {b j : Nat}, b < h.size → w b = j → j ≠ 0 → h'[b]? = h[b]? := fun {b j} hb hw hj => ho b hb (by omega)
 have o1 : ∀ {s : Sl} {j : Nat}, (∀ b ∈ sBlk s, b < h.size) → (∀ b ∈ sBlk s, w b = j) → j ≠ 0 → ∀ b ∈ sBlk s, h'[b]? = h[b]? := fun hl hw hj b hb => k1 (hl b hb) (hw b hb) hj
 have w1 : ∀ {s : Sl} {j : Nat}, (∀ b ∈ sBlk s, b < h.size) → (∀ b ∈ sBlk s, w b = j) → ∀ b ∈ sBlk s, wx w h 0 b = j := fun hl hw b hb => by rw [wx_lt (hl b hb)]; exact hw b hb
 have a1 : ∀ b ∈ sBlk s08, b < h.size := fun b hb => (own_ltG hA.ra.own b hb).2
 have a2 : ∀ b ∈ sBlk sT, b < h.size := fun b hb => (own_ltG hA.ta.own b hb).2
 have a3 : ∀ b ∈ sBlk sl, b < h.size := fun b hb => (own_ltG hA.qa.l b hb).2
 have a4 : ∀ b ∈ sBlk so, b < h.size := fun b hb => (own_ltG hA.qa.o b hb).2
 have a5 : ∀ b ∈ sBlk sd, b < h.size := fun b hb => (own_ltG hA.dd b hb).2
 have a6 : ∀ b ∈ sBlk sf, b < h.size := fun b hb => (own_ltG hA.ff b hb).2
 have a7 : ∀ b ∈ sBlk sk, b < h.size := fun b hb => (own_ltG hA.kk b hb).2
 refine ⟨fun b hb => ⟨?_, (hG' b hb).2⟩, blk_kg hA.blk (k1 l1 hA.wq (by omega)), by rw [wx_lt l1]; exact hA.wq, ra_kg hA.ra (k1 l2 hA.wr (by omega)) (o1 a1 hA.wrs (by omega)), by rw [wx_lt l2]; exact hA.wr, w1 a1 hA.wrs,
  ta_kg hA.ta (k1 l3 hA.wt (by omega)) (o1 a2 hA.wts (by omega)), by rw [wx_lt l3]; exact hA.wt, w1 a2 hA.wts,
  qa_kg hA.qa (k1 l4 hA.we (by omega)) (o1 a3 hA.wsl (by omega)) (o1 a4 hA.wso (by omega)), by rw [wx_lt l4]; exact hA.we, w1 a3 hA.wsl, w1 a4 hA.wso,
  own_kg hA.dd (o1 a5 hA.wd (by omega)), w1 a5 hA.wd, own_kg hA.ff (o1 a6 hA.wf (by omega)), w1 a6 hA.wf, own_kg hA.kk (o1 a7 hA.wk (by omega)), w1 a7 hA.wk⟩
 unfold wx
 split
 ·rename_i hlt
  exact (hG' b hb).1 hlt
 ·rfl
theorem Rz.lt (hR : Rz G h q rb tb eb R) {b : Nat} (hb : G b) : b < h.size := by
 obtain ⟨w, s08, sT, sl, so, sd, sf, sk, hA⟩ := hR
 exact (hA.gw b hb).2
/-- Something else has changed. -/
theorem Rz.kx (hR : Rz G h q rb tb eb R) (hz : h.size ≤ h'.size) (ho : ∀ b, b < h.size → ¬ G b → h'[b]? = h[b]?) (hG' : ∀ b, G' b → (G b ∨ h.size ≤ b) ∧ b < h'.size) : Rz G' h' q rb tb eb R := by
 obtain ⟨w, s08, sT, sl, so, sd, sf, sk, hA⟩ := hR
 refine ⟨_, _, _, _, _, _, _, _, hA.other hz (fun b hb hw => ho b hb fun g => hw (hA.gw b g).1) fun b hb => ⟨fun hlt => ?_, (hG' b hb).2⟩⟩
 rcases (hG' b hb).1 with g | g
 ·exact (hA.gw b g).1
 ·omega
theorem Rz.grow (hR : Rz G h q rb tb eb R) (he : Ext [] h h') (hG' : ∀ b, G' b → (G b ∨ h.size ≤ b) ∧ b < h'.size) : Rz G' h' q rb tb eb R := hR.kx he.sz (fun b hb _ => he.old b hb (by simp)) hG'
theorem Rz.e0 (hR : Rz G h q rb tb eb R) (he : Ext [] h h') : Rz G h' q rb tb eb R := hR.grow he fun b hb => ⟨Or.inl hb, Nat.lt_of_lt_of_le (hR.lt hb) he.sz⟩
theorem Rz.less (hR : Rz G h q rb tb eb R) (hG : ∀ b, G' b → G b) : Rz G' h q rb tb eb R := hR.grow (Ext.refl _ _) fun b hb => ⟨Or.inl (hG b hb), hR.lt (hG b hb)⟩
theorem Rz.kgE (he : Ext [] h h') (hR : Rz G h q rb tb eb R) : KG G h h' := kg_ext0 he fun b hb => hR.lt hb
theorem Rz.fld (hR : Rz G h q rb tb eb R) : rd h (Addr.add ⟨q, 0, none⟩ 0) = some (.pointer (some ⟨rb, 0, none⟩)) ∧ rd h (Addr.add ⟨q, 0, none⟩ 1) = some (.pointer (some ⟨tb, 0, none⟩)) ∧ rd h (Addr.add ⟨q, 0, none⟩ 2) = some (.pointer (some ⟨eb, 0, none⟩)) ∧ rd h (Addr.add ⟨q, 0, none⟩ 6) = some (.int .i64 R.keep) := by
 obtain ⟨w, s08, sT, sl, so, sd, sf, sk, hA⟩ := hR
 refine ⟨?_, ?_, ?_, ?_⟩ <;> (rw [addr_mk, rd_blk hA.blk]; rfl)
/-- The part j has changed; the others stay. -/
theorem RzAt.part (hA : RzAt w G h q rb tb eb s08 sT sl so sd sf sk R) (j : Nat) (hz : h.size ≤ h'.size) (ho : ∀ b, b < h.size → w b ≠ j → b ≠ q → h'[b]? = h[b]?) (hj0 : j ≠ 0) :
  (∀ b, G b → wx w h j b = 0 ∧ b < h'.size) ∧ KG G h h' ∧
  (h'[q]? = h[q]? → Blk h' q (qCells rb tb eb sd sf sk R.keep) T_liveryref15_Ssi) ∧ wx w h j q = 1 ∧
  (j ≠ 2 → RAt 0 h' rb R.L s08) ∧ wx w h j rb = 2 ∧ (∀ b ∈ sBlk s08, wx w h j b = 2) ∧
  (j ≠ 3 → TAt 0 h' tb R.T sT) ∧ wx w h j tb = 3 ∧ (∀ b ∈ sBlk sT, wx w h j b = 3) ∧
  (j ≠ 4 → QAt 0 h' eb rb R.E sl so) ∧ wx w h j eb = 4 ∧ (∀ b ∈ sBlk sl, wx w h j b = 4) ∧ (∀ b ∈ sBlk so, wx w h j b = 4) ∧
  (j ≠ 5 → Own T_int 1 encIL 0 h' sd R.doomed) ∧ (∀ b ∈ sBlk sd, wx w h j b = 5) ∧
  (j ≠ 6 → Own T_int 1 encIL 0 h' sf R.safe) ∧ (∀ b ∈ sBlk sf, wx w h j b = 6) ∧
  (j ≠ 7 → Own T_int 1 encIL 0 h' sk R.keeps) ∧ (∀ b ∈ sBlk sk, wx w h j b = 7) := by
 obtain ⟨l1, l2, l3, l4⟩ := hA.lt
 have hq1 := hA.wq
 have k1 : ∀ {b i : Nat}, b < h.size → w b = i → i ≠ 1 → j ≠ i → h'[b]? = h[b]? := fun {b i} hb hw hi hj => ho b hb (by omega) fun e => by subst e; omega
 have o1 : ∀ {s : Sl} {i : Nat}, (∀ b ∈ sBlk s, b < h.size) → (∀ b ∈ sBlk s, w b = i) → i ≠ 1 → j ≠ i → ∀ b ∈ sBlk s, h'[b]? = h[b]? := fun hl hw hi hj b hb => k1 (hl b hb) (hw b hb) hi hj
 have w1 : ∀ {s : Sl} {i : Nat}, (∀ b ∈ sBlk s, b < h.size) → (∀ b ∈ sBlk s, w b = i) → ∀ b ∈ sBlk s, wx w h j b = i := fun hl hw b hb => by rw [wx_lt (hl b hb)]; exact hw b hb
 have a1 : ∀ b ∈ sBlk s08, b < h.size := fun b hb => (own_ltG hA.ra.own b hb).2
 have a2 : ∀ b ∈ sBlk sT, b < h.size := fun b hb => (own_ltG hA.ta.own b hb).2
 have a3 : ∀ b ∈ sBlk sl, b < h.size := fun b hb => (own_ltG hA.qa.l b hb).2
 have a4 : ∀ b ∈ sBlk so, b < h.size := fun b hb => (own_ltG hA.qa.o b hb).2
 have a5 : ∀ b ∈ sBlk sd, b < h.size := fun b hb => (own_ltG hA.dd b hb).2
 have a6 : ∀ b ∈ sBlk sf, b < h.size := fun b hb => (own_ltG hA.ff b hb).2
 have a7 : ∀ b ∈ sBlk sk, b < h.size := fun b hb => (own_ltG hA.kk b hb).2
 exact ⟨fun b hb => ⟨by rw [wx_lt (hA.gw b hb).2]; exact (hA.gw b hb).1, by have := (hA.gw b hb).2; omega⟩, ⟨hz, fun b hb => ho b (hA.gw b hb).2 (by have := (hA.gw b hb).1; omega) fun e => by have := (hA.gw b hb).1; subst e; omega⟩,
  fun e => blk_kg hA.blk e, by rw [wx_lt l1]; exact hA.wq, fun hj => ra_kg hA.ra (k1 l2 hA.wr (by decide) hj) (o1 a1 hA.wrs (by decide) hj), by rw [wx_lt l2]; exact hA.wr, w1 a1 hA.wrs,
  fun hj => ta_kg hA.ta (k1 l3 hA.wt (by decide) hj) (o1 a2 hA.wts (by decide) hj), by rw [wx_lt l3]; exact hA.wt, w1 a2 hA.wts,
  fun hj => qa_kg hA.qa (k1 l4 hA.we (by decide) hj) (o1 a3 hA.wsl (by decide) hj) (o1 a4 hA.wso (by decide) hj), by rw [wx_lt l4]; exact hA.we, w1 a3 hA.wsl, w1 a4 hA.wso,
  fun hj => own_kg hA.dd (o1 a5 hA.wd (by decide) hj), w1 a5 hA.wd, fun hj => own_kg hA.ff (o1 a6 hA.wf (by decide) hj), w1 a6 hA.wf, fun hj => own_kg hA.kk (o1 a7 hA.wk (by decide) hj), w1 a7 hA.wk⟩
theorem wx_ge {w : Nat → Nat} {h : Hp} {k b : Nat} (hb : h.size ≤ b) : wx w h k b = k := by unfold wx; rw [if_neg (by omega)]
/-- The log: read, or changed. -/
theorem Rz.onL (hR : Rz G h q rb tb eb R) : ∃ s08, RAt 0 h rb R.L s08 ∧ ∀ {h' : Hp} {L' : LM} {s' : Sl} {S : List Nat}, RAt 0 h' rb L' s' → Ext S h h' → (∀ b ∈ S, b = rb ∨ b ∈ sBlk s08) → (∀ c ∈ sBlk s', c ∈ sBlk s08 ∨ h.size ≤ c) → Rz G h' q rb tb eb { R with L := L' } ∧ KG G h h' := by
 obtain ⟨w, s08, sT, sl, so, sd, sf, sk, hA⟩ := hR
 refine ⟨s08, hA.ra, fun {h' L' s' S} hr he hS hs => ?_⟩
 obtain ⟨p1, p2, p3, p4, p5, p6, p7, p8, p9, p10, p11, p12, p13, p14, p15, p16, p17, p18, p19, p20⟩ := hA.part (h' := h') 2 he.sz (fun b hb hw _ => he.old b hb fun hm => by
  rcases hS b hm with g | g
  ·subst g; exact hw hA.wr
  ·exact hw (hA.wrs b g)) (by decide)
 have hq1 := hA.wq
 have hr1 := hA.wr
 exact ⟨⟨_, _, _, _, _, _, _, _, p1, p3 (he.old _ hA.lt.1 fun hm => (hS _ hm).elim (fun e => by subst e; omega) fun g => by have := hA.wrs _ g; omega), p4, hr, p6, fun c hc => (hs c hc).elim (p7 c) wx_ge, p8 (by decide), p9, p10, p11 (by decide), p12, p13, p14, p15 (by decide), p16, p17 (by decide), p18, p19 (by decide), p20⟩, p2⟩
theorem Rz.onT (hR : Rz G h q rb tb eb R) : ∃ sT, TAt 0 h tb R.T sT ∧ ∀ {h' : Hp} {T' : QT} {s' : Sl}, TAt 0 h' tb T' s' → Ext [tb] h h' → (∀ c ∈ sBlk s', c ∈ sBlk sT ∨ h.size ≤ c) → Rz G h' q rb tb eb { R with T := T' } ∧ KG G h h' := by
 obtain ⟨w, s08, sT, sl, so, sd, sf, sk, hA⟩ := hR
 refine ⟨sT, hA.ta, fun {h' T' s'} hr he hs => ?_⟩
 obtain ⟨p1, p2, p3, p4, p5, p6, p7, p8, p9, p10, p11, p12, p13, p14, p15, p16, p17, p18, p19, p20⟩ := hA.part (h' := h') 3 he.sz (fun b hb hw _ => he.old b hb fun hm => by
  simp at hm
  subst hm; exact hw hA.wt) (by decide)
 have hq1 := hA.wq
 have hr1 := hA.wt
 exact ⟨⟨_, _, _, _, _, _, _, _, p1, p3 (he.old _ hA.lt.1 fun hm => by simp at hm; subst hm; omega), p4, p5 (by decide), p6, p7, hr, p9, fun c hc => (hs c hc).elim (p10 c) wx_ge, p11 (by decide), p12, p13, p14, p15 (by decide), p16, p17 (by decide), p18, p19 (by decide), p20⟩, p2⟩
theorem Rz.onQ (hR : Rz G h q rb tb eb R) : ∃ sl so, QAt 0 h eb rb R.E sl so ∧ ∀ {h' : Hp} {M' : EM} {sl' so' : Sl}, QAt 0 h' eb rb M' sl' so' → Ext [eb] h h' → (∀ c, c ∈ sBlk sl' ∨ c ∈ sBlk so' → (c ∈ sBlk sl ∨ c ∈ sBlk so) ∨ h.size ≤ c) → Rz G h' q rb tb eb { R with E := M' } ∧ KG G h h' := by
 obtain ⟨w, s08, sT, sl, so, sd, sf, sk, hA⟩ := hR
 refine ⟨sl, so, hA.qa, fun {h' M' sl' so'} hr he hs => ?_⟩
 obtain ⟨p1, p2, p3, p4, p5, p6, p7, p8, p9, p10, p11, p12, p13, p14, p15, p16, p17, p18, p19, p20⟩ := hA.part (h' := h') 4 he.sz (fun b hb hw _ => he.old b hb fun hm => by
  simp at hm
  subst hm; exact hw hA.we) (by decide)
 have hq1 := hA.wq
 have hr1 := hA.we
 exact ⟨⟨_, _, _, _, _, _, _, _, p1, p3 (he.old _ hA.lt.1 fun hm => by simp at hm; subst hm; omega), p4, p5 (by decide), p6, p7, p8 (by decide), p9, p10, hr, p12, fun c hc => (hs c (Or.inl hc)).elim (fun g => g.elim (p13 c) (p14 c)) wx_ge, fun c hc => (hs c (Or.inr hc)).elim (fun g => g.elim (p13 c) (p14 c)) wx_ge, p15 (by decide), p16, p17 (by decide), p18, p19 (by decide), p20⟩, p2⟩
/-- Lists of one's own: read. -/
theorem Rz.rdD (hR : Rz G h q rb tb eb R) : ∃ sd, rd h (Addr.add ⟨q, 0, none⟩ 3) = some (.slice sd.a sd.n sd.c) ∧ Own T_int 1 encIL 0 h sd R.doomed := by
 obtain ⟨w, s08, sT, sl, so, sd, sf, sk, hA⟩ := hR
 exact ⟨sd, by rw [addr_mk, rd_blk hA.blk]; rfl, hA.dd⟩
theorem Rz.rdF (hR : Rz G h q rb tb eb R) : ∃ sd, rd h (Addr.add ⟨q, 0, none⟩ 4) = some (.slice sd.a sd.n sd.c) ∧ Own T_int 1 encIL 0 h sd R.safe := by
 obtain ⟨w, s08, sT, sl, so, sd, sf, sk, hA⟩ := hR
 exact ⟨sf, by rw [addr_mk, rd_blk hA.blk]; rfl, hA.ff⟩
theorem Rz.rdK (hR : Rz G h q rb tb eb R) : ∃ sd, (∀ {h'}, Ext [] h h' → rd h' (Addr.add ⟨q, 0, none⟩ 5) = some (.slice sd.a sd.n sd.c)) ∧ Own T_int 1 encIL 0 h sd R.keeps := by
 obtain ⟨w, s08, sT, sl, so, sd, sf, sk, hA⟩ := hR
 exact ⟨sk, fun he => by rw [addr_mk, rd_blk (he.get hA.blk (by simp))]; rfl, hA.kk⟩
/-- .. and set. -/
theorem Rz.setD (hR : Rz G h q rb tb eb R) {h1 : Hp} (he : Ext [] h h1) {s' : Sl} {d : List Int} (ho : Own T_int 1 encIL h.size h1 s' d) {K : Hp → Prop} (H : ∀ h', Rz G h' q rb tb eb { R with doomed := d } → KG G h h' → K h') :
  stOk h1 (Addr.add ⟨q, 0, none⟩ 3) 1 ∧ wth (wrs h1 (Addr.add ⟨q, 0, none⟩ 3) 0 [.slice s'.a s'.n s'.c]) K := by
 obtain ⟨w, s08, sT, sl, so, sd, sf, sk, hA⟩ := hR
 rw [addr_mk]
 have hb1 := he.get hA.blk (by simp)
 have hq : q < h.size := hA.lt.1
 refine st_blk hb1 (by simp [qCells]) fun h2 z2 b2 e2 => ?_
 have e02 : Ext [q] h h2 := (he.mono (by simp)).trans e2 fun c hc _ => hc
 obtain ⟨p1, p2, p3, p4, p5, p6, p7, p8, p9, p10, p11, p12, p13, p14, p15, p16, p17, p18, p19, p20⟩ := hA.part (h' := h2) 5 e02.sz (fun b hb _ hne => e02.old b hb (by simpa using hne)) (by decide)
 exact H h2 ⟨_, _, _, _, _, _, _, _, p1, b2, p4, p5 (by decide), p6, p7, p8 (by decide), p9, p10, p11 (by decide), p12, p13, p14, (ho.ext e2 fun a ha hm => by simp at hm; have := ho.blk _ (mem_sBlk.2 ⟨a, ha, rfl⟩); omega).mono (by omega), fun c hc => wx_ge (ho.blk c hc), p17 (by decide), p18, p19 (by decide), p20⟩ p2
theorem Rz.setF (hR : Rz G h q rb tb eb R) {h1 : Hp} (he : Ext [] h h1) {s' : Sl} {d : List Int} (ho : Own T_int 1 encIL h.size h1 s' d) {K : Hp → Prop} (H : ∀ h', Rz G h' q rb tb eb { R with safe := d } → KG G h h' → K h') :
  stOk h1 (Addr.add ⟨q, 0, none⟩ 4) 1 ∧ wth (wrs h1 (Addr.add ⟨q, 0, none⟩ 4) 0 [.slice s'.a s'.n s'.c]) K := by
 obtain ⟨w, s08, sT, sl, so, sd, sf, sk, hA⟩ := hR
 rw [addr_mk]
 have hb1 := he.get hA.blk (by simp)
 have hq : q < h.size := hA.lt.1
 refine st_blk hb1 (by simp [qCells]) fun h2 z2 b2 e2 => ?_
 have e02 : Ext [q] h h2 := (he.mono (by simp)).trans e2 fun c hc _ => hc
 obtain ⟨p1, p2, p3, p4, p5, p6, p7, p8, p9, p10, p11, p12, p13, p14, p15, p16, p17, p18, p19, p20⟩ := hA.part (h' := h2) 6 e02.sz (fun b hb _ hne => e02.old b hb (by simpa using hne)) (by decide)
 exact H h2 ⟨_, _, _, _, _, _, _, _, p1, b2, p4, p5 (by decide), p6, p7, p8 (by decide), p9, p10, p11 (by decide), p12, p13, p14, p15 (by decide), p16, (ho.ext e2 fun a ha hm => by simp at hm; have := ho.blk _ (mem_sBlk.2 ⟨a, ha, rfl⟩); omega).mono (by omega), fun c hc => wx_ge (ho.blk c hc), p19 (by decide), p20⟩ p2
theorem Rz.setK (hR : Rz G h q rb tb eb R) {h1 : Hp} (he : Ext [] h h1) {s' : Sl} {d : List Int} (ho : Own T_int 1 encIL h.size h1 s' d) {K : Hp → Prop} (H : ∀ h', Rz G h' q rb tb eb { R with keeps := d } → KG G h h' → K h') :
  stOk h1 (Addr.add ⟨q, 0, none⟩ 5) 1 ∧ wth (wrs h1 (Addr.add ⟨q, 0, none⟩ 5) 0 [.slice s'.a s'.n s'.c]) K := by
 obtain ⟨w, s08, sT, sl, so, sd, sf, sk, hA⟩ := hR
 rw [addr_mk]
 have hb1 := he.get hA.blk (by simp)
 have hq : q < h.size := hA.lt.1
 refine st_blk hb1 (by simp [qCells]) fun h2 z2 b2 e2 => ?_
 have e02 : Ext [q] h h2 := (he.mono (by simp)).trans e2 fun c hc _ => hc
 obtain ⟨p1, p2, p3, p4, p5, p6, p7, p8, p9, p10, p11, p12, p13, p14, p15, p16, p17, p18, p19, p20⟩ := hA.part (h' := h2) 7 e02.sz (fun b hb _ hne => e02.old b hb (by simpa using hne)) (by decide)
 exact H h2 ⟨_, _, _, _, _, _, _, _, p1, b2, p4, p5 (by decide), p6, p7, p8 (by decide), p9, p10, p11 (by decide), p12, p13, p14, p15 (by decide), p16, p17 (by decide), p18, (ho.ext e2 fun a ha hm => by simp at hm; have := ho.blk _ (mem_sBlk.2 ⟨a, ha, rfl⟩); omega).mono (by omega), fun c hc => wx_ge (ho.blk c hc)⟩ p2
end
end Go.Lift.E14
namespace Go.Lift.E14
open Go Go.Proofs Go.RowKit
set_option maxRecDepth 100000
section
variable {kk : Prop} {w : Nat → Nat} {G G' : Nat → Prop} {h h' : Hp} {s cb t e me mo ms dm sm : Nat} {C : CC} {kp : Sl} {M : SsiM}
theorem SsAt.otherK (hA : SsAt kk w G h s cb t e me mo ms dm sm C kp M) (hz : h.size ≤ h'.size) (ho : ∀ b, b < h.size → w b ≠ 0 → h'[b]? = h[b]?) (hG' : ∀ b, G' b → (b < h.size → w b = 0) ∧ b < h'.size) : SsAt kk (wx w h 0) G' h' s cb t e me mo ms dm sm C kp M := by
 have k1 : ∀ {b j : Nat}, b < h.size → w b = j → j ≠ 0 → h'[b]? = h[b]? := fun {b j} hb hw hj => ho b hb (by omega)
 have lc := hA.cl.lt
 have le := blk_lt hA.ed
 have lm := hA.em.lt
 have lo := hA.eo.lt
 have ld := hA.dd.lt
 have lf := hA.sf.lt
 refine ⟨fun b hb => ⟨?_, (hG' b hb).2⟩, blk_kg hA.blk (k1 hA.lts hA.ws (by omega)), by rw [wx_lt hA.lts]; exact hA.ws, cl_kg hA.cl (k1 lc hA.wc (by omega)), by rw [wx_lt lc]; exact hA.wc, blk_kg hA.ed (k1 le hA.we (by omega)), by rw [wx_lt le]; exact hA.we,
  map_kg hA.em (k1 lm hA.wm (by omega)), by rw [wx_lt lm]; exact hA.wm, map_kg hA.eo (k1 lo hA.wo (by omega)), by rw [wx_lt lo]; exact hA.wo, hA.ne, tab_kg hA.tb (fun b hb => k1 (hA.ltt hb) (hA.wt b hb) (by omega)), hA.mc, fun b hb => by rw [wx_lt (hA.ltt hb)]; exact hA.wt b hb,
  map_kg hA.dd (k1 ld hA.wd (by omega)), by rw [wx_lt ld]; exact hA.wd, map_kg hA.sf (k1 lf hA.wf (by omega)), by rw [wx_lt lf]; exact hA.wf, fun b hb => Nat.lt_of_lt_of_le (hA.ltk hb) hz, fun q => q_kg (hA.kq q) (fun b hb => k1 (hA.ltk hb) (hA.wk b hb) (by omega)), fun b hb => by rw [wx_lt (hA.ltk hb)]; exact hA.wk b hb⟩
 unfold wx
 split
 ·rename_i hlt
  exact (hG' b hb).1 hlt
 ·rfl
theorem Ss.kx (hS : Ss G h s cb t e M) (hz : h.size ≤ h'.size) (ho : ∀ b, b < h.size → ¬ G b → h'[b]? = h[b]?) (hG' : ∀ b, G' b → (G b ∨ h.size ≤ b) ∧ b < h'.size) : Ss G' h' s cb t e M := by
 obtain ⟨w, me, mo, ms, dm, sm, C, kp, hA⟩ := hS
 refine ⟨_, _, _, _, _, _, _, _, hA.otherK hz (fun b hb hw => ho b hb fun g => hw (hA.gw b g).1) fun b hb => ⟨fun hlt => ?_, (hG' b hb).2⟩⟩
 rcases (hG' b hb).1 with g | g
 ·exact (hA.gw b g).1
 ·omega
end
section
variable {lo : Nat} {h h' : Hp} {b : Nat} {L : LM} {s : Sl} {Q : List Value → Hp → Prop}
theorem rdRx (hR : RAt lo h b L s) {i : Nat} (hi : i < L.l.length) : ∃ a, s.a = some a ∧ ∀ k, k < 4 → rd h (Addr.add (Addr.add a (i * 4)) k) = (encR (txL L ((i : Int) + 1)))[k]? := by
 obtain ⟨a, ha, hrd⟩ := hR.own.sl.reads.rd encR_len hi
 refine ⟨a, ha, fun k hk => ?_⟩
 rw [addr_add_add, hrd k hk]
 have hx : hasL L ((i : Int) + 1) := ⟨by omega, by omega⟩
 obtain ⟨hi', e1, e2⟩ := txL_has hx
 rw [e1]
 congr 2
theorem RunningR_s (hR : RAt lo h b L s) (hQ : ∀ h' s', Ext [] h h' → Own T_int 1 encIL h.size h' s' (runningL L) → Q [.slice s'.a s'.n s'.c] h') : S_liveryref08_Log_Running (some ⟨b, 0, none⟩) h Q := by
 refine O_liveryref08_Log_Running _ ?_
 unfold F_liveryref08_Log_Running
 intro X hX
 have hn := hR.len
 have hns := hR.own.1
 have r0 : ∀ {g : Hp}, Ext [] h g → rd g (Addr.add ⟨b, 0, none⟩ 0) = some (.slice s.a s.n s.c) := fun e => by rw [addr_mk, rd_blk (hR.ext0 e).blk]; rfl
 have key : ∀ d k s1 h1, d + k = L.l.length → Ext [] h h1 → Own T_int 1 encIL h.size h1 s1 ((nums k).filter (runsB L)) → X [.slice s1.a s1.n s1.c, .int .i64 (k : Int)] h1 := by
  intro d
  induction d with
  | zero =>
   intro k s1 h1 hd e1 ho
   refine hX _ _ _ ?_
   rw [nilW_some]
   refine ⟨s, r0 e1, ?_⟩
   rw [if_neg (by simp; omega)]
   have : k = L.l.length := by omega
   subst this
   exact hQ h1 s1 e1 ho
  | succ d ih =>
   intro k s1 h1 hd e1 ho
   refine hX _ _ _ ?_
   rw [nilW_some]
   refine ⟨s, r0 e1, ?_⟩
   rw [if_pos (by simp; omega)]
   intro J hJ
   rw [wrap64 (by omega) (by omega)] at hJ
   rw [nilW_some]
   refine ⟨s, r0 e1, ?_⟩
   obtain ⟨a, ha, hrd⟩ := rdRx (hR.ext0 e1) (i := k) (by omega)
   rw [ha, nilW_some, Int.toNat_natCast]
   refine ⟨by omega, by omega, _, hrd 0 (by decide), ?_⟩
   have hns2 := nums_succ k
   by_cases hr : (txL L ((k : Int) + 1)).state = 1
   ·rw [if_pos (by rw [hr]; rfl), wrap64 (by omega) (by omega)]
    have hln : ((nums k).filter (runsB L)).length ≤ 2 ^ 30 := by
     have := List.length_filter_le (runsB L) (nums k)
     rw [nums_len] at this
     omega
    refine app1 (x := (k : Int) + 1) ho rfl zcInt encIL_len encIL_one (by omega) (by decide) (by have := e1.sz; omega) fun s' h2 ho' he' hb' => ?_
    refine hJ s' _ ?_
    have e2 : Ext [] h h2 := e1.trans he' fun b hb hlt => by have := ho.blk b hb; omega
    have := ih (k + 1) s' h2 (by omega) e2 (by
     rw [hns2, List.filter_append]
     have e0 : runsB L ((k : Int) + 1) = true := by unfold runsB; simpa using hr
     simpa [e0] using ho')
    simpa using this
   ·rw [if_neg (fun e => hr (eq_of_beq e))]
    refine hJ s1 _ ?_
    have := ih (k + 1) s1 h1 (by omega) e1 (by
     rw [hns2, List.filter_append]
     have e0 : runsB L ((k : Int) + 1) = false := by unfold runsB; simpa using hr
     simpa [e0] using ho)
    simpa using this
 have := key L.l.length 0 ⟨none, 0, 0⟩ h (by omega) (Ext.refl _ _) (by simpa [nums] using Own.nil _ _)
 simpa using this
theorem HorizonR_s (hR : RAt lo h b L s) (hQ : Q [.int .i64 (horizonL L)] h) : S_liveryref08_Log_Horizon (some ⟨b, 0, none⟩) h Q := by
 refine O_liveryref08_Log_Horizon _ ?_
 unfold F_liveryref08_Log_Horizon
 have hn := hR.len
 have hns := hR.own.1
 have r0 : rd h (Addr.add ⟨b, 0, none⟩ 0) = some (.slice s.a s.n s.c) := by rw [addr_mk, rd_blk hR.blk]; rfl
 have r1 : rd h (Addr.add ⟨b, 0, none⟩ 1) = some (.int .i64 L.clock) := by rw [addr_mk, rd_blk hR.blk]; rfl
 rw [nilW_some]
 refine ⟨_, r1, ?_⟩
 intro X hX
 have key : ∀ d k, d + k = L.l.length → X [.int .i64 (((nums k).filter (runsB L)).foldl (fun m x => mnI m (txL L x).snap) L.clock), .int .i64 (k : Int)] h := by
  intro d
  induction d with
  | zero =>
   intro k hd
   refine hX _ _ _ ?_
   rw [nilW_some]
   refine ⟨s, r0, ?_⟩
   rw [if_neg (by simp; omega)]
   have : k = L.l.length := by omega
   subst this
   exact hQ
  | succ d ih =>
   intro k hd
   refine hX _ _ _ ?_
   rw [nilW_some]
   refine ⟨s, r0, ?_⟩
   rw [if_pos (by simp; omega)]
   intro J hJ
   rw [wrap64 (by omega) (by omega)] at hJ
   rw [nilW_some]
   refine ⟨s, r0, ?_⟩
   obtain ⟨a, ha, hrd⟩ := rdRx hR (i := k) (by omega)
   rw [ha, nilW_some, Int.toNat_natCast]
   refine ⟨by omega, by omega, _, hrd 0 (by decide), ?_⟩
   have hns2 := nums_succ k
   have hih := ih (k + 1) (by omega)
   rw [hns2, List.filter_append, List.foldl_append] at hih
   by_cases hr : (txL L ((k : Int) + 1)).state = 1
   ·rw [if_pos (by rw [hr]; rfl), nilW_some]
    refine ⟨s, r0, ?_⟩
    rw [ha, nilW_some]
    refine ⟨by omega, by omega, _, hrd 1 (by decide), ?_⟩
    refine hJ _ _ ?_
    have e0 : runsB L ((k : Int) + 1) = true := by unfold runsB; simpa using hr
    simpa [e0] using hih
   ·rw [if_neg (fun e => hr (eq_of_beq e))]
    refine hJ _ _ ?_
    have e0 : runsB L ((k : Int) + 1) = false := by unfold runsB; simpa using hr
    simpa [e0] using hih
 have := key L.l.length 0 (by omega)
 simpa [nums] using this
end
end Go.Lift.E14
namespace Go.Lift.E14
open Go Go.Proofs Go.RowKit
set_option maxRecDepth 100000
def doomR (R : RsM) (x : Int) : RsM := if runsB R.L x = true ∧ x ∉ R.doomed then { R with doomed := R.doomed ++ [x] } else R
def pivotR (R : RsM) (p : Int) : RsM := if (spoiltR R.L R.E p).2 = true then (if runsB R.L p = true then doomR R p else (spoiltR R.L R.E p).1.foldl doomR R) else R
def edgeR (R : RsM) (a b : Int) : RsM := if besideL R.L a b = true ∧ (a, b) ∉ R.E.m then pivotR (pivotR { R with E := addQ R.L R.E a b } b) a else R
def readsR (R : RsM) (x : Int) : Bool := runsB R.L x && !decide (x ∈ R.safe)
def readR (R : RsM) (x : Int) (y : ThingM) : RsM := if readsR R x = true then { R with T := TakeQ R.T x y } else R
def sawR (R : RsM) (x w : Int) : RsM := if readsR R x = true then edgeR R x w else R
def wstepR (x : Int) (R : RsM) (who : Int) : RsM :=
 if who = 0 then (if oldOkR R.L R.E x R.T.csn then pivotR { R with E := oldInR R.L R.E x R.T.csn } x else R)
 else if who ≠ x then edgeR R who x else R
def wroteR (R : RsM) (x : Int) (y : ThingM) : RsM := if runsB R.L x = true then (ownersQ R.T y).foldl (wstepR x) R else R
/-- What the reference keeps to. -/
structure RB (n : Nat) (R : RsM) : Prop where
 t : R.T.l.length ≤ n
 m : R.E.m.length ≤ n
 o : R.E.old.length ≤ n
 d : R.doomed.Nodup ∧ ∀ x ∈ R.doomed, 1 ≤ x ∧ x ≤ 200
 f : R.safe.length ≤ n
 k : R.keeps.length ≤ n
 c : R.L.clock < 2 ^ 40
 s : ∀ x, hasL R.L x ↔ (txL R.L x).state ≠ 0
 l : R.L.l.length ≤ 200
 r : OrdC cmpP R.E.m
 p : 0 ≤ R.keep
theorem runsB_has {R : RsM} {n : Nat} (hb : RB n R) {x : Int} (hr : runsB R.L x = true) : 1 ≤ x ∧ x ≤ 200 := by
 unfold runsB at hr
 have h1 := (hb.s x).2 (by have := of_decide_eq_true hr; omega)
 have := h1.1
 have := h1.2
 have := hb.l
 omega
theorem RB.dl {R : RsM} {n : Nat} (hb : RB n R) : R.doomed.length ≤ 201 := nodup_len 201 R.doomed hb.d.1 fun x hx => by have := hb.d.2 x hx; omega
theorem doomR_fld (R : RsM) (x : Int) : (doomR R x).L = R.L ∧ (doomR R x).T = R.T ∧ (doomR R x).E = R.E ∧ (doomR R x).safe = R.safe ∧ (doomR R x).keeps = R.keeps ∧ (doomR R x).keep = R.keep := by
 unfold doomR
 split <;> exact ⟨rfl, rfl, rfl, rfl, rfl, rfl⟩
theorem dooms_fld : ∀ (l : List Int) (R : RsM), (l.foldl doomR R).L = R.L ∧ (l.foldl doomR R).T = R.T ∧ (l.foldl doomR R).E = R.E ∧ (l.foldl doomR R).safe = R.safe ∧ (l.foldl doomR R).keeps = R.keeps ∧ (l.foldl doomR R).keep = R.keep
 | [], R => ⟨rfl, rfl, rfl, rfl, rfl, rfl⟩
 | x :: l, R => by
  obtain ⟨a1, a2, a3, a4, a5, a6⟩ := dooms_fld l (doomR R x)
  obtain ⟨b1, b2, b3, b4, b5, b6⟩ := doomR_fld R x
  rw [List.foldl_cons]
  exact ⟨a1.trans b1, a2.trans b2, a3.trans b3, a4.trans b4, a5.trans b5, a6.trans b6⟩
theorem pivotR_fld (R : RsM) (x : Int) : (pivotR R x).L = R.L ∧ (pivotR R x).T = R.T ∧ (pivotR R x).E = R.E ∧ (pivotR R x).safe = R.safe ∧ (pivotR R x).keeps = R.keeps ∧ (pivotR R x).keep = R.keep := by
 unfold pivotR
 split
 ·split
  ·exact doomR_fld R x
  ·exact dooms_fld _ R
 ·exact ⟨rfl, rfl, rfl, rfl, rfl, rfl⟩
theorem RB.doom {R : RsM} {n : Nat} (hb : RB n R) (x : Int) : RB n (doomR R x) := by
 unfold doomR
 split
 ·rename_i hc
  refine ⟨hb.t, hb.m, hb.o, ⟨?_, ?_⟩, hb.f, hb.k, hb.c, hb.s, hb.l, hb.r, hb.p⟩
  ·simp only
   rw [List.nodup_append]
   exact ⟨hb.d.1, by simp, fun a ha b hb' e => by simp at hb'; subst hb'; subst e; exact hc.2 ha⟩
  ·simp only
   intro y hy
   rcases List.mem_append.1 hy with q | q
   ·exact hb.d.2 y q
   ·simp at q
    subst q
    exact runsB_has hb hc.1
 ·exact hb
theorem RB.dooms {n : Nat} : ∀ (l : List Int) {R : RsM}, RB n R → RB n (l.foldl doomR R)
 | [], _, h => h
 | x :: l, _, h => by rw [List.foldl_cons]; exact RB.dooms l (h.doom x)
theorem RB.pivot {R : RsM} {n : Nat} (hb : RB n R) (x : Int) : RB n (pivotR R x) := by
 unfold pivotR
 split
 ·split
  ·exact hb.doom x
  ·exact RB.dooms _ hb
 ·exact hb
theorem RB.up {R : RsM} {n m : Nat} (hb : RB n R) (h : n ≤ m) : RB m R := ⟨Nat.le_trans hb.t h, Nat.le_trans hb.m h, Nat.le_trans hb.o h, hb.d, Nat.le_trans hb.f h, Nat.le_trans hb.k h, hb.c, hb.s, hb.l, hb.r, hb.p⟩
theorem insP_len (l : List (Int × Int)) (x : Int × Int) : (insC cmpP l x).length = l.length + 1 := by
 unfold insC
 have := posC_le (c := cmpP) l x
 simp
 omega
theorem RB.add {R : RsM} {n : Nat} (hb : RB n R) (a b : Int) : RB (n + 1) { R with E := addQ R.L R.E a b } := by
 have h1 := hb.m
 have h2 := hb.o
 refine ⟨Nat.le_succ_of_le hb.t, ?_, ?_, hb.d, Nat.le_succ_of_le hb.f, Nat.le_succ_of_le hb.k, hb.c, hb.s, hb.l, ?_, hb.p⟩
 ·simp only
  unfold addQ
  split
  ·simp only
   rw [insP_len]
   omega
  ·omega
 ·simp only
  unfold addQ
  split <;> (show R.E.old.length ≤ n + 1; omega)
 ·simp only
  unfold addQ
  split
  ·rename_i hc
   exact insC_ord cmpP3 cmpP_zero hb.r hc.2
  ·exact hb.r
theorem RB.edge {R : RsM} {n : Nat} (hb : RB n R) (a b : Int) : RB (n + 1) (edgeR R a b) := by
 unfold edgeR
 split
 ·exact ((hb.add a b).pivot b).pivot a
 ·exact hb.up (Nat.le_succ n)
theorem oldInR_len (L : LM) (M : EM) (b c : Int) : (oldInR L M b c).old.length ≤ M.old.length + 1 ∧ (oldInR L M b c).m = M.m := by
 unfold oldInR
 split
 ·refine ⟨?_, rfl⟩
  simp only [List.length_append, List.length_cons, List.length_nil]
  have := List.length_filter_le (fun q : Int × Int => !decide (q.1 = b)) M.old
  omega
 ·exact ⟨by omega, rfl⟩
theorem RB.oldIn {R : RsM} {n : Nat} (hb : RB n R) (x c : Int) : RB (n + 1) { R with E := oldInR R.L R.E x c } := by
 obtain ⟨h1, h2⟩ := oldInR_len R.L R.E x c
 have h3 := hb.o
 have h4 := hb.m
 exact ⟨Nat.le_succ_of_le hb.t, by simp only; rw [h2]; omega, by simp only; omega, hb.d, Nat.le_succ_of_le hb.f, Nat.le_succ_of_le hb.k, hb.c, hb.s, hb.l, by simp only; rw [h2]; exact hb.r, hb.p⟩
theorem RB.wstep {R : RsM} {n : Nat} (hb : RB n R) (x w : Int) : RB (n + 1) (wstepR x R w) := by
 unfold wstepR
 split
 ·split
  ·exact (hb.oldIn x _).pivot x
  ·exact hb.up (Nat.le_succ n)
 ·split
  ·exact hb.edge w x
  ·exact hb.up (Nat.le_succ n)
section
variable {G : Nat → Prop} {h h' : Hp} {q rb tb eb : Nat} {R : RsM} {Q : List Value → Hp → Prop} {n : Nat}
theorem runs_q (hR : Rz G h q rb tb eb R) (x : Int) (hQ : ∀ h', Ext [] h h' → Q [.bool (runsB R.L x)] h') : S_liveryref15_Ssi_runs (some ⟨q, 0, none⟩) x h Q := by
 refine O_liveryref15_Ssi_runs _ _ ?_
 unfold F_liveryref15_Ssi_runs
 rw [nilW_some]
 refine ⟨_, hR.fld.1, ?_⟩
 obtain ⟨s08, hra, _⟩ := hR.onL
 refine Get_s hra x fun h1 e1 => ⟨_, _, _, _, rfl, ?_⟩
 have := hQ h1 e1
 unfold runsB at this
 rw [decEq]
 exact this
theorem has_q {s : Sl} {xs : List Int} (hs : Reads 1 encIL h s xs) (hl : xs.length ≤ 2 ^ 40) (x : Int) (hQ : Q [.bool (decide (x ∈ xs))] h) : S_liveryref15_has s x h Q := by
 refine O_liveryref15_has _ _ ?_
 unfold F_liveryref15_has
 have hn := hs.1
 intro X hX
 have key : ∀ d i, d + i = xs.length → (∀ j (hj : j < xs.length), j < i → xs[j] ≠ x) → X [.int .i64 (i : Int)] h := by
  intro d
  induction d with
  | zero =>
   intro i hi hno
   refine hX _ _ ?_
   rw [if_neg (by simp; omega)]
   rw [decide_eq_false (fun hm => by
    obtain ⟨j, hj, e⟩ := List.getElem_of_mem hm
    exact hno j hj (by omega) e)] at hQ
   exact hQ
  | succ d ih =>
   intro i hi hno
   have hil : i < xs.length := by omega
   refine hX _ _ ?_
   rw [if_pos (by simp; omega)]
   obtain ⟨a, ha, hr⟩ := rdI hs hil
   rw [ha, nilW_some, Int.toNat_natCast]
   refine ⟨by omega, by omega, _, hr, ?_⟩
   by_cases e : xs[i] = x
   ·rw [if_pos (by simpa using e)]
    rw [decide_eq_true (show x ∈ xs by rw [← e]; exact List.getElem_mem hil)] at hQ
    exact hQ
   ·rw [if_neg (by simpa using e), wrap64 (by omega) (by omega)]
    refine ih (i + 1) (by omega) fun j hj hlt => ?_
    rcases (by omega : j < i ∨ j = i) with k | k
    ·exact hno j hj k
    ·subst k; exact e
 have := key xs.length 0 (by omega) (fun j _ hj => by omega)
 simpa using this
theorem Safe_q (hR : Rz G h q rb tb eb R) (hb : RB n R) (hn : n ≤ 2 ^ 20) (x : Int) (hQ : Q [.bool (decide (x ∈ R.safe))] h) : S_liveryref15_Ssi_Safe (some ⟨q, 0, none⟩) x h Q := by
 refine O_liveryref15_Ssi_Safe _ _ ?_
 unfold F_liveryref15_Ssi_Safe
 rw [nilW_some]
 obtain ⟨s, r, ho⟩ := hR.rdF
 refine ⟨s, r, ?_⟩
 have := hb.f
 exact has_q ho.sl.reads (by omega) x ⟨_, rfl, hQ⟩
theorem IsDoomed_q (hR : Rz G h q rb tb eb R) (hb : RB n R) (x : Int) (hQ : Q [.bool (decide (x ∈ R.doomed))] h) : S_liveryref15_Ssi_IsDoomed (some ⟨q, 0, none⟩) x h Q := by
 refine O_liveryref15_Ssi_IsDoomed _ _ ?_
 unfold F_liveryref15_Ssi_IsDoomed
 rw [nilW_some]
 obtain ⟨s, r, ho⟩ := hR.rdD
 refine ⟨s, r, ?_⟩
 have := hb.dl
 exact has_q ho.sl.reads (by omega) x ⟨_, rfl, hQ⟩
theorem doom_q (hR : Rz G h q rb tb eb R) (hb : RB n R) (x : Int) (hQ : ∀ h', Rz G h' q rb tb eb (doomR R x) → KG G h h' → Q [] h') : S_liveryref15_Ssi_doom (some ⟨q, 0, none⟩) x h Q := by
 refine O_liveryref15_Ssi_doom _ _ ?_
 unfold F_liveryref15_Ssi_doom
 intro J hJ
 have hdl := hb.dl
 have no : ∀ g, Ext [] h g → ¬ (runsB R.L x = true ∧ x ∉ R.doomed) → J [.bool false] g := by
  intro g eg hc
  refine hJ _ _ ?_
  rw [if_neg (by decide)]
  unfold doomR at hQ
  rw [if_neg hc] at hQ
  exact hQ g (hR.e0 eg) (Rz.kgE eg hR)
 refine runs_q hR x fun g1 e1 => ⟨_, rfl, ?_⟩
 cases hr : runsB R.L x with
 | false =>
  rw [if_neg (by decide)]
  exact no g1 e1 fun q => by rw [hr] at q; cases q.1
 | true =>
  rw [if_pos rfl, nilW_some]
  have hR1 := hR.e0 e1
  obtain ⟨s, r, ho⟩ := hR1.rdD
  refine ⟨s, r, ?_⟩
  refine has_q ho.sl.reads (by omega) x ⟨_, rfl, ?_⟩
  by_cases hm : x ∈ R.doomed
  ·rw [decide_eq_true hm]
   exact no g1 e1 fun q => q.2 hm
  ·rw [decide_eq_false hm]
   refine hJ _ _ ?_
   rw [if_pos (by rfl)]
   refine newI fun g2 z2 b2 e2 => ?_
   rw [nilW_some]
   have hR2 := hR1.e0 e2
   obtain ⟨s2, r2, ho2⟩ := hR2.rdD
   refine ⟨s2, r2, ?_⟩
   refine clG encIL_len encIL_one zcInt (by decide) (lo' := g1.size) ho2.sl.reads.2.2 ho2.1 (by have := ho2.1; omega) b2 (Nat.le_refl _) fun l1 g3 o3 e3 hb3 => ?_
   refine newI fun g4 z4 b4 e4 => ?_
   have o4 := o3.ext0 e4
   have z3 := e3.sz
   refine oneG encIL_len encIL_one zcInt (by decide) (k := x) o4 b4 (by omega) (by omega) fun l2 g5 o5 e5 hb5 => ?_
   have e15 : Ext [] g1 g5 := (((e2.trans e3 fun b hb hlt => by simp at hb; omega).trans0 e4).trans e5 fun b hb hlt => by have := o4.blk b hb; omega)
   rw [nilW_some]
   refine hR1.setD e15 o5 fun g6 hR6 k6 => ?_
   unfold doomR at hQ
   rw [if_pos ⟨hr, hm⟩] at hQ
   exact hQ g6 hR6 ((Rz.kgE e1 hR).trans k6)
theorem Rz.gx (hR : Rz G h q rb tb eb R) (he : Ext [] h h') : Rz (GX G h h') h' q rb tb eb R := hR.grow he fun b hb => by
 rcases hb with k | k
 ·exact ⟨Or.inl k, by have := hR.lt k; have := he.sz; omega⟩
 ·exact ⟨Or.inr k.1, k.2⟩
theorem own_kg' {T : TypeId} {α : Type} {sz lo : Nat} {enc : α → List Value} {s : Sl} {xs : List α} (ho : Own T sz enc lo h s xs) (kg : KG G h h') (hG : ∀ b, lo ≤ b → b < h.size → G b) : Own T sz enc lo h' s xs :=
 own_kg ho fun b hb => kg.old b (hG b (own_ltG ho b hb).1 (own_ltG ho b hb).2)
theorem pivot_q (hR : Rz G h q rb tb eb R) (hb : RB n R) (hn : n ≤ 2 ^ 20) (p : Int) (hl : (spoiltR R.L R.E p).1.length ≤ 2 ^ 30) (hQ : ∀ h', Rz G h' q rb tb eb (pivotR R p) → KG G h h' → Q [] h') : S_liveryref15_Ssi_pivot (some ⟨q, 0, none⟩) p h Q := by
 refine O_liveryref15_Ssi_pivot _ _ ?_
 unfold F_liveryref15_Ssi_pivot
 rw [nilW_some]
 refine ⟨_, hR.fld.2.2.1, ?_⟩
 obtain ⟨s08, hra, _⟩ := hR.onL
 obtain ⟨sl, so, hqa, _⟩ := hR.onQ
 have hm := hb.m
 have ho := hb.o
 refine SpoiltR_s hqa hra p ⟨by omega, by omega⟩ fun g1 l e1 ho1 => ⟨l, _, rfl, ?_⟩
 refine newI fun g2 z2 b2 e2 => ?_
 refine st_blk b2 (by simp) fun g3 z3 b3 e3 => ?_
 have e23 : Ext [] g1 g3 := e2.trans e3 fun b hb hlt => by simp at hb; omega
 have e03 := e1.trans0 e23
 refine ⟨(spoiltR R.L R.E p).2, by rw [addr_mk, rd_blk b3]; rfl, ?_⟩
 unfold pivotR at hQ
 by_cases hsp : (spoiltR R.L R.E p).2 = true
 ·rw [if_neg (by rw [hsp]; decide)]
  rw [if_pos hsp] at hQ
  refine runs_q (hR.e0 e03) p fun g4 e4 => ⟨_, rfl, ?_⟩
  have e04 := e03.trans0 e4
  have hR4 := hR.e0 e04
  by_cases hr : runsB R.L p = true
  ·rw [if_pos hr]
   rw [if_pos hr] at hQ
   refine doom_q hR4 hb p fun g5 hR5 k5 => ⟨rfl, ?_⟩
   exact hQ g5 hR5 ((Rz.kgE e04 hR).trans k5)
  ·rw [if_neg hr]
   rw [if_neg hr] at hQ
   have hR4' := hR.gx e04
   have b4 := e4.get b3 (by simp)
   have ho4 := (ho1.ext0 e23).ext0 e4
   have hlt := blk_lt b4
   have hz1 := e1.sz
   intro X hX
   have key : ∀ d i g R', d + i = (spoiltR R.L R.E p).1.length → Rz (GX G h g4) g q rb tb eb R' → RB n R' → R' = ((spoiltR R.L R.E p).1.take i).foldl doomR R → KG (GX G h g4) g4 g → X [.int .i64 (i : Int)] g := by
    intro d
    induction d with
    | zero =>
     intro i g R' hi hR' hb' he kg
     have bv := blk_kg b4 (kg.old _ (Or.inr ⟨by omega, hlt⟩))
     refine hX _ _ ?_
     refine ⟨l, by rw [addr_mk, rd_blk bv]; rfl, ?_⟩
     have hn1 := ho1.1
     rw [if_neg (by simp; omega)]
     rw [List.take_of_length_le (by omega)] at he
     subst he
     exact hQ g (hR'.less fun b hb => Or.inl hb) ((Rz.kgE e04 hR).trans (kg.anti fun b hb => Or.inl hb))
    | succ d ih =>
     intro i g R' hi hR' hb' he kg
     have hil : i < (spoiltR R.L R.E p).1.length := by omega
     have bv := blk_kg b4 (kg.old _ (Or.inr ⟨by omega, hlt⟩))
     have hov := own_kg' ho4 kg fun b h1 h2 => Or.inr ⟨h1, h2⟩
     refine hX _ _ ?_
     refine ⟨l, by rw [addr_mk, rd_blk bv]; rfl, ?_⟩
     have hn1 := ho1.1
     rw [if_pos (by simp; omega)]
     refine ⟨l, by rw [addr_mk, rd_blk bv]; rfl, ?_⟩
     obtain ⟨a, ha, hrd⟩ := rdI hov.sl.reads hil
     rw [ha, nilW_some, Int.toNat_natCast]
     refine ⟨by omega, by omega, _, hrd, ?_⟩
     refine doom_q hR' hb' _ fun g' hR2 k2 => ⟨rfl, ?_⟩
     rw [wrap64 (by omega) (by omega)]
     refine ih (i + 1) g' _ (by omega) hR2 (hb'.doom _) ?_ (kg.trans k2)
     rw [List.take_add_one, List.getElem?_eq_getElem hil, Option.toList_some, List.foldl_append, ← he]
     rfl
   have := key (spoiltR R.L R.E p).1.length 0 g4 R (by omega) hR4' hb (by simp) (KG.refl _ _)
   simpa using this
 ·rw [if_pos (by simpa using hsp)]
  rw [if_neg hsp] at hQ
  exact hQ g3 (hR.e0 e03) (Rz.kgE e03 hR)
/-- Every list of pivots' readers is as short as this. -/
def SL (R : RsM) : Prop := ∀ p, (spoiltR R.L R.E p).1.length ≤ 2 ^ 30
theorem SL.of {R R' : RsM} (h : SL R) (hL : R'.L = R.L) (hE : R'.E = R.E) : SL R' := fun p => by rw [hL, hE]; exact h p
theorem edge_q (hR : Rz G h q rb tb eb R) (hb : RB n R) (hn : n + 1 ≤ 2 ^ 20) (a b : Int) (hl : SL { R with E := addQ R.L R.E a b }) (hQ : ∀ h', Rz G h' q rb tb eb (edgeR R a b) → KG G h h' → Q [] h') : S_liveryref15_Ssi_edge (some ⟨q, 0, none⟩) a b h Q := by
 refine O_liveryref15_Ssi_edge _ _ _ ?_
 unfold F_liveryref15_Ssi_edge
 rw [nilW_some]
 refine ⟨_, hR.fld.2.2.1, ?_⟩
 obtain ⟨s08, hra, _⟩ := hR.onL
 obtain ⟨sl, so, hqa, hset⟩ := hR.onQ
 have hm := hb.m
 refine AddR_s hqa hra hb.s hb.r a b (by omega) (Nat.zero_le _) fun g1 sl1 hq1 e1 hs1 => ⟨_, rfl, ?_⟩
 obtain ⟨hR1, k1⟩ := hset hq1 e1 fun c hc => by
  rcases hc with g | g
  ·exact (hs1 c g).imp Or.inl id
  ·exact Or.inl (Or.inr g)
 unfold edgeR at hQ
 by_cases hc : besideL R.L a b = true ∧ (a, b) ∉ R.E.m
 ·rw [if_pos (decide_eq_true hc)]
  rw [if_pos hc] at hQ
  have hb1 := hb.add a b
  refine pivot_q hR1 hb1 hn b (hl b) fun g2 hR2 k2 => ⟨rfl, ?_⟩
  obtain ⟨f1, f2, f3, _⟩ := pivotR_fld { R with E := addQ R.L R.E a b } b
  refine pivot_q hR2 (hb1.pivot b) hn a (hl.of f1 f3 a) fun g3 hR3 k3 => ⟨rfl, ?_⟩
  exact hQ g3 hR3 ((k1.trans k2).trans k3)
 ·rw [if_neg (by simpa using hc)]
  rw [if_neg hc] at hQ
  have hE : addQ R.L R.E a b = R.E := by unfold addQ; rw [if_neg hc]
  rw [hE] at hR1
  exact hQ g1 hR1 k1
theorem reads_q (hR : Rz G h q rb tb eb R) (hb : RB n R) (hn : n ≤ 2 ^ 20) (x : Int) {J : List Value → Hp → Prop} (hJ : ∀ h', Ext [] h h' → J [.bool (readsR R x)] h') : S_liveryref15_Ssi_runs (some ⟨q, 0, none⟩) x h fun (vs : List Value) (g : Hp) => ∃ b : Bool, vs = [(Value.bool b)] ∧
  (if b = true then (S_liveryref15_Ssi_Safe (some ⟨q, 0, none⟩) x g fun (vs9 : List Value) (h10 : Hp) => ∃ b11 : Bool, vs9 = [(Value.bool b11)] ∧ J [(Value.bool (!b11))] h10) else (J [(Value.bool false)] g)) := by
 refine runs_q hR x fun g1 e1 => ⟨_, rfl, ?_⟩
 unfold readsR at hJ
 by_cases hr : runsB R.L x = true
 ·rw [if_pos hr]
  refine Safe_q (hR.e0 e1) hb hn x ⟨_, rfl, ?_⟩
  have := hJ g1 e1
  rw [hr, Bool.true_and] at this
  exact this
 ·rw [if_neg hr]
  have := hJ g1 e1
  have hf : runsB R.L x = false := by simpa using hr
  rw [hf, Bool.false_and] at this
  exact this
theorem Saw_q (hR : Rz G h q rb tb eb R) (hb : RB n R) (hn : n + 1 ≤ 2 ^ 20) (x w : Int) (hl : SL { R with E := addQ R.L R.E x w }) (hQ : ∀ h', Rz G h' q rb tb eb (sawR R x w) → KG G h h' → Q [] h') : S_liveryref15_Ssi_Saw (some ⟨q, 0, none⟩) x w h Q := by
 refine O_liveryref15_Ssi_Saw _ _ _ ?_
 unfold F_liveryref15_Ssi_Saw
 intro J hJ
 refine reads_q hR hb (by omega) x fun g1 e1 => ?_
 refine hJ _ _ ?_
 unfold sawR at hQ
 by_cases hr : readsR R x = true
 ·rw [if_pos hr]
  rw [if_pos hr] at hQ
  refine edge_q (hR.e0 e1) hb hn x w hl fun g2 hR2 k2 => ⟨rfl, hQ g2 hR2 ((Rz.kgE e1 hR).trans k2)⟩
 ·rw [if_neg hr]
  rw [if_neg hr] at hQ
  exact hQ g1 (hR.e0 e1) (Rz.kgE e1 hR)
theorem Read_q (hR : Rz G h q rb tb eb R) (hb : RB n R) (hn : n ≤ 2 ^ 20) (x : Int) (y : ThingM) (hQ : ∀ h', Rz G h' q rb tb eb (readR R x y) → KG G h h' → Q [] h') : S_liveryref15_Ssi_Read (some ⟨q, 0, none⟩) x y.kind y.name y.rel y.index y.n h Q := by
 refine O_liveryref15_Ssi_Read _ _ _ _ _ _ _ ?_
 unfold F_liveryref15_Ssi_Read
 refine newI fun h1 s1 b1' e1 => ?_
 have b1 : Blk h1 h.size (encT y).toArray T_liveryref13_Thing := b1'
 intro J hJ
 have hR1 := hR.e0 e1
 refine reads_q hR1 hb hn x fun g1 eg1 => ?_
 have e01 := e1.trans0 eg1
 refine hJ _ _ ?_
 unfold readR at hQ
 by_cases hr : readsR R x = true
 ·rw [if_pos hr, nilW_some]
  rw [if_pos hr] at hQ
  have hR2 := hR.e0 e01
  refine ⟨_, hR2.fld.2.1, ?_⟩
  refine rd5I (eg1.get b1 (by simp)) ?_
  obtain ⟨sT, hta, hset⟩ := hR2.onT
  have := hb.t
  refine TakeT_s hta x y (by omega) (Nat.zero_le _) fun g2 s2 r hT2 e2 hs2 => ⟨_, rfl, ?_⟩
  obtain ⟨hR3, k3⟩ := hset hT2 e2 hs2
  exact hQ g2 hR3 ((Rz.kgE e01 hR).trans k3)
 ·rw [if_neg hr]
  rw [if_neg hr] at hQ
  exact hQ g1 (hR.e0 e01) (Rz.kgE e01 hR)
end
end Go.Lift.E14

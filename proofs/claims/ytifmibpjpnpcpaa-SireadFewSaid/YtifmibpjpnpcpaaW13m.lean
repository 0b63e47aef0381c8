/- Things that were read: a new table; no table; a step. -/
import Derived.Test.YtifmibpjpnpcpaaW13l
set_option linter.unusedSimpArgs false
set_option linter.unusedVariables false
namespace Go.Lift
open Go Go.Proofs Go.RowKit Go.Shelf
set_option maxRecDepth 100000
structure StepS where
  op : Int
  xid : Int
  csn : Int
  a : ThingM
  b : ThingM
def encStep (x : StepS) : List Value := [.int .i64 x.op, .int .i64 x.xid, .int .i64 x.csn, .int .i64 x.a.kind, .string x.a.name, .int .i64 x.a.rel, .string x.a.index, .int .i64 x.a.n, .int .i64 x.b.kind, .string x.b.name, .int .i64 x.b.rel, .string x.b.index, .int .i64 x.b.n]
theorem encStep_len (x : StepS) : (encStep x).length = 13 := rfl
def okT (o : Int) (x : ThingM) : Prop := (1 ≤ o ∧ o ≤ 200) ∧ 1 ≤ x.kind ∧ x.kind ≤ 4
instance (o : Int) (x : ThingM) : Decidable (okT o x) := by unfold okT; exact inferInstance
def TakeS (S : SM) (o : Int) (x : ThingM) : SM := if okT o x then takeS S o x else S
def doS (S : SM) (x : StepS) : SM :=
  if x.op = 0 then TakeS S x.xid x.a
  else if x.op = 1 then copyS S x.a x.b
  else if x.op = 2 then roughS S x.a.rel x.b.rel
  else if x.op = 3 then indexS S x.a.rel x.a.index
  else if x.op = 4 then dropS S x.xid
  else if x.op = 5 then foldS S x.xid x.csn
  else S
theorem dropS_any {N : Nat} {S : SM} (h : SOk N S) (o : Int) : SOk N (dropS S o) ∧ (dropS S o).each = S.each ∧ (dropS S o).all = S.all := by
  by_cases ho : 0 ≤ o ∧ o ≤ 200
  · obtain ⟨d1, _, _, _, d5, d6, _⟩ := dropS_ok h ho
    exact ⟨d1, d5, d6⟩
  · have hn : afind S.m o = none := (afind_none _ _).2 fun hm => ho (h.own o hm)
    have hl : loseS S o (fun _ => true) = S := by unfold loseS; rw [hn]
    have hd : dropS S o = { S with m := adel S.m o, csn := if o = 0 then 0 else S.csn } := by
      show ({ loseS S o (fun _ => true) with m := adel (loseS S o fun _ => true).m o, csn := if o = 0 then 0 else (loseS S o fun _ => true).csn } : SM) = _
      rw [hl]
    have ha : adel S.m o = S.m := by
      have : ∀ m : MM, afind m o = none → adel m o = m := by
        intro m
        induction m with
        | nil => intro _; rfl
        | cons p m ih =>
          obtain ⟨a, u⟩ := p
          intro hf
          simp only [afind] at hf
          simp only [adel]
          split at hf
          · cases hf
          · rename_i hne
            rw [if_neg hne, ih hf]
      exact this _ hn
    rw [hd, ha]
    exact ⟨⟨h.nd, h.own, h.tnd, h.kind, h.one, h.each, h.fine, h.all, h.ea, h.al, h.bnd⟩, rfl, rfl⟩
theorem doS_ok {N : Nat} {S : SM} (h : SOk N S) (x : StepS) : SOk (N + 201) (doS S x) ∧ (doS S x).each = S.each ∧ (doS S x).all = S.all := by
  have up : SOk (N + 201) S := h.up (by have := h.bnd; omega)
  unfold doS
  split
  · unfold TakeS
    split
    · rename_i hk
      have hk1 := hk.1
      obtain ⟨h1, _, _, h2, h3, _⟩ := takeS_ok h (o := x.xid) (by omega) x.a
      exact ⟨h1.up (by have := h1.bnd; omega), h2, h3⟩
    · exact ⟨up, rfl, rfl⟩
  split
  · exact takesO_ok h _ _
  split
  · exact takesO_ok h _ _
  split
  · exact takesO_ok h _ _
  split
  · obtain ⟨h1, h2, h3⟩ := dropS_any h x.xid
    exact ⟨h1.up (by have := h1.bnd; omega), h2, h3⟩
  split
  · obtain ⟨h1, h2, h3⟩ := foldS_ok h (o := x.xid) x.csn
    exact ⟨h1.up (by have := h1.bnd; omega), h2, h3⟩
  · exact ⟨up, rfl, rfl⟩
section
variable {G : Nat → Prop} {h : Hp} {t m : Nat} {S : SM} {o : Int} {Q : List Value → Hp → Prop}
/-- A new table. -/
theorem New_s (hG : ∀ b, G b → b < h.size) {each all : Int} (he : 1 ≤ each ∧ each ≤ 10000) (ha : 1 ≤ all ∧ all ≤ 10000) (hQ : ∀ h' t, Sv G h' t ⟨each, all, [], 0, 0⟩ → Ext [] h h' → Q [.pointer (some ⟨t, 0, none⟩), .int .i64 0] h') : S_siread_New each all h Q := by
  refine O_siread_New _ _ ?_
  unfold F_siread_New
  intro J hJ
  rw [if_neg (by simp; omega), if_neg (by simp; omega), if_neg (by simp; omega), decide_eq_false (by omega)]
  refine hJ _ _ ?_
  rw [if_neg (by decide)]
  refine newI fun h1 s1 b1 e1 => ?_
  refine newI fun h2 s2 b2 e2 => ?_
  have b1' := e2.get b1 (by simp)
  refine hQ h2 h1.size ⟨fun b hb => by have := hG b hb; omega, h.size, [], ⟨b2, ⟨#[], 0, b1', rfl, Born.nil 0⟩, by simp, fun o c hf => (by cases hf), fun o c hf => (by cases hf), fun o c hf => (by cases hf), fun o o' c c' hf => (by cases hf), fun o c hf => (by cases hf), Nat.zero_le _, Nat.zero_le _⟩, rfl, ?_⟩ (e1.trans0 e2)
  rintro b (rfl | rfl | ⟨o, c, hf, _⟩) hg
  · have := hG _ hg; omega
  · have := hG _ hg; omega
  · cases hf
theorem SOk.new {each all : Int} (he : 1 ≤ each ∧ each ≤ 10000) (ha : 1 ≤ all ∧ all ≤ 10000) : SOk 0 ⟨each, all, [], 0, 0⟩ :=
  ⟨by simp, by simp, fun o l hf => (by cases hf), fun o l hf => (by cases hf), fun o l hf => (by cases hf), fun o l hf => (by cases hf), rfl, by first | omega | (simp only; omega), he, ha, Nat.le_refl _⟩
theorem TakeV_s {N : Nat} (hS : Sv G h t S) (hok : SOk N S) (hN : N ≤ 2 ^ 20) (x : ThingM) (hQ : ∀ h', Sv G h' t (TakeS S o x) → KG G h h' → Q [.int .i64 (if okT o x then 0 else 1)] h') :
    S_siread_Table_Take (some ⟨t, 0, none⟩) o x.kind x.name x.rel x.index x.n h Q := by
  refine Take_s hS hok hN x fun h' hS' hk' => hQ h' ?_ hk'
  unfold TakeS
  by_cases e : okT o x
  · have e' : (1 ≤ o ∧ o ≤ 200) ∧ 1 ≤ x.kind ∧ x.kind ≤ 4 := e
    rw [if_pos e'] at hS'
    rw [if_pos e]
    exact hS'
  · have e' : ¬ ((1 ≤ o ∧ o ≤ 200) ∧ 1 ≤ x.kind ∧ x.kind ≤ 4) := e
    rw [if_neg e'] at hS'
    rw [if_neg e]
    exact hS'
/-! no table -/
theorem TakeN_s (x : ThingM) (hQ : ∀ h', Ext [] h h' → Q [.int .i64 1] h') : S_siread_Table_Take none o x.kind x.name x.rel x.index x.n h Q := by
  refine O_siread_Table_Take _ _ _ _ _ _ _ ?_
  unfold F_siread_Table_Take
  refine newI fun h1 s1 b1 e1 => ?_
  intro J hJ
  rw [if_pos (by rfl)]
  refine hJ _ _ ?_
  rw [if_pos rfl]
  exact hQ h1 e1
theorem HasN_s (x : ThingM) (hQ : ∀ h', Ext [] h h' → Q [.bool false] h') : S_siread_Table_Has none o x.kind x.name x.rel x.index x.n h Q := by
  refine O_siread_Table_Has _ _ _ _ _ _ _ ?_
  unfold F_siread_Table_Has
  refine newI fun h1 s1 b1 e1 => ?_
  rw [if_neg (by simp)]
  exact hQ h1 e1
theorem OwnersN_s (x : ThingM) (hQ : ∀ h', Ext [] h h' → Q [.slice none 0 0] h') : S_siread_Table_Owners none x.kind x.name x.rel x.index x.n h Q := by
  refine O_siread_Table_Owners _ _ _ _ _ _ ?_
  unfold F_siread_Table_Owners
  refine newI fun h1 s1 b1 e1 => ?_
  rw [if_pos (by rfl)]
  exact hQ h1 e1
theorem OldN_s (hQ : Q [.int .i64 0] h) : S_siread_Table_Old none h Q := by
  refine O_siread_Table_Old _ ?_
  unfold F_siread_Table_Old
  rw [if_pos (by rfl)]
  exact hQ
theorem FineN_s (hQ : Q [.int .i64 0] h) : S_siread_Table_Fine none h Q := by
  refine O_siread_Table_Fine _ ?_
  unfold F_siread_Table_Fine
  rw [if_pos (by rfl)]
  exact hQ
theorem OfN_s (hQ : Q [.slice none 0 0] h) : S_siread_Table_Of none o h Q := by
  refine O_siread_Table_Of _ _ ?_
  unfold F_siread_Table_Of
  rw [if_pos (by rfl)]
  exact hQ
theorem CopyN_s (a b : ThingM) (hQ : ∀ h', Ext [] h h' → Q [] h') : S_siread_Table_Copy none a.kind a.name a.rel a.index a.n b.kind b.name b.rel b.index b.n h Q := by
  refine O_siread_Table_Copy _ _ _ _ _ _ _ _ _ _ _ ?_
  unfold F_siread_Table_Copy
  refine newI fun h1 s1 b1 e1 => ?_
  refine newI fun h2 s2 b2 e2 => ?_
  rw [if_pos (by rfl)]
  exact hQ h2 (e1.trans0 e2)
theorem RoughN_s (r r2 : Int) (hQ : ∀ h', Ext [] h h' → Q [] h') : S_siread_Table_Rough none r r2 h Q := by
  refine O_siread_Table_Rough _ _ _ ?_
  unfold F_siread_Table_Rough
  refine newI fun h1 s1 b1 e1 => ?_
  rw [if_pos (by rfl)]
  exact hQ h1 e1
theorem IndexN_s (r : Int) (i : ByteArray) (hQ : ∀ h', Ext [] h h' → Q [] h') : S_siread_Table_Index none r i h Q := by
  refine O_siread_Table_Index _ _ _ ?_
  unfold F_siread_Table_Index
  refine newI fun h1 s1 b1 e1 => ?_
  refine newI fun h2 s2 b2 e2 => ?_
  rw [if_pos (by rfl)]
  exact hQ h2 (e1.trans0 e2)
theorem DropN_s (hQ : Q [] h) : S_siread_Table_Drop none o h Q := by
  refine O_siread_Table_Drop _ _ ?_
  unfold F_siread_Table_Drop
  rw [if_pos (by rfl)]
  exact hQ
theorem FoldN_s (c : Int) (hQ : Q [] h) : S_siread_Table_Fold none o c h Q := by
  refine O_siread_Table_Fold _ _ _ ?_
  unfold F_siread_Table_Fold
  intro J hJ
  rw [if_pos (by rfl)]
  refine hJ _ _ ?_
  rw [if_pos rfl]
  exact hQ
/-! steps -/
theorem rdSt {v : Nat} {x : StepS} {T : TypeId} (hb : Blk h v (encStep x).toArray T) (i : Nat) : rd h (Addr.add (Addr.mk v 0 none) i) = (encStep x)[i]? := by rw [addr_mk, rd_blk hb, Nat.zero_add]; simp
theorem rdSt2 {v : Nat} {x : StepS} {T : TypeId} (hb : Blk h v (encStep x).toArray T) (i j : Nat) : rd h (Addr.add (Addr.add (Addr.mk v 0 none) i) j) = (encStep x)[i + j]? := by rw [addr_add_add]; exact rdSt hb _
theorem rdA {v : Nat} {x : StepS} {T : TypeId} {K : Int → ByteArray → Int → ByteArray → Int → Prop} (hb : Blk h v (encStep x).toArray T) (H : K x.a.kind x.a.name x.a.rel x.a.index x.a.n) :
    ∃ n1 : Int, rd h (Addr.add (Addr.add (Addr.mk v 0 none) 3) 0) = some (Value.int .i64 n1) ∧ ∃ s2 : ByteArray, rd h (Addr.add (Addr.add (Addr.mk v 0 none) 3) 1) = some (Value.string s2) ∧ ∃ n3 : Int, rd h (Addr.add (Addr.add (Addr.mk v 0 none) 3) 2) = some (Value.int .i64 n3) ∧ ∃ s4 : ByteArray, rd h (Addr.add (Addr.add (Addr.mk v 0 none) 3) 3) = some (Value.string s4) ∧ ∃ n5 : Int, rd h (Addr.add (Addr.add (Addr.mk v 0 none) 3) 4) = some (Value.int .i64 n5) ∧ K n1 s2 n3 s4 n5 :=
  ⟨_, rdSt2 hb 3 0, _, rdSt2 hb 3 1, _, rdSt2 hb 3 2, _, rdSt2 hb 3 3, _, rdSt2 hb 3 4, H⟩
theorem rdB {v : Nat} {x : StepS} {T : TypeId} {K : Int → ByteArray → Int → ByteArray → Int → Prop} (hb : Blk h v (encStep x).toArray T) (H : K x.b.kind x.b.name x.b.rel x.b.index x.b.n) :
    ∃ n1 : Int, rd h (Addr.add (Addr.add (Addr.mk v 0 none) 8) 0) = some (Value.int .i64 n1) ∧ ∃ s2 : ByteArray, rd h (Addr.add (Addr.add (Addr.mk v 0 none) 8) 1) = some (Value.string s2) ∧ ∃ n3 : Int, rd h (Addr.add (Addr.add (Addr.mk v 0 none) 8) 2) = some (Value.int .i64 n3) ∧ ∃ s4 : ByteArray, rd h (Addr.add (Addr.add (Addr.mk v 0 none) 8) 3) = some (Value.string s4) ∧ ∃ n5 : Int, rd h (Addr.add (Addr.add (Addr.mk v 0 none) 8) 4) = some (Value.int .i64 n5) ∧ K n1 s2 n3 s4 n5 :=
  ⟨_, rdSt2 hb 8 0, _, rdSt2 hb 8 1, _, rdSt2 hb 8 2, _, rdSt2 hb 8 3, _, rdSt2 hb 8 4, H⟩
theorem do_s {N : Nat} (hS : Sv G h t S) (hok : SOk N S) (hN : N + 201 ≤ 2 ^ 20) (x : StepS) (hQ : ∀ h', Sv G h' t (doS S x) → KG G h h' → Q [] h') :
    S_liverylaw13_do (some ⟨t, 0, none⟩) x.op x.xid x.csn x.a.kind x.a.name x.a.rel x.a.index x.a.n x.b.kind x.b.name x.b.rel x.b.index x.b.n h Q := by
  refine O_liverylaw13_do _ _ _ _ _ _ _ _ _ _ _ _ _ _ ?_
  unfold F_liverylaw13_do
  refine newI fun h1 s1 b1 e1 => ?_
  have hb : Blk h1 h.size (encStep x).toArray T_liverylaw13_Step := b1
  have hS1 := hS.ext0 e1
  have hk1 := kg_ext0 e1 hS.1
  refine ⟨_, rdSt hb 0, ?_⟩
  by_cases c0 : x.op = 0
  · rw [if_pos (by simpa using c0)]
    refine ⟨_, rdSt hb 1, ?_⟩
    refine rdA hb ?_
    refine TakeV_s hS1 hok (by omega) x.a fun h2 hS2 hk2 => ⟨_, rfl, hQ h2 ?_ (hk1.trans hk2)⟩
    unfold doS
    rw [if_pos c0]
    exact hS2
  rw [if_neg (by simpa using c0)]
  by_cases c1 : x.op = 1
  · rw [if_pos (by simpa using c1)]
    refine rdA hb ?_
    refine rdB hb ?_
    refine Copy_s hS1 hok hN x.a x.b fun h2 hS2 hk2 => ⟨rfl, hQ h2 ?_ (hk1.trans hk2)⟩
    unfold doS
    rw [if_neg c0, if_pos c1]
    exact hS2
  rw [if_neg (by simpa using c1)]
  by_cases c2 : x.op = 2
  · rw [if_pos (by simpa using c2)]
    refine ⟨_, rdSt2 hb 3 2, _, rdSt2 hb 8 2, ?_⟩
    refine Rough_s hS1 hok hN x.a.rel x.b.rel fun h2 hS2 hk2 => ⟨rfl, hQ h2 ?_ (hk1.trans hk2)⟩
    unfold doS
    rw [if_neg c0, if_neg c1, if_pos c2]
    exact hS2
  rw [if_neg (by simpa using c2)]
  by_cases c3 : x.op = 3
  · rw [if_pos (by simpa using c3)]
    refine ⟨_, rdSt2 hb 3 2, _, rdSt2 hb 3 3, ?_⟩
    refine Index_s hS1 hok hN x.a.rel x.a.index fun h2 hS2 hk2 => ⟨rfl, hQ h2 ?_ (hk1.trans hk2)⟩
    unfold doS
    rw [if_neg c0, if_neg c1, if_neg c2, if_pos c3]
    exact hS2
  rw [if_neg (by simpa using c3)]
  by_cases c4 : x.op = 4
  · rw [if_pos (by simpa using c4)]
    refine ⟨_, rdSt hb 1, ?_⟩
    refine Drop_s hS1 hok (by omega) x.xid fun h2 hS2 hk2 => ⟨rfl, hQ h2 ?_ (hk1.trans hk2)⟩
    unfold doS
    rw [if_neg c0, if_neg c1, if_neg c2, if_neg c3, if_pos c4]
    exact hS2
  rw [if_neg (by simpa using c4)]
  by_cases c5 : x.op = 5
  · rw [if_pos (by simpa using c5)]
    refine ⟨_, rdSt hb 1, _, rdSt hb 2, ?_⟩
    refine Fold_s hS1 hok (by omega) x.xid x.csn fun h2 hS2 hk2 => ⟨rfl, hQ h2 ?_ (hk1.trans hk2)⟩
    unfold doS
    rw [if_neg c0, if_neg c1, if_neg c2, if_neg c3, if_neg c4, if_pos c5]
    exact hS2
  rw [if_neg (by simpa using c5)]
  refine hQ h1 ?_ hk1
  unfold doS
  rw [if_neg c0, if_neg c1, if_neg c2, if_neg c3, if_neg c4, if_neg c5]
  exact hS1
theorem doN_s (x : StepS) (hQ : ∀ h', Ext [] h h' → Q [] h') :
    S_liverylaw13_do none x.op x.xid x.csn x.a.kind x.a.name x.a.rel x.a.index x.a.n x.b.kind x.b.name x.b.rel x.b.index x.b.n h Q := by
  refine O_liverylaw13_do _ _ _ _ _ _ _ _ _ _ _ _ _ _ ?_
  unfold F_liverylaw13_do
  refine newI fun h1 s1 b1 e1 => ?_
  have hb : Blk h1 h.size (encStep x).toArray T_liverylaw13_Step := b1
  refine ⟨_, rdSt hb 0, ?_⟩
  split
  · refine ⟨_, rdSt hb 1, ?_⟩
    refine rdA hb ?_
    exact TakeN_s x.a fun h2 e2 => ⟨_, rfl, hQ h2 (e1.trans0 e2)⟩
  split
  · refine rdA hb ?_
    refine rdB hb ?_
    exact CopyN_s x.a x.b fun h2 e2 => ⟨rfl, hQ h2 (e1.trans0 e2)⟩
  split
  · refine ⟨_, rdSt2 hb 3 2, _, rdSt2 hb 8 2, ?_⟩
    exact RoughN_s _ _ fun h2 e2 => ⟨rfl, hQ h2 (e1.trans0 e2)⟩
  split
  · refine ⟨_, rdSt2 hb 3 2, _, rdSt2 hb 3 3, ?_⟩
    exact IndexN_s _ _ fun h2 e2 => ⟨rfl, hQ h2 (e1.trans0 e2)⟩
  split
  · refine ⟨_, rdSt hb 1, ?_⟩
    exact DropN_s ⟨rfl, hQ h1 e1⟩
  split
  · refine ⟨_, rdSt hb 1, _, rdSt hb 2, ?_⟩
    exact FoldN_s _ ⟨rfl, hQ h1 e1⟩
  · exact hQ h1 e1
def verT (r n : Int) : ThingM := ⟨4, sE, r, sE, n⟩
theorem version_s (r n : Int) (hQ : ∀ h', Ext [] h h' → Q [ekT (verT r n)] h') : S_liverylaw13_version r n h Q := by
  refine O_liverylaw13_version _ _ ?_
  unfold F_liverylaw13_version
  refine newI fun h1 s1 b1 e1 => ?_
  refine st_blk b1 (by simp) fun h2 s2 b2 e2 => ?_
  have b2' : Blk h2 h.size (encT (verT r n)).toArray T_siread_Thing := b2
  refine rd5I b2' ?_
  exact hQ h2 (e1.trans e2 fun b hb hlt => by simp at hb; omega)
/-- Are two lists alike? -/
theorem Ints_s {a b : Sl} {xs ys : List Int} (ha : Reads 1 encIL h a xs) (hb : Reads 1 encIL h b ys) (hl : xs.length ≤ 2 ^ 40) (hQ : Q [.bool (decide (xs = ys))] h) : S_liverykeep_Ints a b h Q := by
  refine O_liverykeep_Ints _ _ ?_
  unfold F_liverykeep_Ints
  have ha1 := ha.1
  have hb1 := hb.1
  by_cases hn : xs.length = ys.length
  · rw [if_neg (by simp; omega)]
    intro X hX
    have key : ∀ d i, d + i = xs.length → xs.take i = ys.take i → X [.int .i64 (i : Int)] h := by
      intro d
      induction d with
      | zero =>
        intro i hi ht
        refine hX _ _ ?_
        rw [if_neg (by simp; omega)]
        rw [List.take_of_length_le (by omega), List.take_of_length_le (by omega)] at ht
        simpa [ht] using hQ
      | succ d ih =>
        intro i hi ht
        refine hX _ _ ?_
        rw [if_pos (by simp; omega)]
        obtain ⟨a1, u1, u2⟩ := ha.rd encIL_len (i := i) (by omega)
        obtain ⟨b1, v1, v2⟩ := hb.rd encIL_len (i := i) (by omega)
        have u2 := u2 0 (by omega)
        have v2 := v2 0 (by omega)
        rw [u1, v1]
        simp only [nilW_some, Int.toNat_natCast]
        refine ⟨by omega, by omega, _, by simpa using u2, by omega, by omega, _, by simpa using v2, ?_⟩
        have hx : xs.take (i + 1) = xs.take i ++ [xs[i]'(by omega)] := by rw [List.take_add_one, List.getElem?_eq_getElem (by omega)]; rfl
        have hy : ys.take (i + 1) = ys.take i ++ [ys[i]'(by omega)] := by rw [List.take_add_one, List.getElem?_eq_getElem (by omega)]; rfl
        by_cases he : xs[i]'(by omega) = ys[i]'(by omega)
        · rw [if_neg (by simpa using he), wrap64 (by omega) (by omega)]
          have := ih (i + 1) (by omega) (by rw [hx, hy, ht, he])
          simpa using this
        · rw [if_pos (by simpa using he)]
          have hne : xs ≠ ys := fun e => he (by subst e; rfl)
          simpa [hne] using hQ
    have := key xs.length 0 (by omega) (by simp)
    simpa using this
  · rw [if_pos (by simp; omega)]
    have hne : xs ≠ ys := fun e => hn (by rw [e])
    simpa [hne] using hQ
end
end Go.Lift

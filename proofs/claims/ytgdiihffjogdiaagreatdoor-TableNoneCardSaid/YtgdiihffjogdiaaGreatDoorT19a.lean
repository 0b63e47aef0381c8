/- TableNone: is a step fair; what a store that nobody made answers. -/
import Derived.Test.YtgdiihffjogdiaaGreatDoorLf19
import Derived.Test.YtgdiihffjogdiaaGreatDoorLvO
set_option linter.unusedSimpArgs false
set_option linter.unusedVariables false
namespace Go.Lift
open Go Go.Proofs
set_option maxRecDepth 100000
structure Va where
  k : Int
  n : Int
  f : Nat
  s : ByteArray
def encVa (v : Va) : List Value := [.int .i64 v.k, .int .i64 v.n, .float .f64 v.f, .string v.s]
structure Co where
  name : ByteArray
  kind : Int
  b : Bool
  v : Va
def encCo (c : Co) : List Value := [.string c.name, .int .i64 c.kind, .bool c.b, .int .i64 c.v.k, .int .i64 c.v.n, .float .f64 c.v.f, .string c.v.s]
structure StT where
  n0 : Int
  n1 : Int
  n2 : Int
  n3 : Int
  s4 : ByteArray
  s5 : ByteArray
  b6 : Bool
  n7 : Int
  v : Va
  w : Va
  row : Sl
  cols : Sl
  n18 : Int
  s19 : ByteArray
  n20 : Int
  s21 : ByteArray
  n22 : Int
  b23 : Bool
def stCells (x : StT) : Array Value := #[(Value.int .i64 x.n0), (Value.int .i64 x.n1), (Value.int .i64 x.n2), (Value.int .i64 x.n3), (Value.string x.s4), (Value.string x.s5), (Value.bool x.b6), (Value.int .i64 x.n7), (Value.int .i64 x.v.k), (Value.int .i64 x.v.n), (Value.float .f64 x.v.f), (Value.string x.v.s), (Value.int .i64 x.w.k), (Value.int .i64 x.w.n), (Value.float .f64 x.w.f), (Value.string x.w.s), (Value.slice x.row.a x.row.n x.row.c), (Value.slice x.cols.a x.cols.n x.cols.c), (Value.int .i64 x.n18), (Value.string x.s19), (Value.int .i64 x.n20), (Value.string x.s21), (Value.int .i64 x.n22), (Value.bool x.b23)]
section
variable {h : Hp} {Q : List Value → Hp → Prop}
theorem LargeV_s (k n : Int) (f : Nat) (s : ByteArray) (hQ : ∀ h' b, Ext [] h h' → Q [.bool b] h') : S_liverykeep_LargeValue k n f s h Q := by
  refine O_liverykeep_LargeValue _ _ _ _ ?_
  unfold F_liverykeep_LargeValue
  refine newI fun h1 s1 b1 e1 => ?_
  exact ⟨_, by simp [rd_blk b1]; rfl, hQ h1 _ e1⟩
theorem LargeRow_s {s : Sl} {vs : List Va} (ha : Reads 4 encVa h s vs) (hQ : ∀ h' b, Ext [] h h' → Q [.bool b] h') : S_liverykeep_LargeRow s h Q := by
  refine O_liverykeep_LargeRow _ ?_
  unfold F_liverykeep_LargeRow
  have h1 := ha.1
  by_cases hb : vs.length ≤ 50
  · rw [if_neg (by simp; omega)]
    intro X hX
    have key : ∀ d i g, d + i = vs.length → Ext [] h g → X [.int .i64 (i : Int)] g := by
      intro d
      induction d with
      | zero =>
        intro i g hi he
        refine hX _ _ ?_
        rw [if_neg (by simp; omega)]
        exact hQ g false he
      | succ d ih =>
        intro i g hi he
        refine hX _ _ ?_
        rw [if_pos (by simp; omega)]
        obtain ⟨a1, g1, g2⟩ := (ha.ext0 he).rd (fun _ => rfl) (i := i) (by omega)
        have k0 := g2 0 (by decide)
        have k1 := g2 1 (by decide)
        have k2 := g2 2 (by decide)
        have k3 := g2 3 (by decide)
        rw [g1]
        simp only [nilW_some, Int.toNat_natCast, addr_add_add]
        refine ⟨by omega, by omega, _, k0, _, k1, _, k2, _, k3, ?_⟩
        refine LargeV_s _ _ _ _ fun g6 b e6 => ⟨_, rfl, ?_⟩
        split
        · exact hQ g6 true (he.trans0 e6)
        · have := ih (i + 1) g6 (by omega) (he.trans0 e6)
          rw [wrap64 (by omega) (by omega)]
          simpa using this
    simpa using key vs.length 0 h (by omega) (Ext.refl _ _)
  · rw [if_pos (by simp; omega)]
    exact hQ h true (Ext.refl _ _)
theorem LargeCols_s {s : Sl} {vs : List Co} (ha : Reads 7 encCo h s vs) (hQ : ∀ h' b, Ext [] h h' → Q [.bool b] h') : S_liverykeep_LargeColumns s h Q := by
  refine O_liverykeep_LargeColumns _ ?_
  unfold F_liverykeep_LargeColumns
  have h1 := ha.1
  by_cases hb : vs.length ≤ 50
  · rw [if_neg (by simp; omega)]
    intro X hX
    have key : ∀ d i g, d + i = vs.length → Ext [] h g → X [.int .i64 (i : Int)] g := by
      intro d
      induction d with
      | zero =>
        intro i g hi he
        refine hX _ _ ?_
        rw [if_neg (by simp; omega)]
        exact hQ g false he
      | succ d ih =>
        intro i g hi he
        refine hX _ _ ?_
        rw [if_pos (by simp; omega)]
        intro J hJ
        have fin : ∀ b g6, Ext [] h g6 → J [.bool b] g6 := by
          intro b g6 e6
          refine hJ b g6 ?_
          split
          · exact hQ g6 true e6
          · have := ih (i + 1) g6 (by omega) e6
            rw [wrap64 (by omega) (by omega)]
            simpa using this
        obtain ⟨a1, g1, g2⟩ := (ha.ext0 he).rd (fun _ => rfl) (i := i) (by omega)
        have k0 := g2 0 (by decide)
        have k3 := g2 3 (by decide)
        have k4 := g2 4 (by decide)
        have k5 := g2 5 (by decide)
        have k6 := g2 6 (by decide)
        rw [g1]
        simp only [nilW_some, Int.toNat_natCast, addr_add_add]
        refine ⟨by omega, by omega, _, k0, ?_⟩
        split
        · exact fin true g he
        · refine ⟨by omega, by omega, _, k3, _, k4, _, k5, _, k6, ?_⟩
          exact LargeV_s _ _ _ _ fun g6 b e6 => ⟨_, rfl, fin b g6 (he.trans0 e6)⟩
    simpa using key vs.length 0 h (by omega) (Ext.refl _ _)
  · rw [if_pos (by simp; omega)]
    exact hQ h true (Ext.refl _ _)
theorem Fair_s {x : StT} {rs : List Va} {cs : List Co} {b : Nat} (hb : Blk h b (stCells x) T_liverylaw19_Step) (hr : Reads 4 encVa h x.row rs) (hc : Reads 7 encCo h x.cols cs) (hQ : ∀ h' b, Ext [] h h' → Q [.bool b] h') :
    S_liverylaw19_Fair ⟨some ⟨b, 0, none⟩, 1, 1⟩ h Q := by
  refine O_liverylaw19_Fair _ ?_
  unfold F_liverylaw19_Fair
  intro X hX
  have last : ∀ g, Ext [] h g → X [.int .i64 1] g := by
    intro g he
    refine hX 1 g ?_
    rw [if_neg (by simp)]
    exact hQ g _ he
  refine hX 0 h ?_
  rw [if_pos (by simp)]
  simp only [nilW_some, addr_mk, Int.toNat_zero, Nat.zero_mul, Nat.zero_add]
  refine ⟨by decide, by decide, ?_⟩
  refine ⟨x.n0, by simp [rd_blk hb, stCells], x.n1, by simp [rd_blk hb, stCells], x.n2, by simp [rd_blk hb, stCells], x.n3, by simp [rd_blk hb, stCells], x.s4, by simp [rd_blk hb, stCells], x.s5, by simp [rd_blk hb, stCells], x.b6, by simp [rd_blk hb, stCells], x.n7, by simp [rd_blk hb, stCells], x.v.k, by simp [rd_blk hb, stCells], x.v.n, by simp [rd_blk hb, stCells], x.v.f, by simp [rd_blk hb, stCells], x.v.s, by simp [rd_blk hb, stCells], x.w.k, by simp [rd_blk hb, stCells], x.w.n, by simp [rd_blk hb, stCells], x.w.f, by simp [rd_blk hb, stCells], x.w.s, by simp [rd_blk hb, stCells], x.row, by simp [rd_blk hb, stCells], x.cols, by simp [rd_blk hb, stCells], x.n18, by simp [rd_blk hb, stCells], x.s19, by simp [rd_blk hb, stCells], x.n20, by simp [rd_blk hb, stCells], x.s21, by simp [rd_blk hb, stCells], x.n22, by simp [rd_blk hb, stCells], x.b23, by simp [rd_blk hb, stCells], ?_⟩
  refine newI fun h1 s1 b1 e1 => ?_
  refine st_blk b1 (by simp) fun h2 s2 b2 e2 => ?_
  have ex2 : Ext [] h h2 := e1.trans e2 (by intro k hk hlt; simp at hk; omega)
  intro J hJ
  have fin : ∀ b g6, Ext [] h g6 → J [.bool b] g6 := by
    intro b g6 e6
    refine hJ b g6 ?_
    split
    · exact hQ g6 false e6
    · exact last g6 e6
  simp only [putAt, Nat.zero_add, Nat.reduceAdd, List.setIfInBounds_toArray, List.set_cons_zero, List.set_cons_succ] at b2
  have B : Blk h2 h.size (stCells x) T_liverylaw19_Step := by
    have e : stCells x = #[(Value.int .i64 x.n0), (Value.int .i64 x.n1), (Value.int .i64 x.n2), (Value.int .i64 x.n3), (Value.string x.s4), (Value.string x.s5), (Value.bool x.b6), (Value.int .i64 x.n7), (Value.int .i64 x.v.k), (Value.int .i64 x.v.n), (Value.float .f64 x.v.f), (Value.string x.v.s), (Value.int .i64 x.w.k), (Value.int .i64 x.w.n), (Value.float .f64 x.w.f), (Value.string x.w.s), (Value.slice x.row.a x.row.n x.row.c), (Value.slice x.cols.a x.cols.n x.cols.c), (Value.int .i64 x.n18), (Value.string x.s19), (Value.int .i64 x.n20), (Value.string x.s21), (Value.int .i64 x.n22), (Value.bool x.b23)] := rfl
    rw [e]; exact b2
  refine ⟨x.s4, by simp [rd_blk B, stCells], ?_⟩
  split
  · exact fin true h2 ex2
  refine ⟨x.s5, by simp [rd_blk B, stCells], ?_⟩
  split
  · exact fin true h2 ex2
  refine ⟨x.v.k, by simp [rd_blk B, stCells], x.v.n, by simp [rd_blk B, stCells], x.v.f, by simp [rd_blk B, stCells], x.v.s, by simp [rd_blk B, stCells], ?_⟩
  refine LargeV_s _ _ _ _ fun h3 b3 e3 => ⟨_, rfl, ?_⟩
  have ex3 := ex2.trans0 e3
  have B3 := e3.get B (by simp)
  split
  · exact fin true h3 ex3
  refine ⟨x.w.k, by simp [rd_blk B3, stCells], x.w.n, by simp [rd_blk B3, stCells], x.w.f, by simp [rd_blk B3, stCells], x.w.s, by simp [rd_blk B3, stCells], ?_⟩
  refine LargeV_s _ _ _ _ fun h4 b4 e4 => ⟨_, rfl, ?_⟩
  have ex4 := ex3.trans0 e4
  have B4 := e4.get B3 (by simp)
  split
  · exact fin true h4 ex4
  refine ⟨x.row, by simp [rd_blk B4, stCells], ?_⟩
  refine LargeRow_s (hr.ext0 ex4) fun h5 b5 e5 => ⟨_, rfl, ?_⟩
  have ex5 := ex4.trans0 e5
  have B5 := e5.get B4 (by simp)
  split
  · exact fin true h5 ex5
  refine ⟨x.cols, by simp [rd_blk B5, stCells], ?_⟩
  refine LargeCols_s (hc.ext0 ex5) fun h6 b6 e6 => ⟨_, rfl, ?_⟩
  have ex6 := ex5.trans0 e6
  have B6 := e6.get B5 (by simp)
  split
  · exact fin true h6 ex6
  refine ⟨x.s19, by simp [rd_blk B6, stCells], ?_⟩
  split
  · exact fin true h6 ex6
  exact ⟨x.s21, by simp [rd_blk B6, stCells], fin _ h6 ex6⟩
/-! ### what a store that nobody made answers -/
theorem rel_n (n : Int) (hQ : Q [.pointer none] h) : S_table_Store_rel none n h Q := by
  refine O_table_Store_rel _ _ ?_
  unfold F_table_Store_rel
  exact hQ
theorem standing_n (n : Int) (hQ : Q [.slice none 0 0] h) : S_table_Store_standing none n h Q := by
  refine O_table_Store_standing _ _ ?_
  unfold F_table_Store_standing
  refine rel_n _ ⟨none, rfl, ?_⟩
  exact hQ
theorem idx_n (f : Nat) (c : Array Value) (hQ : Q [.int .i64 (-1)] h) : S_slices_IndexFunc_sptable_entries_ptable_entries ⟨none, 0, 0⟩ f c h Q := by
  refine O_slices_IndexFunc_sptable_entries_ptable_entries _ _ _ ?_
  unfold F_slices_IndexFunc_sptable_entries_ptable_entries
  intro X hX
  refine hX 0 h ?_
  rw [if_neg (by simp)]
  exact hQ
theorem get_n (n : Int) (s : ByteArray) (hQ : ∀ h', Ext [] h h' → Q [.pointer none] h') : S_table_Store_get none n s h Q := by
  refine O_table_Store_get _ _ _ ?_
  unfold F_table_Store_get
  refine newI fun h1 s1 b1 e1 => ?_
  refine standing_n _ ⟨⟨none, 0, 0⟩, rfl, ?_⟩
  refine idx_n _ _ ⟨-1, rfl, ?_⟩
  rw [if_neg (by decide)]
  exact hQ h1 e1
theorem NewRel_n (hQ : Q [.int .i64 0, .int .i64 1] h) : S_table_Store_NewRel none h Q := by
  refine O_table_Store_NewRel _ ?_
  unfold F_table_Store_NewRel
  exact hQ
theorem Put_n (x n : Int) (r c : Sl) (hQ : Q [.int .i64 0, .int .i64 1] h) : S_table_Store_Put none x n r c h Q := by
  refine O_table_Store_Put _ _ _ _ _ ?_
  unfold F_table_Store_Put
  refine rel_n _ ⟨none, rfl, ?_⟩
  exact hQ
theorem Move_n (x n : Int) (c : Sl) (b : Bool) (hQ : Q [.int .i64 0, .int .i64 1] h) : S_table_Store_Move none x n c b h Q := by
  refine O_table_Store_Move _ _ _ _ _ ?_
  unfold F_table_Store_Move
  refine rel_n _ ⟨none, rfl, ?_⟩
  exact hQ
theorem Find_n (n : Int) (s : ByteArray) (k m : Int) (f : Nat) (t : ByteArray) (hQ : ∀ h', Ext [] h h' → Q [.slice none 0 0, .slice none 0 0] h') : S_table_Store_Find none n s k m f t h Q := by
  refine O_table_Store_Find _ _ _ _ _ _ _ ?_
  unfold F_table_Store_Find
  refine newI fun h1 s1 b1 e1 => ?_
  refine get_n _ _ fun h2 e2 => ⟨none, rfl, ?_⟩
  exact hQ h2 (e1.trans0 e2)
theorem Range_n (n : Int) (s : ByteArray) (k m : Int) (f : Nat) (t : ByteArray) (k' m' : Int) (f' : Nat) (t' : ByteArray) (hQ : ∀ h', Ext [] h h' → Q [.slice none 0 0, .slice none 0 0] h') : S_table_Store_Range none n s k m f t k' m' f' t' h Q := by
  refine O_table_Store_Range _ _ _ _ _ _ _ _ _ _ _ ?_
  unfold F_table_Store_Range
  refine newI fun h1 s1 b1 e1 => ?_
  refine newI fun h2 s2 b2 e2 => ?_
  refine get_n _ _ fun h3 e3 => ⟨none, rfl, ?_⟩
  exact hQ h3 ((e1.trans0 e2).trans0 e3)
theorem Log_n (hQ : Q [.pointer none] h) : S_table_Store_Log none h Q := by
  refine O_table_Store_Log _ ?_
  unfold F_table_Store_Log
  exact hQ
theorem Names_n (hQ : Q [.pointer none] h) : S_table_Store_Names none h Q := by
  refine O_table_Store_Names _ ?_
  unfold F_table_Store_Names
  exact hQ
theorem Locks_n (hQ : Q [.pointer none] h) : S_table_Store_Locks none h Q := by
  refine O_table_Store_Locks _ ?_
  unfold F_table_Store_Locks
  exact hQ
theorem Ssi_n (hQ : Q [.pointer none] h) : S_table_Store_Ssi none h Q := by
  refine O_table_Store_Ssi _ ?_
  unfold F_table_Store_Ssi
  exact hQ
theorem Rel_n (n : Int) (hQ : Q [.pointer none] h) : S_table_Store_Rel none n h Q := by
  refine O_table_Store_Rel _ _ ?_
  unfold F_table_Store_Rel
  refine rel_n _ ⟨none, rfl, ?_⟩
  exact hQ
theorem Indexes_n (n : Int) (hQ : Q [.slice none 0 0] h) : S_table_Store_Indexes none n h Q := by
  refine O_table_Store_Indexes _ _ ?_
  unfold F_table_Store_Indexes
  refine standing_n _ ⟨⟨none, 0, 0⟩, rfl, ?_⟩
  intro X hX
  refine hX ⟨none, 0, 0⟩ 0 h ?_
  rw [if_neg (by simp)]
  exact hQ
theorem idxI_n (f : Nat) (c : Array Value) (hQ : Q [.int .i64 (-1)] h) : S_slices_IndexFunc_stable_Index_table_Index ⟨none, 0, 0⟩ f c h Q := by
  refine O_slices_IndexFunc_stable_Index_table_Index _ _ _ ?_
  unfold F_slices_IndexFunc_stable_Index_table_Index
  intro X hX
  refine hX 0 h ?_
  rw [if_neg (by simp)]
  exact hQ
theorem del_n (f : Nat) (c : Array Value) (hQ : Q [.slice none 0 0] h) : S_slices_DeleteFunc_stable_Index_table_Index ⟨none, 0, 0⟩ f c h Q := by
  refine O_slices_DeleteFunc_stable_Index_table_Index _ _ _ ?_
  unfold F_slices_DeleteFunc_stable_Index_table_Index
  refine idxI_n _ _ ⟨-1, rfl, ?_⟩
  rw [if_pos (by decide)]
  exact hQ
theorem Usable_n (x n : Int) (hQ : ∀ h', Ext [] h h' → Q [.slice none 0 0] h') : S_table_Store_Usable none x n h Q := by
  refine O_table_Store_Usable _ _ _ ?_
  unfold F_table_Store_Usable
  refine newI fun h1 s1 b1 e1 => ?_
  refine newI fun h2 s2 b2 e2 => ?_
  refine ⟨none, by simp [rd_blk (e2.get b1 (by simp))], ?_⟩
  refine Indexes_n _ ⟨⟨none, 0, 0⟩, rfl, ?_⟩
  refine del_n _ _ ⟨⟨none, 0, 0⟩, rfl, ?_⟩
  exact hQ h2 (e1.trans0 e2)
theorem Make_n (x n : Int) (s t : ByteArray) (b : Bool) (k : Int) (c : Sl) (hQ : ∀ h', Ext [] h h' → Q [.int .i64 1] h') : S_table_Store_Make none x n s t b k c h Q := by
  refine O_table_Store_Make _ _ _ _ _ _ _ _ ?_
  unfold F_table_Store_Make
  refine newI fun h1 s1 b1 e1 => ?_
  refine rel_n _ ⟨none, rfl, ?_⟩
  intro J hJ
  have fin : J [.bool true] h1 := hJ true h1 (by rw [if_pos rfl]; exact hQ h1 e1)
  exact fin
theorem Set_n (n : Int) (s : ByteArray) (k m : Int) (hQ : Q [.int .i64 1] h) : S_table_Store_Set none n s k m h Q := by
  refine O_table_Store_Set _ _ _ _ _ ?_
  unfold F_table_Store_Set
  exact hQ
theorem Remove_n (x n : Int) (s : ByteArray) (hQ : Q [.int .i64 1] h) : S_table_Store_Remove none x n s h Q := by
  refine O_table_Store_Remove _ _ _ _ ?_
  unfold F_table_Store_Remove
  exact hQ
theorem Fill_n (n : Int) (s : ByteArray) (c : Sl) (hQ : Q [.int .i64 1] h) : S_table_Store_Fill none n s c h Q := by
  refine O_table_Store_Fill _ _ _ _ ?_
  unfold F_table_Store_Fill
  exact hQ
theorem End_n (x n t : Int) (hQ : Q [.int .i64 1] h) : S_table_Store_End none x n t h Q := by
  refine O_table_Store_End _ _ _ _ ?_
  unfold F_table_Store_End
  refine rel_n _ ⟨none, rfl, ?_⟩
  exact hQ
end
end Go.Lift

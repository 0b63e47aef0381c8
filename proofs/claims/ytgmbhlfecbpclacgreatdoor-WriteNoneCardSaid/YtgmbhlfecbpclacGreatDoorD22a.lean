/- WriteNone: is a statement too large; what a store that nobody made answers. -/
import Derived.Test.YtgmbhlfecbpclacGreatDoorLf22
import Derived.Test.YtgmbhlfecbpclacGreatDoorLvO
set_option linter.unusedSimpArgs false
set_option linter.unusedVariables false
namespace Go.Lift
open Go Go.Proofs
set_option maxRecDepth 100000
structure Va where
  k : Int
  n : Int
  f : Nat
  s : ByteArray
def encVa (v : Va) : List Value := [.int .i64 v.k, .int .i64 v.n, .float .f64 v.f, .string v.s]
structure Co where
  name : ByteArray
  kind : Int
  b : Bool
  v : Va
def encCo (c : Co) : List Value := [.string c.name, .int .i64 c.kind, .bool c.b, .int .i64 c.v.k, .int .i64 c.v.n, .float .f64 c.v.f, .string c.v.s]
structure StM where
  k : Int
  t : ByteArray
  nm : ByteArray
  col : ByteArray
  set : ByteArray
  v : Va
  w : Va
  row : Sl
  cols : Sl
  fl : Bool
def smCells (x : StM) : Array Value := #[(Value.int .i64 x.k), (Value.string x.t), (Value.string x.nm), (Value.string x.col), (Value.string x.set), (Value.int .i64 x.v.k), (Value.int .i64 x.v.n), (Value.float .f64 x.v.f), (Value.string x.v.s), (Value.int .i64 x.w.k), (Value.int .i64 x.w.n), (Value.float .f64 x.w.f), (Value.string x.w.s), (Value.slice x.row.a x.row.n x.row.c), (Value.slice x.cols.a x.cols.n x.cols.c), (Value.bool x.fl)]
section
variable {h : Hp} {Q : List Value → Hp → Prop}
theorem LargeV_s (k n : Int) (f : Nat) (s : ByteArray) (hQ : ∀ h' b, Ext [] h h' → Q [.bool b] h') : S_liverykeep_LargeValue k n f s h Q := by
  refine O_liverykeep_LargeValue _ _ _ _ ?_
  unfold F_liverykeep_LargeValue
  refine newI fun h1 s1 b1 e1 => ?_
  exact ⟨_, by simp [rd_blk b1]; rfl, hQ h1 _ e1⟩
theorem LargeRow_s {s : Sl} {vs : List Va} (ha : Reads 4 encVa h s vs) (hQ : ∀ h' b, Ext [] h h' → Q [.bool b] h') : S_liverykeep_LargeRow s h Q := by
  refine O_liverykeep_LargeRow _ ?_
  unfold F_liverykeep_LargeRow
  have h1 := ha.1
  by_cases hb : vs.length ≤ 50
  · rw [if_neg (by simp; omega)]
    intro X hX
    have key : ∀ d i g, d + i = vs.length → Ext [] h g → X [.int .i64 (i : Int)] g := by
      intro d
      induction d with
      | zero =>
        intro i g hi he
        refine hX _ _ ?_
        rw [if_neg (by simp; omega)]
        exact hQ g false he
      | succ d ih =>
        intro i g hi he
        refine hX _ _ ?_
        rw [if_pos (by simp; omega)]
        obtain ⟨a1, g1, g2⟩ := (ha.ext0 he).rd (fun _ => rfl) (i := i) (by omega)
        have k0 := g2 0 (by decide)
        have k1 := g2 1 (by decide)
        have k2 := g2 2 (by decide)
        have k3 := g2 3 (by decide)
        rw [g1]
        simp only [nilW_some, Int.toNat_natCast, addr_add_add]
        refine ⟨by omega, by omega, _, k0, _, k1, _, k2, _, k3, ?_⟩
        refine LargeV_s _ _ _ _ fun g6 b e6 => ⟨_, rfl, ?_⟩
        split
        · exact hQ g6 true (he.trans0 e6)
        · have := ih (i + 1) g6 (by omega) (he.trans0 e6)
          rw [wrap64 (by omega) (by omega)]
          simpa using this
    simpa using key vs.length 0 h (by omega) (Ext.refl _ _)
  · rw [if_pos (by simp; omega)]
    exact hQ h true (Ext.refl _ _)
theorem LargeCols_s {s : Sl} {vs : List Co} (ha : Reads 7 encCo h s vs) (hQ : ∀ h' b, Ext [] h h' → Q [.bool b] h') : S_liverykeep_LargeColumns s h Q := by
  refine O_liverykeep_LargeColumns _ ?_
  unfold F_liverykeep_LargeColumns
  have h1 := ha.1
  by_cases hb : vs.length ≤ 50
  · rw [if_neg (by simp; omega)]
    intro X hX
    have key : ∀ d i g, d + i = vs.length → Ext [] h g → X [.int .i64 (i : Int)] g := by
      intro d
      induction d with
      | zero =>
        intro i g hi he
        refine hX _ _ ?_
        rw [if_neg (by simp; omega)]
        exact hQ g false he
      | succ d ih =>
        intro i g hi he
        refine hX _ _ ?_
        rw [if_pos (by simp; omega)]
        intro J hJ
        have fin : ∀ b g6, Ext [] h g6 → J [.bool b] g6 := by
          intro b g6 e6
          refine hJ b g6 ?_
          split
          · exact hQ g6 true e6
          · have := ih (i + 1) g6 (by omega) e6
            rw [wrap64 (by omega) (by omega)]
            simpa using this
        obtain ⟨a1, g1, g2⟩ := (ha.ext0 he).rd (fun _ => rfl) (i := i) (by omega)
        have k0 := g2 0 (by decide)
        have k3 := g2 3 (by decide)
        have k4 := g2 4 (by decide)
        have k5 := g2 5 (by decide)
        have k6 := g2 6 (by decide)
        rw [g1]
        simp only [nilW_some, Int.toNat_natCast, addr_add_add]
        refine ⟨by omega, by omega, _, k0, ?_⟩
        split
        · exact fin true g he
        · refine ⟨by omega, by omega, _, k3, _, k4, _, k5, _, k6, ?_⟩
          exact LargeV_s _ _ _ _ fun g6 b e6 => ⟨_, rfl, fin b g6 (he.trans0 e6)⟩
    simpa using key vs.length 0 h (by omega) (Ext.refl _ _)
  · rw [if_pos (by simp; omega)]
    exact hQ h true (Ext.refl _ _)
theorem LargeStmt_s {x : StM} {rs : List Va} {cs : List Co} (hr : Reads 4 encVa h x.row rs) (hc : Reads 7 encCo h x.cols cs) (hQ : ∀ h' b, Ext [] h h' → Q [.bool b] h') : S_liverykeep_LargeStmt x.k x.t x.nm x.col x.set x.v.k x.v.n x.v.f x.v.s x.w.k x.w.n x.w.f x.w.s x.row x.cols x.fl h Q := by
  refine O_liverykeep_LargeStmt x.k x.t x.nm x.col x.set x.v.k x.v.n x.v.f x.v.s x.w.k x.w.n x.w.f x.w.s x.row x.cols x.fl ?_
  unfold F_liverykeep_LargeStmt
  refine newI fun h1 s1 b1 e1 => ?_
  have b1 : Blk h1 h.size (smCells x) T_api_Stmt := b1
  refine ⟨x.t, by simp [rd_blk b1, smCells], ?_⟩
  split
  · exact hQ h1 _ e1
  refine ⟨x.nm, by simp [rd_blk b1, smCells], ?_⟩
  split
  · exact hQ h1 _ e1
  refine ⟨x.col, by simp [rd_blk b1, smCells], ?_⟩
  split
  · exact hQ h1 _ e1
  refine ⟨x.set, by simp [rd_blk b1, smCells], ?_⟩
  split
  · exact hQ h1 _ e1
  refine ⟨x.v.k, by simp [rd_blk b1, smCells], x.v.n, by simp [rd_blk b1, smCells], x.v.f, by simp [rd_blk b1, smCells], x.v.s, by simp [rd_blk b1, smCells], ?_⟩
  refine LargeV_s _ _ _ _ fun h2 b2 e2 => ⟨_, rfl, ?_⟩
  have x2 := e1.trans0 e2
  have b1 := e2.get b1 (by simp)
  split
  · exact hQ h2 _ x2
  refine ⟨x.w.k, by simp [rd_blk b1, smCells], x.w.n, by simp [rd_blk b1, smCells], x.w.f, by simp [rd_blk b1, smCells], x.w.s, by simp [rd_blk b1, smCells], ?_⟩
  refine LargeV_s _ _ _ _ fun h3 b3 e3 => ⟨_, rfl, ?_⟩
  have x3 := x2.trans0 e3
  have b1 := e3.get b1 (by simp)
  split
  · exact hQ h3 _ x3
  refine ⟨x.row, by simp [rd_blk b1, smCells], ?_⟩
  refine LargeRow_s (hr.ext0 x3) fun h4 b4 e4 => ⟨_, rfl, ?_⟩
  have x4 := x3.trans0 e4
  have b1 := e4.get b1 (by simp)
  split
  · exact hQ h4 _ x4
  refine ⟨x.cols, by simp [rd_blk b1, smCells], ?_⟩
  exact LargeCols_s (hc.ext0 x4) fun h5 b5 e5 => ⟨_, rfl, hQ h5 _ (x4.trans0 e5)⟩
theorem told_s (e : Int) (hQ : ∀ h', Ext [] h h' → Q [.agg #[.int .i64 e, .int .i64 0, .slice none 0 0], .int .i64 0] h') : S_write_told e 0 h Q := by
  refine O_write_told _ _ ?_
  unfold F_write_told
  refine newI fun h1 s1 b1 e1 => ?_
  refine st_blk b1 (by simp) fun h2 s2 b2 e2 => ?_
  have ex2 : Ext [] h h2 := e1.trans e2 (by intro k hk hlt; simp at hk; omega)
  simp only [putAt, Nat.zero_add, Nat.reduceAdd, List.setIfInBounds_toArray, List.set_cons_zero, List.set_cons_succ] at b2
  exact ⟨e, by simp [rd_blk b2], 0, by simp [rd_blk b2], ⟨none, 0, 0⟩, by simp [rd_blk b2], hQ h2 ex2⟩
theorem Do_n (x : StM) (hQ : ∀ h', Ext [] h h' → Q [.agg #[.int .i64 1, .int .i64 0, .slice none 0 0], .int .i64 0] h') : S_write_Do none 1 x.k x.t x.nm x.col x.set x.v.k x.v.n x.v.f x.v.s x.w.k x.w.n x.w.f x.w.s x.row x.cols x.fl h Q := by
  refine O_write_Do none 1 x.k x.t x.nm x.col x.set x.v.k x.v.n x.v.f x.v.s x.w.k x.w.n x.w.f x.w.s x.row x.cols x.fl ?_
  unfold F_write_Do
  refine newI fun h1 s1 b1 e1 => ?_
  refine newI fun h2 s2 b2 e2 => ?_
  rw [if_pos (by simp)]
  refine told_s 1 fun h3 e3 => ⟨1, 0, ⟨none, 0, 0⟩, 0, rfl, ?_⟩
  refine st_blk (e3.get b2 (by simp)) (by simp) fun h4 s4 b4 e4 => ?_
  have ex4 : Ext [] h h4 := ((e1.trans0 e2).trans0 e3).trans e4 (by intro k hk hlt; simp at hk; omega)
  simp only [putAt, Nat.zero_add, Nat.reduceAdd, List.setIfInBounds_toArray, List.set_cons_zero, List.set_cons_succ] at b4
  exact ⟨1, by simp [rd_blk b4], 0, by simp [rd_blk b4], ⟨none, 0, 0⟩, by simp [rd_blk b4], hQ h4 ex4⟩
theorem May_n (cols row but : Sl) (hQ : Q [.int .i64 1, .int .i64 0] h) : S_write_May none 1 1 cols row but h Q := by
  refine O_write_May _ _ _ _ _ _ ?_
  unfold F_write_May
  intro J hJ
  rw [if_pos (by simp)]
  refine hJ true h ?_
  rw [if_pos rfl]
  exact hQ
end
end Go.Lift

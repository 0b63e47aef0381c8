/- Values and rows, compared with themselves; what is too large. -/
import Derived.Test.YteopnfdhaeoodaaC09b
set_option linter.unusedSimpArgs false
set_option linter.unusedVariables false
namespace Go.Lift
open Go Go.Proofs
set_option maxRecDepth 100000
theorem fn_extern {P : Program} {f : FuncId} {fn : Func} {args : Array Value} {h : Hp} {Q : List Value → Hp → Prop} {e : Array Value → Sem Value} (hf : P.funcs[f]? = some fn) (hname : (fn.name == "runtime.NumGoroutine") = false)
    (hb : fn.body = none) (hn : Extern.findNext fn = none) (he : Extern.find fn = some e) (H : semW P (e args) h fun v h' => ∃ vs, v = packR vs ∧ Q vs h') : Fn P f args h Q := by
  unfold Fn callFunc
  simp only [semW_bind', semW_program, hf, hname, Bool.false_eq_true, if_false, hb, Option.isNone_none, if_true, semW_mark, hn, he, semW_pure]
  exact semW_mono _ (fun v h' hv => hv) _ H
section
variable {h : Hp} {Q : List Value → Hp → Prop}
theorem Float64bits_s {x : Nat} (hQ : Q [.int .u64 x] h) : S_math_Float64bits x h Q := by
  refine fn_extern Try.func58 (by kernel_rfl) (by kernel_rfl) (by kernel_rfl) (e := Extern.MathFloatBits.float64bits) (by kernel_rfl) ?_
  exact ⟨[.int .u64 x], rfl, hQ⟩
theorem ValueR_s {v : Val} (hQ : ∀ h', Ext [] h h' → Q [.bool true] h') : S_liverykeep_Value v.kind v.num v.flt v.str v.kind v.num v.flt v.str h Q := by
  refine O_liverykeep_Value _ _ _ _ _ _ _ _ ?_
  unfold F_liverykeep_Value
  refine newI fun h1 s1 b1 e1 => newI fun h2 s2 b2 e2 => ?_
  have c1 := e2.get b1 (by simp)
  refine ⟨_, by simp [rd_blk c1]; rfl, _, by simp [rd_blk b2]; rfl, ?_⟩
  rw [if_pos (by simp)]
  refine ⟨_, by simp [rd_blk c1]; rfl, _, by simp [rd_blk b2]; rfl, ?_⟩
  rw [if_pos (by simp)]
  refine ⟨_, by simp [rd_blk c1]; rfl, _, by simp [rd_blk b2]; rfl, ?_⟩
  refine Float64bits_s ⟨_, rfl, by simp [rd_blk b2], ?_⟩
  refine Float64bits_s ⟨_, rfl, ?_⟩
  rw [if_pos (by simp)]
  refine ⟨_, by simp [rd_blk c1]; rfl, _, by simp [rd_blk b2]; rfl, ?_⟩
  have := hQ h2 (e1.trans0 e2)
  simpa using this
theorem rd_val {s : Sl} {vs : List Val} (hs : RowIn h s vs) {i : Nat} (hi : i < vs.length) : ∃ a, s.a = some a ∧ rd h (Addr.add a (i * 4)) = some (.int .i64 vs[i].kind) ∧ rd h (Addr.add a (i * 4 + 1)) = some (.int .i64 vs[i].num) ∧
    rd h (Addr.add a (i * 4 + 2)) = some (.float .f64 vs[i].flt) ∧ rd h (Addr.add a (i * 4 + 3)) = some (.string vs[i].str) := by
  obtain ⟨a, h1, h2⟩ := hs.rd encV_len hi
  exact ⟨a, h1, h2 0 (by omega), h2 1 (by omega), h2 2 (by omega), h2 3 (by omega)⟩
theorem ValuesR_s {a b : Sl} {vs : List Val} (ha : RowIn h a vs) (hb : RowIn h b vs) (hl : vs.length < 2 ^ 40) (hQ : ∀ h', Ext [] h h' → Q [.bool true] h') : S_liverykeep_Values a b h Q := by
  refine O_liverykeep_Values _ _ ?_
  unfold F_liverykeep_Values
  have h1 := ha.1
  have h2 := hb.1
  rw [if_neg (by simp; omega)]
  intro X hX
  have key : ∀ d i g, d + i = vs.length → Ext [] h g → X [.int .i64 (i : Int)] g := by
    intro d
    induction d with
    | zero =>
      intro i g hi he
      refine hX _ _ ?_
      rw [if_neg (by simp; omega)]
      exact hQ g he
    | succ d ih =>
      intro i g hi he
      refine hX _ _ ?_
      rw [if_pos (by simp; omega)]
      obtain ⟨a1, g1, g2, g3, g4, g5⟩ := rd_val (ha.ext0 he) (i := i) (by omega)
      obtain ⟨a2, k1, k2, k3, k4, k5⟩ := rd_val (hb.ext0 he) (i := i) (by omega)
      rw [g1, k1]
      simp only [nilW_some, Int.toNat_natCast, addr_add_add, Nat.add_zero]
      refine ⟨by omega, by omega, _, g2, _, g3, _, g4, _, g5, by omega, by omega, _, k2, _, k3, _, k4, _, k5, ?_⟩
      refine ValueR_s fun g6 e6 => ⟨_, rfl, ?_⟩
      rw [if_neg (by decide), wrap64 (by omega) (by omega)]
      have := ih (i + 1) g6 (by omega) (he.trans0 e6)
      simpa using this
  have := key vs.length 0 h (by omega) (Ext.refl _ _)
  simpa using this
/-- A list of rows. -/
structure RowC where
  sl : Sl
  vs : List Val
def encR (r : RowC) : List Value := [.slice r.sl.a r.sl.n r.sl.c]
theorem encR_len (r : RowC) : (encR r).length = 1 := rfl
theorem encR_one (r : RowC) : ∀ u ∈ encR r, oneCell u = true := by intro u hu; simp [encR] at hu; subst hu; rfl
def RowsIn (h : Hp) (s : Sl) (L : List (List Val)) : Prop := ∃ C : List RowC, Reads 1 encR h s C ∧ C.map RowC.vs = L ∧ ∀ c ∈ C, RowIn h c.sl c.vs ∧ c.vs.length ≤ 2 ^ 30
theorem RowsIn.ext0 {h' : Hp} {s : Sl} {L : List (List Val)} (hr : RowsIn h s L) (he : Ext [] h h') : RowsIn h' s L := by
  obtain ⟨C, h1, h2, h3⟩ := hr
  exact ⟨C, h1.ext0 he, h2, fun c hc => ⟨(h3 c hc).1.ext0 he, (h3 c hc).2⟩⟩
theorem RowsR_s {a b : Sl} {L : List (List Val)} (ha : RowsIn h a L) (hb : RowsIn h b L) (hl : L.length < 2 ^ 40) (hQ : ∀ h', Ext [] h h' → Q [.bool true] h') : S_liverykeep_Rows a b h Q := by
  refine O_liverykeep_Rows _ _ ?_
  unfold F_liverykeep_Rows
  obtain ⟨C, a1, a2, a3⟩ := ha
  obtain ⟨D, b1, b2, b3⟩ := hb
  have hC : C.length = L.length := by rw [← a2]; simp
  have hD : D.length = L.length := by rw [← b2]; simp
  have h1 := a1.1
  have h2 := b1.1
  rw [if_neg (by simp; omega)]
  intro X hX
  have key : ∀ d i g, d + i = L.length → Ext [] h g → X [.int .i64 (i : Int)] g := by
    intro d
    induction d with
    | zero =>
      intro i g hi he
      refine hX _ _ ?_
      rw [if_neg (by simp; omega)]
      exact hQ g he
    | succ d ih =>
      intro i g hi he
      refine hX _ _ ?_
      rw [if_pos (by simp; omega)]
      obtain ⟨x1, g1, g2⟩ := (a1.ext0 he).rd encR_len (i := i) (by omega)
      obtain ⟨x2, k1, k2⟩ := (b1.ext0 he).rd encR_len (i := i) (by omega)
      have g2 := g2 0 (by omega)
      have k2 := k2 0 (by omega)
      rw [g1, k1]
      simp only [nilW_some, Int.toNat_natCast]
      have m1 := a3 (C[i]'(by omega)) (List.getElem_mem _)
      have m2 := b3 (D[i]'(by omega)) (List.getElem_mem _)
      have hv : (C[i]'(by omega)).vs = (D[i]'(by omega)).vs := by
        have e1 : (C.map RowC.vs)[i]? = (D.map RowC.vs)[i]? := by rw [a2, b2]
        rw [List.getElem?_map, List.getElem?_map, List.getElem?_eq_getElem (by omega), List.getElem?_eq_getElem (by omega)] at e1
        simpa using e1
      refine ⟨by omega, by omega, (C[i]'(by omega)).sl, g2, by omega, by omega, (D[i]'(by omega)).sl, k2, ?_⟩
      have m2' := m2.1
      rw [← hv] at m2'
      refine ValuesR_s (m1.1.ext0 he) (m2'.ext0 he) (by have := m1.2; omega) fun g6 e6 => ⟨_, rfl, ?_⟩
      rw [if_neg (by decide), wrap64 (by omega) (by omega)]
      have := ih (i + 1) g6 (by omega) (he.trans0 e6)
      simpa using this
  have := key L.length 0 h (by omega) (Ext.refl _ _)
  simpa using this
theorem LargeValue_s {v : Val} (hQ : ∀ h', Ext [] h h' → Q [.bool (decide ((v.str.size : Int) > 2000))] h') : S_liverykeep_LargeValue v.kind v.num v.flt v.str h Q := by
  refine O_liverykeep_LargeValue _ _ _ _ ?_
  unfold F_liverykeep_LargeValue
  refine newI fun h1 s1 b1 e1 => ?_
  exact ⟨v.str, by simp [rd_blk b1], hQ h1 e1⟩
theorem LargeRow_s {a : Sl} {vs : List Val} (ha : RowIn h a vs) (hQ : ∀ h' b, Ext [] h h' → (b = false → vs.length ≤ 50) → Q [.bool b] h') : S_liverykeep_LargeRow a h Q := by
  refine O_liverykeep_LargeRow _ ?_
  unfold F_liverykeep_LargeRow
  have h1 := ha.1
  by_cases hb : vs.length ≤ 50
  · rw [if_neg (by simp; omega)]
    intro X hX
    have key : ∀ d i g, d + i = vs.length → Ext [] h g → X [.int .i64 (i : Int)] g := by
      intro d
      induction d with
      | zero =>
        intro i g hi he
        refine hX _ _ ?_
        rw [if_neg (by simp; omega)]
        exact hQ g false he fun _ => hb
      | succ d ih =>
        intro i g hi he
        refine hX _ _ ?_
        rw [if_pos (by simp; omega)]
        obtain ⟨a1, g1, g2, g3, g4, g5⟩ := rd_val (ha.ext0 he) (i := i) (by omega)
        rw [g1]
        simp only [nilW_some, Int.toNat_natCast, addr_add_add, Nat.add_zero]
        refine ⟨by omega, by omega, _, g2, _, g3, _, g4, _, g5, ?_⟩
        refine LargeValue_s fun g6 e6 => ⟨_, rfl, ?_⟩
        split
        · exact hQ g6 true (he.trans0 e6) fun e => (by cases e)
        · rw [wrap64 (by omega) (by omega)]
          have := ih (i + 1) g6 (by omega) (he.trans0 e6)
          simpa using this
    have := key vs.length 0 h (by omega) (Ext.refl _ _)
    simpa using this
  · rw [if_pos (by simp; omega)]
    exact hQ h true (Ext.refl _ _) fun e => (by cases e)
end
end Go.Lift

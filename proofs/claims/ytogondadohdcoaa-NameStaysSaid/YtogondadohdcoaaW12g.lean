/- Names and columns that are good. -/
import Derived.Test.YtogondadohdcoaaW12f
set_option linter.unusedSimpArgs false
set_option linter.unusedVariables false
namespace Go.Lift
open Go Go.Proofs Go.RowKit Go.Shelf
set_option maxRecDepth 100000
def allI (p : Nat → Bool) : Nat → Nat → Bool
  | 0, _ => true
  | d + 1, i => p i && allI p d (i + 1)
theorem allI_succ (p : Nat → Bool) (d i : Nat) : allI p (d + 1) i = (p i && allI p d (i + 1)) := rfl
def chB (s : ByteArray) (i : Int) : Bool :=
  !((decide (strIx s i < 97) || decide (strIx s i > 122)) && (!((decide (strIx s i ≥ 48) && decide (strIx s i ≤ 57)) || strIx s i == 95) || i == 0))
def nameB (s : ByteArray) : Bool := !(decide ((s.size : Int) < 1) || decide ((s.size : Int) > 8)) && allI (fun i => chB s (i : Int)) s.size 0
def canonF (f : Nat) : Nat := if (FloatKind.format .f64).order f f != some .eq then 9221120237041090560 else if (FloatKind.format .f64).order f 0 == some .eq then 0 else f
def bareV (n : Int) (f : Nat) (s : ByteArray) (bn bf bs : Bool) : Bool := (bn || n == 0) && ((bf || f == 0) && (bs || s.toList == sE.toList))
def goodV (k n : Int) (f : Nat) (s : ByteArray) : Bool :=
  if k = 0 then bareV n f s false false false
  else if k = 1 then bareV n f s true false false && (n == 0 || n == 1)
  else if k = 2 then bareV n f s true false false
  else if k = 3 then bareV n f s false true false && f == canonF f
  else if k = 4 then bareV n f s false false true && decide ((s.size : Int) ≤ 256)
  else false
def oneC (c : ColM) : Bool := nameB c.name && (decide (c.kind ≥ 1) && (decide (c.kind ≤ 4) && (goodV c.dk c.dn c.df c.ds && (c.dk == 0 || c.dk == c.kind))))
def colI (l : List ColM) (i : Nat) : Bool := match l[i]? with
  | some c => oneC c && idxP (fun d : ColM => decide (d.name = c.name)) l 0 == (i : Int)
  | none => true
def goodR (l : List ColM) : Bool := !(decide ((l.length : Int) < 1) || decide ((l.length : Int) > 6)) && allI (colI l) l.length 0
theorem fn_extern {P : Program} {f : FuncId} {fn : Func} {args : Array Value} {h : Hp} {Q : List Value → Hp → Prop} {e : Array Value → Sem Value} (hf : P.funcs[f]? = some fn) (hname : (fn.name == "runtime.NumGoroutine") = false)
    (hb : fn.body = none) (hn : Extern.findNext fn = none) (he : Extern.find fn = some e) (H : semW P (e args) h fun v h' => ∃ vs, v = packR vs ∧ Q vs h') : Fn P f args h Q := by
  unfold Fn callFunc
  simp only [semW_bind', semW_program, hf, hname, Bool.false_eq_true, if_false, hb, Option.isNone_none, if_true, semW_mark, hn, he, semW_pure]
  exact semW_mono _ (fun v h' hv => hv) _ H
section
variable {h : Hp} {Q : List Value → Hp → Prop}
theorem Float64bits_s {x : Nat} (hQ : Q [.int .u64 x] h) : S_math_Float64bits x h Q := by
  refine fn_extern Try.func93 (by kernel_rfl) (by kernel_rfl) (by kernel_rfl) (e := Extern.MathFloatBits.float64bits) (by kernel_rfl) ?_
  exact ⟨[.int .u64 x], rfl, hQ⟩
theorem Float64from_s {x : Int} (hQ : Q [.float .f64 x.toNat] h) : S_math_Float64frombits x h Q := by
  refine fn_extern Try.func103 (by kernel_rfl) (by kernel_rfl) (by kernel_rfl) (e := Extern.MathFloatBits.float64frombits) (by kernel_rfl) ?_
  exact ⟨[.float .f64 x.toNat], rfl, hQ⟩
theorem Name_s (s : ByteArray) (hQ : Q [.bool (nameB s)] h) : S_value_Name s h Q := by
  refine O_value_Name _ ?_
  unfold F_value_Name
  unfold nameB at hQ
  intro J hJ
  have key : J [.bool (decide ((s.size : Int) < 1) || decide ((s.size : Int) > 8))] h := by
    refine hJ _ _ ?_
    cases hb : (decide ((s.size : Int) < 1) || decide ((s.size : Int) > 8)) with
    | true =>
      rw [if_pos rfl]
      rw [hb] at hQ
      exact hQ
    | false =>
      rw [if_neg (by decide)]
      rw [hb, Bool.not_false, Bool.true_and] at hQ
      have hsz : s.size ≤ 8 := by
        simp at hb
        omega
      intro X hX
      have kl : ∀ d i, d + i = s.size → allI (fun i => chB s (i : Int)) s.size 0 = allI (fun i => chB s (i : Int)) d i → X [.int .i64 (i : Int)] h := by
        intro d
        induction d with
        | zero =>
          intro i hi ha
          refine hX _ _ ?_
          rw [if_neg (by simp; omega)]
          rw [ha] at hQ
          exact hQ
        | succ d ih =>
          intro i hi ha
          refine hX _ _ ?_
          rw [if_pos (by simp; omega)]
          refine ⟨by omega, by omega, ?_⟩
          rw [allI_succ] at ha
          intro J7 hJ7
          have k7 : J7 [.bool ((decide (strIx s i ≥ 48) && decide (strIx s i ≤ 57)) || strIx s i == 95)] h := by
            refine hJ7 _ _ ?_
            intro J10 hJ10
            have k10 : J10 [.bool ((decide (strIx s i < 97) || decide (strIx s i > 122)) && (!((decide (strIx s i ≥ 48) && decide (strIx s i ≤ 57)) || strIx s i == 95) || (i : Int) == 0))] h := by
              refine hJ10 _ _ ?_
              cases hc : ((decide (strIx s i < 97) || decide (strIx s i > 122)) && (!((decide (strIx s i ≥ 48) && decide (strIx s i ≤ 57)) || strIx s i == 95) || (i : Int) == 0)) with
              | true =>
                rw [if_pos rfl]
                have : chB s (i : Int) = false := by unfold chB; rw [hc]; rfl
                rw [this, Bool.false_and] at ha
                rw [ha] at hQ
                exact hQ
              | false =>
                rw [if_neg (by decide)]
                have : chB s (i : Int) = true := by unfold chB; rw [hc]; rfl
                rw [this, Bool.true_and] at ha
                rw [wrap64 (by omega) (by omega)]
                have := ih (i + 1) (by omega) ha
                simpa using this
            by_cases h1 : strIx s i < 97
            · rw [if_pos (by simpa using h1)]
              rw [decide_eq_true h1, Bool.true_or, Bool.true_and] at k10
              split
              · rename_i h2
                rw [h2, Bool.true_or] at k10
                exact k10
              · rename_i h2
                rw [Bool.not_eq_true] at h2
                rw [h2, Bool.false_or] at k10
                exact k10
            · rw [if_neg (by simpa using h1)]
              rw [decide_eq_false h1, Bool.false_or] at k10
              by_cases h3 : strIx s i > 122
              · rw [if_pos (by simpa using h3)]
                rw [decide_eq_true h3, Bool.true_and] at k10
                split
                · rename_i h2
                  rw [h2, Bool.true_or] at k10
                  exact k10
                · rename_i h2
                  rw [Bool.not_eq_true] at h2
                  rw [h2, Bool.false_or] at k10
                  exact k10
              · rw [if_neg (by simpa using h3)]
                rw [decide_eq_false h3, Bool.false_and] at k10
                exact k10
          by_cases h1 : strIx s i ≥ 48
          · rw [if_pos (by simpa using h1)]
            rw [decide_eq_true h1, Bool.true_and] at k7
            by_cases h2 : strIx s i ≤ 57
            · rw [if_pos (by simpa using h2)]
              rw [decide_eq_true h2, Bool.true_or] at k7
              exact k7
            · rw [if_neg (by simpa using h2)]
              rw [decide_eq_false h2, Bool.false_or] at k7
              exact k7
          · rw [if_neg (by simpa using h1)]
            rw [decide_eq_false h1, Bool.false_and, Bool.false_or] at k7
            exact k7
      exact kl s.size 0 (by omega) rfl
  by_cases h1 : (s.size : Int) < 1
  · rw [if_pos (by simpa using h1)]
    rw [decide_eq_true h1, Bool.true_or] at key
    exact key
  · rw [if_neg (by simpa using h1)]
    rw [decide_eq_false h1, Bool.false_or] at key
    exact key
theorem bare_s (k n : Int) (f : Nat) (s : ByteArray) (bn bf bs : Bool) (hQ : ∀ h', Ext [] h h' → Q [.bool (bareV n f s bn bf bs)] h') : S_value_own_bare k n f s bn bf bs h Q := by
  refine O_value_own_bare _ _ _ _ _ _ _ ?_
  unfold F_value_own_bare
  refine newI fun h1 s1 b1 e1 => ?_
  have hq := hQ h1 e1
  unfold bareV at hq
  have tail : ∀ (b : Bool), b = true → Q [.bool (b && (bs || s.toList == sE.toList))] h1 → (if bs = true then Q [.bool true] h1 else (∃ s2 : ByteArray, rd h1 (Addr.add (Addr.mk (Array.size h) 0 none) 3) = some (Value.string s2) ∧ Q [(Value.bool ((ByteArray.toList s2) == (ByteArray.toList (ByteArray.mk #[]))))] h1)) := by
    intro b hb hq
    subst hb
    rw [Bool.true_and] at hq
    cases bs with
    | true => rw [if_pos rfl]; exact hq
    | false => rw [if_neg (by decide)]; exact ⟨s, by simp [rd_blk b1], hq⟩
  have mid : Q [.bool ((bf || f == 0) && (bs || s.toList == sE.toList))] h1 → (if bf = true then (if bs = true then Q [.bool true] h1 else (∃ s2 : ByteArray, rd h1 (Addr.add (Addr.mk (Array.size h) 0 none) 3) = some (Value.string s2) ∧ Q [(Value.bool ((ByteArray.toList s2) == (ByteArray.toList (ByteArray.mk #[]))))] h1)) else
      (∃ x3 : Nat, rd h1 (Addr.add (Addr.mk (Array.size h) 0 none) 2) = some (Value.float .f64 x3) ∧
        S_math_Float64bits x3 h1 fun (vs4 : List Value) (h5 : Hp) =>
        ∃ n6 : Int, vs4 = [(Value.int .u64 n6)] ∧
        (if (n6 == (0 : Int)) = true then ((if bs = true then (Q [(Value.bool true)] h5) else
              (∃ s7 : ByteArray, rd h5 (Addr.add (Addr.mk (Array.size h) 0 none) 3) = some (Value.string s7) ∧
                Q [(Value.bool ((ByteArray.toList s7) == (ByteArray.toList (ByteArray.mk #[]))))] h5))) else
          (Q [(Value.bool false)] h5)))) := by
    intro hq
    cases bf with
    | true => rw [if_pos rfl]; exact tail true rfl hq
    | false =>
      rw [if_neg (by decide)]
      refine ⟨f, by simp [rd_blk b1], Float64bits_s ⟨_, rfl, ?_⟩⟩
      by_cases h0 : f = 0
      · rw [if_pos (by simp [h0])]
        exact tail (false || f == 0) (by simp [h0]) hq
      · rw [if_neg (by simp; omega)]
        have e : (false || f == 0) = false := by simp [h0]
        rw [e, Bool.false_and] at hq
        exact hq
  cases bn with
  | true =>
    rw [if_pos rfl]
    exact mid (by rw [Bool.true_or, Bool.true_and] at hq; exact hq)
  | false =>
    rw [if_neg (by decide)]
    refine ⟨n, by simp [rd_blk b1], ?_⟩
    by_cases h0 : n = 0
    · rw [if_pos (by simp [h0])]
      have e : (false || n == 0) = true := by simp [h0]
      rw [e, Bool.true_and] at hq
      exact mid hq
    · rw [if_neg (by simp [h0])]
      have e : (false || n == 0) = false := by simp [h0]
      rw [e, Bool.false_and] at hq
      exact hq
theorem Canon_s (f : Nat) (hQ : Q [.float .f64 (canonF f)] h) : S_float_Canon f h Q := by
  refine O_float_Canon _ ?_
  unfold F_float_Canon
  unfold canonF at hQ
  split
  · rename_i h1
    rw [if_pos h1] at hQ
    exact Float64from_s ⟨_, rfl, hQ⟩
  · rename_i h1
    rw [if_neg h1] at hQ
    split
    · rename_i h2
      rw [if_pos h2] at hQ
      exact hQ
    · rename_i h2
      rw [if_neg h2] at hQ
      exact hQ
theorem Is_s (f : Nat) (hQ : Q [.bool (f == canonF f)] h) : S_float_Is f h Q := by
  refine O_float_Is _ ?_
  unfold F_float_Is
  refine Float64bits_s ⟨_, rfl, Canon_s f ⟨_, rfl, Float64bits_s ⟨_, rfl, ?_⟩⟩⟩
  have e : (((f : Nat) : Int) == ((canonF f : Nat) : Int)) = (f == canonF f) := by rw [Bool.eq_iff_iff]; simp; omega
  rw [e]
  exact hQ
end
end Go.Lift

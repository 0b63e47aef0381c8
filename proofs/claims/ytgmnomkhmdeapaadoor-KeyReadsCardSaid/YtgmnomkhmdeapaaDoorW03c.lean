/- Values that are good; doubles and their bits. -/
import Derived.Test.YtgmnomkhmdeapaaDoorW03b
import Derived.Test.YtgmnomkhmdeapaaDoorK03c
set_option linter.unusedSimpArgs false
set_option linter.unusedVariables false
namespace Go.Lift
open Go Go.Proofs Go.RowKit
set_option maxRecDepth 100000
abbrev sE : ByteArray := ByteArray.mk #[]
abbrev encI (n : Int) : Value := .int .i64 n
def bareV (n : Int) (f : Nat) (s : ByteArray) (bn bf bs : Bool) : Bool := (bn || n == 0) && ((bf || f == 0) && (bs || s.toList == sE.toList))
def goodV (k n : Int) (f : Nat) (s : ByteArray) : Bool :=
  if k = 0 then bareV n f s false false false
  else if k = 1 then bareV n f s true false false && (n == 0 || n == 1)
  else if k = 2 then bareV n f s true false false
  else if k = 3 then bareV n f s false true false && f == canonF f
  else if k = 4 then bareV n f s false false true && decide ((s.size : Int) ≤ 256)
  else false
abbrev evF (f : Nat) : Value := .func (.func f) #[] #[]
theorem fn_extern {P : Program} {f : FuncId} {fn : Func} {args : Array Value} {h : Hp} {Q : List Value → Hp → Prop} {e : Array Value → Sem Value} (hf : P.funcs[f]? = some fn) (hname : (fn.name == "runtime.NumGoroutine") = false)
    (hb : fn.body = none) (hn : Extern.findNext fn = none) (he : Extern.find fn = some e) (H : semW P (e args) h fun v h' => ∃ vs, v = packR vs ∧ Q vs h') : Fn P f args h Q := by
  unfold Fn callFunc
  simp only [semW_bind', semW_program, hf, hname, Bool.false_eq_true, if_false, hb, Option.isNone_none, if_true, semW_mark, hn, he, semW_pure]
  exact semW_mono _ (fun v h' hv => hv) _ H
section
variable {h : Hp} {Q : List Value → Hp → Prop}
theorem Float64bits_s {x : Nat} (hQ : Q [.int .u64 x] h) : S_math_Float64bits x h Q := by
  refine fn_extern Tryd.func35 (by kernel_rfl) (by kernel_rfl) (by kernel_rfl) (e := Extern.MathFloatBits.float64bits) (by kernel_rfl) ?_
  exact ⟨[.int .u64 x], rfl, hQ⟩
theorem Float64from_s {x : Int} (hQ : Q [.float .f64 x.toNat] h) : S_math_Float64frombits x h Q := by
  refine fn_extern Tryd.func56 (by kernel_rfl) (by kernel_rfl) (by kernel_rfl) (e := Extern.MathFloatBits.float64frombits) (by kernel_rfl) ?_
  exact ⟨[.float .f64 x.toNat], rfl, hQ⟩
theorem bare_s (k n : Int) (f : Nat) (s : ByteArray) (bn bf bs : Bool) (hQ : ∀ h', Ext [] h h' → Q [.bool (bareV n f s bn bf bs)] h') : S_value_own_bare k n f s bn bf bs h Q := by
  refine O_value_own_bare _ _ _ _ _ _ _ ?_
  unfold F_value_own_bare
  refine newI fun h1 s1 b1 e1 => ?_
  have hq := hQ h1 e1
  unfold bareV at hq
  have tail : ∀ (b : Bool), b = true → Q [.bool (b && (bs || s.toList == sE.toList))] h1 → (if bs = true then Q [.bool true] h1 else (∃ s2 : ByteArray, rd h1 (Addr.add (Addr.mk (Array.size h) 0 none) 3) = some (Value.string s2) ∧ Q [(Value.bool ((ByteArray.toList s2) == (ByteArray.toList (ByteArray.mk #[]))))] h1)) := by
    intro b hb hq
    subst hb
    rw [Bool.true_and] at hq
    cases bs with
    | true => rw [if_pos rfl]; exact hq
    | false => rw [if_neg (by decide)]; exact ⟨s, by simp [rd_blk b1], hq⟩
  have mid : Q [.bool ((bf || f == 0) && (bs || s.toList == sE.toList))] h1 → (if bf = true then (if bs = true then Q [.bool true] h1 else (∃ s2 : ByteArray, rd h1 (Addr.add (Addr.mk (Array.size h) 0 none) 3) = some (Value.string s2) ∧ Q [(Value.bool ((ByteArray.toList s2) == (ByteArray.toList (ByteArray.mk #[]))))] h1)) else
      (∃ x3 : Nat, rd h1 (Addr.add (Addr.mk (Array.size h) 0 none) 2) = some (Value.float .f64 x3) ∧
        S_math_Float64bits x3 h1 fun (vs4 : List Value) (h5 : Hp) =>
        ∃ n6 : Int, vs4 = [(Value.int .u64 n6)] ∧
        (if (n6 == (0 : Int)) = true then ((if bs = true then (Q [(Value.bool true)] h5) else
              (∃ s7 : ByteArray, rd h5 (Addr.add (Addr.mk (Array.size h) 0 none) 3) = some (Value.string s7) ∧
                Q [(Value.bool ((ByteArray.toList s7) == (ByteArray.toList (ByteArray.mk #[]))))] h5))) else
          (Q [(Value.bool false)] h5)))) := by
    intro hq
    cases bf with
    | true => rw [if_pos rfl]; exact tail true rfl hq
    | false =>
      rw [if_neg (by decide)]
      refine ⟨f, by simp [rd_blk b1], Float64bits_s ⟨_, rfl, ?_⟩⟩
      by_cases h0 : f = 0
      · rw [if_pos (by simp [h0])]
        exact tail (false || f == 0) (by simp [h0]) hq
      · rw [if_neg (by simp; omega)]
        have e : (false || f == 0) = false := by simp [h0]
        rw [e, Bool.false_and] at hq
        exact hq
  cases bn with
  | true =>
    rw [if_pos rfl]
    exact mid (by rw [Bool.true_or, Bool.true_and] at hq; exact hq)
  | false =>
    rw [if_neg (by decide)]
    refine ⟨n, by simp [rd_blk b1], ?_⟩
    by_cases h0 : n = 0
    · rw [if_pos (by simp [h0])]
      have e : (false || n == 0) = true := by simp [h0]
      rw [e, Bool.true_and] at hq
      exact mid hq
    · rw [if_neg (by simp [h0])]
      have e : (false || n == 0) = false := by simp [h0]
      rw [e, Bool.false_and] at hq
      exact hq
theorem Canon_s (f : Nat) (hQ : Q [.float .f64 (canonF f)] h) : S_float_Canon f h Q := by
  refine O_float_Canon _ ?_
  unfold F_float_Canon
  unfold canonF at hQ
  split
  · rename_i h1
    rw [if_pos h1] at hQ
    exact Float64from_s ⟨_, rfl, hQ⟩
  · rename_i h1
    rw [if_neg h1] at hQ
    split
    · rename_i h2
      rw [if_pos h2] at hQ
      exact hQ
    · rename_i h2
      rw [if_neg h2] at hQ
      exact hQ
theorem Is_s (f : Nat) (hQ : Q [.bool (f == canonF f)] h) : S_float_Is f h Q := by
  refine O_float_Is _ ?_
  unfold F_float_Is
  refine Float64bits_s ⟨_, rfl, Canon_s f ⟨_, rfl, Float64bits_s ⟨_, rfl, ?_⟩⟩⟩
  have e : (((f : Nat) : Int) == ((canonF f : Nat) : Int)) = (f == canonF f) := by rw [Bool.eq_iff_iff]; simp; omega
  rw [e]
  exact hQ
theorem rd4O {v : Nat} {k n : Int} {f : Nat} {s : ByteArray} {T : TypeId} {K : Int → Int → Nat → ByteArray → Prop} (hb : Blk h v #[.int .i64 k, .int .i64 n, .float .f64 f, .string s] T) (H : K k n f s) :
    ∃ n1 : Int, rd h (Addr.add (Addr.mk v 0 none) 0) = some (Value.int .i64 n1) ∧ ∃ n2 : Int, rd h (Addr.add (Addr.mk v 0 none) 1) = some (Value.int .i64 n2) ∧ ∃ x3 : Nat, rd h (Addr.add (Addr.mk v 0 none) 2) = some (Value.float .f64 x3) ∧ ∃ s4 : ByteArray, rd h (Addr.add (Addr.mk v 0 none) 3) = some (Value.string s4) ∧ K n1 n2 x3 s4 := by
  have r : ∀ i, rd h (Addr.add (Addr.mk v 0 none) i) = (#[.int .i64 k, .int .i64 n, .float .f64 f, .string s] : Array Value)[i]? := fun i => by rw [addr_mk, rd_blk hb, Nat.zero_add]
  exact ⟨_, r 0, _, r 1, _, r 2, _, r 3, H⟩
theorem null_s (k n : Int) (f : Nat) (s : ByteArray) (hQ : ∀ h', Ext [] h h' → Q [.bool (bareV n f s false false false)] h') : S_value_own_null k n f s h Q := by
  refine O_value_own_null _ _ _ _ ?_
  unfold F_value_own_null
  refine newI fun h1 s1 b1 e1 => rd4O b1 (bare_s _ _ _ _ _ _ _ fun h2 e2 => ⟨_, rfl, hQ h2 (e1.trans0 e2)⟩)
theorem int_s (k n : Int) (f : Nat) (s : ByteArray) (hQ : ∀ h', Ext [] h h' → Q [.bool (bareV n f s true false false)] h') : S_value_own_int k n f s h Q := by
  refine O_value_own_int _ _ _ _ ?_
  unfold F_value_own_int
  refine newI fun h1 s1 b1 e1 => rd4O b1 (bare_s _ _ _ _ _ _ _ fun h2 e2 => ⟨_, rfl, hQ h2 (e1.trans0 e2)⟩)
theorem bool_s (k n : Int) (f : Nat) (s : ByteArray) (hQ : ∀ h', Ext [] h h' → Q [.bool (bareV n f s true false false && (n == 0 || n == 1))] h') : S_value_own_bool k n f s h Q := by
  refine O_value_own_bool _ _ _ _ ?_
  unfold F_value_own_bool
  refine newI fun h1 s1 b1 e1 => rd4O b1 (bare_s _ _ _ _ _ _ _ fun h2 e2 => ⟨_, rfl, ?_⟩)
  have hq := hQ h2 (e1.trans0 e2)
  have b2 := e2.get b1 (by simp)
  split
  · rename_i h1
    rw [h1, Bool.true_and] at hq
    refine ⟨n, by simp [rd_blk b2], ?_⟩
    split
    · rename_i h2
      rw [h2] at hq
      exact hq
    · rename_i h2
      rw [Bool.not_eq_true] at h2
      rw [h2, Bool.false_or] at hq
      exact ⟨n, by simp [rd_blk b2], hq⟩
  · rename_i h1
    rw [Bool.not_eq_true] at h1
    rw [h1] at hq
    exact hq
theorem float_s (k n : Int) (f : Nat) (s : ByteArray) (hQ : ∀ h', Ext [] h h' → Q [.bool (bareV n f s false true false && f == canonF f)] h') : S_value_own_float k n f s h Q := by
  refine O_value_own_float _ _ _ _ ?_
  unfold F_value_own_float
  refine newI fun h1 s1 b1 e1 => rd4O b1 (bare_s _ _ _ _ _ _ _ fun h2 e2 => ⟨_, rfl, ?_⟩)
  have hq := hQ h2 (e1.trans0 e2)
  have b2 := e2.get b1 (by simp)
  split
  · rename_i h1
    rw [h1, Bool.true_and] at hq
    exact ⟨f, by simp [rd_blk b2], Is_s f ⟨_, rfl, hq⟩⟩
  · rename_i h1
    rw [Bool.not_eq_true] at h1
    rw [h1] at hq
    exact hq
theorem text_s (k n : Int) (f : Nat) (s : ByteArray) (hQ : ∀ h', Ext [] h h' → Q [.bool (bareV n f s false false true && decide ((s.size : Int) ≤ 256))] h') : S_value_own_text k n f s h Q := by
  refine O_value_own_text _ _ _ _ ?_
  unfold F_value_own_text
  refine newI fun h1 s1 b1 e1 => rd4O b1 (bare_s _ _ _ _ _ _ _ fun h2 e2 => ⟨_, rfl, ?_⟩)
  have hq := hQ h2 (e1.trans0 e2)
  have b2 := e2.get b1 (by simp)
  split
  · rename_i h1
    rw [h1, Bool.true_and] at hq
    exact ⟨s, by simp [rd_blk b2], hq⟩
  · rename_i h1
    rw [Bool.not_eq_true] at h1
    rw [h1] at hq
    exact hq
theorem putF {g : Hp} {m : Nat} {T : List (Int × Nat)} (hm : IsMap encI evF g m T) (k : Int) (f : Nat) {K : Hp → Prop} (H : ∀ g', g'.size = g.size → Ext [m] g g' → IsMap encI evF g' m (aput T k f) → K g') :
    ∃ (m3 : Nat) (es4 : Array MapEntry) (c5 : Nat), (some m) = some m3 ∧ g[m3]? = some (.map es4 c5) ∧ KeysLike (Value.int .i64 k) es4 ∧ wth (Array.setIfInBounds g m3 (mput (Value.int .i64 k) (Value.func (.func f) #[] #[]) es4 c5)) K := by
  obtain ⟨es, c, h1, h2, h3⟩ := hm.put k f
  exact ⟨m, es, c, rfl, h1, h2, setI h1 fun g' z k' e => H g' z e (h3 g' k')⟩
theorem GoodV_s (k n : Int) (f : Nat) (s : ByteArray) (hQ : ∀ h', Ext [] h h' → Q [.bool (goodV k n f s)] h') : S_value_Good k n f s h Q := by
  refine O_value_Good _ _ _ _ ?_
  unfold F_value_Good
  refine newI fun h1 s1 b1 e1 => newI fun h2 s2 b2 e2 => ?_
  have m2 : IsMap encI evF h2 h1.size [] := ⟨#[], 0, b2, rfl, Born.nil 0⟩
  refine putF m2 0 40 fun h3 z3 e3 m3 => putF m3 1 41 fun h4 z4 e4 m4 => putF m4 2 42 fun h5 z5 e5 m5 => putF m5 3 43 fun h6 z6 e6 m6 => putF m6 4 44 fun h7 z7 e7 m7 => ?_
  have e27 : Ext [h1.size] h2 h7 := (((e3.trans e4 fun b hb _ => hb).trans e5 fun b hb _ => hb).trans e6 fun b hb _ => hb).trans e7 fun b hb _ => hb
  have e07 : Ext [] h h7 := (e1.trans0 e2).trans e27 fun b hb hlt => by simp at hb; omega
  have b7 := e27.get (e2.get b1 (by simp)) (by simp; omega)
  have m7' : IsMap encI evF h7 h1.size [(0, 40), (1, 41), (2, 42), (3, 43), (4, 44)] := m7
  refine ⟨k, by simp [rd_blk b7], ?_⟩
  obtain ⟨es, c1, c2⟩ := m7'.mapAt
  refine ⟨es, c1, keysLike_ents (ek := encI) c2 k, ?_⟩
  have hg := mgetD_ents (ek := encI) c2 k Value.nilFunc
  have hQ7 : ∀ h', Ext [] h7 h' → Q [.bool (goodV k n f s)] h' := fun h' e => hQ h' (e07.trans0 e)
  unfold goodV at hQ7
  by_cases h0 : k = 0
  · subst h0
    refine Or.inl ⟨40, #[], hg, ?_⟩
    refine rd4O b7 ?_
    refine null_s 0 n f s fun h' e => ⟨_, rfl, ?_⟩
    simpa using hQ7 h' e
  by_cases h1 : k = 1
  · subst h1
    refine Or.inl ⟨41, #[], hg, ?_⟩
    refine rd4O b7 ?_
    refine bool_s 1 n f s fun h' e => ⟨_, rfl, ?_⟩
    simpa using hQ7 h' e
  by_cases h2 : k = 2
  · subst h2
    refine Or.inl ⟨42, #[], hg, ?_⟩
    refine rd4O b7 ?_
    refine int_s 2 n f s fun h' e => ⟨_, rfl, ?_⟩
    simpa using hQ7 h' e
  by_cases h3 : k = 3
  · subst h3
    refine Or.inl ⟨43, #[], hg, ?_⟩
    refine rd4O b7 ?_
    refine float_s 3 n f s fun h' e => ⟨_, rfl, ?_⟩
    simpa using hQ7 h' e
  by_cases h4 : k = 4
  · subst h4
    refine Or.inl ⟨44, #[], hg, ?_⟩
    refine rd4O b7 ?_
    refine text_s 4 n f s fun h' e => ⟨_, rfl, ?_⟩
    simpa using hQ7 h' e
  refine Or.inr ⟨?_, ?_⟩
  · rw [hg]
    simp [afind, h0, h1, h2, h3, h4]
  · simpa [h0, h1, h2, h3, h4] using hQ7 h7 (Ext.refl _ _)
end
end Go.Lift

/- Values and columns that are good. -/
import Derived.Test.YtogondadohdcoaaW12g
set_option linter.unusedSimpArgs false
set_option linter.unusedVariables false
namespace Go.Lift
open Go Go.Proofs Go.RowKit Go.Shelf
set_option maxRecDepth 100000
abbrev evF (f : Nat) : Value := .func (.func f) #[] #[]
section
variable {h : Hp} {Q : List Value → Hp → Prop}
theorem rd4O {v : Nat} {k n : Int} {f : Nat} {s : ByteArray} {T : TypeId} {K : Int → Int → Nat → ByteArray → Prop} (hb : Blk h v #[.int .i64 k, .int .i64 n, .float .f64 f, .string s] T) (H : K k n f s) :
    ∃ n1 : Int, rd h (Addr.add (Addr.mk v 0 none) 0) = some (Value.int .i64 n1) ∧ ∃ n2 : Int, rd h (Addr.add (Addr.mk v 0 none) 1) = some (Value.int .i64 n2) ∧ ∃ x3 : Nat, rd h (Addr.add (Addr.mk v 0 none) 2) = some (Value.float .f64 x3) ∧ ∃ s4 : ByteArray, rd h (Addr.add (Addr.mk v 0 none) 3) = some (Value.string s4) ∧ K n1 n2 x3 s4 := by
  have r : ∀ i, rd h (Addr.add (Addr.mk v 0 none) i) = (#[.int .i64 k, .int .i64 n, .float .f64 f, .string s] : Array Value)[i]? := fun i => by rw [addr_mk, rd_blk hb, Nat.zero_add]
  exact ⟨_, r 0, _, r 1, _, r 2, _, r 3, H⟩
theorem null_s (k n : Int) (f : Nat) (s : ByteArray) (hQ : ∀ h', Ext [] h h' → Q [.bool (bareV n f s false false false)] h') : S_value_own_null k n f s h Q := by
  refine O_value_own_null _ _ _ _ ?_
  unfold F_value_own_null
  refine newI fun h1 s1 b1 e1 => rd4O b1 (bare_s _ _ _ _ _ _ _ fun h2 e2 => ⟨_, rfl, hQ h2 (e1.trans0 e2)⟩)
theorem int_s (k n : Int) (f : Nat) (s : ByteArray) (hQ : ∀ h', Ext [] h h' → Q [.bool (bareV n f s true false false)] h') : S_value_own_int k n f s h Q := by
  refine O_value_own_int _ _ _ _ ?_
  unfold F_value_own_int
  refine newI fun h1 s1 b1 e1 => rd4O b1 (bare_s _ _ _ _ _ _ _ fun h2 e2 => ⟨_, rfl, hQ h2 (e1.trans0 e2)⟩)
theorem bool_s (k n : Int) (f : Nat) (s : ByteArray) (hQ : ∀ h', Ext [] h h' → Q [.bool (bareV n f s true false false && (n == 0 || n == 1))] h') : S_value_own_bool k n f s h Q := by
  refine O_value_own_bool _ _ _ _ ?_
  unfold F_value_own_bool
  refine newI fun h1 s1 b1 e1 => rd4O b1 (bare_s _ _ _ _ _ _ _ fun h2 e2 => ⟨_, rfl, ?_⟩)
  have hq := hQ h2 (e1.trans0 e2)
  have b2 := e2.get b1 (by simp)
  split
  · rename_i h1
    rw [h1, Bool.true_and] at hq
    refine ⟨n, by simp [rd_blk b2], ?_⟩
    split
    · rename_i h2
      rw [h2] at hq
      exact hq
    · rename_i h2
      rw [Bool.not_eq_true] at h2
      rw [h2, Bool.false_or] at hq
      exact ⟨n, by simp [rd_blk b2], hq⟩
  · rename_i h1
    rw [Bool.not_eq_true] at h1
    rw [h1] at hq
    exact hq
theorem float_s (k n : Int) (f : Nat) (s : ByteArray) (hQ : ∀ h', Ext [] h h' → Q [.bool (bareV n f s false true false && f == canonF f)] h') : S_value_own_float k n f s h Q := by
  refine O_value_own_float _ _ _ _ ?_
  unfold F_value_own_float
  refine newI fun h1 s1 b1 e1 => rd4O b1 (bare_s _ _ _ _ _ _ _ fun h2 e2 => ⟨_, rfl, ?_⟩)
  have hq := hQ h2 (e1.trans0 e2)
  have b2 := e2.get b1 (by simp)
  split
  · rename_i h1
    rw [h1, Bool.true_and] at hq
    exact ⟨f, by simp [rd_blk b2], Is_s f ⟨_, rfl, hq⟩⟩
  · rename_i h1
    rw [Bool.not_eq_true] at h1
    rw [h1] at hq
    exact hq
theorem text_s (k n : Int) (f : Nat) (s : ByteArray) (hQ : ∀ h', Ext [] h h' → Q [.bool (bareV n f s false false true && decide ((s.size : Int) ≤ 256))] h') : S_value_own_text k n f s h Q := by
  refine O_value_own_text _ _ _ _ ?_
  unfold F_value_own_text
  refine newI fun h1 s1 b1 e1 => rd4O b1 (bare_s _ _ _ _ _ _ _ fun h2 e2 => ⟨_, rfl, ?_⟩)
  have hq := hQ h2 (e1.trans0 e2)
  have b2 := e2.get b1 (by simp)
  split
  · rename_i h1
    rw [h1, Bool.true_and] at hq
    exact ⟨s, by simp [rd_blk b2], hq⟩
  · rename_i h1
    rw [Bool.not_eq_true] at h1
    rw [h1] at hq
    exact hq
theorem putF {g : Hp} {m : Nat} {T : List (Int × Nat)} (hm : IsMap encI evF g m T) (k : Int) (f : Nat) {K : Hp → Prop} (H : ∀ g', g'.size = g.size → Ext [m] g g' → IsMap encI evF g' m (aput T k f) → K g') :
    ∃ (m3 : Nat) (es4 : Array MapEntry) (c5 : Nat), (some m) = some m3 ∧ g[m3]? = some (.map es4 c5) ∧ KeysLike (Value.int .i64 k) es4 ∧ wth (Array.setIfInBounds g m3 (mput (Value.int .i64 k) (Value.func (.func f) #[] #[]) es4 c5)) K := by
  obtain ⟨es, c, h1, h2, h3⟩ := hm.put k f
  exact ⟨m, es, c, rfl, h1, h2, setI h1 fun g' z k' e => H g' z e (h3 g' k')⟩
theorem GoodV_s (k n : Int) (f : Nat) (s : ByteArray) (hQ : ∀ h', Ext [] h h' → Q [.bool (goodV k n f s)] h') : S_value_Good k n f s h Q := by
  refine O_value_Good _ _ _ _ ?_
  unfold F_value_Good
  refine newI fun h1 s1 b1 e1 => newI fun h2 s2 b2 e2 => ?_
  have m2 : IsMap encI evF h2 h1.size [] := ⟨#[], 0, b2, rfl, Born.nil 0⟩
  refine putF m2 0 83 fun h3 z3 e3 m3 => putF m3 1 84 fun h4 z4 e4 m4 => putF m4 2 85 fun h5 z5 e5 m5 => putF m5 3 86 fun h6 z6 e6 m6 => putF m6 4 87 fun h7 z7 e7 m7 => ?_
  have e27 : Ext [h1.size] h2 h7 := (((e3.trans e4 fun b hb _ => hb).trans e5 fun b hb _ => hb).trans e6 fun b hb _ => hb).trans e7 fun b hb _ => hb
  have e07 : Ext [] h h7 := (e1.trans0 e2).trans e27 fun b hb hlt => by simp at hb; omega
  have b7 := e27.get (e2.get b1 (by simp)) (by simp; omega)
  have m7' : IsMap encI evF h7 h1.size [(0, 83), (1, 84), (2, 85), (3, 86), (4, 87)] := m7
  refine ⟨k, by simp [rd_blk b7], ?_⟩
  obtain ⟨es, c1, c2⟩ := m7'.mapAt
  refine ⟨es, c1, keysLike_ents (ek := encI) c2 k, ?_⟩
  have hg := mgetD_ents (ek := encI) c2 k Value.nilFunc
  have hQ7 : ∀ h', Ext [] h7 h' → Q [.bool (goodV k n f s)] h' := fun h' e => hQ h' (e07.trans0 e)
  unfold goodV at hQ7
  by_cases h0 : k = 0
  · subst h0
    refine Or.inl ⟨83, #[], hg, ?_⟩
    refine rd4O b7 ?_
    refine null_s 0 n f s fun h' e => ⟨_, rfl, ?_⟩
    simpa using hQ7 h' e
  by_cases h1 : k = 1
  · subst h1
    refine Or.inl ⟨84, #[], hg, ?_⟩
    refine rd4O b7 ?_
    refine bool_s 1 n f s fun h' e => ⟨_, rfl, ?_⟩
    simpa using hQ7 h' e
  by_cases h2 : k = 2
  · subst h2
    refine Or.inl ⟨85, #[], hg, ?_⟩
    refine rd4O b7 ?_
    refine int_s 2 n f s fun h' e => ⟨_, rfl, ?_⟩
    simpa using hQ7 h' e
  by_cases h3 : k = 3
  · subst h3
    refine Or.inl ⟨86, #[], hg, ?_⟩
    refine rd4O b7 ?_
    refine float_s 3 n f s fun h' e => ⟨_, rfl, ?_⟩
    simpa using hQ7 h' e
  by_cases h4 : k = 4
  · subst h4
    refine Or.inl ⟨87, #[], hg, ?_⟩
    refine rd4O b7 ?_
    refine text_s 4 n f s fun h' e => ⟨_, rfl, ?_⟩
    simpa using hQ7 h' e
  refine Or.inr ⟨?_, ?_⟩
  · rw [hg]
    simp [afind, h0, h1, h2, h3, h4]
  · simpa [h0, h1, h2, h3, h4] using hQ7 h7 (Ext.refl _ _)
theorem one_s (c : ColM) (hQ : ∀ h', Ext [] h h' → Q [.bool (oneC c)] h') : S_row_one c.name c.kind c.nn c.dk c.dn c.df c.ds h Q := by
  refine O_row_one _ _ _ _ _ _ _ ?_
  unfold F_row_one
  refine newI fun h1 s1 b1 e1 => ?_
  refine ⟨c.name, by simp [rd_blk b1], Name_s c.name ⟨_, rfl, ?_⟩⟩
  have hq : ∀ h', Ext [] h1 h' → Q [.bool (oneC c)] h' := fun h' e => hQ h' (e1.trans0 e)
  unfold oneC at hq
  cases hn : nameB c.name with
  | false =>
    rw [if_neg (by decide)]
    simpa [hn] using hq h1 (Ext.refl _ _)
  | true =>
    rw [if_pos rfl]
    simp only [hn, Bool.true_and] at hq
    refine ⟨c.kind, by simp [rd_blk b1], ?_⟩
    by_cases hk : c.kind ≥ 1
    · rw [if_pos (by simpa using hk)]
      refine ⟨c.kind, by simp [rd_blk b1], ?_⟩
      by_cases hk4 : c.kind ≤ 4
      · rw [if_pos (by simpa using hk4)]
        refine ⟨c.dk, by simp [rd_blk b1], c.dn, by simp [rd_blk b1], c.df, by simp [rd_blk b1], c.ds, by simp [rd_blk b1], GoodV_s _ _ _ _ fun h2 e2 => ⟨_, rfl, ?_⟩⟩
        have b2 := e2.get b1 (by simp)
        have hq2 := hq h2 e2
        simp only [hk, hk4, decide_true, Bool.true_and] at hq2
        cases hg : goodV c.dk c.dn c.df c.ds with
        | false =>
          rw [if_neg (by decide)]
          simpa [hg] using hq2
        | true =>
          rw [if_pos rfl]
          rw [hg, Bool.true_and] at hq2
          refine ⟨c.dk, by simp [rd_blk b2], ?_⟩
          cases h0 : (c.dk == 0) with
          | true =>
            rw [if_pos rfl]
            rw [h0, Bool.true_or] at hq2
            exact hq2
          | false =>
            rw [if_neg (by decide)]
            rw [h0, Bool.false_or] at hq2
            exact ⟨c.dk, by simp [rd_blk b2], c.kind, by simp [rd_blk b2], hq2⟩
      · rw [if_neg (by simpa using hk4)]
        simpa [hk4] using hq h1 (Ext.refl _ _)
    · rw [if_neg (by simpa using hk)]
      simpa [hk] using hq h1 (Ext.refl _ _)
theorem rdC {s : Sl} {xs : List ColM} (hs : Reads 7 encC h s xs) {i : Nat} (hi : i < xs.length) : ∃ a, s.a = some a ∧ ∀ (K : ByteArray → Int → Bool → Int → Int → Nat → ByteArray → Prop), K xs[i].name xs[i].kind xs[i].nn xs[i].dk xs[i].dn xs[i].df xs[i].ds →
    ∃ s8 : ByteArray, rd h (Addr.add (Addr.add a (i * 7)) 0) = some (Value.string s8) ∧ ∃ n9 : Int, rd h (Addr.add (Addr.add a (i * 7)) 1) = some (Value.int .i64 n9) ∧ ∃ b10 : Bool, rd h (Addr.add (Addr.add a (i * 7)) 2) = some (Value.bool b10) ∧ ∃ n11 : Int, rd h (Addr.add (Addr.add a (i * 7)) 3) = some (Value.int .i64 n11) ∧ ∃ n12 : Int, rd h (Addr.add (Addr.add a (i * 7)) 4) = some (Value.int .i64 n12) ∧ ∃ x13 : Nat, rd h (Addr.add (Addr.add a (i * 7)) 5) = some (Value.float .f64 x13) ∧ ∃ s14 : ByteArray, rd h (Addr.add (Addr.add a (i * 7)) 6) = some (Value.string s14) ∧ K s8 n9 b10 n11 n12 x13 s14 := by
  obtain ⟨a, h1, h2⟩ := hs.rd encC_len hi
  refine ⟨a, h1, fun K H => ?_⟩
  have r : ∀ k, k < 7 → rd h (Addr.add (Addr.add a (i * 7)) k) = (encC xs[i])[k]? := fun k hk => by rw [addr_add_add]; exact h2 k hk
  exact ⟨_, r 0 (by omega), _, r 1 (by omega), _, r 2 (by omega), _, r 3 (by omega), _, r 4 (by omega), _, r 5 (by omega), _, r 6 (by omega), H⟩
theorem rd7O {v : Nat} {c : ColM} {T : TypeId} {K : ByteArray → Int → Bool → Int → Int → Nat → ByteArray → Prop} (hb : Blk h v (encC c).toArray T) (H : K c.name c.kind c.nn c.dk c.dn c.df c.ds) :
    ∃ s8 : ByteArray, rd h (Addr.add (Addr.mk v 0 none) 0) = some (Value.string s8) ∧ ∃ n9 : Int, rd h (Addr.add (Addr.mk v 0 none) 1) = some (Value.int .i64 n9) ∧ ∃ b10 : Bool, rd h (Addr.add (Addr.mk v 0 none) 2) = some (Value.bool b10) ∧ ∃ n11 : Int, rd h (Addr.add (Addr.mk v 0 none) 3) = some (Value.int .i64 n11) ∧ ∃ n12 : Int, rd h (Addr.add (Addr.mk v 0 none) 4) = some (Value.int .i64 n12) ∧ ∃ x13 : Nat, rd h (Addr.add (Addr.mk v 0 none) 5) = some (Value.float .f64 x13) ∧ ∃ s14 : ByteArray, rd h (Addr.add (Addr.mk v 0 none) 6) = some (Value.string s14) ∧ K s8 n9 b10 n11 n12 x13 s14 := by
  have r : ∀ i, rd h (Addr.add (Addr.mk v 0 none) i) = (encC c).toArray[i]? := fun i => by rw [addr_mk, rd_blk hb, Nat.zero_add]
  exact ⟨_, r 0, _, r 1, _, r 2, _, r 3, _, r 4, _, r 5, _, r 6, H⟩
theorem IndexC_s {f : Nat} {cs : Array Value} {p : ColM → Bool} {s : Sl} {xs : List ColM} (hs : Reads 7 encC h s xs) (hl : xs.length ≤ 2 ^ 30)
    (hf : ∀ (w : ColM) g K, Ext [] h g → (∀ g', Ext [] g g' → K [.bool (p w)] g') → Fn PP f ((#[] ++ #[.agg #[.string w.name, .int .i64 w.kind, .bool w.nn, .int .i64 w.dk, .int .i64 w.dn, .float .f64 w.df, .string w.ds]]) ++ cs) g K)
    (hQ : ∀ h', Ext [] h h' → Q [.int .i64 (idxP p xs 0)] h') : S_slices_IndexFunc_sapi_Column_api_Column s f cs h Q := by
  refine O_slices_IndexFunc_sapi_Column_api_Column _ _ _ ?_
  unfold F_slices_IndexFunc_sapi_Column_api_Column
  have hn := hs.1
  intro X hX
  have key : ∀ d i g, d + i = xs.length → Ext [] h g → idxP p xs 0 = idxP p (xs.drop i) i → X [.int .i64 (i : Int)] g := by
    intro d
    induction d with
    | zero =>
      intro i g hi eg ha
      refine hX _ _ ?_
      rw [if_neg (by simp; omega)]
      have := hQ g eg
      rw [ha, List.drop_of_length_le (by omega)] at this
      exact this
    | succ d ih =>
      intro i g hi eg ha
      refine hX _ _ ?_
      rw [if_pos (by simp; omega)]
      obtain ⟨a, u1, u2⟩ := rdC (hs.ext0 eg) (i := i) (by omega)
      rw [u1]
      simp only [nilW_some, Int.toNat_natCast]
      refine ⟨by omega, by omega, u2 _ ?_⟩
      have hd : xs.drop i = xs[i] :: xs.drop (i + 1) := List.drop_eq_getElem_cons (by omega)
      refine hf _ g _ eg fun g3 e3 => ⟨_, rfl, ?_⟩
      generalize xs[i]'(by omega) = v at hd
      rw [hd, idxP_cons] at ha
      by_cases hv : p v = true
      · rw [if_pos hv]
        rw [if_pos hv] at ha
        have := hQ g3 (eg.trans0 e3)
        rw [ha] at this
        exact this
      · rw [if_neg hv]
        rw [if_neg hv] at ha
        rw [wrap64 (by omega) (by omega)]
        have := ih (i + 1) g3 (by omega) (eg.trans0 e3) ha
        simpa using this
  exact key xs.length 0 h (by omega) (Ext.refl _ _) (by simp)
theorem Find_s {s : Sl} {xs : List ColM} (hs : Reads 7 encC h s xs) (hl : xs.length ≤ 2 ^ 30) (nm : ByteArray) (hQ : ∀ h', Ext [] h h' → Q [.int .i64 (idxP (fun d : ColM => decide (d.name = nm)) xs 0)] h') : S_row_Find s nm h Q := by
  refine O_row_Find _ _ ?_
  unfold F_row_Find
  refine newI fun h1 s1 b1 e1 => ?_
  refine IndexC_s (p := fun d : ColM => decide (d.name = nm)) (hs.ext0 e1) hl (fun w g K eg hK => ?_) fun h2 e2 => ⟨_, rfl, hQ h2 (e1.trans0 e2)⟩
  refine O_row_Find_1 w.name w.kind w.nn w.dk w.dn w.df w.ds ⟨h.size, 0, none⟩ ?_
  unfold F_row_Find_1
  refine newI fun g1 z1 c1 f1 => ?_
  have b2 := f1.get (eg.get b1 (by simp)) (by simp)
  refine ⟨w.name, by simp [rd_blk c1], nm, by simp [rd_blk b2], ?_⟩
  have ek : (w.name.toList == nm.toList) = decide (w.name = nm) := by rw [Bool.eq_iff_iff]; simp only [beq_iff_eq, decide_eq_true_eq]; exact ⟨fun e => toList_inj e, fun e => by rw [e]⟩
  rw [ek]
  exact hK g1 f1
theorem GoodR_s {s : Sl} {xs : List ColM} (hs : Reads 7 encC h s xs) (hQ : ∀ h', Ext [] h h' → Q [.bool (goodR xs)] h') : S_row_Good s h Q := by
  refine O_row_Good _ ?_
  unfold F_row_Good
  unfold goodR at hQ
  have hn := hs.1
  intro J hJ
  have key : J [.bool (decide ((xs.length : Int) < 1) || decide ((xs.length : Int) > 6))] h := by
    refine hJ _ _ ?_
    cases hb : (decide ((xs.length : Int) < 1) || decide ((xs.length : Int) > 6)) with
    | true =>
      rw [if_pos rfl]
      rw [hb] at hQ
      exact hQ h (Ext.refl _ _)
    | false =>
      rw [if_neg (by decide)]
      rw [hb, Bool.not_false, Bool.true_and] at hQ
      have hsz : xs.length ≤ 6 := by
        simp at hb
        omega
      intro X hX
      have kl : ∀ d i g, d + i = xs.length → Ext [] h g → allI (colI xs) xs.length 0 = allI (colI xs) d i → X [.int .i64 (i : Int)] g := by
        intro d
        induction d with
        | zero =>
          intro i g hi eg ha
          refine hX _ _ ?_
          rw [if_neg (by simp; omega)]
          have := hQ g eg
          rw [ha] at this
          exact this
        | succ d ih =>
          intro i g hi eg ha
          refine hX _ _ ?_
          rw [if_pos (by simp; omega)]
          obtain ⟨a, u1, u2⟩ := rdC (hs.ext0 eg) (i := i) (by omega)
          rw [u1]
          simp only [nilW_some, Int.toNat_natCast]
          refine ⟨by omega, by omega, u2 _ ?_⟩
          rw [allI_succ] at ha
          have hc : colI xs i = (oneC (xs[i]'(by omega)) && idxP (fun d : ColM => decide (d.name = (xs[i]'(by omega)).name)) xs 0 == (i : Int)) := by
            unfold colI
            rw [List.getElem?_eq_getElem (by omega)]
          generalize xs[i]'(by omega) = c at hc
          refine newI fun g1 z1 b1 e1 => ?_
          refine st_blk b1 (by simp) fun g2 z2 b2 e2 => ?_
          have b2' : Blk g2 g.size (encC c).toArray T_api_Column := b2
          have eg2 : Ext [] h g2 := (eg.trans0 e1).trans e2 fun b hb hlt => by have := eg.sz; simp at hb; omega
          intro K hK
          have kK : ∀ g3, Ext [] h g3 → K [.bool (colI xs i)] g3 := by
            intro g3 e3
            refine hK _ _ ?_
            cases hci : colI xs i with
            | true =>
              rw [if_pos rfl, wrap64 (by omega) (by omega)]
              rw [hci, Bool.true_and] at ha
              have := ih (i + 1) g3 (by omega) e3 ha
              simpa using this
            | false =>
              rw [if_neg (by decide)]
              rw [hci, Bool.false_and] at ha
              have := hQ g3 e3
              rw [ha] at this
              exact this
          refine rd7O b2' ?_
          refine one_s c fun g3 e3 => ⟨_, rfl, ?_⟩
          have b3 := e3.get b2' (by simp)
          cases ho : oneC c with
          | false =>
            rw [if_neg (by decide)]
            have := kK g3 (eg2.trans0 e3)
            rw [hc, ho, Bool.false_and] at this
            exact this
          | true =>
            rw [if_pos rfl]
            refine ⟨c.name, by simp [rd_blk b3], ?_⟩
            rw [show (⟨some a, s.n, s.c⟩ : Sl) = s from by rw [← u1]]
            refine Find_s (hs.ext0 (eg2.trans0 e3)) (by omega) c.name fun g4 e4 => ⟨_, rfl, ?_⟩
            have := kK g4 ((eg2.trans0 e3).trans0 e4)
            rw [hc, ho, Bool.true_and] at this
            exact this
      exact kl xs.length 0 h (by omega) (Ext.refl _ _) rfl
  rw [hn]
  by_cases h1 : (xs.length : Int) < 1
  · rw [if_pos (by simpa using h1)]
    rw [decide_eq_true h1, Bool.true_or] at key
    exact key
  · rw [if_neg (by simpa using h1)]
    rw [decide_eq_false h1, Bool.false_or] at key
    exact key
end
end Go.Lift

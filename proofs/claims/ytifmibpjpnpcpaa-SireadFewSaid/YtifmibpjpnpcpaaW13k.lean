/- Things that were read: what the functions that are known outside answer. -/
import Derived.Test.YtifmibpjpnpcpaaW13j
set_option linter.unusedSimpArgs false
set_option linter.unusedVariables false
namespace Go.Lift
open Go Go.Proofs Go.RowKit Go.Shelf
set_option maxRecDepth 100000
section
variable {G : Nat → Prop} {h : Hp} {t m : Nat} {S : SM} {o : Int} {Q : List Value → Hp → Prop}
theorem Own.kg {α : Type} {T : TypeId} {sz lo : Nat} {enc : α → List Value} {h h' : Hp} {s : Sl} {xs : List α} (ho : Own T sz enc lo h s xs) (hk : KG G h h') (hG : ∀ b ∈ sBlk s, G b) : Own T sz enc lo h' s xs := by
  refine ⟨ho.1, ho.2.1, fun a ha => ?_⟩
  obtain ⟨b, c, h1, h2, h3, h4⟩ := ho.2.2 a ha
  exact ⟨b, c, h1, h2, hk.get h3 (hG b (mem_sBlk.2 ⟨a, ha, by rw [h1]⟩)), h4⟩
theorem gx_l {h' : Hp} : ∀ b, G b → GX G h h' b := fun _ hb => Or.inl hb
theorem one_s (n : Int) (hQ : Q [.bool (decide (1 ≤ n ∧ n ≤ 200))] h) : S_siread_one n h Q := by
  refine O_siread_one _ ?_
  unfold F_siread_one
  by_cases h1 : 1 ≤ n
  · rw [if_pos (by simpa using h1)]
    have e : decide (1 ≤ n ∧ n ≤ 200) = decide (n ≤ 200) := by simp [h1]
    rw [e] at hQ
    exact hQ
  · rw [if_neg (by simpa using h1)]
    have e : decide (1 ≤ n ∧ n ≤ 200) = false := by simp [h1]
    rw [e] at hQ
    exact hQ
theorem Take_s {N : Nat} (hS : Sv G h t S) (hok : SOk N S) (hN : N ≤ 2 ^ 20) (x : ThingM) (hQ : ∀ h', (if (1 ≤ o ∧ o ≤ 200) ∧ 1 ≤ x.kind ∧ x.kind ≤ 4 then Sv G h' t (takeS S o x) else Sv G h' t S) → KG G h h' → Q [.int .i64 (if (1 ≤ o ∧ o ≤ 200) ∧ 1 ≤ x.kind ∧ x.kind ≤ 4 then 0 else 1)] h') :
    S_siread_Table_Take (some ⟨t, 0, none⟩) o x.kind x.name x.rel x.index x.n h Q := by
  refine O_siread_Table_Take _ _ _ _ _ _ _ ?_
  unfold F_siread_Table_Take
  refine newI fun g1 s1 b1 e1 => ?_
  have b1' : Blk g1 h.size (encT x).toArray T_siread_Thing := b1
  have hS1 := hS.ext0 e1
  have hkg1 : KG G h g1 := kg_ext0 e1 hS.1
  intro J hJ
  rw [if_neg (by simp)]
  refine one_s o ⟨_, rfl, ?_⟩
  by_cases h1 : 1 ≤ o ∧ o ≤ 200
  · rw [decide_eq_true h1, if_neg (by decide)]
    by_cases h2 : 1 ≤ x.kind ∧ x.kind ≤ 4
    · rw [if_pos ⟨h1, h2⟩] at hQ
      refine ⟨_, (rdT0 b1').1, ?_⟩
      rw [if_neg (by simpa using h2.1)]
      refine ⟨_, (rdT0 b1').1, ?_⟩
      rw [decide_eq_false (by omega)]
      refine hJ _ _ ?_
      rw [if_neg (by decide)]
      refine rd5I b1' ?_
      refine take_s hS1 hok hN (by omega) x fun h2 hS2 hk2 => ⟨rfl, ?_⟩
      have := hQ h2
      rw [if_pos ⟨h1, by assumption⟩] at this
      exact this hS2 (hkg1.trans hk2)
    · have fin : J [.bool true] g1 := by
        refine hJ _ _ ?_
        rw [if_pos rfl]
        have := hQ g1
        rw [if_neg (fun e => h2 e.2), if_neg (fun e => h2 e.2)] at this
        exact this hS1 hkg1
      refine ⟨_, (rdT0 b1').1, ?_⟩
      by_cases h3 : x.kind < 1
      · rw [if_pos (by simpa using h3)]; exact fin
      · rw [if_neg (by simpa using h3)]
        refine ⟨_, (rdT0 b1').1, ?_⟩
        rw [decide_eq_true (by omega)]
        exact fin
  · rw [decide_eq_false h1, if_pos (by decide)]
    refine hJ _ _ ?_
    rw [if_pos rfl]
    have := hQ g1
    rw [if_neg (fun e => h1 e.1), if_neg (fun e => h1 e.1)] at this
    exact this hS1 hkg1
theorem Has_s (hS : Sv G h t S) (x : ThingM) (hQ : ∀ h', Ext [] h h' → Q [.bool (decide (x ∈ thgs S.m o))] h') : S_siread_Table_Has (some ⟨t, 0, none⟩) o x.kind x.name x.rel x.index x.n h Q := by
  refine O_siread_Table_Has _ _ _ _ _ _ _ ?_
  unfold F_siread_Table_Has
  refine newI fun h1 s1 b1 e1 => ?_
  have b1' : Blk h1 h.size (encT x).toArray T_siread_Thing := b1
  rw [if_pos (by simp)]
  simp only [nilW_some]
  obtain ⟨mb, r1, es, r8, r2, r3, r4, r5, _⟩ := (hS.ext0 e1).has o
  refine ⟨_, r1, es, r2, r3, _, r4, ?_⟩
  refine rd5I b1' ?_
  obtain ⟨es1, k1, k2, n, k3, k4⟩ := has_get r5 x
  refine ⟨es1, k1, k2, n, k3, ?_⟩
  rw [k4]
  exact hQ h1 e1
theorem Fine_s (hS : Sv G h t S) (hQ : Q [.int .i64 S.fine] h) : S_siread_Table_Fine (some ⟨t, 0, none⟩) h Q := by
  refine O_siread_Table_Fine _ ?_
  unfold F_siread_Table_Fine
  rw [if_neg (by simp)]
  simp only [nilW_some]
  exact ⟨_, hS.fld.2.2.1, hQ⟩
theorem Old_s (hS : Sv G h t S) (hQ : Q [.int .i64 S.csn] h) : S_siread_Table_Old (some ⟨t, 0, none⟩) h Q := by
  refine O_siread_Table_Old _ ?_
  unfold F_siread_Table_Old
  rw [if_neg (by simp)]
  simp only [nilW_some]
  exact ⟨_, hS.fld.2.2.2, hQ⟩
theorem OfV_s {N : Nat} (hS : Sv G h t S) (hok : SOk N S) (hN : N ≤ 2 ^ 20) (hQ : ∀ h' s, Ext [] h h' → Own T_siread_Thing 5 encT h.size h' s (ofS S o) → Q [.slice s.a s.n s.c] h') : S_siread_Table_Of (some ⟨t, 0, none⟩) o h Q := by
  obtain ⟨g1, mb, C, g2, g3, g4⟩ := hS
  have hlen := thgs_len hok.nd o
  have hb := hok.bnd
  unfold ofS at hQ
  rw [← g3] at hQ hlen
  exact Of_s g2 o (by rw [g3] at hlen ⊢; omega) hQ
theorem ownersV_s {N : Nat} (hS : Sv G h t S) (hok : SOk N S) {f : Nat} {cs : Array Value} (p : ThingM → Bool)
    (hf : ∀ (x : ThingM) (g : Hp) (K : List Value → Hp → Prop), Ext [] h g → (∀ g', Ext [] g g' → K [.bool (p x)] g') → Fn PP f ((#[] ++ #[ekT x]) ++ cs) g K)
    (hQ : ∀ h' s, Ext [] h h' → Own T_int 1 encIL h.size h' s (ownersS S p) → Q [.slice s.a s.n s.c] h') : S_siread_Table_owners (some ⟨t, 0, none⟩) f cs h Q := by
  obtain ⟨g1, mb, C, g2, g3, g4⟩ := hS
  have hl := hok.owners
  have hl2 : C.length = S.m.length := by rw [← g3]; simp [amap]
  unfold ownersS at hQ
  rw [← g3] at hQ
  exact owners_s g2 p (by omega) hf hQ
/-- Every owner of a list takes a thing. -/
theorem takes_s {N : Nat} {l : List Int} (hS : Sv G h t S) (hok : SOk N S) (hN : N + l.length ≤ 2 ^ 20) (hl : ∀ o ∈ l, 0 ≤ o ∧ o ≤ 200) (x : ThingM) {X : List Value → Hp → Prop}
    (hend : ∀ g, Sv G g t (takesS S l x) → KG G h g → X [.int .i64 (l.length : Int)] g)
    (hstep : ∀ (i : Nat) (hi : i < l.length) (g : Hp), KG G h g → (S_siread_Table_take (some ⟨t, 0, none⟩) l[i] x.kind x.name x.rel x.index x.n g fun vs g2 => vs = [] ∧ X [.int .i64 (IntKind.wrap .i64 ((i : Int) + (1 : Int)))] g2) → X [.int .i64 (i : Int)] g) : X [.int .i64 (0 : Int)] h := by
  refine loopI l.length (fun i g => Sv G g t (takesS S (l.take i) x) ∧ KG G h g) (fun g hI => hend g (by have := hI.1; rw [List.take_of_length_le (Nat.le_refl _)] at this; exact this) hI.2) (fun i g hi hI hnext => ?_) h ⟨hS, .refl _ _⟩
  refine hstep i hi g hI.2 ?_
  obtain ⟨ok1, _⟩ := takesS_ok x (l.take i) hok fun o ho => hl o (List.mem_of_mem_take ho)
  refine take_s hI.1 ok1 (by rw [List.length_take]; omega) (hl _ (List.getElem_mem hi)) x fun g2 hS2 hk2 => ⟨rfl, ?_⟩
  rw [wrap64 (by omega) (by omega)]
  refine hnext g2 ⟨?_, hI.2.trans hk2⟩
  rw [List.take_add_one, List.getElem?_eq_getElem hi]
  have e : takesS S (l.take i ++ [l[i]]) x = takeS (takesS S (l.take i) x) l[i] x := by unfold takesS; rw [List.foldl_append]; rfl
  rw [Option.toList, e]
  exact hS2
theorem beqT (x y : ThingM) : (x.kind == y.kind && (x.name == y.name && (x.rel == y.rel && (x.index == y.index && (x.n == y.n && true))))) = decide (x = y) := by
  rw [Bool.eq_iff_iff]
  cases x
  cases y
  simp [beq_bytes13]
end
end Go.Lift

/- HeapClean: vacuum, and copy, change nothing of what anybody who runs, or begins then, sees. -/
import Derived.Test.YteopnfdhaeoodaaC09x
import Derived.Test.YteopnfdhaeoodaaC09w
import Derived.Test.YteopnfdhaeoodaaC09e
import Derived.Test.YteopnfdhaeoodaaLvR
set_option linter.unusedSimpArgs false
set_option linter.unusedVariables false
namespace Go.Lift
open Go Go.Proofs
set_option maxRecDepth 100000
structure StepA where
  kind : Int
  xid : Int
  tid : Int
  reads : Bool
  sl : Sl
  vs : List Val
def encS (t : StepA) : List Value := [.int .i64 t.kind, .int .i64 t.xid, .int .i64 t.tid, .bool t.reads, .slice t.sl.a t.sl.n t.sl.c]
theorem encS_len (t : StepA) : (encS t).length = 5 := rfl
def RowsAt (h : Hp) (s : Sl) (Lr : List (List Val)) : Prop := ∃ C : List RowC, SlOf T_sapi_Value 1 encR h s C ∧ C.map RowC.vs = Lr ∧ ∀ c ∈ C, RowAt h c.sl c.vs ∧ c.vs.length ≤ 2 ^ 20
theorem RowsAt.ext {S : List Nat} {h h' : Hp} {s : Sl} {Lr : List (List Val)} (hr : RowsAt h s Lr) (he : Ext S h h') (h1 : Other T_sapi_Value h S) (h2 : Other T_api_Value h S) : RowsAt h' s Lr := by
  obtain ⟨C, a, b, c⟩ := hr
  exact ⟨C, a.ext he h1, b, fun x hx => ⟨(c x hx).1.ext he h2, (c x hx).2⟩⟩
theorem RowsAt.ext0 {h h' : Hp} {s : Sl} {Lr : List (List Val)} (hr : RowsAt h s Lr) (he : Ext [] h h') : RowsAt h' s Lr := hr.ext he (Other.nil h) (Other.nil h)
theorem RowsAt.rows {h : Hp} {s : Sl} {Lr : List (List Val)} (hr : RowsAt h s Lr) : RowsIn h s Lr := by
  obtain ⟨C, a, b, c⟩ := hr
  exact ⟨C, a.reads, b, fun x hx => ⟨(c x hx).1.reads, by have := (c x hx).2; omega⟩⟩
theorem zcR : (zc PP T_sapi_Value).size = 1 := by kernel_rfl
theorem zcW : (zc PP T_ssapi_Value).size = 1 := by kernel_rfl
def encW (s : Sl) : List Value := [.slice s.a s.n s.c]
theorem encW_len (s : Sl) : (encW s).length = 1 := rfl
theorem encW_one (s : Sl) : ∀ u ∈ encW s, oneCell u = true := by intro u hu; simp [encW] at hu; subst hu; rfl
section
variable {h : Hp} {p r m : Nat} {L : LogM} {R : RelM} {Q : List Value → Hp → Prop}
theorem Fair_s {s : Sl} {S : List StepA} (hr : Reads 5 encS h s S) (hG : ∀ t ∈ S, RowIn h t.sl t.vs) (hl : S.length ≤ 9223372036854775807)
    (hQ : ∀ h' b, Ext [] h h' → (b = true → S.length ≤ 120 ∧ ∀ t ∈ S, t.vs.length ≤ 50) → Q [.bool b] h') : S_liverylaw09_Fair s h Q := by
  refine O_liverylaw09_Fair _ ?_
  unfold F_liverylaw09_Fair
  have hn := hr.1
  intro X hX
  have key : ∀ d i g, d + i = S.length → Ext [] h g → (∀ t ∈ S.take i, t.vs.length ≤ 50) → X [.int .i64 (i : Int)] g := by
    intro d
    induction d with
    | zero =>
      intro i g hi he hall
      refine hX _ _ ?_
      rw [if_neg (by simp; omega)]
      refine hQ g _ he fun hb => ⟨by simp at hb; omega, ?_⟩
      rw [List.take_of_length_le (by omega)] at hall
      exact hall
    | succ d ih =>
      intro i g hi he hall
      refine hX _ _ ?_
      rw [if_pos (by simp; omega)]
      obtain ⟨a, g1, g2⟩ := (hr.ext0 he).rd encS_len (i := i) (by omega)
      have g2 := g2 4 (by omega)
      rw [g1]
      simp only [nilW_some, Int.toNat_natCast, addr_add_add]
      refine ⟨by omega, by omega, (S[i]'(by omega)).sl, g2, ?_⟩
      refine LargeRow_s ((hG _ (List.getElem_mem _)).ext0 he) fun g3 b e3 hb => ⟨_, rfl, ?_⟩
      cases b with
      | true =>
        rw [if_pos rfl]
        exact hQ g3 false (he.trans0 e3) fun e => (by cases e)
      | false =>
        rw [if_neg (by decide), wrap64 (by omega) (by omega)]
        have := ih (i + 1) g3 (by omega) (he.trans0 e3) (by
          intro t ht
          rw [List.take_add_one, List.getElem?_eq_getElem (by omega), List.mem_append] at ht
          rcases ht with ht | ht
          · exact hall t ht
          · simp at ht; subst ht; exact hb rfl)
        simpa using this
  have := key S.length 0 h (by omega) (Ext.refl _ _) (by simp)
  simpa using this
theorem Has_s {s : Sl} {xs : List Int} {x : Int} (hs : IntsAt h s xs) (hx : x ∈ xs) (hl : xs.length < 2 ^ 60) (hQ : Q [.bool true] h) : S_liverykeep_Has s x h Q := by
  refine O_liverykeep_Has _ _ ?_
  unfold F_liverykeep_Has
  have hn := hs.1
  intro X hX
  have key : ∀ d i, d + i = xs.length → x ∈ xs.drop i → X [.int .i64 (i : Int)] h := by
    intro d
    induction d with
    | zero =>
      intro i hi hm
      rw [List.drop_of_length_le (by omega)] at hm
      cases hm
    | succ d ih =>
      intro i hi hm
      refine hX _ _ ?_
      rw [if_pos (by simp; omega)]
      obtain ⟨a, g1, g2⟩ := sl_get hs (i := i) (by omega)
      rw [g1]
      simp only [nilW_some, Int.toNat_natCast]
      refine ⟨by omega, by omega, _, g2, ?_⟩
      by_cases e : xs[i]'(by omega) = x
      · rw [if_pos (by simp [e])]; exact hQ
      · rw [if_neg (by simp [e]), wrap64 (by omega) (by omega)]
        have := ih (i + 1) (by omega) (by
          rw [List.drop_eq_getElem_cons (by omega)] at hm
          rw [List.mem_cons] at hm
          exact hm.resolve_left fun e2 => e e2.symm)
        simpa using this
  have := key xs.length 0 (by omega) (by simpa using hx)
  simpa using this
theorem rows_s (hl : IsLog h p L) (hr : IsRel h r m R) {x : Int} (hQ : ∀ h' s, Ext [] h h' → RowsAt h' s (R.rowsOf L x) → Q [.slice s.a s.n s.c] h') : S_liverylaw09_rows (some ⟨p, 0, none⟩) (some ⟨r, 0, none⟩) x h Q := by
  refine O_liverylaw09_rows _ _ _ ?_
  unfold F_liverylaw09_rows
  refine Visible_s hl hr fun h1 vs e1 hv => ⟨vs, rfl, ?_⟩
  have hvn := hv.1
  have hvl : (R.visible L x).length ≤ 65536 := by
    have h1 := List.length_filter_le (R.sees L x) R.keys
    have h2 := keys_len R
    have h3 := hr.len
    have h4 := hr.nx
    unfold RelM.visible
    omega
  have hp := hl.lt
  have hrm := hr.r_lt
  intro X hX
  have key : ∀ d i g s (C : List RowC), d + i = (R.visible L x).length → Ext [] h g → IsLog g p L → IsRel g r m R → IntsAt g vs (R.visible L x) → Own T_sapi_Value 1 encR h.size g s C → C.length = i →
      C.map RowC.vs = ((R.visible L x).take i).map (fun t => (R.get t).row) → (∀ c ∈ C, RowAt g c.sl c.vs ∧ c.vs.length ≤ 2 ^ 20) → X [.slice s.a s.n s.c, .int .i64 (i : Int)] g := by
    intro d
    induction d with
    | zero =>
      intro i g s C hi he il ir iv io hcl hc hrows
      refine hX s _ _ ?_
      rw [if_neg (by simp; omega)]
      rw [List.take_of_length_le (by omega)] at hc
      exact hQ g s he ⟨C, io.sl, hc, hrows⟩
    | succ d ih =>
      intro i g s C hi he il ir iv io hcl hc hrows
      refine hX s _ _ ?_
      rw [if_pos (by simp; omega)]
      obtain ⟨a, g1, g2⟩ := sl_get iv (i := i) (by omega)
      rw [g1]
      simp only [nilW_some, Int.toNat_natCast]
      refine ⟨by omega, by omega, _, g2, ?_⟩
      have htake : (R.visible L x).take (i + 1) = (R.visible L x).take i ++ [(R.visible L x)[i]'(by omega)] := by
        rw [List.take_add_one, List.getElem?_eq_getElem (by omega)]; rfl
      generalize (R.visible L x)[i]'(by omega) = t at *
      refine Get_s ir fun g3 rs e3 hrs hrl hrn => ⟨_, _, rs, _, rfl, ?_⟩
      refine varI rfl rfl fun g4 s4 b4 e4 => ?_
      have e34 := e3.trans0 e4
      refine ⟨rs, by simp [rd_blk b4], ?_⟩
      have hrs4 := hrs.ext0 e4
      have io4 := io.ext0 e34
      refine app1 (x := ⟨rs, (R.get t).row⟩) (cx := #[Value.slice rs.a rs.n rs.c]) io4 rfl zcR encR_len encR_one (by omega) (by decide) (by have := he.sz; have := e34.sz; omega) fun s' g5 ho' he' _ => ?_
      rw [wrap64 (by omega) (by omega)]
      have hsb := io4.blk
      have o1 : Other T_api_Value g4 (sBlk s) := io4.other (by decide)
      have o2 : Other T_int g4 (sBlk s) := io4.other (by decide)
      have he5 : Ext [] h g5 := (he.trans0 e34).trans he' fun b hb hlt => by have := hsb b hb; omega
      have := ih (i + 1) g5 s' (C ++ [⟨rs, (R.get t).row⟩]) (by omega) he5 ((il.ext e34 (by simp)).ext he' fun hb => by have := hsb _ hb; omega)
        ((ir.ext0 e34).ext he' (fun hb => by have := hsb _ hb; omega) (fun hb => by have := hsb _ hb; omega) o1) ((iv.ext0 e34).ext he' o2) ho' (by simp [hcl])
        (by rw [htake, List.map_append, List.map_append, hc]; rfl)
        (by
          intro c hcm
          rw [List.mem_append] at hcm
          rcases hcm with hcm | hcm
          · exact ⟨((hrows c hcm).1.ext0 e34).ext he' o1, (hrows c hcm).2⟩
          · simp at hcm; subst hcm
            exact ⟨hrs4.ext he' o1, by show (R.get t).row.length ≤ 2 ^ 20; omega⟩)
      simpa using this
  have := key (R.visible L x).length 0 h1 ⟨none, 0, 0⟩ [] (by omega) e1 (hl.ext e1 (by simp)) (hr.ext0 e1) hv.sl (Own.nil _ _) rfl rfl (by simp)
  simpa using this
end
end Go.Lift

/- HeapFirst: of two that would end one version the one that did it first has it. -/
import Derived.Test.YteopnfdhaeoodaaC09d
set_option linter.unusedSimpArgs false
set_option linter.unusedVariables false
namespace Go.Lift
open Go Go.Proofs
set_option maxRecDepth 100000

def row5 : List Val := [⟨2, 5, 0, ByteArray.mk #[]⟩]
def rel0 : RelM := ⟨[], 0⟩
section
variable {h : Hp} {p r m : Nat} {L : LogM} {R : RelM} {Q : List Value → Hp → Prop}
/-- Memory of a log and of a relation, and what may not have changed since. -/
structure St (h0 : Hp) (h : Hp) (p r m : Nat) (L : LogM) (R : RelM) : Prop where
  log : IsLog h p L
  rel : IsRel h r m R
  ext : Ext [] h0 h
  hp : h0.size ≤ p
  hr : h0.size ≤ r
  hm : h0.size ≤ m
theorem St.e0 {h0 h h' : Hp} (s : St h0 h p r m L R) (e : Ext [] h h') : St h0 h' p r m L R :=
  ⟨s.log.ext e (by simp), s.rel.ext0 e, s.ext.trans0 e, s.hp, s.hr, s.hm⟩
theorem St.eL {h0 h h' : Hp} {L' : LogM} (s : St h0 h p r m L R) (e : Ext [p] h h') (l : IsLog h' p L') : St h0 h' p r m L' R :=
  ⟨l, s.rel.ext_log s.log e, s.ext.trans e (by intro b hb hlt; simp at hb; have := s.hp; omega), s.hp, s.hr, s.hm⟩
theorem St.eR {h0 h h' : Hp} {R' : RelM} (s : St h0 h p r m L R) (e : Ext [m, r] h h') (q : IsRel h' r m R') : St h0 h' p r m L R' :=
  ⟨s.log.ext_rel s.rel e, q, s.ext.trans e (by intro b hb hlt; simp at hb; have := s.hr; have := s.hm; omega), s.hp, s.hr, s.hm⟩
theorem wakes_s {h0 : Hp} (hQ : ∀ h', Ext [] h0 h' → Q [.bool true] h') : S_liverylaw09_wakes h0 Q := by
  refine O_liverylaw09_wakes ?_
  unfold F_liverylaw09_wakes
  refine New_s fun h1 l1 e1 s1 => ⟨_, rfl, ?_⟩
  refine HNew_s fun h2 r2 e2 => ⟨_, rfl, ?_⟩
  have st : St h0 h2 h0.size (h1.size + 1) h1.size log0 rel0 := ⟨l1.ext e2 (by simp), r2, e1.trans0 e2, Nat.le_refl _, by omega, by omega⟩
  generalize h0.size = p at *
  generalize h1.size + 1 = r at *
  generalize h1.size = m at *
  clear l1 r2 e1 e2 s1
  intro J hJ
  rw [if_neg (by simp)]
  refine hJ _ _ ?_
  rw [if_neg (by simp)]
  refine Begin_s st.log fun h3 l3 e3 => ⟨_, _, rfl, ?_⟩
  have st := st.eL e3 l3
  refine Begin_s st.log fun h4 l4 e4 => ⟨_, _, rfl, ?_⟩
  have st := st.eL e4 l4
  refine one9_s fun h5 s hs hn e5 => ⟨s, rfl, ?_⟩
  have st := st.e0 e5
  refine Insert_s st.rel hs.reads (show s.n ≤ 2 ^ 20 by omega) fun h6 r6 e6 => ⟨_, _, rfl, ?_⟩
  have st := st.eR e6 r6
  refine Unseen_s st.log st.rel fun h7 u e7 hu => ⟨u, rfl, ?_⟩
  have st := st.e0 e7
  refine May_s st.log st.rel fun h8 e8 => ⟨_, _, rfl, ?_⟩
  have st := st.e0 e8
  refine Get_s st.rel fun h9 g e9 hg hgl hgn => ⟨_, _, g, _, rfl, ?_⟩
  have st := st.e0 e9
  refine varI rfl rfl fun h10 s10 b10 e10 => ?_
  have st := st.e0 e10
  rw [if_pos (by decide), if_pos (by decide)]
  refine Sees_s st.log st.rel fun h11 e11 => ⟨_, rfl, ?_⟩
  have st := st.e0 e11
  rw [if_pos (by decide)]
  refine Sees_s st.log st.rel fun h12 e12 => ⟨_, rfl, ?_⟩
  have st := st.e0 e12
  rw [if_pos (by decide)]
  rw [wthE]
  have hu2 := ((((((hu.ext0 e8).ext0 e9).ext0 e10).ext0 e11).ext0 e12).ext0 (Ext.push [] h12 (Obj.cells #[Value.int .i64 1] T_int)))
  refine Ints_s hu2 (ints_one h12 1) (by decide) ⟨_, rfl, ?_⟩
  rw [if_pos (by decide), if_pos (by decide), if_pos (by decide), if_pos (by decide)]
  have b13 := push_old (e12.get (e11.get b10 (by simp)) (by simp)) (Obj.cells #[Value.int .i64 1] T_int)
  refine ⟨_, by simp [rd_blk b13]; rfl, ?_⟩
  rw [if_pos (by decide)]
  refine ⟨g, by simp [rd_blk b13], ?_⟩
  have hone : g.n = 1 := hgl
  rw [hone]
  exact hQ _ (st.ext.pushR _)

def begs : Nat → LogM → LogM
  | 0, L => L
  | k + 1, L => (begs k L).begin false
def LA (k : Nat) : LogM := begs k ((log0.begin false).commit 1)
def RA : RelM := rel0.ins 1 row5
def RB : RelM := RA.del 2 0
def LB (c : Bool) (k : Nat) : LogM := if c = true then (LA k).commit 2 else (LA k).abort 2
theorem first_facts (c : Bool) (k : Nat) (h1 : 2 ≤ k) (h2 : k ≤ 6) :
    RA.may (LA k) 2 0 = (0, 0) ∧ RB.may (LA k) 3 0 = (75, 2) ∧ RB.sees (LA k) 2 0 = false ∧ RB.sees (LA k) 3 0 = true ∧ RB.unseen (LA k) 3 0 = [2] ∧ RB.may (LB c k) 3 0 = (if c = true then (71, 2) else (0, 0)) ∧
      RB.sees ((LB c k).begin false) 3 0 = true ∧ (LB c k).n ≠ 200 ∧ RB.sees ((LB c k).begin false) ((LB c k).n + 1) 0 = !c ∧ RB.unseen ((LB false k).begin false) 3 0 = [] ∧ (LA k).clock = 1 := by
  rcases (by omega : k = 2 ∨ k = 3 ∨ k = 4 ∨ k = 5 ∨ k = 6) with rfl | rfl | rfl | rfl | rfl <;> cases c <;> decide
theorem LA_n (k : Nat) (h2 : k ≤ 6) : (LA k).n = k + 1 := by
  rcases (by omega : k = 0 ∨ k = 1 ∨ k = 2 ∨ k = 3 ∨ k = 4 ∨ k = 5 ∨ k = 6) with rfl | rfl | rfl | rfl | rfl | rfl | rfl <;> rfl
theorem HeapFirst_s {h0 : Hp} {c : Bool} {more : Int} (hm : 0 ≤ more ∧ more < 256) (hQ : ∀ h', Ext [] h0 h' → Q [.bool true] h') : F_liverylaw09_HeapFirst c more h0 Q := by
  unfold F_liverylaw09_HeapFirst
  refine New_s fun h1 l1 e1 s1 => ⟨_, rfl, ?_⟩
  refine HNew_s fun h2 r2 e2 => ⟨_, rfl, ?_⟩
  have st : St h0 h2 h0.size (h1.size + 1) h1.size log0 rel0 := ⟨l1.ext e2 (by simp), r2, e1.trans0 e2, Nat.le_refl _, by omega, by omega⟩
  generalize h0.size = p at *
  generalize h1.size + 1 = r at *
  generalize h1.size = m at *
  clear l1 r2 e1 e2 s1
  intro J hJ
  rw [if_neg (by simp)]
  refine hJ _ _ ?_
  rw [if_neg (by simp)]
  refine Begin_s st.log fun h3 l3 e3 => ⟨_, _, rfl, ?_⟩
  have st := st.eL e3 l3
  refine one9_s fun h5 s hs hn e5 => ⟨s, rfl, ?_⟩
  have st := st.e0 e5
  refine Insert_s st.rel hs.reads (show s.n ≤ 2 ^ 20 by omega) fun h6 r6 e6 => ⟨_, _, rfl, ?_⟩
  have st := st.eR e6 r6
  rw [if_neg (by decide)]
  refine Commit_s st.log (by decide) fun h7 l7 e7 => ⟨_, _, rfl, ?_⟩
  have st : St h0 h7 p r m (LA 0) RA := st.eL e7 l7
  have hmod : more.tmod 5 = more % 5 := Int.tmod_eq_emod_of_nonneg hm.1
  have hk : ∃ k : Nat, 2 ≤ k ∧ k ≤ 6 ∧ (2 + more % 5 : Int) = k := ⟨(2 + more % 5).toNat, by omega, by omega, by omega⟩
  obtain ⟨k, hk1, hk2, hk3⟩ := hk
  obtain ⟨f1, f2, f3, f4, f5, f6, f7, f8, f9, f10, f11⟩ := first_facts c k hk1 hk2
  intro X hX
  rw [wrap64 (x := more) (by omega) (by omega), hmod, hk3, wrap64 (x := (k : Int)) (by omega) (by omega)] at hX
  have key : ∀ d i h, d + i = k → St h0 h p r m (LA i) RA → X [.int .i64 (i : Int)] h := by
    intro d
    induction d with
    | succ d ih =>
      intro i h hi st
      refine hX _ _ ⟨by decide, ?_⟩
      rw [if_pos (by simp; omega)]
      refine Begin_s st.log fun h8 l8 e8 => ⟨_, _, rfl, ?_⟩
      rw [wrap64 (by omega) (by omega)]
      exact ih (i + 1) h8 (by omega) (st.eL e8 l8)
    | zero =>
      intro i h hi st
      have hi : i = k := by omega
      subst hi
      refine hX _ _ ⟨by decide, ?_⟩
      rw [if_neg (by simp)]
      refine May_s st.log st.rel fun h8 e8 => ⟨_, _, rfl, ?_⟩
      have st := st.e0 e8
      rw [f1]
      intro J2 hJ2
      rw [if_neg (by decide)]
      refine Delete_s st.rel fun h9 r9 e9 => ⟨_, rfl, ?_⟩
      have st : St h0 h9 p r m (LA i) RB := st.eR e9 r9
      refine hJ2 _ _ ?_
      rw [if_neg (by decide)]
      refine May_s st.log st.rel fun h10 e10 => ⟨_, _, rfl, ?_⟩
      have st := st.e0 e10
      rw [f2]
      intro J3 hJ3
      rw [if_neg (by decide), if_neg (by decide)]
      refine Sees_s st.log st.rel fun h11 e11 => ⟨_, rfl, ?_⟩
      have st := st.e0 e11
      rw [f3, if_neg (by decide)]
      refine Sees_s st.log st.rel fun h12 e12 => ⟨_, rfl, ?_⟩
      have st := st.e0 e12
      rw [f4, if_neg (by decide)]
      refine Unseen_s st.log st.rel fun h13 u e13 hu => ⟨u, rfl, ?_⟩
      have st := st.e0 e13
      rw [f5] at hu
      rw [wthE]
      refine Ints_s (hu.ext0 (Ext.push [] h13 (Obj.cells #[Value.int .i64 2] T_int))) (ints_one h13 2) (by decide) ⟨_, rfl, ?_⟩
      have st := st.e0 (Ext.push [] h13 (Obj.cells #[Value.int .i64 2] T_int))
      refine hJ3 _ _ ?_
      rw [if_neg (by decide)]
      intro J4 hJ4
      have rest : ∀ h, St h0 h p r m (LB c i) RB → J4 [] h := by
        intro h st
        refine hJ4 _ ?_
        refine May_s st.log st.rel fun h8 e8 => ⟨_, _, rfl, ?_⟩
        have st := st.e0 e8
        refine Begin_s st.log fun h9 l9 e9 => ⟨_, _, rfl, ?_⟩
        have st := st.eL e9 l9
        intro J5 hJ5
        rw [if_neg f8]
        refine Sees_s st.log st.rel fun h10 e10 => ⟨_, rfl, ?_⟩
        have st := st.e0 e10
        rw [f7, if_neg (by decide)]
        refine Sees_s st.log st.rel fun h11 e11 => ⟨_, rfl, ?_⟩
        have st := st.e0 e11
        rw [f9]
        refine hJ5 _ _ ?_
        rw [if_neg (by cases c <;> decide), f6]
        cases c with
        | true =>
          simp only [if_true]
          intro J6 hJ6
          rw [if_pos (by decide), if_pos (by decide)]
          refine wakes_s fun h12 e12 => ⟨_, rfl, ?_⟩
          exact hJ6 _ _ (hQ _ (st.ext.trans0 e12))
        | false =>
          simp only [Bool.false_eq_true, if_false]
          rw [if_pos (by decide), if_pos (by decide)]
          refine Unseen_s st.log st.rel fun h12 u e12 hu => ⟨u, rfl, ?_⟩
          rw [f10] at hu
          have hz : u.n = 0 := hu.1
          rw [if_pos (by simp [hz])]
          refine wakes_s fun h13 e13 => ⟨_, rfl, ?_⟩
          exact hQ _ ((st.ext.trans0 e12).trans0 e13)
      cases c with
      | true =>
        rw [if_pos rfl]
        refine Commit_s st.log (by rw [f11]; decide) fun h14 l14 e14 => ⟨_, _, rfl, ?_⟩
        exact rest _ (st.eL e14 l14)
      | false =>
        rw [if_neg (by decide)]
        refine Abort_s st.log fun h14 l14 e14 => ⟨_, rfl, ?_⟩
        exact rest _ (st.eL e14 l14)
  exact key k 0 h7 (by omega) st
end
end Go.Lift

/- The reference: Wrote, Begin. -/
import Derived.Test.YtdgkfjbmlfmimaaGreatS16h
set_option linter.unusedSimpArgs false
set_option linter.unusedVariables false
namespace Go.Lift.E14
open Go Go.Proofs Go.RowKit
set_option maxRecDepth 100000
theorem inFold_ok {ins : List Int} (L : LM) (t3 : Int) : ∀ (l : List Int) (v : List Int × Bool), (∀ t ∈ l, t ∈ ins) → VOk ins v → VOk ins (l.foldl (inStep L t3) v)
 | [], _, _, h => h
 | t :: l, v, hl, h => by
  rw [List.foldl_cons]
  exact inFold_ok L t3 l _ (fun x hx => hl x (by simp [hx])) (h.inStep L t3 (hl t (by simp)))
theorem outFold_ok (L : LM) (M : EM) (p : Int) : ∀ (l : List Int) (v : List Int × Bool), VOk (endR M p 1) v → VOk (endR M p 1) (l.foldl (outStep L M p) v)
 | [], _, h => h
 | t :: l, v, h => by
  rw [List.foldl_cons]
  refine outFold_ok L M p l _ ?_
  unfold outStep
  split
  ·exact h
  ·exact inFold_ok L t _ _ (fun _ hx => hx) h
theorem spoiltR_le (L : LM) (M : EM) (p : Int) : (spoiltR L M p).1.length ≤ M.m.length := by
 have h1 : VOk (endR M p 1) (spoiltR L M p) := outFold_ok L M p _ _ ⟨List.Pairwise.nil, fun x hx => by cases hx⟩
 have h2 := h1.len
 have h3 : (endR M p 1).length ≤ M.m.length := by
  unfold endR
  rw [List.length_map]
  exact List.length_filter_le _ _
 omega
theorem RB.sl {R : RsM} {n : Nat} (hb : RB n R) (hn : n ≤ 2 ^ 30) : SL R := fun p => by have := spoiltR_le R.L R.E p; have := hb.m; omega
def beginR (R : RsM) (r : Bool) : RsM := { R with L := beginL R.L r, safe := if R.L.l.length ≠ 200 ∧ r = true ∧ aloneB R.L = true then R.safe ++ [(R.L.l.length : Int) + 1] else R.safe }
section
variable {G : Nat → Prop} {h h' : Hp} {q rb tb eb : Nat} {R : RsM} {Q : List Value → Hp → Prop} {n : Nat}
theorem snocI {c : Nat} {s : Sl} {xs : List Int} {x : Int} {K : Hp → Prop} (hrd : ∀ {g : Hp}, Ext [] h g → rd g (Addr.add ⟨q, 0, none⟩ c) = some (.slice s.a s.n s.c)) (ho : Own T_int 1 encIL 0 h s xs) (hl : xs.length ≤ 2 ^ 28)
  (H : ∀ g (l : Sl), Ext [] h g → Own T_int 1 encIL h.size g l (xs ++ [x]) → stOk g (Addr.add ⟨q, 0, none⟩ c) 1 ∧ wth (wrs g (Addr.add ⟨q, 0, none⟩ c) 0 [.slice l.a l.n l.c]) K) :
  wth (Array.push h (Obj.cells #[] T_int)) fun h34 => nilW (some ⟨q, 0, none⟩) fun a35 => ∃ l36 : Sl, rd h34 (Addr.add a35 c) = some (Value.slice l36.a l36.n l36.c) ∧
   ∃ cs45 : List Value, cellsAt h34 l36.a (l36.n * 1) cs45 ∧ appS PP T_int 8 1 h34 ⟨(some (Addr.mk (Array.size h) 0 none)), 0, 0⟩ l36.n cs45 fun (l37 : Sl) (h38 : Hp) =>
   wth (Array.push h38 (Obj.cells #[(Value.int .i64 x)] T_int)) fun h39 =>
   ∃ cs44 : List Value, cellsAt h39 (some (Addr.mk (Array.size h38) 0 none)) (1 * 1) cs44 ∧ appS PP T_int 8 1 h39 ⟨l37.a, l37.n, l37.c⟩ 1 cs44 fun (l40 : Sl) (h41 : Hp) =>
   nilW (some ⟨q, 0, none⟩) fun a42 => stOk h41 (Addr.add a42 c) 1 ∧ wth (wrs h41 (Addr.add a42 c) 0 [(Value.slice l40.a l40.n l40.c)]) fun h43 => K h43 := by
 refine newI fun g2 z2 b2 e2 => ?_
 rw [nilW_some]
 refine ⟨s, hrd e2, ?_⟩
 have ho2 := ho.ext0 e2
 have hn := ho.1
 refine clG encIL_len encIL_one zcInt (by decide) (lo' := h.size) ho2.sl.reads.2.2 ho2.1 (by omega) b2 (Nat.le_refl _) fun l1 g3 o3 e3 hb3 => ?_
 refine newI fun g4 z4 b4 e4 => ?_
 have o4 := o3.ext0 e4
 have z3 := e3.sz
 refine oneG encIL_len encIL_one zcInt (by decide) (k := x) o4 b4 (by omega) (by omega) fun l2 g5 o5 e5 hb5 => ?_
 have e15 : Ext [] h g5 := (((e2.trans e3 fun b hb hlt => by simp at hb; omega).trans0 e4).trans e5 fun b hb hlt => by have := o4.blk b hb; omega)
 rw [nilW_some]
 exact H g5 l2 e15 o5
theorem wsteps_RB (x : Int) : ∀ (l : List Int) {n : Nat} {R : RsM}, RB n R → RB (n + l.length) (l.foldl (wstepR x) R)
 | [], _, _, h => h
 | y :: l, n, R, h => by
  rw [List.foldl_cons, List.length_cons, Nat.add_comm l.length 1, ← Nat.add_assoc]
  exact wsteps_RB x l (h.wstep x y)
theorem Wrote_q (hR : Rz G h q rb tb eb R) (hb : RB n R) (hn : n + 202 ≤ 2 ^ 20) (x : Int) (y : ThingM) (hw : (ownersQ R.T y).length ≤ 201) (hQ : ∀ h', Rz G h' q rb tb eb (wroteR R x y) → KG G h h' → Q [] h') : S_liveryref15_Ssi_Wrote (some ⟨q, 0, none⟩) x y.kind y.name y.rel y.index y.n h Q := by
 refine O_liveryref15_Ssi_Wrote _ _ _ _ _ _ _ ?_
 unfold F_liveryref15_Ssi_Wrote
 refine newI fun h1 s1 b1' e1 => ?_
 have b1 : Blk h1 h.size (encT y).toArray T_liveryref13_Thing := b1'
 have hR1 := hR.e0 e1
 refine runs_q hR1 x fun g1 eg1 => ⟨_, rfl, ?_⟩
 have e01 := e1.trans0 eg1
 unfold wroteR at hQ
 by_cases hr : runsB R.L x = true
 ·rw [if_neg (by rw [hr]; decide), nilW_some]
  rw [if_pos hr] at hQ
  have hR2 := hR.e0 e01
  refine ⟨_, hR2.fld.2.1, ?_⟩
  refine rd5I (eg1.get b1 (by simp)) ?_
  obtain ⟨sT, hta, _⟩ := hR2.onT
  have hbt := hb.t
  refine OwnersT_s hta y (by omega) fun g2 l e2 ho => ⟨l, rfl, ?_⟩
  have e02 := e01.trans0 e2
  have hR3 := hR.gx e02
  have hz := e01.sz
  intro X hX
  have key : ∀ d i g R', d + i = (ownersQ R.T y).length → Rz (GX G h g2) g q rb tb eb R' → RB (n + i) R' → R' = ((ownersQ R.T y).take i).foldl (wstepR x) R → KG (GX G h g2) g2 g → X [.int .i64 (i : Int)] g := by
   intro d
   induction d with
   | zero =>
    intro i g R' hi hR' hb' he kg
    refine hX _ _ ?_
    have hn1 := ho.1
    rw [if_neg (by simp; omega)]
    rw [List.take_of_length_le (by omega)] at he
    subst he
    exact hQ g (hR'.less fun b hb => Or.inl hb) ((Rz.kgE e02 hR).trans (kg.anti fun b hb => Or.inl hb))
   | succ d ih =>
    intro i g R' hi hR' hb' he kg
    have hil : i < (ownersQ R.T y).length := by omega
    have hov := own_kg' ho kg fun b h1 h2 => Or.inr ⟨by omega, h2⟩
    have hn1 := ho.1
    refine hX _ _ ?_
    rw [if_pos (by simp; omega)]
    intro J hJ
    obtain ⟨a, ha, hrd⟩ := rdI hov.sl.reads hil
    have hst : ((ownersQ R.T y).take (i + 1)).foldl (wstepR x) R = wstepR x R' (ownersQ R.T y)[i] := by
     rw [List.take_add_one, List.getElem?_eq_getElem hil, Option.toList_some, List.foldl_append, ← he]
     rfl
    have go : ∀ g', Rz (GX G h g2) g' q rb tb eb (wstepR x R' (ownersQ R.T y)[i]) → KG (GX G h g2) g g' → J [] g' := by
     intro g' hR2 k2
     refine hJ _ ?_
     rw [wrap64 (by omega) (by omega)]
     exact ih (i + 1) g' _ (by omega) hR2 (hb'.wstep x _) hst.symm (kg.trans k2)
    generalize (ownersQ R.T y)[i] = who at hrd go
    have hbm := hb'.m
    have hbo := hb'.o
    rw [ha]
    simp only [nilW_some, Int.toNat_natCast]
    refine ⟨by omega, by omega, _, hrd, ?_⟩
    unfold wstepR at go
    by_cases h0 : who = 0
    ·rw [if_pos (by simpa using h0)]
     rw [if_pos h0] at go
     refine ⟨_, hR'.fld.2.2.1, _, hR'.fld.2.1, ?_⟩
     rw [nilW_some]
     obtain ⟨sT2, hta2, _⟩ := hR'.onT
     refine ⟨_, hta2.rd.2.2.2, ?_⟩
     obtain ⟨s08, hra, _⟩ := hR'.onL
     obtain ⟨sl, so, hqa, hset⟩ := hR'.onQ
     refine OldInR_s hqa hra x R'.T.csn (by omega) (Nat.zero_le _) fun g3 so' hq3 e3 hs3 => ⟨_, rfl, ?_⟩
     obtain ⟨hR4, k4⟩ := hset hq3 e3 fun c hc => by
      rcases hc with g | g
      ·exact Or.inl (Or.inl g)
      ·exact (hs3 c g).imp Or.inr id
     by_cases hok : oldOkR R'.L R'.E x R'.T.csn
     ·rw [if_pos (decide_eq_true hok)]
      rw [if_pos hok] at go
      have hb4 := hb'.oldIn x R'.T.csn
      exact pivot_q hR4 hb4 (by omega) x (hb4.sl (by omega) x) fun g5 hR5 k5 => ⟨rfl, go g5 hR5 (k4.trans k5)⟩
     ·rw [if_neg (by simpa using hok)]
      rw [if_neg hok] at go
      have hE : oldInR R'.L R'.E x R'.T.csn = R'.E := by unfold oldInR; rw [if_neg hok]
      rw [hE] at hR4
      exact go g3 hR4 k4
    ·rw [if_neg (by simpa using h0)]
     rw [if_neg h0] at go
     refine ⟨by omega, by omega, _, hrd, ?_⟩
     by_cases hx : who = x
     ·rw [if_neg (by simpa using hx)]
      rw [if_neg (by simpa using hx)] at go
      exact go g hR' (KG.refl _ _)
     ·rw [if_pos (by simpa using hx)]
      rw [if_pos hx] at go
      refine ⟨by omega, by omega, _, hrd, ?_⟩
      exact edge_q hR' hb' (by omega) who x ((hb'.add who x).sl (by omega)) fun g3 hR3 k3 => ⟨rfl, go g3 hR3 k3⟩
  have := key (ownersQ R.T y).length 0 g2 R (by omega) hR3 hb (by simp) (KG.refl _ _)
  simpa using this
 ·rw [if_pos (by simpa using hr)]
  rw [if_neg hr] at hQ
  exact hQ g1 (hR.e0 e01) (Rz.kgE e01 hR)
theorem Begin_q (hR : Rz G h q rb tb eb R) (hb : RB n R) (hn : n ≤ 2 ^ 20) (r : Bool) (hQ : ∀ h', Rz G h' q rb tb eb (beginR R r) → KG G h h' → Q [.int .i64 (if R.L.l.length = 200 then 0 else (R.L.l.length : Int) + 1), .int .i64 (if R.L.l.length = 200 then 74 else 0)] h') : S_liveryref15_Ssi_Begin (some ⟨q, 0, none⟩) r h Q := by
 refine O_liveryref15_Ssi_Begin _ _ ?_
 unfold F_liveryref15_Ssi_Begin
 rw [nilW_some]
 refine ⟨_, hR.fld.1, ?_⟩
 obtain ⟨s08, hra, _⟩ := hR.onL
 refine RunningR_s hra fun g1 l e1 ho => ⟨l, rfl, ?_⟩
 have hn1 := ho.1
 have hln := running_len R.L
 have hl200 := hb.l
 intro X hX
 have key : ∀ d i g (b : Bool), d + i = (runningL R.L).length → Ext [] h g → Own T_int 1 encIL h.size g l (runningL R.L) → b = !((runningL R.L).take i).any (fun x => !(txL R.L x).reads) → X [.bool b, .int .i64 (i : Int)] g := by
  intro d
  induction d with
  | zero =>
   intro i g b hi eg hog hbb
   refine hX _ _ _ ?_
   rw [if_neg (by simp; omega), nilW_some]
   rw [List.take_of_length_le (by omega)] at hbb
   have hba : b = aloneB R.L := hbb
   have hRg := hR.e0 eg
   refine ⟨_, hRg.fld.1, ?_⟩
   obtain ⟨s8, hr8, hset⟩ := hRg.onL
   refine BeginR_s hr8 r (Nat.zero_le _) fun g2 s2 hR2 e2 hs2 => ⟨_, _, rfl, ?_⟩
   obtain ⟨hR3, k3⟩ := hset hR2 e2 (fun b hb => by simp at hb; exact Or.inl hb) hs2
   have k03 := (Rz.kgE eg hR).trans k3
   intro J29 hJ29
   by_cases hf : R.L.l.length = 200
   ·rw [if_pos hf, if_neg (by decide)]
    rw [if_pos hf, if_pos hf] at hQ
    rw [if_pos hf, if_pos hf] at hJ29
    exact hJ29 false g2 fun J32 hJ32 => by
     rw [if_neg (by decide)]
     refine hJ32 _ ?_
     unfold beginR at hQ
     rw [if_neg (fun q => q.1 hf)] at hQ
     exact hQ g2 hR3 k03
   ·rw [if_neg hf, if_neg hf] at hJ29 hQ
    rw [if_neg hf, if_pos (by rfl)]
    cases r with
    | false =>
     rw [if_neg (by decide)]
     refine hJ29 _ _ fun J32 hJ32 => ?_
     rw [if_neg (by decide)]
     refine hJ32 _ ?_
     unfold beginR at hQ
     rw [if_neg (fun q => by have := q.2.1; cases this)] at hQ
     exact hQ g2 hR3 k03
    | true =>
     rw [if_pos rfl]
     refine hJ29 _ _ fun J32 hJ32 => ?_
     unfold beginR at hQ
     cases hal : aloneB R.L with
     | false =>
      rw [hal] at hba
      subst hba
      rw [if_neg (by decide)]
      refine hJ32 _ ?_
      rw [if_neg (fun q => by have := q.2.2; rw [hal] at this; cases this)] at hQ
      exact hQ g2 hR3 k03
     | true =>
      rw [hal] at hba
      subst hba
      rw [if_pos rfl]
      rw [if_pos ⟨hf, rfl, hal⟩] at hQ
      obtain ⟨sf, hrd, hof⟩ : ∃ sd : Sl, (∀ {g : Hp}, Ext [] g2 g → rd g (Addr.add ⟨q, 0, none⟩ 4) = some (.slice sd.a sd.n sd.c)) ∧ Own T_int 1 encIL 0 g2 sd R.safe := by
       obtain ⟨w, a1, a2, a3, a4, a5, a6, a7, hA⟩ := hR3
       exact ⟨a6, fun e => by rw [addr_mk, rd_blk (e.get hA.blk (by simp))]; rfl, hA.ff⟩
      have hbf := hb.f
      refine snocI hrd hof (by omega) fun g4 l4 e4 o4 => ?_
      refine hR3.setF e4 o4 fun g5 hR5 k5 => ?_
      refine hJ32 _ ?_
      exact hQ g5 hR5 (k03.trans k5)
  | succ d ih =>
   intro i g b hi eg hog hbb
   have hil : i < (runningL R.L).length := by omega
   refine hX _ _ _ ?_
   rw [if_pos (by simp; omega)]
   intro J hJ
   have hRg := hR.e0 eg
   obtain ⟨a, ha, hrd⟩ := rdI hog.sl.reads hil
   rw [nilW_some]
   refine ⟨_, hRg.fld.1, ?_⟩
   rw [ha]
   simp only [nilW_some, Int.toNat_natCast]
   refine ⟨by omega, by omega, _, hrd, ?_⟩
   obtain ⟨s8, hr8, _⟩ := hRg.onL
   refine Get_s hr8 _ fun g2 e2 => ⟨_, _, _, _, rfl, ?_⟩
   have hst := any_step (fun x => !(txL R.L x).reads) (runningL R.L) hil
   have go : ∀ b', b' = !((runningL R.L).take (i + 1)).any (fun x => !(txL R.L x).reads) → J [.bool b'] g2 := by
    intro b' hb'
    refine hJ _ _ ?_
    rw [wrap64 (by omega) (by omega)]
    exact ih (i + 1) g2 b' (by omega) (eg.trans0 e2) (hog.ext0 e2) hb'
   by_cases hrr : (txL R.L (runningL R.L)[i]).reads = true
   ·rw [if_neg (by rw [hrr]; decide)]
    refine go b ?_
    rw [hst, hrr, hbb]
    simp
   ·rw [if_pos (by simpa using hrr)]
    refine go false ?_
    rw [hst]
    simp [hrr]
 have := key (runningL R.L).length 0 g1 true (by omega) e1 ho (by simp)
 simpa using this
end
end Go.Lift.E14
namespace Go.Lift.E14
open Go Go.Proofs Go.RowKit
set_option maxRecDepth 100000
def neededR (L : LM) (x : Int) : Bool := (runningL L).any fun r => decide ((txL L r).snap < (txL L x).csn)
def foldKR (L : LM) (keep : Int) : List Int → QT → QT × List Int
 | [], T => (T, [])
 | k :: l, T => if keep < ((l.length + 1 : Nat) : Int) then foldKR L keep l (foldQ T k (txL L k).csn) else (T, k :: l)
def dropsR (L : LM) (T : QT) (x : Int) : QT := if neededR L x = true then T else dropQ T x
def cleanR (R : RsM) : RsM :=
 let r := foldKR R.L R.keep (R.keeps.filter (neededR R.L)) (R.keeps.foldl (dropsR R.L) R.T)
 { R with T := if r.2 = [] ∧ runningL R.L = [] then dropQ r.1 0 else r.1, keeps := r.2 }
theorem ofFold_len (o : Int) : ∀ (l : List OT) (out : List ThingM), (l.foldl (ofStep o) out).length = out.length + (l.filter fun y => decide (y.1 = o)).length
 | [], out => by simp
 | y :: l, out => by
  rw [List.foldl_cons, ofFold_len o l]
  unfold ofStep
  by_cases h : y.1 = o
  ·rw [if_pos h, insC_len]
   simp [h]
   omega
  ·rw [if_neg h]
   simp [h]
theorem filter_part {α : Type} (f : α → Bool) : ∀ (l : List α), (l.filter f).length + (l.filter fun x => !f x).length = l.length
 | [] => rfl
 | x :: l => by
  have ih := filter_part f l
  cases h : f x <;> simp [h] <;> omega
theorem takesQ_len : ∀ (l : List ThingM) (T : QT), (l.foldl (fun T x => takeQ T 0 x) T).l.length ≤ T.l.length + l.length
 | [], T => by simp
 | x :: l, T => by
  rw [List.foldl_cons, List.length_cons]
  have := takesQ_len l (takeQ T 0 x)
  have := takeQ_len T 0 x
  omega
theorem foldQ_len (T : QT) (o c : Int) : (foldQ T o c).l.length ≤ T.l.length := by
 unfold foldQ
 split
 ·omega
 ·simp only
  have h1 := takesQ_len (ofQ T o) (dropQ T o)
  have h2 := ofFold_len o T.l []
  have h3 := filter_part (fun y : OT => decide (y.1 = o)) T.l
  have h4 : (dropQ T o).l = T.l.filter fun y => !decide (y.1 = o) := by
   unfold dropQ
   simp only
   congr 1
   funext y
   simp
  have h5 : (ofQ T o).length = (T.l.filter fun y => decide (y.1 = o)).length := by unfold ofQ; simpa using h2
  rw [h4] at h1
  omega
theorem dropsR_len (L : LM) (T : QT) (x : Int) : (dropsR L T x).l.length ≤ T.l.length := by
 unfold dropsR
 split
 ·omega
 ·exact List.length_filter_le _ _
section
variable {G G2 : Nat → Prop} {h h' : Hp} {q rb tb eb : Nat} {R : RsM} {Q : List Value → Hp → Prop} {n : Nat}
/-- A list that stood outside is one's own. -/
theorem Rz.takeK (hR : Rz G2 h q rb tb eb R) {lo : Nat} {s' : Sl} {d : List Int} (ho : Own T_int 1 encIL lo h s' d) (hs : ∀ b ∈ sBlk s', G2 b) (hG : ∀ b, G b → G2 b ∧ b ∉ sBlk s') {K : Hp → Prop} (H : ∀ h', Rz G h' q rb tb eb { R with keeps := d } → KG G h h' → K h') :
  stOk h (Addr.add ⟨q, 0, none⟩ 5) 1 ∧ wth (wrs h (Addr.add ⟨q, 0, none⟩ 5) 0 [.slice s'.a s'.n s'.c]) K := by
 obtain ⟨w, s08, sT, sl, so, sd, sf, sk, hA⟩ := hR
 rw [addr_mk]
 have hq : q < h.size := hA.lt.1
 refine st_blk hA.blk (by simp [qCells]) fun h2 z2 b2 e2 => ?_
 have hq1 := hA.wq
 obtain ⟨p1, p2, p3, p4, p5, p6, p7, p8, p9, p10, p11, p12, p13, p14, p15, p16, p17, p18, p19, p20⟩ := hA.part (h' := h2) 7 e2.sz (fun b hb _ hne => e2.old b hb (by simpa using hne)) (by decide)
 obtain ⟨w', hw'⟩ : ∃ w' : Nat → Nat, w' = fun b => if b ∈ sBlk s' then 7 else wx w h 7 b := ⟨_, rfl⟩
 have wy : ∀ b, b ∈ sBlk s' → w' b = 7 := fun b hb => by rw [hw']; simp [hb]
 have wn : ∀ b, b ∉ sBlk s' → w' b = wx w h 7 b := fun b hb => by rw [hw']; simp [hb]
 have out : ∀ b, b ∈ sBlk s' → wx w h 7 b = 0 := fun b hb => (p1 b (hs b hb)).1
 have keep : ∀ {b j : Nat}, wx w h 7 b = j → j ≠ 0 → w' b = j := fun {b j} e hj => by rw [wn b fun hm => by have := out b hm; omega]; exact e
 have hnq : q ∉ sBlk s' := fun hm => by have := out q hm; omega
 exact H h2 ⟨w', _, _, _, _, _, _, _, fun b hb => ⟨by rw [wn b (hG b hb).2]; exact (p1 b (hG b hb).1).1, (p1 b (hG b hb).1).2⟩, b2, keep p4 (by decide), p5 (by decide), keep p6 (by decide), fun c hc => keep (p7 c hc) (by decide), p8 (by decide), keep p9 (by decide), fun c hc => keep (p10 c hc) (by decide),
  p11 (by decide), keep p12 (by decide), fun c hc => keep (p13 c hc) (by decide), fun c hc => keep (p14 c hc) (by decide), p15 (by decide), fun c hc => keep (p16 c hc) (by decide), p17 (by decide), fun c hc => keep (p18 c hc) (by decide),
  (ho.ext e2 fun a ha hm => by simp at hm; exact hnq (mem_sBlk.2 ⟨a, ha, hm⟩)).mono (Nat.zero_le _), wy⟩ (p2.anti fun b hb => (hG b hb).1)
theorem clean_q (hR : Rz G h q rb tb eb R) (hb : RB n R) (hn : n ≤ 2 ^ 20) (hord : R.keeps.Pairwise fun x y => (txL R.L x).csn < (txL R.L y).csn) (hQ : ∀ h', Rz G h' q rb tb eb (cleanR R) → KG G h h' → Q [] h') : S_liveryref15_Ssi_clean (some ⟨q, 0, none⟩) h Q := by
 refine O_liveryref15_Ssi_clean _ ?_
 unfold F_liveryref15_Ssi_clean
 rw [nilW_some]
 refine ⟨_, hR.fld.1, ?_⟩
 obtain ⟨s08, hra, _⟩ := hR.onL
 refine RunningR_s hra fun g1 l e1 hol => ⟨l, rfl, ?_⟩
 have hnl := hol.1
 have hln := running_len R.L
 have hl200 := hb.l
 have hkl := hb.k
 have hkp := hb.p
 have hbt := hb.t
 intro X hX
 have hz1 := e1.sz
 have key : ∀ d i g (G2 : Nat → Prop) (T : QT) (st : Sl), d + i = R.keeps.length → Rz G2 g q rb tb eb { R with T := T } → T = (R.keeps.take i).foldl (dropsR R.L) R.T → T.l.length ≤ R.T.l.length → (∀ b, G b → G2 b) → (∀ b ∈ sBlk l, G2 b) → (∀ b ∈ sBlk st, G2 b) → KG G h g → Own T_int 1 encIL h.size g l (runningL R.L) → Own T_int 1 encIL g1.size g st ((R.keeps.take i).filter (neededR R.L)) → g1.size ≤ g.size → X [.slice st.a st.n st.c, .int .i64 (i : Int)] g := by
  intro d
  induction d with
  | zero =>
   intro i g G2 T st hi hRg hT hTl hG hGl hGs kg ho hos hz
   refine hX _ _ _ ?_
   rw [nilW_some]
   obtain ⟨sk, hrk, hok⟩ := hRg.rdK
   have hnk := hok.1
   simp only at hnk
   refine ⟨sk, hrk (Ext.refl _ _), ?_⟩
   rw [if_neg (by simp; omega), nilW_some]
   rw [List.take_of_length_le (by omega)] at hT hos
   refine hRg.takeK (G := G) hos hGs (fun b hb => ⟨hG b hb, fun hm => by have := hos.blk b hm; have := hR.lt hb; omega⟩) fun g2 hR2 k2 => ?_
   have kg2 := kg.trans k2
   simp only at hR2
   intro X62 hX62
   have hfin : ∀ g3 T3 ks3, Rz G g3 q rb tb eb { R with T := T3, keeps := ks3 } → T3.l.length ≤ R.T.l.length → KG G h g3 → foldKR R.L R.keep (R.keeps.filter (neededR R.L)) T = (T3, ks3) → ∀ J130 : List Value → Hp → Prop, (∀ b131 : Bool, ∀ h132 : Hp, ((if b131 = true then
           (nilW (some ⟨q, 0, none⟩) fun a133 => ∃ p134 : Option Addr, rd h132 (Addr.add a133 1) = some (Value.pointer p134) ∧
            S_liveryref13_Table_Drop p134 (0 : Int) h132 fun (vs135 : List Value) (h136 : Hp) =>
            vs135 = [] ∧
            Q [] h136) else
           (Q [] h132))) → J130 [(Value.bool b131)] h132) →
        (if ((ks3.length : Int) == (0 : Int)) = true then (J130 [(Value.bool ((l.n : Int) == (0 : Int)))] g3) else
         (J130 [(Value.bool false)] g3)) := by
    intro g3 T3 ks3 hR3 hT3 k3 hf J hJ
    have hcl : cleanR R = { R with T := if ks3 = [] ∧ runningL R.L = [] then dropQ T3 0 else T3, keeps := ks3 } := by
     unfold cleanR
     simp only
     rw [← hT, hf]
    rw [hcl] at hQ
    have no : ¬ (ks3 = [] ∧ runningL R.L = []) → J [.bool false] g3 := by
     intro hc
     refine hJ _ _ ?_
     rw [if_neg (by decide)]
     rw [if_neg hc] at hQ
     exact hQ g3 hR3 k3
    by_cases h0 : ks3 = []
    ·rw [if_pos (by rw [h0]; rfl)]
     by_cases h1 : runningL R.L = []
     ·have : ((l.n : Int) == 0) = true := by rw [hnl, h1]; rfl
      rw [this]
      refine hJ _ _ ?_
      rw [if_pos rfl, nilW_some]
      rw [if_pos ⟨h0, h1⟩] at hQ
      refine ⟨_, hR3.fld.2.1, ?_⟩
      obtain ⟨sT, hta, hset⟩ := hR3.onT
      refine DropT_s hta 0 (by simp only; omega) (Nat.zero_le _) fun g4 s4 hT4 e4 hs4 => ⟨rfl, ?_⟩
      obtain ⟨hR4, k4⟩ := hset hT4 e4 fun c hc => Or.inr (hs4 c hc)
      exact hQ g4 hR4 (k3.trans k4)
     ·have : ((l.n : Int) == 0) = false := by
       rw [hnl, decEq, decide_eq_false]
       intro e
       exact h1 (List.length_eq_zero_iff.1 (by omega))
      rw [this]
      exact no fun q => h1 q.2
    ·have : ¬ ((ks3.length : Int) == 0) = true := by
      rw [decEq, decide_eq_true_eq]
      intro e
      exact h0 (List.length_eq_zero_iff.1 (by omega))
     rw [if_neg this]
     exact no fun q => h0 q.1
   have keyW : ∀ (ks : List Int) (g3 : Hp) (T3 : QT), Rz G g3 q rb tb eb { R with T := T3, keeps := ks } → ks.length ≤ n → ks.Pairwise (fun x y => (txL R.L x).csn < (txL R.L y).csn) → T3.l.length ≤ R.T.l.length → KG G h g3 → foldKR R.L R.keep (R.keeps.filter (neededR R.L)) T = foldKR R.L R.keep ks T3 → X62 [] g3 := by
    intro ks
    induction ks with
    | nil =>
     intro g3 T3 hR3 hkn hpw hT3 k3 hf
     refine hX62 _ ?_
     rw [nilW_some]
     obtain ⟨sk3, hrk3, hok3⟩ := hR3.rdK
     have hnk3 := hok3.1
     simp only [List.length_nil] at hnk3
     refine ⟨sk3, hrk3 (Ext.refl _ _), ?_⟩
     rw [nilW_some]
     refine ⟨_, hR3.fld.2.2.2, ?_⟩
     rw [if_neg (by simp; omega)]
     intro J hJ
     rw [nilW_some]
     refine ⟨sk3, hrk3 (Ext.refl _ _), ?_⟩
     have := hfin g3 T3 [] hR3 hT3 k3 (by rw [hf]; rfl) J hJ
     rw [hnk3]
     exact this
    | cons k ks ihk =>
     intro g3 T3 hR3 hkn hpw hT3 k3 hf
     simp only [List.length_cons] at hkn
     refine hX62 _ ?_
     rw [nilW_some]
     obtain ⟨sk3, hrk3, hok3⟩ := hR3.rdK
     have hnk3 := hok3.1
     simp only [List.length_cons] at hnk3
     refine ⟨sk3, hrk3 (Ext.refl _ _), ?_⟩
     rw [nilW_some]
     refine ⟨_, hR3.fld.2.2.2, ?_⟩
     simp only
     by_cases hgt : R.keep < ((ks.length + 1 : Nat) : Int)
     ·rw [if_pos (by simp; omega)]
      have hf' : foldKR R.L R.keep (k :: ks) T3 = foldKR R.L R.keep ks (foldQ T3 k (txL R.L k).csn) := by
       show (if R.keep < ((ks.length + 1 : Nat) : Int) then _ else _) = _
       rw [if_pos hgt]
      rw [hf'] at hf
      intro X68 hX68
      have hel : ∀ {g' : Hp} (e' : Ext [] g3 g') (i : Nat) (hi : i < (k :: ks).length), ∃ a, sk3.a = some a ∧ rd g' (Addr.add a (i * 1)) = some (.int .i64 (k :: ks)[i]) := fun e' i hi => rdI (hok3.ext0 e').sl.reads hi
      obtain ⟨ad, had, hr0⟩ := hel (Ext.refl _ _) 0 (by simp)
      have hr0' : ∀ {g' : Hp}, Ext [] g3 g' → rd g' (Addr.add ad (Int.toNat (0 : Int) * 1)) = some (.int .i64 k) := fun e' => by
       obtain ⟨ad2, had2, h2⟩ := hel e' 0 (by simp)
       rw [had] at had2
       cases had2
       exact h2
      have keyM : ∀ d2 i g4, d2 + i = ks.length + 1 → 1 ≤ i → Ext [] g3 g4 → X68 [.int .i64 (0 : Int), .int .i64 (i : Int)] g4 := by
       intro d2
       induction d2 with
       | zero =>
        intro i g4 hi h1i e4
        have hR4 := hR3.e0 e4
        refine hX68 _ _ _ ?_
        simp only [nilW_some]
        refine ⟨sk3, hrk3 e4, ?_⟩
        rw [if_neg (by simp; omega)]
        refine ⟨sk3, hrk3 e4, ?_⟩
        rw [had, nilW_some]
        refine ⟨by omega, by omega, _, hr0' e4, _, hR4.fld.2.1, _, hR4.fld.1, ?_⟩
        obtain ⟨s8, hr8, _⟩ := hR4.onL
        refine Get_s hr8 k fun g5 e5 => ⟨_, _, _, _, rfl, ?_⟩
        have e45 := e4.trans0 e5
        have hR5 := hR3.e0 e45
        refine ⟨hR5.fld.2.1, ?_⟩
        obtain ⟨sT, hta, hset⟩ := hR5.onT
        refine FoldT_s hta k (txL R.L k).csn (by simp only; omega) (Nat.zero_le _) fun g6 s6 hT6 e6 hs6 => ⟨rfl, ?_⟩
        obtain ⟨hR6, k6⟩ := hset hT6 e6 hs6
        simp only at hR6
        have k06 := (k3.trans (Rz.kgE e45 hR3)).trans k6
        obtain ⟨sk6, hrk6, hok6⟩ := hR6.rdK
        have hnk6 := hok6.1
        simp only [List.length_cons] at hnk6
        have hcap6 := hok6.capN
        refine ⟨sk6, hrk6 (Ext.refl _ _), ⟨by decide, by omega⟩, sk6, hrk6 (Ext.refl _ _), ⟨by decide, by rw [wrap64 (by omega) (by omega)]; omega⟩, ?_⟩
        refine newI fun g7 z7 b7 e7 => ?_
        refine ⟨hrk6 e7, hrk6 e7, ?_⟩
        refine clG encIL_len encIL_one zcInt (by decide) (lo' := g6.size) (ys := []) ?_ (by simp) (by simp) b7 (Nat.le_refl _) fun l8 g8 o8 e8 hb8 => ?_
        ·have := takeCN encIL_len (hok6.ext0 e7) (c := 0) (Nat.zero_le _)
         simpa using this
        have e68 : Ext [] g6 g8 := e7.trans e8 fun b hb hlt => by simp at hb; omega
        have z8 := e8.sz
        refine ⟨hrk6 e68, ?_⟩
        have h1w : Int.toNat (IntKind.wrap .i64 ((0 : Int) + 1)) = 1 := by rw [wrap64 (by omega) (by omega)]; rfl
        rw [h1w]
        refine appG encIL_len encIL_one zcInt (by decide) (zs := ks) o8 ?_ ?_ ?_ (by omega) fun l9 g9 o9 e9 hb9 => ?_
        ·have := dropCN encIL_len (hok6.ext0 e68) (c := 1) (by simp)
         simpa using this
        ·omega
        ·simp; omega
        have e69 : Ext [] g6 g9 := e68.trans e9 fun b hb hlt => by
         rcases hb8 b hb with q | q <;> omega
        rw [List.nil_append] at o9
        refine hR6.setK e69 o9 fun g10 hR10 k10 => ?_
        exact ihk g10 _ hR10 (by omega) (List.pairwise_cons.1 hpw).2 (Nat.le_trans (foldQ_len _ _ _) hT3) (k06.trans k10) hf
       | succ d2 ihm =>
        intro i g4 hi h1i e4
        have hR4 := hR3.e0 e4
        refine hX68 _ _ _ ?_
        simp only [nilW_some]
        refine ⟨sk3, hrk3 e4, ?_⟩
        rw [if_pos (by simp; omega)]
        intro J74 hJ74
        have hil : i < (k :: ks).length := by simp; omega
        obtain ⟨ad2, had2, hri⟩ := hel e4 i hil
        refine ⟨_, hR4.fld.1, sk3, hrk3 e4, ?_⟩
        rw [had] at had2
        cases had2
        rw [had, nilW_some, Int.toNat_natCast]
        refine ⟨by omega, by omega, _, hri, _, hR4.fld.1, sk3, hrk3 e4, ?_⟩
        rw [had, nilW_some]
        refine ⟨by omega, by omega, _, hr0' e4, ?_⟩
        obtain ⟨s8, hr8, _⟩ := hR4.onL
        refine Get_s hr8 _ fun g5 e5 => ⟨_, _, _, _, rfl, ?_⟩
        have e45 := e4.trans0 e5
        have hR5 := hR3.e0 e45
        refine ⟨hr0' e45, by have := hrk3 e45; rw [had] at this; exact this, hR5.fld.1, ?_⟩
        obtain ⟨s9, hr9, _⟩ := hR5.onL
        refine Get_s hr9 k fun g6 e6 => ⟨_, _, _, _, rfl, ?_⟩
        have hlt : (txL R.L k).csn < (txL R.L (k :: ks)[i]).csn := by
         refine (List.pairwise_cons.1 hpw).1 _ ?_
         obtain ⟨j, rfl⟩ : ∃ j, i = j + 1 := ⟨i - 1, by omega⟩
         rw [List.getElem_cons_succ]
         exact List.getElem_mem _
        rw [if_neg (by simp; omega)]
        refine hJ74 _ _ ?_
        rw [wrap64 (by omega) (by omega)]
        exact ihm (i + 1) g6 (by omega) (by omega) (e45.trans0 e6)
      have := keyM ks.length 1 g3 (by omega) (by omega) (Ext.refl _ _)
      simpa using this
     ·rw [if_neg (by simp; omega)]
      intro J hJ
      rw [nilW_some]
      refine ⟨sk3, hrk3 (Ext.refl _ _), ?_⟩
      have hf' : foldKR R.L R.keep (k :: ks) T3 = (T3, k :: ks) := by
       show (if R.keep < ((ks.length + 1 : Nat) : Int) then _ else _) = _
       rw [if_neg hgt]
      have := hfin g3 T3 (k :: ks) hR3 hT3 k3 (by rw [hf]; exact hf') J hJ
      rw [hnk3]
      exact this
   have hfl := List.length_filter_le (neededR R.L) R.keeps
   exact keyW _ g2 T hR2 (by omega) (List.Pairwise.filter _ hord) hTl kg2 rfl
  | succ d ih =>
   intro i g G2 T st hi hRg hT hTl hG hGl hGs kg ho hos hz
   have hil : i < R.keeps.length := by omega
   refine hX _ _ _ ?_
   rw [nilW_some]
   obtain ⟨sk, hrk, hok⟩ := hRg.rdK
   have hnk := hok.1
   simp only at hnk
   refine ⟨sk, hrk (Ext.refl _ _), ?_⟩
   rw [if_pos (by simp; omega)]
   intro J12 hJ12
   have hel : ∀ {g' : Hp} (e' : Ext [] g g'), ∃ a, sk.a = some a ∧ rd g' (Addr.add a (i * 1)) = some (.int .i64 R.keeps[i]) := fun e' => rdI (hok.ext0 e').sl.reads hil
   obtain ⟨ad, had, _⟩ := hel (Ext.refl _ _)
   have hre : ∀ {g' : Hp}, Ext [] g g' → rd g' (Addr.add ad (i * 1)) = some (.int .i64 R.keeps[i]) := fun e' => by
    obtain ⟨ad2, had2, h2⟩ := hel e'
    rw [had] at had2
    cases had2
    exact h2
   have hfs := filter_step1 (neededR R.L) R.keeps hil
   have hfl := filter_take_len (neededR R.L) R.keeps i
   have hst : (R.keeps.take (i + 1)).foldl (dropsR R.L) R.T = dropsR R.L T R.keeps[i] := by
    rw [List.take_add_one, List.getElem?_eq_getElem hil, Option.toList_some, List.foldl_append, ← hT]
    rfl
   intro X15 hX15
   have keyN : ∀ d2 k g4, d2 + k = (runningL R.L).length → Ext [] g g4 → X15 [.bool (((runningL R.L).take k).any fun r => decide ((txL R.L r).snap < (txL R.L R.keeps[i]).csn)), .int .i64 (k : Int)] g4 := by
    intro d2
    induction d2 with
    | zero =>
     intro k g4 hk e4
     have hR4 := hRg.e0 e4
     refine hX15 _ _ _ ?_
     rw [if_neg (by simp; omega)]
     rw [List.take_of_length_le (by omega)]
     have hne : ((runningL R.L).any fun r => decide ((txL R.L r).snap < (txL R.L R.keeps[i]).csn)) = neededR R.L R.keeps[i] := rfl
     rw [hne]
     have hz4 := e4.sz
     cases hnd : neededR R.L R.keeps[i] with
     | true =>
      rw [if_pos rfl, nilW_some]
      rw [hnd, if_pos rfl] at hfs
      refine ⟨sk, hrk e4, ?_⟩
      rw [had, nilW_some, Int.toNat_natCast]
      refine ⟨by omega, by omega, _, hre e4, ?_⟩
      have hos4 := hos.ext0 e4
      refine app1 (x := R.keeps[i]) hos4 rfl zcInt encIL_len encIL_one (by omega) (by decide) (by omega) fun l5 g5 ho5 e5 hb5 => ?_
      refine hJ12 _ _ ?_
      rw [wrap64 (by omega) (by omega)]
      have hz5 := e5.sz
      have k25 : ∀ b, b < g4.size → b ∉ sBlk st → g5[b]? = g4[b]? := fun b hb hm => e5.old b hb hm
      have hR5 : Rz (GX G2 g4 g5) g5 q rb tb eb { R with T := T } := hR4.kx hz5 (fun b hb hn => k25 b hb fun hm => hn (hGs b hm)) fun b hb => by
       rcases hb with k | k
       ·exact ⟨Or.inl k, by have := hR4.lt k; omega⟩
       ·exact ⟨Or.inr k.1, k.2⟩
      have hGd : ∀ b, G b → b ∉ sBlk st := fun b hb hm => by have := hos.blk b hm; have := hR.lt hb; omega
      have hld : ∀ b ∈ sBlk l, b ∉ sBlk st := fun b hb hm => by
       have h1 := hos.blk b hm
       have h2 := (own_ltG hol b hb).2
       omega
      refine ih (i + 1) g5 (GX G2 g4 g5) T l5 (by omega) hR5 (by rw [hst]; unfold dropsR; rw [if_pos hnd]) hTl (fun b hb => Or.inl (hG b hb)) (fun b hb => Or.inl (hGl b hb)) (fun b hb => ?_) (kg.trans ⟨by omega, fun b hb => ?_⟩) (own_kg (ho.ext0 e4) fun b hb => k25 b ((own_ltG (ho.ext0 e4) b hb).2) (hld b hb)) (by rw [hfs]; exact ho5) (by omega)
      ·rcases hb5 b hb with k | k
       ·exact Or.inl (hGs b k)
       ·exact Or.inr ⟨k, (own_ltG ho5 b hb).2⟩
      ·have hlt := hRg.lt (hG b hb)
       rw [k25 b (by omega) (hGd b hb), e4.old b hlt (by simp)]
     | false =>
      rw [if_neg (by decide), nilW_some]
      rw [hnd, if_neg (by decide), List.append_nil] at hfs
      refine ⟨_, hR4.fld.2.1, ?_⟩
      rw [nilW_some]
      refine ⟨sk, hrk e4, ?_⟩
      rw [had, nilW_some, Int.toNat_natCast]
      refine ⟨by omega, by omega, _, hre e4, ?_⟩
      obtain ⟨sT, hta, hset⟩ := hR4.onT
      refine DropT_s hta _ (by simp only; omega) (Nat.zero_le _) fun g5 s5 hT5 e5 hs5 => ⟨rfl, ?_⟩
      obtain ⟨hR5, k5⟩ := hset hT5 e5 fun c hc => Or.inr (hs5 c hc)
      simp only at hR5
      refine hJ12 _ _ ?_
      rw [wrap64 (by omega) (by omega)]
      have hz5 := e5.sz
      refine ih (i + 1) g5 G2 _ st (by omega) hR5 (by rw [hst]; unfold dropsR; rw [if_neg (by rw [hnd]; decide)]) (Nat.le_trans (List.length_filter_le _ _) hTl) hG hGl hGs (kg.trans (((Rz.kgE e4 hRg).trans k5).anti hG)) (own_kg (ho.ext0 e4) fun b hb => k5.old b (hGl b hb)) (by rw [hfs]; exact own_kg (hos.ext0 e4) fun b hb => k5.old b (hGs b hb)) (by omega)
    | succ d2 ihn =>
     intro k g4 hk e4
     have hkl : k < (runningL R.L).length := by omega
     have hR4 := hRg.e0 e4
     refine hX15 _ _ _ ?_
     rw [if_pos (by simp; omega)]
     intro J19 hJ19
     have hst2 := any_step (fun r => decide ((txL R.L r).snap < (txL R.L R.keeps[i]).csn)) (runningL R.L) hkl
     have go : ∀ g5 (b : Bool), Ext [] g4 g5 → b = ((runningL R.L).take (k + 1)).any (fun r => decide ((txL R.L r).snap < (txL R.L R.keeps[i]).csn)) → J19 [.bool b] g5 := by
      rintro g5 b e5 rfl
      refine hJ19 _ _ ?_
      rw [wrap64 (by omega) (by omega)]
      exact ihn (k + 1) g5 (by omega) (e4.trans0 e5)
     cases hc : ((runningL R.L).take k).any (fun r => decide ((txL R.L r).snap < (txL R.L R.keeps[i]).csn)) with
     | true =>
      rw [if_pos rfl]
      exact go g4 true (Ext.refl _ _) (by rw [hst2, hc, Bool.true_or])
     | false =>
      rw [if_neg (by decide)]
      obtain ⟨a, ha, hra4⟩ := rdI (ho.ext0 e4).sl.reads hkl
      simp only [nilW_some]
      refine ⟨_, hR4.fld.1, ?_⟩
      rw [ha, nilW_some, Int.toNat_natCast]
      refine ⟨by omega, by omega, _, hra4, _, hR4.fld.1, sk, hrk e4, ?_⟩
      rw [had, nilW_some, Int.toNat_natCast]
      refine ⟨by omega, by omega, _, hre e4, ?_⟩
      obtain ⟨s8, hr8, _⟩ := hR4.onL
      refine Get_s hr8 _ fun g5 e5 => ⟨_, _, _, _, rfl, ?_⟩
      have e45 := e4.trans0 e5
      have hR5 := hRg.e0 e45
      refine ⟨hre e45, by have := hrk e45; rw [had] at this; exact this, hR5.fld.1, ?_⟩
      obtain ⟨s9, hr9, _⟩ := hR5.onL
      refine Get_s hr9 _ fun g6 e6 => ⟨_, _, _, _, rfl, ?_⟩
      exact go g6 _ (e5.trans0 e6) (by rw [hst2, hc, Bool.false_or])
   have := keyN (runningL R.L).length 0 g (by omega) (Ext.refl _ _)
   simpa using this
 have hR1 := hR.gx e1
 have := key R.keeps.length 0 g1 (GX G h g1) R.T ⟨none, 0, 0⟩ (by omega) hR1 (by simp) (Nat.le_refl _) (fun b hb => Or.inl hb) (fun b hb => Or.inr (own_ltG hol b hb)) (fun b hb => by simp [sBlk] at hb) (Rz.kgE e1 hR) hol (by simpa using Own.nil _ _) (Nat.le_refl _)
 simpa using this
end
end Go.Lift.E14
namespace Go.Lift.E14
open Go Go.Proofs Go.RowKit
set_option maxRecDepth 100000
abbrev endA (R : RsM) (x : Int) : RsM := { R with L := abortL R.L x, T := dropQ R.T x, E := dropR R.E x }
abbrev endC (R : RsM) (x : Int) : RsM := { (aheadR R.L R.E x).foldl doomR R with L := commitL R.L x, keeps := R.keeps ++ [x] }
def abortR (R : RsM) (x : Int) : RsM := if runsB R.L x = true then cleanR (endA R x) else R
def commitR (R : RsM) (x : Int) : RsM × Int :=
 if runsB R.L x = false then (R, 76)
 else if x ∈ R.doomed then (abortR R x, 72)
 else (cleanR (endC R x), 0)
def OrdK (R : RsM) : Prop := R.keeps.Pairwise fun a b => (txL R.L a).csn < (txL R.L b).csn
section
variable {G G2 : Nat → Prop} {h h' : Hp} {q rb tb eb : Nat} {R : RsM} {Q : List Value → Hp → Prop} {n : Nat}
theorem Abort_q (hR : Rz G h q rb tb eb R) (hb : RB n R) (hn : n ≤ 2 ^ 20) (x : Int) (hb2 : runsB R.L x = true → RB n (endA R x)) (hord : runsB R.L x = true → OrdK (endA R x)) (hQ : ∀ h', Rz G h' q rb tb eb (abortR R x) → KG G h h' → Q [.int .i64 (if runsB R.L x = true then 0 else 76)] h') : S_liveryref15_Ssi_Abort (some ⟨q, 0, none⟩) x h Q := by
 refine O_liveryref15_Ssi_Abort _ _ ?_
 unfold F_liveryref15_Ssi_Abort
 refine runs_q hR x fun g1 e1 => ⟨_, rfl, ?_⟩
 have hR1 := hR.e0 e1
 unfold abortR at hQ
 have hbt := hb.t
 have hbm := hb.m
 have hbo := hb.o
 by_cases hr : runsB R.L x = true
 ·rw [if_neg (by rw [hr]; decide), nilW_some]
  rw [if_pos hr, if_pos hr] at hQ
  refine ⟨_, hR1.fld.1, ?_⟩
  obtain ⟨s08, hra, hset⟩ := hR1.onL
  refine AbortR_s hra x hb.s fun g2 hra2 e2 => ⟨_, rfl, ?_⟩
  obtain ⟨hR2, k2⟩ := hset hra2 e2 (fun b hb => by simpa using hb) fun c hc => Or.inl hc
  rw [nilW_some]
  refine ⟨_, hR2.fld.2.1, ?_⟩
  obtain ⟨sT, hta, hset3⟩ := hR2.onT
  refine DropT_s hta x (by simp only; omega) (Nat.zero_le _) fun g3 s3 hT3 e3 hs3 => ⟨rfl, ?_⟩
  obtain ⟨hR3, k3⟩ := hset3 hT3 e3 fun c hc => Or.inr (hs3 c hc)
  rw [nilW_some]
  refine ⟨_, hR3.fld.2.2.1, ?_⟩
  obtain ⟨sl, so, hqa, hset4⟩ := hR3.onQ
  refine DropR_s hqa x ⟨by simp only; omega, by simp only; omega⟩ (Nat.zero_le _) fun g4 sl4 so4 hq4 e4 hs4 => ⟨rfl, ?_⟩
  obtain ⟨hR4, k4⟩ := hset4 hq4 e4 fun c hc => Or.inr (hs4 c hc)
  refine clean_q hR4 (hb2 hr) hn (hord hr) fun g5 hR5 k5 => ⟨rfl, ?_⟩
  exact hQ g5 hR5 (((((Rz.kgE e1 hR).trans k2).trans k3).trans k4).trans k5)
 ·rw [if_pos (by simpa using hr)]
  rw [if_neg hr, if_neg hr] at hQ
  exact hQ g1 hR1 (Rz.kgE e1 hR)
theorem aheadR_len (hb : RB n R) (x : Int) : (aheadR R.L R.E x).length ≤ n := by
 have hbm := hb.m
 have h1 : (endR R.E x 1).length ≤ n := by
  unfold endR
  rw [List.length_map]
  exact Nat.le_trans (List.length_filter_le _ _) hbm
 obtain ⟨h2, h3⟩ := ahFold R.L R.E x (endR R.E x 1) [] List.Pairwise.nil
 refine Nat.le_trans (nodup_sub_len (ordC_nodup cmp3I h2) fun y hy => ?_) h1
 rcases (h3 y).1 hy with g | g
 ·cases g
 ·exact g.1
theorem Commit_q (hR : Rz G h q rb tb eb R) (hb : RB n R) (hn : n + 1 ≤ 2 ^ 20) (x : Int) (hb1 : runsB R.L x = true → RB n (endA R x)) (hord1 : runsB R.L x = true → OrdK (endA R x)) (hb2 : runsB R.L x = true → RB (n + 1) (endC R x)) (hord2 : runsB R.L x = true → OrdK (endC R x))
  (hQ : ∀ h', Rz G h' q rb tb eb (commitR R x).1 → KG G h h' → Q [.int .i64 (commitR R x).2] h') : S_liveryref15_Ssi_Commit (some ⟨q, 0, none⟩) x h Q := by
 refine O_liveryref15_Ssi_Commit _ _ ?_
 unfold F_liveryref15_Ssi_Commit
 refine runs_q hR x fun g1 e1 => ⟨_, rfl, ?_⟩
 have hR1 := hR.e0 e1
 unfold commitR at hQ
 by_cases hr : runsB R.L x = true
 ·rw [if_neg (by rw [hr]; decide)]
  rw [if_neg (by rw [hr]; decide)] at hQ
  refine IsDoomed_q hR1 hb x ⟨_, rfl, ?_⟩
  by_cases hd : x ∈ R.doomed
  ·rw [if_pos (decide_eq_true hd)]
   rw [if_pos hd] at hQ
   refine Abort_q hR1 hb (by omega) x hb1 hord1 fun g2 hR2 k2 => ⟨_, rfl, ?_⟩
   exact hQ g2 hR2 ((Rz.kgE e1 hR).trans k2)
  ·rw [if_neg (by simpa using hd), nilW_some]
   rw [if_neg hd] at hQ
   refine ⟨_, hR1.fld.2.2.1, ?_⟩
   obtain ⟨s08, hra, _⟩ := hR1.onL
   obtain ⟨sl, so, hqa, _⟩ := hR1.onQ
   have hbm := hb.m
   refine AheadR_s hqa hra x (by omega) fun g2 l e2 ho => ⟨l, rfl, ?_⟩
   have hal := aheadR_len hb x
   have e02 := e1.trans0 e2
   have hR2 := hR.gx e02
   have hz := e1.sz
   have hn1 := ho.1
   intro X hX
   have key : ∀ d i g R', d + i = (aheadR R.L R.E x).length → Rz (GX G h g2) g q rb tb eb R' → RB n R' → R' = ((aheadR R.L R.E x).take i).foldl doomR R → KG (GX G h g2) g2 g → X [.int .i64 (i : Int)] g := by
    intro d
    induction d with
    | zero =>
     intro i g R' hi hR' hb' he kg
     refine hX _ _ ?_
     rw [if_neg (by simp; omega), nilW_some]
     rw [List.take_of_length_le (by omega)] at he
     obtain ⟨f1, f2, f3, f4, f5, f6⟩ := dooms_fld (aheadR R.L R.E x) R
     rw [← he] at f1 f2 f3 f4 f5 f6
     have hec : endC R x = { R' with L := commitL R.L x, keeps := R.keeps ++ [x] } := by rw [he]
     rw [hec] at hb2 hord2 hQ
     refine ⟨_, hR'.fld.1, ?_⟩
     obtain ⟨s8, hr8, hset⟩ := hR'.onL
     refine CommitR_s hr8 x hb'.c hb'.s fun g3 hra3 e3 => ⟨_, _, rfl, ?_⟩
     obtain ⟨hR3, k3⟩ := hset hra3 e3 (fun b hb => by simpa using hb) fun c hc => Or.inl hc
     rw [f1] at hR3
     obtain ⟨sk, hrk, hok⟩ := hR3.rdK
     have hbk := hb'.k
     refine snocI hrk hok (by simp only; omega) fun g4 l4 e4 o4 => ?_
     refine hR3.setK e4 o4 fun g5 hR5 k5 => ?_
     simp only at hR5
     rw [f5] at hR5
     refine clean_q (hR5.less (G' := G) fun b hb => Or.inl hb) (hb2 hr) hn (hord2 hr) fun g6 hR6 k6 => ⟨rfl, ?_⟩
     exact hQ g6 hR6 ((((Rz.kgE e02 hR).trans (kg.anti fun b hb => Or.inl hb)).trans ((k3.trans k5).anti fun b hb => Or.inl hb)).trans k6)
    | succ d ih =>
     intro i g R' hi hR' hb' he kg
     have hil : i < (aheadR R.L R.E x).length := by omega
     have hov := own_kg' ho kg fun b h1 h2 => Or.inr ⟨by omega, h2⟩
     refine hX _ _ ?_
     rw [if_pos (by simp; omega)]
     obtain ⟨a, ha, hrd⟩ := rdI hov.sl.reads hil
     rw [ha, nilW_some, Int.toNat_natCast]
     refine ⟨by omega, by omega, _, hrd, ?_⟩
     refine doom_q hR' hb' _ fun g' hR2' k2 => ⟨rfl, ?_⟩
     rw [wrap64 (by omega) (by omega)]
     refine ih (i + 1) g' _ (by omega) hR2' (hb'.doom _) ?_ (kg.trans k2)
     rw [List.take_add_one, List.getElem?_eq_getElem hil, Option.toList_some, List.foldl_append, ← he]
     rfl
   have := key (aheadR R.L R.E x).length 0 g2 R (by omega) hR2 hb (by simp) (KG.refl _ _)
   simpa using this
 ·rw [if_pos (by simpa using hr)]
  rw [if_pos (by simpa using hr)] at hQ
  exact hQ g1 hR1 (Rz.kgE e1 hR)
abbrev newQ (each all : Int) : QT := ⟨[], each, all, 0⟩
abbrev newR (each all keep : Int) : RsM := ⟨⟨[], 0⟩, newQ each all, ⟨[], []⟩, [], [], [], keep⟩
def badA (each all : Int) : Prop := each < 1 ∨ each > 10000 ∨ all < 1 ∨ all > 10000
theorem New13_s (each all : Int) (hbad : badA each all → Q [.pointer none, .int .i64 1] h) (hQ : ¬ badA each all → ∀ h' tb, TAt 0 h' tb (newQ each all) ⟨none, 0, 0⟩ → tb = h.size → Ext [] h h' → Q [.pointer (some ⟨tb, 0, none⟩), .int .i64 0] h') : S_liveryref13_New each all h Q := by
 refine O_liveryref13_New _ _ ?_
 unfold F_liveryref13_New
 unfold badA at hbad hQ
 intro J hJ
 have bad : badA each all → J [.bool true] h := fun hb => by
  refine hJ _ _ ?_
  rw [if_pos rfl]
  exact hbad hb
 by_cases c1 : each < 1
 ·rw [if_pos (by simpa using c1)]; exact bad (Or.inl c1)
 rw [if_neg (by simpa using c1)]
 by_cases c2 : each > 10000
 ·rw [if_pos (by simpa using c2)]; exact bad (Or.inr (Or.inl c2))
 rw [if_neg (by simpa using c2)]
 by_cases c3 : all < 1
 ·rw [if_pos (by simpa using c3)]; exact bad (Or.inr (Or.inr (Or.inl c3)))
 rw [if_neg (by simpa using c3)]
 by_cases c4 : all > 10000
 ·rw [decide_eq_true c4]; exact bad (Or.inr (Or.inr (Or.inr c4)))
 rw [decide_eq_false c4]
 refine hJ _ _ ?_
 rw [if_neg (by decide)]
 refine newI fun h1 s1 b1 e1 => ?_
 exact hQ (by rintro (q | q | q | q) <;> omega) h1 _ ⟨b1, Own.nil _ _⟩ rfl e1
theorem New15_s (each all keep : Int) {rb : Nat} (hra : RAt 0 h rb ⟨[], 0⟩ ⟨none, 0, 0⟩) (hG : ∀ b, G b → b < h.size ∧ b ≠ rb) (hbad : (keep < 0 ∨ keep > 1000 ∨ badA each all) → Q [.pointer none, .int .i64 1] h) (hQ : ¬ (keep < 0 ∨ keep > 1000 ∨ badA each all) → ∀ h' q tb eb, Rz G h' q rb tb eb (newR each all keep) → Ext [] h h' → Q [.pointer (some ⟨q, 0, none⟩), .int .i64 0] h') : S_liveryref15_New (some ⟨rb, 0, none⟩) each all keep h Q := by
 refine O_liveryref15_New _ _ _ _ ?_
 unfold F_liveryref15_New
 intro J hJ
 have bad : (keep < 0 ∨ keep > 1000 ∨ badA each all) → J [.bool true] h := fun hb => by
  refine hJ _ _ ?_
  rw [if_pos rfl]
  exact hbad hb
 by_cases c1 : keep < 0
 ·rw [if_pos (by simpa using c1)]; exact bad (Or.inl c1)
 rw [if_neg (by simpa using c1)]
 by_cases c2 : keep > 1000
 ·rw [decide_eq_true c2]; exact bad (Or.inr (Or.inl c2))
 rw [decide_eq_false c2]
 refine hJ _ _ ?_
 rw [if_neg (by decide)]
 refine New13_s each all (fun hb => ⟨_, _, rfl, ?_⟩) fun hnb h1 tb hta htb e1 => ⟨_, _, rfl, ?_⟩
 ·rw [if_pos (by decide)]
  exact hbad (Or.inr (Or.inr hb))
 rw [if_neg (by decide)]
 refine newI fun h2 s2 b2 e2 => newI fun h3 s3 b3 e3 => ?_
 have hlt := blk_lt hra.blk
 have hz1 := e1.sz
 have htl := blk_lt hta.blk
 refine hQ (by rintro (q | q | q); exact c1 q; exact c2 q; exact hnb q) h3 h2.size tb h1.size ?_ ((e1.trans0 e2).trans0 e3)
 obtain ⟨w, hw⟩ : ∃ w : Nat → Nat, w = fun b => if b = rb then 2 else if b = h2.size then 1 else if b = h1.size then 4 else if b = tb then 3 else 0 := ⟨_, rfl⟩
 refine ⟨w, ⟨none, 0, 0⟩, ⟨none, 0, 0⟩, ⟨none, 0, 0⟩, ⟨none, 0, 0⟩, ⟨none, 0, 0⟩, ⟨none, 0, 0⟩, ⟨none, 0, 0⟩, fun b hb => ?_, b3, ?_, hra.ext0 ((e1.trans0 e2).trans0 e3), ?_, by simp [sBlk], hta.ext0 (e2.trans0 e3), ?_, by simp [sBlk], ⟨e3.get b2 (by simp), Own.nil _ _, Own.nil _ _⟩, ?_, by simp [sBlk], by simp [sBlk], Own.nil _ _, by simp [sBlk], Own.nil _ _, by simp [sBlk], Own.nil _ _, by simp [sBlk]⟩
 ·obtain ⟨g1, g2⟩ := hG b hb
  rw [hw]
  simp only
  rw [if_neg g2, if_neg (by omega), if_neg (by omega), if_neg (by omega)]
  exact ⟨rfl, by omega⟩
 ·rw [hw]; simp only; rw [if_neg (by omega), if_pos trivial]
 ·rw [hw]; simp only; rw [if_pos trivial]
 ·rw [hw]; simp only; rw [if_neg (by omega), if_neg (by omega), if_neg (by omega), if_pos trivial]
 ·rw [hw]; simp only; rw [if_neg (by omega), if_neg (by omega), if_pos trivial]
end
end Go.Lift.E14
namespace Go.Lift.E14
open Go Go.Proofs Go.RowKit
set_option maxRecDepth 100000
def flatS (m : MM) : List OT := m.flatMap fun p => p.2.map fun x => (p.1, x)
theorem mem_flat : ∀ {m : MM}, (m.map Prod.fst).Nodup → ∀ {o : Int} {x : ThingM}, (o, x) ∈ flatS m ↔ x ∈ thgs m o := by
 intro m
 induction m with
 | nil => intro _ o x; simp [flatS, thgs, afind]
 | cons p m ih =>
  intro hn o x
  rw [List.map_cons, List.nodup_cons] at hn
  have ih' := @ih hn.2 o x
  unfold flatS at ih' ⊢
  rw [List.flatMap_cons, List.mem_append, ih', List.mem_map]
  by_cases e : o = p.1
  ·have ht : thgs (p :: m) o = p.2 := by unfold thgs; obtain ⟨a, u⟩ := p; simp only at e; subst e; simp [afind]
   have hz : thgs m o = [] := by
    refine thgs_none ?_
    refine Classical.byContradiction fun hne => ?_
    obtain ⟨u, hu⟩ := Option.ne_none_iff_exists'.1 hne
    exact hn.1 (by rw [← e]; exact List.mem_map.2 ⟨(o, u), afind_mem hu, rfl⟩)
   rw [ht, hz]
   constructor
   ·rintro (⟨y, h1, h2⟩ | h)
    ·cases h2; exact h1
    ·cases h
   ·intro h
    exact Or.inl ⟨x, h, by rw [e]⟩
  ·have ht : thgs (p :: m) o = thgs m o := by unfold thgs; obtain ⟨a, u⟩ := p; simp only at e; simp [afind, e]
   rw [ht]
   constructor
   ·rintro (⟨y, h1, h2⟩ | h)
    ·cases h2; exact absurd rfl e
    ·exact h
   ·intro h; exact Or.inr h
theorem flat_nd {m : MM} (hn : (m.map Prod.fst).Nodup) (ht : ∀ o l, afind m o = some l → l.Nodup) : (flatS m).Nodup := by
 unfold flatS List.Nodup
 rw [List.pairwise_flatMap]
 constructor
 ·rintro ⟨o, l⟩ hm
  rw [List.pairwise_map]
  have := ht o l (afind_of_mem hn hm)
  exact this.imp fun {a b} hab e => hab (by cases e; rfl)
 ·unfold List.Nodup at hn
  rw [List.pairwise_map] at hn
  refine hn.imp fun {a b} hab x hx y hy e => ?_
  obtain ⟨u, _, rfl⟩ := List.mem_map.1 hx
  obtain ⟨v, _, rfl⟩ := List.mem_map.1 hy
  exact hab (Prod.mk.inj e).1
theorem flat_fine : ∀ (m : MM), ((flatS m).filter fun y => fineT y.2).length = totF m
 | [] => rfl
 | p :: m => by
  have ih := flat_fine m
  unfold flatS at ih ⊢
  rw [List.flatMap_cons, List.filter_append, List.length_append, ih]
  have : ((p.2.map fun x => (p.1, x)).filter fun y => fineT y.2).length = nF p.2 := by
   unfold nF
   rw [List.filter_map, List.length_map]
   rfl
  rw [this]
  rfl
structure SimT (S : SM) (T : QT) : Prop where
 ea : T.each = S.each
 al : T.all = S.all
 cs : T.csn = S.csn
 nd : T.l.Nodup
 mem : ∀ o x, (o, x) ∈ T.l ↔ x ∈ thgs S.m o
section
variable {N : Nat} {S : SM} {T : QT} {o : Int}
theorem SimT.perm (h : SimT S T) (ok : SOk N S) : T.l.Perm (flatS S.m) :=
 (List.perm_ext_iff_of_nodup h.nd (flat_nd ok.nd ok.tnd)).2 fun ⟨o, x⟩ => (h.mem o x).trans (mem_flat ok.nd).symm
theorem SimT.fine (h : SimT S T) (ok : SOk N S) : (fineQ T.l : Int) = S.fine := by
 unfold fineQ
 rw [((h.perm ok).filter _).length_eq, flat_fine, ok.fine]
theorem thgs_ndS (ok : SOk N S) (o : Int) : (thgs S.m o).Nodup := by
 unfold thgs
 cases hf : afind S.m o with
 | none => simp
 | some l => exact ok.tnd o l hf
theorem SimT.nR (h : SimT S T) (ok : SOk N S) (o r : Int) : nRQ T.l o r = nR (thgs S.m o) r := by
 unfold nRQ Go.Lift.nR
 have h1 : (T.l.filter fun y => decide (y.1 = o) && (fineT y.2 && decide (y.2.rel = r))).Nodup := h.nd.sublist List.filter_sublist
 have h2 : (((thgs S.m o).filter fun y => fineT y && decide (y.rel = r)).map fun x => (o, x)).Nodup := by
  unfold List.Nodup
  rw [List.pairwise_map]
  have := (thgs_ndS ok o).sublist (List.filter_sublist (p := fun y => fineT y && decide (y.rel = r)))
  exact this.imp fun {a b} hab e => hab (by cases e; rfl)
 have hp := (List.perm_ext_iff_of_nodup h1 h2).2 fun ⟨a, x⟩ => by
  rw [List.mem_filter, List.mem_map]
  constructor
  ·rintro ⟨g1, g2⟩
   simp only [Bool.and_eq_true, decide_eq_true_eq] at g2
   obtain ⟨rfl, g2⟩ := g2
   exact ⟨x, List.mem_filter.2 ⟨(h.mem _ _).1 g1, by simp [g2]⟩, rfl⟩
  ·rintro ⟨y, g1, g2⟩
   cases g2
   obtain ⟨g3, g4⟩ := List.mem_filter.1 g1
   refine ⟨(h.mem _ _).2 g3, ?_⟩
   simp only [Bool.and_eq_true, decide_eq_true_eq] at g4
   simp [g4]
 rw [hp.length_eq, List.length_map]
theorem SimT.born (h : SimT S T) (ok : SOk N S) (ho : 0 ≤ o ∧ o ≤ 200) : SimT (bornS S o) T := by
 obtain ⟨_, b2, _, b4, b5, _, b7, _⟩ := bornS_ok ok ho
 exact ⟨h.ea.trans b4.symm, h.al.trans b5.symm, h.cs.trans b7.symm, h.nd, fun o' x => by rw [b2]; exact h.mem o' x⟩
theorem SimT.whole (h : SimT S T) (ok : SOk N S) (ho : 0 ≤ o ∧ o ≤ 200) {x : ThingM} (hx : 1 ≤ x.kind ∧ x.kind ≤ 2) (hm : (o, x) ∉ T.l) : SimT (wholeS S o x) (putQ T o x) := by
 obtain ⟨_, _, w1, w2, w3, w4, w5, w6, w7⟩ := wholeS_ok ok ho hx
 have hfx : fineT x = false := by
  unfold fineT
  have h1 : ¬ x.kind = 3 := by omega
  have h2 : ¬ x.kind = 4 := by omega
  simp [h1, h2]
 have hin : ∀ p, p ∈ (if x.kind = 2 then T.l.filter (stayP o x.rel) else T.l) ↔ p ∈ T.l ∧ ¬ (x.kind = 2 ∧ stayP o x.rel p = false) := by
  intro p
  split
  ·rename_i hk
   rw [List.mem_filter]
   refine and_congr_right fun _ => ⟨fun g q => (by rw [q.2] at g; cases g), fun g => ?_⟩
   cases hs : stayP o x.rel p with
   | true => rfl
   | false => exact absurd ⟨hk, hs⟩ g
  ·rename_i hk
   exact ⟨fun g => ⟨g, fun q => hk q.1⟩, fun g => g.1⟩
 refine ⟨h.ea.trans w5.symm, h.al.trans w6.symm, h.cs.trans w7.symm, ?_, fun o' y => ?_⟩
 ·unfold putQ
  simp only
  rw [List.nodup_append]
  refine ⟨?_, by simp, fun a ha b hb e => ?_⟩
  ·split
   ·exact h.nd.sublist List.filter_sublist
   ·exact h.nd
  ·simp at hb
   subst hb
   subst e
   exact hm ((hin _).1 ha).1
 ·unfold putQ
  simp only
  rw [List.mem_append, hin, h.mem]
  have hst : stayP o x.rel (o', y) = false ↔ o' = o ∧ fineT y = true ∧ y.rel = x.rel := by
   unfold stayP
   simp only [Bool.or_eq_false_iff, decide_eq_false_iff_not, Bool.not_eq_false', ne_eq, Decidable.not_not]
   exact ⟨fun ⟨⟨a, b⟩, c⟩ => ⟨a, b, c⟩, fun ⟨a, b, c⟩ => ⟨⟨a, b⟩, c⟩⟩
  by_cases e : o' = o
  ·subst e
   constructor
   ·rintro (⟨g1, g2⟩ | g)
    ·rcases w2 y g1 with q | ⟨q1, q2⟩
     ·exact q
     ·exact absurd ⟨q1, hst.2 ⟨rfl, q2⟩⟩ g2
    ·simp at g
     subst g
     exact w1
   ·intro g
    rcases w3 y g with q | ⟨q1, q2⟩
    ·right; simp [q]
    ·left
     exact ⟨q1, fun q => q2 ⟨q.1, (hst.1 q.2).2⟩⟩
  ·rw [w4 o' e]
   constructor
   ·rintro (⟨g1, _⟩ | g)
    ·exact g1
    ·simp at g
     exact absurd g.1 e
   ·intro g
    exact Or.inl ⟨g, fun q => e (hst.1 q.2).1⟩
theorem SimT.take (h : SimT S T) (ok : SOk N S) (ho : 0 ≤ o ∧ o ≤ 200) (x : ThingM) : SimT (takeS S o x) (takeQ T o x) := by
 have hkb : kindB x = true ↔ ¬ (x.kind < 1 ∨ x.kind > 4) := by
  unfold kindB
  simp only [Bool.and_eq_true, decide_eq_true_eq]
  omega
 unfold takeS takeQ
 by_cases hk : x.kind < 1 ∨ x.kind > 4
 ·rw [if_pos hk, if_pos (show backQ T o x from Or.inl (by rw [← Bool.not_eq_true, hkb]; exact fun q => q hk))]
  exact h
 rw [if_neg hk]
 have hkt : kindB x = true := hkb.2 hk
 obtain ⟨bok, b2, ⟨l, hl⟩, b4, b5, b6, _, _⟩ := bornS_ok ok ho
 have hb := h.born ok ho
 simp only
 by_cases hc : x ∈ thgs (bornS S o).m o ∨ (fineT x = true ∧ relT x ∈ thgs (bornS S o).m o)
 ·have : backQ T o x := by
   rcases hc with g | ⟨g1, g2⟩
   ·exact Or.inr (Or.inl ((hb.mem _ _).2 g))
   ·exact Or.inr (Or.inr ⟨g1, (hb.mem _ _).2 g2⟩)
  rw [if_pos hc, if_pos this]
  exact hb
 ·have hnb : ¬ backQ T o x := by
   rintro (g | g | g)
   ·rw [hkt] at g; cases g
   ·exact hc (Or.inl ((hb.mem _ _).1 g))
   ·exact hc (Or.inr ⟨g.1, (hb.mem _ _).1 g.2⟩)
  have hnx : (o, x) ∉ T.l := fun g => hnb (Or.inr (Or.inl g))
  rw [if_neg hc, if_neg hnb]
  by_cases hf : fineT x = true
  ·rw [if_pos hf, if_pos hf]
   have hroom : roomQ T o x ↔ ((Go.Lift.nR (thgs (bornS S o).m o) x.rel : Int) < (bornS S o).each ∧ (bornS S o).fine < (bornS S o).all) := by
    unfold roomQ
    rw [hb.nR bok, hb.fine bok, hb.ea, hb.al]
   by_cases hr : roomQ T o x
   ·rw [if_pos hr, if_pos (hroom.1 hr)]
    refine ⟨hb.ea, hb.al, hb.cs, ?_, fun o' y => ?_⟩
    ·simp only
     rw [List.nodup_append]
     exact ⟨h.nd, by simp, fun a ha b hb e => by simp at hb; subst hb; subst e; exact hnx ha⟩
    ·unfold addS
     simp only
     rw [thgs_aput, List.mem_append, hb.mem]
     by_cases e : o' = o
     ·subst e
      rw [if_pos rfl, List.mem_append]
      simp
     ·rw [if_neg e]
      simp [e]
   ·rw [if_neg hr, if_neg (fun g => hr (hroom.2 g))]
    exact hb.whole bok ho (x := relT x) ⟨by show (1 : Int) ≤ 2; decide, by show (2 : Int) ≤ 2; decide⟩ fun g => hnb (Or.inr (Or.inr ⟨hf, g⟩))
  ·rw [if_neg hf, if_neg hf]
   refine hb.whole bok ho ?_ hnx
   unfold fineT at hf
   simp only [Bool.or_eq_true, decide_eq_true_eq] at hf
   omega
theorem SimT.drop (h : SimT S T) (ok : SOk N S) (ho : 0 ≤ o ∧ o ≤ 200) : SimT (dropS S o) (dropQ T o) := by
 obtain ⟨_, a2, a3, _, a5, a6, a7⟩ := dropS_ok ok ho
 refine ⟨h.ea.trans a5.symm, h.al.trans a6.symm, ?_, h.nd.sublist List.filter_sublist, fun o' y => ?_⟩
 ·rw [a7, ← h.cs]
  rfl
 ·unfold dropQ
  simp only
  rw [List.mem_filter, h.mem]
  by_cases e : o' = o
  ·subst e
   rw [a2]
   simp
  ·rw [a3 o' e]
   simp [e]
theorem ofFold_spec (o : Int) : ∀ (l : List OT) (out : List ThingM), OrdC cmpT out → (∀ y ∈ l, y.1 = o → y.2 ∉ out) → l.Nodup → OrdC cmpT (l.foldl (ofStep o) out) ∧ ∀ x, x ∈ l.foldl (ofStep o) out ↔ x ∈ out ∨ (o, x) ∈ l
 | [], out, h, _, _ => ⟨h, fun x => by simp⟩
 | y :: l, out, h, hd, hn => by
  rw [List.foldl_cons]
  rw [List.nodup_cons] at hn
  unfold ofStep
  by_cases e : y.1 = o
  ·rw [if_pos e]
   have hy := hd y (by simp) e
   have ho := insC_ord cmpT3 cmpT_zero h hy
   obtain ⟨i1, i2⟩ := ofFold_spec o l (insC cmpT out y.2) ho (fun z hz hzo hm => by
    rcases insC_mem.1 hm with q | q
    ·refine hn.1 ?_
     have : y = z := by
      obtain ⟨a, b⟩ := y
      obtain ⟨c, d⟩ := z
      simp only at e hzo q
      rw [e, hzo, q]
     rw [this]; exact hz
    ·exact hd z (by simp [hz]) hzo q) hn.2
   refine ⟨i1, fun x => ?_⟩
   have hh := i2 x
   unfold ofStep at hh
   rw [hh, insC_mem, List.mem_cons]
   obtain ⟨a, b⟩ := y
   simp only at e
   subst e
   simp only [Prod.mk.injEq, true_and]
   constructor
   ·rintro ((q | q) | q)
    ·exact Or.inr (Or.inl q)
    ·exact Or.inl q
    ·exact Or.inr (Or.inr q)
   ·rintro (q | q | q)
    ·exact Or.inl (Or.inr q)
    ·exact Or.inl (Or.inl q)
    ·exact Or.inr q
  ·rw [if_neg e]
   obtain ⟨i1, i2⟩ := ofFold_spec o l out h (fun z hz => hd z (by simp [hz])) hn.2
   refine ⟨i1, fun x => ?_⟩
   have hh := i2 x
   unfold ofStep at hh
   rw [hh, List.mem_cons]
   refine or_congr_right ⟨Or.inr, fun q => q.elim (fun q => ?_) id⟩
   rw [← q] at e
   exact absurd rfl e
theorem SimT.of (h : SimT S T) (ok : SOk N S) (o : Int) : ofQ T o = ofS S o := by
 obtain ⟨h1, h2⟩ := ofFold_spec o T.l [] List.Pairwise.nil (fun _ _ _ => by simp) h.nd
 refine ordC_ext cmpT3 h1 (sortC_ord cmpT3 cmpT_zero (thgs_ndS ok o)) fun x => ?_
 unfold ofS
 rw [sortC_mem]
 have := h2 x
 unfold ofQ at *
 rw [this]
 simp [h.mem]
theorem takesSim : ∀ (l : List ThingM) {N : Nat} {S : SM} {T : QT}, SimT S T → SOk N S → SimT (l.foldl (fun S x => takeS S 0 x) S) (l.foldl (fun T x => takeQ T 0 x) T)
 | [], _, _, _, h, _ => h
 | x :: l, N, S, T, h, ok => by
  rw [List.foldl_cons, List.foldl_cons]
  exact takesSim l (h.take ok (by decide) x) (takeS_ok ok (by decide) x).1
theorem SimT.fold (h : SimT S T) (ok : SOk N S) (o c : Int) : SimT (foldS S o c) (foldQ T o c) := by
 unfold foldS foldQ
 by_cases hc : o < 1 ∨ o > 200
 ·rw [if_pos hc, if_pos hc]
  exact h
 ·rw [if_neg hc, if_neg hc, h.of ok]
  have ho : 0 ≤ o ∧ o ≤ 200 := by omega
  have h1 := takesSim (ofS S o) (h.drop ok ho) (dropS_ok ok ho).1
  simp only
  exact ⟨h1.ea, h1.al, by simp only; rw [h1.cs], h1.nd, h1.mem⟩
theorem ownFold_spec (x : ThingM) : ∀ (l : List OT) (out : List Int), OrdC cmpI out → OrdC cmpI (l.foldl (ownStep x) out) ∧ ∀ o, o ∈ l.foldl (ownStep x) out ↔ o ∈ out ∨ ∃ y, (o, y) ∈ l ∧ ownP x y = true
 | [], out, h => ⟨h, fun o => by simp⟩
 | y :: l, out, h => by
  rw [List.foldl_cons]
  have hs : OrdC cmpI (ownStep x out y) ∧ ∀ o, o ∈ ownStep x out y ↔ o ∈ out ∨ (o = y.1 ∧ ownP x y.2 = true) := by
   unfold ownStep
   split
   ·rename_i hp
    refine ⟨putI_ord h _, fun o => ?_⟩
    rw [putI_mem]
    constructor
    ·rintro (q | q)
     ·exact Or.inr ⟨q, hp⟩
     ·exact Or.inl q
    ·rintro (q | q)
     ·exact Or.inr q
     ·exact Or.inl q.1
   ·rename_i hp
    exact ⟨h, fun o => ⟨Or.inl, fun q => q.elim id fun q => absurd q.2 hp⟩⟩
  obtain ⟨i1, i2⟩ := ownFold_spec x l _ hs.1
  refine ⟨i1, fun o => ?_⟩
  rw [i2, hs.2]
  constructor
  ·rintro ((q | ⟨q1, q2⟩) | ⟨z, q1, q2⟩)
   ·exact Or.inl q
   ·exact Or.inr ⟨y.2, by rw [q1]; simp, q2⟩
   ·exact Or.inr ⟨z, by simp [q1], q2⟩
  ·rintro (q | ⟨z, q1, q2⟩)
   ·exact Or.inl (Or.inl q)
   ·rcases List.mem_cons.1 q1 with q | q
    ·exact Or.inl (Or.inr (by rw [← q]; exact ⟨rfl, q2⟩))
    ·exact Or.inr ⟨z, q, q2⟩
theorem SimT.owners (h : SimT S T) (ok : SOk N S) (x : ThingM) : ownersQ T x = ownersS S (ownP x) := by
 obtain ⟨h1, h2⟩ := ownFold_spec x T.l [] List.Pairwise.nil
 have hnd : ((S.m.filter fun e => e.2.any (ownP x)).map Prod.fst).Nodup := ok.nd.sublist (List.filter_sublist.map _)
 have hle : (ownersQ T x).Pairwise (· ≤ ·) := h1.imp fun {a b} hab => by have := (cmpI_lt a b).1 hab; omega
 unfold ownersS
 refine (sortI_eq hle ?_).symm
 refine (List.perm_ext_iff_of_nodup (ordC_nodup cmp3I h1) hnd).2 fun o => ?_
 have h3 := @mem_ownersS N S ok (ownP x) o
 unfold ownersS at h3
 rw [sortI_mem] at h3
 rw [h3, h2]
 constructor
 ·rintro (q | ⟨y, q1, q2⟩)
  ·cases q
  ·exact ⟨y, (h.mem _ _).1 q1, q2⟩
 ·rintro ⟨y, q1, q2⟩
  exact Or.inr ⟨y, (h.mem _ _).2 q1, q2⟩
theorem SimT.Take (h : SimT S T) (ok : SOk N S) (x : ThingM) : SimT (TakeS S o x) (TakeQ T o x) := by
 unfold TakeS TakeQ
 by_cases ho : o < 1 ∨ o > 200
 ·rw [if_pos ho, if_neg (fun q : okT o x => by unfold okT at q; omega)]
  exact h
 ·rw [if_neg ho]
  by_cases hk : okT o x
  ·rw [if_pos hk]
   exact h.take ok (by omega) x
  ·rw [if_neg hk]
   unfold takeQ
   have : kindB x = false := by
    unfold okT at hk
    unfold kindB
    rw [Bool.and_eq_false_iff, decide_eq_false_iff_not, decide_eq_false_iff_not]
    omega
   rw [if_pos (show backQ T o x from Or.inl this)]
   exact h
end
end Go.Lift.E14
namespace Go.Lift.E14
open Go Go.Proofs Go.RowKit
set_option maxRecDepth 100000
structure Sim (M : SsiM) (R : RsM) : Prop where
 l : R.L = M.L
 ke : R.keep = M.keep
 ks : R.keeps = M.kept
 e : Rel M.E R.E
 d : ∀ x, x ∈ R.doomed ↔ 0 < cnt M.doomed x
 f : ∀ x, x ∈ R.safe ↔ 0 < cnt M.safe x
 t : SimT M.S R.T
theorem cnt_notin {x : Int} : ∀ (ys : List Int) (l : List (Int × Int)), x ∉ ys → cnt (ys.foldl bump l) x = cnt l x
 | [], _, _ => rfl
 | y :: ys, l, h => by
  rw [List.foldl_cons, cnt_notin ys _ fun q => h (by simp [q]), cnt_bump, if_neg fun e => h (by simp [e])]
  omega
theorem cnt_pos {x : Int} (ys : List Int) (l : List (Int × Int)) (h0 : ∀ y, 0 ≤ cnt l y) : 0 < cnt (ys.foldl bump l) x ↔ 0 < cnt l x ∨ x ∈ ys := by
 by_cases hx : x ∈ ys
 ·exact ⟨fun _ => Or.inr hx, fun _ => cnt_mem ys l h0 hx⟩
 ·rw [cnt_notin ys l hx]
  exact ⟨Or.inl, fun q => q.elim id fun q => absurd q hx⟩
theorem doom_mem (R : RsM) (x y : Int) : y ∈ (doomR R x).doomed ↔ y ∈ R.doomed ∨ (y = x ∧ runsB R.L x = true) := by
 unfold doomR
 split
 ·rename_i hc
  simp only [List.mem_append, List.mem_singleton]
  exact or_congr_right ⟨fun q => ⟨q, hc.1⟩, fun q => q.1⟩
 ·rename_i hc
  refine ⟨Or.inl, fun q => q.elim id fun q => ?_⟩
  rw [q.1]
  exact Classical.byContradiction fun hn => hc ⟨q.2, hn⟩
theorem dooms_mem : ∀ (l : List Int) (R : RsM) (y : Int), y ∈ (l.foldl doomR R).doomed ↔ y ∈ R.doomed ∨ (y ∈ l ∧ runsB R.L y = true)
 | [], R, y => by simp
 | x :: l, R, y => by
  rw [List.foldl_cons, dooms_mem l, doom_mem, (doomR_fld R x).1, List.mem_cons]
  constructor
  ·rintro ((q | ⟨rfl, q⟩) | ⟨q1, q2⟩)
   ·exact Or.inl q
   ·exact Or.inr ⟨Or.inl rfl, q⟩
   ·exact Or.inr ⟨Or.inr q1, q2⟩
  ·rintro (q | ⟨rfl | q1, q2⟩)
   ·exact Or.inl (Or.inl q)
   ·exact Or.inl (Or.inr ⟨rfl, q2⟩)
   ·exact Or.inr ⟨q1, q2⟩
theorem Sim.dooms {M : SsiM} {R : RsM} (h : Sim M R) (h0 : ∀ y, 0 ≤ cnt M.doomed y) (l : List Int) (hl : ∀ x ∈ l, runsB M.L x = true) : Sim (doomAll M l) (l.foldl doomR R) := by
 obtain ⟨a1, a2, a3, a4, a5, a6⟩ := dooms_fld l R
 refine ⟨a1.trans h.l, a6.trans h.ke, a5.trans h.ks, by rw [a3]; exact h.e, fun x => ?_, fun x => by rw [a4]; exact h.f x, by rw [a2]; exact h.t⟩
 rw [dooms_mem]
 show _ ↔ 0 < cnt (l.foldl bump M.doomed) x
 rw [cnt_pos l M.doomed h0, ← h.d]
 exact or_congr_right ⟨fun q => q.1, fun q => ⟨q, by rw [h.l]; exact hl x q⟩⟩
theorem spoilt_runs {L : LM} {E : EM} {p x : Int} (hx : x ∈ (spoiltE L E p).1) : runsB L x = true := by
 unfold spoiltE at hx
 split at hx
 ·cases hx
 ·split at hx
  ·cases hx
  ·rw [spFold_list, List.nil_append] at hx
   have := (List.mem_filter.1 hx).2
   unfold runsB
   exact decide_eq_true (of_decide_eq_true this).2.2
theorem ahead_runs {L : LM} {E : EM} {p x : Int} (hx : x ∈ aheadE L E p) : runsB L x = true := by
 unfold aheadE at hx
 have := (List.mem_filter.1 hx).2
 rw [Bool.and_eq_true] at this
 exact this.1
structure MI0 (n : Nat) (M : SsiM) : Prop where
 lk : LOk n M.L
 bi : BI M.L M.E
 nd : M.E.m.Nodup
 dn : ∀ x, 0 ≤ cnt M.doomed x
section
variable {n N : Nat} {M : SsiM} {R : RsM}
theorem MI0.look (h : MI0 n M) (p : Int) : MI0 n (lookM M p) := by
 obtain ⟨a, b, c⟩ := look_fld M p
 exact ⟨by rw [a]; exact h.lk, by rw [a, b]; exact h.bi, by rw [b]; exact h.nd, fun x => by have := h.dn x; have := c x; omega⟩
theorem Sim.look (h : Sim M R) (hi : MI0 n M) (p : Int) : Sim (lookM M p) (pivotR R p) := by
 have hsp := spoilt_eq h.e hi.nd hi.lk hi.bi p
 unfold lookM pivotR
 rw [h.l, hsp]
 by_cases hs : (spoiltE M.L M.E p).2 = true
 ·rw [if_pos hs, if_pos hs]
  by_cases hr : runsB M.L p = true
  ·rw [if_pos hr, if_pos hr]
   exact h.dooms hi.dn [p] fun x hx => by simp at hx; rw [hx]; exact hr
  ·rw [if_neg hr, if_neg hr]
   exact h.dooms hi.dn _ fun x hx => spoilt_runs hx
 ·rw [if_neg hs, if_neg hs]
  exact h
theorem MI0.add (h : MI0 n M) (a b : Int) : MI0 n { M with E := addE M.L M.E a b } := by
 refine ⟨h.lk, fun q hq => ?_, ?_, h.dn⟩
 ·simp only at hq ⊢
  unfold addE at hq
  split at hq
  ·rename_i hc
   rcases List.mem_append.1 hq with k | k
   ·exact h.bi q k
   ·simp at k; subst k; exact hc.1
  ·exact h.bi q hq
 ·simp only
  unfold addE
  split
  ·rename_i hc
   simp only
   rw [List.nodup_append]
   exact ⟨h.nd, by simp, fun x hx y hy e => by simp at hy; subst hy; subst e; exact hc.2 hx⟩
  ·exact h.nd
theorem Sim.behind (h : Sim M R) (hi : MI0 n M) (a b : Int) : Sim (behindM M a b) (edgeR R a b) ∧ MI0 n (behindM M a b) := by
 obtain ⟨r1, r2⟩ := h.e.add hi.nd M.L a b
 unfold behindM edgeR
 rw [h.l]
 have hd : (besideL M.L a b = true ∧ (a, b) ∉ M.E.m) ↔ (besideL M.L a b = true ∧ (a, b) ∉ R.E.m) := decide_eq_decide.1 r2
 by_cases hc : besideL M.L a b = true ∧ (a, b) ∉ M.E.m
 ·rw [if_pos hc, if_pos (hd.1 hc)]
  have h1 : Sim { M with E := addE M.L M.E a b } { R with L := M.L, E := addQ M.L R.E a b } := ⟨rfl, h.ke, h.ks, r1, h.d, h.f, h.t⟩
  have i1 := hi.add a b
  exact ⟨(h1.look i1 b).look (i1.look b) a, (i1.look b).look a⟩
 ·rw [if_neg hc, if_neg fun q => hc (hd.2 q)]
  exact ⟨h, hi⟩
theorem Sim.wstep (h : Sim M R) (hi : MI0 n M) {x who : Int} (hx : 1 ≤ x) (hw : 0 ≤ who) : Sim (wstep x M who) (wstepR x R who) ∧ MI0 n (wstep x M who) := by
 unfold Go.Lift.E14.wstep wstepR
 by_cases h0 : who = 0
 ·rw [if_neg (by omega), if_neg (by omega), if_pos h0]
  obtain ⟨r1, r2⟩ := h.e.oldIn hi.lk x M.S.csn
  rw [h.l, h.t.cs]
  have hd : oldOk M.L M.E x M.S.csn ↔ oldOkR M.L R.E x M.S.csn := decide_eq_decide.1 r2
  by_cases hc : oldOk M.L M.E x M.S.csn
  ·rw [if_pos hc, if_pos (hd.1 hc)]
   have h1 : Sim { M with E := oldInE M.L M.E x M.S.csn } { R with L := M.L, E := oldInR M.L R.E x M.S.csn } := ⟨rfl, h.ke, h.ks, r1, h.d, h.f, h.t⟩
   have i1 : MI0 n { M with E := oldInE M.L M.E x M.S.csn } := ⟨hi.lk, fun q hq => hi.bi q (by simp only at hq; rw [oldIn_m] at hq; exact hq), by simp only; rw [oldIn_m]; exact hi.nd, hi.dn⟩
   exact ⟨h1.look i1 x, i1.look x⟩
  ·rw [if_neg hc, if_neg fun q => hc (hd.2 q)]
   exact ⟨h, hi⟩
 ·rw [if_neg h0]
  by_cases e : who = x
  ·rw [if_pos e, if_neg (by simpa using e)]
   exact ⟨h, hi⟩
  ·rw [if_neg e, if_pos (by omega), if_pos e]
   exact h.behind hi who x
theorem wsteps_sim {x : Int} (hx : 1 ≤ x) : ∀ (l : List Int) {M : SsiM} {R : RsM}, (∀ y ∈ l, 0 ≤ y) → Sim M R → MI0 n M → Sim (l.foldl (Go.Lift.E14.wstep x) M) (l.foldl (wstepR x) R) ∧ MI0 n (l.foldl (Go.Lift.E14.wstep x) M)
 | [], _, _, _, h, hi => ⟨h, hi⟩
 | y :: l, M, R, hl, h, hi => by
  rw [List.foldl_cons, List.foldl_cons]
  obtain ⟨h1, i1⟩ := h.wstep hi hx (hl y (by simp))
  exact wsteps_sim hx l (fun z hz => hl z (by simp [hz])) h1 i1
theorem reads_sim (h : Sim M R) (h0 : ∀ x, 0 ≤ cnt M.safe x) (x : Int) : readsR R x = readsB M x := by
 unfold readsR readsB
 rw [h.l]
 congr 1
 rw [← decide_not]
 refine decide_eq_decide.2 ?_
 rw [h.f]
 have := h0 x
 omega
theorem Sim.saw (h : Sim M R) (hi : MI0 n M) (h0 : ∀ x, 0 ≤ cnt M.safe x) (x w : Int) : Sim (sawM M x w) (sawR R x w) ∧ MI0 n (sawM M x w) := by
 unfold sawM sawR
 rw [reads_sim h h0]
 split
 ·exact h.behind hi x w
 ·exact ⟨h, hi⟩
theorem Sim.read (h : Sim M R) (hi : MI0 n M) (ok : SOk N M.S) (h0 : ∀ x, 0 ≤ cnt M.safe x) (x : Int) (y : ThingM) : Sim (readM M x y) (readR R x y) ∧ MI0 n (readM M x y) := by
 unfold readM readR
 rw [reads_sim h h0]
 split
 ·exact ⟨⟨h.l, h.ke, h.ks, h.e, h.d, h.f, h.t.Take ok y⟩, ⟨hi.lk, hi.bi, hi.nd, hi.dn⟩⟩
 ·exact ⟨h, hi⟩
theorem Sim.wrote (h : Sim M R) (hi : MI0 n M) (ok : SOk N M.S) (x : Int) (y : ThingM) : Sim (wroteM M x y) (wroteR R x y) ∧ MI0 n (wroteM M x y) := by
 unfold wroteM wroteR
 rw [h.l]
 split
 ·rename_i hr
  rw [h.t.owners ok]
  refine wsteps_sim ?_ _ (fun z hz => ?_) h hi
  ·have := runsB_iff.1 hr
   exact this.1.1
  ·have := (ownersS_mem ok _ hz).1
   omega
 ·exact ⟨h, hi⟩
theorem Sim.begin (h : Sim M R) (hi : MI0 n M) (h0 : ∀ x, 0 ≤ cnt M.safe x) (r : Bool) : Sim (beginM M r) (beginR R r) ∧ MI0 n (beginM M r) := by
 unfold beginM beginR
 rw [h.l]
 by_cases hf : M.L.l.length = 200
 ·rw [if_pos hf, begin_full r hf, if_neg (fun q => q.1 hf)]
  refine ⟨⟨rfl, h.ke, h.ks, h.e, h.d, h.f, h.t⟩, hi⟩
 ·rw [if_neg hf]
  refine ⟨⟨rfl, h.ke, h.ks, h.e, h.d, fun x => ?_, h.t⟩, ⟨hi.lk.begin r, fun q hq => beside_begin r (hi.bi q hq), hi.nd, hi.dn⟩⟩
  simp only
  by_cases hc : r = true ∧ aloneB M.L = true
  ·rw [if_pos ⟨hf, hc⟩, if_pos hc, cnt_bump, List.mem_append, List.mem_singleton, h.f]
   have := h0 x
   split <;> omega
  ·rw [if_neg (fun q => hc q.2), if_neg hc]
   exact h.f x
end
end Go.Lift.E14
namespace Go.Lift.E14
open Go Go.Proofs Go.RowKit
set_option maxRecDepth 100000
theorem mins_le (L : LM) (c : Int) : ∀ (l : List Int) (a : Int), c ≤ l.foldl (fun m x => mnI m (txL L x).snap) a ↔ c ≤ a ∧ ∀ x ∈ l, c ≤ (txL L x).snap
 | [], a => by simp
 | x :: l, a => by
  rw [List.foldl_cons, mins_le L c l]
  have hm : c ≤ mnI a (txL L x).snap ↔ c ≤ a ∧ c ≤ (txL L x).snap := by
   unfold mnI
   split <;> omega
  rw [hm]
  simp only [List.mem_cons, forall_eq_or_imp]
  exact ⟨fun ⟨⟨h1, h2⟩, h3⟩ => ⟨h1, h2, h3⟩, fun ⟨h1, h2, h3⟩ => ⟨⟨h1, h2⟩, h3⟩⟩
theorem gone_needed {L : LM} {x : Int} (hc : (txL L x).csn ≤ L.clock) : goneB L x = !neededR L x := by
 unfold goneB neededR horizonL
 rw [Bool.eq_iff_iff, decide_eq_true_eq, mins_le, Bool.not_eq_true', List.any_eq_false]
 constructor
 ·rintro ⟨_, h⟩ r hr hd
  have := of_decide_eq_true hd
  have := h r hr
  omega
 ·intro h
  refine ⟨hc, fun r hr => ?_⟩
  have := h r hr
  simp only [decide_eq_true_eq] at this
  omega
section
variable {N : Nat}
theorem drops_sim (L : LM) : ∀ (l : List Int) {S : SM} {T : QT}, SimT S T → SOk N S → (∀ x ∈ l, (0 ≤ x ∧ x ≤ 200) ∧ (txL L x).csn ≤ L.clock) → SimT ((l.filter (goneB L)).foldl dropS S) (l.foldl (dropsR L) T) ∧ SOk N ((l.filter (goneB L)).foldl dropS S)
 | [], _, _, h, ok, _ => ⟨h, ok⟩
 | x :: l, S, T, h, ok, hl => by
  obtain ⟨h1, h2⟩ := hl x (by simp)
  have hg := gone_needed h2
  rw [List.foldl_cons]
  unfold dropsR
  cases hn : neededR L x with
  | true =>
   rw [hn] at hg
   rw [List.filter_cons_of_neg (by rw [hg]; decide), if_pos rfl]
   exact drops_sim L l h ok fun y hy => hl y (by simp [hy])
  | false =>
   rw [hn] at hg
   rw [List.filter_cons_of_pos hg, if_neg (by decide), List.foldl_cons]
   exact drops_sim L l (h.drop ok h1) (dropS_ok ok h1).1 fun y hy => hl y (by simp [hy])
theorem folds_sim (L : LM) (keep : Int) : ∀ (l : List Int) {S : SM} {T : QT}, SimT S T → SOk N S → (foldKR L keep l T).2 = (foldK L keep l S).2 ∧ SimT (foldK L keep l S).1 (foldKR L keep l T).1 ∧ SOk N (foldK L keep l S).1 ∧ (foldK L keep l S).2.Sublist l
 | [], _, _, h, ok => ⟨rfl, h, ok, List.Sublist.refl _⟩
 | x :: l, S, T, h, ok => by
  unfold foldK foldKR
  by_cases hc : keep < ((l.length + 1 : Nat) : Int)
  ·rw [if_pos hc, if_pos hc]
   obtain ⟨a, b, c, d⟩ := folds_sim L keep l (h.fold ok x (txL L x).csn) (foldS_ok ok (txL L x).csn).1
   exact ⟨a, b, c, d.cons x⟩
  ·rw [if_neg hc, if_neg hc]
   exact ⟨rfl, h, ok, List.Sublist.refl _⟩
theorem Sim.clean {M : SsiM} {R : RsM} (h : Sim M R) (ok : SOk N M.S) (hk : ∀ x ∈ M.kept, (0 ≤ x ∧ x ≤ 200) ∧ (txL M.L x).csn ≤ M.L.clock) : Sim (cleanM M) (cleanR R) ∧ (cleanM M).kept.Sublist M.kept := by
 obtain ⟨d1, d2⟩ := drops_sim M.L M.kept h.t ok hk
 obtain ⟨f1, f2, f3, f4⟩ := folds_sim M.L M.keep (M.kept.filter fun x => !goneB M.L x) d1 d2
 have hfil : R.keeps.filter (neededR R.L) = M.kept.filter fun x => !goneB M.L x := by
  rw [h.ks, h.l]
  refine List.filter_congr fun x hx => ?_
  rw [gone_needed (hk x hx).2]
  simp
 have hd : R.keeps.foldl (dropsR R.L) R.T = M.kept.foldl (dropsR M.L) R.T := by rw [h.ks, h.l]
 have hcl : cleanR R = { R with T := if (foldK M.L M.keep (M.kept.filter fun x => !goneB M.L x) ((M.kept.filter (goneB M.L)).foldl dropS M.S)).2 = [] ∧ runningL M.L = [] then dropQ (foldKR M.L M.keep (M.kept.filter fun x => !goneB M.L x) (M.kept.foldl (dropsR M.L) R.T)).1 0 else (foldKR M.L M.keep (M.kept.filter fun x => !goneB M.L x) (M.kept.foldl (dropsR M.L) R.T)).1, keeps := (foldK M.L M.keep (M.kept.filter fun x => !goneB M.L x) ((M.kept.filter (goneB M.L)).foldl dropS M.S)).2 } := by
  unfold cleanR
  simp only
  rw [hfil, hd, h.l, h.ke, f1]
 rw [hcl]
 refine ⟨⟨h.l, h.ke, rfl, h.e, h.d, h.f, ?_⟩, f4.trans List.filter_sublist⟩
 unfold cleanM
 simp only
 split
 ·exact f2.drop f3 (by decide)
 ·exact f2
end
section
variable {n : Nat} {R : RsM}
theorem drops_len (L : LM) : ∀ (l : List Int) (T : QT), (l.foldl (dropsR L) T).l.length ≤ T.l.length
 | [], T => Nat.le_refl _
 | x :: l, T => by
  rw [List.foldl_cons]
  exact Nat.le_trans (drops_len L l _) (dropsR_len L T x)
theorem foldKR_len (L : LM) (keep : Int) : ∀ (l : List Int) (T : QT), (foldKR L keep l T).1.l.length ≤ T.l.length ∧ (foldKR L keep l T).2.length ≤ l.length
 | [], T => ⟨Nat.le_refl _, Nat.le_refl _⟩
 | x :: l, T => by
  unfold foldKR
  split
  ·obtain ⟨a, b⟩ := foldKR_len L keep l (foldQ T x (txL L x).csn)
   have := foldQ_len T x (txL L x).csn
   exact ⟨by omega, by simp; omega⟩
  ·exact ⟨Nat.le_refl _, Nat.le_refl _⟩
theorem RB.clean (h : RB n R) : RB n (cleanR R) := by
 have h1 := drops_len R.L R.keeps R.T
 obtain ⟨h2, h3⟩ := foldKR_len R.L R.keep (R.keeps.filter (neededR R.L)) (R.keeps.foldl (dropsR R.L) R.T)
 have h4 := List.length_filter_le (neededR R.L) R.keeps
 have ht := h.t
 have hk := h.k
 unfold cleanR
 refine ⟨?_, h.m, h.o, h.d, h.f, by simp only; omega, h.c, h.s, h.l, h.r, h.p⟩
 simp only
 split
 ·have := List.length_filter_le (fun y : OT => decide (y.1 ≠ 0)) (foldKR R.L R.keep (R.keeps.filter (neededR R.L)) (R.keeps.foldl (dropsR R.L) R.T)).1.l
  unfold dropQ
  simp only
  omega
 ·omega
theorem RB.endA (h : RB n R) (x : Int) {m : Nat} (hk : LOk m R.L) : RB n (endA R x) := by
 have h1 := List.length_filter_le (fun y : OT => decide (y.1 ≠ x)) R.T.l
 have h2 := List.length_filter_le (fun q : Int × Int => !touchP x q) R.E.m
 have h3 := List.length_filter_le (fun q : Int × Int => !decide (q.1 = x)) R.E.old
 have ht := h.t
 have hm := h.m
 have ho := h.o
 refine ⟨?_, ?_, ?_, h.d, h.f, h.k, by simp only; rw [abort_clock]; exact h.c, fun y => has_state (hk.abort x), by simp only; rw [len_abort]; exact h.l, ?_, h.p⟩
 ·show (R.T.l.filter (fun y : OT => decide (y.1 ≠ x))).length ≤ n; omega
 ·show (R.E.m.filter (fun q : Int × Int => !touchP x q)).length ≤ n; omega
 ·show (R.E.old.filter (fun q : Int × Int => !decide (q.1 = x))).length ≤ n; omega
 ·exact h.r.sublist List.filter_sublist
theorem RB.endC (h : RB n R) (x : Int) {m : Nat} (hk : LOk m R.L) (hc : R.L.clock + 1 < 2 ^ 40) : RB (n + 1) (endC R x) := by
 obtain ⟨f1, f2, f3, f4, f5, f6⟩ := dooms_fld (aheadR R.L R.E x) R
 have hd := RB.dooms (aheadR R.L R.E x) h
 have hcl := commit_clock R.L x
 have hkl := h.k
 refine ⟨Nat.le_succ_of_le hd.t, Nat.le_succ_of_le hd.m, Nat.le_succ_of_le hd.o, hd.d, Nat.le_succ_of_le hd.f, by simp only [List.length_append, List.length_singleton]; omega, by simp only; omega, fun y => has_state (hk.commit x), by simp only; rw [len_commit]; exact h.l, hd.r, hd.p⟩
theorem RB.read (h : RB n R) (x : Int) (y : ThingM) : RB (n + 1) (readR R x y) := by
 unfold readR
 split
 ·have h1 := takeQ_len R.T x y
  have ht := h.t
  refine ⟨?_, Nat.le_succ_of_le h.m, Nat.le_succ_of_le h.o, h.d, Nat.le_succ_of_le h.f, Nat.le_succ_of_le h.k, h.c, h.s, h.l, h.r, h.p⟩
  simp only
  unfold TakeQ
  split <;> omega
 ·exact h.up (Nat.le_succ n)
theorem RB.saw (h : RB n R) (x w : Int) : RB (n + 1) (sawR R x w) := by
 unfold sawR
 split
 ·exact h.edge x w
 ·exact h.up (Nat.le_succ n)
theorem RB.wrote (h : RB n R) (x : Int) (y : ThingM) (hw : (ownersQ R.T y).length ≤ 201) : RB (n + 201) (wroteR R x y) := by
 unfold wroteR
 split
 ·exact (wsteps_RB x (ownersQ R.T y) h).up (by omega)
 ·exact h.up (by omega)
theorem len_beginL (L : LM) (r : Bool) (h : L.l.length ≤ 200) : (beginL L r).l.length ≤ 200 := by
 unfold beginL
 split
 ·exact h
 ·simp; omega
theorem RB.begin (h : RB n R) (r : Bool) {m : Nat} (hk : LOk m R.L) : RB (n + 1) (beginR R r) := by
 have h1 : (beginL R.L r).clock = R.L.clock := by unfold beginL; split <;> rfl
 have hf := h.f
 refine ⟨Nat.le_succ_of_le h.t, Nat.le_succ_of_le h.m, Nat.le_succ_of_le h.o, h.d, ?_, Nat.le_succ_of_le h.k, by unfold beginR; simp only; rw [h1]; exact h.c, fun y => has_state (hk.begin r), len_beginL _ _ h.l, h.r, h.p⟩
 unfold beginR
 simp only
 split
 ·simp; omega
 ·omega
end
/-- What both keep to, after so many steps. -/
structure PI (k : Nat) (M : SsiM) (R : RsM) : Prop where
 sim : Sim M R
 i : MI0 k M
 mo : Mk k M
 rb : RB (202 * k) R
 kc : ∀ x ∈ M.kept, (txL M.L x).state = 2
 ko : M.kept.Pairwise fun a b => (txL M.L a).csn < (txL M.L b).csn
section
variable {k : Nat} {M : SsiM} {R : RsM}
theorem MI0.up {n m : Nat} (h : MI0 n M) (hn : n ≤ m) : MI0 m M := ⟨h.lk.up hn, h.bi, h.nd, h.dn⟩
theorem PI.kept (h : PI k M R) : ∀ x ∈ M.kept, (0 ≤ x ∧ x ≤ 200) ∧ (txL M.L x).csn ≤ M.L.clock := by
 intro x hx
 have hs := h.kc x hx
 have hh := (has_state h.i.lk).2 (show (txL M.L x).state ≠ 0 by omega)
 have hl := h.rb.l
 rw [h.sim.l] at hl
 have := hh.1
 have := hh.2
 have := h.i.lk.csn x hh hs
 omega
theorem PI.of {M' : SsiM} {R' : RsM} (h : PI k M R) (hk : k < 1000) (s : Sim M' R') (i : MI0 k M') (m : Mk (k + 1) M') (r : RB (202 * k + 202) R') (hL : M'.L = M.L) (hK : M'.kept = M.kept) : PI (k + 1) M' R' :=
 ⟨s, i.up (Nat.le_succ k), m, r.up (by omega), by rw [hK, hL]; exact h.kc, by rw [hK, hL]; exact h.ko⟩
theorem PI.saw (h : PI k M R) (hk : k < 1000) (x w : Int) : PI (k + 1) (sawM M x w) (sawR R x w) := by
 obtain ⟨s, i⟩ := h.sim.saw h.i (fun y => (h.mo.f y).1) x w
 refine h.of hk s i (h.mo.saw hk x w) ((h.rb.saw x w).up (by omega)) ?_ ?_
 ·unfold sawM; split; exact behind_fld _ _ _; rfl
 ·unfold sawM; split; exact (behindM_S M x w).2.2.2.1; rfl
theorem PI.read (h : PI k M R) (hk : k < 1000) (x : Int) (y : ThingM) : PI (k + 1) (readM M x y) (readR R x y) := by
 obtain ⟨s, i⟩ := h.sim.read h.i h.mo.s (fun y => (h.mo.f y).1) x y
 refine h.of hk s i (h.mo.read hk x y) ((h.rb.read x y).up (by omega)) ?_ ?_
 ·unfold readM; split <;> rfl
 ·unfold readM; split <;> rfl
theorem wsteps_S (x : Int) : ∀ (l : List Int) (M : SsiM), (l.foldl (wstep x) M).L = M.L ∧ (l.foldl (wstep x) M).kept = M.kept
 | [], M => ⟨rfl, rfl⟩
 | y :: l, M => by
  rw [List.foldl_cons]
  obtain ⟨a, b⟩ := wsteps_S x l (wstep x M y)
  obtain ⟨_, c, _, d, _⟩ := wstep_S M x y
  exact ⟨a.trans c, b.trans d⟩
theorem PI.owners (h : PI k M R) (y : ThingM) : (ownersQ R.T y).length ≤ 201 := by
 rw [h.sim.t.owners h.mo.s]
 exact ownersS_len h.mo.s _
theorem PI.wrote (h : PI k M R) (hk : k < 1000) (x : Int) (y : ThingM) : PI (k + 1) (wroteM M x y) (wroteR R x y) := by
 obtain ⟨s, i⟩ := h.sim.wrote h.i h.mo.s x y
 refine h.of hk s i (h.mo.wrote hk x y) ((h.rb.wrote x y (h.owners y)).up (by omega)) ?_ ?_
 ·unfold wroteM; split; exact (wsteps_S x _ M).1; rfl
 ·unfold wroteM; split; exact (wsteps_S x _ M).2; rfl
theorem PI.begin (h : PI k M R) (hk : k < 1000) (r : Bool) : PI (k + 1) (beginM M r) (beginR R r) := by
 obtain ⟨s, i⟩ := h.sim.begin h.i (fun y => (h.mo.f y).1) r
 have hlk : LOk k R.L := by rw [h.sim.l]; exact h.i.lk
 have hkp : (beginM M r).kept = M.kept := by unfold beginM; split <;> rfl
 have htx : ∀ x ∈ M.kept, txL (beginM M r).L x = txL M.L x := by
  intro x hx
  have hh := (has_state h.i.lk).2 (show (txL M.L x).state ≠ 0 by have := h.kc x hx; omega)
  unfold beginM
  split
  ·rfl
  ·rename_i hf
   exact (begin_tx (L := M.L) r hf).2.1 x hh
 refine ⟨s, i.up (Nat.le_succ k), h.mo.begin hk r, (h.rb.begin r hlk).up (by omega), ?_, ?_⟩
 ·rw [hkp]
  intro x hx
  rw [htx x hx]
  exact h.kc x hx
 ·rw [hkp]
  refine h.ko.imp_of_mem fun {a b} ha hb hab => ?_
  rw [htx a ha, htx b hb]
  exact hab
theorem PI.notkept (h : PI k M R) {x : Int} (hr : runsL M.L x) : ∀ y ∈ M.kept, y ≠ x := fun y hy e => by
 have := h.kc y hy
 rw [e, hr.2] at this
 cases this
theorem PI.ordA (h : PI k M R) (x : Int) : runsB R.L x = true → OrdK (endA R x) := by
 intro hr
 rw [h.sim.l] at hr
 have hr' := runsB_iff.1 hr
 unfold OrdK
 simp only
 rw [h.sim.ks, h.sim.l]
 refine h.ko.imp_of_mem fun {a b} ha hb hab => ?_
 rw [(abort_tx hr').2.1, (abort_tx hr').2.1, if_neg (h.notkept hr' a ha), if_neg (h.notkept hr' b hb)]
 exact hab
theorem PI.ordC (h : PI k M R) (x : Int) : runsB R.L x = true → OrdK (endC R x) := by
 intro hr
 rw [h.sim.l] at hr
 have hr' := runsB_iff.1 hr
 unfold OrdK
 simp only
 rw [h.sim.ks, h.sim.l, List.pairwise_append]
 refine ⟨h.ko.imp_of_mem fun {a b} ha hb hab => ?_, List.pairwise_singleton _ _, fun a ha b hb => ?_⟩
 ·rw [(commit_tx hr').2.1, (commit_tx hr').2.1, if_neg (h.notkept hr' a ha), if_neg (h.notkept hr' b hb)]
  exact hab
 ·simp at hb
  subst hb
  rw [(commit_tx hr').2.1, (commit_tx hr').2.1, if_neg (h.notkept hr' a ha), if_pos rfl]
  have := (h.kept a ha).2
  simp only
  omega
theorem PI.rbA (h : PI k M R) (x : Int) : RB (202 * k) (endA R x) := h.rb.endA x (m := k) (by rw [h.sim.l]; exact h.i.lk)
theorem PI.rbC (h : PI k M R) (x : Int) : RB (202 * k + 1) (endC R x) := h.rb.endC x (m := k) (by rw [h.sim.l]; exact h.i.lk) (by
 rw [h.sim.l]
 have h1 := h.mo.c
 have h2 := h.mo.dd
 have : (2 : Int) ^ 40 = 1099511627776 := by decide
 have h3 : ((122000000 * k : Nat) : Int) ≤ ((2 ^ 39 : Nat) : Int) := Int.ofNat_le.2 h2
 have h4 : ((2 ^ 39 : Nat) : Int) = 549755813888 := by decide
 omega)
theorem PI.abortA (h : PI k M R) {x : Int} (hr : runsL M.L x) : Sim (cleanM { M with L := abortL M.L x, S := dropS M.S x, E := dropE M.E x }) (cleanR (endA R x)) ∧ MI0 k (cleanM { M with L := abortL M.L x, S := dropS M.S x, E := dropE M.E x }) ∧
  (∀ y ∈ (cleanM { M with L := abortL M.L x, S := dropS M.S x, E := dropE M.E x }).kept, (txL (abortL M.L x) y).state = 2) ∧ (cleanM { M with L := abortL M.L x, S := dropS M.S x, E := dropE M.E x }).kept.Pairwise fun a b => (txL (abortL M.L x) a).csn < (txL (abortL M.L x) b).csn := by
 have hx : 0 ≤ x ∧ x ≤ 200 := by
  have hl := h.rb.l
  rw [h.sim.l] at hl
  have := hr.1.1
  have := hr.1.2
  omega
 have hns : ∀ y ∈ M.kept, txL (abortL M.L x) y = txL M.L y := fun y hy => by rw [(abort_tx hr).2.1, if_neg (h.notkept hr y hy)]
 have s0 : Sim { M with L := abortL M.L x, S := dropS M.S x, E := dropE M.E x } (endA R x) := by
  refine ⟨by simp only; rw [h.sim.l], h.sim.ke, h.sim.ks, h.sim.e.drop h.mo.e x, h.sim.d, h.sim.f, h.sim.t.drop h.mo.s hx⟩
 obtain ⟨s1, s2⟩ := s0.clean (dropS_ok h.mo.s hx).1 fun y hy => by
  simp only
  rw [hns y hy, (abort_tx hr).2.2]
  exact h.kept y hy
 refine ⟨s1, ⟨h.i.lk.abort x, ?_, h.i.nd.sublist List.filter_sublist, h.i.dn⟩, fun y hy => ?_, ?_⟩
 ·exact BI.drop fun q hq h1 h2 => beside_abort h1 h2 (h.i.bi q hq)
 ·have hm := s2.subset hy
  simp only at hm
  rw [hns y hm]
  exact h.kc y hm
 ·refine List.Pairwise.sublist s2 ?_
  simp only
  refine h.ko.imp_of_mem fun {a b} ha hb hab => ?_
  rw [hns a ha, hns b hb]
  exact hab
theorem PI.abort (h : PI k M R) (hk : k < 1000) (x : Int) : PI (k + 1) (abortM M x) (abortR R x) ∧ runsB R.L x = runsB M.L x := by
 refine ⟨?_, by rw [h.sim.l]⟩
 have hm := h.mo.abort hk x
 unfold abortM abortR at *
 rw [h.sim.l]
 by_cases hr : runsB M.L x = true
 ·rw [if_pos hr] at hm ⊢
  rw [if_pos hr]
  obtain ⟨a, b, c, d⟩ := h.abortA (runsB_iff.1 hr)
  have hr1 := (h.rbA x).clean
  rw [show (endA R x) = endA R x from rfl] at hr1
  have heq : ({ R with L := abortL M.L x, T := dropQ R.T x, E := dropR R.E x } : RsM) = endA R x := congrArg (fun l => ({ R with L := abortL l x, T := dropQ R.T x, E := dropR R.E x } : RsM)) h.sim.l.symm
  first
   | exact ⟨a, b.up (Nat.le_succ k), hm, hr1.up (by omega), c, d⟩
   | (rw [heq]; exact ⟨a, b.up (Nat.le_succ k), hm, hr1.up (by omega), c, d⟩)
 ·rw [if_neg hr] at hm ⊢
  rw [if_neg hr]
  exact ⟨h.sim, h.i.up (Nat.le_succ k), hm, h.rb.up (by omega), h.kc, h.ko⟩
theorem PI.commit (h : PI k M R) (hk : k < 1000) (x : Int) : PI (k + 1) (commitM M x).1 (commitR R x).1 ∧ (commitR R x).2 = (commitM M x).2 := by
 have hm := h.mo.commit hk x
 have hd : x ∈ R.doomed ↔ cnt M.doomed x > 0 := h.sim.d x
 unfold commitM commitR at *
 rw [h.sim.l]
 by_cases hr : runsB M.L x = true
 ·have hrf : ¬ runsB M.L x = false := by rw [hr]; decide
  rw [if_neg hrf] at hm ⊢
  rw [if_neg hrf]
  by_cases hdx : cnt M.doomed x > 0
  ·rw [if_pos hdx] at hm ⊢
   rw [if_pos (hd.2 hdx)]
   exact ⟨(h.abort hk x).1, rfl⟩
  ·rw [if_neg hdx] at hm ⊢
   rw [if_neg fun q => hdx (hd.1 q)]
   refine ⟨?_, rfl⟩
   simp only at hm ⊢
   have hr' := runsB_iff.1 hr
   obtain ⟨f1, f2, f3, f4, f5, f6⟩ := dooms_fld (aheadR R.L R.E x) R
   have hah : aheadR R.L R.E x = aheadE M.L M.E x := by rw [h.sim.l]; exact ahead_eq h.sim.e h.i.nd x
   have sd := h.sim.dooms h.i.dn (aheadE M.L M.E x) fun y hy => ahead_runs hy
   rw [← hah] at sd
   have s0 : Sim { doomAll M (aheadE M.L M.E x) with L := commitL M.L x, kept := M.kept ++ [x] } (endC R x) :=
    ⟨by show commitL R.L x = _; rw [h.sim.l], sd.ke, by show R.keeps ++ [x] = _; rw [h.sim.ks], sd.e, by rw [← hah]; exact sd.d, sd.f, sd.t⟩
   have hns : ∀ y ∈ M.kept, txL (commitL M.L x) y = txL M.L y := fun y hy => by rw [(commit_tx hr').2.1, if_neg (h.notkept hr' y hy)]
   have hxx : txL (commitL M.L x) x = { txL M.L x with state := 2, csn := M.L.clock + 1 } := by rw [(commit_tx hr').2.1, if_pos rfl]
   have hl := h.rb.l
   rw [h.sim.l] at hl
   have hx1 := hr'.1.1
   have hx2 := hr'.1.2
   have hclk := (commit_tx hr').2.2
   obtain ⟨s1, s2⟩ := s0.clean h.mo.s fun y hy => by
    simp only at hy ⊢
    rcases List.mem_append.1 hy with q | q
    ·have := h.kept y q
     rw [hns y q, hclk]
     omega
    ·simp at q
     subst q
     rw [hxx, hclk]
     simp only
     omega
   have hrc := (h.rbC x).clean
   have hco : (M.kept ++ [x]).Pairwise fun a b => (txL (commitL M.L x) a).csn < (txL (commitL M.L x) b).csn := by
    have := h.ordC x (by rw [h.sim.l]; exact hr)
    unfold OrdK at this
    simp only at this
    rw [h.sim.ks, h.sim.l] at this
    exact this
   have heq : ({ (aheadR M.L R.E x).foldl doomR R with L := commitL M.L x, keeps := R.keeps ++ [x] } : RsM) = endC R x := congrArg (fun l => ({ (aheadR l R.E x).foldl doomR R with L := commitL l x, keeps := R.keeps ++ [x] } : RsM)) h.sim.l.symm
   have hgo : PI (k + 1) (cleanM { doomAll M (aheadE M.L M.E x) with L := commitL M.L x, kept := M.kept ++ [x] }) (cleanR (endC R x)) := by
    refine ⟨s1, ⟨h.i.lk.commit x, fun q hq => beside_commit h.i.lk x (h.i.bi q hq), h.i.nd, ?_⟩, hm, hrc.up (by omega), fun y hy => ?_, List.Pairwise.sublist s2 hco⟩
    ·intro y
     have h1 := (cnt_bumps (aheadE M.L M.E x) M.doomed y).1
     have h2 := h.i.dn y
     show 0 ≤ cnt ((aheadE M.L M.E x).foldl bump M.doomed) y
     omega
    ·have hm2 := s2.subset hy
     simp only at hm2
     show (txL (commitL M.L x) y).state = 2
     rcases List.mem_append.1 hm2 with q | q
     ·rw [hns y q]
      exact h.kc y q
     ·simp at q
      subst q
      rw [hxx]
   first
    | exact hgo
    | (rw [heq]; exact hgo)
 ·have hrf : runsB M.L x = false := by simpa using hr
  rw [if_pos hrf] at hm ⊢
  rw [if_pos hrf]
  exact ⟨⟨h.sim, h.i.up (Nat.le_succ k), hm, h.rb.up (by omega), h.kc, h.ko⟩, rfl⟩
theorem PI.new {each all keep : Int} (he : 1 ≤ each ∧ each ≤ 10000) (ha : 1 ≤ all ∧ all ≤ 10000) (hk : 0 ≤ keep ∧ keep ≤ 1000) : PI 0 (newM each all keep) (newR each all keep) := by
 have hno : ∀ x, ¬ hasL ⟨[], 0⟩ x := fun x h => by have := h.1; have := h.2; simp at this; omega
 have m0 := newM_ok he ha hk
 refine ⟨⟨rfl, rfl, rfl, ⟨(List.mergeSort_nil).symm, fun x => rfl⟩, fun x => ?_, fun x => ?_, ⟨rfl, rfl, rfl, List.Pairwise.nil, fun o x => ?_⟩⟩, ⟨lok_new, fun q hq => (by cases hq), List.Pairwise.nil, fun x => Int.le_refl _⟩, m0, ⟨Nat.le_refl _, Nat.le_refl _, Nat.le_refl _, ⟨List.Pairwise.nil, fun x hx => by cases hx⟩, Nat.le_refl _, Nat.le_refl _, by show (0 : Int) < 2 ^ 40; decide, fun x => ?_, by show (0 : Nat) ≤ 200; decide, List.Pairwise.nil, hk.1⟩, fun x hx => (by cases hx), List.Pairwise.nil⟩
 ·show x ∈ ([] : List Int) ↔ (0 : Int) < 0
  simp
 ·show x ∈ ([] : List Int) ↔ (0 : Int) < 0
  simp
 ·show (o, x) ∈ ([] : List OT) ↔ x ∈ ([] : List ThingM)
  simp
 ·exact ⟨fun h => absurd h (hno x), fun h => absurd (by rw [txL_no (hno x)]; rfl) h⟩
end
end Go.Lift.E14
namespace Go.Lift.E14
open Go Go.Proofs Go.RowKit
set_option maxRecDepth 100000
/-- What both keep to, after so many steps. -/
structure POk (n : Nat) (L : LM) (E M : EM) : Prop where
 lk : LOk n L
 ek : EOk n E
 bi : BI L E
 rl : Rel E M
 ol : M.old.length ≤ n
theorem POk.ml {n : Nat} {L : LM} {E M : EM} (h : POk n L E M) : M.m.length ≤ n := by
 rw [h.rl.m, sortC_len]
 exact h.ek.len
structure Tri (P : Nat → Prop) (cb e q rb : Nat) (L : LM) (E M : EM) (sl so s08 : Sl) (g : Hp) : Prop where
 ev : EvS P g cb e L E
 qa : QAt 0 g q rb M sl so
 ra : RAt 0 g rb L s08
theorem Tri.ext0 {P : Nat → Prop} {cb e q rb : Nat} {L : LM} {E M : EM} {sl so s08 : Sl} {g g' : Hp} (h : Tri P cb e q rb L E M sl so s08 g) (he : Ext [] g g') : Tri P cb e q rb L E M sl so s08 g' := ⟨h.ev.ext0 he, h.qa.ext0 he, h.ra.ext0 he⟩
section
variable {P : Nat → Prop} {h0 cb e q rb n : Nat} {L : LM} {E M : EM} {sl so s08 : Sl} {g : Hp} {Q : List Value → Hp → Prop}
theorem eqSelf (x : Int) : (x == x) = true := by simp
theorem Same14_s (hP : Tri P cb e q rb L E M sl so s08 g) (hok : POk n L E M) (hn : n ≤ 2 ^ 16) (hQ : ∀ g', Ext [] g g' → Q [.bool true] g') : S_liverylaw14_Same (some ⟨e, 0, none⟩) (some ⟨q, 0, none⟩) g Q := by
 refine O_liverylaw14_Same _ _ ?_
 unfold F_liverylaw14_Same
 have hek := hok.ek
 have hml := hok.ml
 have hol := hok.ol
 have hmm := hok.rl.m
 refine All_s hP.ev hek (by omega) fun g1 l3 e1 ho3 => ⟨l3, rfl, ?_⟩
 have hP1 := hP.ext0 e1
 have hn3 := ho3.1
 have hnl := hP1.qa.l.1
 have hall : allE E = M.m := hmm.symm
 rw [hall] at ho3 hn3
 simp only [nilW_some]
 refine ⟨sl, hP1.qa.rd.2.1, ?_⟩
 rw [if_neg (by simp; omega)]
 intro X hX
 refine loopI M.m.length (fun _ g2 => Ext [] g1 g2) ?_ ?_ g1 (Ext.refl _ _)
 ·intro g2 e2
  refine hX _ _ ?_
  rw [if_neg (by simp; omega)]
  intro Y hY
  have hP2 := hP1.ext0 e2
  have hlen := hP.ra.len
  have key : ∀ d (i : Nat) g3, d + i = L.l.length + 2 → Ext [] g2 g3 → Y [.int .i64 (i : Int)] g3 := by
   intro d
   induction d with
   | zero =>
    intro i g3 hi e3
    have hP3 := hP2.ext0 e3
    have hr := hP3.ra.own.1
    refine hY _ _ ?_
    refine ⟨_, hP3.qa.rd.1, ?_⟩
    rw [nilW_some]
    refine ⟨s08, by rw [addr_mk, rd_blk hP3.ra.blk]; rfl, ?_⟩
    rw [wrap64 (by omega) (by omega), if_neg (by simp; omega)]
    exact hQ g3 ((e1.trans0 e2).trans0 e3)
   | succ d ih =>
    intro i g3 hi e3
    have hP3 := hP2.ext0 e3
    have hr := hP3.ra.own.1
    refine hY _ _ ?_
    refine ⟨_, hP3.qa.rd.1, ?_⟩
    rw [nilW_some]
    refine ⟨s08, by rw [addr_mk, rd_blk hP3.ra.blk]; rfl, ?_⟩
    rw [wrap64 (x := (s08.n : Int) + 1) (by omega) (by omega), if_pos (by simp; omega)]
    obtain ⟨x, hx⟩ : ∃ x : Int, x = (i : Int) := ⟨_, rfl⟩
    rw [← hx]
    have hbn := fun y => inE_len hek y
    refine Spoilt_s hP3.ev hek (by omega) x fun g4 s4 e4 ho4 => ⟨s4, _, rfl, ?_⟩
    have hP4 := hP3.ext0 e4
    refine SpoiltR_s hP4.qa hP4.ra x ⟨by omega, by omega⟩ fun g5 s5 e5 ho5 => ⟨s5, _, rfl, ?_⟩
    have hP5 := hP4.ext0 e5
    have hsp := spoilt_eq hok.rl hek.nd hok.lk hok.bi x
    rw [hsp] at ho5
    rw [hsp]
    refine newI fun g6 z6 b6 e6 => ?_
    refine st_blk b6 (by simp) fun g7 z7 b7 e7 => ?_
    have e57 : Ext [] g5 g7 := e6.trans e7 fun b hb hlt => by simp at hb; omega
    have hP7 := hP5.ext0 e57
    intro J hJ
    have fin : ∀ g8, Ext [] g7 g8 → J [.bool false] g8 := by
     intro g8 e8
     refine hJ _ _ ?_
     rw [if_neg (by decide), hx, wrap64 (by omega) (by omega)]
     exact ih (i + 1) g8 (by omega) ((((e3.trans0 e4).trans0 e5).trans0 e57).trans0 e8)
    refine ⟨(spoiltE L E x).2, by rw [addr_mk, rd_blk b7]; rfl, ?_⟩
    have hbe : ((spoiltE L E x).2 == (spoiltE L E x).2) = true := by simp
    rw [hbe, if_neg (by decide)]
    refine ⟨s5, by rw [addr_mk, rd_blk b7]; rfl, ?_⟩
    have o5 := ho5.ext0 e57
    have o4 := (ho4.ext0 e5).ext0 e57
    have hs5 := o5.1
    have hsl : (spoiltE L E x).1.length ≤ 2 ^ 40 := by
     unfold spoiltE
     split
     ·simp
     ·split
      ·simp
      ·have := spStep_len L (firstE L E x) (inE E x) ([], decide (oldE E x ≥ firstE L E x))
       have := (hbn x).1
       simp only [List.length_nil] at *
       omega
    refine Ints_s (xs := (spoiltE L E x).1) (ys := (spoiltE L E x).1) o4.sl.reads o5.sl.reads hsl ⟨_, rfl, ?_⟩
    rw [decide_eq_true rfl, if_neg (by decide)]
    refine In_s hP7.ev hek (by omega) x fun g8 s8 e8 ho8 => ⟨s8, rfl, ?_⟩
    have hP8 := hP7.ext0 e8
    refine InR_s hP8.qa x (by omega) fun g9 s9 e9 ho9 => ⟨s9, rfl, ?_⟩
    rw [(end_in hok.rl hek.nd x).1] at ho9
    have hP9 := hP8.ext0 e9
    refine Ints_s (xs := inE E x) (ys := inE E x) (ho8.ext0 e9).sl.reads ho9.sl.reads (by have := (hbn x).1; omega) ⟨_, rfl, ?_⟩
    rw [decide_eq_true rfl, if_neg (by decide)]
    refine Out_s hP9.ev hek (by omega) x fun g10 s10 e10 ho10 => ⟨s10, rfl, ?_⟩
    have hP10 := hP9.ext0 e10
    refine OutR_s hP10.qa x (by omega) fun g11 s11 e11 ho11 => ⟨s11, rfl, ?_⟩
    rw [(end_out hok.rl hek.nd x).1] at ho11
    have hP11 := hP10.ext0 e11
    refine Ints_s (xs := outE E x) (ys := outE E x) (ho10.ext0 e11).sl.reads ho11.sl.reads (by have := (hbn x).2; omega) ⟨_, rfl, ?_⟩
    rw [decide_eq_true rfl, if_neg (by decide)]
    refine Ahead_s hP11.ev hek (by omega) x fun g12 s12 e12 ho12 => ⟨s12, rfl, ?_⟩
    have hP12 := hP11.ext0 e12
    refine AheadR_s hP12.qa hP12.ra x (by omega) fun g13 s13 e13 ho13 => ⟨s13, rfl, ?_⟩
    rw [ahead_eq hok.rl hek.nd x] at ho13
    have hP13 := hP12.ext0 e13
    have hal : (aheadE L E x).length ≤ 2 ^ 40 := by
     unfold aheadE
     refine Nat.le_trans (List.length_filter_le _ _) ?_
     have := (hbn x).1
     omega
    refine Ints_s (xs := aheadE L E x) (ys := aheadE L E x) (ho12.ext0 e13).sl.reads ho13.sl.reads hal ⟨_, rfl, ?_⟩
    rw [decide_eq_true rfl, if_neg (by decide)]
    refine Old14_s hP13.ev x ⟨_, rfl, ?_⟩
    refine OldR_s hP13.qa x (by omega) ⟨_, rfl, ?_⟩
    have ho : (afind M.old x).getD 0 = oldE E x := hok.rl.old x
    rw [ho]
    have hne : (oldE E x != oldE E x) = false := by simp
    rw [hne]
    exact fin g13 (((((e8.trans0 e9).trans0 e10).trans0 e11).trans0 e12).trans0 e13)
  have := key (L.l.length + 2) 0 g2 (by omega) (Ext.refl _ _)
  simpa using this
 ·intro i g2 hi e2 hnext
  have hP2 := hP1.ext0 e2
  refine hX _ _ ?_
  rw [if_pos (by simp; omega)]
  obtain ⟨a1, ha1, _, _, r0, r1⟩ := rdPr (ho3.ext0 e2) hi
  rw [ha1]
  simp only [nilW_some, Int.toNat_natCast]
  refine ⟨by omega, by omega, _, r0, _, r1, sl, hP2.qa.rd.2.1, ?_⟩
  obtain ⟨a2, ha2, _, _, q0, q1⟩ := rdPr hP2.qa.l hi
  rw [ha2]
  simp only [nilW_some, Int.toNat_natCast]
  refine ⟨by omega, by omega, _, q0, _, q1, ?_⟩
  rw [eqSelf, eqSelf, if_neg (by decide), wrap64 (by omega) (by omega)]
  exact hnext g2 e2
end
section
variable {h : Hp} {cb rb : Nat} {L : LM} {s08 : Sl} {Q : List Value → Hp → Prop}
theorem Same08_s (hC : ClAt h cb L) (hR : RAt 0 h rb L s08) (hQ : ∀ h', Ext [] h h' → Q [.bool true] h') : S_liverylaw08_Same (some ⟨cb, 0, none⟩) (some ⟨rb, 0, none⟩) h Q := by
 refine O_liverylaw08_Same _ _ ?_
 unfold F_liverylaw08_Same
 have hln := hR.len
 have hns := hR.own.1
 intro X hX
 have key : ∀ d (i : Nat) g, d + i = L.l.length + 3 → Ext [] h g → X [.int .i64 ((i : Int) - 1)] g := by
  intro d
  induction d with
  | zero =>
   intro i g hi eg
   have hCg := hC.ext0 eg
   have hRg := hR.ext0 eg
   refine hX _ _ ?_
   rw [nilW_some]
   refine ⟨s08, by rw [addr_mk, rd_blk hRg.blk]; rfl, ?_⟩
   rw [wrap64 (x := (s08.n : Int) + 1) (by omega) (by omega), if_neg (by simp; omega)]
   refine Running_s hCg fun g1 l1 e1 o1 => ⟨l1, rfl, ?_⟩
   refine RunningR_s (hRg.ext0 e1) fun g2 l2 e2 o2 => ⟨l2, rfl, ?_⟩
   have hrl := running_len L
   refine Ints_s (o1.ext0 e2).sl.reads o2.sl.reads (by omega) ⟨_, rfl, ?_⟩
   rw [if_pos (by simp)]
   have e12 := e1.trans0 e2
   refine Horizon_s (hCg.ext0 e12) fun g3 e3 => ⟨_, rfl, ?_⟩
   have e13 := e12.trans0 e3
   refine HorizonR_s (hRg.ext0 e13) ⟨_, rfl, ?_⟩
   rw [if_pos (by simp), nilW_some]
   have r1 : rd g3 (Addr.add ⟨rb, 0, none⟩ 1) = some (.int .i64 L.clock) := by rw [addr_mk, rd_blk (hRg.ext0 e13).blk]; rfl
   refine ⟨_, r1, ?_⟩
   refine Clock_s (hCg.ext0 e13) ⟨_, rfl, r1, ?_⟩
   have : (L.clock == L.clock) = true := by simp
   rw [this]
   exact hQ g3 (eg.trans0 e13)
  | succ d ih =>
   intro i g hi eg
   have hCg := hC.ext0 eg
   have hRg := hR.ext0 eg
   refine hX _ _ ?_
   rw [nilW_some]
   refine ⟨s08, by rw [addr_mk, rd_blk hRg.blk]; rfl, ?_⟩
   rw [wrap64 (x := (s08.n : Int) + 1) (by omega) (by omega), if_pos (by simp; omega)]
   obtain ⟨x, hx⟩ : ∃ x : Int, x = (i : Int) - 1 := ⟨_, rfl⟩
   rw [← hx]
   refine Get_s hRg x fun g1 e1 => ⟨_, _, _, _, rfl, ?_⟩
   refine newI fun g2 z2 b2 e2 => ?_
   refine st_blk b2 (by simp) fun g3 z3 b3' e3 => ?_
   have b3 : Blk g3 g1.size (encR (txL L x)).toArray T_liveryref08_Tx := b3'
   have e13 : Ext [] g g3 := (e1.trans0 e2).trans e3 fun b hb hlt => by simp at hb; have := e1.sz; omega
   obtain ⟨r0, r1, r2, r3⟩ := rdX b3
   intro J hJ
   refine ⟨_, r0, ?_⟩
   refine State_s (hCg.ext0 e13) x fun g4 e4 => ⟨_, rfl, (rdX (e4.get b3 (by simp))).1, ?_⟩
   rw [if_neg (by simp)]
   have b4 := e4.get b3 (by simp)
   refine ⟨_, (rdX b4).2.2.1, ?_⟩
   refine Csn_s (hCg.ext0 (e13.trans0 e4)) x fun g5 e5 => ⟨_, rfl, (rdX (e5.get b4 (by simp))).2.2.1, ?_⟩
   rw [if_neg (by simp)]
   have b5 := e5.get b4 (by simp)
   refine ⟨_, (rdX b5).2.1, ?_⟩
   refine Snapshot_s (hCg.ext0 ((e13.trans0 e4).trans0 e5)) x fun g6 e6 => ⟨_, rfl, (rdX (e6.get b5 (by simp))).2.1, ?_⟩
   rw [if_neg (by simp)]
   have b6 := e6.get b5 (by simp)
   refine ⟨_, (rdX b6).2.2.2, ?_⟩
   refine Reads_s (hCg.ext0 (((e13.trans0 e4).trans0 e5).trans0 e6)) x fun g7 e7 => ⟨_, rfl, (rdX (e7.get b6 (by simp))).2.2.2, ?_⟩
   refine hJ _ _ ?_
   rw [if_neg (by simp), hx, wrap64 (by omega) (by omega)]
   have := ih (i + 1) g7 (by omega) (eg.trans0 ((((e13.trans0 e4).trans0 e5).trans0 e6).trans0 e7))
   rw [show ((i + 1 : Nat) : Int) - 1 = (i : Int) - 1 + 1 by omega] at this
   exact this
 have := key (L.l.length + 3) 0 h (by omega) (Ext.refl _ _)
 simpa using this
theorem OwnT_s (x : ThingM) (hQ : ∀ h', Ext [] h h' → Q [ekT x] h') : S_liverylaw13_Own x.kind x.name x.rel x.index x.n h Q := by
 refine O_liverylaw13_Own _ _ _ _ _ ?_
 unfold F_liverylaw13_Own
 refine newI fun h1 s1 b1' e1 => newI fun h2 s2 b2 e2 => ?_
 have b1 : Blk h2 h.size (encT x).toArray T_siread_Thing := e2.get b1' (by simp)
 refine ⟨_, thgR b1 0, _, thgR b1 1, _, thgR b1 2, _, thgR b1 3, _, thgR b1 4, ?_⟩
 refine st_blk b2 (by simp) fun h3 s3 b3 e3 => ?_
 have b3' : Blk h3 h1.size (encT x).toArray T_liveryref13_Thing := by simpa [putAt, encT] using b3
 refine rd5I b3' ?_
 exact hQ h3 ((e1.trans0 e2).trans e3 fun b hb hlt => by simp at hb; omega)
theorem Same13_s {G : Nat → Prop} {t tb N : Nat} {S : SM} {T : QT} {sT : Sl} (hS : Sv G h t S) (hT : TAt 0 h tb T sT) (ok : SOk N S) (hN : N ≤ 2 ^ 20) (hs : SimT S T) (hl : T.l.length ≤ 2 ^ 20) (hQ : ∀ h', Ext [] h h' → Q [.bool true] h') : S_liverylaw13_Same (some ⟨t, 0, none⟩) (some ⟨tb, 0, none⟩) h Q := by
 refine O_liverylaw13_Same _ _ ?_
 unfold F_liverylaw13_Same
 intro X hX
 have key : ∀ d (i : Nat) g, d + i = 10 → Ext [] h g → X [.int .i64 (i : Int)] g := by
  intro d
  induction d with
  | zero =>
   intro i g hi eg
   have hSg := hS.ext0 eg
   have hTg := hT.ext0 eg
   refine hX _ _ ?_
   rw [if_neg (by simp; omega)]
   refine Fine_s hSg ⟨_, rfl, ?_⟩
   refine FineR_s hTg (by omega) fun g1 e1 => ⟨_, rfl, ?_⟩
   rw [hs.fine ok, if_pos (by simp), nilW_some]
   have hTg1 := hTg.ext0 e1
   refine ⟨_, hTg1.rd.2.2.2, ?_⟩
   refine Old_s (hSg.ext0 e1) ⟨_, rfl, hTg1.rd.2.2.2, ?_⟩
   rw [hs.cs]
   have : (S.csn == S.csn) = true := by simp
   rw [this]
   exact hQ g1 (eg.trans0 e1)
  | succ d ih =>
   intro i g hi eg
   have hSg := hS.ext0 eg
   have hTg := hT.ext0 eg
   refine hX _ _ ?_
   rw [if_pos (by simp; omega)]
   refine OfV_s hSg ok hN fun g1 l1 e1 o1 => ⟨l1, rfl, ?_⟩
   refine OfT_s (hTg.ext0 e1) (i : Int) (by omega) fun g2 l2 e2 o2 ho2 => ⟨l2, rfl, ?_⟩
   have heq := hs.of ok (i : Int)
   rw [heq] at o2 ho2
   have hn1 := o1.1
   have hn2 := o2.1
   rw [if_neg (by rw [hn1, hn2]; simp)]
   have o1' := o1.ext0 e2
   have e12 := e1.trans0 e2
   intro Y hY
   have key2 : ∀ d2 k g3, d2 + k = (ofS S (i : Int)).length → Ext [] g2 g3 → Y [.int .i64 (k : Int)] g3 := by
    intro d2
    induction d2 with
    | zero =>
     intro k g3 hk e3
     refine hY _ _ ?_
     rw [if_neg (by simp; omega), wrap64 (by omega) (by omega)]
     exact ih (i + 1) g3 (by omega) (eg.trans0 (e12.trans0 e3))
    | succ d2 ih2 =>
     intro k g3 hk e3
     have hkl : k < (ofS S (i : Int)).length := by omega
     refine hY _ _ ?_
     rw [if_pos (by simp; omega)]
     obtain ⟨a1, ha1, r1⟩ := rdT (o1'.ext0 e3).sl.reads hkl
     have o2' := o2.ext0 e3
     rw [ha1]
     simp only [nilW_some, Int.toNat_natCast]
     refine ⟨by omega, by omega, ?_⟩
     refine r1 _ ?_
     have hrr : ∀ {g' : Hp}, Ext [] g3 g' → ∃ a, l2.a = some a ∧ ∀ j, j < 5 → rd g' (Addr.add (Addr.add a (k * 5)) j) = (encT (ofS S (i : Int))[k])[j]? := fun e' => by
      obtain ⟨a, h1, h2⟩ := (o2'.ext0 e').sl.reads.rd encT_len hkl
      exact ⟨a, h1, fun j hj => by rw [addr_add_add]; exact h2 j hj⟩
     obtain ⟨a2, ha2, r2⟩ := hrr (Ext.refl _ _)
     rw [ha2, nilW_some]
     obtain ⟨x, hx⟩ : ∃ x, x = (ofS S (i : Int))[k] := ⟨_, rfl⟩
     rw [← hx] at r2 ⊢
     refine ⟨by omega, by omega, _, r2 0 (by decide), _, r2 1 (by decide), _, r2 2 (by decide), _, r2 3 (by decide), _, r2 4 (by decide), ?_⟩
     refine OwnT_s x fun g4 e4 => ⟨_, _, _, _, _, rfl, ?_⟩
     obtain ⟨a3, ha3, r3⟩ := hrr e4
     rw [ha2] at ha3
     cases ha3
     rw [← hx] at r3
     refine ⟨r3 0 (by decide), r3 1 (by decide), r3 2 (by decide), r3 3 (by decide), r3 4 (by decide), ?_⟩
     rw [beqT x x, decide_eq_true rfl, if_neg (by decide), wrap64 (by omega) (by omega)]
     exact ih2 (k + 1) g4 (by omega) (e3.trans0 e4)
   have := key2 (ofS S (i : Int)).length 0 g2 (by omega) (Ext.refl _ _)
   simpa using this
 have := key 10 0 h (by omega) (Ext.refl _ _)
 simpa using this
end
end Go.Lift.E14
namespace Go.Lift.E14
open Go Go.Proofs Go.RowKit
set_option maxRecDepth 100000
def PlZ (G : Nat → Prop) (h : Hp) (s cb t e q rb tb eb : Nat) (M : SsiM) (R : RsM) : Prop :=
 ∃ w : Nat → Nat, (∀ b, G b → w b = 0 ∧ b < h.size) ∧ Ss (fun b => b < h.size ∧ w b ≠ 1) h s cb t e M ∧ Rz (fun b => b < h.size ∧ w b ≠ 2) h q rb tb eb R
section
variable {G G' : Nat → Prop} {h h' : Hp} {s cb t e q rb tb eb : Nat} {M : SsiM} {R : RsM} {Q : List Value → Hp → Prop}
/-- The program's part is asked, or changes. -/
theorem PlZ.p (hP : PlZ G h s cb t e q rb tb eb M R) : ∃ P : Nat → Prop, Ss P h s cb t e M ∧ (∀ b, G b → P b) ∧ ∀ {h' : Hp} {M' : SsiM}, Ss P h' s cb t e M' → KG P h h' → PlZ G h' s cb t e q rb tb eb M' R ∧ KG G h h' := by
 obtain ⟨w, h1, h2, h3⟩ := hP
 have hGP : ∀ b, G b → b < h.size ∧ w b ≠ 1 := fun b hb => ⟨(h1 b hb).2, by have := (h1 b hb).1; omega⟩
 refine ⟨_, h2, hGP, fun {h' M'} hS k => ⟨⟨wx w h 1, fun b hb => ⟨by rw [wx_lt (h1 b hb).2]; exact (h1 b hb).1, by have := (h1 b hb).2; have := k.sz; omega⟩, hS.less fun b hb => ?_, ?_⟩, k.anti hGP⟩⟩
 ·obtain ⟨g1, g2⟩ := hb
  rcases Nat.lt_or_ge b h.size with g | g
  ·rw [wx_lt g] at g2
   exact ⟨g, g2⟩
  ·rw [wx_ge g] at g2
   exact absurd rfl g2
 ·refine h3.kx k.sz (fun b hb hn => k.old b ⟨hb, fun q => hn ⟨hb, by omega⟩⟩) fun b hb => ⟨?_, hb.1⟩
  rcases Nat.lt_or_ge b h.size with g | g
  ·have := hb.2
   rw [wx_lt g] at this
   exact Or.inl ⟨g, this⟩
  ·exact Or.inr g
/-- The reference is asked, or changes. -/
theorem PlZ.r (hP : PlZ G h s cb t e q rb tb eb M R) : ∃ P : Nat → Prop, Rz P h q rb tb eb R ∧ (∀ b, G b → P b) ∧ ∀ {h' : Hp} {R' : RsM}, Rz P h' q rb tb eb R' → KG P h h' → PlZ G h' s cb t e q rb tb eb M R' ∧ KG G h h' := by
 obtain ⟨w, h1, h2, h3⟩ := hP
 have hGP : ∀ b, G b → b < h.size ∧ w b ≠ 2 := fun b hb => ⟨(h1 b hb).2, by have := (h1 b hb).1; omega⟩
 refine ⟨_, h3, hGP, fun {h' R'} hS k => ⟨⟨wx w h 2, fun b hb => ⟨by rw [wx_lt (h1 b hb).2]; exact (h1 b hb).1, by have := (h1 b hb).2; have := k.sz; omega⟩, ?_, hS.less fun b hb => ?_⟩, k.anti hGP⟩⟩
 ·refine h2.kx k.sz (fun b hb hn => k.old b ⟨hb, fun q => hn ⟨hb, by omega⟩⟩) fun b hb => ⟨?_, hb.1⟩
  rcases Nat.lt_or_ge b h.size with g | g
  ·have := hb.2
   rw [wx_lt g] at this
   exact Or.inl ⟨g, this⟩
  ·exact Or.inr g
 ·obtain ⟨g1, g2⟩ := hb
  rcases Nat.lt_or_ge b h.size with g | g
  ·rw [wx_lt g] at g2
   exact ⟨g, g2⟩
  ·rw [wx_ge g] at g2
   exact absurd rfl g2
theorem PlZ.lt (hP : PlZ G h s cb t e q rb tb eb M R) {b : Nat} (hb : G b) : b < h.size := by
 obtain ⟨w, h1, _⟩ := hP
 exact (h1 b hb).2
theorem PlZ.grow (hP : PlZ G h s cb t e q rb tb eb M R) (he : Ext [] h h') (hG : ∀ b, G' b → (G b ∨ h.size ≤ b) ∧ b < h'.size) : PlZ G' h' s cb t e q rb tb eb M R := by
 obtain ⟨w, h1, h2, h3⟩ := hP
 have hz := he.sz
 refine ⟨wx w h 0, fun b hb => ⟨?_, (hG b hb).2⟩, h2.grow he fun b hb => ⟨?_, hb.1⟩, h3.grow he fun b hb => ⟨?_, hb.1⟩⟩
 ·rcases (hG b hb).1 with g | g
  ·rw [wx_lt (h1 b g).2]; exact (h1 b g).1
  ·exact wx_ge g
 ·rcases Nat.lt_or_ge b h.size with g | g
  ·have := hb.2
   rw [wx_lt g] at this
   exact Or.inl ⟨g, this⟩
  ·exact Or.inr g
 ·rcases Nat.lt_or_ge b h.size with g | g
  ·have := hb.2
   rw [wx_lt g] at this
   exact Or.inl ⟨g, this⟩
  ·exact Or.inr g
theorem PlZ.e0 (hP : PlZ G h s cb t e q rb tb eb M R) (he : Ext [] h h') : PlZ G h' s cb t e q rb tb eb M R := hP.grow he fun b hb => ⟨Or.inl hb, Nat.lt_of_lt_of_le (hP.lt hb) he.sz⟩
theorem PlZ.less (hP : PlZ G h s cb t e q rb tb eb M R) (hG : ∀ b, G' b → G b) : PlZ G' h s cb t e q rb tb eb M R := hP.grow (Ext.refl _ _) fun b hb => ⟨Or.inl (hG b hb), hP.lt (hG b hb)⟩
theorem PlZ.kgE (he : Ext [] h h') (hP : PlZ G h s cb t e q rb tb eb M R) : KG G h h' := kg_ext0 he fun b hb => hP.lt hb
theorem Same15_s {k : Nat} (hP : PlZ G h s cb t e q rb tb eb M R) (hi : PI k M R) (hk : k ≤ 130) (hQ : ∀ h', Ext [] h h' → Q [.bool true] h') : S_liverylaw15_Same (some ⟨s, 0, none⟩) (some ⟨q, 0, none⟩) h Q := by
 refine O_liverylaw15_Same _ _ ?_
 unfold F_liverylaw15_Same
 have hnn := hi.mo.nn
 have hrb := hi.rb
 have hrt := hrb.t
 have hrm := hrb.m
 have hro := hrb.o
 have hll := hrb.l
 intro X hX
 have key : ∀ d (i : Nat) g, d + i = R.L.l.length + 2 → Ext [] h g → X [.int .i64 (i : Int)] g := by
  intro d
  induction d with
  | zero =>
   intro i g hi' eg
   have hPg := hP.e0 eg
   obtain ⟨Pr, hRg, _, _⟩ := hPg.r
   obtain ⟨s08, hra, _⟩ := hRg.onL
   have hns := hra.own.1
   refine hX _ _ ?_
   rw [nilW_some]
   refine ⟨_, hRg.fld.1, ?_⟩
   rw [nilW_some]
   refine ⟨s08, by rw [addr_mk, rd_blk hra.blk]; rfl, ?_⟩
   rw [wrap64 (x := (s08.n : Int) + 1) (by omega) (by omega), if_neg (by simp; omega), nilW_some]
   refine ⟨_, hRg.fld.1, ?_⟩
   obtain ⟨Ps, hSg, _, _⟩ := hPg.p
   refine Log_z hSg ⟨_, rfl, hRg.fld.1, ?_⟩
   rw [hi.sim.l] at hra
   refine Same08_s hSg.cl hra fun g1 e1 => ⟨_, rfl, ?_⟩
   rw [if_pos rfl, nilW_some]
   have hP1 := hPg.e0 e1
   obtain ⟨Pr1, hR1, _, _⟩ := hP1.r
   obtain ⟨Ps1, hS1, _, _⟩ := hP1.p
   refine ⟨_, hR1.fld.2.1, ?_⟩
   refine Table_z hS1 ⟨_, rfl, hR1.fld.2.1, ?_⟩
   obtain ⟨sT, hta, _⟩ := hR1.onT
   obtain ⟨PV, hV, _, _, _⟩ := hS1.onS
   refine Same13_s hV hta hi.mo.s (by omega) hi.sim.t (by omega) fun g2 e2 => ⟨_, rfl, ?_⟩
   rw [if_pos rfl, nilW_some]
   have hP2 := hP1.e0 e2
   obtain ⟨Pr2, hR2, _, _⟩ := hP2.r
   obtain ⟨Ps2, hS2, _, _⟩ := hP2.p
   refine ⟨_, hR2.fld.2.2.1, ?_⟩
   refine Edges_z hS2 ⟨_, rfl, hR2.fld.2.2.1, ?_⟩
   obtain ⟨PE, hE, _, _, _⟩ := hS2.onE
   obtain ⟨sl, so, hqa, _⟩ := hR2.onQ
   obtain ⟨s8, hra2, _⟩ := hR2.onL
   rw [hi.sim.l] at hra2
   have hok : POk (202 * k) M.L M.E R.E := ⟨hi.i.lk.up (by omega), hi.mo.e, hi.i.bi, hi.sim.e, hro⟩
   refine Same14_s ⟨hE, hqa, hra2⟩ hok (by omega) fun g3 e3 => ⟨_, rfl, ?_⟩
   exact hQ g3 (((eg.trans0 e1).trans0 e2).trans0 e3)
  | succ d ih =>
   intro i g hi' eg
   have hPg := hP.e0 eg
   obtain ⟨Pr, hRg, _, _⟩ := hPg.r
   obtain ⟨Ps, hSg, _, _⟩ := hPg.p
   obtain ⟨s08, hra, _⟩ := hRg.onL
   have hns := hra.own.1
   refine hX _ _ ?_
   rw [nilW_some]
   refine ⟨_, hRg.fld.1, ?_⟩
   rw [nilW_some]
   refine ⟨s08, by rw [addr_mk, rd_blk hra.blk]; rfl, ?_⟩
   rw [wrap64 (x := (s08.n : Int) + 1) (by omega) (by omega), if_pos (by simp; omega)]
   intro J hJ
   refine Doomed_z hSg _ ⟨_, rfl, ?_⟩
   refine IsDoomed_q hRg hrb _ ⟨_, rfl, ?_⟩
   have hd : decide ((i : Int) ∈ R.doomed) = decide (cnt M.doomed (i : Int) > 0) := decide_eq_decide.2 (hi.sim.d _)
   rw [hd, if_neg (by simp)]
   refine Safe_z hSg _ ⟨_, rfl, ?_⟩
   refine Safe_q hRg hrb (by omega) _ ⟨_, rfl, ?_⟩
   have hf : decide ((i : Int) ∈ R.safe) = decide (cnt M.safe (i : Int) > 0) := decide_eq_decide.2 (hi.sim.f _)
   rw [hf, if_neg (by simp), nilW_some]
   refine ⟨_, hRg.fld.2.1, ?_⟩
   refine Table_z hSg ⟨_, rfl, hRg.fld.2.1, ?_⟩
   obtain ⟨PV, hV, _, _, _⟩ := hSg.onS
   refine OfV_s hV hi.mo.s (by omega) fun g1 l1 e1 o1 => ⟨l1, rfl, ?_⟩
   have hR1 := hRg.e0 e1
   refine ⟨hR1.fld.2.1, ?_⟩
   obtain ⟨sT, hta, _⟩ := hR1.onT
   refine OfT_s hta _ (by omega) fun g2 l2 e2 o2 ho2 => ⟨l2, rfl, ?_⟩
   have heq := hi.sim.t.of hi.mo.s (i : Int)
   rw [heq] at o2
   have hn1 := o1.1
   have hn2 := o2.1
   refine hJ _ _ ?_
   rw [if_neg (by rw [hn1, hn2]; simp), wrap64 (by omega) (by omega)]
   exact ih (i + 1) g2 (by omega) (eg.trans0 (e1.trans0 e2))
 have := key (R.L.l.length + 2) 0 h (by omega) (Ext.refl _ _)
 simpa using this
/-- The program's New, where it is asked for too little, or too much. -/
theorem NewBad_z {each all keep : Int} (hbad : keep < 0 ∨ keep > 1000 ∨ badA each all) (hQ : Q [.pointer none, .int .i64 1] h) : S_ssi_New (some ⟨cb, 0, none⟩) each all keep h Q := by
 refine O_ssi_New _ _ _ _ ?_
 unfold F_ssi_New
 intro J hJ
 have bad : J [.bool true] h := by
  refine hJ _ _ ?_
  rw [if_pos rfl]
  exact hQ
 rw [if_neg (by simp)]
 by_cases c1 : keep < 0
 ·rw [if_pos (by simpa using c1)]; exact bad
 rw [if_neg (by simpa using c1)]
 by_cases c2 : keep > 1000
 ·rw [decide_eq_true c2]; exact bad
 rw [decide_eq_false c2]
 refine hJ _ _ ?_
 rw [if_neg (by decide)]
 have hb : badA each all := by
  rcases hbad with q | q | q
  ·exact absurd q c1
  ·exact absurd q c2
  ·exact q
 unfold badA at hb
 refine O_siread_New _ _ ?_
 unfold F_siread_New
 intro J2 hJ2
 have bad2 : J2 [.bool true] h := by
  refine hJ2 _ _ ?_
  rw [if_pos rfl]
  refine ⟨_, _, rfl, ?_⟩
  rw [if_pos (by decide)]
  exact hQ
 by_cases d1 : each < 1
 ·rw [if_pos (by simpa using d1)]; exact bad2
 rw [if_neg (by simpa using d1)]
 by_cases d2 : each > 10000
 ·rw [if_pos (by simpa using d2)]; exact bad2
 rw [if_neg (by simpa using d2)]
 by_cases d3 : all < 1
 ·rw [if_pos (by simpa using d3)]; exact bad2
 rw [if_neg (by simpa using d3)]
 have d4 : all > 10000 := by omega
 rw [decide_eq_true d4]
 exact bad2
theorem rdI3 {b : Nat} {n0 n1 n2 n : Int} {T : TypeId} {K : Int → Prop} (i : Nat) (hb : Blk h b #[.int .i64 n0, .int .i64 n1, .int .i64 n2] T) (hi : i < 3) (hn : (#[.int .i64 n0, .int .i64 n1, .int .i64 n2] : Array Value)[i]? = some (.int .i64 n)) (H : K n) :
  ixOk (i : Int) 3 (∃ n : Int, rd h (Addr.add (Addr.mk b 0 none) (Int.toNat (i : Int) * 1)) = some (.int .i64 n) ∧ K n) := by
 have r : rd h (Addr.add (Addr.mk b 0 none) (Int.toNat (i : Int) * 1)) = (#[.int .i64 n0, .int .i64 n1, .int .i64 n2] : Array Value)[i]? := by rw [Int.toNat_natCast, addr_mk, rd_blk hb, Nat.zero_add, Nat.mul_one]
 exact ⟨by omega, by omega, _, r.trans hn, H⟩
end
end Go.Lift.E14
namespace Go.Lift.E14
open Go Go.Proofs Go.RowKit
set_option maxRecDepth 100000
section
variable {h : Hp} {Q : List Value → Hp → Prop}
theorem SsiPlays_s {a : Sl} {xs : List StepZ} {n0 n1 n2 : Int} (ha : Reads 9 encZ h a xs) (hlen : xs.length ≤ 9223372036854775807) (hQ : ∀ h', Ext [] h h' → Q [.bool true] h') : F_liverylaw15_SsiPlays n0 n1 n2 a h Q := by
 unfold F_liverylaw15_SsiPlays
 have han := ha.1
 refine newI fun h1 s1 b1' e1 => ?_
 have b1 : Blk h1 h.size #[.int .i64 n0, .int .i64 n1, .int .i64 n2] T_3_int := b1'
 refine Fair_z (ha.ext0 e1) hlen ⟨_, rfl, ?_⟩
 cases hf : fairZ xs with
 | false =>
  rw [if_pos (by rfl)]
  exact wakes_z fun h' e' => ⟨_, rfl, hQ h' (e1.trans0 e')⟩
 | true =>
 have hl120 := fairZ_len hf
 rw [if_neg (by decide)]
 refine New08_s fun h9 cb hC e9 hcb => ⟨_, rfl, ?_⟩
 refine newI fun h11 s11 b11 e11 => ?_
 have e19 := e9.trans0 e11
 have e09 := e1.trans0 e19
 have hra : RAt 0 h11 h9.size ⟨[], 0⟩ ⟨none, 0, 0⟩ := ⟨b11, Own.nil _ _, by decide, by decide⟩
 have hC11 := hC.ext0 e11
 have hcl9 := hC.lt
 have b11' := e19.get b1 (by simp)
 refine rdI3 0 b11' (by decide) rfl ?_
 refine rdI3 1 b11' (by decide) rfl ?_
 refine rdI3 2 b11' (by decide) rfl ?_
 by_cases hbad : n2 < 0 ∨ n2 > 1000 ∨ badA n0 n1
 ·refine NewBad_z hbad ⟨_, _, rfl, ?_⟩
  refine rdI3 0 b11' (by decide) rfl ?_
  refine rdI3 1 b11' (by decide) rfl ?_
  refine rdI3 2 b11' (by decide) rfl ?_
  refine New15_s (G := fun _ => False) n0 n1 n2 hra (fun b hb => hb.elim) (fun _ => ⟨_, _, rfl, ?_⟩) fun hn => absurd hbad hn
  intro J26 hJ26
  rw [if_neg (by simp), if_neg (by decide)]
  refine hJ26 _ _ ?_
  rw [if_neg (by decide)]
  intro X hX
  refine hX _ _ ?_
  intro J32 hJ32
  have fin : J32 [.bool false] h11 := by
   refine hJ32 _ _ ?_
   rw [if_neg (by decide)]
   exact wakes_z fun h' e' => ⟨_, rfl, hQ h' (e09.trans0 e')⟩
  split
  ·exact fin
  ·exact fin
 have hgood : (1 ≤ n0 ∧ n0 ≤ 10000) ∧ (1 ≤ n1 ∧ n1 ≤ 10000) ∧ (0 ≤ n2 ∧ n2 ≤ 1000) := by unfold badA at hbad; omega
 obtain ⟨g0, g1, g2⟩ := hgood
 refine New_z (G := fun b => b < h11.size ∧ b ≠ cb) g0 g1 g2 hC11 (fun b hb => hb) fun h16 s t e hS e16 => ⟨_, _, rfl, ?_⟩
 have b16 := e16.get b11' (by simp)
 refine rdI3 0 b16 (by decide) rfl ?_
 refine rdI3 1 b16 (by decide) rfl ?_
 refine rdI3 2 b16 (by decide) rfl ?_
 refine New15_s (G := fun b => b < h16.size ∧ b ≠ h9.size) n0 n1 n2 (hra.ext0 e16) (fun b hb => hb) (fun hb => absurd hb hbad) fun _ h23 q tb eb hR e23 => ⟨_, _, rfl, ?_⟩
 have e023 := (e09.trans0 e16).trans0 e23
 have hz16 := e16.sz
 have hz23 := e23.sz
 have hz1 := e1.sz
 have hz9 := e9.sz
 have hP0 : PlZ (fun b => b < h.size) h23 s cb t e q h9.size tb eb (newM n0 n1 n2) (newR n0 n1 n2) := by
  obtain ⟨w, hw⟩ : ∃ w : Nat → Nat, w = fun b => if b = h9.size ∨ h16.size ≤ b then 2 else if b < h11.size ∧ b ≠ cb then 0 else 1 := ⟨_, rfl⟩
  have w2 : ∀ b, w b = 2 ↔ b = h9.size ∨ h16.size ≤ b := fun b => by
   rw [hw]; simp only
   split
   ·rename_i hh; simp [hh]
   ·rename_i hh
    split <;> simp [hh]
  have w1 : ∀ b, w b ≠ 1 → b = h9.size ∨ h16.size ≤ b ∨ (b < h11.size ∧ b ≠ cb) := fun b hb => by
   rw [hw] at hb; simp only at hb
   split at hb
   ·rename_i hh; rcases hh with q | q
    ·exact Or.inl q
    ·exact Or.inr (Or.inl q)
   ·split at hb
    ·rename_i hh; exact Or.inr (Or.inr hh)
    ·exact absurd rfl hb
  refine ⟨w, fun b hb => ⟨?_, by omega⟩, ?_, ?_⟩
  ·rw [hw]; simp only
   rw [if_neg (by omega), if_pos ⟨by omega, by omega⟩]
  ·refine hS.grow e23 fun b hb => ⟨?_, hb.1⟩
   rcases w1 b hb.2 with q | q | q
   ·exact Or.inl ⟨by omega, by omega⟩
   ·exact Or.inr q
   ·exact Or.inl q
  ·refine hR.less fun b hb => ?_
   have := fun q => hb.2 ((w2 b).2 q)
   refine ⟨?_, fun q => this (Or.inl q)⟩
   exact Nat.lt_of_not_le fun q => this (Or.inr q)
 have hi0 := PI.new g0 g1 g2
 intro J26 hJ26
 rw [if_neg (by simp), if_neg (by decide)]
 refine hJ26 _ _ ?_
 rw [if_neg (by simp)]
 intro X hX
 have key : ∀ d i g M R, d + i = xs.length → PlZ (fun b => b < h.size) g s cb t e q h9.size tb eb M R → PI i M R → KG (fun b => b < h.size) h g → X [.int .i64 (i : Int)] g := by
  intro d
  induction d with
  | zero =>
   intro i g M R hi hP hpi kg
   refine hX _ _ ?_
   intro J32 hJ32
   rw [if_neg (by simp; omega)]
   refine hJ32 _ _ ?_
   rw [if_neg (by decide)]
   exact wakes_z fun h' e' => ⟨_, rfl, hQ h' ((kgx kg).trans0 e')⟩
  | succ d ih =>
   intro i g M R hi hP hpi kg
   have hil : i < xs.length := by omega
   refine hX _ _ ?_
   intro J32 hJ32
   rw [if_pos (by simp; omega)]
   refine hJ32 _ _ ?_
   rw [if_pos (by rfl)]
   refine atZ (ha.ext0 (kgx kg)) hil ?_
   refine keepZ (st := xs[i]) fun g1 d1 bs => ?_
   have hlt := blk_lt bs
   have hP1 : PlZ (fun b => b < h.size ∨ b = g.size) g1 s cb t e q h9.size tb eb M R := hP.grow d1 fun b hb => by
    rcases hb with k | k
    ·exact ⟨Or.inl k, by have := hP.lt k; omega⟩
    ·exact ⟨Or.inr (by omega), by omega⟩
   have kg1 : KG (fun b => b < h.size) h g1 := kg.trans (PlZ.kgE d1 hP)
   have hbs : ∀ {g' : Hp}, KG (fun b => b < h.size ∨ b = g.size) g1 g' → Blk g' g.size (encZ xs[i]).toArray T_liverylaw15_Step := fun k => blk_kg bs (k.old _ (Or.inr rfl))
   have hk1000 : i < 1000 := by omega
   have hnn := hpi.mo.nn
   have hl200 := hpi.rb.l
   refine ⟨_, rdZb bs 0, ?_⟩
   intro J48 hJ48
   have nx : ∀ g2 M2 R2, PlZ (fun b => b < h.size ∨ b = g.size) g2 s cb t e q h9.size tb eb M2 R2 → PI (i + 1) M2 R2 → KG (fun b => b < h.size ∨ b = g.size) g1 g2 → J48 [] g2 := by
    intro g2 M2 R2 hP2 hpi2 k2
    refine hJ48 _ ?_
    refine Same15_s hP2 hpi2 (by omega) fun g3 e3 => ⟨_, rfl, ?_⟩
    rw [if_neg (by decide), wrap64 (by omega) (by omega)]
    exact ih (i + 1) g3 M2 R2 (by omega) ((hP2.e0 e3).less fun b hb => Or.inl hb) hpi2 ((kg1.trans (k2.anti fun b hb => Or.inl hb)).trans ((PlZ.kgE e3 hP2).anti fun b hb => Or.inl hb))
   obtain ⟨Ps, hS1, hGs, putS⟩ := hP1.p
   by_cases k0 : xs[i].kind = 0
   ·rw [if_pos (by simp [k0])]
    refine ⟨_, rdZb bs 3, ?_⟩
    refine Begin_z hS1 hpi.mo _ fun g2 hS2 kk => ⟨_, _, rfl, ?_⟩
    obtain ⟨hP2, kg2⟩ := putS hS2 kk
    obtain ⟨Pr, hR2, hGr, putR⟩ := hP2.r
    refine ⟨_, rdZb (hbs kg2) 3, ?_⟩
    refine Begin_q hR2 hpi.rb (by omega) _ fun g3 hR3 k3 => ⟨_, _, rfl, ?_⟩
    obtain ⟨hP3, kg3⟩ := putR hR3 k3
    intro J63 hJ63
    rw [hpi.sim.l, if_neg (by simp)]
    refine hJ63 _ _ ?_
    rw [if_neg (by simp)]
    exact nx g3 _ _ hP3 (hpi.begin hk1000 _) (kg2.trans kg3)
   rw [if_neg (by simpa using k0)]
   by_cases k1 : xs[i].kind = 1
   ·rw [if_pos (by simp [k1])]
    refine ⟨_, rdZb bs 1, _, rdZb bs 1, ?_⟩
    refine commitK_z hS1 hpi.mo (by omega) _ fun g2 hS2 kk => ⟨_, rfl, ?_⟩
    obtain ⟨hP2, kg2⟩ := putS hS2 kk
    obtain ⟨Pr, hR2, hGr, putR⟩ := hP2.r
    refine ⟨rdZb (hbs kg2) 1, ?_⟩
    refine Commit_q hR2 hpi.rb (by omega) _ (fun _ => hpi.rbA _) (hpi.ordA _) (fun _ => hpi.rbC _) (hpi.ordC _) fun g3 hR3 k3 => ⟨_, rfl, ?_⟩
    obtain ⟨hP3, kg3⟩ := putR hR3 k3
    obtain ⟨hpi2, heq⟩ := hpi.commit hk1000 xs[i].xid
    rw [heq, if_neg (by simp)]
    exact nx g3 _ _ hP3 hpi2 (kg2.trans kg3)
   rw [if_neg (by simpa using k1)]
   by_cases k2 : xs[i].kind = 2
   ·rw [if_pos (by simp [k2])]
    refine ⟨_, rdZb bs 1, _, rdZb bs 1, ?_⟩
    refine Abort_z hS1 hpi.mo _ fun g2 hS2 kk => ⟨_, rfl, ?_⟩
    obtain ⟨hP2, kg2⟩ := putS hS2 kk
    obtain ⟨Pr, hR2, hGr, putR⟩ := hP2.r
    refine ⟨rdZb (hbs kg2) 1, ?_⟩
    refine Abort_q hR2 hpi.rb (by omega) _ (fun _ => hpi.rbA _) (hpi.ordA _) fun g3 hR3 k3 => ⟨_, rfl, ?_⟩
    obtain ⟨hP3, kg3⟩ := putR hR3 k3
    obtain ⟨hpi2, heq⟩ := hpi.abort hk1000 xs[i].xid
    rw [heq, if_neg (by simp)]
    exact nx g3 _ _ hP3 hpi2 (kg2.trans kg3)
   rw [if_neg (by simpa using k2)]
   by_cases k3 : xs[i].kind = 3
   ·rw [if_pos (by simp [k3])]
    refine ⟨_, rdZb bs 1, ?_⟩
    refine rdZx bs ?_
    refine Read_z hS1 hpi.mo _ xs[i].x fun g2 hS2 kk => ⟨rfl, ?_⟩
    obtain ⟨hP2, kg2⟩ := putS hS2 kk
    refine ⟨_, rdZb (hbs kg2) 1, ?_⟩
    refine rdZx (hbs kg2) ?_
    refine OwnT_s xs[i].x fun g3 e3 => ⟨_, _, _, _, _, rfl, ?_⟩
    have hP3 := hP2.e0 e3
    have kg3 := kg2.trans (PlZ.kgE e3 hP2)
    obtain ⟨Pr, hR3, hGr, putR⟩ := hP3.r
    refine ⟨rdZb (hbs kg3) 1, ?_⟩
    refine Read_q hR3 hpi.rb (by omega) _ xs[i].x fun g4 hR4 k4 => ⟨rfl, ?_⟩
    obtain ⟨hP4, kg4⟩ := putR hR4 k4
    exact nx g4 _ _ hP4 (hpi.read hk1000 _ _) (kg3.trans kg4)
   rw [if_neg (by simpa using k3)]
   by_cases k4 : xs[i].kind = 4
   ·rw [if_pos (by simp [k4])]
    refine ⟨_, rdZb bs 1, ?_⟩
    refine rdZx bs ?_
    refine wroteK_z hS1 hpi.mo (by omega) _ xs[i].x fun g2 hS2 kk => ⟨rfl, ?_⟩
    obtain ⟨hP2, kg2⟩ := putS hS2 kk
    refine ⟨_, rdZb (hbs kg2) 1, ?_⟩
    refine rdZx (hbs kg2) ?_
    refine OwnT_s xs[i].x fun g3 e3 => ⟨_, _, _, _, _, rfl, ?_⟩
    have hP3 := hP2.e0 e3
    have kg3 := kg2.trans (PlZ.kgE e3 hP2)
    obtain ⟨Pr, hR3, hGr, putR⟩ := hP3.r
    refine ⟨rdZb (hbs kg3) 1, ?_⟩
    refine Wrote_q hR3 hpi.rb (by omega) _ xs[i].x (hpi.owners _) fun g4 hR4 k4 => ⟨rfl, ?_⟩
    obtain ⟨hP4, kg4⟩ := putR hR4 k4
    exact nx g4 _ _ hP4 (hpi.wrote hk1000 _ _) (kg3.trans kg4)
   rw [if_neg (by simpa using k4)]
   by_cases k5 : xs[i].kind = 5
   ·rw [if_pos (by simp [k5])]
    refine ⟨_, rdZb bs 1, _, rdZb bs 2, ?_⟩
    refine sawK_z hS1 hpi.mo (by omega) _ _ fun g2 hS2 kk => ⟨rfl, ?_⟩
    obtain ⟨hP2, kg2⟩ := putS hS2 kk
    obtain ⟨Pr, hR2, hGr, putR⟩ := hP2.r
    refine ⟨_, rdZb (hbs kg2) 1, _, rdZb (hbs kg2) 2, ?_⟩
    refine Saw_q hR2 hpi.rb (by omega) _ _ ((hpi.rb.add _ _).sl (by omega)) fun g3 hR3 k3 => ⟨rfl, ?_⟩
    obtain ⟨hP3, kg3⟩ := putR hR3 k3
    exact nx g3 _ _ hP3 (hpi.saw hk1000 _ _) (kg2.trans kg3)
   ·rw [if_neg (by simpa using k5)]
    exact nx g1 _ _ hP1 ⟨hpi.sim, hpi.i.up (Nat.le_succ i), mk_up (j := 0) hpi.mo (by omega) (Nat.mul_le_mul_left _ (by omega)) (by omega), hpi.rb.up (by omega), hpi.kc, hpi.ko⟩ (KG.refl _ _)
 have := key xs.length 0 h23 _ _ (by omega) hP0 hi0 (kg_ext0 e023 fun b hb => hb)
 simpa using this
end
end Go.Lift.E14

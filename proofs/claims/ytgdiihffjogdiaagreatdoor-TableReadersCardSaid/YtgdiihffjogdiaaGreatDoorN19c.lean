/- Who read is told: what one reader's things and edges come to, step by step. -/
import Derived.Test.YtgdiihffjogdiaaGreatDoorT19k
import Derived.Test.YtgdiihffjogdiaaGreatDoorI11g
set_option linter.unusedSimpArgs false
set_option linter.unusedVariables false
namespace Go.Lift.T
open Go Go.Proofs Go.RowKit Go.Lift.E14
set_option maxRecDepth 100000
abbrev sI : ByteArray := ByteArray.mk #[105]
abbrev lt (j : Int) : ThingM := ⟨3, sE, 1, sI, j⟩
abbrev rt : ThingM := ⟨2, sE, 1, sE, 0⟩
/-- Does an owner hold what covers a thing? -/
def has (S : SM) (o : Int) (y : ThingM) : Prop := ∃ z ∈ thgs S.m o, ownP y z = true
theorem has_self {S : SM} {o : Int} {y : ThingM} (h : y ∈ thgs S.m o) : has S o y := ⟨y, h, by simp [ownP]⟩
theorem has_rel {S : SM} {o : Int} {y : ThingM} (hf : fineT y = true) (h : relT y ∈ thgs S.m o) : has S o y := ⟨relT y, h, by simp [ownP, hf]⟩
theorem has_iff {S : SM} {o : Int} {y : ThingM} : has S o y ↔ y ∈ thgs S.m o ∨ (fineT y = true ∧ relT y ∈ thgs S.m o) := by
  constructor
  · rintro ⟨z, hz, hp⟩
    unfold ownP at hp
    rw [Bool.or_eq_true, Bool.and_eq_true, decide_eq_true_eq, decide_eq_true_eq] at hp
    rcases hp with rfl | ⟨h1, rfl⟩
    · exact Or.inl hz
    · exact Or.inr ⟨h1, hz⟩
  · rintro (h | ⟨h1, h2⟩)
    · exact has_self h
    · exact has_rel h1 h2
theorem has_whole {N : Nat} {S : SM} {o : Int} (h : SOk N S) (ho : 0 ≤ o ∧ o ≤ 200) {x : ThingM} (hx : 1 ≤ x.kind ∧ x.kind ≤ 2) (hxx : x.kind = 2 → x = relT x) : x ∈ thgs (wholeS S o x).m o ∧ ∀ y, has S o y → has (wholeS S o x) o y := by
  obtain ⟨_, _, a, b, _⟩ := wholeS_ok h ho hx
  refine ⟨a, fun y hy => ?_⟩
  rcases has_iff.1 hy with q | ⟨hf, q⟩
  · rcases b y q with g | ⟨h2, h3, h4⟩
    · exact has_self g
    · refine has_rel h3 ?_
      have : relT y = x := by rw [hxx h2]; unfold relT; rw [h4]
      rw [this]
      exact a
  · rcases b _ q with g | ⟨_, h3, _⟩
    · exact has_rel hf g
    · cases h3
theorem has_take {N : Nat} {S : SM} {o : Int} (h : SOk N S) (ho : 0 ≤ o ∧ o ≤ 200) {x : ThingM} (hx : 1 ≤ x.kind ∧ x.kind ≤ 4) (hxx : x.kind = 2 → x = relT x) : has (takeS S o x) o x ∧ ∀ y, has S o y → has (takeS S o x) o y := by
  unfold takeS
  rw [if_neg (by omega)]
  obtain ⟨a1, a2, _⟩ := bornS_ok h ho
  have hb : ∀ y, has S o y → has (bornS S o) o y := fun y hy => by
    unfold has at hy ⊢
    rw [a2]
    exact hy
  generalize bornS S o = S1 at a1 hb
  simp only
  by_cases hin : x ∈ thgs S1.m o ∨ (fineT x = true ∧ relT x ∈ thgs S1.m o)
  · rw [if_pos hin]
    exact ⟨has_iff.2 hin, hb⟩
  rw [if_neg hin]
  by_cases hf : fineT x = true
  · rw [if_pos hf]
    by_cases hc : (nR (thgs S1.m o) x.rel : Int) < S1.each ∧ S1.fine < S1.all
    · rw [if_pos hc]
      have hm : thgs (addS S1 o x 1).m o = thgs S1.m o ++ [x] := by
        unfold addS thgs
        simp only
        rw [afind_aput, if_pos rfl]
        rfl
      refine ⟨has_self (by rw [hm]; simp), fun y hy => ?_⟩
      obtain ⟨z, hz, hp⟩ := hb y hy
      exact ⟨z, by rw [hm]; exact List.mem_append_left _ hz, hp⟩
    · rw [if_neg hc]
      obtain ⟨q1, q2⟩ := has_whole a1 ho (x := relT x) (by unfold relT; simp) fun _ => rfl
      exact ⟨has_rel hf q1, fun y hy => q2 y (hb y hy)⟩
  · rw [if_neg hf]
    have hk : x.kind ≤ 2 := by
      unfold fineT at hf
      simp only [Bool.or_eq_true, decide_eq_true_eq, not_or] at hf
      omega
    obtain ⟨q1, q2⟩ := has_whole a1 ho ⟨hx.1, hk⟩ hxx
    exact ⟨has_self q1, fun y hy => q2 y (hb y hy)⟩
/-- Where only one owner has anything. -/
def Only (S : SM) : Prop := ∀ o, o ≠ 2 → thgs S.m o = []
theorem only_own {N : Nat} {S : SM} (h : SOk N S) (hs : Only S) (p : ThingM → Bool) : ∀ x ∈ ownersS S p, x = 2 := fun x hx => by
  obtain ⟨_, y, hy, _⟩ := ownersS_mem h p hx
  rcases Classical.em (x = 2) with e | e
  · exact e
  · rw [hs x e] at hy
    cases hy
theorem only_take {N : Nat} {S : SM} (h : SOk N S) (hs : Only S) (x : ThingM) : Only (takeS S 2 x) := fun o ho => by
  rw [(takeS_ok h (by decide) x).2.2.1 o ho]
  exact hs o ho
/-- A step that only tells. -/
theorem copy_has {N : Nat} {S : SM} (h : SOk N S) (hs : Only S) (a b : Int) : Only (copyS S (lt a) (lt b)) ∧ (∀ y, has S 2 y → has (copyS S (lt a) (lt b)) 2 y) ∧ (has S 2 (lt a) → has (copyS S (lt a) (lt b)) 2 (lt b)) := by
  have hx : 1 ≤ (lt b).kind ∧ (lt b).kind ≤ 4 := ⟨(by decide : (1:Int) ≤ 3), (by decide : (3:Int) ≤ 4)⟩
  have hxx : (lt b).kind = 2 → lt b = relT (lt b) := fun e => by cases e
  have key : ∀ (l : List Int) {N : Nat} {S : SM}, SOk N S → Only S → (∀ x ∈ l, x = 2) → Only (takesS S l (lt b)) ∧ (∀ y, has S 2 y → has (takesS S l (lt b)) 2 y) ∧ (l ≠ [] → has (takesS S l (lt b)) 2 (lt b)) := by
    intro l
    induction l with
    | nil => intro N S _ hs _; exact ⟨hs, fun _ h => h, fun e => absurd rfl e⟩
    | cons x l ih =>
      intro N S h hs hl
      have e := hl x (by simp)
      subst e
      obtain ⟨t1, t2⟩ := has_take h (by decide : (0:Int) ≤ 2 ∧ (2:Int) ≤ 200) hx hxx
      have t3 := (takeS_ok h (by decide : (0:Int) ≤ 2 ∧ (2:Int) ≤ 200) (lt b)).1
      obtain ⟨g1, g2, _⟩ := ih t3 (only_take h hs (lt b)) fun y hy => hl y (by simp [hy])
      exact ⟨g1, fun y hy => g2 y (t2 y hy), fun _ => g2 _ t1⟩
  obtain ⟨g1, g2, g3⟩ := key (ownersS S fun y => decide (y = lt a)) h hs (only_own h hs _)
  refine ⟨g1, g2, fun hh => ?_⟩
  rcases has_iff.1 hh with q | ⟨_, q⟩
  · refine g3 fun e => ?_
    have : (2 : Int) ∈ ownersS S fun y => decide (y = lt a) := (mem_ownersS h _).2 ⟨lt a, q, by simp⟩
    rw [e] at this
    cases this
  · have q' : relT (lt b) ∈ thgs S.m 2 := q
    exact g2 _ (has_rel rfl q')
/-- What stays while the third one puts. -/
structure Inv (L : LM) (f : List (Int × Int)) (k : Nat) (M : SsiM) : Prop where
  ok : Mk k M
  L : M.L = L
  safe : M.safe = f
  S : Only M.S
  E : ∀ q ∈ M.E.m, q = ((2 : Int), (3 : Int))
theorem lookM_E (M : SsiM) (p : Int) : (lookM M p).E = M.E := by
  unfold lookM doomAll
  split <;> rfl
theorem behind_E (M : SsiM) (hb : besideL M.L 2 3 = true) (hE : ∀ q ∈ M.E.m, q = ((2 : Int), (3 : Int))) : (∀ q ∈ (behindM M 2 3).E.m, q = ((2 : Int), (3 : Int))) ∧ ((2 : Int), (3 : Int)) ∈ (behindM M 2 3).E.m := by
  unfold behindM
  by_cases h : ((2 : Int), (3 : Int)) ∈ M.E.m
  · rw [if_neg fun q => q.2 h]
    exact ⟨hE, h⟩
  · rw [if_pos ⟨hb, h⟩, lookM_E, lookM_E]
    unfold addE
    simp only
    rw [if_pos ⟨hb, h⟩]
    exact ⟨fun q hq => by rcases List.mem_append.1 hq with g | g; exact hE q g; simpa using g, by simp⟩
variable {L : LM} {f : List (Int × Int)} {k : Nat} {M : SsiM}
theorem Inv.wrote (hi : Inv L f k M) (hk : k < 1000) (hr : runsB L 3 = true) (hb : besideL L 2 3 = true) (y : ThingM) : Inv L f (k + 1) (wroteM M 3 y) ∧ (wroteM M 3 y).S = M.S ∧ (has M.S 2 y ∨ ((2 : Int), (3 : Int)) ∈ M.E.m → ((2 : Int), (3 : Int)) ∈ (wroteM M 3 y).E.m) := by
  obtain ⟨k1, k2, _, _, k5⟩ := wroteM_keep M 3 y
  have key : ∀ (l : List Int) {M : SsiM}, M.L = L → (∀ x ∈ l, x = 2) → (∀ q ∈ M.E.m, q = ((2 : Int), (3 : Int))) → (∀ q ∈ (l.foldl (wstep 3) M).E.m, q = ((2 : Int), (3 : Int))) ∧ (l ≠ [] ∨ ((2 : Int), (3 : Int)) ∈ M.E.m → ((2 : Int), (3 : Int)) ∈ (l.foldl (wstep 3) M).E.m) := by
    intro l
    induction l with
    | nil => intro M _ _ hE; exact ⟨hE, fun h => h.resolve_left fun e => e rfl⟩
    | cons x l ih =>
      intro M hL hl hE
      have e := hl x (by simp)
      subst e
      rw [List.foldl_cons]
      have hw : wstep 3 M 2 = behindM M 2 3 := rfl
      rw [hw]
      obtain ⟨b1, b2⟩ := behind_E M (by rw [hL]; exact hb) hE
      obtain ⟨c1, c2⟩ := ih (by rw [(behindM_S M 2 3).2.1]; exact hL) (fun y hy => hl y (by simp [hy])) b1
      exact ⟨c1, fun _ => c2 (Or.inr b2)⟩
  have hw : wroteM M 3 y = (ownersS M.S (ownP y)).foldl (wstep 3) M := by unfold wroteM; rw [if_pos (by rw [hi.L]; exact hr)]
  obtain ⟨c1, c2⟩ := key (ownersS M.S (ownP y)) hi.L (only_own hi.ok.s hi.S _) hi.E
  refine ⟨⟨hi.ok.wrote hk 3 y, k2.trans hi.L, k5.trans hi.safe, by rw [k1]; exact hi.S, by rw [hw]; exact c1⟩, k1, fun h => ?_⟩
  rw [hw]
  refine c2 ?_
  rcases h with ⟨z, hz, hp⟩ | h
  · refine Or.inl fun e => ?_
    have : (2 : Int) ∈ ownersS M.S (ownP y) := (mem_ownersS hi.ok.s _).2 ⟨z, hz, hp⟩
    rw [e] at this
    cases this
  · exact Or.inr h
theorem Inv.copy (hi : Inv L f k M) (hk : k < 1000) (a b : Int) : Inv L f (k + 1) (copyM M (lt a) (lt b)) ∧ (∀ y, has M.S 2 y → has (copyM M (lt a) (lt b)).S 2 y) ∧ (has M.S 2 (lt a) → has (copyM M (lt a) (lt b)).S 2 (lt b)) := by
  obtain ⟨g1, g2, g3⟩ := copy_has hi.ok.s hi.S a b
  exact ⟨⟨mk_copy hi.ok hk _ _, hi.L, hi.safe, g1, hi.E⟩, g2, g3⟩
theorem Inv.read (hi : Inv L f k M) (hk : k < 1000) (hr : runsB L 2 = true) (hf : cnt f 2 = 0) {y : ThingM} (hy : 1 ≤ y.kind ∧ y.kind ≤ 4) (hyy : y.kind = 2 → y = relT y) : Inv L f (k + 1) (readM M 2 y) ∧ (∀ z, has M.S 2 z → has (readM M 2 y).S 2 z) ∧ has (readM M 2 y).S 2 y := by
  have hm := hi.ok.read hk 2 y
  have e : readM M 2 y = { M with S := takeS M.S 2 y } := by
    unfold readM
    rw [if_pos (by unfold readsB; rw [hi.L, hi.safe, hr, decide_eq_true hf]; rfl)]
    unfold TakeS
    rw [if_pos (by unfold okT; simp; omega)]
  obtain ⟨t1, t2⟩ := has_take hi.ok.s (by decide : (0:Int) ≤ 2 ∧ (2:Int) ≤ 200) hy hyy
  rw [e] at hm ⊢
  exact ⟨⟨hm, hi.L, hi.safe, only_take hi.ok.s hi.S y, hi.E⟩, t2, t1⟩
end Go.Lift.T
namespace Go.Lift.T
open Go Go.Proofs Go.RowKit Go.Lift.E14
set_option maxRecDepth 100000
abbrev sA : ByteArray := ByteArray.mk #[97]
/-- A store of one relation and one index. -/
def mkC (C0 : TC) (rb hr eb ix : Nat) (M : SsiM) (hp : RelM) (lf : X.LeafM) : TC := { C0 with M := M, R := [⟨rb, hr, hp, [⟨eb, ix, sI, sA, false, 3, 1, 0, lf⟩]⟩] }
def putM (M : SsiM) (x : Int) (d : X.Did) : SsiM := wroteM (if d.err ≠ 0 then M else wroteM (if d.mf = 0 ∧ d.mt = 0 then M else copyM M (lt d.mf) (lt d.mt)) x (lt d.leaf)) x rt
section
variable {C0 : TC} {rb hr eb ix : Nat} {M : SsiM} {hp : RelM} {lf : X.LeafM}
theorem mk_stand (hs : (txL M.L 1).state ≠ 3) : standR (mkC C0 rb hr eb ix M hp lf) 1 = [⟨eb, ix, sI, sA, false, 3, 1, 0, lf⟩] := by
  have e : relAt (mkC C0 rb hr eb ix M hp lf).R 1 = some ⟨rb, hr, hp, [⟨eb, ix, sI, sA, false, 3, 1, 0, lf⟩]⟩ := rfl
  unfold standR
  rw [e]
  simp only
  unfold standM
  have hb : standsB M.L ⟨eb, ix, sI, sA, false, 3, 1, 0, lf⟩ = true := by
    unfold standsB
    simp [hs]
  rw [show (mkC C0 rb hr eb ix M hp lf).M.L = M.L from rfl, List.filter_cons, if_pos hb]
  rfl
theorem mk_few (C0 : TC) (rb hr eb ix : Nat) (M : SsiM) (hp : RelM) (lf : X.LeafM) : FewE (mkC C0 rb hr eb ix M hp lf) := fun r hr => by
  obtain rfl := List.mem_singleton.1 hr
  exact ⟨by simp, Nat.lt_of_le_of_lt (List.length_filter_le _ _) (by simp)⟩
theorem of_a (v : X.V4) : ofM sA [colA] [v] = v := by
  have e : colAt [colA] sA = 0 := by kernel_rfl
  unfold ofM
  rw [e]
  rfl
theorem put_mk {x : Int} (hx : 1 ≤ x) (hf : hp.full = false) (hs : (txL M.L 1).state ≠ 3) (v : X.V4) :
    putC (mkC C0 rb hr eb ix M hp lf) x 1 [v] [colA] = (mkC C0 rb hr eb ix (putM M x (X.addM lf v hp.next).2) (insR hp x [v]) (X.addM lf v hp.next).1, hp.next, 0) := by
  have e : relAt (mkC C0 rb hr eb ix M hp lf).R 1 = some ⟨rb, hr, hp, [⟨eb, ix, sI, sA, false, 3, 1, 0, lf⟩]⟩ := rfl
  have he : insE hp x = 0 := by
    unfold insE
    rw [if_pos hx, if_neg (by rw [hf]; decide)]
  unfold putC
  rw [e]
  simp only
  rw [if_neg (by rw [he]; simp), mk_stand hs]
  have h1 : modC (mkC C0 rb hr eb ix M hp lf) ((1 : Int) - 1).toNat (hpC x [v]) = mkC C0 rb hr eb ix M (insR hp x [v]) lf := rfl
  rw [h1, List.foldl_cons, List.foldl_nil]
  have h2 : putStep x 1 hp.next [colA] [v] (mkC C0 rb hr eb ix M (insR hp x [v]) lf) ⟨eb, ix, sI, sA, false, 3, 1, 0, lf⟩ =
      mkC C0 rb hr eb ix (if (X.addM lf v hp.next).2.err ≠ 0 then M else wroteM (if (X.addM lf v hp.next).2.mf = 0 ∧ (X.addM lf v hp.next).2.mt = 0 then M else copyM M (lt (X.addM lf v hp.next).2.mf) (lt (X.addM lf v hp.next).2.mt)) x (lt (X.addM lf v hp.next).2.leaf)) (insR hp x [v]) (X.addM lf v hp.next).1 := by
    unfold putStep
    simp only [of_a]
    have h3 : modC (mkC C0 rb hr eb ix M (insR hp x [v]) lf) ((1 : Int) - 1).toNat (lfC eb (X.addM lf v hp.next).1) = mkC C0 rb hr eb ix M (insR hp x [v]) (X.addM lf v hp.next).1 := by
      unfold modC mkC lfC
      simp
    rw [h3]
    split <;> rfl
  rw [h2]
  rfl
end
/-- The entries so far: each by its number. -/
structure LfS (t m : Nat) (hp : RelM) (lf : X.LeafM) : Prop where
  ok : X.OkM lf m
  inn : ∃ Ls : List X.StepI, X.InI lf Ls ∧ Ls.length ≤ t ∧ ∀ s ∈ Ls, s.tid < (t : Int)
  next : hp.next = (t : Int)
  len : hp.T.length = t
theorem LfS.full {t m : Nat} {hp : RelM} {lf : X.LeafM} (h : LfS t m hp lf) (ht : t < 512) : hp.full = false := by
  unfold RelM.full
  rw [h.next, h.len]
  simp
  omega
theorem LfS.km {t m : Nat} {hp : RelM} {lf : X.LeafM} (h : LfS t m hp lf) (ht : t < 512) : X.KM lf := by
  obtain ⟨Ls, h1, h2, _⟩ := h.inn
  exact h1.km (by omega)
theorem LfS.add {t m : Nat} {hp : RelM} {lf : X.LeafM} (h : LfS t m hp lf) (ht : t < 512) {v : X.V4} (hv : X.VOk v) (hg : X.goodX v = true) {x : Int} (hx : 1 ≤ x) :
    LfS (t + 1) (m + 1) (insR hp x [v]) (X.addM lf v hp.next).1 ∧ (X.addM lf v hp.next).2.err = 0 ∧ X.Moved lf.l (X.addM lf v hp.next).1.l (X.addM lf v hp.next).2 ∧ X.ofL (X.addM lf v hp.next).1.l (X.entryP v hp.next).1 = (X.addM lf v hp.next).2.leaf := by
  obtain ⟨Ls, h1, h2, h3⟩ := h.inn
  have hn := h.next
  have he : (X.entryP v hp.next).2 = 0 := X.entry_iff.2 ⟨hg, by omega, by omega⟩
  have gs : X.GoodS ⟨0, hp.next, v, v⟩ := ⟨hv, hg, by simp only; omega, by simp only; omega⟩
  have hk : X.keyI ⟨0, hp.next, v, v⟩ = (X.entryP v hp.next).1 := rfl
  have hsz : ¬ (X.entryP v hp.next).1.size > 1024 := by
    rw [← hk, X.keyI_of gs, X.ofBtl_size, List.length_append, X.beL_len]
    have := X.encX_len hg
    simp only at this ⊢
    omega
  have hnk : (X.entryP v hp.next).1 ∉ X.ksM lf := fun hm => by
    obtain ⟨s, hs, hsk⟩ := List.mem_map.1 (h1.perm.subset hm)
    have := h3 s hs
    rw [← hk] at hsk
    have := ((X.keyI_eq (h1.good s hs) gs).1 hsk).1
    simp only at this
    omega
  have ha : X.addM lf v hp.next = lf.ins (X.entryP v hp.next).1 := by
    unfold X.addM
    rw [if_pos he]
  obtain ⟨o1, o2, o3⟩ := X.ins_ok h.ok (X.entryP v hp.next).1
  have herr : (lf.ins (X.entryP v hp.next).1).2.err = 0 := by
    have hlt := X.atL_lt h.ok.ne (X.entryP v hp.next).1
    rw [X.ins_eq hsz hlt]
    unfold X.LeafM.insAt
    have hno : ¬ X.hasK (lf.l[X.atL lf.l (X.entryP v hp.next).1]).keys (X.entryP v hp.next).1 = true := fun q => hnk (List.mem_flatMap.2 ⟨_, List.getElem_mem _, X.hasK_iff.1 q⟩)
    rw [if_neg hno]
    split <;> rfl
  obtain ⟨n1, n2⟩ := X.next_ok h.ok h1 (s := ⟨0, hp.next, v, v⟩) hv
  have hnx : X.nextI lf Ls ⟨0, hp.next, v, v⟩ = ((X.addM lf v hp.next).1, Ls ++ [⟨0, hp.next, v, v⟩]) := by
    unfold X.nextI
    simp only [if_true]
    rw [if_pos (by rw [ha]; exact herr)]
  rw [hnx] at n1 n2
  have hin : insR hp x [v] = hp.ins x [v] := by
    unfold insR
    rw [if_pos ⟨hx, h.full ht⟩]
  refine ⟨⟨n1, ⟨_, n2, by simp; omega, fun s hs => ?_⟩, by rw [hin]; show hp.next + 1 = _; omega, by rw [hin]; show (hp.T ++ [_]).length = _; rw [List.length_append, h.len]; rfl⟩, by rw [ha]; exact herr, by rw [ha]; exact o2, by rw [ha]; exact o3 herr⟩
  rcases List.mem_append.1 hs with g | g
  · have := h3 s g
    omega
  · obtain rfl := List.mem_singleton.1 g
    simp only
    omega
/-- Every leaf that a value may come into was read. -/
def Cov (M : SsiM) (lf : X.LeafM) (v : X.V4) : Prop := ∀ q, X.inR (X.entryP v 0).1 (X.afterP v).1 q = true → has M.S 2 (lt (X.ofL lf.l q))
theorem put_law {L : LM} {f : List (Int × Int)} {k t m : Nat} {M : SsiM} {hp : RelM} {lf : X.LeafM} (hi : Inv L f k M) (hk : k + 4 ≤ 1000) (hr : runsB L 3 = true) (hb : besideL L 2 3 = true) (h : LfS t m hp lf) (ht : t < 512) {x : X.V4} (hv : X.VOk x) (hg : X.goodX x = true) :
    Inv L f (k + 3) (putM M 3 (X.addM lf x hp.next).2) ∧ (has M.S 2 rt → has (putM M 3 (X.addM lf x hp.next).2).S 2 rt ∧ ((2 : Int), (3 : Int)) ∈ (putM M 3 (X.addM lf x hp.next).2).E.m) ∧
      (∀ v, Cov M lf v → Cov (putM M 3 (X.addM lf x hp.next).2) (X.addM lf x hp.next).1 v) ∧ (Cov M lf x → ((2 : Int), (3 : Int)) ∈ (putM M 3 (X.addM lf x hp.next).2).E.m) := by
  obtain ⟨_, herr, hmv, hof⟩ := h.add ht hv hg (x := 3) (by decide)
  generalize hd : X.addM lf x hp.next = d at herr hmv hof
  have hp1 : ∃ M1, M1 = (if d.2.mf = 0 ∧ d.2.mt = 0 then M else copyM M (lt d.2.mf) (lt d.2.mt)) ∧ Inv L f (k + 1) M1 ∧ (∀ y, has M.S 2 y → has M1.S 2 y) ∧ (d.2.mf ≠ 0 → has M.S 2 (lt d.2.mf) → has M1.S 2 (lt d.2.mt)) := by
    refine ⟨_, rfl, ?_⟩
    by_cases hm : d.2.mf = 0 ∧ d.2.mt = 0
    · rw [if_pos hm]
      refine ⟨⟨(hi.ok : MOk _ _ _).up (by omega) (by omega) (by omega) (Nat.le_trans (Nat.mul_le_mul_left _ (show k + 1 ≤ 1000 by omega)) (by decide)), hi.L, hi.safe, hi.S, hi.E⟩, fun _ g => g, fun g => absurd hm.1 g⟩
    · rw [if_neg hm]
      obtain ⟨c1, c2, c3⟩ := hi.copy (by omega) d.2.mf d.2.mt
      exact ⟨c1, c2, fun _ => c3⟩
  obtain ⟨M1, e1, i1, k1, c1⟩ := hp1
  have hpm : putM M 3 d.2 = wroteM (wroteM M1 3 (lt d.2.leaf)) 3 rt := by
    unfold putM
    rw [if_neg (by rw [herr]; simp), e1]
  obtain ⟨i2, s2, w2⟩ := i1.wrote (by omega) hr hb (lt d.2.leaf)
  obtain ⟨i3, s3, w3⟩ := i2.wrote (by omega) hr hb rt
  rw [hpm]
  have cov : ∀ v, Cov M lf v → Cov M1 d.1 v := fun v hc q hq => by
    have h1 := hc q hq
    rcases hmv q with e | ⟨n0, e2, e3⟩
    · rw [e]
      exact k1 _ h1
    · rw [e3]
      exact c1 n0 (by rw [← e2]; exact h1)
  refine ⟨i3, fun hh => ⟨by rw [s3, s2]; exact k1 _ hh, w3 (Or.inl (by rw [s2]; exact k1 _ hh))⟩, fun v hc q hq => by rw [s3, s2]; exact cov v hc q hq, fun hc => w3 (Or.inr (w2 (Or.inl ?_)))⟩
  have hn := h.next
  have gs : X.GoodS ⟨0, hp.next, x, x⟩ := ⟨hv, hg, by simp only; omega, by simp only; omega⟩
  have := cov x hc (X.entryP x hp.next).1 (by
    have := X.inR_find gs hv hg
    rw [show X.keyI ⟨0, hp.next, x, x⟩ = (X.entryP x hp.next).1 from rfl] at this
    rw [this]
    simp [X.cmpV_self])
  rw [hof] at this
  exact this
theorem sortI0 : sortI [] = [] := by simp [sortI]
/-- Where nobody has anything, nobody is told. -/
theorem put_none {M : SsiM} (hS : M.S.m = []) (x : Int) (d : X.Did) : putM M x d = M := by
  have hw : ∀ y, wroteM M x y = M := fun y => by
    have : ownersS M.S (ownP y) = [] := by unfold ownersS; rw [hS]; exact sortI0
    unfold wroteM
    rw [this]
    split <;> rfl
  have hc : ∀ a b, copyM M a b = M := fun a b => by
    have : copyS M.S a b = M.S := by
      unfold copyS
      have : (ownersS M.S fun y => decide (y = a)) = [] := by unfold ownersS; rw [hS]; exact sortI0
      rw [this]
      rfl
    unfold copyM
    rw [this]
  unfold putM
  have : (if d.mf = 0 ∧ d.mt = 0 then M else copyM M (lt d.mf) (lt d.mt)) = M := by rw [hc]; split <;> rfl
  rw [this, hw, ite_self, hw]
end Go.Lift.T
namespace Go.Lift.T
open Go Go.Proofs Go.RowKit Go.Lift.E14
set_option maxRecDepth 100000
def M0 : SsiM := newM 50 500 9
def M1 : SsiM := beginM M0 false
def M2 : SsiM := (commitM M1 1).1
def M3 : SsiM := beginM M2 false
def M4 : SsiM := beginM M3 false
theorem m1_S : M1.S.m = [] := by kernel_rfl
theorem m1_run : (txL M1.L 1).state = 1 := by kernel_rfl
theorem m1_com : (commitM M1 1).2 = 0 := by kernel_rfl
theorem m2_len : M2.L.l.length = 1 := by kernel_rfl
theorem m3_len : M3.L.l.length = 2 := by kernel_rfl
theorem m4_S : M4.S.m = [] := by kernel_rfl
theorem m4_E : M4.E.m = [] := by kernel_rfl
theorem m4_r2 : runsB M4.L 2 = true := by kernel_rfl
theorem m4_r3 : runsB M4.L 3 = true := by kernel_rfl
theorem m4_b : besideL M4.L 2 3 = true := by kernel_rfl
theorem m4_f : cnt M4.safe 2 = 0 := by kernel_rfl
theorem m4_1 : (txL M4.L 1).state = 2 := by kernel_rfl
theorem mk0 : Mk 0 M0 := newM_ok (by decide) (by decide) (by decide)
theorem mk1 : Mk 1 M1 := mk0.begin (by decide) false
theorem mk2 : Mk 2 M2 := mk1.commit (by decide) 1
theorem mk3 : Mk 3 M3 := mk2.begin (by decide) false
theorem mk4 : Mk 4 M4 := mk3.begin (by decide) false
theorem inv4 : Inv M4.L M4.safe 4 M4 := ⟨mk4, rfl, rfl, fun o _ => by unfold thgs; rw [m4_S]; rfl, fun q hq => by rw [m4_E] at hq; cases hq⟩
/-- The store's state behind each of the four, nothing else of it. -/
theorem plays : ∃ N1 N2 N3 N4 : SsiM, beginM (newM 50 500 9) false = N1 ∧ (commitM N1 1).1 = N2 ∧ (commitM N1 1).2 = 0 ∧ beginM N2 false = N3 ∧ beginM N3 false = N4 ∧ Mk 1 N1 ∧ Mk 2 N2 ∧ Mk 3 N3 ∧ N1.S.m = [] ∧ (txL N1.L 1).state = 1 ∧ N2.L.l.length = 1 ∧ N3.L.l.length = 2 ∧
    Inv N4.L N4.safe 4 N4 ∧ runsB N4.L 2 = true ∧ runsB N4.L 3 = true ∧ besideL N4.L 2 3 = true ∧ cnt N4.safe 2 = 0 ∧ (txL N4.L 1).state ≠ 3 :=
  ⟨M1, M2, M3, M4, rfl, rfl, m1_com, rfl, rfl, mk1, mk2, mk3, m1_S, m1_run, m2_len, m3_len, inv4, m4_r2, m4_r3, m4_b, m4_f, by rw [m4_1]; decide⟩
theorem find_cov {t m : Nat} {hp : RelM} {lf : X.LeafM} (h : LfS t m hp lf) {v : X.V4} (hv : X.VOk v) (hg : X.goodX v = true) : (X.findP lf v).2 ≠ [] ∧ (X.findP lf v).2.length ≤ m + 1 ∧ ∀ M : SsiM, (∀ j ∈ (X.findP lf v).2, has M.S 2 (lt j)) → Cov M lf v := by
  have gs : X.GoodS ⟨0, 0, v, v⟩ := ⟨hv, hg, by simp, by simp⟩
  have hin : X.inR (X.entryP v 0).1 (X.afterP v).1 (X.entryP v 0).1 = true := by
    have := X.inR_find gs hv hg
    rw [show X.keyI ⟨0, 0, v, v⟩ = (X.entryP v 0).1 from rfl] at this
    rw [this]
    simp [X.cmpV_self]
  have hem : X.emptyR (X.entryP v 0).1 (X.afterP v).1 = false := by
    unfold X.inR at hin
    rw [X.after_ne hg, Bool.false_or, Bool.and_eq_true, Bool.not_eq_true'] at hin
    obtain ⟨i1, i2⟩ := hin
    unfold X.emptyR
    rw [X.after_ne hg]
    have h2 : sLt (X.afterP v).1 (X.entryP v 0).1 = false := by
      cases h3 : sLt (X.afterP v).1 (X.entryP v 0).1 with
      | false => rfl
      | true => have := sLt_trans i2 h3; rw [i1] at this; cases this
    have h3 : ((X.afterP v).1.toList == (X.entryP v 0).1.toList) = false := by
      rw [beq_eq_false_iff_ne]
      intro e
      have e := toList_inj' e
      rw [e] at i2
      rw [i1] at i2
      cases i2
    rw [h2, h3]
    rfl
  have hf : (X.findP lf v).2 = (lf.rng (X.entryP v 0).1 (X.afterP v).1).2 := by
    unfold X.findP
    rw [if_pos hg]
  rw [hf]
  refine ⟨fun e => ?_, ?_, fun M hM q hq => hM _ (X.covers h.ok hem hq)⟩
  · have := X.covers h.ok hem hin
    rw [e] at this
    cases this
  · unfold X.LeafM.rng
    rw [if_neg (by rw [hem]; decide)]
    simp only [List.length_map]
    unfold X.partL
    rw [List.length_drop, List.length_take]
    have := h.ok.len
    omega
theorem num_ok {n : Int} (h : -9223372036854775808 ≤ n ∧ n < 9223372036854775808) : X.VOk (numV n) := ⟨by show (0 : Nat) < _; decide, h⟩
theorem num_good (n : Int) : X.goodX (numV n) = true := by
  unfold X.goodX X.goodV
  simp only
  rw [if_neg (by decide), if_neg (by decide), if_pos trivial]
  unfold X.bareV
  simp
end Go.Lift.T

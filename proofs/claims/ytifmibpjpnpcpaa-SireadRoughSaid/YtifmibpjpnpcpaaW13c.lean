/- Things that were read: the plain model. -/
import Derived.Test.YtifmibpjpnpcpaaW13b
set_option linter.unusedSimpArgs false
set_option linter.unusedVariables false
namespace Go.Lift
open Go
def fineT (x : ThingM) : Bool := decide (x.kind = 3) || decide (x.kind = 4)
def relT (x : ThingM) : ThingM := ⟨2, sE, x.rel, sE, 0⟩
abbrev MM := List (Int × List ThingM)
structure SM where
  each : Int
  all : Int
  m : MM
  fine : Int
  csn : Int
def thgs (m : MM) (o : Int) : List ThingM := (afind m o).getD []
def nF (l : List ThingM) : Nat := (l.filter fineT).length
def nR (l : List ThingM) (r : Int) : Nat := (l.filter fun y => fineT y && decide (y.rel = r)).length
def tot (m : MM) : Nat := (m.map fun p => p.2.length).sum
def totF (m : MM) : Nat := (m.map fun p => nF p.2).sum
/-- A thing more, for an owner that has an entry. -/
def addS (S : SM) (o : Int) (x : ThingM) (d : Int) : SM := { S with m := aput S.m o (thgs S.m o ++ [x]), fine := S.fine + d }
def loseS (S : SM) (o : Int) (p : ThingM → Bool) : SM :=
  match afind S.m o with
  | none => S
  | some l => { S with m := aput S.m o (l.filter fun x => !p x), fine := S.fine - (nF (l.filter p) : Int) }
def bornS (S : SM) (o : Int) : SM := match afind S.m o with | none => { S with m := aput S.m o [] } | some _ => S
/-- A relation, or a name, for an owner that has an entry. -/
def wholeS (S : SM) (o : Int) (x : ThingM) : SM := 
  let S := if x.kind = 2 then loseS S o fun y => fineT y && decide (y.rel = x.rel) else S
  if x ∈ thgs S.m o then S else addS S o x 0
def takeS (S0 : SM) (o : Int) (x : ThingM) : SM :=
  if x.kind < 1 ∨ x.kind > 4 then S0 else
  let S := bornS S0 o
  if x ∈ thgs S.m o ∨ (fineT x = true ∧ relT x ∈ thgs S.m o) then S
  else if fineT x = true then
    if (nR (thgs S.m o) x.rel : Int) < S.each ∧ S.fine < S.all then addS S o x 1 else wholeS S o (relT x)
  else wholeS S o x
def ownersS (S : SM) (p : ThingM → Bool) : List Int := sortI ((S.m.filter fun e => e.2.any p).map Prod.fst)
def ofS (S : SM) (o : Int) : List ThingM := sortC cmpT (thgs S.m o)
def dropS (S : SM) (o : Int) : SM :=
  let S1 := loseS S o fun _ => true
  { S1 with m := adel S1.m o, csn := if o = 0 then 0 else S1.csn }
def foldS (S : SM) (o csn : Int) : SM :=
  if o < 1 ∨ o > 200 then S else
  let S2 := (ofS S o).foldl (fun S x => takeS S 0 x) (dropS S o)
  { S2 with csn := max S2.csn csn }
def takesS (S : SM) (l : List Int) (x : ThingM) : SM := l.foldl (fun S o => takeS S o x) S
def ownP (x y : ThingM) : Bool := decide (y = x) || (fineT x && decide (y = relT x))
def copyS (S : SM) (a b : ThingM) : SM := takesS S (ownersS S fun y => decide (y = a)) b
def roughS (S : SM) (r r2 : Int) : SM := takesS S (ownersS S fun y => decide (y.kind ≥ 2) && decide (y.rel = r)) ⟨2, sE, r2, sE, 0⟩
def indexS (S : SM) (r : Int) (i : ByteArray) : SM := takesS S (ownersS S fun y => decide (y.kind = 3) && decide (y.rel = r) && decide (y.index = i)) ⟨2, sE, r, sE, 0⟩
/-- What a table keeps to. -/
structure SOk (N : Nat) (S : SM) : Prop where
  nd : (S.m.map Prod.fst).Nodup
  own : ∀ o ∈ S.m.map Prod.fst, 0 ≤ o ∧ o ≤ 200
  tnd : ∀ o l, afind S.m o = some l → l.Nodup
  kind : ∀ o l, afind S.m o = some l → ∀ x ∈ l, 1 ≤ x.kind ∧ x.kind ≤ 4
  one : ∀ o l, afind S.m o = some l → ∀ x ∈ l, fineT x = true → relT x ∉ l
  each : ∀ o l, afind S.m o = some l → ∀ r, (nR l r : Int) ≤ S.each
  fine : S.fine = (totF S.m : Int)
  all : S.fine ≤ S.all
  ea : 1 ≤ S.each ∧ S.each ≤ 10000
  al : 1 ≤ S.all ∧ S.all ≤ 10000
  bnd : tot S.m ≤ N
theorem thgs_some {m : MM} {o : Int} {l : List ThingM} (h : afind m o = some l) : thgs m o = l := by unfold thgs; rw [h]; rfl
theorem thgs_none {m : MM} {o : Int} (h : afind m o = none) : thgs m o = [] := by unfold thgs; rw [h]; rfl
theorem thgs_aput (m : MM) (o o' : Int) (l : List ThingM) : thgs (aput m o l) o' = if o' = o then l else thgs m o' := by
  unfold thgs
  rw [afind_aput]
  by_cases e : o' = o <;> simp [e]
theorem sum_aput {f : List ThingM → Nat} (h0 : f [] = 0) : ∀ (m : MM) (o : Int) (l : List ThingM), (m.map Prod.fst).Nodup → ((aput m o l).map fun p => f p.2).sum + f (thgs m o) = (m.map fun p => f p.2).sum + f l
  | [], o, l, _ => by simp [aput, thgs, afind, h0]
  | (a, u) :: m, o, l, hn => by
    rw [List.map_cons, List.nodup_cons] at hn
    simp only [aput]
    by_cases e : o = a
    · subst e
      simp only [if_true, thgs, afind, Option.getD_some, List.map_cons, List.sum_cons]
      omega
    · have ih := sum_aput h0 m o l hn.2
      simp only [if_neg e, List.map_cons, List.sum_cons]
      have : thgs ((a, u) :: m) o = thgs m o := by unfold thgs; simp only [afind, if_neg e]
      rw [this]
      omega
theorem sum_adel {f : List ThingM → Nat} (h0 : f [] = 0) : ∀ (m : MM) (o : Int), (m.map Prod.fst).Nodup → ((adel m o).map fun p => f p.2).sum + f (thgs m o) = (m.map fun p => f p.2).sum
  | [], o, _ => by simp [adel, thgs, afind, h0]
  | (a, u) :: m, o, hn => by
    rw [List.map_cons, List.nodup_cons] at hn
    simp only [adel]
    by_cases e : o = a
    · subst e
      simp only [if_true, thgs, afind, Option.getD_some, List.map_cons, List.sum_cons]
      omega
    · have ih := sum_adel h0 m o hn.2
      simp only [if_neg e, List.map_cons, List.sum_cons]
      have : thgs ((a, u) :: m) o = thgs m o := by unfold thgs; simp only [afind, if_neg e]
      rw [this]
      omega
theorem tot_aput {m : MM} (hn : (m.map Prod.fst).Nodup) (o : Int) (l : List ThingM) : tot (aput m o l) + (thgs m o).length = tot m + l.length := sum_aput (f := List.length) rfl m o l hn
theorem totF_aput {m : MM} (hn : (m.map Prod.fst).Nodup) (o : Int) (l : List ThingM) : totF (aput m o l) + nF (thgs m o) = totF m + nF l := sum_aput (f := nF) rfl m o l hn
theorem tot_adel {m : MM} (hn : (m.map Prod.fst).Nodup) (o : Int) : tot (adel m o) + (thgs m o).length = tot m := sum_adel (f := List.length) rfl m o hn
theorem totF_adel {m : MM} (hn : (m.map Prod.fst).Nodup) (o : Int) : totF (adel m o) + nF (thgs m o) = totF m := sum_adel (f := nF) rfl m o hn
theorem thgs_len {m : MM} (hn : (m.map Prod.fst).Nodup) (o : Int) : (thgs m o).length ≤ tot m := by have := tot_adel hn o; omega
theorem nF_le (l : List ThingM) : nF l ≤ l.length := List.length_filter_le _ _
theorem totF_le (m : MM) : totF m ≤ tot m := by
  unfold totF tot
  induction m with
  | nil => simp
  | cons p m ih => simp only [List.map_cons, List.sum_cons]; have := nF_le p.2; omega
theorem mem_keys_aput {m : MM} {o o' : Int} {l : List ThingM} (h : o' ∈ (aput m o l).map Prod.fst) : o' = o ∨ o' ∈ m.map Prod.fst := by
  rw [keys_aput] at h
  split at h
  · exact Or.inr h
  · rcases List.mem_append.1 h with h | h
    · exact Or.inr h
    · simp at h; exact Or.inl h
section
variable {N : Nat} {S : SM} {o : Int}
theorem SOk.thg (h : SOk N S) (o : Int) : (thgs S.m o).Nodup ∧ (∀ x ∈ thgs S.m o, 1 ≤ x.kind ∧ x.kind ≤ 4) ∧ (∀ x ∈ thgs S.m o, fineT x = true → relT x ∉ thgs S.m o) ∧ ∀ r, (nR (thgs S.m o) r : Int) ≤ S.each := by
  cases hf : afind S.m o with
  | none =>
    rw [thgs_none hf]
    have := h.ea.1
    exact ⟨by simp, by simp, by simp, fun r => by simp [nR]; omega⟩
  | some l =>
    rw [thgs_some hf]
    exact ⟨h.tnd o l hf, h.kind o l hf, h.one o l hf, h.each o l hf⟩
/-- An owner's things are set. -/
theorem SOk.put (h : SOk N S) (ho : 0 ≤ o ∧ o ≤ 200) {l : List ThingM} {f : Int} (h1 : l.Nodup) (h2 : ∀ x ∈ l, 1 ≤ x.kind ∧ x.kind ≤ 4) (h3 : ∀ x ∈ l, fineT x = true → relT x ∉ l) (h4 : ∀ r, (nR l r : Int) ≤ S.each)
    (hf : f = S.fine + (nF l : Int) - (nF (thgs S.m o) : Int)) (hall : f ≤ S.all) {N' : Nat} (hN : tot S.m + l.length ≤ N' + (thgs S.m o).length) : SOk N' { S with m := aput S.m o l, fine := f } := by
  refine ⟨aput_nodup h.nd _ _, fun o' ho' => ?_, fun o' l' hl' => ?_, fun o' l' hl' => ?_, fun o' l' hl' => ?_, fun o' l' hl' => ?_, ?_, hall, h.ea, h.al, ?_⟩
  · rcases mem_keys_aput ho' with e | e
    · rw [e]; exact ho
    · exact h.own o' e
  all_goals try (simp only at hl'; rw [afind_aput] at hl')
  · split at hl'
    · cases hl'; exact h1
    · exact h.tnd o' l' hl'
  · split at hl'
    · cases hl'; exact h2
    · exact h.kind o' l' hl'
  · split at hl'
    · cases hl'; exact h3
    · exact h.one o' l' hl'
  · split at hl'
    · cases hl'; exact h4
    · exact h.each o' l' hl'
  · have := totF_aput h.nd o l
    have := h.fine
    simp only
    omega
  · have := tot_aput h.nd o l
    simp only
    omega
theorem bornS_ok (h : SOk N S) (ho : 0 ≤ o ∧ o ≤ 200) : SOk N (bornS S o) ∧ (∀ o', thgs (bornS S o).m o' = thgs S.m o') ∧ (∃ l, afind (bornS S o).m o = some l) ∧ (bornS S o).each = S.each ∧ (bornS S o).all = S.all ∧ (bornS S o).fine = S.fine ∧ (bornS S o).csn = S.csn ∧ tot (bornS S o).m = tot S.m := by
  unfold bornS
  cases hf : afind S.m o with
  | none =>
    have hz := thgs_none hf
    have := h.put (o := o) ho (l := []) (f := S.fine) (by simp) (by simp) (by simp) (fun r => by have := h.ea.1; simp [nR]; omega) (by rw [hz]; simp) h.all (N' := N) (by rw [hz]; have := h.bnd; simp; omega)
    refine ⟨this, fun o' => ?_, ⟨[], by simp [afind_aput]⟩, rfl, rfl, rfl, rfl, ?_⟩
    · simp only
      rw [thgs_aput]
      split
      · rename_i e; rw [e, hz]
      · rfl
    · have := tot_aput h.nd o []
      rw [hz] at this
      simp only at this ⊢
      simpa using this
  | some l => exact ⟨h, fun _ => rfl, ⟨l, hf⟩, rfl, rfl, rfl, rfl, rfl⟩
theorem nF_app (l l' : List ThingM) : nF (l ++ l') = nF l + nF l' := by unfold nF; rw [List.filter_append, List.length_append]
theorem nF_split (l : List ThingM) (p : ThingM → Bool) : nF (l.filter fun x => !p x) + nF (l.filter p) = nF l := by
  unfold nF
  induction l with
  | nil => rfl
  | cons a l ih =>
    cases hp : p a <;> cases hf : fineT a <;> simp [hp, hf] at ih ⊢ <;> omega
theorem nR_filter (l : List ThingM) (p : ThingM → Bool) (r : Int) : nR (l.filter p) r ≤ nR l r := by
  unfold nR
  exact ((List.filter_sublist (p := p) (l := l)).filter _).length_le
theorem loseS_ok (h : SOk N S) (ho : 0 ≤ o ∧ o ≤ 200) (p : ThingM → Bool) : SOk N (loseS S o p) ∧ (loseS S o p).fine ≤ S.fine ∧ thgs (loseS S o p).m o = (thgs S.m o).filter (fun x => !p x) ∧ (∀ o', o' ≠ o → thgs (loseS S o p).m o' = thgs S.m o') ∧ tot (loseS S o p).m ≤ tot S.m ∧ tot (loseS S o p).m + ((thgs S.m o).filter p).length = tot S.m ∧ (loseS S o p).each = S.each ∧ (loseS S o p).all = S.all ∧ (loseS S o p).csn = S.csn := by
  unfold loseS
  cases hf : afind S.m o with
  | none =>
    have hz := thgs_none hf
    dsimp only
    exact ⟨h, by omega, by rw [hz]; rfl, fun _ _ => rfl, Nat.le_refl _, by rw [hz]; simp, rfl, rfl, rfl⟩
  | some l =>
    have hz := thgs_some hf
    have h1 := nF_split l p
    have h2 := List.length_filter_le (fun x => !p x) l
    have hk := h.put (o := o) ho (l := l.filter fun x => !p x) (f := S.fine - (nF (l.filter p) : Int)) ((h.tnd o l hf).sublist List.filter_sublist) (fun x hx => h.kind o l hf x (List.mem_filter.1 hx).1) (fun x hx hfx hr => h.one o l hf x (List.mem_filter.1 hx).1 hfx (List.mem_filter.1 hr).1)
      (fun r => by have := nR_filter l (fun x => !p x) r; have := h.each o l hf r; omega) (by rw [hz]; omega) (by have := h.all; omega) (N' := N) (by rw [hz]; have := h.bnd; omega)
    have hlen : (l.filter fun x => !p x).length + (l.filter p).length = l.length := by
      clear h1 h2 hk hz hf
      induction l with
      | nil => rfl
      | cons a l ih => cases hp : p a <;> simp [List.filter_cons, hp] <;> omega
    have ht := tot_aput h.nd o (l.filter fun x => !p x)
    rw [hz] at ht ⊢
    refine ⟨hk, by simp only; omega, by simp only; rw [thgs_aput, if_pos rfl], fun o' ho' => by simp only; rw [thgs_aput, if_neg ho'], by simp only; omega, by simp only; omega, rfl, rfl, rfl⟩
theorem wholeS_ok (h : SOk N S) (ho : 0 ≤ o ∧ o ≤ 200) {x : ThingM} (hx : 1 ≤ x.kind ∧ x.kind ≤ 2) : SOk (N + 1) (wholeS S o x) ∧ tot (wholeS S o x).m ≤ tot S.m + 1 ∧ x ∈ thgs (wholeS S o x).m o ∧ (∀ y ∈ thgs S.m o, y ∈ thgs (wholeS S o x).m o ∨ (x.kind = 2 ∧ fineT y = true ∧ y.rel = x.rel)) ∧ (∀ y ∈ thgs (wholeS S o x).m o, y = x ∨ (y ∈ thgs S.m o ∧ ¬ (x.kind = 2 ∧ fineT y = true ∧ y.rel = x.rel))) ∧ (∀ o', o' ≠ o → thgs (wholeS S o x).m o' = thgs S.m o') ∧ (wholeS S o x).each = S.each ∧ (wholeS S o x).all = S.all ∧ (wholeS S o x).csn = S.csn := by
  have hfx : fineT x = false := by
    unfold fineT
    have h1 : ¬ x.kind = 3 := by omega
    have h2 : ¬ x.kind = 4 := by omega
    simp [h1, h2]
  unfold wholeS
  generalize hS1 : (if x.kind = 2 then loseS S o fun y => fineT y && decide (y.rel = x.rel) else S) = S1
  have h1 : SOk N S1 ∧ tot S1.m ≤ tot S.m ∧ (∀ y, y ∈ thgs S1.m o ↔ y ∈ thgs S.m o ∧ ¬ (x.kind = 2 ∧ fineT y = true ∧ y.rel = x.rel)) ∧ (∀ o', o' ≠ o → thgs S1.m o' = thgs S.m o') ∧ S1.each = S.each ∧ S1.all = S.all ∧ S1.csn = S.csn := by
    by_cases hk : x.kind = 2
    · rw [if_pos hk] at hS1
      obtain ⟨a1, a2, a3, a4, a5, a6, a7, a8, a9⟩ := loseS_ok h ho fun y => fineT y && decide (y.rel = x.rel)
      rw [hS1] at a1 a2 a3 a4 a5 a6 a7 a8 a9
      refine ⟨a1, a5, fun y => ?_, a4, a7, a8, a9⟩
      rw [a3, List.mem_filter]
      simp [hk]
      intro _
      cases fineT y <;> simp
    · rw [if_neg hk] at hS1
      subst hS1
      exact ⟨h, Nat.le_refl _, fun y => ⟨fun hy => ⟨hy, fun hc => hk hc.1⟩, fun hy => hy.1⟩, fun _ _ => rfl, rfl, rfl, rfl⟩
  obtain ⟨b1, b2, b3, b4, b5, b6, b7⟩ := h1
  simp only
  by_cases hin : x ∈ thgs S1.m o
  · rw [if_pos hin]
    refine ⟨⟨b1.nd, b1.own, b1.tnd, b1.kind, b1.one, b1.each, b1.fine, b1.all, b1.ea, b1.al, by have := b1.bnd; omega⟩, by omega, hin, fun y hy => ?_, fun y hy => Or.inr ((b3 y).1 hy), b4, b5, b6, b7⟩
    by_cases hc : x.kind = 2 ∧ fineT y = true ∧ y.rel = x.rel
    · exact Or.inr hc
    · exact Or.inl ((b3 y).2 ⟨hy, hc⟩)
  · rw [if_neg hin]
    obtain ⟨t1, t2, t3, t4⟩ := b1.thg o
    have hthg : thgs (addS S1 o x 0).m o = thgs S1.m o ++ [x] := by unfold addS; simp only; rw [thgs_aput, if_pos rfl]
    have ht := tot_aput b1.nd o (thgs S1.m o ++ [x])
    simp only [List.length_append, List.length_cons, List.length_nil] at ht
    have hmm : ∀ y, y ∈ thgs S1.m o ++ [x] ↔ y ∈ thgs S1.m o ∨ y = x := fun y => by simp
    have hok : SOk (N + 1) (addS S1 o x 0) := by
      unfold addS
      refine b1.put ho ?_ (fun y hy => ?_) (fun y hy hfy hr => ?_) (fun r => ?_) ?_ (by have := b1.all; omega) (by have := b1.bnd; simp; omega)
      · rw [List.nodup_append]
        refine ⟨t1, by simp, fun a ha b hb e => ?_⟩
        simp at hb
        exact hin (hb ▸ e ▸ ha)
      · rcases (hmm y).1 hy with hy | hy
        · exact t2 y hy
        · subst hy; omega
      · rcases (hmm y).1 hy with hy | hy
        · rcases (hmm _).1 hr with hr | hr
          · exact t3 y hy hfy hr
          · have h2 := ((b3 y).1 hy).2
            refine h2 ⟨?_, hfy, ?_⟩
            · rw [← hr]; rfl
            · rw [← hr]; rfl
        · subst hy; rw [hfx] at hfy; cases hfy
      · have : nR (thgs S1.m o ++ [x]) r = nR (thgs S1.m o) r := by unfold nR; rw [List.filter_append]; simp [hfx]
        rw [this]
        exact t4 r
      · rw [nF_app]
        have : nF [x] = 0 := by unfold nF; simp [hfx]
        omega
    refine ⟨hok, ?_, by rw [hthg]; simp, fun y hy => ?_, fun y hy => ?_, fun o' ho' => ?_, b5, b6, b7⟩
    · unfold addS; simp only; omega
    · rw [hthg]
      by_cases hc : x.kind = 2 ∧ fineT y = true ∧ y.rel = x.rel
      · exact Or.inr hc
      · exact Or.inl (List.mem_append_left _ ((b3 y).2 ⟨hy, hc⟩))
    · rw [hthg] at hy
      rcases (hmm y).1 hy with hy | hy
      · exact Or.inr ((b3 y).1 hy)
      · exact Or.inl hy
    · unfold addS
      simp only
      rw [thgs_aput, if_neg ho', b4 o' ho']
/-- A thing is taken. -/
theorem takeS_ok (h : SOk N S) (ho : 0 ≤ o ∧ o ≤ 200) (x : ThingM) : SOk (N + 1) (takeS S o x) ∧ tot (takeS S o x).m ≤ tot S.m + 1 ∧ (∀ o', o' ≠ o → thgs (takeS S o x).m o' = thgs S.m o') ∧ (takeS S o x).each = S.each ∧ (takeS S o x).all = S.all ∧ (takeS S o x).csn = S.csn := by
  have hup : ∀ {S : SM}, SOk N S → SOk (N + 1) S := fun b1 => ⟨b1.nd, b1.own, b1.tnd, b1.kind, b1.one, b1.each, b1.fine, b1.all, b1.ea, b1.al, by have := b1.bnd; omega⟩
  unfold takeS
  by_cases hk : x.kind < 1 ∨ x.kind > 4
  · rw [if_pos hk]
    exact ⟨hup h, by omega, fun _ _ => rfl, rfl, rfl, rfl⟩
  rw [if_neg hk]
  obtain ⟨a1, a2, a3, a4, a5, a6, a7, a8⟩ := bornS_ok h ho
  generalize bornS S o = S1 at a1 a2 a3 a4 a5 a6 a7 a8
  simp only
  by_cases hin : x ∈ thgs S1.m o ∨ (fineT x = true ∧ relT x ∈ thgs S1.m o)
  · rw [if_pos hin]
    exact ⟨hup a1, by omega, fun o' _ => a2 o', a4, a5, a7⟩
  rw [if_neg hin]
  have hin1 : x ∉ thgs S1.m o := fun e => hin (Or.inl e)
  by_cases hf : fineT x = true
  · have hin2 : relT x ∉ thgs S1.m o := fun e => hin (Or.inr ⟨hf, e⟩)
    rw [if_pos hf]
    by_cases hc : (nR (thgs S1.m o) x.rel : Int) < S1.each ∧ S1.fine < S1.all
    · rw [if_pos hc]
      obtain ⟨t1, t2, t3, t4⟩ := a1.thg o
      have ht := tot_aput a1.nd o (thgs S1.m o ++ [x])
      simp only [List.length_append, List.length_cons, List.length_nil] at ht
      have hmm : ∀ y, y ∈ thgs S1.m o ++ [x] ↔ y ∈ thgs S1.m o ∨ y = x := fun y => by simp
      have hrx : ∀ y, relT y ≠ x := fun y e => by
        have : fineT (relT y) = false := rfl
        rw [e, hf] at this
        cases this
      refine ⟨?_, ?_, fun o' ho' => ?_, a4, a5, a7⟩
      · unfold addS
        refine a1.put ho ?_ (fun y hy => ?_) (fun y hy hfy hr => ?_) (fun r => ?_) ?_ (by omega) (by have := a1.bnd; simp; omega)
        · rw [List.nodup_append]
          refine ⟨t1, by simp, fun a ha b hb e => ?_⟩
          simp at hb
          exact hin1 (hb ▸ e ▸ ha)
        · rcases (hmm y).1 hy with hy | hy
          · exact t2 y hy
          · subst hy; omega
        · rcases (hmm _).1 hr with hr2 | hr2
          · rcases (hmm y).1 hy with hy | hy
            · exact t3 y hy hfy hr2
            · subst hy; exact hin2 hr2
          · exact hrx y hr2
        · have : nR (thgs S1.m o ++ [x]) r = nR (thgs S1.m o) r + if x.rel = r then 1 else 0 := by
            unfold nR
            rw [List.filter_append, List.length_append]
            by_cases e : x.rel = r <;> simp [hf, e]
          rw [this]
          have := t4 r
          by_cases e : x.rel = r
          · rw [if_pos e]; subst e; omega
          · rw [if_neg e]; omega
        · rw [nF_app]
          have : nF [x] = 1 := by unfold nF; simp [hf]
          omega
      · unfold addS; simp only; omega
      · unfold addS
        simp only
        rw [thgs_aput, if_neg ho', a2]
    · rw [if_neg hc]
      obtain ⟨c1, c2, _, _, _, c6, c7, c8, c9⟩ := wholeS_ok a1 ho (x := relT x) (by simp [relT])
      exact ⟨c1, by omega, fun o' ho' => by rw [c6 o' ho', a2], by rw [c7, a4], by rw [c8, a5], by rw [c9, a7]⟩
  · rw [if_neg hf]
    have hk12 : 1 ≤ x.kind ∧ x.kind ≤ 2 := by
      unfold fineT at hf
      simp at hf
      omega
    obtain ⟨c1, c2, _, _, _, c6, c7, c8, c9⟩ := wholeS_ok a1 ho hk12
    exact ⟨c1, by omega, fun o' ho' => by rw [c6 o' ho', a2], by rw [c7, a4], by rw [c8, a5], by rw [c9, a7]⟩
end
end Go.Lift

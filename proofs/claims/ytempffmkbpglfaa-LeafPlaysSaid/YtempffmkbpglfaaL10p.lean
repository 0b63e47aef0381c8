/- Leaves in order: what stays, whatever keys come and go. -/
import Derived.Test.YtempffmkbpglfaaL10t
set_option linter.unusedSimpArgs false
set_option linter.unusedVariables false
namespace Go.Lift
open Go
def sb (l : List OneM) : List (Option ByteArray × OneM) := l.map fun p => (some p.bound, p)
def lb : List OneM → List (Option ByteArray × OneM)
  | [] => []
  | o :: l => (none, o) :: sb l
def lbOf : List OneM → OneM → Option ByteArray
  | [], _ => none
  | _ :: _, o => some o.bound
theorem lb_split (A : List OneM) (o : OneM) (B : List OneM) : lb (A ++ o :: B) = lb A ++ (lbOf A o, o) :: sb B := by
  cases A <;> simp [lb, sb, lbOf]
def leO (c : Option ByteArray) (k : ByteArray) : Prop := ∀ b, c = some b → sLt k b = false
def RB (a b : Option ByteArray × OneM) : Prop := ∃ bb, b.1 = some bb ∧ (∀ k ∈ a.2.keys, sLt k bb = true) ∧ ∀ ab, a.1 = some ab → sLt ab bb = true
def PB (a : Option ByteArray × OneM) : Prop := InOrder a.2.keys ∧ ∀ k ∈ a.2.keys, leO a.1 k
/-- Leaves in order: each leaf's keys are from its bound on, and below the next one's. -/
def WF (l : List OneM) : Prop := (lb l).Pairwise RB ∧ ∀ a ∈ lb l, PB a
theorem sLt_le {a b c : ByteArray} (h1 : sLt a b = true) (h2 : sLt c b = false) : sLt a c = true := by
  rcases sLt_total c b with e | e | e
  · subst e; exact h1
  · rw [e] at h2; cases h2
  · exact sLt_trans h1 e
theorem sLe_trans {a b c : ByteArray} (h1 : sLt b a = false) (h2 : sLt c b = false) : sLt c a = false := by
  cases h : sLt c a with
  | false => rfl
  | true => rw [sLt_le h h1] at h2; cases h2
structure WFs (A : List OneM) (o : OneM) (B : List OneM) : Prop where
  pa : (lb A).Pairwise RB
  qa : ∀ a ∈ lb A, PB a
  po : PB (lbOf A o, o)
  ao : ∀ a ∈ lb A, RB a (lbOf A o, o)
  ob : ∀ p ∈ B, RB (lbOf A o, o) (some p.bound, p)
  pb : (sb B).Pairwise RB
  qb : ∀ p ∈ B, PB (some p.bound, p)
  ab : ∀ a ∈ lb A, ∀ p ∈ B, RB a (some p.bound, p)
theorem mem_sb {B : List OneM} {x : Option ByteArray × OneM} : x ∈ sb B ↔ ∃ p ∈ B, x = (some p.bound, p) := by
  unfold sb
  rw [List.mem_map]
  constructor
  · rintro ⟨p, hp, rfl⟩; exact ⟨p, hp, rfl⟩
  · rintro ⟨p, hp, rfl⟩; exact ⟨p, hp, rfl⟩
theorem wf_split {A : List OneM} {o : OneM} {B : List OneM} : WF (A ++ o :: B) ↔ WFs A o B := by
  unfold WF
  rw [lb_split, List.pairwise_append, List.pairwise_cons]
  constructor
  · rintro ⟨⟨h1, ⟨h2, h3⟩, h4⟩, h5⟩
    exact ⟨h1, fun a ha => h5 a (List.mem_append_left _ ha), h5 _ (by simp), fun a ha => h4 a ha _ (by simp), fun p hp => h2 _ (mem_sb.2 ⟨p, hp, rfl⟩), h3,
      fun p hp => h5 _ (List.mem_append_right _ (List.mem_cons_of_mem _ (mem_sb.2 ⟨p, hp, rfl⟩))), fun a ha p hp => h4 a ha _ (List.mem_cons_of_mem _ (mem_sb.2 ⟨p, hp, rfl⟩))⟩
  · intro w
    refine ⟨⟨w.pa, ⟨fun x hx => ?_, w.pb⟩, fun a ha x hx => ?_⟩, fun x hx => ?_⟩
    · obtain ⟨p, hp, rfl⟩ := mem_sb.1 hx
      exact w.ob p hp
    · rcases List.mem_cons.1 hx with rfl | hx
      · exact w.ao a ha
      · obtain ⟨p, hp, rfl⟩ := mem_sb.1 hx
        exact w.ab a ha p hp
    · rcases List.mem_append.1 hx with hx | hx
      · exact w.qa x hx
      · rcases List.mem_cons.1 hx with rfl | hx
        · exact w.po
        · obtain ⟨p, hp, rfl⟩ := mem_sb.1 hx
          exact w.qb p hp
theorem wf_set {A : List OneM} {o : OneM} {B : List OneM} (w : WFs A o B) {K : List ByteArray} (h1 : InOrder K) (h2 : ∀ k ∈ K, leO (lbOf A o) k) (h3 : ∀ k ∈ K, ∀ p ∈ B, sLt k p.bound = true) : WFs A { o with keys := K } B := by
  have e : lbOf A { o with keys := K } = lbOf A o := by cases A <;> rfl
  refine ⟨w.pa, w.qa, ?_, ?_, ?_, w.pb, w.qb, w.ab⟩
  · rw [e]; exact ⟨h1, h2⟩
  · intro a ha
    obtain ⟨bb, g1, g2, g3⟩ := w.ao a ha
    exact ⟨bb, by rw [e]; exact g1, g2, g3⟩
  · intro p hp
    obtain ⟨bb, g1, g2, g3⟩ := w.ob p hp
    cases g1
    exact ⟨p.bound, rfl, fun k hk => h3 k hk p hp, by rw [e]; exact g3⟩
theorem wf_cut {A : List OneM} {o : OneM} {B : List OneM} (w : WFs A o B) {cut : Nat} (n : Int) (h0 : 0 < cut) (hc : cut < o.keys.length) : WF (A ++ { o with keys := o.keys.take cut } :: ⟨n, o.keys[cut], o.keys.drop cut⟩ :: B) := by
  have e : lbOf A { o with keys := o.keys.take cut } = lbOf A o := by cases A <;> rfl
  have hin := List.pairwise_iff_getElem.1 w.po.1
  simp only at hin
  have hcm : o.keys[cut] ∈ o.keys := List.getElem_mem _
  have h00 : sLt o.keys[0] o.keys[cut] = true := hin 0 cut (by omega) hc h0
  have hlow : ∀ c, lbOf A o = some c → sLt c o.keys[cut] = true := by
    intro c hc'
    have := w.po.2 o.keys[0] (List.getElem_mem _) c hc'
    rcases sLt_total c o.keys[0] with g | g | g
    · subst g; exact h00
    · exact sLt_trans g h00
    · rw [g] at this; cases this
  have htk : ∀ k ∈ o.keys.take cut, sLt k o.keys[cut] = true := by
    intro k hk
    obtain ⟨j, hj, rfl⟩ := List.getElem_of_mem hk
    rw [List.getElem_take]
    rw [List.length_take] at hj
    exact hin j cut (by omega) hc (by omega)
  have hdr : ∀ k ∈ o.keys.drop cut, sLt k o.keys[cut] = false := by
    intro k hk
    obtain ⟨j, hj, rfl⟩ := List.getElem_of_mem hk
    rw [List.getElem_drop]
    rw [List.length_drop] at hj
    rcases Nat.eq_zero_or_pos j with g | g
    · subst g; exact sLt_irrefl _
    · exact sLt_asymm (hin cut (cut + j) hc (by omega) (by omega))
  refine wf_split.2 ⟨w.pa, w.qa, ?_, ?_, ?_, ?_, ?_, ?_⟩
  · rw [e]
    exact ⟨w.po.1.sublist (List.take_sublist _ _), fun k hk => w.po.2 k (List.mem_of_mem_take hk)⟩
  · intro a ha
    obtain ⟨bb, g1, g2, g3⟩ := w.ao a ha
    exact ⟨bb, by rw [e]; exact g1, g2, g3⟩
  · intro p hp
    rcases List.mem_cons.1 hp with rfl | hp
    · exact ⟨_, rfl, htk, fun ab hab => hlow ab (by rw [e] at hab; exact hab)⟩
    · obtain ⟨bb, g1, g2, g3⟩ := w.ob p hp
      cases g1
      exact ⟨p.bound, rfl, fun k hk => g2 k (List.mem_of_mem_take hk), by rw [e]; exact g3⟩
  · unfold sb
    rw [List.map_cons, List.pairwise_cons]
    refine ⟨fun x hx => ?_, w.pb⟩
    obtain ⟨p, hp, rfl⟩ := mem_sb.1 hx
    obtain ⟨bb, g1, g2, g3⟩ := w.ob p hp
    cases g1
    exact ⟨p.bound, rfl, fun k hk => g2 k (List.mem_of_mem_drop hk), fun ab hab => by cases hab; exact g2 _ hcm⟩
  · intro p hp
    rcases List.mem_cons.1 hp with rfl | hp
    · exact ⟨w.po.1.sublist (List.drop_sublist _ _), fun k hk b hb => by cases hb; exact hdr k hk⟩
    · exact w.qb p hp
  · intro a ha p hp
    rcases List.mem_cons.1 hp with rfl | hp
    · obtain ⟨bb, g1, g2, g3⟩ := w.ao a ha
      have := hlow bb g1
      exact ⟨_, rfl, fun k hk => sLt_trans (g2 k hk) this, fun ab hab => sLt_trans (g3 ab hab) this⟩
    · exact w.ab a ha p hp
theorem wf_del {A : List OneM} {o : OneM} {B : List OneM} (w : WFs A o B) : WF (A ++ B) := by
  cases B with
  | nil => rw [List.append_nil]; exact ⟨w.pa, w.qa⟩
  | cons p B =>
    have h1 := w.pb
    unfold sb at h1
    rw [List.map_cons, List.pairwise_cons] at h1
    refine wf_split.2 ⟨w.pa, w.qa, ⟨(w.qb p (by simp)).1, ?_⟩, ?_, ?_, h1.2, fun q hq => w.qb q (List.mem_cons_of_mem _ hq), fun a ha q hq => w.ab a ha q (List.mem_cons_of_mem _ hq)⟩
    · intro k hk b hb
      cases A with
      | nil => cases hb
      | cons a A => exact (w.qb p (by simp)).2 k hk b hb
    · intro a ha
      cases A with
      | nil => cases ha
      | cons a' A => exact w.ab a ha p (by simp)
    · intro q hq
      obtain ⟨bb, g1, g2, g3⟩ := h1.1 _ (mem_sb.2 ⟨q, hq, rfl⟩)
      refine ⟨bb, g1, g2, fun ab hab => ?_⟩
      cases A with
      | nil => cases hab
      | cons a A => exact g3 ab hab
/-- The number of a key's leaf. -/
def ofN : OneM → List OneM → ByteArray → Int
  | o, [], _ => o.n
  | o, p :: B, q => if sLt q p.bound = true then o.n else ofN p B q
def ofL : List OneM → ByteArray → Int
  | [], _ => 0
  | o :: l, q => ofN o l q
theorem not_gtB {a b : ByteArray} : (!gtB a b) = !sLt b a := by
  congr 1
  cases h : gtB a b with
  | true => exact (gtB_iff.1 h).symm
  | false =>
    cases h2 : sLt b a with
    | false => rfl
    | true => rw [gtB_iff.2 h2] at h; cases h
theorem ofN_at (q : ByteArray) : ∀ (l : List OneM) (o : OneM), ∃ h : (l.takeWhile fun p => !gtB p.bound q).length < (o :: l).length, ofN o l q = ((o :: l)[(l.takeWhile fun p => !gtB p.bound q).length]'h).n
  | [], o => ⟨by simp, by simp [ofN]⟩
  | p :: l, o => by
    obtain ⟨h1, h2⟩ := ofN_at q l p
    unfold ofN
    cases hq : sLt q p.bound with
    | true =>
      have e : ((p :: l).takeWhile fun p => !gtB p.bound q) = [] := by rw [List.takeWhile_cons, not_gtB, hq]; rfl
      rw [if_pos rfl]
      refine ⟨by rw [e]; simp, ?_⟩
      simp only [e]
      rfl
    | false =>
      have e : ((p :: l).takeWhile fun p => !gtB p.bound q) = p :: (l.takeWhile fun p => !gtB p.bound q) := by rw [List.takeWhile_cons, not_gtB, hq]; rfl
      rw [if_neg (by decide)]
      refine ⟨by rw [e]; simp only [List.length_cons] at h1 ⊢; omega, ?_⟩
      rw [h2]
      simp only [e, List.length_cons, List.getElem_cons_succ]
theorem ofL_at {l : List OneM} (hne : l ≠ []) (q : ByteArray) : (l[atL l q]'(atL_lt hne q)).n = ofL l q := by
  cases l with
  | nil => exact absurd rfl hne
  | cons o l =>
    obtain ⟨h1, h2⟩ := ofN_at q l o
    show _ = ofN o l q
    rw [h2]
    rfl
theorem wf_tail {A : List OneM} {o : OneM} {B : List OneM} {a : OneM} (w : WFs (a :: A) o B) : ∀ p ∈ A, sLt p.bound o.bound = true := by
  intro p hp
  obtain ⟨bb, g1, g2, g3⟩ := w.ao (some p.bound, p) (by unfold lb; exact List.mem_cons_of_mem _ (mem_sb.2 ⟨p, hp, rfl⟩))
  cases g1
  exact g3 _ rfl
theorem ofN_app (q : ByteArray) (o : OneM) (B : List OneM) : ∀ (A : List OneM) (a : OneM), (∀ p ∈ A, sLt p.bound o.bound = true) → ofN a (A ++ o :: B) q = if sLt q o.bound = true then ofN a A q else ofN o B q
  | [], a, _ => by simp [ofN]
  | p :: A, a, h => by
    have e1 : ∀ l, ofN a (p :: l) q = if sLt q p.bound = true then a.n else ofN p l q := fun _ => rfl
    rw [List.cons_append, e1, e1, ofN_app q o B A p fun r hr => h r (List.mem_cons_of_mem _ hr)]
    cases h1 : sLt q p.bound with
    | true => rw [if_pos rfl, if_pos rfl, sLt_trans h1 (h p (by simp)), if_pos rfl]
    | false => simp
theorem ofL_app (q : ByteArray) {A : List OneM} {o : OneM} {B : List OneM} {a : OneM} (w : WFs (a :: A) o B) : ofL (a :: A ++ o :: B) q = if sLt q o.bound = true then ofN a A q else ofN o B q :=
  ofN_app q o B A a (wf_tail w)
/-- Where a key's leaf stands. -/
theorem at_iff {A : List OneM} {o : OneM} {B : List OneM} (w : WFs A o B) (k : ByteArray) : atL (A ++ o :: B) k = A.length ↔ leO (lbOf A o) k ∧ ∀ p ∈ B, sLt k p.bound = true := by
  have hpb : ∀ j (hj : j < B.length) j2 (hj2 : j2 < B.length), j < j2 → sLt B[j].bound B[j2].bound = true := by
    intro j hj j2 hj2 hlt
    have := List.pairwise_iff_getElem.1 w.pb j j2 (by simpa [sb] using hj) (by simpa [sb] using hj2) hlt
    simp only [sb, List.getElem_map] at this
    obtain ⟨bb, g1, g2, g3⟩ := this
    cases g1
    exact g3 _ rfl
  constructor
  · intro h
    have stop : ∀ (l : List OneM) (n : Nat), (l.takeWhile fun p => !gtB p.bound k).length = n → (∀ j (hj : j < l.length), j < n → sLt k l[j].bound = false) ∧ ∀ hn : n < l.length, sLt k l[n].bound = true := by
      intro l
      induction l with
      | nil => intro n _; exact ⟨fun j hj => by simp at hj, fun hn => by simp at hn⟩
      | cons p l ih =>
        intro n hn
        rw [List.takeWhile_cons, not_gtB] at hn
        cases hq : sLt k p.bound with
        | true =>
          rw [hq, if_neg (by decide)] at hn
          subst hn
          exact ⟨fun j _ hj => by simp at hj, fun _ => hq⟩
        | false =>
          rw [hq, if_pos (by decide), List.length_cons] at hn
          obtain ⟨h1, h2⟩ := ih (n - 1) (by omega)
          refine ⟨fun j hj hjn => ?_, fun hn2 => ?_⟩
          · cases j with
            | zero => exact hq
            | succ j => exact h1 j (by simpa using hj) (by omega)
          · cases n with
            | zero => omega
            | succ n => exact h2 (by simpa using hn2)
    unfold atL at h
    cases A with
    | nil =>
      simp only [List.nil_append, List.tail_cons, List.length_nil] at h
      obtain ⟨_, h2⟩ := stop _ _ h
      refine ⟨fun b hb => (by cases hb), fun p hp => ?_⟩
      obtain ⟨j, hj, rfl⟩ := List.getElem_of_mem hp
      have h3 := h2 (by omega)
      rcases Nat.eq_zero_or_pos j with g | g
      · subst g; exact h3
      · exact sLt_trans h3 (hpb 0 (by omega) j hj g)
    | cons a A =>
      simp only [List.cons_append, List.tail_cons, List.length_cons] at h
      obtain ⟨h1, h2⟩ := stop _ _ h
      refine ⟨fun b hb => ?_, fun p hp => ?_⟩
      · have := h1 A.length (by simp) (by omega)
        simp at this
        cases hb
        exact this
      · obtain ⟨j, hj, rfl⟩ := List.getElem_of_mem hp
        have h3 := h2 (by simp; omega)
        rw [List.getElem_append_right (by omega)] at h3
        simp only [show A.length + 1 - A.length = 0 + 1 by omega, List.getElem_cons_succ] at h3
        rcases Nat.eq_zero_or_pos j with g | g
        · subst g; exact h3
        · exact sLt_trans h3 (hpb 0 (by omega) j hj g)
  · rintro ⟨h1, h2⟩
    unfold atL
    cases A with
    | nil =>
      simp only [List.nil_append, List.tail_cons, List.length_nil]
      refine tw_len _ _ 0 (fun j _ hj => by omega) (by omega) fun hn => ?_
      rw [not_gtB, h2 _ (List.getElem_mem _)]
      rfl
    | cons a A =>
      simp only [List.cons_append, List.tail_cons, List.length_cons]
      have ho := h1 o.bound rfl
      refine tw_len _ _ _ (fun j hj hjn => ?_) (by simp) fun hn => ?_
      · rw [not_gtB]
        rcases (by omega : j < A.length ∨ j = A.length) with g | g
        · rw [List.getElem_append_left g]
          have := wf_tail w A[j] (List.getElem_mem _)
          rw [show sLt k A[j].bound = false from by
            cases h3 : sLt k A[j].bound with
            | false => rfl
            | true => rw [sLt_trans h3 this] at ho; cases ho]
          rfl
        · subst g
          simp [ho]
      · rw [not_gtB, List.getElem_append_right (by omega)]
        simp only [show A.length + 1 - A.length = 0 + 1 by omega, List.getElem_cons_succ]
        rw [h2 _ (List.getElem_mem _)]
        rfl
/-- A list of leaves, and where a key's leaf stands in it. -/
theorem at_split {l : List OneM} (hw : WF l) (hne : l ≠ []) (k : ByteArray) : ∃ A o B, l = A ++ o :: B ∧ atL l k = A.length ∧ WFs A o B ∧ leO (lbOf A o) k ∧ (∀ p ∈ B, sLt k p.bound = true) ∧ l[atL l k]'(atL_lt hne k) = o := by
  have hlt := atL_lt hne k
  have e : l = l.take (atL l k) ++ l[atL l k] :: l.drop (atL l k + 1) := by
    conv => lhs; rw [← List.take_append_drop (atL l k) l]
    rw [List.drop_eq_getElem_cons hlt]
  have hlen : (l.take (atL l k)).length = atL l k := by simp; omega
  have w := hw
  rw [e] at w
  have w' := wf_split.1 w
  have h2 := (at_iff w' k).1 (by rw [← e, hlen])
  exact ⟨_, _, _, e, hlen.symm, w', h2.1, h2.2, rfl⟩
end Go.Lift

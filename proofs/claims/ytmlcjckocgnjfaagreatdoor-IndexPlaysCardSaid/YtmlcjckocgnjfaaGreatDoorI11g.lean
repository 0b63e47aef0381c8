/- An index, as a list of the steps that were added and stay: what is found by a value, and between two. -/
import Derived.Test.YtmlcjckocgnjfaaGreatDoorI11f
set_option linter.unusedSimpArgs false
set_option linter.unusedVariables false
namespace Go.Lift
open Go Go.Proofs Go.RowKit
set_option maxRecDepth 100000
structure StepI where
  kind : Int
  tid : Int
  v : V4
  w : V4
abbrev encS (s : StepI) : List Value := [.int .i64 s.kind, .int .i64 s.tid, .int .i64 s.v.k, .int .i64 s.v.n, .float .f64 s.v.f, .string s.v.s, .int .i64 s.w.k, .int .i64 s.w.n, .float .f64 s.w.f, .string s.w.s]
def keyI (s : StepI) : ByteArray := (entryP s.v s.tid).1
structure GoodS (s : StepI) : Prop where
  ok : VOk s.v
  good : goodX s.v = true
  lo : 0 ≤ s.tid
  hi : s.tid ≤ 65535
structure InI (M : LeafM) (L : List StepI) : Prop where
  perm : (ksM M).Perm (L.map keyI)
  good : ∀ s ∈ L, GoodS s
theorem entry_iff {v : V4} {t : Int} : (entryP v t).2 = 0 ↔ goodX v = true ∧ 0 ≤ t ∧ t ≤ 65535 := by
  unfold entryP
  by_cases hg : goodX v = true
  · rw [if_pos hg]
    by_cases ht : t < 0 ∨ t > 65535
    · rw [if_pos ht]
      refine ⟨fun h => absurd h (by simp), fun h => by omega⟩
    · rw [if_neg ht]
      exact ⟨fun _ => ⟨hg, by omega⟩, fun _ => rfl⟩
  · rw [if_neg hg]
    exact ⟨fun h => absurd h (by simp), fun h => absurd h.1 hg⟩
theorem keyI_of {s : StepI} (g : GoodS s) : keyI s = ofBtl (encX s.v ++ beL 2 s.tid.toNat) := by
  unfold keyI entryP
  rw [if_pos g.good, if_neg (by have := g.lo; have := g.hi; omega)]
theorem keyI_eq {s t : StepI} (g : GoodS s) (g' : GoodS t) : keyI s = keyI t ↔ s.tid = t.tid ∧ cmpV s.v t.v = 0 := by
  have h1 := g.lo
  have h2 := g.hi
  have h3 := g'.lo
  have h4 := g'.hi
  have e := ent_eq g.ok g'.ok g.good g'.good (m := s.tid.toNat) (n := t.tid.toNat) (by omega) (by omega)
  rw [keyI_of g, keyI_of g']
  constructor
  · intro h
    have h' : encX s.v ++ beL 2 s.tid.toNat = encX t.v ++ beL 2 t.tid.toNat := by rw [← btl_ofBtl (encX s.v ++ _), h, btl_ofBtl]
    rw [h'] at e
    by_cases hc : cmpV s.v t.v = 0
    · rw [if_pos hc] at e
      have : decide (s.tid.toNat = t.tid.toNat) = true := by rw [← e]; simp
      have := of_decide_eq_true this
      exact ⟨by omega, hc⟩
    · rw [if_neg hc] at e
      simp at e
  · rintro ⟨ht, hc⟩
    rw [if_pos hc, decide_eq_true (by omega)] at e
    rw [eq_of_beq e]
theorem keyI_lt {s t : StepI} (g : GoodS s) (g' : GoodS t) : sLt (keyI s) (keyI t) = if cmpV s.v t.v < 0 then true else if cmpV s.v t.v = 0 then decide (s.tid < t.tid) else false := by
  have h1 := g.lo
  have h2 := g.hi
  have h3 := g'.lo
  have h4 := g'.hi
  rw [keyI_of g, keyI_of g']
  unfold sLt
  rw [tl_ofBtl, tl_ofBtl, ent_lt g.ok g'.ok g.good g'.good (by omega) (by omega)]
  have : decide (s.tid.toNat < t.tid.toNat) = decide (s.tid < t.tid) := by
    by_cases h : s.tid < t.tid
    · rw [decide_eq_true h, decide_eq_true (by omega)]
    · rw [decide_eq_false h, decide_eq_false (by omega)]
  rw [this]
theorem ord_nodup {xs : List ByteArray} (h : InOrder xs) : xs.Nodup := h.imp fun {a b} hab e => by
  rw [e, sLt_irrefl] at hab
  cases hab
theorem InI.nd {M : LeafM} {L : List StepI} {n : Nat} (hi : InI M L) (ok : OkM M n) : (L.map keyI).Nodup := hi.perm.nodup_iff.1 (ord_nodup (flat_ord ok.wf))
/-- Does an entry stay when one is dropped? -/
def stayB (s o : StepI) : Bool := !(o.tid == s.tid) || (!goodX s.v || !(cmpV o.v s.v == 0))
def nextI (M : LeafM) (L : List StepI) (s : StepI) : LeafM × List StepI :=
  if s.kind = 0 then ((addM M s.v s.tid).1, if (addM M s.v s.tid).2.err = 0 then L ++ [s] else L) else ((dropM M s.v s.tid).1, L.filter (stayB s))
theorem stay_iff {s o : StepI} (g : GoodS s) (g' : GoodS o) : stayB s o = true ↔ keyI o ≠ keyI s := by
  unfold stayB
  rw [Ne, keyI_eq g' g, g.good]
  simp only [Bool.or_eq_true, Bool.not_eq_true', beq_eq_false_iff_ne, Bool.not_true, Bool.false_eq_true, false_or, beq_iff_eq, ne_eq]
  constructor
  · rintro (h | h) ⟨h1, h2⟩
    · exact h h1
    · exact h h2
  · intro h
    by_cases h1 : o.tid = s.tid
    · exact Or.inr fun h2 => h ⟨h1, h2⟩
    · exact Or.inl h1
theorem next_ok {M : LeafM} {L : List StepI} {n : Nat} (ok : OkM M n) (hi : InI M L) {s : StepI} (hv : VOk s.v) : OkM (nextI M L s).1 (n + 1) ∧ InI (nextI M L s).1 (nextI M L s).2 := by
  unfold nextI
  by_cases hk : s.kind = 0
  · rw [if_pos hk]
    unfold addM
    by_cases he : (entryP s.v s.tid).2 = 0
    · rw [if_pos he]
      have hg := entry_iff.1 he
      refine ⟨(ins_ok ok _).1, ?_⟩
      rcases insP ok (entryP s.v s.tid).1 with ⟨h1, h2, h3⟩ | ⟨h1, h2⟩
      · simp only
        rw [if_pos h1]
        refine ⟨h3.trans ?_, fun o ho => ?_⟩
        · rw [List.map_append, List.map_cons, List.map_nil]
          exact (hi.perm.cons _).trans (List.perm_append_comm (l₁ := [keyI s]))
        · rcases List.mem_append.1 ho with g | g
          · exact hi.good o g
          · rw [List.mem_singleton.1 g]
            exact ⟨hv, hg.1, hg.2.1, hg.2.2⟩
      · simp only
        rw [if_neg h1, h2]
        exact hi
    · rw [if_neg he]
      simp only
      rw [if_neg (by unfold noDid; exact he)]
      exact ⟨ok.up, hi⟩
  · rw [if_neg hk]
    unfold dropM
    by_cases he : (entryP s.v s.tid).2 = 0
    · rw [if_pos he]
      have hg := entry_iff.1 he
      have gs : GoodS s := ⟨hv, hg.1, hg.2.1, hg.2.2⟩
      refine ⟨(rem_ok ok _).1, ?_, fun o ho => hi.good o (List.mem_filter.1 ho).1⟩
      simp only
      have hnd := hi.nd ok
      rcases remP ok (entryP s.v s.tid).1 with h1 | ⟨h1, h2⟩
      · have hp : (L.map keyI).Perm (keyI s :: ksM (M.rem (entryP s.v s.tid).1).1) := hi.perm.symm.trans h1
        have hm : keyI s ∈ L.map keyI := hp.symm.subset (by simp)
        obtain ⟨o, ho, hko⟩ := List.mem_map.1 hm
        obtain ⟨A, B, rfl⟩ := List.append_of_mem ho
        have hp2 : ((A ++ B).map keyI).Perm (ksM (M.rem (entryP s.v s.tid).1).1) := by
          rw [List.map_append, List.map_cons, hko] at hp
          rw [List.map_append]
          exact (List.perm_middle.symm.trans hp).cons_inv
        have hnd2 := hnd
        rw [List.map_append, List.map_cons] at hnd2
        have hnot : keyI o ∉ A.map keyI ++ B.map keyI := (List.nodup_cons.1 (List.perm_middle.nodup_iff.1 hnd2)).1
        have hall : ∀ x ∈ A ++ B, stayB s x = true := fun x hx => by
          refine (stay_iff gs (hi.good x ?_)).2 fun e => hnot ?_
          · rcases List.mem_append.1 hx with g | g <;> simp [g]
          · rw [hko, ← e, ← List.map_append]
            exact List.mem_map.2 ⟨x, hx, rfl⟩
        have hfo : stayB s o = false := by
          rw [← Bool.not_eq_true]
          intro h
          exact (stay_iff gs (hi.good o ho)).1 h hko
        have : (A ++ o :: B).filter (stayB s) = A ++ B := by
          rw [List.filter_append, List.filter_cons, if_neg (by rw [hfo]; decide), ← List.filter_append]
          exact List.filter_eq_self.2 hall
        rw [this]
        exact hp2.symm
      · rw [h2]
        have : L.filter (stayB s) = L := List.filter_eq_self.2 fun o ho => (stay_iff gs (hi.good o ho)).2 fun e => h1 (hi.perm.symm.subset (List.mem_map.2 ⟨o, ho, e⟩))
        rw [this]
        exact hi.perm
    · rw [if_neg he]
      simp only
      have : L.filter (stayB s) = L := List.filter_eq_self.2 fun o ho => by
        have g := hi.good o ho
        unfold stayB
        by_cases hgd : goodX s.v = true
        · have hne : o.tid ≠ s.tid := fun e => he (entry_iff.2 ⟨hgd, e ▸ g.lo, e ▸ g.hi⟩)
          simp [hne]
        · simp [Bool.not_eq_true _ ▸ hgd]
      rw [this]
      exact ⟨ok.up, hi⟩
theorem InI.new (f : Int) : InI ⟨f, 2, [⟨1, ByteArray.mk #[], []⟩]⟩ [] := ⟨by simp, by simp⟩
theorem sz_of {s : StepI} (g : GoodS s) : (keyI s).size ≤ 2 ^ 40 := by
  rw [keyI_of g, ofBtl_size, List.length_append, beL_len]
  have := encX_len g.good
  omega
theorem InI.km {M : LeafM} {L : List StepI} (hi : InI M L) (hL : L.length ≤ 2 ^ 29) : KM M := by
  refine KM_of (fun k hk => ?_) ?_
  · obtain ⟨s, hs, rfl⟩ := List.mem_map.1 (hi.perm.subset hk)
    exact sz_of (hi.good s hs)
  · have := hi.perm.length_eq
    rw [List.length_map] at this
    exact this ▸ hL
theorem next_len {M : LeafM} {L : List StepI} (s : StepI) : (nextI M L s).2.length ≤ L.length + 1 := by
  unfold nextI
  split
  · simp only
    split
    · simp
    · omega
  · have := List.length_filter_le (stayB s) L
    simp only
    omega
theorem sum_in {M : LeafM} {L : List StepI} (hi : InI M L) : sumL M.l = (L.length : Int) := by
  rw [sumL_flat]
  have := hi.perm.length_eq
  rw [List.length_map] at this
  exact_mod_cast this
/-! What is found. -/
theorem entP_key {s : StepI} (g : GoodS s) : entP (keyI s) = some s.tid := by
  have h1 := g.lo
  have h2 := g.hi
  rw [keyI_of g, entP_of g.ok g.good (by omega)]
  congr 1
  omega
theorem tids_keys : ∀ {L : List StepI}, (∀ s ∈ L, GoodS s) → tidsL (L.map keyI) = L.map StepI.tid
  | [], _ => rfl
  | s :: L, h => by
    unfold tidsL
    rw [List.map_cons, List.filterMap_cons, entP_key (h s (by simp))]
    have := tids_keys (L := L) fun s hs => h s (by simp [hs])
    unfold tidsL at this
    rw [List.map_cons, this]
theorem cmpV_anti {a b : V4} (ha : VOk a) (hb : VOk b) (ga : goodX a = true) (gb : goodX b = true) : (cmpV a b < 0 ↔ 0 < cmpV b a) ∧ (cmpV a b = 0 ↔ a = b) := by
  rcases enc_tri ha hb ga gb with ⟨h1, h2⟩ | ⟨h1, h2⟩ | ⟨h1, h2⟩
  · rcases enc_tri hb ha gb ga with ⟨h3, h4⟩ | ⟨h3, h4⟩ | ⟨h3, h4⟩
    · have a1 := bl_part h2
      have a2 := bl_npart h4
      rw [a1] at a2
      cases a2
    · rw [h4] at h1
      rw [cmpV_self] at h1
      omega
    · exact ⟨⟨fun _ => h3, fun _ => h1⟩, ⟨fun h => by omega, fun h => by rw [h, cmpV_self] at h1; omega⟩⟩
  · subst h2
    rw [cmpV_self]
    exact ⟨⟨fun h => by omega, fun h => by omega⟩, ⟨fun _ => rfl, fun _ => rfl⟩⟩
  · refine ⟨⟨fun h => by omega, fun h => ?_⟩, ⟨fun h => by omega, fun h => by rw [h, cmpV_self] at h1; omega⟩⟩
    rcases enc_tri hb ha gb ga with ⟨h3, h4⟩ | ⟨h3, h4⟩ | ⟨h3, h4⟩
    · omega
    · rw [h4] at h1
      rw [cmpV_self] at h1
      omega
    · have a1 := bl_part h2
      have a2 := bl_npart h4
      rw [a1] at a2
      cases a2
theorem lt_from {s : StepI} (g : GoodS s) {v : V4} (hv : VOk v) (hg : goodX v = true) : sLt (keyI s) (entryP v 0).1 = decide (cmpV s.v v < 0) := by
  have h := keyI_lt g (t := ⟨0, 0, v, v⟩) ⟨hv, hg, by simp, by simp⟩
  have e : keyI (⟨0, 0, v, v⟩ : StepI) = (entryP v 0).1 := rfl
  rw [e] at h
  rw [h]
  simp only
  have := g.lo
  by_cases h1 : cmpV s.v v < 0
  · rw [if_pos h1, decide_eq_true h1]
  · rw [if_neg h1, decide_eq_false h1]
    split
    · exact decide_eq_false (by omega)
    · rfl
theorem lt_after {s : StepI} (g : GoodS s) {v : V4} (hv : VOk v) (hg : goodX v = true) (hc : 0 ≤ cmpV s.v v) : sLt (keyI s) (afterP v).1 = (cmpV s.v v == 0) := by
  have h1 := g.lo
  have h2 := g.hi
  rw [keyI_of g, afterP_good hg]
  unfold sLt
  rw [tl_ofBtl, tl_ofBtl]
  have an := cmpV_anti hv g.ok hg g.good
  have an2 := cmpV_anti g.ok hv g.good hg
  by_cases h0 : cmpV s.v v = 0
  · rw [aft_lt hv g.ok hg g.good (by omega) (an.2.2 (an2.2.1 h0).symm), h0]
    rfl
  · rw [aft_nlt hv g.ok hg g.good (an.1.2 (by omega))]
    simpa using h0
theorem list_ne {x : UInt8} {l : List UInt8} : ((ofBtl (x :: l)).toList == []) = false := by
  rw [tl_ofBtl]
  rfl
theorem from_ne {v : V4} (hg : goodX v = true) : ((entryP v 0).1.toList == []) = false := by
  have e : entryP v 0 = (ofBtl (encX v ++ beL 2 0), 0) := entryP_good (n := 0) hg (by omega)
  rw [e]
  unfold encX
  exact list_ne
theorem after_ne {v : V4} (hg : goodX v = true) : ((afterP v).1.toList == []) = false := by
  rw [afterP_good hg]
  unfold encX
  exact list_ne
theorem inR_find {s : StepI} (g : GoodS s) {v : V4} (hv : VOk v) (hg : goodX v = true) : inR (entryP v 0).1 (afterP v).1 (keyI s) = (cmpV s.v v == 0) := by
  unfold inR
  rw [after_ne hg, Bool.false_or, lt_from g hv hg]
  by_cases h1 : cmpV s.v v < 0
  · rw [decide_eq_true h1]
    have : (cmpV s.v v == 0) = false := by simp; omega
    rw [this]
    rfl
  · rw [decide_eq_false h1, lt_after g hv hg (by omega)]
    rfl
theorem inR_range {s : StepI} (g : GoodS s) {v w : V4} (hv : VOk v) (hg : goodX v = true) (hw : VOk w) (hgw : goodX w = true) : inR (entryP v 0).1 (entryP w 0).1 (keyI s) = (decide (0 ≤ cmpV s.v v) && decide (cmpV s.v w < 0)) := by
  unfold inR
  rw [from_ne hgw, Bool.false_or, lt_from g hv hg, lt_from g hw hgw]
  congr 1
  by_cases h1 : cmpV s.v v < 0
  · rw [decide_eq_true h1, decide_eq_false (by omega)]
    rfl
  · rw [decide_eq_false h1, decide_eq_true (by omega)]
    rfl
theorem keys_flt {M : LeafM} {L : List StepI} (hi : InI M L) {p : ByteArray → Bool} {q : StepI → Bool} (h : ∀ s, GoodS s → p (keyI s) = q s) : ((ksM M).filter p).Perm ((L.filter q).map keyI) := by
  refine (hi.perm.filter p).trans ?_
  rw [List.filter_map]
  have : L.filter (p ∘ keyI) = L.filter q := List.filter_congr fun s hs => h s (hi.good s hs)
  rw [this]
theorem tids_perm {M : LeafM} {L : List StepI} (hi : InI M L) {p : ByteArray → Bool} {q : StepI → Bool} (h : ∀ s, GoodS s → p (keyI s) = q s) : (tidsL ((ksM M).filter p)).Perm ((L.filter q).map StepI.tid) := by
  have h1 := (keys_flt hi h).filterMap entP
  have h2 := tids_keys (L := L.filter q) fun s hs => hi.good s (List.mem_filter.1 hs).1
  unfold tidsL at h2 ⊢
  rw [h2] at h1
  exact h1
theorem find_in {M : LeafM} {L : List StepI} {n : Nat} (hi : InI M L) (ok : OkM M n) {v : V4} (hv : VOk v) (hg : goodX v = true) :
    (findP M v).1.Perm ((L.filter fun s => cmpV s.v v == 0).map StepI.tid) ∧ (findP M v).1.Pairwise (· < ·) := by
  unfold findP
  rw [if_pos hg]
  simp only
  rw [rng_all ok]
  refine ⟨tids_perm hi fun s g => inR_find g hv hg, ?_⟩
  unfold tidsL
  rw [List.pairwise_filterMap]
  refine List.Pairwise.imp_of_mem ?_ ((flat_ord ok.wf).filter _)
  intro a b ha hb hlt x hx y hy
  obtain ⟨s, hs, rfl⟩ := List.mem_map.1 ((keys_flt hi fun s g => inR_find g hv hg).subset ha)
  obtain ⟨t, ht, rfl⟩ := List.mem_map.1 ((keys_flt hi fun s g => inR_find g hv hg).subset hb)
  rw [List.mem_filter] at hs ht
  have gs := hi.good s hs.1
  have gt := hi.good t ht.1
  rw [entP_key gs] at hx
  rw [entP_key gt] at hy
  cases hx
  cases hy
  have e1 := (cmpV_anti gs.ok hv gs.good hg).2.1 (eq_of_beq hs.2)
  have e2 := (cmpV_anti gt.ok hv gt.good hg).2.1 (eq_of_beq ht.2)
  rw [keyI_lt gs gt, e1, e2, cmpV_self, if_neg (by omega), if_pos rfl] at hlt
  exact of_decide_eq_true hlt
theorem range_in {M : LeafM} {L : List StepI} {n : Nat} (hi : InI M L) (ok : OkM M n) {v w : V4} (hv : VOk v) (hg : goodX v = true) (hw : VOk w) (hgw : goodX w = true) :
    (rangeP M v w).1.Perm ((L.filter fun s => decide (0 ≤ cmpV s.v v) && decide (cmpV s.v w < 0)).map StepI.tid) := by
  unfold rangeP
  rw [if_pos ⟨hg, hgw⟩]
  simp only
  rw [rng_all ok]
  exact tids_perm hi fun s g => inR_range g hv hg hw hgw
end Go.Lift

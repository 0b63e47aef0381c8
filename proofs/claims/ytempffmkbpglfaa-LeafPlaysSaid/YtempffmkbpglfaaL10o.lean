/- The reference's leaves: Insert. -/
import Derived.Test.YtempffmkbpglfaaL10n
set_option linter.unusedSimpArgs false
set_option linter.unusedVariables false
namespace Go.Lift
open Go Go.Proofs
set_option maxRecDepth 100000
theorem rr_iff {t : List (Bool × OneM)} {l : List OneM} : RR t l ↔ t.length = l.length ∧ ∀ i (h1 : i < t.length) (h2 : i < l.length), t[i].2.n = l[i].n ∧ t[i].2.keys = l[i].keys ∧ t[i].1 = decide (i = 0) ∧ (0 < i → t[i].2.bound = l[i].bound) := by
  constructor
  · exact fun h => ⟨rr_len h, fun i h1 h2 => rr_at h h1 h2⟩
  · rintro ⟨h1, h2⟩
    cases t with
    | nil => cases l <;> simp_all [RR]
    | cons r t =>
      cases l with
      | nil => simp at h1
      | cons o l =>
        have h0 := h2 0 (by simp) (by simp)
        simp only [List.getElem_cons_zero] at h0
        refine ⟨by simpa using h0.2.2.1, h0.1, h0.2.1, ?_⟩
        apply List.ext_getElem
        · simpa using h1
        · intro i g1 g2
          have g3 : i < l.length := by simpa using g2
          have := h2 (i + 1) (by simpa using g1) (by simpa using g3)
          simp only [List.getElem_cons_succ] at this
          obtain ⟨a, b, c, d⟩ := this
          have d := d (by omega)
          rw [List.getElem_map]
          have e : t[i] = (t[i].1, ⟨t[i].2.n, t[i].2.bound, t[i].2.keys⟩) := rfl
          rw [e, a, b, c, d]
          simp
theorem ref_rel {R : List RC} {l : List OneM} (hl : R.length = l.length) (h : ∀ i (h1 : i < R.length) (h2 : i < l.length), R[i].m.n = l[i].n ∧ R[i].m.keys = l[i].keys ∧ R[i].op = decide (i = 0) ∧ (0 < i → R[i].m.bound = l[i].bound)) : RR (R.map fun r => (r.op, r.m)) l :=
  rr_iff.2 ⟨by simpa using hl, fun i h1 h2 => by simpa using h i (by simpa using h1) h2⟩
section
variable {lo : Nat} {h h' : Hp} {q : Nat} {M : LeafM} {ls : Sl} {R : List RC} {Q : List Value → Hp → Prop}
theorem setF2 {α : Type} {T : TypeId} {sz : Nat} {enc : α → List Value} {s : Sl} {xs : List α} {a : Addr} (ho : Own T sz enc lo h s xs) (ha : s.a = some a) (he : ∀ x, (enc x).length = sz) {i : Nat} (hi : i < xs.length) {x : α} {o : Nat} {v : Value} {K : Hp → Prop} (hos : o < sz)
    (hx : ∀ k, k < sz → (enc x)[k]? = if k = o then some v else (enc xs[i])[k]?)
    (H : ∀ h1, Own T sz enc lo h1 s (xs.set i x) → Ext (sBlk s) h h1 → h1.size = h.size → K h1) : stOk h (Addr.add (Addr.add a (i * sz)) o) 1 ∧ wth (wrs h (Addr.add (Addr.add a (i * sz)) o) 0 [v]) K := by
  obtain ⟨a', e, hh⟩ := ho.setF he hi hos hx H
  rw [ha] at e
  cases e
  exact hh
/-- The keys of one of the reference's leaves are other ones. -/
theorem RefAt.setK (hr : RefAt lo h q M ls R) {i : Nat} (hi : i < R.length) {hi2 : i < M.l.length} {ks : Sl} {K : List ByteArray} (he : Ext (sBlk ls) h h') (ho : Own T_liveryref10_Leaf 4 encR lo h' ls (R.set i ⟨ks, R[i].op, { R[i].m with keys := K }⟩)) (hk : Own T_string 1 encB lo h' ks K) :
    RefAt lo h' q { M with l := M.l.set i { M.l[i] with keys := K } } ls (R.set i ⟨ks, R[i].op, { R[i].m with keys := K }⟩) := by
  refine ⟨he.get hr.blk (fun hm => hr.own.other (T' := T_liveryref10_Leaves) (by decide) _ hm _ _ hr.blk), hr.le, ho, fun r hm => ?_, ref_rel ?_ ?_⟩
  · rcases List.mem_or_eq_of_mem_set hm with g | g
    · exact (hr.keys r g).extT he (hr.own.other (by decide))
    · subst g; exact hk
  · simp [(ref_len hr).2]
  · intro j h1 h2
    simp only [List.length_set] at h1 h2
    obtain ⟨_, m1, m2, m3, m4⟩ := ref_at hr h1
    rw [List.getElem_set, List.getElem_set]
    by_cases e : i = j
    · subst e
      rw [if_pos rfl, if_pos rfl]
      exact ⟨m1, rfl, m3, m4⟩
    · rw [if_neg e, if_neg e]
      exact ⟨m1, m2, m3, m4⟩
/-- The reference's list is another one: a leaf is cut in two. -/
theorem RefAt.cut {hz : Hp} {M0 : LeafM} (hr : RefAt lo hz q M0 ls R) {i : Nat} (hi : i < R.length) {hi2 : i < M0.l.length} {out sy sz : Sl} {K1 K2 : List ByteArray} {nz nx : Int} {bz : ByteArray} (he : Ext [q] hz h') (hb : Blk h' q #[.slice out.a out.n out.c, .int .i64 M0.fan, .int .i64 nx] T_liveryref10_Leaves)
    (ho : Own T_liveryref10_Leaf 4 encR lo h' out (R.take i ++ [⟨sy, R[i].op, { R[i].m with keys := K1 }⟩, ⟨sz, false, ⟨nz, bz, K2⟩⟩] ++ R.drop (i + 1))) (hy : Own T_string 1 encB lo h' sy K1) (hsz : Own T_string 1 encB lo h' sz K2) :
    RefAt lo h' q ⟨M0.fan, nx, M0.l.take i ++ [{ M0.l[i] with keys := K1 }, ⟨nz, bz, K2⟩] ++ M0.l.drop (i + 1)⟩ out (R.take i ++ [⟨sy, R[i].op, { R[i].m with keys := K1 }⟩, ⟨sz, false, ⟨nz, bz, K2⟩⟩] ++ R.drop (i + 1)) := by
  have hq : Other T_string hz [q] := fun b hb c fz => by simp at hb; subst hb; exact other_blk hr.blk (by decide) c fz
  have hRl := (ref_len hr).2
  refine ⟨hb, hr.le, ho, fun r hm => ?_, ref_rel ?_ ?_⟩
  · simp only [List.mem_append, List.mem_cons, List.not_mem_nil, or_false] at hm
    rcases hm with (g | g | g) | g
    · exact (hr.keys r (List.mem_of_mem_take g)).extT he hq
    · subst g; exact hy
    · subst g; exact hsz
    · exact (hr.keys r (List.mem_of_mem_drop g)).extT he hq
  · simp; omega
  · intro j h1 h2
    simp only [List.length_append, List.length_take, List.length_cons, List.length_nil, List.length_drop] at h1 h2
    have t1 : (R.take i).length = i := by simp; omega
    have t2 : (M0.l.take i).length = i := by simp; omega
    rcases (by omega : j < i ∨ j = i ∨ j = i + 1 ∨ i + 1 < j) with g | g | g | g
    · obtain ⟨_, m1, m2, m3, m4⟩ := ref_at hr (i := j) (by omega)
      have e1 : (R.take i ++ [⟨sy, R[i].op, { R[i].m with keys := K1 }⟩, ⟨sz, false, ⟨nz, bz, K2⟩⟩] ++ R.drop (i + 1))[j]? = R[j]? := by
        rw [List.append_assoc, List.getElem?_append_left (by omega), List.getElem?_take_of_lt g]
      have e2 : (M0.l.take i ++ [{ M0.l[i] with keys := K1 }, ⟨nz, bz, K2⟩] ++ M0.l.drop (i + 1))[j]? = M0.l[j]? := by
        rw [List.append_assoc, List.getElem?_append_left (by omega), List.getElem?_take_of_lt g]
      rw [List.getElem?_eq_getElem (by simp; omega), List.getElem?_eq_getElem (by omega)] at e1 e2
      rw [Option.some.inj e1, Option.some.inj e2]
      exact ⟨m1, m2, m3, m4⟩
    · obtain ⟨_, m1, m2, m3, m4⟩ := ref_at hr (i := i) (by omega)
      subst g
      have e1 : (R.take j ++ [⟨sy, R[j].op, { R[j].m with keys := K1 }⟩, ⟨sz, false, ⟨nz, bz, K2⟩⟩] ++ R.drop (j + 1))[j]? = some ⟨sy, R[j].op, { R[j].m with keys := K1 }⟩ := by
        rw [List.append_assoc, List.getElem?_append_right (by omega), t1, Nat.sub_self]; rfl
      have e2 : (M0.l.take j ++ [{ M0.l[j] with keys := K1 }, ⟨nz, bz, K2⟩] ++ M0.l.drop (j + 1))[j]? = some { M0.l[j] with keys := K1 } := by
        rw [List.append_assoc, List.getElem?_append_right (by omega), t2, Nat.sub_self]; rfl
      rw [List.getElem?_eq_getElem (by simp; omega)] at e1 e2
      rw [Option.some.inj e1, Option.some.inj e2]
      exact ⟨m1, rfl, m3, m4⟩
    · subst g
      have e1 : (R.take i ++ [⟨sy, R[i].op, { R[i].m with keys := K1 }⟩, ⟨sz, false, ⟨nz, bz, K2⟩⟩] ++ R.drop (i + 1))[i + 1]? = some ⟨sz, false, ⟨nz, bz, K2⟩⟩ := by
        rw [List.append_assoc, List.getElem?_append_right (by omega), t1, Nat.add_sub_cancel_left]; rfl
      have e2 : (M0.l.take i ++ [{ M0.l[i] with keys := K1 }, ⟨nz, bz, K2⟩] ++ M0.l.drop (i + 1))[i + 1]? = some ⟨nz, bz, K2⟩ := by
        rw [List.append_assoc, List.getElem?_append_right (by omega), t2, Nat.add_sub_cancel_left]; rfl
      rw [List.getElem?_eq_getElem (by simp; omega)] at e1 e2
      rw [Option.some.inj e1, Option.some.inj e2]
      exact ⟨rfl, rfl, by simp, fun _ => rfl⟩
    · obtain ⟨_, m1, m2, m3, m4⟩ := ref_at hr (i := j - 1) (by omega)
      have e1 : (R.take i ++ [⟨sy, R[i].op, { R[i].m with keys := K1 }⟩, ⟨sz, false, ⟨nz, bz, K2⟩⟩] ++ R.drop (i + 1))[j]? = R[j - 1]? := by
        rw [List.getElem?_append_right (by simp; omega), List.getElem?_drop]
        congr 1
        simp; omega
      have e2 : (M0.l.take i ++ [{ M0.l[i] with keys := K1 }, ⟨nz, bz, K2⟩] ++ M0.l.drop (i + 1))[j]? = M0.l[j - 1]? := by
        rw [List.getElem?_append_right (by simp; omega), List.getElem?_drop]
        congr 1
        simp; omega
      rw [List.getElem?_eq_getElem (by simp; omega), List.getElem?_eq_getElem (by omega)] at e1 e2
      rw [Option.some.inj e1, Option.some.inj e2]
      exact ⟨m1, m2, by rw [m3]; exact decide_eq_decide.2 (by omega), fun _ => m4 (by omega)⟩
end
end Go.Lift

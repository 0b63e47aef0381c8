/- Who waits for whom: Circles. -/
import Derived.Test.YtdfehndegjmngaaW07c
import Derived.Test.YtdfehndegjmngaaLvU
set_option linter.unusedSimpArgs false
set_option linter.unusedVariables false
namespace Go.Lift
open Go Go.Proofs
set_option maxRecDepth 100000
theorem Own.extT {α : Type} {T : TypeId} {sz : Nat} {enc : α → List Value} {S : List Nat} {lo : Nat} {h h' : Hp} {s : Sl} {xs : List α} (hs : Own T sz enc lo h s xs) (he : Ext S h h') (hS : Other T h S) : Own T sz enc lo h' s xs := by
  refine hs.ext he fun a ha hm => ?_
  obtain ⟨b, c, h1, _, h3, _⟩ := hs.2.2 a ha
  rw [h1] at hm
  exact hS b hm c _ h3
abbrev encSl (s : Sl) : List Value := [.slice s.a s.n s.c]
theorem encSl_len (s : Sl) : (encSl s).length = 1 := rfl
theorem encSl_one (s : Sl) : ∀ v ∈ encSl s, oneCell v = true := by intro v hv; simp at hv; subst hv; rfl
theorem zcSl : (zc PP T_sint).size = 1 := by kernel_rfl
/-- A slice of slices of integers. -/
structure KnotsAt (lo : Nat) (h : Hp) (o : Sl) (ks : List Sl) (K : List (List Int)) : Prop where
  own : Own T_sint 1 encSl lo h o ks
  len : ks.length = K.length
  each : ∀ i (h1 : i < ks.length) (h2 : i < K.length), Own T_int 1 encIL lo h ks[i] K[i]
theorem KnotsAt.ext0 {lo : Nat} {h h' : Hp} {o : Sl} {ks : List Sl} {K : List (List Int)} (hk : KnotsAt lo h o ks K) (he : Ext [] h h') : KnotsAt lo h' o ks K := ⟨hk.own.ext0 he, hk.len, fun i h1 h2 => (hk.each i h1 h2).ext0 he⟩
theorem KnotsAt.mono {lo lo' : Nat} {h : Hp} {o : Sl} {ks : List Sl} {K : List (List Int)} (hk : KnotsAt lo h o ks K) (hl : lo' ≤ lo) : KnotsAt lo' h o ks K := ⟨hk.own.mono hl, hk.len, fun i h1 h2 => (hk.each i h1 h2).mono hl⟩
abbrev evM (r : Nat) : Value := .map (some r)
/-- The map of the maps: whom each source reaches. -/
structure MetAt (h : Hp) (mm : Nat) (lo : Nat) (MM : List (Int × Nat)) (E : List Edge) : Prop where
  map : IsMap encI evM h mm MM
  each : ∀ p ∈ MM, lo ≤ p.2 ∧ ∃ L : List Int, IsMap encI encI h p.2 (ones L) ∧ L.Nodup ∧ ∀ y, y ∈ L ↔ Rch E p.1 y
theorem MetAt.ext {S : List Nat} {h h' : Hp} {mm lo : Nat} {MM : List (Int × Nat)} {E : List Edge} (hm : MetAt h mm lo MM E) (he : Ext S h h') (h1 : mm ∉ S) (h2 : ∀ p ∈ MM, p.2 ∉ S) : MetAt h' mm lo MM E :=
  ⟨hm.map.ext he h1, fun p hp => ⟨(hm.each p hp).1, by obtain ⟨_, L, g1, g2⟩ := hm.each p hp; exact ⟨L, g1.ext he (h2 p hp), g2⟩⟩⟩
theorem MetAt.ext0 {h h' : Hp} {mm lo : Nat} {MM : List (Int × Nat)} {E : List Edge} (hm : MetAt h mm lo MM E) (he : Ext [] h h') : MetAt h' mm lo MM E := hm.ext he (by simp) (by simp)
theorem key_of {K V : Type} {ek : K → Value} {ev : V → Value} {es : Array MapEntry} {T : List (K × V)} (he : EntsOf ek ev es T) {e : MapEntry} (hm : e ∈ es.toList) : ∃ p ∈ T, e.key = ek p.1 ∧ e.val = ev p.2 := by
  have : (e.key, e.val) ∈ T.map (encE ek ev) := by rw [← he]; exact List.mem_map.2 ⟨e, hm, rfl⟩
  obtain ⟨p, hp, hpe⟩ := List.mem_map.1 this
  simp only [encE, Prod.mk.injEq] at hpe
  exact ⟨p, hp, hpe.1.symm, hpe.2.symm⟩
theorem ent_of {K V : Type} {ek : K → Value} {ev : V → Value} {es : Array MapEntry} {T : List (K × V)} (he : EntsOf ek ev es T) {p : K × V} (hp : p ∈ T) : ∃ e ∈ es.toList, e.key = ek p.1 := by
  have : encE ek ev p ∈ es.toList.map (fun e => (e.key, e.val)) := by rw [he]; exact List.mem_map.2 ⟨p, hp, rfl⟩
  obtain ⟨e, hm, hpe⟩ := List.mem_map.1 this
  simp only [encE, Prod.mk.injEq] at hpe
  exact ⟨e, hm, hpe.1⟩
open Classical in
theorem met_get {h : Hp} {mm lo : Nat} {MM : List (Int × Nat)} {E : List Edge} (hm : MetAt h mm lo MM E) (hall : ∀ k, (∃ v, (k, v) ∈ E) → k ∈ MM.map Prod.fst) (k : Int) :
    ∃ es, mapAt h (some mm) es ∧ KeysLike (.int .i64 k) es ∧ ∃ r : Option Nat, mgetD (.int .i64 k) es (.map none) = .map r ∧ ∃ es2, mapAt h r es2 ∧ ∀ f, KeysLike (.int .i64 f) es2 ∧ mgetD (.int .i64 f) es2 (.int .i64 0) = .int .i64 (if Rch E k f then 1 else 0) := by
  obtain ⟨es, h1, h2⟩ := hm.map.mapAt
  refine ⟨es, h1, keysLike_ents h2 _, ?_⟩
  rw [mgetD_ents h2 k]
  cases hf : afind MM k with
  | none =>
    refine ⟨none, rfl, #[], Or.inl ⟨rfl, rfl⟩, fun f => ⟨fun e he => by simp at he, ?_⟩⟩
    have hno : ¬ Rch E k f := fun hr => by
      have := hall k hr.src
      rw [← Classical.not_not (a := k ∈ MM.map Prod.fst), ← afind_none] at this
      exact this hf
    rw [if_neg hno]
    rfl
  | some r =>
    obtain ⟨_, L, g1, g2, g3⟩ := hm.each _ (afind_mem hf)
    obtain ⟨es2, q1, q2⟩ := g1.mapAt
    refine ⟨some r, rfl, es2, q1, fun f => ⟨keysLike_ents q2 _, ?_⟩⟩
    rw [mgetD_ents q2 f, ones_find]
    by_cases hy : f ∈ L
    · rw [if_pos hy, if_pos ((g3 f).1 hy)]
    · rw [if_neg hy, if_neg fun g => hy ((g3 f).2 g)]
theorem met_some {h : Hp} {mm lo : Nat} {MM : List (Int × Nat)} {E : List Edge} (hm : MetAt h mm lo MM E) {k : Int} (hk : k ∈ MM.map Prod.fst) :
    ∃ es, mapAt h (some mm) es ∧ KeysLike (.int .i64 k) es ∧ ∃ (r : Nat) (L : List Int), mgetD (.int .i64 k) es (.map none) = .map (some r) ∧ IsMap encI encI h r (ones L) ∧ L.Nodup ∧ ∀ y, y ∈ L ↔ Rch E k y := by
  obtain ⟨es, h1, h2⟩ := hm.map.mapAt
  refine ⟨es, h1, keysLike_ents h2 _, ?_⟩
  rw [mgetD_ents h2 k]
  cases hf : afind MM k with
  | none => exact absurd hk ((afind_none MM k).1 hf)
  | some r =>
    obtain ⟨_, L, g1, g2, g3⟩ := hm.each _ (afind_mem hf)
    exact ⟨r, L, rfl, g1, g2, g3⟩
theorem ones_add {h : Hp} {m : Nat} {L : List Int} (hm : IsMap encI encI h m (ones L)) {k : Int} (hk : k ∉ L) : ∃ es c, h[m]? = some (.map es c) ∧ KeysLike (.int .i64 k) es ∧ ∀ h1 : Hp, h1[m]? = some (mput (.int .i64 k) (.int .i64 1) es c) → IsMap encI encI h1 m (ones (L ++ [k])) := by
  obtain ⟨es, c, q1, q2, q3⟩ := hm.put k 1
  refine ⟨es, c, q1, q2, fun h1 hb => ?_⟩
  have := q3 h1 hb
  rw [aput_new (by rw [ones_keys]; exact hk)] at this
  unfold ones
  rw [List.map_append]
  exact this
end Go.Lift

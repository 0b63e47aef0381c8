/- Maps of memory as lists of pairs. -/
import Derived.Test.YtgdiihffjogdiaaGreatDoorLvM
set_option linter.unusedSimpArgs false
set_option linter.unusedVariables false
namespace Go.Lift
open Go

class KeyEnc {K : Type} [DecidableEq K] (ek : K → Value) : Prop where
  keq : ∀ a b, keyB (ek a) (ek b) = decide (a = b)
  like : ∀ a b, likeK (ek a) (ek b) = true
instance keyInt (k : IntKind) : KeyEnc (fun n : Int => Value.int k n) := ⟨fun a b => by simp [keyB, keyS]; rfl, fun a b => by simp [likeK, likeS]⟩

section
variable {K V : Type} [DecidableEq K]
def afind (T : List (K × V)) (k : K) : Option V := match T with | [] => none | (a, v) :: T => if k = a then some v else afind T k
def aput (T : List (K × V)) (k : K) (v : V) : List (K × V) := match T with | [] => [(k, v)] | (a, u) :: T => if k = a then (a, v) :: T else (a, u) :: aput T k v
def adel (T : List (K × V)) (k : K) : List (K × V) := match T with | [] => [] | (a, u) :: T => if k = a then T else (a, u) :: adel T k
theorem afind_aput (T : List (K × V)) (k j : K) (v : V) : afind (aput T k v) j = if j = k then some v else afind T j := by
  induction T with
  | nil => simp [aput, afind]
  | cons p T ih =>
    obtain ⟨a, u⟩ := p
    simp only [aput]
    by_cases e : k = a
    · subst e; simp only [if_true, afind]; by_cases g : j = k <;> simp [g]
    · simp only [if_neg e, afind, ih]
      by_cases g : j = a
      · have : ¬ a = k := Ne.symm e
        simp [g, this]
      · simp [g]
theorem keys_aput (T : List (K × V)) (k : K) (v : V) : (aput T k v).map Prod.fst = if k ∈ T.map Prod.fst then T.map Prod.fst else T.map Prod.fst ++ [k] := by
  induction T with
  | nil => simp [aput]
  | cons p T ih =>
    obtain ⟨a, u⟩ := p
    simp only [aput]
    by_cases e : k = a
    · simp [e]
    · rw [if_neg e]
      simp only [List.map_cons, List.mem_cons, e, false_or]
      rw [ih]
      by_cases g : k ∈ T.map Prod.fst
      · rw [if_pos g, if_pos g]
      · rw [if_neg g, if_neg g]; rfl
theorem afind_none (T : List (K × V)) (k : K) : afind T k = none ↔ k ∉ T.map Prod.fst := by
  induction T with
  | nil => simp [afind]
  | cons p T ih =>
    obtain ⟨a, u⟩ := p
    simp only [afind]
    by_cases e : k = a <;> simp [e, ih]
theorem adel_nodup {T : List (K × V)} (hn : (T.map Prod.fst).Nodup) (k : K) : ((adel T k).map Prod.fst).Nodup ∧ ∀ j, j ∈ (adel T k).map Prod.fst → j ∈ T.map Prod.fst := by
  induction T with
  | nil => simp [adel]
  | cons p T ih =>
    obtain ⟨a, u⟩ := p
    simp only [List.map_cons, List.nodup_cons] at hn
    obtain ⟨h1, h2⟩ := ih hn.2
    simp only [adel]
    by_cases e : k = a
    · simp only [if_pos e]
      exact ⟨hn.2, fun j hj => by simp at hj ⊢; exact Or.inr hj⟩
    · simp only [if_neg e, List.map_cons, List.nodup_cons]
      refine ⟨⟨fun hm => hn.1 (h2 _ hm), h1⟩, fun j hj => ?_⟩
      rw [List.mem_cons] at hj ⊢
      rcases hj with h | h
      · exact Or.inl h
      · exact Or.inr (h2 _ h)
theorem afind_adel {T : List (K × V)} (hn : (T.map Prod.fst).Nodup) (k j : K) : afind (adel T k) j = if j = k then none else afind T j := by
  induction T with
  | nil => simp [adel, afind]
  | cons p T ih =>
    obtain ⟨a, u⟩ := p
    simp only [List.map_cons, List.nodup_cons] at hn
    simp only [adel]
    by_cases e : k = a
    · subst e
      simp only [if_true, afind]
      by_cases g : j = k
      · subst g; simp only [if_true]; exact (afind_none _ _).2 hn.1
      · simp [g]
    · simp only [if_neg e, afind, ih hn.2]
      by_cases g : j = a
      · have : ¬ a = k := Ne.symm e
        simp [g, this]
      · simp [g]
theorem aput_nodup {T : List (K × V)} (hn : (T.map Prod.fst).Nodup) (k : K) (v : V) : ((aput T k v).map Prod.fst).Nodup := by
  rw [keys_aput]
  split
  · exact hn
  · rename_i h
    rw [List.nodup_append]
    refine ⟨hn, by simp, ?_⟩
    intro a ha b hb
    simp at hb
    subst hb
    exact fun e => h (e ▸ ha)

def amap {W : Type} (f : V → W) (T : List (K × V)) : List (K × W) := T.map fun p => (p.1, f p.2)
theorem afind_amap {W : Type} (f : V → W) (T : List (K × V)) (k : K) : afind (amap f T) k = (afind T k).map f := by
  induction T with
  | nil => rfl
  | cons p T ih =>
    obtain ⟨a, u⟩ := p
    simp only [amap, List.map_cons, afind] at ih ⊢
    by_cases e : k = a
    · simp [e]
    · simp only [if_neg e]; exact ih
theorem aput_amap {W : Type} (f : V → W) (T : List (K × V)) (k : K) (v : V) : aput (amap f T) k (f v) = amap f (aput T k v) := by
  induction T with
  | nil => rfl
  | cons p T ih =>
    obtain ⟨a, u⟩ := p
    simp only [amap, List.map_cons, aput] at ih ⊢
    by_cases e : k = a
    · simp [e]
    · simp only [if_neg e, List.map_cons]; rw [ih]
theorem adel_amap {W : Type} (f : V → W) (T : List (K × V)) (k : K) : adel (amap f T) k = amap f (adel T k) := by
  induction T with
  | nil => rfl
  | cons p T ih =>
    obtain ⟨a, u⟩ := p
    simp only [amap, List.map_cons, adel] at ih ⊢
    by_cases e : k = a
    · simp [e]
    · simp only [if_neg e, List.map_cons]; rw [ih]
theorem afind_mem {T : List (K × V)} {k : K} {v : V} (hf : afind T k = some v) : (k, v) ∈ T := by
  induction T with
  | nil => cases hf
  | cons q T ih =>
    obtain ⟨a, u⟩ := q
    simp only [afind] at hf
    by_cases e : k = a
    · rw [if_pos e] at hf; cases hf; rw [e]; exact List.mem_cons_self
    · rw [if_neg e] at hf; exact List.mem_cons_of_mem _ (ih hf)
theorem aput_new {T : List (K × V)} {k : K} (hk : k ∉ T.map Prod.fst) (v : V) : aput T k v = T ++ [(k, v)] := by
  induction T with
  | nil => rfl
  | cons q T ih =>
    obtain ⟨a, u⟩ := q
    simp only [List.map_cons, List.mem_cons, not_or] at hk
    simp only [aput, if_neg hk.1, ih hk.2, List.cons_append]

variable (ek : K → Value) (ev : V → Value)
def encE (p : K × V) : Value × Value := (ek p.1, ev p.2)
/-- The entries are those of a list of pairs. -/
def EntsOf (es : Array MapEntry) (T : List (K × V)) : Prop := es.toList.map (fun e => (e.key, e.val)) = T.map (encE ek ev)
def Born (es : Array MapEntry) (clock : Nat) : Prop := (∀ b ∈ es.toList.map (·.born), b < clock) ∧ (es.toList.map (·.born)).Nodup
def IsMap (h : Hp) (m : Nat) (T : List (K × V)) : Prop := ∃ es clock, h[m]? = some (.map es clock) ∧ EntsOf ek ev es T ∧ Born es clock
variable {ek ev}
section
variable [ke : KeyEnc ek]
theorem mfind_ents : ∀ (L : List MapEntry) (T : List (K × V)), L.map (fun e => (e.key, e.val)) = T.map (encE ek ev) → ∀ (k : K) (i : Nat), (mfind (ek k) L i).map Prod.snd = (afind T k).map ev
  | [], [], _, k, i => rfl
  | e :: L, (a, v) :: T, he, k, i => by
    simp only [List.map_cons, List.cons.injEq, encE, Prod.mk.injEq] at he
    obtain ⟨⟨h1, h2⟩, h3⟩ := he
    simp only [mfind, afind, h1, KeyEnc.keq (ek := ek), decide_eq_true_eq]
    by_cases g : k = a
    · simp [g, h2]
    · simp only [if_neg g]
      exact mfind_ents L T h3 k (i + 1)
  | [], _ :: _, he, _, _ => by simp at he
  | _ :: _, [], he, _, _ => by simp at he
theorem mgetD_ents {es : Array MapEntry} {T : List (K × V)} (he : EntsOf ek ev es T) (k : K) (z : Value) : mgetD (ek k) es z = match afind T k with | some v => ev v | none => z := by
  have := mfind_ents es.toList T he k 0
  unfold mgetD
  cases h1 : mfind (ek k) es.toList 0 <;> cases h2 : afind T k <;> simp [h1, h2] at this ⊢
  exact this
theorem keysLike_ents {es : Array MapEntry} {T : List (K × V)} (he : EntsOf ek ev es T) (k : K) : KeysLike (ek k) es := by
  intro e hm
  have : (e.key, e.val) ∈ T.map (encE ek ev) := by rw [← he]; exact List.mem_map.2 ⟨e, hm, rfl⟩
  obtain ⟨p, _, hp⟩ := List.mem_map.1 this
  simp only [encE, Prod.mk.injEq] at hp
  rw [← hp.1]
  exact KeyEnc.like _ _
theorem mfind_put : ∀ (L : List MapEntry) (T : List (K × V)), L.map (fun e => (e.key, e.val)) = T.map (encE ek ev) → ∀ (k : K) (v : V) (i : Nat),
    match mfind (ek k) L i with
    | some (j, _) => i ≤ j ∧ j < i + L.length ∧ (L.modify (j - i) fun e => { e with key := ek k, val := ev v }).map (fun e => (e.key, e.val)) = (aput T k v).map (encE ek ev)
    | none => T.map (encE ek ev) ++ [(ek k, ev v)] = (aput T k v).map (encE ek ev)
  | [], [], _, k, v, i => by simp [mfind, aput, encE]
  | e :: L, (a, u) :: T, he, k, v, i => by
    simp only [List.map_cons, List.cons.injEq, encE, Prod.mk.injEq] at he
    obtain ⟨⟨h1, h2⟩, h3⟩ := he
    simp only [mfind, aput, h1, KeyEnc.keq (ek := ek), decide_eq_true_eq]
    by_cases g : k = a
    · subst g
      simp only [if_true, Nat.sub_self, List.length_cons]
      refine ⟨Nat.le_refl _, by omega, ?_⟩
      simp [List.modify_zero_cons, encE, h3]
    · simp only [if_neg g]
      have := mfind_put L T h3 k v (i + 1)
      cases h4 : mfind (ek k) L (i + 1) with
      | none =>
        rw [h4] at this
        simp only [List.map_cons, List.cons_append, this]
      | some p =>
        obtain ⟨j, w⟩ := p
        rw [h4] at this
        simp only at this ⊢
        obtain ⟨g1, g2, g3⟩ := this
        refine ⟨by omega, by simp; omega, ?_⟩
        rw [show j - i = (j - (i + 1)) + 1 by omega, List.modify_succ_cons]
        simp only [List.map_cons, g3, h1, h2, encE]
  | [], _ :: _, he, _, _, _ => by simp at he
  | _ :: _, [], he, _, _, _ => by simp at he
theorem mput_ents {es : Array MapEntry} {T : List (K × V)} (he : EntsOf ek ev es T) (k : K) (v : V) (c : Nat) :
    ∃ es' c', mput (ek k) (ev v) es c = .map es' c' ∧ EntsOf ek ev es' (aput T k v) := by
  have := mfind_put es.toList T he k v 0
  unfold mput
  cases h4 : mfind (ek k) es.toList 0 with
  | none =>
    rw [h4] at this
    refine ⟨_, _, rfl, ?_⟩
    unfold EntsOf at he ⊢
    simp only [Array.toList_push, List.map_append, he, List.map_cons, List.map_nil]
    exact this
  | some p =>
    obtain ⟨j, w⟩ := p
    rw [h4] at this
    simp only at this ⊢
    refine ⟨_, _, rfl, ?_⟩
    unfold EntsOf
    rw [Array.toList_modify]
    exact this.2.2
theorem mfind_del : ∀ (L : List MapEntry) (T : List (K × V)), L.map (fun e => (e.key, e.val)) = T.map (encE ek ev) → ∀ (k : K) (i : Nat),
    match mfind (ek k) L i with
    | some (j, _) => i ≤ j ∧ j < i + L.length ∧ (L.eraseIdx (j - i)).map (fun e => (e.key, e.val)) = (adel T k).map (encE ek ev)
    | none => T = adel T k
  | [], [], _, k, i => by simp [mfind, adel]
  | e :: L, (a, u) :: T, he, k, i => by
    simp only [List.map_cons, List.cons.injEq, encE, Prod.mk.injEq] at he
    obtain ⟨⟨h1, h2⟩, h3⟩ := he
    simp only [mfind, adel, h1, KeyEnc.keq (ek := ek), decide_eq_true_eq]
    by_cases g : k = a
    · subst g
      simp only [if_true, Nat.sub_self, List.length_cons]
      exact ⟨Nat.le_refl _, by omega, by simpa using h3⟩
    · simp only [if_neg g]
      have := mfind_del L T h3 k (i + 1)
      cases h4 : mfind (ek k) L (i + 1) with
      | none =>
        rw [h4] at this
        simp only at this ⊢
        rw [← this]
      | some p =>
        obtain ⟨j, w⟩ := p
        rw [h4] at this
        simp only at this ⊢
        obtain ⟨g1, g2, g3⟩ := this
        refine ⟨by omega, by simp; omega, ?_⟩
        rw [show j - i = (j - (i + 1)) + 1 by omega, List.eraseIdx_cons_succ]
        simp only [List.map_cons, g3, h1, h2, encE]
  | [], _ :: _, he, _, _ => by simp at he
  | _ :: _, [], he, _, _ => by simp at he
theorem mdel_ents {es : Array MapEntry} {T : List (K × V)} (he : EntsOf ek ev es T) (k : K) (c : Nat) :
    ∃ es', mdel (ek k) es c = .map es' c ∧ EntsOf ek ev es' (adel T k) := by
  have := mfind_del es.toList T he k 0
  unfold mdel
  cases h4 : mfind (ek k) es.toList 0 with
  | none =>
    rw [h4] at this
    simp only at this ⊢
    refine ⟨_, rfl, ?_⟩
    rw [← this]; exact he
  | some p =>
    obtain ⟨j, w⟩ := p
    rw [h4] at this
    simp only at this ⊢
    obtain ⟨_, g2, g3⟩ := this
    refine ⟨_, rfl, ?_⟩
    unfold EntsOf
    have hj : j < es.size := by simpa using g2
    rw [Array.eraseIdxIfInBounds, dif_pos hj, Array.toList_eraseIdx]
    exact g3
end
end
theorem Born.nil (c : Nat) : Born #[] c := ⟨by simp, by simp⟩
theorem Born.put {es : Array MapEntry} {c : Nat} (hb : Born es c) (k v : Value) {es' : Array MapEntry} {c' : Nat} (he : mput k v es c = .map es' c') : Born es' c' := by
  unfold mput at he
  split at he
  · rename_i i w _
    cases he
    have : ((es.modify i fun e => { e with key := k, val := v }).toList.map (·.born)) = es.toList.map (·.born) := by
      apply List.ext_getElem?
      intro j
      simp only [Array.toList_modify, List.getElem?_map, List.getElem?_modify]
      cases es.toList[j]? with
      | none => rfl
      | some x => simp only [Option.map_some, Option.map_map]; split <;> rfl
    unfold Born
    rw [this]
    exact hb
  · cases he
    refine ⟨fun b hm => ?_, ?_⟩
    · simp only [Array.toList_push, List.map_append, List.map_cons, List.map_nil, List.mem_append, List.mem_singleton] at hm
      rcases hm with g | g
      · have := hb.1 b g; omega
      · omega
    · simp only [Array.toList_push, List.map_append, List.map_cons, List.map_nil]
      rw [List.nodup_append]
      refine ⟨hb.2, by simp, ?_⟩
      intro a ha b hm
      simp at hm; subst hm
      intro e; subst e
      exact absurd (hb.1 _ ha) (Nat.lt_irrefl _)
theorem Born.del {es : Array MapEntry} {c : Nat} (hb : Born es c) (k : Value) {es' : Array MapEntry} {c' : Nat} (he : mdel k es c = .map es' c') : Born es' c' := by
  unfold mdel at he
  split at he
  · rename_i i w _
    cases he
    have hs : (es.eraseIdxIfInBounds i).toList.Sublist es.toList := by
      unfold Array.eraseIdxIfInBounds
      split
      · rw [Array.toList_eraseIdx]; exact List.eraseIdx_sublist _ _
      · exact List.Sublist.refl _
    exact ⟨fun b hm => hb.1 b ((hs.map _).subset hm), hb.2.sublist (hs.map _)⟩
  · cases he; exact hb
section
variable {K V : Type} {ek : K → Value} {ev : V → Value} [DecidableEq K] [KeyEnc ek]
theorem IsMap.put {h : Hp} {m : Nat} {T : List (K × V)} (hm : IsMap ek ev h m T) (k : K) (v : V) :
    ∃ es c, h[m]? = some (.map es c) ∧ KeysLike (ek k) es ∧ ∀ h1 : Hp, h1[m]? = some (mput (ek k) (ev v) es c) → IsMap ek ev h1 m (aput T k v) := by
  obtain ⟨es, c, h1, h2, h3⟩ := hm
  refine ⟨es, c, h1, keysLike_ents h2 k, fun h' hb => ?_⟩
  obtain ⟨es', c', g1, g2⟩ := mput_ents h2 k v c
  rw [g1] at hb
  exact ⟨es', c', hb, g2, h3.put _ _ g1⟩
theorem IsMap.del {h : Hp} {m : Nat} {T : List (K × V)} (hm : IsMap ek ev h m T) (k : K) :
    ∃ es c, h[m]? = some (.map es c) ∧ KeysLike (ek k) es ∧ ∀ h1 : Hp, h1[m]? = some (mdel (ek k) es c) → IsMap ek ev h1 m (adel T k) := by
  obtain ⟨es, c, h1, h2, h3⟩ := hm
  refine ⟨es, c, h1, keysLike_ents h2 k, fun h' hb => ?_⟩
  obtain ⟨es', g1, g2⟩ := mdel_ents h2 k c
  rw [g1] at hb
  exact ⟨es', c, hb, g2, h3.del _ g1⟩
end
theorem setI {h : Hp} {m : Nat} {o X : Obj} {K : Hp → Prop} (hb : h[m]? = some o) (H : ∀ h1 : Hp, h1.size = h.size → h1[m]? = some X → Ext [m] h h1 → K h1) : wth (h.setIfInBounds m X) K :=
  H _ (by simp) (set_blk hb) (Ext.set _ _ _)
section
variable {K V : Type} {ek : K → Value} {ev : V → Value}
theorem keys_amap {W : Type} (f : V → W) (T : List (K × V)) : (amap f T).map Prod.fst = T.map Prod.fst := by simp [amap]
theorem ents_size {es : Array MapEntry} {T : List (K × V)} (he : EntsOf ek ev es T) : es.size = T.length := by
  have := congrArg List.length he
  simpa using this
theorem IsMap.ext {S : List Nat} {h h' : Hp} {m : Nat} {T : List (K × V)} (hm : IsMap ek ev h m T) (he : Ext S h h') (hn : m ∉ S) : IsMap ek ev h' m T := by
  obtain ⟨es, c, h1, h2⟩ := hm
  exact ⟨es, c, he.get h1 hn, h2⟩
theorem IsMap.mapAt {h : Hp} {m : Nat} {T : List (K × V)} (hm : IsMap ek ev h m T) : ∃ es, mapAt h (some m) es ∧ EntsOf ek ev es T := by
  obtain ⟨es, c, h1, h2, _⟩ := hm
  exact ⟨es, Or.inr ⟨m, c, rfl, h1⟩, h2⟩
theorem IsMap.lt {h : Hp} {m : Nat} {T : List (K × V)} (hm : IsMap ek ev h m T) : m < h.size := by
  obtain ⟨es, c, h1, h2⟩ := hm
  exact blk_lt h1
end
end Go.Lift

/- A map is gone through, and what was shown may be deleted (maps.DeleteFunc). -/
import Derived.Test.YtgdiihffjogdiaaGreatDoorLvZ
set_option linter.unusedSimpArgs false
set_option linter.unusedVariables false
namespace Go.Lift
open Go
theorem nodup_sub_len {α : Type} [DecidableEq α] : ∀ {l m : List α}, l.Nodup → (∀ x ∈ l, x ∈ m) → l.length ≤ m.length
  | [], _, _, _ => by simp
  | a :: l, m, hn, hs => by
    rw [List.nodup_cons] at hn
    have h1 := hs a (by simp)
    have h2 := nodup_sub_len (m := m.erase a) hn.2 fun x hx => (List.mem_erase_of_ne (fun e => hn.1 (by rw [← e]; exact hx))).2 (hs x (by simp [hx]))
    rw [List.length_erase_of_mem h1] at h2
    have := List.length_pos_of_mem h1
    simp only [List.length_cons]
    omega
theorem nodup_map_inj {α β : Type} {f : α → β} : ∀ {l : List α}, (l.map f).Nodup → ∀ {a b : α}, a ∈ l → b ∈ l → f a = f b → a = b
  | [], _, _, _, h, _, _ => by cases h
  | c :: l, hn, a, b, ha, hb, e => by
    rw [List.map_cons, List.nodup_cons] at hn
    rcases List.mem_cons.1 ha with h1 | h1 <;> rcases List.mem_cons.1 hb with h2 | h2
    · rw [h1, h2]
    · exact absurd (List.mem_map.2 ⟨b, h2, by rw [← e, h1]⟩) hn.1
    · exact absurd (List.mem_map.2 ⟨a, h1, by rw [e, h2]⟩) hn.1
    · exact nodup_map_inj hn.2 h1 h2 e
section
variable {K V : Type} (ek : K → Value) (ev : V → Value)
/-- The iterator at b goes through the map at m, which has T by now; these were shown. -/
def RangeD (g : Hp) (b m : Nat) (T done : List (K × V)) : Prop :=
  ∃ es c seen, ItAt g b m es c seen ∧ EntsOf ek ev es T ∧ ∀ e ∈ es.toList, (seen.contains e.born = true ↔ ∃ p ∈ done, e.key = ek p.1)
end
section
variable {K V : Type} {ek : K → Value} {ev : V → Value} {g g' : Hp} {b m : Nat} {T done : List (K × V)}
theorem RangeD.ext {S : List Nat} (hr : RangeD ek ev g b m T done) (he : Ext S g g') (h1 : b ∉ S) (h2 : m ∉ S) : RangeD ek ev g' b m T done := by
  obtain ⟨es, c, seen, q1, q2⟩ := hr
  exact ⟨es, c, seen, q1.ext he h1 h2, q2⟩
theorem RangeD.lt (hr : RangeD ek ev g b m T done) : b < g.size ∧ m < g.size ∧ b ≠ m := by
  obtain ⟨es, c, seen, q1, _⟩ := hr
  refine ⟨blk_lt q1.it, blk_lt q1.mp, fun e => ?_⟩
  have h1 := q1.it
  rw [e, q1.mp] at h1
  cases h1
theorem RangeD.map (hr : RangeD ek ev g b m T done) : IsMap ek ev g m T := by
  obtain ⟨es, c, seen, q1, q2, _⟩ := hr
  exact ⟨es, c, q1.mp, q2, q1.bn⟩
theorem rangeD_start {h : Hp} (hm : IsMap ek ev h m T) : ∃ o, IterOf h (some m) o ∧ ∀ {g : Hp} {b : Nat}, g[b]? = some o → Ext [] h g → RangeD ek ev g b m T [] := by
  obtain ⟨es, c, q1, q2, q3⟩ := hm
  refine ⟨.mapIter (some m) c #[] c, Or.inr ⟨m, es, c, rfl, q1, rfl⟩, fun {g b} hb he => ?_⟩
  exact ⟨es, c, #[], ⟨hb, he.get q1 (by simp), q3⟩, q2, fun e _ => by simp⟩
theorem ents_mem {es : Array MapEntry} (he : EntsOf ek ev es T) {e : MapEntry} (hm : e ∈ es.toList) : ∃ p ∈ T, e.key = ek p.1 ∧ e.val = ev p.2 := by
  have : (e.key, e.val) ∈ T.map (encE ek ev) := by rw [← he]; exact List.mem_map.2 ⟨e, hm, rfl⟩
  obtain ⟨p, hp, hpe⟩ := List.mem_map.1 this
  simp only [encE, Prod.mk.injEq] at hpe
  exact ⟨p, hp, hpe.1.symm, hpe.2.symm⟩
theorem mem_ents {es : Array MapEntry} (he : EntsOf ek ev es T) {p : K × V} (hp : p ∈ T) : ∃ e ∈ es.toList, e.key = ek p.1 ∧ e.val = ev p.2 := by
  have : encE ek ev p ∈ es.toList.map fun e => (e.key, e.val) := by rw [he]; exact List.mem_map.2 ⟨p, hp, rfl⟩
  obtain ⟨e, hm, hpe⟩ := List.mem_map.1 this
  simp only [encE, Prod.mk.injEq] at hpe
  exact ⟨e, hm, hpe.1, hpe.2⟩
end
section
variable {K V : Type} [DecidableEq K] {ek : K → Value} {ev : V → Value} [ke : KeyEnc ek] {g g' : Hp} {b m : Nat} {T done : List (K × V)}
theorem ek_inj {k k' : K} (h : ek k = ek k') : k = k' := by
  have h1 := KeyEnc.keq (ek := ek) k k'
  have h2 := KeyEnc.keq (ek := ek) k' k'
  rw [h] at h1
  rw [h1] at h2
  simpa using h2
theorem RangeD.over (hr : RangeD ek ev g b m T done) {o : Obj} (ho : g[b]? = some o) (he : IterEnd g o) : ∀ p ∈ T, ∃ q ∈ done, q.1 = p.1 := by
  obtain ⟨es, c, seen, q1, q2, q3⟩ := hr
  have := q1.it
  rw [ho] at this
  cases this
  have hend := q1.ended he
  intro p hp
  obtain ⟨e, h1, h2, _⟩ := mem_ents q2 hp
  obtain ⟨q, h3, h4⟩ := (q3 e h1).1 (hend e h1)
  rw [h2] at h4
  exact ⟨q, h3, (ek_inj h4).symm⟩
theorem RangeD.step (hn : (T.map Prod.fst).Nodup) (hr : RangeD ek ev g b m T done) {o o' : Obj} {k v : Value} (ho : g[b]? = some o) (hs : IterStep g o k v o') :
    ∃ (p : K × V) (es : Array MapEntry) (c : Nat) (seen : Array Nat) (e : MapEntry), p ∈ T ∧ (∀ q ∈ done, q.1 ≠ p.1) ∧ o' = .mapIter (some m) c (seen.push e.born) c ∧ g[m]? = some (.map es c) ∧ Array.find? (fun x => x.born == e.born) es = some e ∧ e.key = ek p.1 ∧ e.val = ev p.2 ∧
      ∀ g' : Hp, g'[b]? = some o' → g'[m]? = some (.map es c) → RangeD ek ev g' b m T (done ++ [p]) := by
  obtain ⟨es, c, seen, q1, q2, q3⟩ := hr
  have := q1.it
  rw [ho] at this
  cases this
  obtain ⟨e, he1, he2, rfl, he4, _⟩ := q1.step hs
  obtain ⟨p, hp1, hp2, hp3⟩ := ents_mem q2 he1
  refine ⟨p, es, c, seen, e, hp1, fun q hq hqp => ?_, rfl, q1.mp, he4, hp2, hp3, fun g' h1 h2 => ⟨es, c, _, ⟨h1, h2, q1.bn⟩, q2, fun e' he' => ?_⟩⟩
  · have := (q3 e he1).2 ⟨q, hq, by rw [hp2, hqp]⟩
    rw [he2] at this
    cases this
  · rw [Array.contains_iff_mem, Array.mem_push, ← Array.contains_iff_mem, q3 e' he']
    constructor
    · rintro (⟨q, h3, h4⟩ | h3)
      · exact ⟨q, by simp [h3], h4⟩
      · refine ⟨p, by simp, ?_⟩
        have hne : e' = e := by
          have hnb := q1.bn.2
          exact nodup_map_inj hnb he' he1 h3
        rw [hne, hp2]
    · rintro ⟨q, h3, h4⟩
      rcases List.mem_append.1 h3 with h3 | h3
      · exact Or.inl ⟨q, h3, h4⟩
      · simp at h3
        subst h3
        refine Or.inr ?_
        have hnk : (es.toList.map (·.key)).Nodup := by
          have h5 : es.toList.map (·.key) = T.map (fun p => ek p.1) := by
            have := congrArg (List.map Prod.fst) q2
            simpa [List.map_map, Function.comp_def, encE] using this
          rw [h5]
          have h6 : T.map (fun p => ek p.1) = (T.map Prod.fst).map ek := by simp [List.map_map, Function.comp_def]
          rw [h6]
          exact List.Pairwise.map _ (fun a b hne e => hne (ek_inj e)) hn
        rw [nodup_map_inj hnk he' he1 (by rw [h4, hp2])]
/-- What was shown is deleted. -/
theorem RangeD.del (hr : RangeD ek ev g b m T done) (k : K) :
    ∃ es c, g[m]? = some (.map es c) ∧ KeysLike (ek k) es ∧ ∀ h1 : Hp, Ext [m] g h1 → h1[m]? = some (mdel (ek k) es c) → RangeD ek ev h1 b m (adel T k) done := by
  have hlt := hr.lt
  obtain ⟨es, c, seen, q1, q2, q3⟩ := hr
  refine ⟨es, c, q1.mp, keysLike_ents q2 k, fun h1 he hb => ?_⟩
  obtain ⟨es', g1, g2⟩ := mdel_ents q2 k c
  have hbn := q1.bn.del _ g1
  have hsub : ∀ e ∈ es'.toList, e ∈ es.toList := by
    unfold mdel at g1
    split at g1
    · cases g1
      intro e he
      unfold Array.eraseIdxIfInBounds at he
      split at he
      · rw [Array.toList_eraseIdx] at he; exact (List.eraseIdx_sublist _ _).subset he
      · exact he
    · cases g1; exact fun e h => h
  rw [g1] at hb
  exact ⟨es', c, seen, ⟨he.get q1.it (by simp; exact hlt.2.2), hb, hbn⟩, g2, fun e he => q3 e (hsub e he)⟩
theorem adel_filter [DecidableEq V] (hn : (T.map Prod.fst).Nodup) {p : K × V} (hp : p ∈ T) : adel T p.1 = T.filter fun q => !decide (q = p) := by
  induction T with
  | nil => cases hp
  | cons a T ih =>
    rw [List.map_cons, List.nodup_cons] at hn
    obtain ⟨k, v⟩ := a
    simp only [adel]
    by_cases e : p.1 = k
    · have : p = (k, v) := by
        rcases List.mem_cons.1 hp with h | h
        · exact h
        · exact absurd (List.mem_map.2 ⟨p, h, e⟩) hn.1
      subst this
      rw [if_pos rfl, List.filter_cons]
      simp only [decide_true, Bool.not_true, Bool.false_eq_true, if_false]
      rw [List.filter_eq_self.2]
      intro q hq
      have : q ≠ (k, v) := fun e => hn.1 (List.mem_map.2 ⟨q, hq, by rw [e]⟩)
      simp [this]
    · rw [if_neg e, List.filter_cons]
      have hne : (k, v) ≠ p := fun h => e (by rw [← h])
      rw [if_pos (by simp [hne]), ih hn.2 (by
        rcases List.mem_cons.1 hp with h | h
        · exact absurd h.symm hne
        · exact h)]
/-- maps.DeleteFunc's range. -/
theorem rangeDel [DecidableEq V] {X : List Value → Hp → Prop} {E : Hp → Prop} {B : MapEntry → Hp → Prop} {P1 P2 : Prop} (d : K × V → Bool) (hn : (T.map Prod.fst).Nodup)
    (hX : ∀ (h8 : Hp), (P1 ∧ ∃ o9 : Obj, h8[b]? = some o9 ∧ IterGood h8 o9 ∧ (IterEnd h8 o9 → E h8) ∧
      ∀ (k10 v11 : Value) (o12 : Obj), IterStep h8 o9 k10 v11 o12 → wth (Array.setIfInBounds h8 b o12) fun h54 =>
        (P2 ∧ ∃ (m55 n56 : Nat) (q57 : Array Nat) (n58 : Nat) (es59 : Array MapEntry) (c60 : Nat) (e61 : MapEntry), h54[b]? = some (.mapIter (some m55) n56 q57 c60) ∧ Array.back? q57 = some n58 ∧ h54[m55]? = some (.map es59 c60) ∧ Array.find? (fun x => x.born == n58) es59 = some e61 ∧ B e61 h54)) → X [] h8)
    (I : Hp → Prop)
    (hend : ∀ g, I g → IsMap ek ev g m (T.filter fun q => !d q) → E g)
    (hstep : ∀ p g e g' (T1 done : List (K × V)), I g → p ∈ T → e.key = ek p.1 → e.val = ev p.2 → Ext [b] g g' → g'.size = g.size → RangeD ek ev g' b m T1 done → b < g'.size →
      (∀ g'', I g'' → RangeD ek ev g'' b m (if d p = true then adel T1 p.1 else T1) done → X [] g'') → B e g')
    (g : Hp) (hI : I g) (hr : RangeD ek ev g b m T []) (hp1 : P1 := by trivial) (hp2 : P2 := by trivial) : X [] g := by
  have key : ∀ k g done, T.length - done.length = k → I g → (∀ q ∈ done, q ∈ T) → (done.map Prod.fst).Nodup → RangeD ek ev g b m (T.filter fun q => !(decide (q ∈ done) && d q)) done → X [] g := by
    intro k
    induction k using Nat.strongRecOn with
    | ind k ih =>
      intro g done hk hI hdT hdn hr
      have hnn : ((T.filter fun q => !(decide (q ∈ done) && d q)).map Prod.fst).Nodup := hn.sublist (List.filter_sublist.map _)
      have hr0 := hr
      obtain ⟨es, c, seen, q1, q2⟩ := hr0
      refine hX _ ⟨hp1, _, q1.it, q1.good, fun he => hend g hI ?_, fun k v o hs => ?_⟩
      · have hov := hr.over q1.it he
        have : (T.filter fun q => !(decide (q ∈ done) && d q)) = T.filter fun q => !d q := by
          refine List.filter_congr fun q hq => ?_
          by_cases hd : d q = true
          · by_cases hqd : q ∈ done
            · simp [hqd]
            · have hm : q ∈ T.filter fun q => !(decide (q ∈ done) && d q) := List.mem_filter.2 ⟨hq, by simp [hqd]⟩
              obtain ⟨q', h1, h2⟩ := hov q hm
              have h3 := hdT q' h1
              have : q' = q := by
                exact nodup_map_inj hn h3 hq h2
              rw [this] at h1
              exact absurd h1 hqd
          · simp [hd]
        rw [← this]
        exact hr.map
      · obtain ⟨p, es', c', seen', e, hp1', hp2', ho, hm, hf, hk', hv', hnext⟩ := hr.step hnn q1.it hs
        have hlt := hr.lt
        refine setI q1.it fun g' s1 k1 e1 => ?_
        have hm' := e1.get hm (by simp; exact fun e => hlt.2.2 e.symm)
        rw [ho] at k1
        refine ⟨hp2, m, c', seen'.push e.born, e.born, es', c', e, k1, Array.back?_push, hm', hf, ?_⟩
        have hpT : p ∈ T := (List.mem_filter.1 hp1').1
        have hpd : p ∉ done := fun h => hp2' p h rfl
        have hdT' : ∀ q ∈ done ++ [p], q ∈ T := fun q hq => by
          rcases List.mem_append.1 hq with hq | hq
          · exact hdT q hq
          · simp at hq; rw [hq]; exact hpT
        have hdn' : ((done ++ [p]).map Prod.fst).Nodup := by
          rw [List.map_append, List.nodup_append]
          refine ⟨hdn, by simp, fun a ha b hb => ?_⟩
          simp at hb
          obtain ⟨q, hq, rfl⟩ := List.mem_map.1 ha
          rw [hb]
          exact hp2' q hq
        have hle : (done ++ [p]).length ≤ T.length := by
          have := nodup_sub_len (l := (done ++ [p]).map Prod.fst) (m := T.map Prod.fst) hdn' fun x hx => by
            obtain ⟨q, hq, rfl⟩ := List.mem_map.1 hx
            exact List.mem_map.2 ⟨q, hdT' q hq, rfl⟩
          simpa using this
        simp only [List.length_append, List.length_cons, List.length_nil] at hle
        refine hstep p g e g' _ (done ++ [p]) hI hpT hk' hv' e1 s1 (hnext g' (by rw [ho]; exact k1) hm') (by rw [s1]; exact hlt.1) fun g'' hI' hr' => ih (T.length - (done ++ [p]).length) (by simp; omega) g'' (done ++ [p]) rfl hI' hdT' hdn' ?_
        have : (if d p = true then adel (T.filter fun q => !(decide (q ∈ done) && d q)) p.1 else T.filter fun q => !(decide (q ∈ done) && d q)) = T.filter fun q => !(decide (q ∈ done ++ [p]) && d q) := by
          by_cases hd : d p = true
          · rw [if_pos hd, adel_filter hnn hp1', List.filter_filter]
            refine List.filter_congr fun q hq => ?_
            by_cases e : q = p
            · subst e; simp [hd]
            · simp [e]
          · rw [if_neg hd]
            refine List.filter_congr fun q hq => ?_
            by_cases e : q = p
            · subst e; simp [hd]
            · simp [e]
        rw [this] at hr'
        exact hr'
  exact key _ g [] rfl hI (by simp) (by simp) (by rw [List.filter_eq_self.2 (by simp)]; exact hr)
theorem mfind_push (k : Value) (e : MapEntry) (he : keyB k e.key = true) : ∀ (L : List MapEntry) (i : Nat), mfind k L i = none → mfind k (L ++ [e]) i = some (i + L.length, e.val)
  | [], i, _ => by simp [mfind, he]
  | a :: L, i, h => by
    simp only [mfind] at h
    simp only [List.cons_append, mfind]
    split at h
    · cases h
    · rename_i hk
      rw [if_neg hk, mfind_push k e he L (i + 1) h]
      simp only [List.length_cons, Option.some.injEq, Prod.mk.injEq, and_true]
      omega
/-- m[k] op= v of a key that is not there. -/
theorem IsMap.bump {h : Hp} (hm : IsMap ek ev h m T) {k : K} (hk : afind T k = none) (z : Value) (v : V) :
    ∃ es c, h[m]? = some (.map es c) ∧ KeysLike (ek k) es ∧ (ment (ek k) es c z).1 = z ∧ ∀ h1 : Hp, h1[m]? = some (ment (ek k) es c z).2.2 → (∃ es1, Go.Lift.mapAt h1 (some m) es1 ∧ KeysLike (ek k) es1 ∧ ∀ w, mgetD (ek k) es1 w = z) ∧
      ∃ es' c' es'', h1[m]? = some (.map es' c') ∧ msto (ev v) ((ment (ek k) es c z).2.1 : Int) es' = some es'' ∧ ∀ h2 : Hp, h2[m]? = some (.map es'' c') → IsMap ek ev h2 m (aput T k v) := by
  obtain ⟨es, c, h1, h2, h3⟩ := hm
  have hmf : mfind (ek k) es.toList 0 = none := by
    have := mfind_ents es.toList T h2 k 0
    rw [hk] at this
    cases h : mfind (ek k) es.toList 0 with
    | none => rfl
    | some p => rw [h] at this; cases this
  have hment : ment (ek k) es c z = (z, c, .map (es.push { key := ek k, val := z, born := c }) (c + 1)) := by unfold ment; rw [hmf]
  have hkl := keysLike_ents h2 k
  have hkb : keyB (ek k) (ek k) = true := by rw [KeyEnc.keq (ek := ek)]; simp
  refine ⟨es, c, h1, hkl, by rw [hment], fun g hb => ?_⟩
  rw [hment] at hb
  have hz : EntsOf ek ev (es.push { key := ek k, val := ev v, born := c }) (aput T k v) ∧ Born (es.push { key := ek k, val := ev v, born := c }) (c + 1) := by
    obtain ⟨es', c', g1, g2⟩ := mput_ents h2 k v c
    have g3 := h3.put _ _ g1
    unfold mput at g1
    rw [hmf] at g1
    cases g1
    exact ⟨g2, g3⟩
  refine ⟨⟨_, Or.inr ⟨m, _, rfl, hb⟩, ?_, fun w => ?_⟩, _, _, es.push { key := ek k, val := ev v, born := c }, hb, ?_, fun h2 hb2 => ⟨_, _, hb2, hz⟩⟩
  · intro e he
    rw [Array.toList_push, List.mem_append] at he
    rcases he with he | he
    · exact hkl e he
    · simp at he
      rw [he]
      exact KeyEnc.like _ _
  · unfold mgetD
    rw [Array.toList_push, mfind_push _ _ (by simpa using hkb) _ _ hmf]
  · rw [hment]
    unfold msto
    have hfi : (es.push { key := ek k, val := z, born := c }).findIdx? (fun e => (e.born : Int) == (c : Int)) = some es.size := by
      rw [Array.findIdx?_push]
      have : es.findIdx? (fun e => (e.born : Int) == (c : Int)) = none := by
        rw [Array.findIdx?_eq_none_iff]
        intro e he
        have := h3.1 e.born (List.mem_map.2 ⟨e, by simpa using he, rfl⟩)
        simp
        omega
      rw [this]
      simp
    rw [hfi]
    simp only [Option.some.injEq]
    apply Array.ext_getElem?
    intro i
    rw [Array.getElem?_modify]
    by_cases e : es.size = i
    · subst e
      simp
    · rw [if_neg e, Array.getElem?_push, Array.getElem?_push, if_neg (fun h => e h.symm), if_neg (fun h => e h.symm)]
end
end Go.Lift

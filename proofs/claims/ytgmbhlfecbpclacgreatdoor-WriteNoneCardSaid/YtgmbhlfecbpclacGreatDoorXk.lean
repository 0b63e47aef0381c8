/- The evaluator's loud operations are sound: iterators, append. -/
import Derived.Test.YtgmbhlfecbpclacGreatDoorXj
set_option linter.unusedSimpArgs false
set_option linter.unusedVariables false
namespace Go.Lift
open Go
section
variable {P : Program} {E : EX} {C : XH} {h : Hp}
/-! ### iterators -/
theorem inX_iff {n : Nat} : ∀ {l : List Nat}, inX n l = true ↔ n ∈ l
  | [] => by simp [inX]
  | x :: l => by
    simp only [inX]
    split
    · rename_i g
      have := Nat.eq_of_beq_eq_true g
      simp [this]
    · rename_i g
      have hne : ¬ n = x := fun e => by rw [e, Nat.beq_refl] at g; cases g
      simp [inX_iff, hne]
theorem insX_mem {b n : Nat} : ∀ {l : List Nat}, n ∈ insX b l ↔ n = b ∨ n ∈ l
  | [] => by simp [insX]
  | x :: l => by
    simp only [insX]
    split
    · simp
    · simp only [List.mem_cons, insX_mem]
      constructor
      · rintro (h | h | h)
        · exact .inr (.inl h)
        · exact .inl h
        · exact .inr (.inr h)
      · rintro (h | h | h)
        · exact .inr (.inl h)
        · exact .inl h
        · exact .inr (.inr h)
theorem rangeX_sound {t : TypeId} {x : XV} {a : Value} {r : XV × XH} {K : Value → Hp → Prop} (H : RH P E C h) (hr : rangeX P t x C = some r) (hx : RV E x a)
    (hK : ∀ E' u h', Adv E C h E' r.2 h' → RH P E' r.2 h' → RV E' r.1 u → K u h') : rangeW P t a h K := by
  unfold rangeX at hr
  split at hr
  · rename_i kt et ht
    rw [newX_some hr] at hK
    simp only [RV] at hx; subst hx
    simp only [rangeW, ht]
    refine ⟨_, .inl ⟨rfl, rfl⟩, ?_⟩
    obtain ⟨g1, g2⟩ := H.push (o := .iter none 0 [] 0 0) (ob := .mapIter none 0 #[] 0) (x := 0) ⟨none, #[], push_get _ _, rfl, fun n => by simp [inX], fun hn => absurd rfl hn⟩
    exact hK _ _ _ g2 g1 ⟨_, updE_new _ _ _, rfl⟩
  · rename_i kt et m ht
    rw [nthX_eq] at hr
    split at hr
    · rename_i es clk hm
      rw [newX_some hr] at hK
      obtain ⟨b, h1, h2, M, h3, h4⟩ := H.id hm
      obtain ⟨b', h5, rfl⟩ := hx
      rw [h1] at h5; cases h5
      simp only [rangeW, ht]
      refine ⟨_, .inr ⟨_, _, _, rfl, h3, rfl⟩, ?_⟩
      obtain ⟨g1, g2⟩ := H.push (o := .iter (some m) clk [] clk 0) (ob := .mapIter (some b.1) clk #[] clk) (x := 0) ⟨some b.1, #[], push_get _ _, ⟨b, H.grow _ _ _ h1, rfl⟩, fun n => by simp [inX], fun hn => absurd rfl hn⟩
      exact hK _ _ _ g2 g1 ⟨_, updE_new _ _ _, rfl⟩
    · cases hr
  · cases hr
theorem REs.mem : ∀ {es : List XE} {m : List MapEntry} {e : MapEntry}, REs E es m → e ∈ m → ∃ x ∈ es, RV E x.key e.key ∧ RV E x.val e.val ∧ e.born = x.born
  | [], m, e, h, he => by simp only [REs] at h; subst h; simp at he
  | x :: es, m, e, h, he => by
    obtain ⟨e', m', rfl, h1, h2, h3, h4⟩ := h
    rcases List.mem_cons.1 he with rfl | he
    · exact ⟨x, by simp, h1, h2, h3⟩
    · obtain ⟨y, g1, g2⟩ := REs.mem h4 he
      exact ⟨y, by simp [g1], g2⟩
theorem REs.mem' : ∀ {es : List XE} {m : List MapEntry} {x : XE}, REs E es m → x ∈ es → ∃ e ∈ m, RV E x.key e.key ∧ RV E x.val e.val ∧ e.born = x.born
  | [], m, x, h, hx => by simp at hx
  | y :: es, m, x, h, hx => by
    obtain ⟨e', m', rfl, h1, h2, h3, h4⟩ := h
    rcases List.mem_cons.1 hx with rfl | hx
    · exact ⟨e', by simp, h1, h2, h3⟩
    · obtain ⟨z, g1, g2⟩ := REs.mem' h4 hx
      exact ⟨z, by simp [g1], g2⟩
theorem unseenX_mem {seen : List Nat} {x : XE} : ∀ {es : List XE}, x ∈ unseenX seen es ↔ x ∈ es ∧ inX x.born seen = false
  | [] => by simp [unseenX]
  | y :: es => by
    simp only [unseenX]
    split
    · rename_i g
      rw [unseenX_mem]
      constructor
      · rintro ⟨h1, h2⟩; exact ⟨by simp [h1], h2⟩
      · rintro ⟨h1, h2⟩
        rcases List.mem_cons.1 h1 with rfl | h1
        · rw [g] at h2; cases h2
        · exact ⟨h1, h2⟩
    · rename_i g
      simp only [List.mem_cons, unseenX_mem]
      constructor
      · rintro (rfl | ⟨h1, h2⟩)
        · exact ⟨.inl rfl, g⟩
        · exact ⟨.inr h1, h2⟩
      · rintro ⟨rfl | h1, h2⟩
        · exact .inl rfl
        · exact .inr ⟨h1, h2⟩
theorem allNewX_of {last : Nat} : ∀ {es : List XE} {m : List MapEntry}, REs E es m → m.all (·.born ≥ last) = allNewX last es
  | [], m, h => by simp only [REs] at h; subst h; rfl
  | x :: es, m, h => by
    obtain ⟨e, m', rfl, h1, h2, h3, h4⟩ := h
    simp only [List.all_cons, allNewX, allNewX_of h4, h3]
    cases hb : Nat.ble last x.born with
    | true => simp [Nat.le_of_ble_eq_true hb]
    | false =>
      have : ¬ x.born ≥ last := fun g => by rw [Nat.ble_eq_true_of_le g] at hb; cases hb
      simp [this]
theorem stepsX_mem {k m since clk : Nat} {seen : List Nat} {x : XE} : ∀ {es : List XE} {outs : List (Option XV × XH)}, stepsX C k m since clk seen es = some outs → x ∈ es →
    ∃ C', setX C k (.iter (some m) since (insX x.born seen) clk x.born) = some C' ∧ (some (.tup [.bool true, x.key, x.val]), C') ∈ outs ∧ x.born < since
  | [], _, _, hx => by simp at hx
  | y :: es, outs, hs, hx => by
    simp only [stepsX] at hs
    split at hs
    · rename_i C' r hb hC hr
      simp only [Option.some.injEq] at hs; subst hs
      rcases List.mem_cons.1 hx with rfl | hx
      · exact ⟨C', hC, by simp, Nat.le_of_ble_eq_true hb⟩
      · obtain ⟨C2, g1, g2, g3⟩ := stepsX_mem hr hx
        exact ⟨C2, g1, by simp [g2], g3⟩
    · cases hs
theorem nextX_sound {a : XV} {p : Value} {outs : List (Option XV × XH)} {K : Option Value → Hp → Prop} (H : RH P E C h) (hn : nextX C a = some outs) (ha : RV E a p)
    (hK : ∀ r ∈ outs, ∀ E' u h', Adv E C h E' r.2 h' → RH P E' r.2 h' → RR E' r.1 u → K u h') : adW p fun ad => nextW h ad fun v h' => K (some v) h' := by
  unfold nextX at hn
  split at hn
  · rename_i k
    obtain ⟨b, hb, rfl⟩ := ha
    rw [nthX_eq] at hn
    split at hn
    · rename_i since seen last cur hk
      obtain ⟨C', h1, hn⟩ := bnd_some hn
      obtain ⟨_, rfl⟩ := setX_some h1
      simp only [Option.some.injEq] at hn; subst hn
      obtain ⟨b', e1, _, m', arr, e2, e3, _⟩ := H.id hk
      rw [hb] at e1; cases e1
      simp only [RM] at e3; subst e3
      obtain ⟨g1, g2⟩ := H.kill k
      refine ⟨rfl, _, e2, .nil _ _ _, fun _ => hK _ (List.mem_singleton.2 rfl) _ _ _ g2 g1 ⟨_, rfl, _, rfl, RVs.cons rfl RVs.nil⟩, fun kk v o' hs => by cases hs⟩
    · rename_i m since seen last cur hk
      obtain ⟨b', e1, _, m', arr, e2, e3, e4, e5⟩ := H.id hk
      rw [hb] at e1; cases e1
      obtain ⟨mb, e6, rfl⟩ := e3
      rw [nthX_eq] at hn
      split at hn
      · rename_i es clk hm
        obtain ⟨mb', e7, _, M, e8, e9⟩ := H.id hm
        rw [e6] at e7; cases e7
        split at hn
        · rename_i hgood
          have good : IterGood h (.mapIter (some mb.1) since arr last) := by
            refine .good _ _ _ _ _ _ e8 ?_
            split at hgood
            · rename_i s0 ss x0 xs
              have : M.toArray.all (·.born ≥ last) = false := by
                rw [List.all_toArray, allNewX_of e9]
                simpa using hgood
              rw [this]; simp
            · rename_i hnot
              rcases seen with _ | ⟨s0, ss⟩
              · have : arr = #[] := by
                  apply Array.eq_empty_of_size_eq_zero
                  rcases Nat.eq_zero_or_pos arr.size with g | g
                  · exact g
                  · have := e4 arr[0]
                    simp [inX] at this
                rw [this]; rfl
              · rcases es with _ | ⟨x0, xs⟩
                · simp only [REs] at e9
                  rw [e9]; simp
                · exact absurd rfl (hnot _ _ _ _ rfl)
          refine ⟨rfl, _, e2, good, ?_, ?_⟩
          · intro hend
            split at hn
            · obtain ⟨C', h1, hn⟩ := bnd_some hn
              obtain ⟨_, rfl⟩ := setX_some h1
              simp only [Option.some.injEq] at hn; subst hn
              obtain ⟨g1, g2⟩ := H.kill k
              exact hK _ (List.mem_singleton.2 rfl) _ _ _ g2 g1 ⟨_, rfl, _, rfl, RVs.cons rfl RVs.nil⟩
            · rename_i x l hu
              obtain ⟨_, _, _, hlt⟩ := stepsX_mem hn (x := x) (by simp)
              have hx : x ∈ unseenX seen es := by rw [hu]; simp
              obtain ⟨hx1, hx2⟩ := unseenX_mem.1 hx
              obtain ⟨e, k1, _, _, k4⟩ := e9.mem' hx1
              cases hend with
              | over _ _ _ _ es2 clk2 he hemp =>
                rw [e8] at he; cases he
                rw [Array.isEmpty_iff_size_eq_zero] at hemp
                have hmem : e ∈ (M.toArray.filter fun e => !arr.contains e.born).filter (·.born < since) := by
                  simp only [Array.mem_filter, List.mem_toArray, decide_eq_true_eq]
                  refine ⟨⟨k1, ?_⟩, by omega⟩
                  rw [k4, e4, hx2]; rfl
                rw [Array.eq_empty_of_size_eq_zero hemp] at hmem
                simp at hmem
          · intro kk v o' hstep
            cases hstep with
            | step _ _ _ _ es2 clk2 e he hmem =>
              rw [e8] at he; cases he
              simp only [Array.mem_filter, List.mem_toArray] at hmem
              obtain ⟨hm1, hm2⟩ := hmem
              obtain ⟨x, k1, k2, k3, k4⟩ := e9.mem hm1
              have hu : x ∈ unseenX seen es := unseenX_mem.2 ⟨k1, by rw [k4, e4] at hm2; simpa using hm2⟩
              split at hn
              · rename_i hu0
                rw [hu0] at hu; simp at hu
              · rename_i x0 l hu0
                rw [hu0] at hu
                obtain ⟨C', j1, j2, j3⟩ := stepsX_mem hn hu
                obtain ⟨_, rfl⟩ := setX_some j1
                have ro : RO P E (h.setIfInBounds b.1 (.mapIter (some mb.1) since (arr.push e.born) clk)) b (.iter (some m) since (insX x.born seen) clk x.born) := by
                  refine ⟨some mb.1, arr.push e.born, set_blk e2, ⟨mb, e6, rfl⟩, fun n => ?_, fun _ => ?_⟩
                  · rw [Bool.eq_iff_iff, inX_iff, insX_mem, k4, ← inX_iff (l := seen), ← e4 n]
                    simp only [Array.contains_iff_mem, Array.mem_push]
                    exact Or.comm
                  · rw [k4]; simp
                obtain ⟨g1, g2⟩ := H.set hk rfl hb (h' := h.setIfInBounds b.1 (.mapIter (some mb.1) since (arr.push e.born) clk)) (by simp) (fun j hj => by rw [Array.getElem?_setIfInBounds]; simp [Ne.symm hj]) ro
                exact hK _ j2 _ _ _ g2 g1 ⟨_, rfl, _, rfl, RVs.cons rfl (RVs.cons k2 (RVs.cons k3 RVs.nil))⟩
        · cases hn
      · cases hn
    · cases hn
  · cases hn
theorem findBorn_of {n : Nat} : ∀ {es : List XE} {m : List MapEntry} {x : XE}, REs E es m → findBorn n es = some x → ∃ e, m.find? (·.born == n) = some e ∧ RV E x.key e.key ∧ RV E x.val e.val
  | [], _, _, _, hf => by simp [findBorn] at hf
  | y :: es, m, x, h, hf => by
    obtain ⟨e, m', rfl, h1, h2, h3, h4⟩ := h
    simp only [findBorn] at hf
    split at hf
    · rename_i g
      have g := Nat.eq_of_beq_eq_true g
      simp only [Option.some.injEq] at hf; subst hf
      exact ⟨e, by simp [List.find?_cons, h3, g], h1, h2⟩
    · rename_i g
      have hne : ¬ y.born = n := fun e => by rw [e, Nat.beq_refl] at g; cases g
      obtain ⟨e', k1, k2⟩ := findBorn_of h4 hf
      refine ⟨e', ?_, k2⟩
      have : (e.born == n) = false := by rw [beq_eq_false_iff_ne, h3]; exact hne
      simp [List.find?_cons, this, k1]
theorem entryX_sound {a z : XV} {p : Value} {K : Value → Prop} (H : RH P E C h) (hz : entryX C a = some z) (ha : RV E a p) (hK : ∀ u, RV E z u → K u) : adW p fun ad => entryW h ad (.c .any) (.c .any) K := by
  unfold entryX at hz
  split at hz
  · rename_i k
    obtain ⟨b, hb, rfl⟩ := ha
    rw [nthX_eq] at hz
    split at hz
    · rename_i m since s0 ss last cur hk
      obtain ⟨b', e1, _, m', arr, e2, e3, e4, e5⟩ := H.id hk
      rw [hb] at e1; cases e1
      obtain ⟨mb, e6, rfl⟩ := e3
      rw [nthX_eq] at hz
      split at hz
      · rename_i es clk hm
        obtain ⟨mb', e7, _, M, e8, e9⟩ := H.id hm
        rw [e6] at e7; cases e7
        split at hz
        · rename_i x hcl hfb
          have hcl := Nat.eq_of_beq_eq_true hcl
          subst hcl
          simp only [Option.some.injEq] at hz; subst hz
          obtain ⟨e, g1, g2, g3⟩ := findBorn_of e9 hfb
          refine ⟨rfl, _, _, _, _, _, _, e, e2, e5 (by simp), e8, by simpa using g1, ?_⟩
          exact ⟨e.key, rfl, e.val, rfl, hK _ ⟨_, rfl, RVs.cons g2 (RVs.cons g3 RVs.nil)⟩⟩
        · cases hz
      · cases hz
    · cases hz
  · cases hz
end
end Go.Lift

/- The evaluator's loud operations are sound. -/
import Derived.Test.YtgmbhlfecbpclacGreatDoorXh
set_option linter.unusedSimpArgs false
set_option linter.unusedVariables false
namespace Go.Lift
open Go
section
variable {P : Program} {E : EX} {C : XH} {h : Hp}
/-! ### new blocks -/
theorem updE_new (E : EX) (k : Nat) (b : Nat × Nat) : updE E k b k = some b := by simp [updE]
theorem RH.new (H : RH P E C h) {l : List XV} {c : Array Value} {e : TypeId} {x : Nat} (hp : ∀ (i : Nat) (v : XV), l[i]? = some v → ∃ u, c[i]? = some u ∧ RV E v u) (hs : l.length + x * szD P e ≤ c.size) :
    RH P (updE E C.length (h.size, x)) (C ++ [.cells l e]) (h.push (.cells c e)) ∧ Adv E C h (updE E C.length (h.size, x)) (C ++ [.cells l e]) (h.push (.cells c e)) :=
  H.push ⟨c, push_get h _, hs, fun i v hv => let ⟨u, h1, h2⟩ := hp i v hv; ⟨u, h1, h2.grow (H.grow _)⟩⟩
theorem RVs.pre {l : List XV} {c : Array Value} {n : Nat} (hx : RVs E l c.toList) : (∀ (i : Nat) (v : XV), l[i]? = some v → ∃ u, c[i]? = some u ∧ RV E v u) ∧ l.length + 0 * n ≤ c.size := by
  refine ⟨fun i v hv => ?_, ?_⟩
  · obtain ⟨u, h1, h2⟩ := hx.get hv
    exact ⟨u, by simpa using h1, h2⟩
  · have := hx.len
    simp only [Array.length_toList] at this
    omega
/-- A written block. -/
theorem stcX_of {k o : Nat} {new : List XV} {us : List Value} {C' : XH} (H : RH P E C h) (hs : stcX C k o new = some C') (hn : RVs E new us) :
    ∃ b c e, E k = some b ∧ Blk h b.1 c e ∧ (us = [] ∨ o + us.length ≤ c.size) ∧ stOk h ⟨b.1, o, none⟩ us.length ∧ RH P E C' (wrs h ⟨b.1, o, none⟩ 0 us) ∧ Adv E C h E C' (wrs h ⟨b.1, o, none⟩ 0 us) := by
  unfold stcX at hs
  rw [nthX_eq] at hs
  split at hs
  · rename_i l e hk
    split at hs
    · rename_i l' ho
      obtain ⟨hlt, rfl⟩ := setX_some hs
      obtain ⟨b, h1, h2, c, h3, h4, h5⟩ := H.id hk
      obtain ⟨g1, g2, g3⟩ := overX_some ho
      have hl := hn.len
      have hb : us = [] ∨ o + us.length ≤ c.size := by
        rcases g2 with rfl | g2
        · simp only [RVs] at hn; exact .inl hn
        · exact .inr (by omega)
      have key : RH P E (C.set k (.cells l' e)) (wrs h ⟨b.1, o, none⟩ 0 us) ∧ Adv E C h E (C.set k (.cells l' e)) (wrs h ⟨b.1, o, none⟩ 0 us) := by
        rw [wrs_blk us h3]
        refine H.set hk rfl h1 (by simp) (fun j hj => by rw [Array.getElem?_setIfInBounds]; simp [Ne.symm hj]) ⟨putAt c (o + 0) us, set_blk h3, by rw [g1, putAt_size]; exact h4, fun i x hx => ?_⟩
        rw [g3 i] at hx
        rw [Nat.add_zero]
        rcases hb with rfl | hb
        · have : new = [] := List.eq_nil_of_length_eq_zero hl.symm
          subst this
          rw [if_neg (by simp)] at hx
          exact h5 i x hx
        · rw [putAt_get0 _ _ _ _ hb]
          split at hx
          · rw [if_pos (by omega)]; exact hn.get hx
          · rw [if_neg (by omega)]; exact h5 i x hx
      refine ⟨b, c, e, h1, h3, hb, ?_, key⟩
      rcases hb with rfl | hb
      · intro i hi; simp at hi
      · exact stOk_blk h3 hb
    · cases hs
  · cases hs
theorem all_one : ∀ {l : List XV} {us : List Value}, RVs E l us → (∀ v ∈ l, oneX v = true) → ∀ u ∈ us, oneCell u = true
  | [], us, h, _, u, hu => by simp only [RVs] at h; subst h; simp at hu
  | x :: l, us, h, ha, u, hu => by
    obtain ⟨v, m, rfl, h1, h2⟩ := h
    rcases List.mem_cons.1 hu with rfl | hu
    · exact one_of h1 (ha x (by simp))
    · exact all_one h2 (fun v hv => ha v (by simp [hv])) u hu
theorem allOneX_of : ∀ {l : List XV}, allOneX l = true → ∀ v ∈ l, oneX v = true
  | [], _, v, hv => by simp at hv
  | x :: l, h, v, hv => by
    simp only [allOneX] at h
    split at h
    · rename_i g
      rcases List.mem_cons.1 hv with rfl | hv
      · exact g
      · exact allOneX_of h v hv
    · cases h
theorem stX_sound {t : TypeId} {a v : XV} {p u : Value} {C' : XH} {K : Hp → Prop} (H : RH P E C h) (hs : stX P t a v C = some C') (ha : RV E a p) (hv : RV E v u)
    (hK : ∀ h', Adv E C h E C' h' → RH P E C' h' → K h') : adW p fun ad => stW P t ad u h K := by
  unfold stX at hs
  split at hs
  · rename_i k o n hn
    obtain ⟨b, hb, rfl⟩ := ha
    split at hs
    · rename_i hc
      simp only [Bool.and_eq_true] at hc
      have hc1 := Nat.eq_of_beq_eq_true hc.1
      rw [lenX_0] at hc1
      have hcs := cells_of hv
      have hsz : u.cells.size = n := by have := hcs.len; simp only [Array.length_toList] at this; omega
      obtain ⟨b', c, e, h1, h2, h3, h4, h5, h6⟩ := stcX_of H hs hcs
      rw [hb] at h1; cases h1
      have hall : u.cells.toList.all oneCell = true := List.all_eq_true.2 (all_one hcs (fun v hv => List.all_eq_true.1 hc.2 v hv))
      simp only [adW, stW, hn, hall, Bool.and_true, hsz, beq_self_eq_true]
      exact ⟨by simpa [hsz] using h4, hK _ h6 h5⟩
    · cases hs
  · cases hs
theorem newX_some {o : XO} {K : Nat → XV} {r : XV × XH} (hr : newX C o K = some r) : r = (K C.length, C ++ [o]) := by
  simpa [newX, eq_comm] using hr

/-! ### repeated cells -/
theorem repsX_get {z : List XV} (hz : 0 < z.length) : ∀ (n : Nat) (l : List XV), (∀ i, l[i]? = if i < l.length then z[i % z.length]? else none) → l.length % z.length = 0 →
    (repsX z n l).length = n * z.length + l.length ∧ ∀ i, (repsX z n l)[i]? = if i < n * z.length + l.length then z[i % z.length]? else none
  | 0, l, hl, _ => by simp only [repsX, Nat.zero_mul, Nat.zero_add]; exact ⟨trivial, hl⟩
  | n + 1, l, hl, hm => by
    simp only [repsX, appX_eq]
    have h1 : ∀ i, (z ++ l)[i]? = if i < (z ++ l).length then z[i % z.length]? else none := fun i => by
      rw [List.getElem?_append]
      split
      · rename_i g
        rw [if_pos (by simp; omega), Nat.mod_eq_of_lt g]
      · rename_i g
        rw [hl]
        simp only [List.length_append]
        by_cases g2 : i - z.length < l.length
        · rw [if_pos g2, if_pos (by omega)]
          congr 1
          rw [← Nat.mod_eq_sub_mod (by omega)]
        · rw [if_neg g2, if_neg (by omega)]
    obtain ⟨h2, h3⟩ := repsX_get hz n (z ++ l) h1 (by simp [hm])
    have e : n * z.length + (z ++ l).length = (n + 1) * z.length + l.length := by simp only [List.length_append]; rw [Nat.succ_mul]; omega
    rw [e] at h2
    exact ⟨h2, fun i => by rw [h3 i, e]⟩
theorem reps_of {z : List XV} {zv : Array Value} (hz : RVs E z zv.toList) (h0 : 0 < z.length) (n : Nat) : RVs E (repsX z n []) ((Array.range (n * zv.size)).map fun i => zv[i % zv.size]!).toList := by
  obtain ⟨h1, h2⟩ := repsX_get h0 n [] (fun i => by simp) (by simp)
  have hl := hz.len
  simp only [Array.length_toList] at hl
  simp only [List.length_nil, Nat.add_zero] at h1 h2
  refine RVs_iff.2 ⟨by simp [h1, hl], fun i x hx => ?_⟩
  rw [h2 i] at hx
  split at hx
  · rename_i hi
    obtain ⟨u, g1, g2⟩ := hz.get hx
    refine ⟨u, ?_, g2⟩
    have hi' : i < n * zv.size := by rw [hl]; exact hi
    have hm : i % zv.size < zv.size := Nat.mod_lt _ (by omega)
    simp only [Array.toList_map, List.getElem?_map, Array.toList_range, List.getElem?_range hi', Option.map_some]
    congr 1
    have e1 : zv[i % zv.size]! = zv[i % zv.size] := by simp [hm]
    rw [e1]
    rw [← hl] at g1
    rw [Array.getElem?_toList, Array.getElem?_eq_getElem hm] at g1
    simpa using g1
  · cases hx
theorem alX_of {t : TypeId} {r : XV × XH} {z : List XV} {K : Value → Hp → Prop} (H : RH P E C h) (hz : zcX P t = some z) (hr : newX C (.cells z t) (fun k => .ptr (some (k, 0))) = some r)
    (hK : ∀ E' u h', Adv E C h E' r.2 h' → RH P E' r.2 h' → RV E' r.1 u → K u h') : alW P t h K := by
  obtain ⟨zv, h1, h2, h3⟩ := zcX_of (E := E) hz
  rw [newX_some hr] at hK
  simp only [alW, h1, h3]
  obtain ⟨g1, g2⟩ := RVs.pre (n := szD P t) h2
  obtain ⟨g3, g4⟩ := H.new g1 g2
  exact hK _ _ _ g4 g3 ⟨_, updE_new _ _ _, rfl⟩
theorem bsX_sound {t : TypeId} {n : Nat} {ps : List (Nat × XV)} {vs : List (Nat × Value)} {r : XV × XH} {K : Value → Hp → Prop} (H : RH P E C h) (hr : bsX P t n ps C = some r) (hp : RPs E ps vs)
    (hK : ∀ E' u h', Adv E C h E' r.2 h' → RH P E' r.2 h' → RV E' r.1 u → K u h') : bsW P t n vs h K := by
  unfold bsX at hr
  split at hr
  · rename_i e ht
    split at hr
    · rename_i s z hs hz
      obtain ⟨zv, h1, h2, h3⟩ := zcX_of (E := E) hz
      split at hr
      · rename_i cs hc hf
        simp only [Bool.and_eq_true] at hc
        obtain ⟨⟨c1, c2⟩, c3⟩ := hc
        have c1 := Nat.le_of_ble_eq_true c1
        have c2 := Nat.eq_of_beq_eq_true c2
        have c3 : 0 < s := Nat.le_of_ble_eq_true c3
        rw [lenX_0] at c2
        have hzs : zv.cells.size = s := by have := h2.len; simp only [Array.length_toList] at this; omega
        have hm : RVs E (repsX z n []) (mkCells (zc P e) (n * s)).toList := by
          have := reps_of h2 (by omega) n
          rw [h3]
          unfold mkCells
          rw [hzs] at this
          simpa [hzs] using this
        obtain ⟨cs', g1, g2⟩ := fillX_of (pl' := fun i => some (i * s, s)) (fun _ _ _ h => h) hf hp hm
        rw [newX_some hr] at hK
        unfold bsW
        simp only [ht, hs, h1, bsCells, g1, decide_eq_true c1]
        obtain ⟨k1, k2⟩ := RVs.pre (n := szD P e) g2
        obtain ⟨k3, k4⟩ := H.new k1 k2
        exact hK _ _ _ k4 k3 ⟨_, updE_new _ _ _, rfl⟩
      · cases hr
    · cases hr
  · cases hr
theorem mkX_sound {t : TypeId} {l c : XV} {a b : Value} {r : XV × XH} {K : Value → Hp → Prop} (H : RH P E C h) (hr : mkX P t l c C = some r) (hl : RV E l a) (hc : RV E c b)
    (hK : ∀ E' u h', Adv E C h E' r.2 h' → RH P E' r.2 h' → RV E' r.1 u → K u h') : mkW P t a b h K := by
  unfold mkX at hr
  split at hr
  · rename_i e ln cn ht hln hcn
    have key : ∀ {x : XV} {v : Value} {n : Nat}, intO (some x) = some (some n) → RV E x v → ∃ k, v = .int k (n : Int) := by
      intro x v n hx hv
      unfold intO at hx
      split at hx
      · rename_i heq; cases heq
      · rename_i k i heq
        cases heq
        split at hx
        · rename_i m hm
          simp only [Option.some.injEq] at hx; subst hx
          simp only [RV] at hv
          exact ⟨k, by rw [hv, natO_some hm]⟩
        · cases hx
      · cases hx
    obtain ⟨k1, rfl⟩ := key hln hl
    obtain ⟨k2, rfl⟩ := key hcn hc
    split at hr
    · rename_i i z hi hz
      obtain ⟨zv, h1, h2, h3⟩ := zcX_of (E := E) hz
      split at hr
      · rename_i hcond
        simp only [Bool.and_eq_true] at hcond
        obtain ⟨⟨c1, c2⟩, c3⟩ := hcond
        have c1 := Nat.le_of_ble_eq_true c1
        have c2 := Nat.le_of_ble_eq_true c2
        have c3 := Nat.le_of_ble_eq_true c3
        split at hr
        · rename_i hsz
          simp only [Bool.and_eq_true] at hsz
          have d1 := Nat.eq_of_beq_eq_true hsz.1
          have d2 : 0 < i.size := Nat.le_of_ble_eq_true hsz.2
          rw [lenX_0] at d1
          have hzs : zv.cells.size = i.size := by have := h2.len; simp only [Array.length_toList] at this; omega
          have hm : RVs E (repsX z cn []) (mkCells (zc P e) (cn * i.size)).toList := by
            have := reps_of h2 (by omega) cn
            rw [h3]
            unfold mkCells
            rw [hzs] at this
            simpa [hzs] using this
          rw [newX_some hr] at hK
          unfold mkW
          simp only [ht, hi, h1, Int.toNat_natCast]
          obtain ⟨g1, g2⟩ := RVs.pre (n := szD P e) hm
          obtain ⟨g3, g4⟩ := H.new g1 g2
          refine ⟨⟨by omega, by omega, ?_, by omega⟩, hK _ _ _ g4 g3 ⟨_, updE_new _ _ _, rfl⟩⟩
          have : ((cn * i.bytes : Nat) : Int) ≤ 2 ^ 47 := by omega
          simp only [Int.natCast_mul] at this
          omega
        · cases hr
      · cases hr
    · cases hr
  · cases hr
end
end Go.Lift

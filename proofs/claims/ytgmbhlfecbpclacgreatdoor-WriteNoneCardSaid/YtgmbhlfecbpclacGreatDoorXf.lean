/- The evaluator's quiet operations are sound, gathered. -/
import Derived.Test.YtgmbhlfecbpclacGreatDoorXe
set_option linter.unusedSimpArgs false
set_option linter.unusedVariables false
namespace Go.Lift
open Go
section
variable {P : Program} {E : EX} {C : XH} {h : Hp}

/-! ### slices -/
def RI (x : Option XV) (v : Option Value) : Prop := match x with | none => v = none | some (.int k n) => v = some (.int k n) | _ => True
theorem RI.of {x : XV} {v : Value} (hx : RV E x v) : RI (some x) (some v) := by
  cases x <;> simp only [RI]
  simp only [RV] at hx
  rw [hx]
theorem intO_of {x : Option XV} {v : Option Value} {r : Option Nat} (hr : intO x = some r) (hx : RI x v) : optI v = some (r.map Int.ofNat) := by
  unfold intO at hr
  split at hr
  · simp only [Option.some.injEq] at hr; subst hr
    simp only [RI] at hx; subst hx; rfl
  · rename_i k i
    simp only [RI] at hx; subst hx
    split at hr
    · rename_i n hn
      simp only [Option.some.injEq] at hr; subst hr
      rw [natO_some hn]; rfl
    · cases hr
  · cases hr
theorem bdX_of {n c c' : Nat} {lo hi : Option Nat} {l u : Nat} (hb : bdX n c lo hi = some (l, u)) (hc : c ≤ c') {K : Nat → Nat → Prop} (hK : K l u) : bdW n c' (lo.map Int.ofNat) (hi.map Int.ofNat) K := by
  unfold bdX at hb
  rcases lo with _ | l0 <;> rcases hi with _ | u0 <;> simp only [Option.map_none, Option.map_some, bdW] at hb ⊢
  · simp only [Option.some.injEq, Prod.mk.injEq] at hb; obtain ⟨rfl, rfl⟩ := hb; exact hK
  · split at hb
    · rename_i g
      have g := Nat.le_of_ble_eq_true g
      simp only [Option.some.injEq, Prod.mk.injEq] at hb; obtain ⟨rfl, rfl⟩ := hb
      refine ⟨⟨Int.natCast_nonneg _, ?_⟩, hK⟩
      show (u0 : Int) ≤ c'; omega
    · cases hb
  · split at hb
    · rename_i g
      have g := Nat.le_of_ble_eq_true g
      simp only [Option.some.injEq, Prod.mk.injEq] at hb; obtain ⟨rfl, rfl⟩ := hb
      refine ⟨⟨Int.natCast_nonneg _, ?_⟩, hK⟩
      show (l0 : Int) ≤ n; omega
    · cases hb
  · split at hb
    · rename_i g
      simp only [Bool.and_eq_true] at g
      have g1 := Nat.le_of_ble_eq_true g.1
      have g2 := Nat.le_of_ble_eq_true g.2
      simp only [Option.some.injEq, Prod.mk.injEq] at hb; obtain ⟨rfl, rfl⟩ := hb
      refine ⟨⟨Int.natCast_nonneg _, ?_, ?_⟩, hK⟩
      · show (l0 : Int) ≤ u0; omega
      · show (u0 : Int) ≤ c'; omega
    · cases hb
theorem slAdX_of {k o l u c sz : Nat} {ex : Bool} {z : XV} {b : Nat × Nat} (hz : slAdX k o l u c sz ex = some z) (hb : E k = some b) {c' : Nat} (hc : c' = if ex then c else c + b.2) :
    RV E z (.slice (slAd (some ⟨b.1, o, none⟩) l c' sz) (u - l) (c' - l)) := by
  unfold slAdX at hz
  split at hz
  · rename_i g
    simp only [Bool.and_eq_true] at g
    have g1 := Nat.le_of_ble_eq_true g.1
    have g2 := Nat.le_of_ble_eq_true g.2
    split at hz
    · rename_i e
      have e := Nat.eq_of_beq_eq_true e
      split at hz
      · simp only [Option.some.injEq] at hz; subst hz
        have e3 : u - l = 0 := by omega
        have e4 : c' - l = 0 := by simp only [if_true] at hc; omega
        have e5 : c' = l := by simp only [if_true] at hc; omega
        refine ⟨b, hb, ?_⟩
        rw [e3, e4]
        simp only [slAd, if_pos e5]
      · have e3 : u - l = 0 := by omega
        simp only [Bool.false_eq_true, if_false] at hc
        rw [e3]
        split at hz
        · simp only [Option.some.injEq] at hz; subst hz
          have e4 : c' = 0 + b.2 := by omega
          refine ⟨b, hb, ?_⟩
          simp only [slAd, Nat.zero_mul, Option.map_some, addr0, ite_self, Nat.sub_zero, e4]
        · rename_i l1 _
          simp only [Option.some.injEq] at hz; subst hz
          by_cases e2 : c' = l1.succ
          · exact ⟨b, o, _, hb, by simp only [slAd, if_pos e2]; rfl⟩
          · exact ⟨b, _, _, hb, by simp only [slAd, if_neg e2, Option.map_some, addr_mk]; rfl⟩
    · rename_i e
      have e : l ≠ c := fun h => by rw [h, Nat.beq_refl] at e; cases e
      simp only [fN_eq, Option.some.injEq] at hz; subst hz
      cases ex with
      | true =>
        subst hc
        refine ⟨b, hb, ?_⟩
        simp only [if_true, slAd, if_neg (Ne.symm e), Option.map_some, addr_mk]
      | false =>
        subst hc
        refine ⟨b, hb, ?_⟩
        have e2 : ¬ c + b.2 = l := by omega
        simp only [Bool.false_eq_true, if_false, slAd, if_neg e2, Option.map_some, addr_mk]
        rw [show c + b.2 - l = c - l + b.2 by omega]
  · cases hz
theorem ext_bytes (s : ByteArray) (l u : Nat) : (s.extract l u).data.toList.map UInt8.toNat = ((s.data.toList.map UInt8.toNat).drop l).take (u - l) := by
  rw [Lib.extract_data]
  rw [← List.map_drop, ← List.map_take]
theorem slX_sound {t : TypeId} {x z : XV} {a : Value} {lo hi : Option XV} {vlo vhi : Option Value} {K : Value → Prop} (hz : slX P t x lo hi = some z) (hx : RV E x a) (hl : RI lo vlo) (hh : RI hi vhi) (hK : ∀ u, RV E z u → K u) : slW P t a vlo vhi K := by
  unfold slX at hz
  split at hz
  · rename_i l' u' h1 h2
    unfold slW
    simp only [intO_of h1 hl, intO_of h2 hh]
    split at hz
    · rename_i s ht
      obtain ⟨s', rfl, hs⟩ := hx
      simp only [fN_eq, lenX_0] at hz
      split at hz
      · rename_i l u hb
        split at hz
        · rename_i r hr
          simp only [Option.some.injEq] at hz; subst hz
          simp only [ht]
          have e : s.length = s'.size := by rw [byte_size, ← hs, List.length_map]
          rw [← e]
          refine bdX_of hb (Nat.le_refl _) (hK _ ⟨_, rfl, ?_⟩)
          rw [ext_bytes, hs]
          exact (cutX_some hr).2.symm
        · cases hz
      · cases hz
    · rename_i e n c ex ht
      split at hz
      · rename_i sz p hsz hb
        simp only [Option.some.injEq] at hz; subst hz
        simp only [RV] at hx; subst hx
        simp only [ht, hsz]
        obtain ⟨l, u⟩ := p
        have hlu : l = 0 ∧ u = 0 := by
          unfold bdX at hb
          rcases l' with _ | l0 <;> rcases u' with _ | u0 <;> simp only at hb
          · simp at hb; exact ⟨hb.1.symm, hb.2.symm⟩
          · split at hb
            · rename_i g
              have g := Nat.le_of_ble_eq_true g
              simp at hb; omega
            · cases hb
          · split at hb
            · rename_i g
              have g := Nat.le_of_ble_eq_true g
              simp at hb; omega
            · cases hb
          · split at hb
            · rename_i g
              simp only [Bool.and_eq_true] at g
              have g1 := Nat.le_of_ble_eq_true g.1
              have g2 := Nat.le_of_ble_eq_true g.2
              simp at hb; omega
            · cases hb
        obtain ⟨rfl, rfl⟩ := hlu
        refine bdX_of hb (Nat.le_refl _) (hK _ ?_)
        simp only [RV, slAd, Option.map_none, ite_self, Nat.sub_zero]
      · cases hz
    · rename_i e k o n c ex ht
      split at hz
      · rename_i sz l u hsz hb
        cases ex with
        | true =>
          obtain ⟨b, h3, rfl⟩ := hx
          simp only [ht, hsz]
          exact bdX_of hb (Nat.le_refl _) (hK _ (slAdX_of hz h3 (by simp)))
        | false =>
          obtain ⟨b, h3, rfl⟩ := hx
          simp only [ht, hsz]
          exact bdX_of hb (Nat.le_add_right _ _) (hK _ (slAdX_of hz h3 (by simp)))
      · cases hz
    · rename_i n e k o ht
      obtain ⟨b, h3, rfl⟩ := hx
      split at hz
      · rename_i sz l u hsz hb
        simp only [ht, hsz]
        exact bdX_of hb (Nat.le_refl _) (hK _ (slAdX_of hz h3 (by simp)))
      · cases hz
    · cases hz
  · cases hz
end
end Go.Lift

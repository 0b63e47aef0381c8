/- The evaluator's quiet operations are sound, gathered. -/
import Derived.Test.YtgmbhlfecbpclacGreatDoorXf
set_option linter.unusedSimpArgs false
set_option linter.unusedVariables false
namespace Go.Lift
open Go
section
variable {P : Program} {E : EX} {C : XH} {h : Hp}

/-! ### maps looked at -/
theorem REs.len {E : EX} : ∀ {es : List XE} {m : List MapEntry}, REs E es m → m.length = es.length
  | [], m, h => by simp only [REs] at h; subst h; rfl
  | _ :: _, m, h => by obtain ⟨e, m', rfl, _, _, _, h4⟩ := h; simp [REs.len h4]
theorem mapAtX_of {r : Option Nat} {es : List XE} {clk : Nat} {mv : Value} (H : RH P E C h) (hm : mapAtX C r = some (es, clk)) (hv : RV E (.map r) mv) :
    ∃ r' m, mv = .map r' ∧ REs E es m ∧ mapAt h r' m.toArray ∧ ∀ k, r = some k → ∃ b, E k = some b ∧ r' = some b.1 ∧ C[k]? = some (.map es clk) ∧ h[b.1]? = some (.map m.toArray clk) := by
  unfold mapAtX at hm
  split at hm
  · simp only [Option.some.injEq, Prod.mk.injEq] at hm; obtain ⟨rfl, rfl⟩ := hm
    simp only [RV] at hv
    exact ⟨none, [], hv, rfl, .inl ⟨rfl, rfl⟩, fun k hk => by cases hk⟩
  · rename_i k
    rw [nthX_eq] at hm
    split at hm
    · rename_i es' clk' hk
      simp only [Option.some.injEq, Prod.mk.injEq] at hm; obtain ⟨rfl, rfl⟩ := hm
      obtain ⟨b, h1, h2, m, h3, h4⟩ := H.id hk
      obtain ⟨b', h5, rfl⟩ := hv
      rw [h1] at h5; cases h5
      exact ⟨_, m, rfl, h4, .inr ⟨_, _, rfl, h3⟩, fun j hj => by cases hj; exact ⟨b, h1, rfl, hk, h3⟩⟩
    · cases hm
def Lk (P : Program) (t : TypeId) (mv kv : Value) (ok : Bool) (h : Hp) (u : Value) : Prop :=
  ∃ kt et z r es, P.underlying t = some (.map kt et) ∧ zeroOf P et = some z ∧ mv = .map r ∧ mapAt h r es ∧ KeysLike kv es ∧ lkV ok (mgetD kv es z) (mhas kv es) = u
theorem lookX_spec {t : TypeId} {m k z : XV} {ok : Bool} {mv kv : Value} (H : RH P E C h) (hz : lookX P t m k ok C = some z) (hm : RV E m mv) (hk : RV E k kv) :
    ∃ u, RV E z u ∧ Lk P t mv kv ok h u ∧ ∀ K : Value → List (Hp → Prop) → Prop, (∀ fs, (∀ h', Lk P t mv kv ok h' u → allF fs h') → K u fs) → lookF P t mv kv ok h K := by
  unfold lookX at hz
  split at hz
  · rename_i kt et r ht
    split at hz
    · rename_i kd z0 ty es clk hkd hz0 hty hma
      obtain ⟨r', M, rfl, h1, h2, _⟩ := mapAtX_of H hma hm
      unfold zX at hz0
      unfold zTy at hty
      cases hzo : zeroOf P et with
      | none => rw [hzo] at hz0; cases hz0
      | some zv =>
        rw [hzo] at hz0 hty
        simp only [Option.some.injEq] at hty
        subst hty
        have hzr : RV E z0 zv := ofV_of hz0
        split at hz
        · rename_i hc
          simp only [Bool.and_eq_true] at hc
          have hkk := kindKX_of (P := P) (t := kt) hk hc.1
          have hlike : KeysLike kv M.toArray := fun e he => allLike_of hk h1 hc.2 e (by simpa using he)
          have fin : ∀ {x : XV} {w : Value}, RV E x w → fnTyX (tyOf zv) x = true → mgetD kv M.toArray zv = w →
              ∃ u, RV E (match ok with | true => .tup [x, .bool (mhas kv M.toArray)] | false => x) u ∧ Lk P t (.map r') kv ok h u ∧ ∀ K : Value → List (Hp → Prop) → Prop, (∀ fs, (∀ h', Lk P t (.map r') kv ok h' u → allF fs h') → K u fs) → lookF P t (.map r') kv ok h K := by
            intro x w hx hf hw
            refine ⟨lkV ok w (mhas kv M.toArray), ?_, ⟨kt, et, zv, r', M.toArray, ht, hzo, rfl, h2, hlike, by rw [hw]⟩, fun K hK => ?_⟩
            · cases ok with
              | true => exact ⟨[w, .bool (mhas kv M.toArray)], rfl, RVs.cons hx (RVs.cons rfl RVs.nil)⟩
              | false => exact hx
            · unfold lookF
              simp only [ht, hkd, hzo, hkk]
              refine ⟨M.toArray, h2, hlike, exF_of hf hx ⟨hw, hK _ fun h' hl => allF_one.2 ?_⟩⟩
              obtain ⟨kt', et', z', r2, es', g1, g2, g3, g4, g5, g6⟩ := hl
              rw [ht] at g1; cases g1
              rw [hzo] at g2; cases g2
              cases g3
              exact ⟨es', g4, g5, g6⟩
          rcases mfindX_of (i := 0) hk h1 hc.2 with ⟨g1, g2⟩ | ⟨j, x, e, g1, g2, _, _, _, _, g3, _⟩
          · rw [g1] at hz
            simp only at hz
            split at hz
            · rename_i hf
              have e1 : mgetD kv M.toArray zv = zv := by simp [mgetD, g2]
              have e2 : mhas kv M.toArray = false := by simp [mhas, g2]
              have := fin hzr hf e1
              rw [e2] at this
              simp only [Option.some.injEq] at hz; subst hz
              exact this
            · cases hz
          · rw [g1] at hz
            simp only at hz
            split at hz
            · rename_i hf
              have e1 : mgetD kv M.toArray zv = e.val := by simp [mgetD, g2]
              have e2 : mhas kv M.toArray = true := by simp [mhas, g2]
              have := fin g3 hf e1
              rw [e2] at this
              simp only [Option.some.injEq] at hz; subst hz
              exact this
            · cases hz
        · cases hz
    · cases hz
  · cases hz

/-! ### lengths, conversions -/
theorem elX_of {x : XV} {sz m : Nat} {l : List XV} {a : Value} (H : RH P E C h) (hl : elX C x sz m = some l) (hx : RV E x a) :
    ∃ ad n c us, a = .slice ad n c ∧ RVs E l us ∧ cellsAt h ad (m * sz) us ∧ l.length = m * sz := by
  unfold elX at hl
  split at hl
  · split at hl
    · simp only [Option.some.injEq] at hl; subst hl
      simp only [RV] at hx
      exact ⟨none, 0, 0, [], hx, rfl, rfl, by simp⟩
    · cases hl
  · rename_i k o n c ex
    split at hl
    · obtain ⟨b, us, h1, h2, h3, h4⟩ := cellsX_rd H hl
      cases ex with
      | true =>
        obtain ⟨b', h5, rfl⟩ := hx
        rw [h1] at h5; cases h5
        exact ⟨_, _, _, us, rfl, h2, h4, h3⟩
      | false =>
        obtain ⟨b', h5, rfl⟩ := hx
        rw [h1] at h5; cases h5
        exact ⟨_, _, _, us, rfl, h2, h4, h3⟩
    · cases hl
  · split at hl
    · simp only [Option.some.injEq] at hl; subst hl
      obtain ⟨b, o, c, _, rfl⟩ := hx
      exact ⟨_, _, _, [], rfl, rfl, ⟨by simp, fun i hi => by omega⟩, by simp⟩
    · cases hl
  · cases hl
theorem slenX_of {x : XV} {m : Nat} {ad : Option Addr} {n c : Nat} (hm : slenX x = some m) (hx : RV E x (.slice ad n c)) : n = m := by
  unfold slenX at hm
  split at hm <;> simp only [Option.some.injEq, reduceCtorEq] at hm <;> subst hm
  · simp only [RV, Value.slice.injEq] at hx; exact hx.2.1
  · rename_i k n' c' ex
    cases ex <;> obtain ⟨b, _, h2⟩ := hx <;> simp only [Value.slice.injEq] at h2 <;> exact h2.2.1
  · obtain ⟨b, o, c, _, h2⟩ := hx
    simp only [Value.slice.injEq] at h2; exact h2.2.1
theorem bytesX_of : ∀ {l : List XV} {r : List Nat} {us : List Value}, bytesX l = some r → RVs E l us → ∃ s : List UInt8, s.map UInt8.toNat = r ∧ us = s.map fun b => Value.int .u8 (b.toNat : Int)
  | [], r, us, hr, hx => by
    simp only [bytesX, Option.some.injEq] at hr; subst hr
    simp only [RVs] at hx; subst hx
    exact ⟨[], rfl, rfl⟩
  | x :: l, r, us, hr, hx => by
    obtain ⟨u, us', rfl, h1, h2⟩ := hx
    unfold bytesX at hr
    split at hr
    · rename_i heq; cases heq
    · rename_i b l' heq
      cases heq
      split at hr
      · rename_i r' hb hr'
        simp only [Option.some.injEq] at hr; subst hr
        obtain ⟨s, h3, h4⟩ := bytesX_of hr' h2
        have hb : b < 256 := Nat.le_of_ble_eq_true hb
        have e : (UInt8.ofNat b).toNat = b := by simp [Nat.mod_eq_of_lt hb]
        refine ⟨UInt8.ofNat b :: s, by simp only [List.map_cons, e, h3], ?_⟩
        simp only [RV] at h1
        simp only [List.map_cons, e, h4, h1]
        rfl
      · cases hr
    · cases hr
theorem cvX_sound {s d : TypeId} {x z : XV} {a : Value} {K : Value → List (Hp → Prop) → Prop} (H : RH P E C h) (hz : cvX P s d x C = some z) (hx : RV E x a)
    (hK : ∀ u fs, RV E z u → ((∀ e, P.underlying s ≠ some (.slice e)) → fs = []) → K u fs) : cvF P s d a h K := by
  unfold cvX at hz
  split at hz
  · rename_i ds k k' n hs hd
    simp only [RV] at hx; subst hx
    rw [mkI_some hz] at hK
    simp only [cvF, hs, hd]
    exact hK _ _ rfl fun _ => rfl
  · rename_i ds s' hs hd
    obtain ⟨t, rfl, h1⟩ := hx
    simp only [Option.some.injEq] at hz; subst hz
    simp only [cvF, hs, hd]
    exact hK _ _ ⟨t, rfl, h1⟩ fun _ => rfl
  · rename_i y e hs hd hns
    split at hz
    · rename_i n he hn
      split at hz
      · rename_i l hl
        split at hz
        · rename_i r hr
          simp only [Option.some.injEq] at hz; subst hz
          obtain ⟨ad, n', c, us, rfl, h1, h2, h3⟩ := elX_of H hl hx
          obtain ⟨bs, h4, h5⟩ := bytesX_of hr h1
          simp only [cvF, hs, hd, he]
          have hlen : bs.length = n := by
            have := h1.len
            rw [h5, List.length_map] at this
            omega
          refine ⟨⟨bs.toArray⟩, ?_, hK _ _ ⟨_, rfl, by simpa using h4⟩ fun g => absurd hs (g e)⟩
          cases ad with
          | none =>
            simp only [cellsAt] at h2
            rw [h2] at h5
            have : bs = [] := by simpa using h5.symm
            subst this
            rfl
          | some ad =>
            obtain ⟨g1, g2⟩ := h2
            have hn' : n' = n := slenX_of hn hx
            subst hn'
            refine ⟨by rw [byte_size]; simpa using hlen, fun i hi => ?_⟩
            rw [g2 i (by omega), h5, List.getElem?_map]
            simp only [List.getD_eq_getElem?_getD]
            rw [List.getElem?_eq_getElem (by omega)]
            rfl
        · cases hz
      · cases hz
    · cases hz
  · cases hz
theorem lenOX_sound {t : TypeId} {x z : XV} {a : Value} {K : Value → List (Hp → Prop) → Prop} (H : RH P E C h) (hz : lenOX P t x C = some z) (hx : RV E x a)
    (hK : ∀ u fs, RV E z u → ((∀ k e, P.underlying t ≠ some (.map k e)) → fs = []) → K u fs) : lenF P t a h K := by
  unfold lenOX at hz
  split at hz
  · rename_i s ht
    obtain ⟨s', rfl, hs⟩ := hx
    simp only [fN_eq, lenX_0, Option.some.injEq] at hz; subst hz
    simp only [lenF, ht]
    refine hK _ _ ?_ fun _ => rfl
    simp only [RV, ← hs, List.length_map, byte_size]; rfl
  · rename_i e n c ex ht
    simp only [Option.some.injEq] at hz; subst hz
    simp only [RV] at hx; subst hx
    simp only [lenF, ht]
    exact hK _ _ rfl fun _ => rfl
  · rename_i e p n c ex ht
    simp only [Option.some.injEq] at hz; subst hz
    · cases ex <;> obtain ⟨b, _, rfl⟩ := hx <;> simp only [lenF, ht] <;> exact hK _ _ rfl fun _ => rfl
  · rename_i e k ht
    obtain ⟨b, o, c, _, rfl⟩ := hx
    simp only [Option.some.injEq] at hz; subst hz
    simp only [lenF, ht]
    exact hK _ _ rfl fun _ => rfl
  · rename_i n e ht
    simp only [Option.some.injEq] at hz; subst hz
    unfold lenF
    simp only [ht]
    exact hK _ _ rfl fun _ => rfl
  · rename_i kt et r ht
    split at hz
    · rename_i es clk hm
      simp only [fN_eq, lenX_0, Option.some.injEq] at hz; subst hz
      obtain ⟨r', M, rfl, h1, h2, _⟩ := mapAtX_of H hm hx
      simp only [lenF, ht]
      refine ⟨_, h2, hK _ _ ?_ fun g => absurd ht (g _ _)⟩
      simp only [RV, List.size_toArray, h1.len]; rfl
    · cases hz
  · cases hz

/-! ### building -/
theorem foldl_put (o : Nat) : ∀ (l : List Value) (i : Nat) (cs : Array Value), (l.zipIdx i).foldl (fun cs p => cs.setIfInBounds (o + p.2) p.1) cs = putAt cs (o + i) l
  | [], _, _ => rfl
  | v :: l, i, cs => by
    simp only [List.zipIdx_cons, List.foldl_cons, putAt]
    rw [foldl_put o l (i + 1)]
    rfl
theorem over_of {xs ys r : List XV} {as : List Value} {cs : Array Value} {o : Nat} (hr : overX xs o ys = some r) (hx : RVs E xs cs.toList) (hy : RVs E ys as) : RVs E r (putAt cs o as).toList ∧ (as = [] ∨ o + as.length ≤ cs.size) := by
  obtain ⟨h1, h2, h3⟩ := overX_some hr
  have hl := hx.len
  have hl2 := hy.len
  simp only [Array.length_toList] at hl
  have hb : as = [] ∨ o + as.length ≤ cs.size := by
    rcases h2 with rfl | h2
    · simp only [RVs] at hy; exact .inl hy
    · exact .inr (by omega)
  refine ⟨RVs_iff.2 ⟨by simp; omega, fun i x hi => ?_⟩, hb⟩
  rw [h3 i] at hi
  rcases hb with rfl | hb
  · have : ys = [] := List.eq_nil_of_length_eq_zero hl2.symm
    subst this
    rw [if_neg (by simp)] at hi
    obtain ⟨u, g1, g2⟩ := hx.get hi
    exact ⟨u, by simpa [putAt] using g1, g2⟩
  · rw [Array.getElem?_toList, putAt_get0 _ _ _ _ hb]
    split at hi
    · rename_i g
      rw [if_pos (by omega)]
      exact hy.get hi
    · rename_i g
      rw [if_neg (by omega)]
      obtain ⟨u, g1, g2⟩ := hx.get hi
      exact ⟨u, by simpa using g1, g2⟩
theorem fillX_of {pl pl' : Nat → Option (Nat × Nat)} (hp : ∀ i o n, pl i = some (o, n) → pl' i = some (o, n)) : ∀ {ps : List (Nat × XV)} {vs : List (Nat × Value)} {xs r : List XV} {cs : Array Value}, fillX pl xs ps = some r → RPs E ps vs → RVs E xs cs.toList →
    ∃ cs', Instr.fill pl' cs vs = some cs' ∧ RVs E r cs'.toList
  | [], vs, xs, r, cs, hr, hv, hx => by
    simp only [fillX, Option.some.injEq] at hr; subst hr
    simp only [RPs] at hv; subst hv
    exact ⟨cs, rfl, hx⟩
  | (i, v) :: ps, vs, xs, r, cs, hr, hv, hx => by
    obtain ⟨u, vs', rfl, h1, h2⟩ := hv
    simp only [fillX] at hr
    split at hr
    · rename_i o n hpl
      split at hr
      · rename_i hn
        simp only [Bool.and_eq_true] at hn
        have hle := Nat.le_of_ble_eq_true hn.2
        have hn := Nat.eq_of_beq_eq_true hn.1
        rw [lenX_0] at hn hle
        split at hr
        · rename_i xs' ho
          have hc := cells_of h1
          obtain ⟨g1, g2⟩ := over_of ho hx hc
          obtain ⟨cs', g3, g4⟩ := fillX_of hp hr h2 g1
          refine ⟨cs', ?_, g4⟩
          have hsz : u.cells.size = n := by have := hc.len; simp only [Array.length_toList] at this; omega
          simp only [Instr.fill, hp _ _ _ hpl]
          have hcond : ¬ (u.cells.size ≠ n || o + u.cells.size > cs.size) = true := by
            simp only [Bool.or_eq_true, decide_eq_true_eq, not_or]
            refine ⟨by simp [hsz], ?_⟩
            have := hx.len
            simp only [Array.length_toList] at this
            omega
          rw [if_neg hcond]
          have : (u.cells.zipIdx.foldl (fun cs (c, j) => cs.setIfInBounds (o + j) c) cs) = putAt cs o u.cells.toList := by
            rw [← Array.foldl_toList, Array.toList_zipIdx]
            exact foldl_put o u.cells.toList 0 cs
          rw [this]
          exact g3
        · cases hr
      · cases hr
    · cases hr
theorem zcX_of {t : TypeId} {z : List XV} (hz : zcX P t = some z) : ∃ zv, zeroOf P t = some zv ∧ RVs E z zv.cells.toList ∧ zc P t = zv.cells := by
  unfold zcX at hz
  unfold zc
  split at hz
  · rename_i zv h1
    exact ⟨zv, h1, ofSs_of hz, by rw [h1]⟩
  · cases hz
theorem bldX_sound {t : TypeId} {ps : List (Nat × XV)} {vs : List (Nat × Value)} {z : XV} (hz : bldX P t ps = some z) (hv : RPs E ps vs) : ∃ u, bldV P t vs = some u ∧ RV E z u := by
  unfold bldX at hz
  split at hz
  · rename_i z0 fs hz0 ht
    obtain ⟨zv, h1, h2, _⟩ := zcX_of (E := E) hz0
    split at hz
    · rename_i hall
      split at hz
      · rename_i l hl
        simp only [Option.some.injEq] at hz; subst hz
        have hp : ∀ i o n, placeX P fs i = some (o, n) → (fldPlaces P fs)[i]? = some (o, n) := fun i o n hi => by
          unfold placeX at hi
          split at hi
          · rename_i f hf
            split at hi
            · rename_i s hs
              simp only [Option.some.injEq, Prod.mk.injEq] at hi; obtain ⟨rfl, rfl⟩ := hi
              simp [fldPlaces, hf, hs]
            · cases hi
          · cases hi
        obtain ⟨cs', g1, g2⟩ := fillX_of (pl' := fun i => (fldPlaces P fs)[i]?) hp hl hv h2
        unfold bldV
        simp only [h1, ht, hall, g1, Option.map_some]
        exact ⟨_, rfl, cs'.toList, rfl, g2⟩
      · cases hz
    · cases hz
  · rename_i z0 n e hz0 ht
    obtain ⟨zv, h1, h2, _⟩ := zcX_of (E := E) hz0
    split at hz
    · rename_i s hs
      split at hz
      · rename_i l hl
        simp only [Option.some.injEq] at hz; subst hz
        obtain ⟨cs', g1, g2⟩ := fillX_of (fun _ _ _ h => h) hl hv h2
        unfold bldV
        simp only [h1, ht, hs, g1, Option.map_some]
        exact ⟨_, rfl, cs'.toList, rfl, g2⟩
      · cases hz
    · cases hz
  · cases hz
end
end Go.Lift

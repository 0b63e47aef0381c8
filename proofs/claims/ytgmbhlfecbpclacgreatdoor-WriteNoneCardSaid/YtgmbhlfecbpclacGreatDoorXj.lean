/- The evaluator's loud operations are sound: maps, iterators, append. -/
import Derived.Test.YtgmbhlfecbpclacGreatDoorXi
set_option linter.unusedSimpArgs false
set_option linter.unusedVariables false
namespace Go.Lift
open Go
section
variable {P : Program} {E : EX} {C : XH} {h : Hp}
/-! ### maps written -/
theorem REs.get : ∀ {es : List XE} {m : List MapEntry} {i : Nat} {x : XE}, REs E es m → es[i]? = some x → ∃ e, m[i]? = some e ∧ RV E x.key e.key ∧ RV E x.val e.val ∧ e.born = x.born
  | [], _, _, _, _, hx => by simp at hx
  | y :: es, m, i, x, h, hx => by
    obtain ⟨e, m', rfl, h1, h2, h3, h4⟩ := h
    cases i with
    | zero => simp at hx; subst hx; exact ⟨e, by simp, h1, h2, h3⟩
    | succ i => simp at hx; obtain ⟨e', g⟩ := REs.get h4 hx; exact ⟨e', by simpa using g⟩
theorem REs.set : ∀ {es : List XE} {m : List MapEntry} {i : Nat} {x : XE} {e : MapEntry}, REs E es m → RV E x.key e.key → RV E x.val e.val → e.born = x.born → REs E (es.set i x) (m.set i e)
  | [], m, i, x, e, h, _, _, _ => by simp only [REs] at h; subst h; simp only [List.set_nil]; rfl
  | y :: es, m, i, x, e, h, k1, k2, k3 => by
    obtain ⟨e', m', rfl, h1, h2, h3, h4⟩ := h
    cases i with
    | zero => exact ⟨e, m', rfl, k1, k2, k3, h4⟩
    | succ i => exact ⟨e', m'.set i e, rfl, h1, h2, h3, REs.set h4 k1 k2 k3⟩
theorem REs.snoc : ∀ {es : List XE} {m : List MapEntry} {x : XE} {e : MapEntry}, REs E es m → RV E x.key e.key → RV E x.val e.val → e.born = x.born → REs E (es ++ [x]) (m ++ [e])
  | [], m, x, e, h, k1, k2, k3 => by simp only [REs] at h; subst h; exact ⟨e, [], rfl, k1, k2, k3, rfl⟩
  | y :: es, m, x, e, h, k1, k2, k3 => by
    obtain ⟨e', m', rfl, h1, h2, h3, h4⟩ := h
    exact ⟨e', m' ++ [e], rfl, h1, h2, h3, REs.snoc h4 k1 k2 k3⟩
theorem REs.erase : ∀ {es es' : List XE} {m : List MapEntry} {i : Nat}, REs E es m → eraseX es i = some es' → REs E es' (m.eraseIdx i) ∧ i < m.length
  | [], _, m, i, h, he => by cases i <;> simp [eraseX] at he
  | y :: es, es', m, i, h, he => by
    obtain ⟨e', m', rfl, h1, h2, h3, h4⟩ := h
    cases i with
    | zero => simp only [eraseX, Option.some.injEq] at he; subst he; exact ⟨h4, by simp⟩
    | succ i =>
      simp only [eraseX] at he
      split at he
      · rename_i r hr
        simp only [Option.some.injEq] at he; subst he
        obtain ⟨g1, g2⟩ := REs.erase h4 hr
        exact ⟨⟨e', _, rfl, h1, h2, h3, g1⟩, by simp; omega⟩
      · cases he
theorem modify_list (m : List MapEntry) (i : Nat) (f : MapEntry → MapEntry) {e : MapEntry} (he : m[i]? = some e) : m.toArray.modify i f = (m.set i (f e)).toArray := by
  apply Array.ext_getElem?
  intro j
  rw [Array.getElem?_modify]
  simp only [List.getElem?_toArray, List.getElem?_set]
  by_cases g : i = j
  · subst g
    have : i < m.length := by
      rcases Nat.lt_or_ge i m.length with k | k
      · exact k
      · rw [List.getElem?_eq_none k] at he; cases he
    have e1 : m[i] = e := by rw [List.getElem?_eq_getElem this] at he; exact Option.some.inj he
    simp [this, e1]
  · simp [g]
/-- Which map is written. -/
theorem map_blk {b : Nat} {es : List XE} {clk : Nat} {mv : Value} (H : RH P E C h) (hm : mapAtX C (some b) = some (es, clk)) (hv : RV E (.map (some b)) mv) :
    ∃ bb m, mv = .map (some bb.1) ∧ E b = some bb ∧ REs E es m ∧ C[b]? = some (.map es clk) ∧ h[bb.1]? = some (.map m.toArray clk) := by
  obtain ⟨r', m, rfl, h1, h2, h3⟩ := mapAtX_of H hm hv
  obtain ⟨bb, g1, rfl, g2, g3⟩ := h3 b rfl
  exact ⟨bb, m, rfl, g1, h1, g2, g3⟩
theorem RH.setMap (H : RH P E C h) {b : Nat} {bb : Nat × Nat} {es es' : List XE} {clk clk' : Nat} {m m' : List MapEntry} (hc : C[b]? = some (.map es clk)) (hb : E b = some bb) (hh : h[bb.1]? = some (.map m.toArray clk)) (hr : REs E es' m') {C' : XH} (hs : setX C b (.map es' clk') = some C') :
    RH P E C' (h.setIfInBounds bb.1 (.map m'.toArray clk')) ∧ Adv E C h E C' (h.setIfInBounds bb.1 (.map m'.toArray clk')) := by
  obtain ⟨_, rfl⟩ := setX_some hs
  exact H.set hc rfl hb (by simp) (fun j hj => by rw [Array.getElem?_setIfInBounds]; simp [Ne.symm hj]) ⟨m', set_blk hh, hr⟩
theorem mputX_of {k v : XV} {kv vv : Value} {es : List XE} {m : List MapEntry} {clk : Nat} {o : XO} (hk : RV E k kv) (hv : RV E v vv) (hm : REs E es m) (hl : allLike k es = true) (ho : mputX k v es clk = some o) :
    ∃ es' clk' m', o = .map es' clk' ∧ REs E es' m' ∧ mput kv vv m.toArray clk = .map m'.toArray clk' := by
  unfold mputX at ho
  unfold mput
  rcases mfindX_of (i := 0) hk hm hl with ⟨g1, g2⟩ | ⟨j, x, e, g1, g2, _, g3, g4, g5, g6, g7⟩
  · rw [g1] at ho
    simp only [appX_eq, fN_eq, Option.some.injEq] at ho
    subst ho
    refine ⟨_, _, m ++ [{ key := kv, val := vv, born := clk }], rfl, hm.snoc hk hv rfl, ?_⟩
    simp only [g2]
    simp
  · rw [g1] at ho
    simp only at ho
    split at ho
    · rename_i es' hs
      simp only [Option.some.injEq] at ho; subst ho
      obtain ⟨_, rfl⟩ := setX_some hs
      rw [Nat.sub_zero] at g4
      refine ⟨_, _, m.set j { e with key := kv, val := vv }, rfl, hm.set hk hv g7, ?_⟩
      simp only [g2]
      rw [modify_list m j _ g4]
    · cases ho
theorem mupX_sound {t : TypeId} {m k v : XV} {mv kv vv : Value} {C' : XH} {K : Hp → Prop} (H : RH P E C h) (hs : mupX P t m k v C = some C') (hm : RV E m mv) (hk : RV E k kv) (hv : RV E v vv)
    (hK : ∀ h', Adv E C h E C' h' → RH P E C' h' → K h') : mupW P t mv kv vv h K := by
  unfold mupX at hs
  split at hs
  · rename_i kt et b ht
    split at hs
    · rename_i kd es clk hkd hma
      obtain ⟨bb, M, rfl, h1, h2, h3, h4⟩ := map_blk H hma hm
      split at hs
      · rename_i hc
        simp only [Bool.and_eq_true] at hc
        split at hs
        · rename_i o ho
          obtain ⟨es', clk', M', rfl, g1, g2⟩ := mputX_of hk hv h2 hc.2 ho
          obtain ⟨g3, g4⟩ := H.setMap h3 h1 h4 g1 hs
          simp only [mupW, ht, hkd, kindKX_of (P := P) (t := kt) hk hc.1]
          refine ⟨_, _, _, rfl, h4, fun e he => allLike_of hk h2 hc.2 e (by simpa using he), ?_⟩
          rw [g2]
          exact hK _ g4 g3
        · cases hs
      · cases hs
    · cases hs
  · cases hs
theorem delX_sound {t : TypeId} {m k : XV} {mv kv : Value} {C' : XH} {K : Hp → Prop} (H : RH P E C h) (hs : delX P t m k C = some C') (hm : RV E m mv) (hk : RV E k kv)
    (hK : ∀ h', Adv E C h E C' h' → RH P E C' h' → K h') : delW P t mv kv h K := by
  unfold delX at hs
  split at hs
  · rename_i kt et b ht
    split at hs
    · rename_i kd es clk hkd hma
      obtain ⟨bb, M, rfl, h1, h2, h3, h4⟩ := map_blk H hma hm
      split at hs
      · rename_i hc
        simp only [Bool.and_eq_true] at hc
        split at hs
        · rename_i o ho
          simp only [delW, ht, hkd, kindKX_of (P := P) (t := kt) hk hc.1]
          refine ⟨_, _, _, rfl, h4, fun e he => allLike_of hk h2 hc.2 e (by simpa using he), ?_⟩
          unfold mdelX at ho
          unfold mdel
          rcases mfindX_of (i := 0) hk h2 hc.2 with ⟨g1, g2⟩ | ⟨j, x, e, g1, g2, _⟩
          · rw [g1] at ho
            simp only [Option.some.injEq] at ho; subst ho
            obtain ⟨g3, g4⟩ := H.setMap h3 h1 h4 h2 hs
            simp only [g2]
            exact hK _ g4 g3
          · rw [g1] at ho
            simp only at ho
            split at ho
            · rename_i es' hs'
              simp only [Option.some.injEq] at ho; subst ho
              obtain ⟨k1, k2⟩ := h2.erase hs'
              obtain ⟨g3, g4⟩ := H.setMap h3 h1 h4 k1 hs
              simp only [g2]
              have : M.toArray.eraseIdxIfInBounds j = (M.eraseIdx j).toArray := by
                simp [Array.eraseIdxIfInBounds, k2]
              rw [this]
              exact hK _ g4 g3
            · cases ho
        · cases hs
      · cases hs
    · cases hs
  · cases hs
theorem mentX_sound {t : TypeId} {m k : XV} {mv kv : Value} {r : XV × XH} {K : Value → Hp → Prop} (H : RH P E C h) (hs : mentX P t m k C = some r) (hm : RV E m mv) (hk : RV E k kv)
    (hK : ∀ u h', RV E r.1 u → Adv E C h E r.2 h' → RH P E r.2 h' → K u h') : mentW P t mv kv h K := by
  unfold mentX at hs
  split at hs
  · rename_i kt et b ht
    split at hs
    · rename_i kd es clk z ty hkd hma hz hty
      obtain ⟨bb, M, rfl, h1, h2, h3, h4⟩ := map_blk H hma hm
      unfold zX at hz
      unfold zTy at hty
      cases hzo : zeroOf P et with
      | none => rw [hzo] at hz; cases hz
      | some zv =>
        rw [hzo] at hz hty
        simp only [Option.some.injEq] at hty
        subst hty
        have hzr : RV E z zv := ofV_of hz
        split at hs
        · rename_i hc
          simp only [Bool.and_eq_true] at hc
          simp only [mentW, ht, hkd, hzo, kindKX_of (P := P) (t := kt) hk hc.1]
          refine ⟨_, _, _, rfl, h4, fun e he => allLike_of hk h2 hc.2 e (by simpa using he), ?_⟩
          unfold ment
          rcases mfindX_of (i := 0) hk h2 hc.2 with ⟨g1, g2⟩ | ⟨j, x, e, g1, g2, _, g3, g4, g5, g6, g7⟩
          · rw [g1] at hs
            simp only at hs
            split at hs
            · rename_i hty
              simp only [appX_eq, fN_eq] at hs
              split at hs
              · rename_i C' hC
                simp only [Option.some.injEq] at hs; subst hs
                have hn : REs E (es ++ [⟨k, z, clk⟩]) (M ++ [{ key := kv, val := zv, born := clk }]) := h2.snoc hk hzr rfl
                obtain ⟨k3, k4⟩ := H.setMap h3 h1 h4 hn hC
                simp only [g2]
                refine exT_of hty hzr ⟨rfl, ?_⟩
                have : (M.toArray.push ({ key := kv, val := zv, born := clk } : MapEntry)) = (M ++ [({ key := kv, val := zv, born := clk } : MapEntry)]).toArray := by simp
                rw [this]
                exact hK _ _ ⟨_, rfl, RVs.cons hzr (RVs.cons rfl RVs.nil)⟩ k4 k3
              · cases hs
            · cases hs
          · rw [g1] at hs
            simp only at hs
            split at hs
            · rename_i es' hty hs'
              split at hs
              · rename_i C' hC
                simp only [Option.some.injEq] at hs; subst hs
                obtain ⟨_, rfl⟩ := setX_some hs'
                rw [Nat.sub_zero] at g4
                have hn : REs E (es.set j ⟨k, x.val, x.born⟩) (M.set j { e with key := kv }) := h2.set hk g6 g7
                obtain ⟨k3, k4⟩ := H.setMap h3 h1 h4 hn hC
                simp only [g2]
                rw [modify_list M j _ g4]
                simp only [List.getElem?_toArray, g4, Option.map_some, Option.getD_some]
                refine exT_of hty g6 ⟨rfl, hK _ _ ⟨_, rfl, RVs.cons g6 (RVs.cons ?_ RVs.nil)⟩ k4 k3⟩
                rw [g7]; rfl
              · cases hs
            · cases hs
        · cases hs
    · cases hs
  · cases hs
theorem mstoL_of {v : XV} {vv : Value} (hv : RV E v vv) {n : Nat} : ∀ {es es' : List XE} {m : List MapEntry}, REs E es m → mstoL v n es = some es' →
    ∃ i e, m.findIdx? (fun e => (e.born : Int) == (n : Int)) = some i ∧ m[i]? = some e ∧ REs E es' (m.set i { e with val := vv })
  | [], es', m, h, hs => by simp [mstoL] at hs
  | x :: es, es', m, h, hs => by
    obtain ⟨e, m', rfl, h1, h2, h3, h4⟩ := h
    simp only [mstoL] at hs
    split at hs
    · rename_i hb
      have hb := Nat.eq_of_beq_eq_true hb
      simp only [Option.some.injEq] at hs; subst hs
      refine ⟨0, e, ?_, by simp, ⟨_, m', rfl, h1, hv, h3, h4⟩⟩
      simp [List.findIdx?_cons, h3, hb]
    · rename_i hb
      split at hs
      · rename_i r hr
        simp only [Option.some.injEq] at hs; subst hs
        obtain ⟨i, e', g1, g2, g3⟩ := mstoL_of hv h4 hr
        refine ⟨i + 1, e', ?_, by simpa using g2, ⟨e, _, rfl, h1, h2, h3, g3⟩⟩
        have hne : ¬ x.born = n := fun g => by rw [g, Nat.beq_refl] at hb; cases hb
        have : ((e.born : Int) == (n : Int)) = false := by rw [beq_eq_false_iff_ne]; omega
        simp [List.findIdx?_cons, this, g1]
      · cases hs
theorem mstoX_sound {m s v : XV} {mv sv vv : Value} {C' : XH} {K : Hp → Prop} (H : RH P E C h) (hs : mstoX m s v C = some C') (hm : RV E m mv) (hk : RV E s sv) (hv : RV E v vv)
    (hK : ∀ h', Adv E C h E C' h' → RH P E C' h' → K h') : mstoW mv sv vv h K := by
  unfold mstoX at hs
  split at hs
  · rename_i b k n
    split at hs
    · rename_i n' es clk hn hma
      obtain ⟨bb, M, rfl, h1, h2, h3, h4⟩ := map_blk H hma hm
      simp only [RV] at hk; subst hk
      split at hs
      · rename_i es' hes
        obtain ⟨i, e, g1, g2, g3⟩ := mstoL_of hv h2 hes
        obtain ⟨k3, k4⟩ := H.setMap h3 h1 h4 g3 hs
        simp only [mstoW]
        refine ⟨_, _, _, _, rfl, h4, ?_, hK _ k4 k3⟩
        unfold msto
        rw [natO_some hn]
        have : M.toArray.findIdx? (fun e => (e.born : Int) == (n' : Int)) = some i := by rw [List.findIdx?_toArray]; exact g1
        rw [this]
        simp only
        rw [modify_list M i _ g2]
      · cases hs
    · cases hs
  · cases hs
end
end Go.Lift

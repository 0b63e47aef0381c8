/- The evaluator's quiet operations are sound, continued. -/
import Derived.Test.YtgmbhlfecbpclacGreatDoorXc
import Derived.Lib.Strings
set_option linter.unusedSimpArgs false
set_option linter.unusedVariables false
namespace Go.Lift
open Go
section
variable {P : Program} {E : EX} {C : XH} {h : Hp}

/-! ### keys -/
theorem keySX_of {x y : XV} {a b : Value} (hx : RV E x a) (hy : RV E y b) (hl : likeSX x y = true) : keyS a b = keySX x y ∧ likeS a b = true := by
  cases x <;> cases y <;> simp only [likeSX, Bool.false_eq_true] at hl
  case int.int k n k' n' =>
    simp only [RV] at hx hy; subst hx hy
    exact ⟨by simp [keyS, keySX, iBeq_eq], by simp [likeS, kBeq_eq hl]⟩
  case bool.bool p q =>
    simp only [RV] at hx hy; subst hx hy
    exact ⟨rfl, rfl⟩
  case str.str l m =>
    obtain ⟨s, rfl, rfl⟩ := hx
    obtain ⟨t, rfl, rfl⟩ := hy
    refine ⟨?_, rfl⟩
    simp only [keyS, keySX, lBeq_u8]
    rw [Bool.eq_iff_iff, ba_beq, beq_iff_eq]
    exact ⟨fun e => by rw [e], fun g => bytes_inj (by rw [g])⟩
theorem eqCX_of : ∀ {xs ys : List XV} {as bs : List Value}, RVs E xs as → RVs E ys bs → likeCX xs ys = true → eqCS as bs = eqCX xs ys ∧ likeCS as bs = true
  | [], [], as, bs, hx, hy, _ => by simp only [RVs] at hx hy; subst hx hy; exact ⟨rfl, rfl⟩
  | [], _ :: _, _, _, _, _, h => by simp [likeCX] at h
  | _ :: _, [], _, _, _, _, h => by simp [likeCX] at h
  | x :: xs, y :: ys, as, bs, hx, hy, hl => by
    obtain ⟨a, as, rfl, h1, h2⟩ := hx
    obtain ⟨b, bs, rfl, h3, h4⟩ := hy
    simp only [likeCX] at hl
    split at hl
    · rename_i g
      obtain ⟨e1, e2⟩ := keySX_of h1 h3 g
      obtain ⟨e3, e4⟩ := eqCX_of h2 h4 hl
      refine ⟨?_, by simp [likeCS, e2, e4]⟩
      simp only [eqCS, eqCX, e1, e3]
      cases keySX x y <;> rfl
    · cases hl
theorem kindX_of {d : TypeDesc} {x : XV} {a : Value} (hx : RV E x a) (hk : kindX d x = true) : kindS d a = true := by
  cases d <;> cases x <;> simp only [kindX, Bool.false_eq_true] at hk
  case string.str => obtain ⟨s, rfl, _⟩ := hx; rfl
  all_goals (simp only [RV] at hx; subst hx; rfl)
theorem kindTX_of {t : TypeId} {x : XV} {a : Value} (hx : RV E x a) (hk : kindTX P t x = true) : kindT P t a = true := by
  unfold kindTX at hk
  unfold kindT
  split at hk
  · rename_i d hd; rw [hd]; exact kindX_of hx hk
  · cases hk
theorem fitX_of : ∀ {fs : List Field} {i : Nat} {xs : List XV} {as : List Value}, RVs E xs as → fitX P fs i xs = true → fitF P fs i as = true
  | [], _, [], as, hx, _ => by simp only [RVs] at hx; subst hx; rfl
  | [], _, _ :: _, _, _, h => by simp [fitX] at h
  | _ :: _, _, [], _, _, h => by simp [fitX] at h
  | f :: fs, i, x :: xs, as, hx, h => by
    obtain ⟨a, as, rfl, h1, h2⟩ := hx
    simp only [fitX] at h
    split at h
    · rename_i g
      simp only [Bool.and_eq_true] at g
      simp only [fitF, Bool.and_eq_true]
      exact ⟨⟨g.1, kindTX_of h1 g.2⟩, fitX_of h2 h⟩
    · cases h
theorem flatX_of {t : TypeId} {xs : List XV} {as : List Value} (hx : RVs E xs as) (hk : flatX P t xs = true) : flatK P t as = true := by
  unfold flatX at hk
  unfold flatK
  split at hk
  · rename_i n e ht
    rw [ht]
    simp only [Bool.and_eq_true] at hk ⊢
    obtain ⟨⟨h1, h2⟩, h3⟩ := hk
    have e1 := Nat.eq_of_beq_eq_true h1
    rw [lenX_0] at e1
    refine ⟨⟨by simp [hx.len, e1], ?_⟩, ?_⟩
    · split at h2
      · rename_i s hs
        have := Nat.eq_of_beq_eq_true h2
        subst this
        unfold szOf at hs
        simp [hs]
      · cases h2
    · rw [List.all_eq_true] at h3 ⊢
      intro a ha
      obtain ⟨i, hi⟩ := List.getElem?_of_mem ha
      have hl : i < xs.length := by
        rw [← hx.len]
        rcases Nat.lt_or_ge i as.length with g | g
        · exact g
        · rw [List.getElem?_eq_none g] at hi; cases hi
      obtain ⟨u, g1, g2⟩ := hx.get (List.getElem?_eq_getElem hl)
      rw [hi] at g1; cases g1
      exact kindTX_of g2 (h3 _ (List.getElem_mem hl))
  · rename_i fs ht
    rw [ht]
    simp only [Bool.and_eq_true] at hk ⊢
    exact ⟨fitX_of hx hk.1, hk.2⟩
  · cases hk
theorem likeKX_of {x y : XV} {a b : Value} (hx : RV E x a) (hy : RV E y b) (hl : likeKX x y = true) : keyB a b = keyX x y ∧ likeK a b = true := by
  have gen : likeSX x y = true → (∀ l m, ¬ (x = .agg l ∧ y = .agg m)) → keyB a b = keyX x y ∧ likeK a b = true := by
    intro hl hn
    obtain ⟨e1, e2⟩ := keySX_of hx hy hl
    have f1 : keyX x y = keySX x y := by
      unfold keyX; split
      · exact absurd ⟨rfl, rfl⟩ (hn _ _)
      · rfl
    have f2 : keyB a b = keyS a b := by
      unfold keyB; split
      · simp [likeS] at e2
      · rfl
    have f3 : likeK a b = likeS a b := by
      unfold likeK; split
      · simp [likeS] at e2
      · rfl
    rw [f1, f2, f3]; exact ⟨e1, e2⟩
  unfold likeKX at hl
  split at hl
  · rename_i l m
    obtain ⟨as, rfl, h1⟩ := hx
    obtain ⟨bs, rfl, h2⟩ := hy
    obtain ⟨e1, e2⟩ := eqCX_of h1 h2 hl
    exact ⟨by simpa [keyB, keyX] using e1, by simpa [likeK] using e2⟩
  · rename_i hn
    exact gen hl fun l m ⟨e1, e2⟩ => hn l m e1 e2
theorem kindKX_of {t : TypeId} {x : XV} {a : Value} (hx : RV E x a) (hk : kindKX P t x = true) : kindKT P t a = true := by
  unfold kindKX at hk
  split at hk
  · rename_i l
    obtain ⟨as, rfl, h1⟩ := hx
    simpa [kindKT] using flatX_of h1 hk
  · rename_i hn
    have : kindKT P t a = kindT P t a := by
      unfold kindKT; split
      · exact (RV_agg hx (fun l e' => hn l e')).elim
      · rfl
    rw [this]; exact kindTX_of hx hk
theorem allLike_of {k : XV} {kv : Value} (hk : RV E k kv) : ∀ {es : List XE} {m : List MapEntry}, REs E es m → allLike k es = true → ∀ e ∈ m, likeK kv e.key = true
  | [], m, h, _, e, he => by simp only [REs] at h; subst h; simp at he
  | x :: es, m, h, ha, e, he => by
    obtain ⟨e', m', rfl, h1, h2, h3, h4⟩ := h
    simp only [allLike] at ha
    split at ha
    · rename_i g
      rcases List.mem_cons.1 he with rfl | he
      · exact (likeKX_of hk h1 g).2
      · exact allLike_of hk h4 ha e he
    · cases ha
theorem mfindX_of {k : XV} {kv : Value} (hk : RV E k kv) : ∀ {es : List XE} {m : List MapEntry} {i : Nat}, REs E es m → allLike k es = true →
    (mfindX k es i = none ∧ mfind kv m i = none) ∨ ∃ j x e, mfindX k es i = some (j, x) ∧ mfind kv m i = some (j, e.val) ∧ i ≤ j ∧ es[j - i]? = some x ∧ m[j - i]? = some e ∧ RV E x.key e.key ∧ RV E x.val e.val ∧ e.born = x.born
  | [], m, i, h, _ => by simp only [REs] at h; subst h; exact .inl ⟨rfl, rfl⟩
  | x :: es, m, i, h, ha => by
    obtain ⟨e, m', rfl, h1, h2, h3, h4⟩ := h
    simp only [allLike] at ha
    split at ha
    · rename_i g
      have e1 := (likeKX_of hk h1 g).1
      simp only [mfindX, mfind, e1]
      cases hb : keyX k x.key with
      | true => exact .inr ⟨i, x, e, rfl, by simp, Nat.le_refl _, by simp, by simp, h1, h2, h3⟩
      | false =>
        rcases mfindX_of (i := i + 1) hk h4 ha with ⟨g1, g2⟩ | ⟨j, y, e', g1, g2, g3, g4, g5, g6⟩
        · exact .inl ⟨g1, by simp [g2]⟩
        · refine .inr ⟨j, y, e', g1, by simp [g2], by omega, ?_, ?_, g6⟩
          · rw [show j - i = (j - (i + 1)) + 1 by omega]; simpa using g4
          · rw [show j - i = (j - (i + 1)) + 1 by omega]; simpa using g5
    · cases ha

/-! ### operators, gathered -/
theorem aggX_sound {t : TypeId} {xs ys : List XV} {as bs : List Value} {r : Bool} (hr : aggX P t xs ys = some r) (hx : RVs E xs as) (hy : RVs E ys bs) : aggEq P t as.toArray bs.toArray = some r := by
  unfold aggX at hr
  split at hr
  · rename_i fs ht
    split at hr
    · rename_i hc
      simp only [Bool.and_eq_true] at hc
      obtain ⟨⟨⟨h1, h2⟩, h3⟩, h4⟩ := hc
      obtain ⟨e1, e2⟩ := eqCX_of hx hy h3
      simp only [Option.some.injEq] at hr
      unfold aggEq
      rw [ht]
      simp only [flatX_of hx h1, flatX_of hy h2, e2, h4, Bool.and_self, e1, hr]
    · cases hr
  · cases hr
theorem binFX_sound {op : BinOp} {k : FloatKind} {a b : Nat} {z : XV} {K : Value → Prop} (hz : binFX op k a b = some z) (hK : ∀ u, RV E z u → K u) : fltB op k a b K := by
  cases op <;> simp only [binFX, reduceCtorEq] at hz <;> rw [mkB_some hz] at hK <;> exact hK _ rfl
theorem binX_sound {op : BinOp} {t : TypeId} {x y z : XV} {a b : Value} {K : Value → Prop} (hz : binX P op t x y = some z) (hx : RV E x a) (hy : RV E y b) (hK : ∀ u, RV E z u → K u) : binW P op t a b K := by
  unfold binX at hz
  split at hz
  · simp only [RV] at hx hy
    subst hx hy
    simp only [binW]
    split at hz
    · split at hz
      · rename_i hn
        have := natO_some hn
        rw [mkI_some hz] at hK
        exact ⟨by omega, hK _ rfl⟩
      · cases hz
    · split at hz
      · rename_i hn
        have := natO_some hn
        rw [mkI_some hz] at hK
        exact ⟨by omega, hK _ rfl⟩
      · cases hz
    · rename_i hs1 hs2
      split at hz
      · rename_i hk
        have e := kBeq_eq hk
        subst e
        have := binIX_sound hz hK
        cases op <;> first | exact absurd rfl hs1 | exact absurd rfl hs2 | simpa using this
      · cases hz
  · obtain ⟨s, rfl, rfl⟩ := hx
    obtain ⟨u, rfl, rfl⟩ := hy
    simp only [binW]
    exact binSX_sound hz hK
  · simp only [RV] at hx hy
    subst hx hy
    split at hz
    · rename_i hk
      have e := fkBeq_eq hk
      subst e
      simpa [binW] using binFX_sound hz hK
    · cases hz
  · simp only [RV] at hx hy
    subst hx hy
    simp only [binW]
    split at hz
    · rename_i ht
      rw [ht]
      rcases eqlO_sound hz hK with ⟨rfl, hk⟩ | ⟨rfl, hk⟩ <;> exact hk
    · cases hz
  · obtain ⟨as, rfl, h1⟩ := hx
    obtain ⟨bs, rfl, h2⟩ := hy
    split at hz
    · rename_i r hr
      simp only [binW, aggX_sound hr h1 h2]
      rcases eqlO_sound hz hK with ⟨rfl, hk⟩ | ⟨rfl, hk⟩ <;> exact hk
    · cases hz
  · rename_i j o k u
    obtain ⟨bj, h1, rfl⟩ := hx
    obtain ⟨bk, h2, rfl⟩ := hy
    split at hz
    · rename_i e ht
      split at hz
      · rename_i hc
        simp only [Bool.and_eq_true] at hc
        have ej := Nat.eq_of_beq_eq_true hc.2
        subst ej
        rw [h1] at h2; cases h2
        simp only [binW, ht]
        have key : (Addr.mk bj.1 o none == Addr.mk bj.1 u none) = Nat.beq o u := by
          cases hb : Nat.beq o u with
          | true => rw [Nat.eq_of_beq_eq_true hb]; simp
          | false =>
            rw [beq_eq_false_iff_ne]
            intro e
            cases e
            rw [Nat.beq_refl] at hb; cases hb
        rcases eqlO_sound hz hK with ⟨rfl, hk⟩ | ⟨rfl, hk⟩ <;> exact ⟨hc.1, rfl, by rw [key]; exact hk⟩
      · cases hz
    · cases hz
  · split at hz
    · rename_i d hd
      split at hz
      · rename_i hc
        simp only [Bool.and_eq_true] at hc
        obtain ⟨⟨h1, h2⟩, h3⟩ := hc
        split at hz
        · rename_i r hr
          rcases eqlO_sound hz hK with ⟨rfl, hk⟩ | ⟨rfl, hk⟩ <;>
          · cases y <;> simp only [nilLX, Bool.false_eq_true] at h3
            case ptr =>
              rename_i q hq1 hq2 hq3 hq4 hq5 hq6
              rcases q with _ | q <;> simp only [nilLX, Bool.false_eq_true] at h3
              simp only [RV] at hy; subst hy
              cases d <;> simp only [kindOX, Bool.false_eq_true] at h2
              cases x <;> simp only [kindOX, Bool.false_eq_true] at h1
              · rename_i p
                rcases p with _ | ⟨k, o⟩
                · simp only [RV] at hx; subst hx; simp only [isNilX, Option.some.injEq] at hr; subst hr; simp only [binW, hd, ptrW]; exact hk
                · obtain ⟨b, _, rfl⟩ := hx; simp only [isNilX, Option.some.injEq] at hr; subst hr; simp only [binW, hd, ptrW]; exact hk
              · simp only [RV] at hx; subst hx; simp only [isNilX, Option.some.injEq] at hr; subst hr; simp only [binW, hd, ptrW]; exact hk
            case sl =>
              rename_i q n c e hq1 hq2 hq3 hq4 hq5 hq6
              rcases q with _ | q <;> simp only [nilLX, Bool.false_eq_true] at h3
              simp only [RV] at hy; subst hy
              cases d <;> simp only [kindOX, Bool.false_eq_true] at h2
              cases x <;> simp only [kindOX, Bool.false_eq_true] at h1
              · rename_i p n' c' e'
                rcases p with _ | ⟨k, o⟩
                · simp only [RV] at hx; subst hx; simp only [isNilX, Option.some.injEq] at hr; subst hr; simp only [binW, hd, kindOk, isNilLit, nilB, Bool.and_self]; exact hk
                · cases e' <;> obtain ⟨b, _, rfl⟩ := hx <;> simp only [isNilX, Option.some.injEq] at hr <;> subst hr <;> simp only [binW, hd, kindOk, isNilLit, nilB, Bool.and_self] <;> exact hk
              · obtain ⟨b, o, c', _, rfl⟩ := hx; simp only [isNilX, Option.some.injEq] at hr; subst hr; simp only [binW, hd, kindOk, isNilLit, nilB, Bool.and_self]; exact hk
            case map =>
              rename_i q hq1 hq2 hq3 hq4 hq5 hq6
              rcases q with _ | q <;> simp only [nilLX, Bool.false_eq_true] at h3
              simp only [RV] at hy; subst hy
              cases d <;> simp only [kindOX, Bool.false_eq_true] at h2
              cases x <;> simp only [kindOX, Bool.false_eq_true] at h1
              rename_i p
              rcases p with _ | p
              · simp only [RV] at hx; subst hx; simp only [isNilX, Option.some.injEq] at hr; subst hr; simp only [binW, hd, kindOk, isNilLit, nilB, Bool.and_self]; exact hk
              · obtain ⟨b, _, rfl⟩ := hx; simp only [isNilX, Option.some.injEq] at hr; subst hr; simp only [binW, hd, kindOk, isNilLit, nilB, Bool.and_self]; exact hk
            case nilFn =>
              simp only [RV] at hy; subst hy
              cases d <;> simp only [kindOX, Bool.false_eq_true] at h2
              cases x <;> simp only [kindOX, Bool.false_eq_true] at h1
              · obtain ⟨l, rfl, _⟩ := hx; simp only [isNilX, Option.some.injEq] at hr; subst hr; simp only [binW, hd, kindOk, isNilLit, nilB, Bool.and_self]; exact hk
              · simp only [RV] at hx; subst hx; simp only [isNilX, Option.some.injEq] at hr; subst hr; simp only [binW, hd, kindOk, isNilLit, nilB, Bool.and_self]; exact hk
        · cases hz
      · cases hz
    · cases hz
theorem unX_sound {op : UnOp} {x z : XV} {a : Value} {K : Value → Prop} (hz : unX op x = some z) (hx : RV E x a) (hK : ∀ u, RV E z u → K u) : unW op a K := by
  unfold unX at hz
  split at hz
  · simp only [RV] at hx; subst hx; rw [mkB_some hz] at hK; exact hK _ rfl
  · simp only [RV] at hx; subst hx; rw [mkI_some hz] at hK; exact hK _ rfl
  · simp only [RV] at hx; subst hx; rw [mkI_some hz] at hK; exact hK _ rfl
  · cases hz
theorem nilX_sound {x z : XV} {a : Value} {K : Value → Prop} (hz : nilX x = some z) (hx : RV E x a) (hK : ∀ u, RV E z u → K u) : nilV a K := by
  unfold nilX at hz
  split at hz <;> simp only [Option.some.injEq, reduceCtorEq] at hz <;> subst hz
  · rename_i p
    obtain ⟨b, h1, rfl⟩ := hx
    simp only [nilV, nilW_some]
    exact hK _ ⟨b, h1, rfl⟩
  · simp only [RV] at hx; subst hx
    simp only [nilV, nilW_some]
    exact hK _ rfl
  · obtain ⟨l, rfl, h1⟩ := hx
    exact hK _ ⟨l, rfl, h1⟩

/-! ### addresses -/
theorem fldX_sound {t : TypeId} {x z : XV} {f : Nat} {a : Value} {K : Value → Prop} (hz : fldX P t x f = some z) (hx : RV E x a) (hK : ∀ u, RV E z u → K u) : adW a fun ad => fldW P t ad f K := by
  unfold fldX at hz
  split at hz
  · rename_i fs ht
    split at hz
    · rename_i fd hf
      split at hz
      · rename_i n hn
        split at hz
        · obtain ⟨b, h1, rfl⟩ := hx
          simp only [fN_eq, Option.some.injEq] at hz; subst hz
          simp only [adW, fldW, ht, hf, hn, addr_mk]
          exact hK _ ⟨b, h1, rfl⟩
        · simp only [RV] at hx; subst hx
          simp only [fN_eq, Option.some.injEq] at hz; subst hz
          simp only [adW, fldW, ht, hf, hn, addr_mk]
          exact hK _ rfl
        · cases hz
      · cases hz
    · cases hz
  · cases hz
theorem ixX_sound {t : TypeId} {x i z : XV} {a b : Value} {K : Value → Prop} (hz : ixX P t x i = some z) (hx : RV E x a) (hi : RV E i b) (hK : ∀ u, RV E z u → K u) : ixW P t a b K := by
  unfold ixX at hz
  split at hz
  · rename_i k n
    simp only [RV] at hi; subst hi
    split at hz
    · rename_i i hn
      have en := natO_some hn
      subst en
      split at hz
      · rename_i len e k o ht
        split at hz
        · rename_i s hs hlt
          have hlt : i < len := Nat.le_of_ble_eq_true hlt
          obtain ⟨b, h1, rfl⟩ := hx
          simp only [fN_eq, Option.some.injEq] at hz; subst hz
          simp only [ixW, ht, hs, addr_mk, Int.toNat_natCast]
          exact ⟨by omega, by omega, hK _ ⟨b, h1, rfl⟩⟩
        · cases hz
      · rename_i len e g o ht
        split at hz
        · rename_i s hs hlt
          have hlt : i < len := Nat.le_of_ble_eq_true hlt
          simp only [RV] at hx; subst hx
          simp only [fN_eq, Option.some.injEq] at hz; subst hz
          simp only [ixW, ht, hs, addr_mk, Int.toNat_natCast]
          exact ⟨by omega, by omega, hK _ rfl⟩
        · cases hz
      · rename_i e k o n c ex ht
        split at hz
        · rename_i s hs hlt
          have hlt : i < n := Nat.le_of_ble_eq_true hlt
          simp only [fN_eq, Option.some.injEq] at hz; subst hz
          cases ex <;> obtain ⟨b, h1, rfl⟩ := hx <;> simp only [ixW, ht, hs, nilW_some, addr_mk, Int.toNat_natCast] <;> exact ⟨by omega, by omega, hK _ ⟨b, h1, rfl⟩⟩
        · cases hz
      · cases hz
    · cases hz
  · cases hz
theorem cut_of {xs r : List XV} {as : List Value} {o n : Nat} (hx : RVs E xs as) (hc : cutX xs o n = some r) : RVs E r ((as.drop o).take n) ∧ o + n ≤ as.length := by
  obtain ⟨g1, g2⟩ := cut_get hc
  obtain ⟨g3, _⟩ := cutX_some hc
  have hl := hx.len
  refine ⟨RVs_iff.2 ⟨by simp; omega, fun i x hi => ?_⟩, by omega⟩
  have hlt : i < n := by
    rcases Nat.lt_or_ge i n with g | g
    · exact g
    · rw [List.getElem?_eq_none (by omega)] at hi; cases hi
  rw [g2 i hlt] at hi
  obtain ⟨u, g4, g5⟩ := hx.get hi
  exact ⟨u, by rw [List.getElem?_take_of_lt hlt, List.getElem?_drop]; exact g4, g5⟩
theorem partX_sound {t : TypeId} {xs : List XV} {as : List Value} {o : Nat} {z : XV} (hz : partX P t xs o = some z) (hx : RVs E xs as) : ∃ u, partV P t as.toArray o = some u ∧ RV E z u := by
  unfold partX at hz
  unfold partV
  split at hz
  · rename_i d hd
    rw [hd]
    split at hz
    · rename_i ha
      simp only [ha]
      split at hz
      · rename_i n hn
        rw [hn]
        split at hz
        · rename_i l hl
          simp only [Option.some.injEq] at hz; subst hz
          obtain ⟨h1, h2⟩ := cut_of hx hl
          refine ⟨_, rfl, (as.drop o).take n, ?_, h1⟩
          congr 1
          apply Array.toList_inj.1
          simp
        · cases hz
      · cases hz
    · rename_i ha
      simp only [ha]
      rw [nthX_eq] at hz
      obtain ⟨u, h1, h2⟩ := hx.get hz
      exact ⟨u, by simpa using h1, h2⟩
  · cases hz
theorem fieldX_sound {t : TypeId} {x z : XV} {f : Nat} {a : Value} {K : Value → Prop} (hz : fieldX P t x f = some z) (hx : RV E x a) (hK : ∀ u, RV E z u → K u) : fieldW P t a f K := by
  unfold fieldX at hz
  split at hz
  · rename_i fs cs ht
    obtain ⟨m, rfl, h1⟩ := hx
    split at hz
    · rename_i fd hf
      obtain ⟨u, h2, h3⟩ := partX_sound hz h1
      simp only [fieldW, ht, hf, h2]
      exact hK _ h3
    · cases hz
  · cases hz
theorem indexX_sound {t : TypeId} {x i z : XV} {a b : Value} {K : Value → Prop} (hz : indexX P t x i = some z) (hx : RV E x a) (hi : RV E i b) (hK : ∀ u, RV E z u → K u) : indexW P t a b K := by
  unfold indexX at hz
  split at hz
  · rename_i k n
    simp only [RV] at hi; subst hi
    split at hz
    · rename_i i hn
      have en := natO_some hn
      subst en
      split at hz
      · rename_i len e cs ht
        obtain ⟨m, rfl, h1⟩ := hx
        split at hz
        · rename_i ct s hl hs hlt
          have hlt : i < len := Nat.le_of_ble_eq_true hlt
          split at hz
          · rename_i v hv
            rw [nthX_eq] at hv
            obtain ⟨u, h2, h3⟩ := h1.get hv
            split at hz
            · rename_i hc
              simp only [Option.some.injEq] at hz; subst hz
              simp only [indexW, ht, hl, hs]
              exact ⟨by omega, by omega, exC_of hc h3 ⟨by simpa using h2, hK _ h3⟩⟩
            · cases hz
          · cases hz
        · cases hz
      · rename_i s ht
        obtain ⟨u, rfl, rfl⟩ := hx
        split at hz
        · rename_i v hv
          simp only [Option.some.injEq] at hz; subst hz
          rw [nthX_eq, List.getElem?_map] at hv
          cases hu : u.data.toList[i]? with
          | none => rw [hu] at hv; cases hv
          | some w =>
            rw [hu] at hv
            simp only [Option.map_some, Option.some.injEq] at hv
            have hlt : i < u.data.toList.length := by
              rcases Nat.lt_or_ge i u.data.toList.length with g | g
              · exact g
              · rw [List.getElem?_eq_none g] at hu; cases hu
            simp only [indexW, ht]
            refine ⟨by omega, by rw [byte_size]; omega, hK _ ?_⟩
            simp only [RV, Value.int.injEq, true_and, strIx, Int.toNat_natCast, List.getD_eq_getElem?_getD, hu, Option.getD_some, hv]
            rfl
        · cases hz
      · cases hz
    · cases hz
  · cases hz
end
end Go.Lift

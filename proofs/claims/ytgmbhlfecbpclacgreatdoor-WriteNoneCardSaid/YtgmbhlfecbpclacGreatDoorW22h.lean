/- The functions that are not walked: their contracts, for the evaluator. -/
import Derived.Test.YtgmbhlfecbpclacGreatDoorXr
import Derived.Test.YtgmbhlfecbpclacGreatDoorLf22
import Derived.Test.YtgmbhlfecbpclacGreatDoorSh22
import Derived.Lib.Bytealg
set_option linter.unusedSimpArgs false
set_option linter.unusedVariables false
namespace Go.Lift
noncomputable section
open Go Go.Proofs
set_option maxRecDepth 100000
set_option maxHeartbeats 4000000
theorem fn_extern {P : Program} {f : FuncId} {fn : Func} {args : Array Value} {h : Hp} {Q : List Value → Hp → Prop} {e : Array Value → Sem Value} (hf : P.funcs[f]? = some fn) (hname : (fn.name == "runtime.NumGoroutine") = false)
    (hb : fn.body = none) (hn : Extern.findNext fn = none) (he : Extern.find fn = some e) (H : semW P (e args) h fun v h' => ∃ vs, v = packR vs ∧ Q vs h') : Fn P f args h Q := by
  unfold Fn callFunc
  simp only [semW_bind', semW_program, hf, hname, Bool.false_eq_true, if_false, hb, Option.isNone_none, if_true, semW_mark, hn, he, semW_pure]
  exact semW_mono _ (fun v h' hv => hv) _ H
/-- A growth of the heap that nobody has a name for. -/
theorem RH.ext0 {P : Program} {E : EX} {C : XH} {h h' : Hp} (H : RH P E C h) (he : Ext [] h h') : RH P E C h' ∧ Adv E C h E C h' := by
  have old : ∀ j, j < h.size → h'[j]? = h[j]? := fun j hj => he.old j hj (by simp)
  refine ⟨⟨fun k hk => ?_, H.un, H.inj, fun k o b hk eb => ?_⟩, .refl _, he.sz, fun j hj ho => ⟨old j hj, ho⟩⟩
  · obtain ⟨b, h1, h2⟩ := H.dom k hk
    exact ⟨b, h1, Nat.lt_of_lt_of_le h2 he.sz⟩
  · exact (H.ob k o b hk eb).grow (.refl _) fun _ => old _ (H.lt eb).2
/-! texts one behind the other -/
def joinL (sep : List Nat) : List XV → Option (List Nat)
  | [] => some []
  | [.str a] => some a
  | .str a :: b :: l => match joinL sep (b :: l) with | some r => appX sep r fun t => appX a t some | none => none
  | _ => none
theorem joinL_of {E : EX} {sep : ByteArray} : ∀ {l : List XV} {us : List Value} {r : List Nat}, joinL (sep.data.toList.map UInt8.toNat) l = some r → RVs E l us →
    ∃ xs : List ByteArray, us = xs.map Value.string ∧ (Lib.join (xs.map (·.data.toList)) sep.data.toList).map UInt8.toNat = r
  | [], us, r, h, hx => by
    simp only [joinL, Option.some.injEq] at h; subst h
    simp only [RVs] at hx; subst hx
    exact ⟨[], rfl, rfl⟩
  | [x], us, r, h, hx => by
    cases x <;> simp only [joinL, reduceCtorEq, Option.some.injEq] at h
    subst h
    obtain ⟨u, m, rfl, ⟨s, rfl, h1⟩, h2⟩ := hx
    simp only [RVs] at h2; subst h2
    exact ⟨[s], rfl, by simpa [Lib.join, List.intercalate] using h1⟩
  | x :: b :: l, us, r, h, hx => by
    cases x <;> simp only [joinL, reduceCtorEq] at h
    split at h
    · rename_i q hq
      simp only [appX_eq, Option.some.injEq] at h; subst h
      obtain ⟨u, m, rfl, ⟨s, rfl, h1⟩, h2⟩ := hx
      obtain ⟨xs, rfl, h3⟩ := joinL_of hq h2
      refine ⟨s :: xs, rfl, ?_⟩
      cases xs with
      | nil => obtain ⟨_, _, e, _⟩ := h2; cases e
      | cons y ys =>
        rw [← h1, ← h3]
        simp [Lib.join, List.intercalate, List.intersperse]
    · cases h
def joinH (xs : List XV) (C : XH) : Option (List XV × XH) :=
  match xs with
  | [.sl (some (k, o)) n c ex, .str sep] => match Nat.ble n c && Nat.ble n (2 ^ 40), cellsX C k o n with
    | true, some l => match joinL sep l with
      | some r => (match Nat.ble (lenX r 0) (2 ^ 40) with | true => some ([.str r], C) | false => none)
      | none => none
    | _, _ => none
  | _ => none
def bitsH (xs : List XV) (C : XH) : Option (List XV × XH) := match xs with | [.flt .f64 b] => some ([.int .u64 (.ofNat b)], C) | _ => none
def fromH (xs : List XV) (C : XH) : Option (List XV × XH) := match xs with | [.int .u64 (.ofNat b)] => some ([.flt .f64 b], C) | _ => none
def cmpX : List Nat → List Nat → Int
  | [], [] => 0
  | [], _ :: _ => -1
  | _ :: _, [] => 1
  | a :: l, b :: m => match Nat.blt a b with | true => -1 | false => match Nat.blt b a with | true => 1 | false => cmpX l m
theorem cmpX_eq : ∀ (l m : List UInt8), cmpX (l.map UInt8.toNat) (m.map UInt8.toNat) = Lib.compareBytes l m
  | [], [] => rfl
  | [], _ :: _ => rfl
  | _ :: _, [] => rfl
  | a :: l, b :: m => by
    simp only [List.map_cons, cmpX, Lib.compareBytes, cmpX_eq l m]
    by_cases h1 : a < b
    · rw [if_pos h1, show Nat.blt a.toNat b.toNat = true from Nat.ble_eq_true_of_le (UInt8.lt_iff_toNat_lt.1 h1)]
    · have e1 : Nat.blt a.toNat b.toNat = false := by
        cases e : Nat.blt a.toNat b.toNat with
        | false => rfl
        | true => exact absurd (UInt8.lt_iff_toNat_lt.2 (Nat.le_of_ble_eq_true e)) h1
      rw [if_neg h1, e1]
      by_cases h2 : b < a
      · rw [if_pos h2, show Nat.blt b.toNat a.toNat = true from Nat.ble_eq_true_of_le (UInt8.lt_iff_toNat_lt.1 h2)]
      · have e2 : Nat.blt b.toNat a.toNat = false := by
          cases e : Nat.blt b.toNat a.toNat with
          | false => rfl
          | true => exact absurd (UInt8.lt_iff_toNat_lt.2 (Nat.le_of_ble_eq_true e)) h2
        rw [if_neg h2, e2]
def strcH (xs : List XV) (C : XH) : Option (List XV × XH) := match xs with | [.str a, .str b] => fI (cmpX a b) fun n => some ([.int .i64 n], C) | _ => none
def hook22 : HookX := fun f => match Nat.beq f 288 with
  | true => some bitsH
  | false => match Nat.beq f 328 with
    | true => some fromH
    | false => match Nat.beq f 285 with
      | true => some joinH
      | false => match Nat.beq f 316 with
        | true => some strcH
        | false => none
theorem bitsH_ok {C : XH} {al : List XV} {r : List XV × XH} {E : EX} {h : Hp} {vs : List Value} {Q : List Value → Hp → Prop} (hr : bitsH al C = some r) (hv : RVs E al vs) (H : RH PP E C h)
    (hQ : ∀ E' us h', Adv E C h E' r.2 h' → RH PP E' r.2 h' → RVs E' r.1 us → Q us h') : Fn PP 288 vs.toArray h Q := by
  unfold bitsH at hr
  split at hr
  · rename_i b
    simp only [Option.some.injEq] at hr; subst hr
    obtain ⟨u, m, rfl, h1, h2⟩ := hv
    simp only [RVs] at h2; subst h2
    simp only [RV] at h1; subst h1
    refine fn_extern Tryz.func288 (by kernel_rfl) (by kernel_rfl) (by kernel_rfl) (e := Extern.MathFloatBits.float64bits) (by kernel_rfl) ?_
    exact ⟨[.int .u64 (b : Int)], rfl, hQ E _ h (.refl _ _ _) H (RVs.cons rfl RVs.nil)⟩
  · cases hr
theorem fromH_ok {C : XH} {al : List XV} {r : List XV × XH} {E : EX} {h : Hp} {vs : List Value} {Q : List Value → Hp → Prop} (hr : fromH al C = some r) (hv : RVs E al vs) (H : RH PP E C h)
    (hQ : ∀ E' us h', Adv E C h E' r.2 h' → RH PP E' r.2 h' → RVs E' r.1 us → Q us h') : Fn PP 328 vs.toArray h Q := by
  unfold fromH at hr
  split at hr
  · rename_i b
    simp only [Option.some.injEq] at hr; subst hr
    obtain ⟨u, m, rfl, h1, h2⟩ := hv
    simp only [RVs] at h2; subst h2
    simp only [RV] at h1; subst h1
    refine fn_extern Tryz.func328 (by kernel_rfl) (by kernel_rfl) (by kernel_rfl) (e := Extern.MathFloatBits.float64frombits) (by kernel_rfl) ?_
    exact ⟨[.float .f64 b], rfl, hQ E _ h (.refl _ _ _) H (RVs.cons rfl RVs.nil)⟩
  · cases hr
theorem joinH_ok {C : XH} {al : List XV} {r : List XV × XH} {E : EX} {h : Hp} {vs : List Value} {Q : List Value → Hp → Prop} (hr : joinH al C = some r) (hv : RVs E al vs) (H : RH PP E C h)
    (hQ : ∀ E' us h', Adv E C h E' r.2 h' → RH PP E' r.2 h' → RVs E' r.1 us → Q us h') : Fn PP 285 vs.toArray h Q := by
  unfold joinH at hr
  split at hr
  · rename_i k o n c ex sep
    split at hr
    · rename_i l hcond hl
      simp only [Bool.and_eq_true] at hcond
      have c1 := Nat.le_of_ble_eq_true hcond.1
      have c2 := Nat.le_of_ble_eq_true hcond.2
      split at hr
      · rename_i q hq
        split at hr
        · rename_i hlen
          have hlen := Nat.le_of_ble_eq_true hlen
          rw [lenX_0] at hlen
          simp only [Option.some.injEq] at hr; subst hr
          obtain ⟨sv, m, rfl, h1, sp, m2, rfl, ⟨sb, rfl, hsb⟩, h3⟩ := hv
          simp only [RVs] at h3; subst h3
          obtain ⟨b, us, g1, g2, g3, g4⟩ := cellsX_rd H hl
          obtain ⟨c', rfl, hc'⟩ : ∃ c', sv = .slice (some ⟨b.1, o, none⟩) n c' ∧ c ≤ c' := by
            cases ex with
            | true => obtain ⟨b', k1, k2⟩ := h1; rw [g1] at k1; cases k1; exact ⟨_, k2, Nat.le_refl _⟩
            | false => obtain ⟨b', k1, k2⟩ := h1; rw [g1] at k1; cases k1; exact ⟨_, k2, Nat.le_add_right _ _⟩
          subst hsb
          obtain ⟨xs, rfl, hj⟩ := joinL_of hq g2
          have hxn : xs.length = n := by have := g2.len; rw [List.length_map] at this; omega
          subst hxn
          have hjl : (Lib.join (xs.map (·.data.toList)) sb.data.toList).length ≤ 2 ^ 40 := by rw [← List.length_map (f := UInt8.toNat), hj]; exact hlen
          refine fn_of_calls Tryz.func285 (c := bodyOf Tryz.f285) (by kernel_rfl) (by kernel_rfl) fun w hw => ?_
          have := Tryz.strings_Join b.1 o c' xs sb w (fun j x hx => ?_) (by rw [hw]; exact (H.lt g1).2) (by omega) (by omega) (by omega)
          · refine this.mono fun e w' ⟨he, hbl⟩ => ⟨[.string ⟨(Lib.join (xs.map (·.data.toList)) sb.data.toList).toArray⟩], (by rw [he]; rfl), ⟨hbl.os, hbl.output, hbl.tape⟩, ?_⟩
            have hext : Ext [] h w'.heap := ⟨by rw [← hw]; exact hbl.size, fun k hk _ => by rw [← hw]; exact hbl.block k (by rw [hw]; exact hk)⟩
            obtain ⟨k1, k2⟩ := H.ext0 hext
            exact hQ E _ _ k2 k1 (RVs.cons ⟨_, rfl, by simpa using hj⟩ RVs.nil)
          · have hjn : j < xs.length := by
              rcases Nat.lt_or_ge j xs.length with g | g
              · exact g
              · rw [List.getElem?_eq_none g] at hx; cases hx
            have := g4.2 j hjn
            rw [addr_mk] at this
            show rd w.heap _ = _
            rw [hw, this, List.getElem?_map, hx]
            rfl
        · cases hr
      · cases hr
    · cases hr
  · cases hr
theorem strcH_ok {C : XH} {al : List XV} {r : List XV × XH} {E : EX} {h : Hp} {vs : List Value} {Q : List Value → Hp → Prop} (hr : strcH al C = some r) (hv : RVs E al vs) (H : RH PP E C h)
    (hQ : ∀ E' us h', Adv E C h E' r.2 h' → RH PP E' r.2 h' → RVs E' r.1 us → Q us h') : Fn PP 316 vs.toArray h Q := by
  unfold strcH at hr
  split at hr
  · rename_i a b
    simp only [fI_eq, Option.some.injEq] at hr; subst hr
    obtain ⟨u, m, rfl, ⟨s, rfl, h1⟩, u2, m2, rfl, ⟨t, rfl, h2⟩, h3⟩ := hv
    simp only [RVs] at h3; subst h3
    refine fn_extern Tryz.func316 (by kernel_rfl) (by kernel_rfl) (by kernel_rfl) (e := Extern.BytealgCompare.compare) (by kernel_rfl) ?_
    refine ⟨[.int .i64 (Extern.BytealgCompare.cmp s t)], rfl, ?_⟩
    rw [Lib.cmp_eq, ← cmpX_eq, h1, h2]
    exact hQ E _ h (.refl _ _ _) H (RVs.cons rfl RVs.nil)
  · cases hr
theorem hook22_ok : HookOK PP hook22 := by
  intro f g hg al C r hr E h vs hv H Q hQ
  unfold hook22 at hg
  split at hg
  · rename_i e
    have e := nbeq e; subst e
    simp only [Option.some.injEq] at hg; subst hg
    exact bitsH_ok hr hv H hQ
  · split at hg
    · rename_i e
      have e := nbeq e; subst e
      simp only [Option.some.injEq] at hg; subst hg
      exact fromH_ok hr hv H hQ
    · split at hg
      · rename_i e
        have e := nbeq e; subst e
        simp only [Option.some.injEq] at hg; subst hg
        exact joinH_ok hr hv H hQ
      · split at hg
        · rename_i e
          have e := nbeq e; subst e
          simp only [Option.some.injEq] at hg; subst hg
          exact strcH_ok hr hv H hQ
        · cases hg
theorem names22 : NameOK PP := by
  have key : (PP.funcs.toList.all fun fn => !(fn.name == "runtime.NumGoroutine")) = true := by kernel_rfl
  intro f fn hf
  have hm : fn ∈ PP.funcs.toList := by
    rw [← Array.getElem?_toList] at hf
    exact List.mem_of_getElem? hf
  have := List.all_eq_true.1 key fn hm
  simpa using this
end
end Go.Lift

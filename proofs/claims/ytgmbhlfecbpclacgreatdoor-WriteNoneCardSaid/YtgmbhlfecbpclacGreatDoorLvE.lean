/- The rules of the operations, continued: maps, conversions, building, small builtins. -/
import Derived.Test.YtgmbhlfecbpclacGreatDoorLvD
set_option linter.unusedSimpArgs false
set_option linter.unusedVariables false
namespace Go.Lift
section
variable {P : Program} {h : Hp}

/-! ### building -/
theorem semR_listMapM {α β : Type} {f : α → Sem β} {g : α → β} : ∀ (l : List α) (K : List β → Hp → Prop), (∀ x ∈ l, ∀ (K : β → Hp → Prop), K (g x) h → semR P (f x) h K) → K (l.map g) h → semR P (l.mapM f) h K
  | [], K, _, H => by rw [List.mapM_nil]; exact H
  | x :: l, K, hf, H => by
    rw [List.mapM_cons, semR_bind']
    refine hf x (by simp) _ ?_
    rw [semR_bind']
    refine semR_listMapM l _ (fun y hy => hf y (by simp [hy])) ?_
    exact H
theorem semR_arrayMapM {α β : Type} {f : α → Sem β} {g : α → β} (l : Array α) (K : Array β → Hp → Prop) (hf : ∀ x ∈ l, ∀ (K : β → Hp → Prop), K (g x) h → semR P (f x) h K) (H : K (l.map g) h) : semR P (l.mapM f) h K := by
  rw [Array.mapM_eq_mapM_toList]
  show semR P (_ <$> _) h K
  rw [map_eq_pure_bind, semR_bind']
  refine semR_listMapM l.toList _ (fun x hx => hf x (by simpa using hx)) ?_
  rw [semR_pure, ← Array.toList_map]
  exact H

def fldPlaces (P : Program) (fs : Array Field) : Array (Nat × Nat) := fs.map fun f => (f.offset, (szOf P f.type).getD 0)
def bldV (P : Program) (t : TypeId) (parts : List (Nat × Value)) : Option Value :=
  match zeroOf P t, P.underlying t with
  | some z, some (.struct fs) => match fs.toList.all fun f => (szOf P f.type).isSome with
    | true => (Instr.fill ((fldPlaces P fs)[·]?) z.cells parts).map .agg
    | false => none
  | some z, some (.array _ e) => match szOf P e with
    | some s => (Instr.fill (fun i => some (i * s, s)) z.cells parts).map .agg
    | none => none
  | _, _ => none
theorem bldV_sound {t : TypeId} {parts : Array (Nat × Value)} {v : Value} {K : Value → Hp → Prop} (H : bldV P t parts.toList = some v) (HK : K v h) : semR P (Instr.build t parts) h K := by
  unfold bldV at H
  unfold Instr.build
  simp only [semR_bind', semR_zeroValue]
  split at H
  · rename_i z fs hz ht
    refine ⟨z, hz, ?_⟩
    split at H
    · rename_i hall
      simp only [semR_pure, semR_underlying]
      refine ⟨_, ht, ?_⟩
      simp only [semR_bind']
      refine semR_arrayMapM (g := fun f => (f.offset, (szOf P f.type).getD 0)) fs _ (fun f hf K hK => ?_) ?_
      · simp only [semR_bind', semR_sizeOf, semR_pure]
        have := List.all_eq_true.1 hall f (by simpa using hf)
        obtain ⟨n, hn⟩ := Option.isSome_iff_exists.1 this
        exact ⟨n, hn, by rw [hn] at hK; exact hK⟩
      · simp only [Option.map_eq_some_iff] at H
        obtain ⟨cs, h1, h2⟩ := H
        unfold fldPlaces at h1
        simp only [h1]
        rw [← h2] at HK
        exact HK
    · cases H
  · rename_i z n e hz ht
    refine ⟨z, hz, ?_⟩
    split at H
    · rename_i s hs
      simp only [semR_pure, semR_underlying]
      refine ⟨_, ht, ?_⟩
      simp only [semR_bind', semR_sizeOf]
      refine ⟨s, hs, ?_⟩
      simp only [Option.map_eq_some_iff] at H
      obtain ⟨cs, h1, h2⟩ := H
      simp only [h1]
      rw [← h2] at HK
      exact HK
    · cases H
  · cases H
def bsCells (P : Program) (e : TypeId) (len s : Nat) (parts : List (Nat × Value)) : Option (Array Value) :=
  Instr.fill (fun i => some (i * s, s)) (mkCells (zc P e) (len * s)) parts
def bsW (P : Program) (t : TypeId) (len : Nat) (parts : List (Nat × Value)) (h : Hp) (K : Value → Hp → Prop) : Prop :=
  match P.underlying t with
  | some (.slice e) => match szOf P e, zeroOf P e with
    | some s, some _ => match decide (len * s ≤ 2 ^ 24), bsCells P e len s parts with
      | true, some cs => K (.slice (some ⟨h.size, 0, none⟩) len len) (h.push (.cells cs e))
      | _, _ => False
    | _, _ => False
  | _ => False
theorem bsW_sound {t : TypeId} {len : Nat} {parts : Array (Nat × Value)} {K : Value → Hp → Prop} (H : bsW P t len parts.toList h K) : semW P (Instr.buildSlice t len parts) h K := by
  unfold bsW at H
  split at H
  · rename_i e ht
    split at H
    · rename_i s z hs hz
      split at H
      · rename_i cs hd hc
        unfold Instr.buildSlice
        simp only [semW_bind', semW_underlying]
        refine ⟨_, ht, ?_⟩
        simp only [semW_bind', semW_sizeOf]
        refine ⟨s, hs, ?_⟩
        rw [if_neg (by have := of_decide_eq_true hd; omega)]
        have e1 : ∀ f : Nat → Value, (Array.range 0).map f = #[] := fun f => by simp [Array.range]
        by_cases hn : len * s = 0
        · rw [if_pos hn]
          simp only [semW_pure, semW_bind', hn]
          unfold bsCells at hc
          rw [hn, mkCells, e1] at hc
          rw [e1]
          simp only [hc]
          exact H
        · rw [if_neg hn]
          simp only [semW_pure, semW_bind', semW_zeroValue]
          refine ⟨z, hz, ?_⟩
          unfold bsCells mkCells at hc
          simp only [zc, hz] at hc
          simp only [hc]
          exact H
      · exact H.elim
    · exact H.elim
  · exact H.elim

/-! ### maps -/
def keyB : Value → Value → Bool
  | .agg a, .agg b => eqCS a.toList b.toList
  | a, b => keyS a b
def likeK : Value → Value → Bool
  | .agg a, .agg b => likeCS a.toList b.toList
  | a, b => likeS a b
def kindKT (P : Program) (t : TypeId) : Value → Bool
  | .agg a => flatK P t a.toList
  | v => kindT P t v
def KeysLike (k : Value) (es : Array MapEntry) : Prop := ∀ e ∈ es.toList, likeK k e.key = true
def mfind (k : Value) : List MapEntry → Nat → Option (Nat × Value)
  | [], _ => none
  | e :: es, i => if keyB k e.key then some (i, e.val) else mfind k es (i + 1)
def mapAt (h : Hp) (m : Option Nat) (es : Array MapEntry) : Prop := (m = none ∧ es = #[]) ∨ ∃ r clock, m = some r ∧ h[r]? = some (.map es clock)
def mgetD (k : Value) (es : Array MapEntry) (z : Value) : Value := match mfind k es.toList 0 with | some (_, v) => v | none => z
def mhas (k : Value) (es : Array MapEntry) : Bool := (mfind k es.toList 0).isSome
def mput (k v : Value) (es : Array MapEntry) (clock : Nat) : Obj :=
  match mfind k es.toList 0 with
  | some (i, _) => .map (es.modify i fun e => { e with key := k, val := v }) clock
  | none => .map (es.push { key := k, val := v, born := clock }) (clock + 1)
def mdel (k : Value) (es : Array MapEntry) (clock : Nat) : Obj :=
  match mfind k es.toList 0 with
  | some (i, _) => .map (es.eraseIdxIfInBounds i) clock
  | none => .map es clock

theorem sameNow_eq {d : TypeDesc} {k k' : Value} (hk : kindS d k = true) (hl : likeS k k' = true) : Instr.sameNow d k k' = some (keyS k k') := by
  cases d <;> cases k <;> simp only [kindS, Bool.false_eq_true] at hk <;> cases k' <;> simp only [likeS, Bool.false_eq_true, decide_eq_true_eq] at hl <;>
    simp only [Instr.sameNow, keyS]
  rw [if_pos hl]
theorem keyB_S {d : TypeDesc} {k : Value} (hk : kindS d k = true) (k' : Value) : keyB k k' = keyS k k' ∧ likeK k k' = likeS k k' := by
  cases d <;> cases k <;> simp only [kindS, Bool.false_eq_true] at hk <;> cases k' <;> exact ⟨rfl, rfl⟩
theorem findNow_eq {d : TypeDesc} {k : Value} (hk : kindS d k = true) : ∀ (es : List MapEntry) (i : Nat), (∀ e ∈ es, likeK k e.key = true) → Instr.findNow d k es i = some (mfind k es i)
  | [], _, _ => rfl
  | e :: es, i, hl => by
    have h1 := sameNow_eq hk (k' := e.key) (by rw [← (keyB_S hk _).2]; exact hl e (by simp))
    rw [← (keyB_S hk _).1] at h1
    have ih := findNow_eq hk es (i + 1) fun e he => hl e (by simp [he])
    simp only [Instr.findNow, mfind, h1]
    cases keyB k e.key <;> simp [ih]
theorem likeK_agg {xs : Array Value} {k' : Value} (h : likeK (.agg xs) k' = true) : ∃ ys, k' = .agg ys ∧ likeCS xs.toList ys.toList = true := by
  cases k' <;> simp only [likeK, likeS, Bool.false_eq_true] at h
  exact ⟨_, rfl, h⟩
theorem kindS_like {d : TypeDesc} {v u : Value} (hk : kindS d v = true) (hl : likeS v u = true) : kindS d u = true := by
  cases d <;> cases v <;> simp only [kindS, Bool.false_eq_true] at hk <;> cases u <;> simp only [likeS, Bool.false_eq_true, decide_eq_true_eq] at hl <;> rfl
theorem kindT_like {t : TypeId} {v u : Value} (hk : kindT P t v = true) (hl : likeS v u = true) : kindT P t u = true := by
  unfold kindT at hk ⊢
  split at hk
  · exact kindS_like hk hl
  · cases hk
theorem all_like {e : TypeId} : ∀ {xs ys : List Value}, xs.all (kindT P e) = true → likeCS xs ys = true → ys.all (kindT P e) = true
  | [], [], _, _ => rfl
  | x :: xs, y :: ys, h, hl => by
    simp only [List.all_cons, Bool.and_eq_true] at h ⊢
    simp only [likeCS, Bool.and_eq_true] at hl
    exact ⟨kindT_like h.1 hl.1, all_like h.2 hl.2⟩
  | [], _ :: _, _, hl => by simp [likeCS] at hl
  | _ :: _, [], _, hl => by simp [likeCS] at hl
theorem fitF_like : ∀ {fs : List Field} {i : Nat} {xs ys : List Value}, fitF P fs i xs = true → likeCS xs ys = true → fitF P fs i ys = true
  | [], _, [], [], _, _ => rfl
  | [], _, [], _ :: _, _, hl => by simp [likeCS] at hl
  | [], _, _ :: _, _, h, _ => by simp [fitF] at h
  | _ :: _, _, [], _, h, _ => by simp [fitF] at h
  | f :: fs, i, x :: xs, [], _, hl => by simp [likeCS] at hl
  | f :: fs, i, x :: xs, y :: ys, h, hl => by
    simp only [fitF, Bool.and_eq_true] at h ⊢
    simp only [likeCS, Bool.and_eq_true] at hl
    exact ⟨⟨h.1.1, kindT_like h.1.2 hl.1⟩, fitF_like h.2 hl.2⟩
theorem flatK_like {t : TypeId} {xs ys : List Value} (hk : flatK P t xs = true) (hl : likeCS xs ys = true) : flatK P t ys = true := by
  unfold flatK at hk ⊢
  split at hk
  · simp only [Bool.and_eq_true, decide_eq_true_eq] at hk ⊢
    exact ⟨⟨by rw [← likeCS_len hl]; exact hk.1.1, hk.1.2⟩, all_like hk.2 hl⟩
  · simp only [Bool.and_eq_true] at hk ⊢
    exact ⟨fitF_like hk.1 hl, hk.2⟩
  · cases hk
theorem flatK_desc {t : TypeId} {xs : List Value} (hk : flatK P t xs = true) {d : TypeDesc} (ht : P.underlying t = some d) (k' : Value) : ∀ ys : Array Value, Instr.sameNow d (.agg ys) k' = none := by
  intro ys
  cases d <;> rfl
theorem findAskingR {t : TypeId} {xs : Array Value} (hk : flatK P t xs.toList = true) : ∀ (es : List MapEntry) (i : Nat) (K : Option (Nat × Value) → Hp → Prop), (∀ e ∈ es, likeK (.agg xs) e.key = true) → K (mfind (.agg xs) es i) h → semR P (Instr.findAsking t (.agg xs) es i) h K
  | [], i, K, _, H => H
  | e :: es, i, K, hl, H => by
    simp only [Instr.findAsking, semR_bind']
    obtain ⟨ys, hy, hlc⟩ := likeK_agg (hl e (by simp))
    rw [hy]
    refine equalIn_flat 9998 hk (flatK_like hk hlc) hlc _ ?_
    simp only [mfind, hy, keyB] at H
    cases hb : eqCS xs.toList ys.toList with
    | true => rw [hb] at H; exact H
    | false =>
      rw [hb] at H
      simp only [Bool.false_eq_true, if_false]
      exact findAskingR hk es (i + 1) K (fun e he => hl e (by simp [he])) (by simpa using H)
theorem kindKT_open {t : TypeId} {k : Value} (hk : kindKT P t k = true) : (∃ d, P.underlying t = some d ∧ kindS d k = true) ∨ ∃ xs, k = .agg xs ∧ flatK P t xs.toList = true := by
  cases k
  case agg xs => exact Or.inr ⟨xs, rfl, hk⟩
  all_goals exact Or.inl (kindT_open hk)
theorem findKeyR {t : TypeId} {k : Value} {es : Array MapEntry} (hk : kindKT P t k = true) (hl : KeysLike k es) {K : Option (Nat × Value) → Hp → Prop}
    (H : K (mfind k es.toList 0) h) : semR P (Instr.findKey t k es.toList) h K := by
  unfold Instr.findKey
  simp only [semR_bind', semR_underlying]
  rcases kindKT_open hk with ⟨d, ht, hk⟩ | ⟨xs, rfl, hk2⟩
  · refine ⟨d, ht, ?_⟩
    rw [findNow_eq hk es.toList 0 hl]
    exact H
  · obtain ⟨d, ht⟩ : ∃ d, P.underlying t = some d := by
      unfold flatK at hk2
      split at hk2
      · rename_i n e ht; exact ⟨_, ht⟩
      · rename_i fs ht; exact ⟨_, ht⟩
      · cases hk2
    refine ⟨d, ht, ?_⟩
    cases hes : es.toList with
    | nil =>
      rw [hes] at H
      exact H
    | cons e es' =>
      simp only [Instr.findNow, flatK_desc hk2 ht e.key]
      rw [← hes]
      exact findAskingR hk2 es.toList 0 K hl H
theorem checkKeyInR (n : Nat) {b : Bool} {t : TypeId} {d : TypeDesc} {k : Value} (ht : P.underlying t = some d) (hk : kindS d k = true) {K : Unit → Hp → Prop} (H : K () h) :
    semR P (Instr.checkKey b (n + 1) t k) h K := by
  simp only [Instr.checkKey, semR_bind', semR_underlying]
  refine ⟨d, ht, ?_⟩
  cases d <;> cases k <;> simp only [kindS, Bool.false_eq_true] at hk <;> exact H
theorem check_arr (n : Nat) {b : Bool} {e : TypeId} {xs : Array Value} (hs : (P.info? e).map (·.size) = some 1) : ∀ (m i : Nat) (K : PUnit → Hp → Prop), (xs.toList.drop i).all (kindT P e) = true → xs.size = i + m → K () h → semR P (forIn (List.range' i m) PUnit.unit fun i __s => do
      let __do_lift ← sizeOf e
      let __do_lift ← part e xs (i * __do_lift)
      Instr.checkKey b (n + 1) e __do_lift
      pure (ForInStep.yield PUnit.unit)) h K
  | 0, i, K, _, _, H => H
  | m + 1, i, K, h1, h2, H => by
    rw [List.drop_eq_getElem_cons (by simp; omega)] at h1
    simp only [List.all_cons, Bool.and_eq_true] at h1
    rw [List.range'_succ, List.forIn_cons]
    simp only [semR_bind', semR_sizeOf]
    refine ⟨1, hs, ?_⟩
    refine part_scal h1.1 (by simp) _ ?_
    obtain ⟨d, hd, hk⟩ := kindT_open h1.1
    refine checkKeyInR n hd hk ?_
    exact check_arr n hs m (i + 1) K h1.2 (by omega) H
theorem check_fld (n : Nat) {b : Bool} {xs : Array Value} : ∀ (fs : List Field) (i : Nat) (K : PUnit → Hp → Prop), fitF P fs i (xs.toList.drop i) = true → K () h → semR P (forIn fs PUnit.unit fun f __s =>
      if f.name ≠ "_" then do
        let __do_lift ← part f.type xs f.offset
        Instr.checkKey b (n + 1) f.type __do_lift
        pure (ForInStep.yield PUnit.unit)
      else pure (ForInStep.yield PUnit.unit)) h K
  | [], i, K, _, H => H
  | f :: fs, i, K, h1, H => by
    have lx : i < xs.size := by
      rcases Nat.lt_or_ge i xs.size with g | g
      · exact g
      · rw [List.drop_eq_nil_of_le (by simpa using g)] at h1; simp [fitF] at h1
    rw [List.drop_eq_getElem_cons (by simpa using lx)] at h1
    simp only [fitF, Bool.and_eq_true, bne_iff_ne, Nat.beq_eq] at h1
    obtain ⟨⟨⟨a1, a2⟩, a3⟩, a4⟩ := h1
    rw [List.forIn_cons, semR_bind']
    rw [if_pos a2]
    simp only [semR_bind']
    refine part_scal a3 (by rw [a1]; simp) _ ?_
    obtain ⟨d, hd, hk⟩ := kindT_open a3
    refine checkKeyInR n hd hk ?_
    exact check_fld n fs (i + 1) K a4 H
theorem checkKeyR {b : Bool} {t : TypeId} {k : Value} (hk : kindKT P t k = true) {K : Unit → Hp → Prop} (H : K () h) :
    semR P (Instr.checkKey b 10000 t k) h K := by
  rcases kindKT_open hk with ⟨d, ht, hk⟩ | ⟨xs, rfl, hk2⟩
  · exact checkKeyInR 9999 ht hk H
  · unfold flatK at hk2
    split at hk2
    · rename_i n e ht
      simp only [Bool.and_eq_true, decide_eq_true_eq] at hk2
      obtain ⟨⟨a1, a2⟩, a3⟩ := hk2
      rw [Instr.checkKey]
      simp only [semR_bind', semR_underlying]
      refine ⟨_, ht, ?_⟩
      simp only [semR_bind', Std.Legacy.Range.forIn_eq_forIn_range', Std.Legacy.Range.size]
      simp only [Nat.sub_zero, Nat.add_sub_cancel, Nat.div_one]
      exact check_arr 9998 a2 n 0 _ (by simpa using a3) (by simpa using a1) H
    · rename_i fs ht
      simp only [Bool.and_eq_true] at hk2
      rw [Instr.checkKey]
      simp only [semR_bind', semR_underlying]
      refine ⟨_, ht, ?_⟩
      simp only [semR_bind']
      rw [← Array.forIn_toList]
      exact check_fld 9998 fs.toList 0 _ (by simpa using hk2.1) H
    · cases hk2

theorem findKey_sound {t : TypeId} {k : Value} {es : Array MapEntry} (hk : kindKT P t k = true) (hl : KeysLike k es) {K : Option (Nat × Value) → Hp → Prop}
    (H : K (mfind k es.toList 0) h) : semW P (Instr.findKey t k es.toList) h K := semW_of_semR _ (findKeyR hk hl H)
theorem checkKey_sound {b : Bool} {t : TypeId} {k : Value} (hk : kindKT P t k = true) {K : Unit → Hp → Prop} (H : K () h) :
    semW P (Instr.checkKey b 10000 t k) h K := semW_of_semR _ (checkKeyR hk H)

def lkV (ok : Bool) (v : Value) (b : Bool) : Value := match ok with | true => .tuple #[v, .bool b] | false => v
def lookW (P : Program) (t : TypeId) (m k : Value) (ok : Bool) (h : Hp) (K : Value → Prop) : Prop :=
  match P.underlying t, m with
  | some (.map kt et), .map r => match P.underlying kt, zeroOf P et with
    | some _, some z => match kindKT P kt k with
      | true => ∃ es, mapAt h r es ∧ KeysLike k es ∧ exF (tyOf z) fun v => mgetD k es z = v ∧ K (lkV ok v (mhas k es))
      | false => False
    | _, _ => False
  | _, _ => False
theorem lookW_sound {t : TypeId} {m k : Value} {ok : Bool} {K : Value → Prop} {K' : Value → Hp → Prop} (H : lookW P t m k ok h K) (HK : ∀ v, K v → K' v h) : semR P (Instr.lookup t m k ok) h K' := by
  unfold lookW at H
  split at H
  · rename_i kt et r ht
    split at H
    · rename_i kd z hkt hz
      split at H
      · rename_i hk
        obtain ⟨es, h1, h2, h3⟩ := H
        obtain ⟨v, h4, h5⟩ := exF_ex h3
        have tail : semR P (do
            Instr.checkKey es.isEmpty 10000 kt k
            match ← Instr.findKey kt k es.toList with
            | some (_, v) => pure (if ok then .tuple #[v, .bool true] else v)
            | none => do
              let z ← zeroValue et
              pure (if ok then .tuple #[z, .bool false] else z)) h K' := by
          rw [semR_bind']
          refine checkKeyR hk ?_
          rw [semR_bind']
          refine findKeyR hk h2 ?_
          have h6 := HK _ h5
          unfold mgetD at h4
          cases hf : mfind k es.toList 0 with
          | none =>
            rw [hf] at h4
            simp only [semR_bind', semR_zeroValue, semR_pure]
            refine ⟨z, hz, ?_⟩
            have h4' : z = v := h4
            simp only [mhas, hf, Option.isSome_none] at h6
            subst h4'
            cases ok <;> exact h6
          | some p =>
            obtain ⟨i, u⟩ := p
            rw [hf] at h4
            simp only [semR_pure]
            have h4' : u = v := h4
            simp only [mhas, hf, Option.isSome_some] at h6
            subst h4'
            cases ok <;> exact h6
        unfold Instr.lookup
        rw [semR_bind', semR_underlying]
        refine ⟨_, ht, ?_⟩
        rcases h1 with ⟨rfl, rfl⟩ | ⟨b, clock, rfl, h1⟩
        · exact tail
        · simp only [semR_bind', semR_getObj]
          exact ⟨_, h1, rfl, tail⟩
      · exact H.elim
    · exact H.elim
  · exact H.elim

def mupW (P : Program) (t : TypeId) (m k v : Value) (h : Hp) (K : Hp → Prop) : Prop :=
  match P.underlying t, m with
  | some (.map kt _), .map r => match P.underlying kt with
    | some _ => match kindKT P kt k with
      | true => ∃ b es clock, r = some b ∧ h[b]? = some (.map es clock) ∧ KeysLike k es ∧ K (h.setIfInBounds b (mput k v es clock))
      | false => False
    | none => False
  | _, _ => False
theorem mfind_key {k : Value} : ∀ (es : List MapEntry) (i j : Nat) (v : Value), mfind k es i = some (j, v) → ∃ e, es[j - i]? = some e ∧ i ≤ j ∧ keyB k e.key = true ∧ e.val = v
  | [], _, _, _, h => by simp [mfind] at h
  | e :: es, i, j, v, h => by
    simp only [mfind] at h
    split at h
    · rename_i hk
      simp at h
      obtain ⟨rfl, rfl⟩ := h
      exact ⟨e, by simp, Nat.le_refl _, hk, rfl⟩
    · obtain ⟨e', h1, h2, h3⟩ := mfind_key es (i + 1) j v h
      refine ⟨e', ?_, by omega, h3⟩
      rw [show j - i = (j - (i + 1)) + 1 by omega]
      simpa using h1
theorem ba_beq (a b : ByteArray) : (a == b) = true ↔ a = b := by
  show (a.data == b.data) = true ↔ a = b
  rw [beq_iff_eq]
  exact ⟨fun h => by cases a; cases b; simp only at h; rw [h], fun h => by rw [h]⟩
theorem sameBits_S {k k' : Value} (n : Nat) (h1 : likeS k k' = true) (h2 : keyS k k' = true) : Instr.sameBits n k' k = true := by
  cases k <;> cases k' <;> simp only [likeS, keyS, Bool.false_eq_true, decide_eq_true_eq, beq_iff_eq, ba_beq] at h1 h2 <;> subst_vars <;> cases n <;> simp [Instr.sameBits, ba_beq]
theorem sameBits_CS (n : Nat) : ∀ {xs ys : List Value}, likeCS xs ys = true → eqCS xs ys = true → (ys.zip xs).all (fun p => Instr.sameBits n p.1 p.2) = true
  | [], [], _, _ => rfl
  | x :: xs, y :: ys, h1, h2 => by
    simp only [likeCS, Bool.and_eq_true] at h1
    simp only [eqCS, Bool.and_eq_true] at h2
    simp only [List.zip_cons_cons, List.all_cons, Bool.and_eq_true]
    exact ⟨sameBits_S n h1.1 h2.1, sameBits_CS n h1.2 h2.2⟩
  | [], _ :: _, h, _ => by simp [likeCS] at h
  | _ :: _, [], h, _ => by simp [likeCS] at h
theorem sameBits_of {k k' : Value} (h1 : likeK k k' = true) (h2 : keyB k k' = true) : Instr.sameBits 10000 k' k = true := by
  cases k
  case agg xs =>
    obtain ⟨ys, rfl, hl⟩ := likeK_agg h1
    have hl2 := likeCS_len hl
    simp only [keyB] at h2
    have := sameBits_CS 9999 hl h2
    unfold Instr.sameBits
    rw [Bool.and_eq_true, beq_iff_eq]
    exact ⟨by simpa using hl2.symm, this⟩
  all_goals (cases k' <;> simp only [likeK, likeS, Bool.false_eq_true] at h1)
  all_goals exact sameBits_S _ (by first | (simp only [likeS]; done) | (simp only [likeS]; exact h1)) h2
theorem mupW_sound {t : TypeId} {m k v : Value} {K : Hp → Prop} {K' : Unit → Hp → Prop} (H : mupW P t m k v h K) (HK : ∀ h', K h' → K' () h') : semW P (Instr.mapUpdate t m k v) h K' := by
  unfold mupW at H
  split at H
  · rename_i kt et r ht
    split at H
    · rename_i kd hkt
      split at H
      · rename_i hk
        obtain ⟨b, es, clock, rfl, hb, hl, hK⟩ := H
        unfold Instr.mapUpdate
        simp only [semW_bind', semW_underlying]
        refine ⟨_, ht, ?_⟩
        simp only [semW_bind', semW_getObj]
        refine ⟨_, hb, rfl, ?_⟩
        rw [semW_bind']
        refine checkKey_sound hk ?_
        rw [semW_bind']
        refine findKey_sound hk hl ?_
        have h6 := HK _ hK
        unfold mput at h6
        cases hf : mfind k es.toList 0 with
        | none =>
          rw [hf] at h6
          simp only [semW_setObj]
          exact ⟨⟨_, hb, rfl⟩, h6⟩
        | some p =>
          obtain ⟨i, u⟩ := p
          rw [hf] at h6
          obtain ⟨e, h7, _, h8, _⟩ := mfind_key _ _ _ _ hf
          have h9 : (es[i]?).map (·.key) = some e.key := by
            have : es[i]? = some e := by simpa using h7
            rw [this]; rfl
          have h10 : likeK k e.key = true := hl e (by
            have : es[i]? = some e := by simpa using h7
            exact Array.mem_toList_iff.2 (Array.mem_of_getElem? this))
          simp only [semW_bind', Instr.keyThatStays, h9, Option.getD_some, sameBits_of h10 h8, if_true, semW_pure, semW_setObj]
          exact ⟨⟨_, hb, rfl⟩, h6⟩
      · exact H.elim
    · exact H.elim
  · exact H.elim

def delW (P : Program) (t : TypeId) (m k : Value) (h : Hp) (K : Hp → Prop) : Prop :=
  match P.underlying t, m with
  | some (.map kt _), .map r => match P.underlying kt with
    | some _ => match kindKT P kt k with
      | true => ∃ b es clock, r = some b ∧ h[b]? = some (.map es clock) ∧ KeysLike k es ∧ K (h.setIfInBounds b (mdel k es clock))
      | false => False
    | none => False
  | _, _ => False
theorem delW_sound {t ty : TypeId} {ts : Array TypeId} (hts : ts[0]? = some t) {m k : Value} {K : Hp → Prop} {K' : Value → Hp → Prop} (H : delW P t m k h K) (HK : ∀ h', K h' → K' undef h') : semW P (Builtin.delete_ ts ty #[m, k]) h K' := by
  unfold delW at H
  split at H
  · rename_i kt et r ht
    split at H
    · rename_i kd hkt
      split at H
      · rename_i hk
        obtain ⟨b, es, clock, rfl, hb, hl, hK⟩ := H
        unfold Builtin.delete_
        simp only [hts, List.getElem?_toArray, List.getElem?_cons_zero, List.getElem?_cons_succ, semW_bind', semW_underlying]
        refine ⟨_, ht, ?_⟩
        simp only [semW_bind', semW_getObj]
        refine ⟨_, hb, rfl, ?_⟩
        rw [semW_bind']
        refine checkKey_sound hk ?_
        rw [semW_bind']
        refine findKey_sound hk hl ?_
        have h6 := HK _ hK
        unfold mdel at h6
        cases hf : mfind k es.toList 0 with
        | none =>
          rw [hf] at h6
          simp only [semW_bind', semW_setObj]
          exact ⟨⟨_, hb, rfl⟩, h6⟩
        | some p =>
          obtain ⟨i, u⟩ := p
          rw [hf] at h6
          simp only [semW_bind', semW_setObj]
          exact ⟨⟨_, hb, rfl⟩, h6⟩
      · exact H.elim
    · exact H.elim
  · exact H.elim

/-! m[k] op= v: the entry is met, then written -/
def ment (k : Value) (es : Array MapEntry) (clock : Nat) (z : Value) : Value × Nat × Obj :=
  match mfind k es.toList 0 with
  | some (i, v) => (v, ((es[i]?).map (·.born)).getD 0, .map (es.modify i fun e => { e with key := k }) clock)
  | none => (z, clock, .map (es.push { key := k, val := z, born := clock }) (clock + 1))
def mentW (P : Program) (t : TypeId) (m k : Value) (h : Hp) (K : Value → Hp → Prop) : Prop :=
  match P.underlying t, m with
  | some (.map kt et), .map r => match P.underlying kt, zeroOf P et with
    | some _, some z => match kindKT P kt k with
      | true => ∃ b es clock, r = some b ∧ h[b]? = some (.map es clock) ∧ KeysLike k es ∧
          exT (tyOf z) fun v => (ment k es clock z).1 = v ∧ K (.tuple #[v, .int .i64 (ment k es clock z).2.1]) (h.setIfInBounds b (ment k es clock z).2.2)
      | false => False
    | _, _ => False
  | _, _ => False
theorem mentW_sound {t : TypeId} {m k : Value} {K : Value → Hp → Prop} (H : mentW P t m k h K) : semW P (Instr.mapEntry t m k) h K := by
  unfold mentW at H
  split at H
  · rename_i kt et r ht
    split at H
    · rename_i kd z hkt hz
      split at H
      · rename_i hk
        obtain ⟨b, es, clock, rfl, hb, hl, h3⟩ := H
        obtain ⟨v, h4, h5⟩ := exT_ex h3
        unfold Instr.mapEntry
        simp only [semW_bind', semW_underlying]
        refine ⟨_, ht, ?_⟩
        simp only [semW_bind', semW_getObj]
        refine ⟨_, hb, rfl, ?_⟩
        rw [semW_bind']
        refine checkKey_sound hk ?_
        rw [semW_bind']
        refine findKey_sound hk hl ?_
        unfold ment at h4 h5
        cases hf : mfind k es.toList 0 with
        | none =>
          rw [hf] at h4 h5
          simp only [semW_bind', semW_zeroValue]
          refine ⟨z, hz, ?_⟩
          simp only [semW_setObj, semW_pure]
          subst h4
          exact ⟨⟨_, hb, rfl⟩, h5⟩
        | some p =>
          obtain ⟨i, u⟩ := p
          rw [hf] at h4 h5
          obtain ⟨e, h7, _, h8, _⟩ := mfind_key _ _ _ _ hf
          have h7' : es[i]? = some e := by simpa using h7
          have h9 : (es[i]?).map (·.key) = some e.key := by rw [h7']; rfl
          have h10 : likeK k e.key = true := hl e (Array.mem_toList_iff.2 (Array.mem_of_getElem? h7'))
          simp only [semW_bind', Instr.keyThatStays, h9, Option.getD_some, sameBits_of h10 h8, if_true, semW_pure, semW_setObj]
          subst h4
          refine ⟨⟨_, hb, rfl⟩, ?_⟩
          simp only [h7', Option.map_some, Option.getD_some] at h5 ⊢
          exact h5
      · exact H.elim
    · exact H.elim
  · exact H.elim
def msto (v : Value) (n : Int) (es : Array MapEntry) : Option (Array MapEntry) :=
  match es.findIdx? (fun e => (e.born : Int) == n) with
  | some i => some (es.modify i fun e => { e with val := v })
  | none => none
def mstoW (m s v : Value) (h : Hp) (K : Hp → Prop) : Prop :=
  match m, s with
  | .map r, .int _ n => ∃ b es clock es', r = some b ∧ h[b]? = some (.map es clock) ∧ msto v n es = some es' ∧ K (h.setIfInBounds b (.map es' clock))
  | _, _ => False
theorem mstoW_sound {t : TypeId} {m s v : Value} {K : Hp → Prop} {K' : Unit → Hp → Prop} (H : mstoW m s v h K) (HK : ∀ h', K h' → K' () h') : semW P (Instr.entryStore t m s v) h K' := by
  unfold mstoW at H
  split at H
  · rename_i r k n
    obtain ⟨b, es, clock, es', rfl, hb, hs, hK⟩ := H
    unfold Instr.entryStore
    simp only [semW_bind', semW_getObj]
    refine ⟨_, hb, rfl, ?_⟩
    simp only [asInt, asIntOf, semW_bind', semW_pure]
    unfold msto at hs
    split at hs
    · rename_i i hi
      simp only [hi, semW_setObj]
      simp at hs
      subst hs
      exact ⟨⟨_, hb, rfl⟩, HK _ hK⟩
    · cases hs
  · exact H.elim
end
end Go.Lift

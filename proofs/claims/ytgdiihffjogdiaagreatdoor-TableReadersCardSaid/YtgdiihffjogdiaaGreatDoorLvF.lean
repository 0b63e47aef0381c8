/- The rules of the operations, continued: maps, conversions, building, small builtins. -/
import Derived.Test.YtgdiihffjogdiaaGreatDoorLvD
set_option linter.unusedSimpArgs false
set_option linter.unusedVariables false
namespace Go.Lift
section
variable {P : Program} {h : Hp}

/-! ### building -/
theorem semR_listMapM {α β : Type} {f : α → Sem β} {g : α → β} : ∀ (l : List α) (K : List β → Hp → Prop), (∀ x ∈ l, ∀ (K : β → Hp → Prop), K (g x) h → semR P (f x) h K) → K (l.map g) h → semR P (l.mapM f) h K
  | [], K, _, H => by rw [List.mapM_nil]; exact H
  | x :: l, K, hf, H => by
    rw [List.mapM_cons, semR_bind']
    refine hf x (by simp) _ ?_
    rw [semR_bind']
    refine semR_listMapM l _ (fun y hy => hf y (by simp [hy])) ?_
    exact H
theorem semR_arrayMapM {α β : Type} {f : α → Sem β} {g : α → β} (l : Array α) (K : Array β → Hp → Prop) (hf : ∀ x ∈ l, ∀ (K : β → Hp → Prop), K (g x) h → semR P (f x) h K) (H : K (l.map g) h) : semR P (l.mapM f) h K := by
  rw [Array.mapM_eq_mapM_toList]
  show semR P (_ <$> _) h K
  rw [map_eq_pure_bind, semR_bind']
  refine semR_listMapM l.toList _ (fun x hx => hf x (by simpa using hx)) ?_
  rw [semR_pure, ← Array.toList_map]
  exact H

def fldPlaces (P : Program) (fs : Array Field) : Array (Nat × Nat) := fs.map fun f => (f.offset, (szOf P f.type).getD 0)
def bldV (P : Program) (t : TypeId) (parts : List (Nat × Value)) : Option Value :=
  match zeroOf P t, P.underlying t with
  | some z, some (.struct fs) => match fs.toList.all fun f => (szOf P f.type).isSome with
    | true => (Instr.fill ((fldPlaces P fs)[·]?) z.cells parts).map .agg
    | false => none
  | some z, some (.array _ e) => match szOf P e with
    | some s => (Instr.fill (fun i => some (i * s, s)) z.cells parts).map .agg
    | none => none
  | _, _ => none
theorem bldV_sound {t : TypeId} {parts : Array (Nat × Value)} {v : Value} {K : Value → Hp → Prop} (H : bldV P t parts.toList = some v) (HK : K v h) : semR P (Instr.build t parts) h K := by
  unfold bldV at H
  unfold Instr.build
  simp only [semR_bind', semR_zeroValue]
  split at H
  · rename_i z fs hz ht
    refine ⟨z, hz, ?_⟩
    split at H
    · rename_i hall
      simp only [semR_pure, semR_underlying]
      refine ⟨_, ht, ?_⟩
      simp only [semR_bind']
      refine semR_arrayMapM (g := fun f => (f.offset, (szOf P f.type).getD 0)) fs _ (fun f hf K hK => ?_) ?_
      · simp only [semR_bind', semR_sizeOf, semR_pure]
        have := List.all_eq_true.1 hall f (by simpa using hf)
        obtain ⟨n, hn⟩ := Option.isSome_iff_exists.1 this
        exact ⟨n, hn, by rw [hn] at hK; exact hK⟩
      · simp only [Option.map_eq_some_iff] at H
        obtain ⟨cs, h1, h2⟩ := H
        unfold fldPlaces at h1
        simp only [h1]
        rw [← h2] at HK
        exact HK
    · cases H
  · rename_i z n e hz ht
    refine ⟨z, hz, ?_⟩
    split at H
    · rename_i s hs
      simp only [semR_pure, semR_underlying]
      refine ⟨_, ht, ?_⟩
      simp only [semR_bind', semR_sizeOf]
      refine ⟨s, hs, ?_⟩
      simp only [Option.map_eq_some_iff] at H
      obtain ⟨cs, h1, h2⟩ := H
      simp only [h1]
      rw [← h2] at HK
      exact HK
    · cases H
  · cases H
def bsCells (P : Program) (e : TypeId) (len s : Nat) (parts : List (Nat × Value)) : Option (Array Value) :=
  Instr.fill (fun i => some (i * s, s)) (mkCells (zc P e) (len * s)) parts
def bsW (P : Program) (t : TypeId) (len : Nat) (parts : List (Nat × Value)) (h : Hp) (K : Value → Hp → Prop) : Prop :=
  match P.underlying t with
  | some (.slice e) => match szOf P e, zeroOf P e with
    | some s, some _ => match decide (len * s ≤ 2 ^ 24), bsCells P e len s parts with
      | true, some cs => K (.slice (some ⟨h.size, 0, none⟩) len len) (h.push (.cells cs e))
      | _, _ => False
    | _, _ => False
  | _ => False
theorem bsW_sound {t : TypeId} {len : Nat} {parts : Array (Nat × Value)} {K : Value → Hp → Prop} (H : bsW P t len parts.toList h K) : semW P (Instr.buildSlice t len parts) h K := by
  unfold bsW at H
  split at H
  · rename_i e ht
    split at H
    · rename_i s z hs hz
      split at H
      · rename_i cs hd hc
        unfold Instr.buildSlice
        simp only [semW_bind', semW_underlying]
        refine ⟨_, ht, ?_⟩
        simp only [semW_bind', semW_sizeOf]
        refine ⟨s, hs, ?_⟩
        rw [if_neg (by have := of_decide_eq_true hd; omega)]
        have e1 : ∀ f : Nat → Value, (Array.range 0).map f = #[] := fun f => by simp [Array.range]
        by_cases hn : len * s = 0
        · rw [if_pos hn]
          simp only [semW_pure, semW_bind', hn]
          unfold bsCells at hc
          rw [hn, mkCells, e1] at hc
          rw [e1]
          simp only [hc]
          exact H
        · rw [if_neg hn]
          simp only [semW_pure, semW_bind', semW_zeroValue]
          refine ⟨z, hz, ?_⟩
          unfold bsCells mkCells at hc
          simp only [zc, hz] at hc
          simp only [hc]
          exact H
      · exact H.elim
    · exact H.elim
  · exact H.elim

/-! ### maps -/
def keyB : Value → Value → Bool
  | .agg a, .agg b => eqCS a.toList b.toList
  | a, b => keyS a b
def likeK : Value → Value → Bool
  | .agg a, .agg b => likeCS a.toList b.toList
  | a, b => likeS a b
def kindKT (P : Program) (t : TypeId) : Value → Bool
  | .agg a => flatK P t a.toList
  | v => kindT P t v
def KeysLike (k : Value) (es : Array MapEntry) : Prop := ∀ e ∈ es.toList, likeK k e.key = true
def mfind (k : Value) : List MapEntry → Nat → Option (Nat × Value)
  | [], _ => none
  | e :: es, i => if keyB k e.key then some (i, e.val) else mfind k es (i + 1)
def mapAt (h : Hp) (m : Option Nat) (es : Array MapEntry) : Prop := (m = none ∧ es = #[]) ∨ ∃ r clock, m = some r ∧ h[r]? = some (.map es clock)
def mgetD (k : Value) (es : Array MapEntry) (z : Value) : Value := match mfind k es.toList 0 with | some (_, v) => v | none => z
def mhas (k : Value) (es : Array MapEntry) : Bool := (mfind k es.toList 0).isSome
def mput (k v : Value) (es : Array MapEntry) (clock : Nat) : Obj :=
  match mfind k es.toList 0 with
  | some (i, _) => .map (es.modify i fun e => { e with key := k, val := v }) clock
  | none => .map (es.push { key := k, val := v, born := clock }) (clock + 1)
def mdel (k : Value) (es : Array MapEntry) (clock : Nat) : Obj :=
  match mfind k es.toList 0 with
  | some (i, _) => .map (es.eraseIdxIfInBounds i) clock
  | none => .map es clock

theorem sameNow_eq {d : TypeDesc} {k k' : Value} (hk : kindS d k = true) (hl : likeS k k' = true) : Instr.sameNow d k k' = some (keyS k k') := by
  cases d <;> cases k <;> simp only [kindS, Bool.false_eq_true] at hk <;> cases k' <;> simp only [likeS, Bool.false_eq_true, decide_eq_true_eq] at hl <;>
    simp only [Instr.sameNow, keyS]
  rw [if_pos hl]
theorem keyB_S {d : TypeDesc} {k : Value} (hk : kindS d k = true) (k' : Value) : keyB k k' = keyS k k' ∧ likeK k k' = likeS k k' := by
  cases d <;> cases k <;> simp only [kindS, Bool.false_eq_true] at hk <;> cases k' <;> exact ⟨rfl, rfl⟩
theorem findNow_eq {d : TypeDesc} {k : Value} (hk : kindS d k = true) : ∀ (es : List MapEntry) (i : Nat), (∀ e ∈ es, likeK k e.key = true) → Instr.findNow d k es i = some (mfind k es i)
  | [], _, _ => rfl
  | e :: es, i, hl => by
    have h1 := sameNow_eq hk (k' := e.key) (by rw [← (keyB_S hk _).2]; exact hl e (by simp))
    rw [← (keyB_S hk _).1] at h1
    have ih := findNow_eq hk es (i + 1) fun e he => hl e (by simp [he])
    simp only [Instr.findNow, mfind, h1]
    cases keyB k e.key <;> simp [ih]
theorem likeK_agg {xs : Array Value} {k' : Value} (h : likeK (.agg xs) k' = true) : ∃ ys, k' = .agg ys ∧ likeCS xs.toList ys.toList = true := by
  cases k' <;> simp only [likeK, likeS, Bool.false_eq_true] at h
  exact ⟨_, rfl, h⟩
theorem kindS_like {d : TypeDesc} {v u : Value} (hk : kindS d v = true) (hl : likeS v u = true) : kindS d u = true := by
  cases d <;> cases v <;> simp only [kindS, Bool.false_eq_true] at hk <;> cases u <;> simp only [likeS, Bool.false_eq_true, decide_eq_true_eq] at hl <;> rfl
theorem kindT_like {t : TypeId} {v u : Value} (hk : kindT P t v = true) (hl : likeS v u = true) : kindT P t u = true := by
  unfold kindT at hk ⊢
  split at hk
  · exact kindS_like hk hl
  · cases hk
theorem all_like {e : TypeId} : ∀ {xs ys : List Value}, xs.all (kindT P e) = true → likeCS xs ys = true → ys.all (kindT P e) = true
  | [], [], _, _ => rfl
  | x :: xs, y :: ys, h, hl => by
    simp only [List.all_cons, Bool.and_eq_true] at h ⊢
    simp only [likeCS, Bool.and_eq_true] at hl
    exact ⟨kindT_like h.1 hl.1, all_like h.2 hl.2⟩
  | [], _ :: _, _, hl => by simp [likeCS] at hl
  | _ :: _, [], _, hl => by simp [likeCS] at hl
theorem fitF_like : ∀ {fs : List Field} {i : Nat} {xs ys : List Value}, fitF P fs i xs = true → likeCS xs ys = true → fitF P fs i ys = true
  | [], _, [], [], _, _ => rfl
  | [], _, [], _ :: _, _, hl => by simp [likeCS] at hl
  | [], _, _ :: _, _, h, _ => by simp [fitF] at h
  | _ :: _, _, [], _, h, _ => by simp [fitF] at h
  | f :: fs, i, x :: xs, [], _, hl => by simp [likeCS] at hl
  | f :: fs, i, x :: xs, y :: ys, h, hl => by
    simp only [fitF, Bool.and_eq_true] at h ⊢
    simp only [likeCS, Bool.and_eq_true] at hl
    exact ⟨⟨h.1.1, kindT_like h.1.2 hl.1⟩, fitF_like h.2 hl.2⟩
theorem flatK_like {t : TypeId} {xs ys : List Value} (hk : flatK P t xs = true) (hl : likeCS xs ys = true) : flatK P t ys = true := by
  unfold flatK at hk ⊢
  split at hk
  · simp only [Bool.and_eq_true, decide_eq_true_eq] at hk ⊢
    exact ⟨⟨by rw [← likeCS_len hl]; exact hk.1.1, hk.1.2⟩, all_like hk.2 hl⟩
  · simp only [Bool.and_eq_true] at hk ⊢
    exact ⟨fitF_like hk.1 hl, hk.2⟩
  · cases hk
theorem flatK_desc {t : TypeId} {xs : List Value} (hk : flatK P t xs = true) {d : TypeDesc} (ht : P.underlying t = some d) (k' : Value) : ∀ ys : Array Value, Instr.sameNow d (.agg ys) k' = none := by
  intro ys
  cases d <;> rfl
theorem findAskingR {t : TypeId} {xs : Array Value} (hk : flatK P t xs.toList = true) : ∀ (es : List MapEntry) (i : Nat) (K : Option (Nat × Value) → Hp → Prop), (∀ e ∈ es, likeK (.agg xs) e.key = true) → K (mfind (.agg xs) es i) h → semR P (Instr.findAsking t (.agg xs) es i) h K
  | [], i, K, _, H => H
  | e :: es, i, K, hl, H => by
    simp only [Instr.findAsking, semR_bind']
    obtain ⟨ys, hy, hlc⟩ := likeK_agg (hl e (by simp))
    rw [hy]
    refine equalIn_flat 9998 hk (flatK_like hk hlc) hlc _ ?_
    simp only [mfind, hy, keyB] at H
    cases hb : eqCS xs.toList ys.toList with
    | true => rw [hb] at H; exact H
    | false =>
      rw [hb] at H
      simp only [Bool.false_eq_true, if_false]
      exact findAskingR hk es (i + 1) K (fun e he => hl e (by simp [he])) (by simpa using H)
theorem kindKT_open {t : TypeId} {k : Value} (hk : kindKT P t k = true) : (∃ d, P.underlying t = some d ∧ kindS d k = true) ∨ ∃ xs, k = .agg xs ∧ flatK P t xs.toList = true := by
  cases k
  case agg xs => exact Or.inr ⟨xs, rfl, hk⟩
  all_goals exact Or.inl (kindT_open hk)
theorem findKeyR {t : TypeId} {k : Value} {es : Array MapEntry} (hk : kindKT P t k = true) (hl : KeysLike k es) {K : Option (Nat × Value) → Hp → Prop}
    (H : K (mfind k es.toList 0) h) : semR P (Instr.findKey t k es.toList) h K := by
  unfold Instr.findKey
  simp only [semR_bind', semR_underlying]
  rcases kindKT_open hk with ⟨d, ht, hk⟩ | ⟨xs, rfl, hk2⟩
  · refine ⟨d, ht, ?_⟩
    rw [findNow_eq hk es.toList 0 hl]
    exact H
  · obtain ⟨d, ht⟩ : ∃ d, P.underlying t = some d := by
      unfold flatK at hk2
      split at hk2
      · rename_i n e ht; exact ⟨_, ht⟩
      · rename_i fs ht; exact ⟨_, ht⟩
      · cases hk2
    refine ⟨d, ht, ?_⟩
    cases hes : es.toList with
    | nil =>
      rw [hes] at H
      exact H
    | cons e es' =>
      simp only [Instr.findNow, flatK_desc hk2 ht e.key]
      rw [← hes]
      exact findAskingR hk2 es.toList 0 K hl H
theorem checkKeyInR (n : Nat) {b : Bool} {t : TypeId} {d : TypeDesc} {k : Value} (ht : P.underlying t = some d) (hk : kindS d k = true) {K : Unit → Hp → Prop} (H : K () h) :
    semR P (Instr.checkKey b (n + 1) t k) h K := by
  simp only [Instr.checkKey, semR_bind', semR_underlying]
  refine ⟨d, ht, ?_⟩
  cases d <;> cases k <;> simp only [kindS, Bool.false_eq_true] at hk <;> exact H
theorem check_arr (n : Nat) {b : Bool} {e : TypeId} {xs : Array Value} (hs : (P.info? e).map (·.size) = some 1) : ∀ (m i : Nat) (K : PUnit → Hp → Prop), (xs.toList.drop i).all (kindT P e) = true → xs.size = i + m → K () h → semR P (forIn (List.range' i m) PUnit.unit fun i __s => do
      let __do_lift ← sizeOf e
      let __do_lift ← part e xs (i * __do_lift)
      Instr.checkKey b (n + 1) e __do_lift
      pure (ForInStep.yield PUnit.unit)) h K
  | 0, i, K, _, _, H => H
  | m + 1, i, K, h1, h2, H => by
    rw [List.drop_eq_getElem_cons (by simp; omega)] at h1
    simp only [List.all_cons, Bool.and_eq_true] at h1
    rw [List.range'_succ, List.forIn_cons]
    simp only [semR_bind', semR_sizeOf]
    refine ⟨1, hs, ?_⟩
    refine part_scal h1.1 (by simp) _ ?_
    obtain ⟨d, hd, hk⟩ := kindT_open h1.1
    refine checkKeyInR n hd hk ?_
    exact check_arr n hs m (i + 1) K h1.2 (by omega) H
theorem check_fld (n : Nat) {b : Bool} {xs : Array Value} : ∀ (fs : List Field) (i : Nat) (K : PUnit → Hp → Prop), fitF P fs i (xs.toList.drop i) = true → K () h → semR P (forIn fs PUnit.unit fun f __s =>
      if f.name ≠ "_" then do
        let __do_lift ← part f.type xs f.offset
        Instr.checkKey b (n + 1) f.type __do_lift
        pure (ForInStep.yield PUnit.unit)
      else pure (ForInStep.yield PUnit.unit)) h K
  | [], i, K, _, H => H
  | f :: fs, i, K, h1, H => by
    have lx : i < xs.size := by
      rcases Nat.lt_or_ge i xs.size with g | g
      · exact g
      · rw [List.drop_eq_nil_of_le (by simpa using g)] at h1; simp [fitF] at h1
    rw [List.drop_eq_getElem_cons (by simpa using lx)] at h1
    simp only [fitF, Bool.and_eq_true, bne_iff_ne, Nat.beq_eq] at h1
    obtain ⟨⟨⟨a1, a2⟩, a3⟩, a4⟩ := h1
    rw [List.forIn_cons, semR_bind']
    rw [if_pos a2]
    simp only [semR_bind']
    refine part_scal a3 (by rw [a1]; simp) _ ?_
    obtain ⟨d, hd, hk⟩ := kindT_open a3
    refine checkKeyInR n hd hk ?_
    exact check_fld n fs (i + 1) K a4 H
theorem checkKeyR {b : Bool} {t : TypeId} {k : Value} (hk : kindKT P t k = true) {K : Unit → Hp → Prop} (H : K () h) :
    semR P (Instr.checkKey b 10000 t k) h K := by
  rcases kindKT_open hk with ⟨d, ht, hk⟩ | ⟨xs, rfl, hk2⟩
  · exact checkKeyInR 9999 ht hk H
  · unfold flatK at hk2
    split at hk2
    · rename_i n e ht
      simp only [Bool.and_eq_true, decide_eq_true_eq] at hk2
      obtain ⟨⟨a1, a2⟩, a3⟩ := hk2
      rw [Instr.checkKey]
      simp only [semR_bind', semR_underlying]
      refine ⟨_, ht, ?_⟩
      simp only [semR_bind', Std.Legacy.Range.forIn_eq_forIn_range', Std.Legacy.Range.size]
      simp only [Nat.sub_zero, Nat.add_sub_cancel, Nat.div_one]
      exact check_arr 9998 a2 n 0 _ (by simpa using a3) (by simpa using a1) H
    · rename_i fs ht
      simp only [Bool.and_eq_true] at hk2
      rw [Instr.checkKey]
      simp only [semR_bind', semR_underlying]
      refine ⟨_, ht, ?_⟩
      simp only [semR_bind']
      rw [← Array.forIn_toList]
      exact check_fld 9998 fs.toList 0 _ (by simpa using hk2.1) H
    · cases hk2

theorem findKey_sound {t : TypeId} {k : Value} {es : Array MapEntry} (hk : kindKT P t k = true) (hl : KeysLike k es) {K : Option (Nat × Value) → Hp → Prop}
    (H : K (mfind k es.toList 0) h) : semW P (Instr.findKey t k es.toList) h K := semW_of_semR _ (findKeyR hk hl H)
theorem checkKey_sound {b : Bool} {t : TypeId} {k : Value} (hk : kindKT P t k = true) {K : Unit → Hp → Prop} (H : K () h) :
    semW P (Instr.checkKey b 10000 t k) h K := semW_of_semR _ (checkKeyR hk H)

def lkV (ok : Bool) (v : Value) (b : Bool) : Value := match ok with | true => .tuple #[v, .bool b] | false => v
def lookW (P : Program) (t : TypeId) (m k : Value) (ok : Bool) (h : Hp) (K : Value → Prop) : Prop :=
  match P.underlying t, m with
  | some (.map kt et), .map r => match P.underlying kt, zeroOf P et with
    | some _, some z => match kindKT P kt k with
      | true => ∃ es, mapAt h r es ∧ KeysLike k es ∧ exF (tyOf z) fun v => mgetD k es z = v ∧ K (lkV ok v (mhas k es))
      | false => False
    | _, _ => False
  | _, _ => False
theorem lookW_sound {t : TypeId} {m k : Value} {ok : Bool} {K : Value → Prop} {K' : Value → Hp → Prop} (H : lookW P t m k ok h K) (HK : ∀ v, K v → K' v h) : semR P (Instr.lookup t m k ok) h K' := by
  unfold lookW at H
  split at H
  · rename_i kt et r ht
    split at H
    · rename_i kd z hkt hz
      split at H
      · rename_i hk
        obtain ⟨es, h1, h2, h3⟩ := H
        obtain ⟨v, h4, h5⟩ := exF_ex h3
        have tail : semR P (do
            Instr.checkKey es.isEmpty 10000 kt k
            match ← Instr.findKey kt k es.toList with
            | some (_, v) => pure (if ok then .tuple #[v, .bool true] else v)
            | none => do
              let z ← zeroValue et
              pure (if ok then .tuple #[z, .bool false] else z)) h K' := by
          rw [semR_bind']
          refine checkKeyR hk ?_
          rw [semR_bind']
          refine findKeyR hk h2 ?_
          have h6 := HK _ h5
          unfold mgetD at h4
          cases hf : mfind k es.toList 0 with
          | none =>
            rw [hf] at h4
            simp only [semR_bind', semR_zeroValue, semR_pure]
            refine ⟨z, hz, ?_⟩
            have h4' : z = v := h4
            simp only [mhas, hf, Option.isSome_none] at h6
            subst h4'
            cases ok <;> exact h6
          | some p =>
            obtain ⟨i, u⟩ := p
            rw [hf] at h4
            simp only [semR_pure]
            have h4' : u = v := h4
            simp only [mhas, hf, Option.isSome_some] at h6
            subst h4'
            cases ok <;> exact h6
        unfold Instr.lookup
        rw [semR_bind', semR_underlying]
        refine ⟨_, ht, ?_⟩
        rcases h1 with ⟨rfl, rfl⟩ | ⟨b, clock, rfl, h1⟩
        · exact tail
        · simp only [semR_bind', semR_getObj]
          exact ⟨_, h1, rfl, tail⟩
      · exact H.elim
    · exact H.elim
  · exact H.elim

def mupW (P : Program) (t : TypeId) (m k v : Value) (h : Hp) (K : Hp → Prop) : Prop :=
  match P.underlying t, m with
  | some (.map kt _), .map r => match P.underlying kt with
    | some _ => match kindKT P kt k with
      | true => ∃ b es clock, r = some b ∧ h[b]? = some (.map es clock) ∧ KeysLike k es ∧ K (h.setIfInBounds b (mput k v es clock))
      | false => False
    | none => False
  | _, _ => False
theorem mfind_key {k : Value} : ∀ (es : List MapEntry) (i j : Nat) (v : Value), mfind k es i = some (j, v) → ∃ e, es[j - i]? = some e ∧ i ≤ j ∧ keyB k e.key = true ∧ e.val = v
  | [], _, _, _, h => by simp [mfind] at h
  | e :: es, i, j, v, h => by
    simp only [mfind] at h
    split at h
    · rename_i hk
      simp at h
      obtain ⟨rfl, rfl⟩ := h
      exact ⟨e, by simp, Nat.le_refl _, hk, rfl⟩
    · obtain ⟨e', h1, h2, h3⟩ := mfind_key es (i + 1) j v h
      refine ⟨e', ?_, by omega, h3⟩
      rw [show j - i = (j - (i + 1)) + 1 by omega]
      simpa using h1
theorem ba_beq (a b : ByteArray) : (a == b) = true ↔ a = b := by
  show (a.data == b.data) = true ↔ a = b
  rw [beq_iff_eq]
  exact ⟨fun h => by cases a; cases b; simp only at h; rw [h], fun h => by rw [h]⟩
theorem sameBits_S {k k' : Value} (n : Nat) (h1 : likeS k k' = true) (h2 : keyS k k' = true) : Instr.sameBits n k' k = true := by
  cases k <;> cases k' <;> simp only [likeS, keyS, Bool.false_eq_true, decide_eq_true_eq, beq_iff_eq, ba_beq] at h1 h2 <;> subst_vars <;> cases n <;> simp [Instr.sameBits, ba_beq]
theorem sameBits_CS (n : Nat) : ∀ {xs ys : List Value}, likeCS xs ys = true → eqCS xs ys = true → (ys.zip xs).all (fun p => Instr.sameBits n p.1 p.2) = true
  | [], [], _, _ => rfl
  | x :: xs, y :: ys, h1, h2 => by
    simp only [likeCS, Bool.and_eq_true] at h1
    simp only [eqCS, Bool.and_eq_true] at h2
    simp only [List.zip_cons_cons, List.all_cons, Bool.and_eq_true]
    exact ⟨sameBits_S n h1.1 h2.1, sameBits_CS n h1.2 h2.2⟩
  | [], _ :: _, h, _ => by simp [likeCS] at h
  | _ :: _, [], h, _ => by simp [likeCS] at h
theorem sameBits_of {k k' : Value} (h1 : likeK k k' = true) (h2 : keyB k k' = true) : Instr.sameBits 10000 k' k = true := by
  cases k
  case agg xs =>
    obtain ⟨ys, rfl, hl⟩ := likeK_agg h1
    have hl2 := likeCS_len hl
    simp only [keyB] at h2
    have := sameBits_CS 9999 hl h2
    unfold Instr.sameBits
    rw [Bool.and_eq_true, beq_iff_eq]
    exact ⟨by simpa using hl2.symm, this⟩
  all_goals (cases k' <;> simp only [likeK, likeS, Bool.false_eq_true] at h1)
  all_goals exact sameBits_S _ (by first | (simp only [likeS]; done) | (simp only [likeS]; exact h1)) h2
theorem mupW_sound {t : TypeId} {m k v : Value} {K : Hp → Prop} {K' : Unit → Hp → Prop} (H : mupW P t m k v h K) (HK : ∀ h', K h' → K' () h') : semW P (Instr.mapUpdate t m k v) h K' := by
  unfold mupW at H
  split at H
  · rename_i kt et r ht
    split at H
    · rename_i kd hkt
      split at H
      · rename_i hk
        obtain ⟨b, es, clock, rfl, hb, hl, hK⟩ := H
        unfold Instr.mapUpdate
        simp only [semW_bind', semW_underlying]
        refine ⟨_, ht, ?_⟩
        simp only [semW_bind', semW_getObj]
        refine ⟨_, hb, rfl, ?_⟩
        rw [semW_bind']
        refine checkKey_sound hk ?_
        rw [semW_bind']
        refine findKey_sound hk hl ?_
        have h6 := HK _ hK
        unfold mput at h6
        cases hf : mfind k es.toList 0 with
        | none =>
          rw [hf] at h6
          simp only [semW_setObj]
          exact ⟨⟨_, hb, rfl⟩, h6⟩
        | some p =>
          obtain ⟨i, u⟩ := p
          rw [hf] at h6
          obtain ⟨e, h7, _, h8, _⟩ := mfind_key _ _ _ _ hf
          have h9 : (es[i]?).map (·.key) = some e.key := by
            have : es[i]? = some e := by simpa using h7
            rw [this]; rfl
          have h10 : likeK k e.key = true := hl e (by
            have : es[i]? = some e := by simpa using h7
            exact Array.mem_toList_iff.2 (Array.mem_of_getElem? this))
          simp only [semW_bind', Instr.keyThatStays, h9, Option.getD_some, sameBits_of h10 h8, if_true, semW_pure, semW_setObj]
          exact ⟨⟨_, hb, rfl⟩, h6⟩
      · exact H.elim
    · exact H.elim
  · exact H.elim

def delW (P : Program) (t : TypeId) (m k : Value) (h : Hp) (K : Hp → Prop) : Prop :=
  match P.underlying t, m with
  | some (.map kt _), .map r => match P.underlying kt with
    | some _ => match kindKT P kt k with
      | true => ∃ b es clock, r = some b ∧ h[b]? = some (.map es clock) ∧ KeysLike k es ∧ K (h.setIfInBounds b (mdel k es clock))
      | false => False
    | none => False
  | _, _ => False
theorem delW_sound {t ty : TypeId} {ts : Array TypeId} (hts : ts[0]? = some t) {m k : Value} {K : Hp → Prop} {K' : Value → Hp → Prop} (H : delW P t m k h K) (HK : ∀ h', K h' → K' undef h') : semW P (Builtin.delete_ ts ty #[m, k]) h K' := by
  unfold delW at H
  split at H
  · rename_i kt et r ht
    split at H
    · rename_i kd hkt
      split at H
      · rename_i hk
        obtain ⟨b, es, clock, rfl, hb, hl, hK⟩ := H
        unfold Builtin.delete_
        simp only [hts, List.getElem?_toArray, List.getElem?_cons_zero, List.getElem?_cons_succ, semW_bind', semW_underlying]
        refine ⟨_, ht, ?_⟩
        simp only [semW_bind', semW_getObj]
        refine ⟨_, hb, rfl, ?_⟩
        rw [semW_bind']
        refine checkKey_sound hk ?_
        rw [semW_bind']
        refine findKey_sound hk hl ?_
        have h6 := HK _ hK
        unfold mdel at h6
        cases hf : mfind k es.toList 0 with
        | none =>
          rw [hf] at h6
          simp only [semW_bind', semW_setObj]
          exact ⟨⟨_, hb, rfl⟩, h6⟩
        | some p =>
          obtain ⟨i, u⟩ := p
          rw [hf] at h6
          simp only [semW_bind', semW_setObj]
          exact ⟨⟨_, hb, rfl⟩, h6⟩
      · exact H.elim
    · exact H.elim
  · exact H.elim

/-! m[k] op= v: the entry is met, then written -/
def ment (k : Value) (es : Array MapEntry) (clock : Nat) (z : Value) : Value × Nat × Obj :=
  match mfind k es.toList 0 with
  | some (i, v) => (v, ((es[i]?).map (·.born)).getD 0, .map (es.modify i fun e => { e with key := k }) clock)
  | none => (z, clock, .map (es.push { key := k, val := z, born := clock }) (clock + 1))
def mentW (P : Program) (t : TypeId) (m k : Value) (h : Hp) (K : Value → Hp → Prop) : Prop :=
  match P.underlying t, m with
  | some (.map kt et), .map r => match P.underlying kt, zeroOf P et with
    | some _, some z => match kindKT P kt k with
      | true => ∃ b es clock, r = some b ∧ h[b]? = some (.map es clock) ∧ KeysLike k es ∧
          exT (tyOf z) fun v => (ment k es clock z).1 = v ∧ K (.tuple #[v, .int .i64 (ment k es clock z).2.1]) (h.setIfInBounds b (ment k es clock z).2.2)
      | false => False
    | _, _ => False
  | _, _ => False
theorem mentW_sound {t : TypeId} {m k : Value} {K : Value → Hp → Prop} (H : mentW P t m k h K) : semW P (Instr.mapEntry t m k) h K := by
  unfold mentW at H
  split at H
  · rename_i kt et r ht
    split at H
    · rename_i kd z hkt hz
      split at H
      · rename_i hk
        obtain ⟨b, es, clock, rfl, hb, hl, h3⟩ := H
        obtain ⟨v, h4, h5⟩ := exT_ex h3
        unfold Instr.mapEntry
        simp only [semW_bind', semW_underlying]
        refine ⟨_, ht, ?_⟩
        simp only [semW_bind', semW_getObj]
        refine ⟨_, hb, rfl, ?_⟩
        rw [semW_bind']
        refine checkKey_sound hk ?_
        rw [semW_bind']
        refine findKey_sound hk hl ?_
        unfold ment at h4 h5
        cases hf : mfind k es.toList 0 with
        | none =>
          rw [hf] at h4 h5
          simp only [semW_bind', semW_zeroValue]
          refine ⟨z, hz, ?_⟩
          simp only [semW_setObj, semW_pure]
          subst h4
          exact ⟨⟨_, hb, rfl⟩, h5⟩
        | some p =>
          obtain ⟨i, u⟩ := p
          rw [hf] at h4 h5
          obtain ⟨e, h7, _, h8, _⟩ := mfind_key _ _ _ _ hf
          have h7' : es[i]? = some e := by simpa using h7
          have h9 : (es[i]?).map (·.key) = some e.key := by rw [h7']; rfl
          have h10 : likeK k e.key = true := hl e (Array.mem_toList_iff.2 (Array.mem_of_getElem? h7'))
          simp only [semW_bind', Instr.keyThatStays, h9, Option.getD_some, sameBits_of h10 h8, if_true, semW_pure, semW_setObj]
          subst h4
          refine ⟨⟨_, hb, rfl⟩, ?_⟩
          simp only [h7', Option.map_some, Option.getD_some] at h5 ⊢
          exact h5
      · exact H.elim
    · exact H.elim
  · exact H.elim
def msto (v : Value) (n : Int) (es : Array MapEntry) : Option (Array MapEntry) :=
  match es.findIdx? (fun e => (e.born : Int) == n) with
  | some i => some (es.modify i fun e => { e with val := v })
  | none => none
def mstoW (m s v : Value) (h : Hp) (K : Hp → Prop) : Prop :=
  match m, s with
  | .map r, .int _ n => ∃ b es clock es', r = some b ∧ h[b]? = some (.map es clock) ∧ msto v n es = some es' ∧ K (h.setIfInBounds b (.map es' clock))
  | _, _ => False
theorem mstoW_sound {t : TypeId} {m s v : Value} {K : Hp → Prop} {K' : Unit → Hp → Prop} (H : mstoW m s v h K) (HK : ∀ h', K h' → K' () h') : semW P (Instr.entryStore t m s v) h K' := by
  unfold mstoW at H
  split at H
  · rename_i r k n
    obtain ⟨b, es, clock, es', rfl, hb, hs, hK⟩ := H
    unfold Instr.entryStore
    simp only [semW_bind', semW_getObj]
    refine ⟨_, hb, rfl, ?_⟩
    simp only [asInt, asIntOf, semW_bind', semW_pure]
    unfold msto at hs
    split at hs
    · rename_i i hi
      simp only [hi, semW_setObj]
      simp at hs
      subst hs
      exact ⟨⟨_, hb, rfl⟩, HK _ hK⟩
    · cases hs
  · exact H.elim
end
end Go.Lift
namespace Go.Lift
section
variable {P : Program} {h : Hp}

/-! ### facts of a load, to be shown anew where the order is open -/
def ldLF (h : Hp) (a : Addr) : Nat → List CT → (List Value → List (Hp → Prop) → Prop) → Prop
  | _, [], K => K [] []
  | i, t :: ts, K => exC t fun v => rd h (a.add i) = some v ∧ ldLF h a (i + 1) ts fun vs fs => K (v :: vs) ((fun h' => rd h' (a.add i) = some v) :: fs)
def ldF (P : Program) (t : TypeId) (a : Addr) (h : Hp) (K : Value → List (Hp → Prop) → Prop) : Prop :=
  match lay P t with
  | some (.c ct) => exC ct fun v => rd h a = some v ∧ K v [fun h' => rd h' a = some v]
  | some (.agg ts) => ldLF h a 0 ts fun vs fs => K (.agg vs.toArray) fs
  | none => False
def allF (fs : List (Hp → Prop)) (h : Hp) : Prop := ∀ f ∈ fs, f h
theorem allF_nil : allF [] h := fun f hf => by simp at hf
theorem allF_cons {f : Hp → Prop} {fs : List (Hp → Prop)} {h : Hp} : allF (f :: fs) h ↔ f h ∧ allF fs h := by simp [allF]
theorem allF_one {f : Hp → Prop} {h : Hp} : allF [f] h ↔ f h := by simp [allF]
theorem ldLF_spec (a : Addr) (ts : List CT) : ∀ (i : Nat) (K : List Value → List (Hp → Prop) → Prop), ldLF h a i ts K →
    ∃ vs fs, K vs fs ∧ allF fs h ∧ ∀ h', allF fs h' → ∀ (acc : Array Value) (K' : Array Value → Hp → Prop), K' (acc ++ vs.toArray) h' → semR P (loadCellsFrom a i ts.length acc) h' K' := by
  induction ts with
  | nil => intro i K H; exact ⟨[], [], H, fun f hf => by simp at hf, fun h' _ acc K' hK => by simp at hK; exact hK⟩
  | cons t ts ih =>
    intro i K H
    obtain ⟨v, h1, h2⟩ := exC_ex H
    obtain ⟨vs, fs, h3, h4, h5⟩ := ih (i + 1) _ h2
    refine ⟨_, _, h3, allF_cons.2 ⟨h1, h4⟩, fun h' hf acc K' hK => ?_⟩
    · simp only [List.length_cons, loadCellsFrom, semR_bind']
      refine ⟨v, (allF_cons.1 hf).1, h5 h' (allF_cons.1 hf).2 (acc.push v) K' ?_⟩
      simpa using hK
theorem ldF_spec {t : TypeId} {a : Addr} {K : Value → List (Hp → Prop) → Prop} (H : ldF P t a h K) :
    ∃ v fs, K v fs ∧ allF fs h ∧ ∀ h', allF fs h' → ∀ (K' : Value → Hp → Prop), K' v h' → semR P (loadVar t a) h' K' := by
  unfold ldF at H
  cases hl : lay P t with
  | none => rw [hl] at H; exact H.elim
  | some ty =>
    obtain ⟨d, z, n, h1, h2, h3, h4, h5, h6⟩ := lay_spec hl
    rw [hl] at H
    cases hz : isAggV z with
    | true =>
      cases z <;> simp only [isAggV, Bool.false_eq_true] at hz
      rename_i cs
      simp only [tyOf] at h6
      subst h6
      obtain ⟨vs, fs, g1, g2, g3⟩ := ldLF_spec (P := P) a _ 0 _ H
      refine ⟨_, fs, g1, g2, fun h' hf K' hK => ?_⟩
      unfold loadVar
      simp only [semR_bind', semR_isAgg]
      refine ⟨d, h1, ?_⟩
      simp only [h4, isAggV, if_true, semR_bind', semR_sizeOf, semR_pure]
      refine ⟨n, h3, ?_⟩
      have : n = (cs.toList.map ctOf).length := by simpa [Value.cells] using h5.symm
      rw [this]
      exact g3 h' hf #[] _ (by simpa using hK)
    | false =>
      have : ∃ ct, ty = .c ct := by cases z <;> simp [isAggV] at hz <;> exact ⟨_, h6⟩
      obtain ⟨ct, rfl⟩ := this
      obtain ⟨v, g1, g2⟩ := exC_ex H
      refine ⟨v, _, g2, allF_one.2 g1, fun h' hf K' hK => ?_⟩
      unfold loadVar
      simp only [semR_bind', semR_isAgg]
      refine ⟨d, h1, ?_⟩
      simp only [h4, hz, Bool.false_eq_true, if_false]
      exact ⟨v, (allF_one.1 hf), hK⟩

def lookF (P : Program) (t : TypeId) (m k : Value) (ok : Bool) (h : Hp) (K : Value → List (Hp → Prop) → Prop) : Prop :=
  match P.underlying t, m with
  | some (.map kt et), .map r => match P.underlying kt, zeroOf P et with
    | some _, some z => match kindKT P kt k with
      | true => ∃ es, mapAt h r es ∧ KeysLike k es ∧ exF (tyOf z) fun v => mgetD k es z = v ∧ K (lkV ok v (mhas k es)) [fun h' => ∃ es', mapAt h' r es' ∧ KeysLike k es' ∧ lkV ok (mgetD k es' z) (mhas k es') = lkV ok v (mhas k es)]
      | false => False
    | _, _ => False
  | _, _ => False
theorem lookF_spec {t : TypeId} {m k : Value} {ok : Bool} {K : Value → List (Hp → Prop) → Prop} (H : lookF P t m k ok h K) :
    ∃ v fs, K v fs ∧ allF fs h ∧ ∀ h', allF fs h' → ∀ (K' : Value → Hp → Prop), K' v h' → semR P (Instr.lookup t m k ok) h' K' := by
  unfold lookF at H
  split at H
  · rename_i kt et r ht
    split at H
    · rename_i kd z hkt hz
      split at H
      · rename_i hk
        obtain ⟨es, h1, h2, h3⟩ := H
        obtain ⟨v, h4, h5⟩ := exF_ex h3
        refine ⟨_, _, h5, allF_one.2 ⟨es, h1, h2, by rw [h4]⟩, fun h' hf K' hK => ?_⟩
        obtain ⟨es', h1', h2', h3'⟩ := allF_one.1 hf
        have hmg : mgetD k es' z = v := by
          unfold lkV at h3'
          split at h3'
          · simp at h3'; exact h3'.1
          · exact h3'
        refine lookW_sound (h := h') (K := fun u => u = lkV ok v (mhas k es)) ?_ (fun u hu => by subst hu; exact hK)
        unfold lookW
        simp only [ht, hkt, hz, hk]
        refine ⟨es', h1', h2', ?_⟩
        clear h5 hK hf
        generalize tyOf z = ty at h3 ⊢
        rw [hmg]
        refine exF_mono h3 fun u hu => ⟨by rw [← h4, hu.1], ?_⟩
        have : v = u := by rw [← h4, hu.1]
        rw [← this, ← h3', hmg]
      · exact H.elim
    · exact H.elim
  · exact H.elim

/-! ### lengths, conversions, small builtins -/
def lenF (P : Program) (t : TypeId) (x : Value) (h : Hp) (K : Value → List (Hp → Prop) → Prop) : Prop :=
  match P.underlying t, x with
  | some .string, .string s => K (.int .i64 s.size) []
  | some (.slice _), .slice _ n _ => K (.int .i64 n) []
  | some (.array n _), _ => K (.int .i64 n) []
  | some (.map _ _), .map r => ∃ es, mapAt h r es ∧ K (.int .i64 es.size) [fun h' => mapAt h' r es]
  | _, _ => False
theorem lenF_spec {t ty : TypeId} {ts : Array TypeId} (hts : ts[0]? = some t) {x : Value} {K : Value → List (Hp → Prop) → Prop} (H : lenF P t x h K) :
    ∃ v fs, K v fs ∧ allF fs h ∧ ∀ h', allF fs h' → ∀ (K' : Value → Hp → Prop), K' v h' → semR P (Builtin.len_ ts ty #[x]) h' K' := by
  unfold lenF at H
  unfold Builtin.len_
  simp only [hts, List.getElem?_toArray, List.getElem?_cons_zero]
  split at H
  · rename_i s ht
    refine ⟨_, _, H, allF_nil, fun h' _ K' hK => ?_⟩
    simp only [semR_bind', semR_underlying]
    exact ⟨_, ht, hK⟩
  · rename_i e a n c ht
    refine ⟨_, _, H, allF_nil, fun h' _ K' hK => ?_⟩
    simp only [semR_bind', semR_underlying]
    exact ⟨_, ht, hK⟩
  · rename_i n e ht
    refine ⟨_, _, H, allF_nil, fun h' _ K' hK => ?_⟩
    simp only [semR_bind', semR_underlying]
    exact ⟨_, ht, hK⟩
  · rename_i k e r ht
    obtain ⟨es, h1, h2⟩ := H
    refine ⟨_, _, h2, allF_one.2 h1, fun h' hf K' hK => ?_⟩
    have h1' : mapAt h' r es := (allF_one.1 hf)
    simp only [semR_bind', semR_underlying]
    refine ⟨_, ht, ?_⟩
    rcases h1' with ⟨rfl, rfl⟩ | ⟨b, clock, rfl, h1'⟩
    · exact hK
    · simp only [semR_bind', semR_getObj]
      exact ⟨_, h1', rfl, hK⟩
  · exact H.elim
def capV (P : Program) (t : TypeId) (x : Value) (K : Value → Prop) : Prop :=
  match P.underlying t, x with
  | some (.slice _), .slice _ _ c => K (.int .i64 c)
  | _, _ => False
theorem capV_sound {t ty : TypeId} {ts : Array TypeId} (hts : ts[0]? = some t) {x : Value} {K : Value → Prop} {K' : Value → Hp → Prop} (H : capV P t x K) (HK : ∀ v, K v → K' v h) : semR P (Builtin.cap_ ts ty #[x]) h K' := by
  unfold capV at H
  unfold Builtin.cap_
  simp only [hts, List.getElem?_toArray, List.getElem?_cons_zero]
  split at H
  · rename_i e a n c ht
    simp only [semR_bind', semR_underlying]
    exact ⟨_, ht, HK _ H⟩
  · exact H.elim
def mnI (x y : Int) : Int := if y < x then y else x
def mxI (x y : Int) : Int := if y > x then y else x
def minV (x y : Value) (K : Value → Prop) : Prop := match x, y with | .int k a, .int _ b => K (.int k (mnI a b)) | _, _ => False
def maxV (x y : Value) (K : Value → Prop) : Prop := match x, y with | .int k a, .int _ b => K (.int k (mxI a b)) | _, _ => False
theorem minV_sound {ts : Array TypeId} {ty : TypeId} {x y : Value} {K : Value → Prop} {K' : Value → Hp → Prop} (H : minV x y K) (HK : ∀ v, K v → K' v h) : semR P (Builtin.min_ ts ty #[x, y]) h K' := by
  unfold minV at H
  split at H
  · exact HK _ H
  · exact H.elim
theorem maxV_sound {ts : Array TypeId} {ty : TypeId} {x y : Value} {K : Value → Prop} {K' : Value → Hp → Prop} (H : maxV x y K) (HK : ∀ v, K v → K' v h) : semR P (Builtin.max_ ts ty #[x, y]) h K' := by
  unfold maxV at H
  split at H
  · exact HK _ H
  · exact H.elim

/-- Of three. -/
def min3V (x y z : Value) (K : Value → Prop) : Prop := match x, y, z with | .int k a, .int _ b, .int _ c => K (.int k (mnI (mnI a b) c)) | _, _, _ => False
def max3V (x y z : Value) (K : Value → Prop) : Prop := match x, y, z with | .int k a, .int _ b, .int _ c => K (.int k (mxI (mxI a b) c)) | _, _, _ => False
theorem min3V_sound {ts : Array TypeId} {ty : TypeId} {x y z : Value} {K : Value → Prop} {K' : Value → Hp → Prop} (H : min3V x y z K) (HK : ∀ v, K v → K' v h) : semR P (Builtin.min_ ts ty #[x, y, z]) h K' := by
  unfold min3V at H
  split at H
  · exact HK _ H
  · exact H.elim
theorem max3V_sound {ts : Array TypeId} {ty : TypeId} {x y z : Value} {K : Value → Prop} {K' : Value → Hp → Prop} (H : max3V x y z K) (HK : ∀ v, K v → K' v h) : semR P (Builtin.max_ ts ty #[x, y, z]) h K' := by
  unfold max3V at H
  split at H
  · exact HK _ H
  · exact H.elim

def bytesAt (h : Hp) (a : Option Addr) (n : Nat) (s : ByteArray) : Prop :=
  match a with
  | none => s = ByteArray.empty
  | some a => s.size = n ∧ ∀ i, i < n → rd h (a.add i) = some (.int .u8 ((s.data.toList.getD i 0).toNat : Int))
def cvF (P : Program) (src dst : TypeId) (x : Value) (h : Hp) (K : Value → List (Hp → Prop) → Prop) : Prop :=
  match P.underlying src, P.underlying dst, x with
  | some _, some (.int k), .int _ n => K (.int k (k.wrap n)) []
  | some _, some .string, .string s => K (.string s) []
  | some (.slice e), some .string, .slice a n _ => match P.underlying e with
    | some (.int .u8) => ∃ s, bytesAt h a n s ∧ K (.string s) [fun h' => bytesAt h' a n s]
    | _ => False
  | _, _, _ => False
theorem pushAll_sound : ∀ (cs : List UInt8) (acc : ByteArray) (K' : ByteArray → Hp → Prop), K' ⟨acc.data ++ cs.toArray⟩ h →
    semR P (forIn (cs.map fun c => Value.int .u8 (c.toNat : Int)) acc (fun c (r : ByteArray) => do
      let .int .u8 n := c | stuck "bytesToString: byte expected"
      pure PUnit.unit
      pure (ForInStep.yield (r.push (UInt8.ofNat n.toNat))))) h K'
  | [], acc, K', H => by simp at H; simp only [List.map_nil, List.forIn_nil]; exact H
  | c :: cs, acc, K', H => by
    simp only [List.map_cons, List.forIn_cons, semR_bind', semR_pure]
    refine pushAll_sound cs _ K' ?_
    have : UInt8.ofNat (Int.toNat (c.toNat : Int)) = c := by simp
    rw [this]
    simpa [ByteArray.push] using H
theorem bytesAt_loads {a : Addr} {n : Nat} {s : ByteArray} (H : bytesAt h (some a) n s) (K' : Array Value → Hp → Prop) (HK : K' (s.data.toList.map fun c => Value.int .u8 (c.toNat : Int)).toArray h) : semR P (loadCells a n) h K' := by
  obtain ⟨h1, h2⟩ := H
  have key : ∀ (m i : Nat) (acc : Array Value), i + m = n → K' (acc ++ ((s.data.toList.drop i).map fun c => Value.int .u8 (c.toNat : Int)).toArray) h → semR P (loadCellsFrom a i m acc) h K' := by
    intro m
    induction m with
    | zero =>
      intro i acc hi hK
      have : s.data.toList.drop i = [] := by apply List.drop_eq_nil_of_le; have : s.data.toList.length = s.size := Array.length_toList
                                             omega
      rw [this] at hK
      simp at hK
      exact hK
    | succ m ih =>
      intro i acc hi hK
      simp only [loadCellsFrom, semR_bind']
      refine ⟨_, h2 i (by omega), ?_⟩
      refine ih (i + 1) _ (by omega) ?_
      have hlt : i < s.data.toList.length := by have : s.data.toList.length = s.size := Array.length_toList
                                                omega
      rw [List.drop_eq_getElem_cons hlt] at hK
      have e : s.data.toList.getD i 0 = s.data.toList[i] := by simp [List.getD_eq_getElem?_getD, List.getElem?_eq_getElem hlt]
      rw [e]
      simpa using hK
  unfold loadCells
  exact key n 0 #[] (by omega) (by simpa using HK)
theorem cvF_spec {src dst : TypeId} {x : Value} {K : Value → List (Hp → Prop) → Prop} (H : cvF P src dst x h K) :
    ∃ v fs, K v fs ∧ allF fs h ∧ ∀ h', allF fs h' → ∀ (K' : Value → Hp → Prop), K' v h' → semR P (convert src dst x) h' K' := by
  unfold cvF at H
  split at H
  · rename_i d k k' n h1 h2
    refine ⟨_, _, H, allF_nil, fun h' _ K' hK => ?_⟩
    unfold convert
    simp only [semR_bind', semR_underlying]
    refine ⟨_, h1, _, h2, ?_⟩
    exact hK
  · rename_i d s h1 h2
    refine ⟨_, _, H, allF_nil, fun h' _ K' hK => ?_⟩
    unfold convert
    simp only [semR_bind', semR_underlying]
    exact ⟨_, h1, _, h2, hK⟩
  · rename_i e a n c h1 h2
    split at H
    · rename_i h3
      obtain ⟨s, g1, g2⟩ := H
      refine ⟨_, _, g2, allF_one.2 g1, fun h' hf K' hK => ?_⟩
      have g1' : bytesAt h' a n s := (allF_one.1 hf)
      unfold convert
      simp only [semR_bind', semR_underlying]
      refine ⟨_, h1, _, h2, ?_⟩
      cases a with
      | none =>
        simp only [semR_bind', semR_underlying]
        refine ⟨_, h3, ?_⟩
        simp only [bytesAt] at g1'
        subst g1'
        exact hK
      | some a =>
        simp only [semR_bind', semR_underlying]
        refine ⟨_, h3, ?_⟩
        unfold Conv.bytesToString
        simp only [semR_bind']
        refine bytesAt_loads g1' _ ?_
        have := pushAll_sound (P := P) (h := h') s.data.toList ByteArray.empty (fun r h'' => K' (.string r) h'') (by
          have e : (⟨ByteArray.empty.data ++ s.data.toList.toArray⟩ : ByteArray) = s := by
            cases s with
            | mk d => show (⟨#[] ++ d.toList.toArray⟩ : ByteArray) = _; simp
          rw [e]; exact hK)
        simp only [List.forIn_toArray, List.size_toArray]
        exact this
    · exact H.elim
  · exact H.elim
end
end Go.Lift

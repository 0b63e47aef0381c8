/- Locks: the table; who waits, and who has what. -/
import Derived.Test.YtgobalogbijliaaW06c
import Derived.Test.YtgobalogbijliaaLvV
set_option linter.unusedSimpArgs false
set_option linter.unusedVariables false
namespace Go.Lift
open Go Go.Proofs
set_option maxRecDepth 100000
abbrev TM := List (ByteArray × QM)
structure TabAt (lo : Nat) (h : Hp) (t mb : Nat) (C : List (ByteArray × QC)) : Prop where
  blk : Blk h t #[.map (some mb)] T_lock_Table
  names : IsMap encStV evPt h mb (amap QC.q C)
  nd : (C.map Prod.fst).Nodup
  qs : ∀ n c, afind C n = some c → QAt lo h c
  sep : ∀ n n' c c', afind C n = some c → afind C n' = some c' → n ≠ n' → ∀ b, Fq c b → ¬ Fq c' b
  smb : ∀ n c, afind C n = some c → c.hs ≠ mb
  lot : lo ≤ t
  lom : lo ≤ mb
/-- The blocks of a table. -/
def Ft (t mb : Nat) (C : List (ByteArray × QC)) (b : Nat) : Prop := b = t ∨ b = mb ∨ ∃ n c, afind C n = some c ∧ Fq c b
structure TOk (T : TM) : Prop where
  q : ∀ n q, afind T n = some q → QOk q ∧ (q.has ≠ [] ∨ q.waits ≠ []) ∧ n.size ≤ 8
  nd : (T.map Prod.fst).Nodup
  one : ∀ n n' q q' r r', afind T n = some q → afind T n' = some q' → r ∈ q.waits → r' ∈ q'.waits → r.1 = r'.1 → n = n'
/-- What a holder waits for. -/
def waitsT : TM → Int → Option (ByteArray × Int)
  | [], _ => none
  | (n, q) :: T, k => match q.waits.find? (fun r => r.1 == k) with
    | some r => some (n, r.2)
    | none => waitsT T k
theorem afind_of_mem {K V : Type} [DecidableEq K] {T : List (K × V)} (hn : (T.map Prod.fst).Nodup) {n : K} {q : V} (hm : (n, q) ∈ T) : afind T n = some q := by
  induction T with
  | nil => cases hm
  | cons p T ih =>
    obtain ⟨a, u⟩ := p
    rw [List.map_cons, List.nodup_cons] at hn
    simp only [afind]
    rcases List.mem_cons.1 hm with g | g
    · cases g; simp
    · have : n ≠ a := fun e => hn.1 (e ▸ List.mem_map.2 ⟨_, g, rfl⟩)
      rw [if_neg this]
      exact ih hn.2 g
theorem waitsT_none {T : TM} {k : Int} : waitsT T k = none ↔ ∀ p ∈ T, ∀ r ∈ p.2.waits, r.1 ≠ k := by
  induction T with
  | nil => simp [waitsT]
  | cons p T ih =>
    obtain ⟨n, q⟩ := p
    unfold waitsT
    cases hf : q.waits.find? (fun r => r.1 == k) with
    | none =>
      simp only
      rw [ih]
      rw [List.find?_eq_none] at hf
      constructor
      · intro h p hp
        rcases List.mem_cons.1 hp with rfl | hp
        · intro r hr e; exact hf r hr (by simpa using e)
        · exact h p hp
      · intro h p hp
        exact h p (List.mem_cons_of_mem _ hp)
    | some r =>
      simp only [reduceCtorEq, false_iff]
      intro h
      have h1 := List.mem_of_find?_eq_some hf
      have h2 := List.find?_some hf
      exact h (n, q) (by simp) r h1 (by simpa using h2)
theorem waitsT_some {T : TM} {k : Int} {n : ByteArray} {m : Int} (h : waitsT T k = some (n, m)) : ∃ q, (n, q) ∈ T ∧ (k, m) ∈ q.waits := by
  induction T with
  | nil => cases h
  | cons p T ih =>
    obtain ⟨a, q⟩ := p
    unfold waitsT at h
    cases hf : q.waits.find? (fun r => r.1 == k) with
    | none =>
      rw [hf] at h
      obtain ⟨q', h1, h2⟩ := ih h
      exact ⟨q', List.mem_cons_of_mem _ h1, h2⟩
    | some r =>
      rw [hf] at h
      cases h
      have h1 := List.mem_of_find?_eq_some hf
      have h2 := List.find?_some hf
      have : r.1 = k := by simpa using h2
      subst this
      exact ⟨q, by simp, h1⟩
theorem pair_once {W : List (Int × Int)} (hn : (W.map Prod.fst).Nodup) {k m m' : Int} (h1 : (k, m) ∈ W) (h2 : (k, m') ∈ W) : m = m' := by
  have g1 := afind_of_mem hn h1
  have g2 := afind_of_mem hn h2
  rw [g1] at g2
  exact Option.some.inj g2
/-- Where one waits is told. -/
theorem waitsT_of {T : TM} (hT : TOk T) {k m : Int} {n : ByteArray} {q : QM} (hf : afind T n = some q) (hm : (k, m) ∈ q.waits) : waitsT T k = some (n, m) := by
  cases hw : waitsT T k with
  | none => exact absurd rfl (waitsT_none.1 hw (n, q) (afind_mem hf) (k, m) hm)
  | some x =>
    obtain ⟨n', m'⟩ := x
    obtain ⟨q', h1, h2⟩ := waitsT_some hw
    have hf' := afind_of_mem hT.nd h1
    have hn := hT.one n n' q q' (k, m) (k, m') hf hf' hm h2 rfl
    subst hn
    rw [hf] at hf'
    cases hf'
    rw [pair_once (hT.q n q hf).1.once hm h2]
def hasT (T : TM) (n : ByteArray) : List (Int × Nat) := match afind T n with | some q => q.has | none => []
def waitT (T : TM) (n : ByteArray) : List (Int × Int) := match afind T n with | some q => q.waits | none => []
/-- Which modes one has of a name. -/
def modesT (T : TM) (k : Int) (n : ByteArray) : Nat := hasM (hasT T n) k
/-- For whom one waits. -/
def forT (T : TM) (k : Int) : List Int := match waitsT T k with
  | none => []
  | some (n, m) => barsQ (hasT T n) ((waitT T n).takeWhile fun r => r.1 != k) k m
def namesT (T : TM) : List ByteArray := sortS (T.map Prod.fst)
theorem nodup_sub_len {L M : List Int} (hn : L.Nodup) (hs : ∀ x ∈ L, x ∈ M) : L.length ≤ M.length := by
  induction L generalizing M with
  | nil => simp
  | cons x L ih =>
    rw [List.nodup_cons] at hn
    have hx := hs x (by simp)
    have := ih hn.2 (M := M.erase x) fun y hy => by
      have hne : y ≠ x := fun e => hn.1 (e ▸ hy)
      exact (List.mem_erase_of_ne hne).2 (hs y (List.mem_cons_of_mem _ hy))
    rw [List.length_erase_of_mem hx] at this
    have := List.length_pos_of_mem hx
    simp only [List.length_cons]
    omega
theorem len200 {L : List Int} (hn : L.Nodup) (hs : ∀ x ∈ L, 1 ≤ x ∧ x ≤ 200) : L.length ≤ 200 := by
  have := nodup_sub_len hn (M := (List.range 200).map fun (i : Nat) => (i : Int) + 1) fun x hx => by
    have := hs x hx
    rw [List.mem_map]
    exact ⟨(x - 1).toNat, List.mem_range.2 (by omega), by omega⟩
  simpa using this
theorem QOk.lenH {m : QM} (h : QOk m) : m.has.length ≤ 200 := by
  have := len200 h.nd fun x hx => by
    obtain ⟨p, hp, rfl⟩ := List.mem_map.1 hx
    exact h.hold p hp
  simpa using this
theorem QOk.lenW {m : QM} (h : QOk m) : m.waits.length ≤ 200 := by
  have := len200 h.once fun x hx => by
    obtain ⟨p, hp, rfl⟩ := List.mem_map.1 hx
    exact (h.wait p hp).1
  simpa using this
theorem takeWhile_at {W : List (Int × Int)} {k : Int} {i : Nat} (hi : i < W.length) (h1 : W[i].1 = k) (h2 : ∀ j (hj : j < W.length), j < i → W[j].1 ≠ k) : W.takeWhile (fun r => r.1 != k) = W.take i := by
  induction W generalizing i with
  | nil => simp at hi
  | cons a W ih =>
    cases i with
    | zero =>
      simp only [List.getElem_cons_zero] at h1
      simp [h1]
    | succ i =>
      have h0 := h2 0 (by simp) (by omega)
      simp only [List.getElem_cons_zero] at h0
      rw [List.takeWhile_cons, if_pos (by simpa using h0), List.take_succ_cons, ih (by simpa using hi) (by simpa using h1) fun j hj hji => by have := h2 (j + 1) (by simpa using hj) (by omega); simpa using this]
section
variable {lo : Nat} {h : Hp} {t mb : Nat} {C : List (ByteArray × QC)} {Q : List Value → Hp → Prop}
theorem QAt.ext0 {h' : Hp} {c : QC} (hq : QAt lo h c) (he : Ext [] h h') : QAt lo h' c := ⟨he.get hq.blk (by simp), hq.has.ext he (by simp), hq.waits.ext0 he, hq.loq, hq.loh⟩
theorem QAt.extF {h' : Hp} {c : QC} {S : List Nat} (hq : QAt lo h c) (he : Ext S h h') (hS : ∀ b, Fq c b → b ∉ S) : QAt lo h' c :=
  ⟨he.get hq.blk (hS _ (Or.inl rfl)), hq.has.ext he (hS _ (Or.inr (Or.inl rfl))), hq.waits.ext he fun a ha => hS _ (Or.inr (Or.inr (mem_sBlk.2 ⟨a, ha, rfl⟩))), hq.loq, hq.loh⟩
theorem QAt.lt {c : QC} (hq : QAt lo h c) {b : Nat} (hb : Fq c b) : lo ≤ b ∧ b < h.size := by
  rcases hb with rfl | rfl | hb
  · exact ⟨hq.loq, blk_lt hq.blk⟩
  · exact ⟨hq.loh, hq.has.lt⟩
  · exact own_ltG hq.waits b hb
theorem TabAt.extF {h' : Hp} {S : List Nat} (hT : TabAt lo h t mb C) (he : Ext S h h') (hS : ∀ b, Ft t mb C b → b ∉ S) : TabAt lo h' t mb C :=
  ⟨he.get hT.blk (hS _ (Or.inl rfl)), hT.names.ext he (hS _ (Or.inr (Or.inl rfl))), hT.nd, fun n c hf => (hT.qs n c hf).extF he fun b hb => hS b (Or.inr (Or.inr ⟨n, c, hf, hb⟩)), hT.sep, hT.smb, hT.lot, hT.lom⟩
theorem TabAt.ext0 {h' : Hp} (hT : TabAt lo h t mb C) (he : Ext [] h h') : TabAt lo h' t mb C := hT.extF he fun _ _ => by simp
theorem TabAt.lt (hT : TabAt lo h t mb C) {b : Nat} (hb : Ft t mb C b) : lo ≤ b ∧ b < h.size := by
  rcases hb with rfl | rfl | ⟨n, c, hf, hb⟩
  · exact ⟨hT.lot, blk_lt hT.blk⟩
  · exact ⟨hT.lom, hT.names.lt⟩
  · exact (hT.qs n c hf).lt hb
/-- The table's entry for a name. -/
theorem tab_get (hT : TabAt lo h t mb C) (n : ByteArray) : ∃ es, mapAt h (some mb) es ∧ KeysLike (.string n) es ∧ ∃ p : Option Addr, mgetD (.string n) es (.pointer none) = .pointer p ∧ p = (afind C n).map fun c => ⟨c.q, 0, none⟩ := by
  obtain ⟨es, h1, h2⟩ := hT.names.mapAt
  refine ⟨es, h1, keysLike_ents h2 n, ?_⟩
  rw [mgetD_ents h2 n, afind_amap]
  cases afind C n with
  | none => exact ⟨none, rfl, rfl⟩
  | some c => exact ⟨_, rfl, rfl⟩
theorem IndexF_s {f : Nat} {x : Nat} {k : Int} (hf : ∀ (a b : Int) (h : Hp) (Q : List Value → Hp → Prop), Blk h x #[.int .i64 k] T_int → (∀ h', Ext [] h h' → Q [.bool (a == k)] h') → Fn PP f ((#[] ++ #[.agg #[.int .i64 a, .int .i64 b]]) ++ #[.pointer (some ⟨x, 0, none⟩)]) h Q)
    {s : Sl} {xs : List (Int × Int)} (hs : Reads 2 encR h s xs) (bx : Blk h x #[.int .i64 k] T_int) (hl : xs.length ≤ 2 ^ 30)
    (h1 : (∀ r ∈ xs, r.1 ≠ k) → ∀ h', Ext [] h h' → Q [.int .i64 (-1)] h')
    (h2 : ∀ i (hi : i < xs.length), xs[i].1 = k → (∀ j (hj : j < xs.length), j < i → xs[j].1 ≠ k) → ∀ h', Ext [] h h' → Q [.int .i64 (i : Int)] h') :
    S_slices_IndexFunc_slock_request_lock_request s f #[.pointer (some ⟨x, 0, none⟩)] h Q := by
  refine O_slices_IndexFunc_slock_request_lock_request _ _ _ ?_
  unfold F_slices_IndexFunc_slock_request_lock_request
  have hn := hs.1
  intro X hX
  have key : ∀ d i g, d + i = xs.length → Ext [] h g → (∀ j (hj : j < xs.length), j < i → xs[j].1 ≠ k) → X [.int .i64 (i : Int)] g := by
    intro d
    induction d with
    | zero =>
      intro i g hi eg hall
      refine hX _ _ ?_
      rw [if_neg (by simp; omega)]
      refine h1 (fun r hr => ?_) g eg
      obtain ⟨j, hj, rfl⟩ := List.mem_iff_getElem.1 hr
      exact hall j hj (by omega)
    | succ d ih =>
      intro i g hi eg hall
      refine hX _ _ ?_
      rw [if_pos (by simp; omega)]
      have hil : i < xs.length := by omega
      obtain ⟨a, w1, w2, w3⟩ := rdR (hs.ext0 eg) hil
      rw [w1]
      simp only [nilW_some, Int.toNat_natCast]
      refine ⟨by omega, by omega, _, w2, _, w3, ?_⟩
      refine hf _ _ g _ (eg.get bx (by simp)) fun g1 e1 => ⟨_, rfl, ?_⟩
      have eg1 := eg.trans0 e1
      cases hb : (xs[i].1 == k) with
      | true =>
        rw [if_pos rfl]
        exact h2 i hil (by simpa using hb) hall g1 eg1
      | false =>
        rw [if_neg (by decide), wrap64 (by omega) (by omega)]
        have := ih (i + 1) g1 (by omega) eg1 fun j hj hji => by
          by_cases e : j = i
          · subst e; simpa using hb
          · exact hall j hj (by omega)
        simpa using this
  have := key xs.length 0 h (by omega) (Ext.refl _ _) (by omega)
  simpa using this
theorem fn53 {x : Nat} {k : Int} (a b : Int) (h : Hp) (Q : List Value → Hp → Prop) (bx : Blk h x #[.int .i64 k] T_int) (hQ : ∀ h', Ext [] h h' → Q [.bool (a == k)] h') : Fn PP 53 ((#[] ++ #[.agg #[.int .i64 a, .int .i64 b]]) ++ #[.pointer (some ⟨x, 0, none⟩)]) h Q := by
  refine O_lock_Table_waiting_1 a b ⟨x, 0, none⟩ ?_
  unfold F_lock_Table_waiting_1
  refine newI fun h1 s1 b1 e1 => ?_
  exact ⟨a, by simp [rd_blk b1], k, by rw [rd_blk (e1.get bx (by simp))]; rfl, hQ h1 e1⟩
theorem fn36 {x : Nat} {k : Int} (a b : Int) (h : Hp) (Q : List Value → Hp → Prop) (bx : Blk h x #[.int .i64 k] T_int) (hQ : ∀ h', Ext [] h h' → Q [.bool (a == k)] h') : Fn PP 36 ((#[] ++ #[.agg #[.int .i64 a, .int .i64 b]]) ++ #[.pointer (some ⟨x, 0, none⟩)]) h Q := by
  refine O_lock_Table_Release_1 a b ⟨x, 0, none⟩ ?_
  unfold F_lock_Table_Release_1
  refine newI fun h1 s1 b1 e1 => ?_
  exact ⟨a, by simp [rd_blk b1], k, by rw [rd_blk (e1.get bx (by simp))]; rfl, hQ h1 e1⟩
theorem waiting_s (hT : TabAt lo h t mb C) (hok : TOk (amap QC.m C)) (k : Int)
    (h1 : (∀ n c, afind C n = some c → ∀ r ∈ c.m.waits, r.1 ≠ k) → ∀ h', Ext [] h h' → Q [.string (ByteArray.mk #[]), .int .i64 0, .bool false] h')
    (h2 : ∀ n c i (hi : i < c.m.waits.length), afind C n = some c → c.m.waits[i].1 = k → (∀ j (hj : j < c.m.waits.length), j < i → c.m.waits[j].1 ≠ k) → ∀ h', Ext [] h h' → Q [.string n, .int .i64 (i : Int), .bool true] h') :
    S_lock_Table_waiting (some ⟨t, 0, none⟩) k h Q := by
  refine O_lock_Table_waiting _ _ ?_
  unfold F_lock_Table_waiting
  refine newI fun g1 s1 b1 e1 => ?_
  rw [if_neg (by simp)]
  simp only [nilW_some, addr_mk, rd_blk (e1.get hT.blk (by simp))]
  refine ⟨some mb, rfl, ?_⟩
  obtain ⟨o5, hit, hst⟩ := range_start (hT.names.ext e1 (by simp))
  refine ⟨o5, hit, newI fun h6 s6 b6 e6 => ?_⟩
  have e06 := e1.trans0 e6
  intro X hX
  have hlt := blk_lt hT.blk
  have hlm := hT.names.lt
  refine rangeI (ek := encStV) (ev := evPt) (T := amap QC.q C) (m := mb) hX (fun done g => Ext [] h g ∧ h6.size ≤ g.size ∧ Blk g h.size #[.int .i64 k] T_int ∧ (∀ p ∈ done, ∀ c, afind C p.1 = some c → ∀ r ∈ c.m.waits, r.1 ≠ k)) ?_ ?_ h6 [] ?_ (hst b6 e6)
  · intro done g hI hr hp
    refine h1 (fun n c hf => ?_) g hI.1
    have : (n, c.q) ∈ amap QC.q C := afind_mem (by rw [afind_amap, hf]; rfl)
    exact hI.2.2.2 _ (hp.mem_iff.2 this) c hf
  · intro done p g e g' hI hpr hek hev f1 u1 hr hnext
    obtain ⟨eg, zg, bg, hno⟩ := hI
    obtain ⟨rest, hperm⟩ := hpr
    have hpm : p ∈ amap QC.q C := hperm.mem_iff.1 (by simp)
    obtain ⟨⟨n, c⟩, hc, rfl⟩ := List.mem_map.1 hpm
    have hf : afind C n = some c := afind_of_mem hT.nd hc
    have eg' : Ext [] h g' := eg.trans f1 (by intro b hb hlt; simp at hb; omega)
    have bg' := f1.get bg (by simp; omega)
    have hq := (hT.qs n c hf).ext0 eg'
    have hQk := (hok.q n c.m (by rw [afind_amap, hf]; rfl)).1
    refine ⟨n, hek, _, hev, ?_⟩
    simp only [nilW_some, addr_mk, rd_blk hq.blk]
    refine ⟨c.ws, rfl, ?_⟩
    have hlw := hQk.lenW
    refine IndexF_s (f := 53) fn53 hq.waits.sl.reads bg' (by omega) (fun hall g2 e2 => ⟨_, rfl, ?_⟩) fun i hi hik hbef g2 e2 => ⟨_, rfl, ?_⟩
    · rw [if_neg (by decide)]
      have zz := e2.sz
      refine hnext g2 ⟨eg'.trans0 e2, by omega, e2.get bg' (by simp), fun p' hp' c' hf' => ?_⟩ (hr.ext e2 (by simp) (by simp))
      rcases List.mem_append.1 hp' with g3 | g3
      · exact hno p' g3 c' hf'
      · simp at g3
        subst g3
        rw [hf] at hf'
        cases hf'
        exact hall
    · rw [if_pos (by simp)]
      exact h2 n c i hi hf hik hbef g2 (eg'.trans0 e2)
  · exact ⟨e06, Nat.le_refl _, e6.get b1 (by simp), by simp⟩
theorem waits_none (hT : TabAt lo h t mb C) {k : Int} (hall : ∀ n c, afind C n = some c → ∀ r ∈ c.m.waits, r.1 ≠ k) : waitsT (amap QC.m C) k = none := by
  refine waitsT_none.2 fun p hp => ?_
  obtain ⟨⟨n, c⟩, hc, rfl⟩ := List.mem_map.1 hp
  exact hall n c (afind_of_mem hT.nd hc)
theorem Waits_s (hT : TabAt lo h t mb C) (hok : TOk (amap QC.m C)) (k : Int)
    (hQ : ∀ h', Ext [] h h' → Q (match waitsT (amap QC.m C) k with | none => [.string (ByteArray.mk #[]), .int .i64 0, .bool false] | some (n, m) => [.string n, .int .i64 m, .bool true]) h') : S_lock_Table_Waits (some ⟨t, 0, none⟩) k h Q := by
  refine O_lock_Table_Waits _ _ ?_
  unfold F_lock_Table_Waits
  refine waiting_s hT hok k (fun hall h1 e1 => ⟨_, _, _, rfl, ?_⟩) fun n c i hi hf hik hbef h1 e1 => ⟨_, _, _, rfl, ?_⟩
  · rw [if_pos (by decide)]
    have := hQ h1 e1
    rw [waits_none hT hall] at this
    exact this
  · rw [if_neg (by decide)]
    have hT1 := hT.ext0 e1
    simp only [nilW_some, addr_mk, rd_blk hT1.blk]
    refine ⟨some mb, rfl, ?_⟩
    obtain ⟨es, t1, t2, p, t3, t4⟩ := tab_get hT1 n
    refine ⟨es, t1, t2, p, t3, ?_⟩
    rw [hf] at t4
    subst t4
    have hq := hT1.qs n c hf
    simp only [Option.map_some, nilW_some, addr_mk, rd_blk hq.blk]
    refine ⟨c.ws, rfl, ?_⟩
    obtain ⟨a, w1, w2, w3⟩ := rdR hq.waits.sl.reads hi
    have hn := hq.waits.1
    rw [w1]
    simp only [nilW_some, Int.toNat_natCast]
    refine ⟨by omega, by omega, _, w3, ?_⟩
    have := hQ h1 e1
    have hm : (k, c.m.waits[i].2) ∈ c.m.waits := by
      have : (k, c.m.waits[i].2) = c.m.waits[i] := by rw [← hik]
      rw [this]
      exact List.getElem_mem hi
    rw [waitsT_of hok (n := n) (q := c.m) (by rw [afind_amap, hf]; rfl) hm] at this
    exact this
theorem Modes_s (hT : TabAt lo h t mb C) (k : Int) (n : ByteArray) (hQ : Q [.int .i64 (modesT (amap QC.m C) k n : Nat)] h) : S_lock_Table_Modes (some ⟨t, 0, none⟩) k n h Q := by
  refine O_lock_Table_Modes _ _ _ ?_
  unfold F_lock_Table_Modes
  intro J hJ
  rw [if_neg (by simp)]
  simp only [nilW_some, addr_mk, rd_blk hT.blk]
  refine ⟨some mb, rfl, ?_⟩
  obtain ⟨es, t1, t2, p, t3, t4⟩ := tab_get hT n
  refine ⟨es, t1, t2, p, t3, hJ _ _ ?_⟩
  have hmod : modesT (amap QC.m C) k n = match afind C n with | some c => hasM c.m.has k | none => 0 := by
    unfold modesT hasT
    rw [afind_amap]
    cases afind C n with
    | none => rfl
    | some c => rfl
  cases hf : afind C n with
  | none =>
    rw [hf] at t4 hmod
    subst t4
    rw [if_pos (by rfl)]
    rw [hmod] at hQ
    exact hQ
  | some c =>
    rw [hf] at t4 hmod
    subst t4
    rw [if_neg (by simp)]
    simp only [nilW_some, addr_mk, rd_blk hT.blk]
    refine ⟨some mb, rfl, ?_⟩
    obtain ⟨es, t1, t2, p, t3, t4⟩ := tab_get hT n
    refine ⟨es, t1, t2, p, t3, ?_⟩
    rw [hf] at t4
    subst t4
    have hq := hT.qs n c hf
    simp only [Option.map_some, nilW_some, addr_mk, rd_blk hq.blk]
    refine ⟨some c.hs, rfl, ?_⟩
    obtain ⟨es2, u1, u2, v, u3, u4⟩ := hasM_get hq.has k
    refine ⟨es2, u1, u2, v, u3, ?_⟩
    subst u4
    rw [hmod] at hQ
    exact hQ
theorem For_s (hT : TabAt lo h t mb C) (hok : TOk (amap QC.m C)) (k : Int)
    (hQ : ∀ h' s', Ext [] h h' → Own T_int 1 encIL h.size h' s' (forT (amap QC.m C) k) → Q [.slice s'.a s'.n s'.c] h') : S_lock_Table_For (some ⟨t, 0, none⟩) k h Q := by
  refine O_lock_Table_For _ _ ?_
  unfold F_lock_Table_For
  refine waiting_s hT hok k (fun hall h1 e1 => ⟨_, _, _, rfl, ?_⟩) fun n c i hi hf hik hbef h1 e1 => ⟨_, _, _, rfl, ?_⟩
  · rw [if_pos (by decide)]
    refine hQ h1 ⟨none, 0, 0⟩ e1 ?_
    unfold forT
    rw [waits_none hT hall]
    exact Own.nil _ _
  · rw [if_neg (by decide)]
    have hT1 := hT.ext0 e1
    simp only [nilW_some, addr_mk, rd_blk hT1.blk]
    refine ⟨some mb, rfl, ?_⟩
    obtain ⟨es, t1, t2, p, t3, t4⟩ := tab_get hT1 n
    refine ⟨es, t1, t2, p, t3, ?_⟩
    rw [hf] at t4
    subst t4
    have hq := hT1.qs n c hf
    have hQk := (hok.q n c.m (by rw [afind_amap, hf]; rfl)).1
    have hlw := hQk.lenW
    have hlh := hQk.lenH
    simp only [Option.map_some, nilW_some, addr_mk, rd_blk hq.blk]
    refine ⟨c.ws, rfl, ?_⟩
    obtain ⟨a, w1, w2, w3⟩ := rdR hq.waits.sl.reads hi
    have hn := hq.waits.1
    have hcap : c.ws.n ≤ c.ws.c := by
      obtain ⟨b, cc, h1, h2, h3, h4, h5, h6⟩ := hq.waits.2.2 a w1
      exact h4
    rw [w1]
    simp only [nilW_some, Int.toNat_natCast]
    refine ⟨by omega, by omega, _, w2, _, w3, c.ws, by first | rfl | simp [w1], ⟨by omega, by omega⟩, ?_⟩
    have hr : Reads 2 encR h1 ⟨slAd c.ws.a 0 c.ws.c 2, i - 0, c.ws.c - 0⟩ (c.m.waits.take i) := by
      rw [slAd0]
      refine ⟨by simp; omega, fun e => (by rw [w1] at e; cases e), ?_⟩
      have := hq.waits.sl.reads.2.2
      rw [flatMap_take encR_len]
      rw [w1] at this ⊢
      have hfl := flatMap_length encR_len c.m.waits
      simp only
      refine ⟨by rw [List.length_take]; omega, fun j hj => ?_⟩
      have h3 := this.2 j (by omega)
      rw [List.getElem?_take_of_lt (by omega)]
      exact h3
    refine bars_s hq (fun p hp => (hQk.set p hp).2) hQk.hold hQk.nd hr (fun r hr' => (hQk.wait r (List.mem_of_mem_take hr')).1) _ _ (by omega) (by simp; omega) fun h2 s2 e2 ho => ⟨s2, rfl, ?_⟩
    have hz := e1.sz
    refine hQ h2 s2 (e1.trans0 e2) ?_
    have hm : (k, c.m.waits[i].2) ∈ c.m.waits := by
      have : (k, c.m.waits[i].2) = c.m.waits[i] := by rw [← hik]
      rw [this]
      exact List.getElem_mem hi
    have hft : forT (amap QC.m C) k = barsQ c.m.has (c.m.waits.take i) c.m.waits[i].1 c.m.waits[i].2 := by
      unfold forT hasT waitT
      rw [waitsT_of hok (n := n) (q := c.m) (by rw [afind_amap, hf]; rfl) hm]
      simp only
      rw [afind_amap, hf]
      simp only [Option.map_some]
      rw [takeWhile_at hi hik hbef, hik]
    rw [hft]
    exact ho.mono hz
theorem Names_s (hT : TabAt lo h t mb C) (hok : TOk (amap QC.m C)) (hl : C.length ≤ 2 ^ 30)
    (hQ : ∀ h' s', Ext [] h h' → Own T_string 1 encB h.size h' s' (namesT (amap QC.m C)) → Q [.slice s'.a s'.n s'.c] h') : S_lock_Table_Names (some ⟨t, 0, none⟩) h Q := by
  refine O_lock_Table_Names _ ?_
  unfold F_lock_Table_Names
  rw [if_neg (by simp)]
  simp only [nilW_some, addr_mk, rd_blk hT.blk]
  refine ⟨some mb, rfl, ?_⟩
  refine KeysS_s hT.names (fun x hx => ?_) (by rw [keys_amap]; exact hT.nd) (by simp [amap]; omega) fun h1 s1 e1 ho => ⟨s1, rfl, hQ h1 s1 e1 ?_⟩
  · rw [keys_amap] at hx
    obtain ⟨⟨n, c⟩, hc, rfl⟩ := List.mem_map.1 hx
    have := (hok.q n c.m (by rw [afind_amap, afind_of_mem hT.nd hc]; rfl)).2.2
    unfold maxLen
    simp only
    omega
  · rw [keys_amap] at ho
    unfold namesT
    rw [keys_amap]
    exact ho
end
end Go.Lift

/- Locks: who bars a request. -/
import Derived.Test.YtgobalogbijliaaW06b
import Derived.Test.YtgobalogbijliaaLvX
set_option linter.unusedSimpArgs false
set_option linter.unusedVariables false
namespace Go.Lift
open Go Go.Proofs
set_option maxRecDepth 100000
abbrev encR (r : Int × Int) : List Value := [.int .i64 r.1, .int .i64 r.2]
abbrev evN (n : Nat) : Value := .int .i64 (n : Int)
abbrev evPt (b : Nat) : Value := .pointer (some ⟨b, 0, none⟩)
theorem encR_len (r : Int × Int) : (encR r).length = 2 := rfl
theorem encR_one (r : Int × Int) : ∀ v ∈ encR r, oneCell v = true := by
  intro v hv
  simp at hv
  rcases hv with rfl | rfl <;> rfl
theorem encB_len (s : ByteArray) : (encB s).length = 1 := rfl
theorem encIL_len (n : Int) : (encIL n).length = 1 := rfl
theorem encIL_one (n : Int) : ∀ v ∈ encIL n, oneCell v = true := by
  intro v hv
  simp at hv
  subst hv
  rfl
/-- Who has what of a name, and who waits. -/
structure QM where
  has : List (Int × Nat)
  waits : List (Int × Int)
structure QC where
  q : Nat
  hs : Nat
  ws : Sl
  m : QM
structure QAt (lo : Nat) (h : Hp) (c : QC) : Prop where
  blk : Blk h c.q #[.map (some c.hs), .slice c.ws.a c.ws.n c.ws.c] T_lock_queue
  has : IsMap encI evN h c.hs c.m.has
  waits : Own T_lock_request 2 encR lo h c.ws c.m.waits
  loq : lo ≤ c.q
  loh : lo ≤ c.hs
/-- The blocks of a queue. -/
def Fq (c : QC) (b : Nat) : Prop := b = c.q ∨ b = c.hs ∨ b ∈ sBlk c.ws
structure QOk (m : QM) : Prop where
  set : ∀ p ∈ m.has, 0 < p.2 ∧ p.2 < 512
  hold : ∀ p ∈ m.has, 1 ≤ p.1 ∧ p.1 ≤ 200
  nd : (m.has.map Prod.fst).Nodup
  wait : ∀ r ∈ m.waits, (1 ≤ r.1 ∧ r.1 ≤ 200) ∧ isM r.2 = true
  once : (m.waits.map Prod.fst).Nodup
def hasM (L : List (Int × Nat)) (k : Int) : Nat := (afind L k).getD 0
def metA (L : List (Int × Nat)) (k m : Int) : List Int := (L.filter fun p => (p.1 != k) && anyM p.2 m).map Prod.fst
def metB (W : List (Int × Int)) (k m : Int) : List Int := (W.filter fun x => (x.1 != k) && barsM x.2 m).map Prod.fst
/-- By whom a request is barred. -/
def barsQ (L : List (Int × Nat)) (W : List (Int × Int)) (k m : Int) : List Int :=
  sortI ((metA L k m ++ if hasM L k = 0 then metB W k m else []).eraseDups)
theorem barsQ_asc (L : List (Int × Nat)) (W : List (Int × Int)) (k m : Int) : Asc (barsQ L W k m) := sortI_asc nodup_eraseDups
theorem barsQ_mem {L : List (Int × Nat)} {W : List (Int × Int)} {k m x : Int} : x ∈ barsQ L W k m ↔ x ∈ metA L k m ∨ (hasM L k = 0 ∧ x ∈ metB W k m) := by
  unfold barsQ
  rw [sortI_mem, List.mem_eraseDups, List.mem_append]
  by_cases h : hasM L k = 0 <;> simp [h]
theorem rdR {h : Hp} {s : Sl} {xs : List (Int × Int)} (hs : Reads 2 encR h s xs) {i : Nat} (hi : i < xs.length) : ∃ a, s.a = some a ∧ rd h (Addr.add (Addr.add a (i * 2)) 0) = some (.int .i64 xs[i].1) ∧ rd h (Addr.add (Addr.add a (i * 2)) 1) = some (.int .i64 xs[i].2) := by
  obtain ⟨a, h1, h2⟩ := hs.rd encR_len hi
  refine ⟨a, h1, ?_, ?_⟩
  · have := h2 0 (by omega)
    rw [addr_add_add]
    simpa using this
  · have := h2 1 (by omega)
    rw [addr_add_add]
    simpa using this
theorem hasM_get {h : Hp} {m : Nat} {L : List (Int × Nat)} (hm : IsMap encI evN h m L) (k : Int) : ∃ es, mapAt h (some m) es ∧ KeysLike (.int .i64 k) es ∧ ∃ n : Int, mgetD (.int .i64 k) es (.int .i64 0) = .int .i64 n ∧ n = (hasM L k : Int) := by
  obtain ⟨es, h1, h2⟩ := hm.mapAt
  refine ⟨es, h1, keysLike_ents h2 _, ?_⟩
  rw [mgetD_ents h2 k]
  unfold hasM
  cases afind L k with
  | none => exact ⟨0, rfl, rfl⟩
  | some v => exact ⟨v, rfl, rfl⟩
theorem mem_keys_aput {L : List (Int × Int)} {k v x : Int} : x ∈ (aput L k v).map Prod.fst ↔ x = k ∨ x ∈ L.map Prod.fst := by
  rw [keys_aput]
  split
  · rename_i h
    constructor
    · exact Or.inr
    · rintro (rfl | g)
      · exact h
      · exact g
  · rw [List.mem_append, List.mem_singleton]
    exact Or.comm
section
variable {h : Hp} {Q : List Value → Hp → Prop}
/-- One more is counted. -/
theorem incI {g : Hp} {mb : Nat} {MM : List (Int × Int)} {k : Int} {K : Hp → Prop} (hm : IsMap encI encI g mb MM)
    (H : ∀ g' v, g'.size = g.size → IsMap encI encI g' mb (aput MM k v) → Ext [mb] g g' → K g') :
    ∃ es41 : Array MapEntry, mapAt g (some mb) es41 ∧ KeysLike (Value.int .i64 k) es41 ∧ ∃ n42 : Int, mgetD (Value.int .i64 k) es41 (Value.int .i64 (0 : Int)) = (Value.int .i64 n42) ∧
      ∃ (m43 : Nat) (es44 : Array MapEntry) (c45 : Nat), (some mb) = some m43 ∧ g[m43]? = some (.map es44 c45) ∧ KeysLike (Value.int .i64 k) es44 ∧ wth (Array.setIfInBounds g m43 (mput (Value.int .i64 k) (Value.int .i64 (IntKind.wrap .i64 (n42 + (1 : Int)))) es44 c45)) K := by
  obtain ⟨es, h1, h2⟩ := hm.mapAt
  refine ⟨es, h1, keysLike_ents h2 k, ?_⟩
  have : ∃ n : Int, mgetD (Value.int .i64 k) es (Value.int .i64 (0 : Int)) = .int .i64 n := by
    rw [mgetD_ents h2 k]
    cases afind MM k with
    | none => exact ⟨0, rfl⟩
    | some v => exact ⟨v, rfl⟩
  obtain ⟨n, hn⟩ := this
  refine ⟨n, hn, ?_⟩
  obtain ⟨es4, c4, y1, y2, y3⟩ := hm.put k (IntKind.wrap .i64 (n + 1))
  refine ⟨mb, es4, c4, rfl, y1, y2, ?_⟩
  exact setI y1 fun g3 t3 k3 f3 => H g3 _ t3 (y3 g3 k3) f3
theorem bars_s {lo : Nat} {c : QC} (hq : QAt lo h c) (hset : ∀ p ∈ c.m.has, p.2 < 512) (hhold : ∀ p ∈ c.m.has, 1 ≤ p.1 ∧ p.1 ≤ 200) (hnd : (c.m.has.map Prod.fst).Nodup) {s : Sl} {xs : List (Int × Int)} (hs : Reads 2 encR h s xs)
    (hx : ∀ r ∈ xs, 1 ≤ r.1 ∧ r.1 ≤ 200) (k m : Int) (hl : c.m.has.length ≤ 2 ^ 30) (hlx : xs.length ≤ 2 ^ 30)
    (hQ : ∀ h' s', Ext [] h h' → Own T_int 1 encIL h.size h' s' (barsQ c.m.has xs k m) → Q [.slice s'.a s'.n s'.c] h') : S_lock_queue_bars (some ⟨c.q, 0, none⟩) k m s h Q := by
  refine O_lock_queue_bars _ _ _ _ ?_
  unfold F_lock_queue_bars
  refine newI fun h1 s1 b1 e1 => newI fun h2 s2 b2 e2 => ?_
  have e02 := e1.trans0 e2
  have c1 := e2.get b1 (by simp)
  simp only [nilW_some, addr_mk, rd_blk (e02.get hq.blk (by simp))]
  refine ⟨some c.hs, rfl, ?_⟩
  obtain ⟨o5, hit, hst⟩ := range_start (hq.has.ext e02 (by simp))
  refine ⟨o5, hit, newI fun h6 s6 b6 e6 => ?_⟩
  have e06 := e02.trans0 e6
  intro X hX
  have hsz := blk_lt hq.blk
  have hsz2 := hq.has.lt
  refine rangeI (ek := encI) (ev := evN) (T := c.m.has) (m := c.hs) hX (fun done g => Ext [] h g ∧ h6.size ≤ g.size ∧ Blk g h.size #[.int .i64 k, .int .i64 m] T_lock_request ∧
      ∃ MM, IsMap encI encI g h1.size MM ∧ (MM.map Prod.fst).Nodup ∧ MM.length ≤ done.length ∧ (∀ x, x ∈ MM.map Prod.fst ↔ x ∈ metA done k m)) ?_ ?_ h6 [] ?_ (hst b6 e6)
  · intro done g hI hr hp
    obtain ⟨eg, zg, bg, MM, hMM, hMn, hMl, hMk⟩ := hI
    have hMk' : ∀ x, x ∈ MM.map Prod.fst ↔ x ∈ metA c.m.has k m := by
      intro x
      rw [hMk]
      exact ((hp.filter _).map _).mem_iff
    have hMl' : MM.length ≤ 2 ^ 30 := by have := hp.length_eq; omega
    rw [rd_blk (eg.get hq.blk (by simp))]
    refine ⟨some c.hs, rfl, ?_⟩
    rw [rd_blk bg]
    refine ⟨k, rfl, ?_⟩
    obtain ⟨es, t1, t2, n, t3, t4⟩ := hasM_get (hq.has.ext eg (by simp)) k
    refine ⟨es, t1, t2, n, t3, ?_⟩
    subst t4
    intro J hJ
    have fin : ∀ g' MM', Ext [] h g' → IsMap encI encI g' h1.size MM' → (MM'.map Prod.fst).Nodup → MM'.length ≤ 2 ^ 31 → (∀ x, x ∈ MM'.map Prod.fst ↔ x ∈ barsQ c.m.has xs k m) → J [] g' := by
      intro g' MM' eg' hM' hn' hl' hk'
      refine hJ _ ?_
      have hw : ∀ x ∈ MM'.map Prod.fst, (Lit.int .i64 x).wf = true := by
        intro x hxm
        have := barsQ_mem.1 ((hk' x).1 hxm)
        have hb : 1 ≤ x ∧ x ≤ 200 := by
          rcases this with g1 | ⟨_, g1⟩
          · obtain ⟨p, hp, rfl⟩ := List.mem_map.1 g1
            exact hhold p (List.mem_filter.1 hp).1
          · obtain ⟨p, hp, rfl⟩ := List.mem_map.1 g1
            exact hx p (List.mem_filter.1 hp).1
        unfold Lit.wf
        simp [IntKind.min, IntKind.max, IntKind.signed, IntKind.bits]
        omega
      refine KeysI_s hM' hw hn' (by omega) fun g2 s2 e2' ho => ⟨s2, rfl, ?_⟩
      have hz := eg'.sz
      refine hQ g2 s2 (eg'.trans0 e2') ?_
      have : sortI (MM'.map Prod.fst) = barsQ c.m.has xs k m := asc_ext (sortI_asc hn') (barsQ_asc _ _ _ _) fun x => by rw [sortI_mem, hk']
      rw [this] at ho
      exact ho.mono hz
    by_cases h0 : hasM c.m.has k = 0
    · rw [if_pos (by simp [h0])]
      intro Y hY
      have hxn := hs.1
      have key : ∀ d i g MM, d + i = xs.length → Ext [] h g → h6.size ≤ g.size → Blk g h.size #[.int .i64 k, .int .i64 m] T_lock_request → IsMap encI encI g h1.size MM → (MM.map Prod.fst).Nodup → MM.length ≤ 2 ^ 30 + i → (∀ x, x ∈ MM.map Prod.fst ↔ x ∈ metA c.m.has k m ∨ x ∈ metB (xs.take i) k m) → Y [.int .i64 (i : Int)] g := by
        intro d
        induction d with
        | zero =>
          intro i g MM hi eg zg bg hMM hMn hMl hMk
          refine hY _ _ ?_
          rw [if_neg (by simp; omega)]
          rw [List.take_of_length_le (by omega)] at hMk
          exact fin g MM eg hMM hMn (by omega) fun x => by rw [hMk, barsQ_mem]; simp [h0]
        | succ d ih =>
          intro i g MM hi eg zg bg hMM hMn hMl hMk
          refine hY _ _ ?_
          rw [if_pos (by simp; omega)]
          intro J2 hJ2
          have hil : i < xs.length := by omega
          obtain ⟨a, w1, w2, w3⟩ := rdR (hs.ext0 eg) hil
          rw [w1]
          simp only [nilW_some, Int.toNat_natCast]
          refine ⟨by omega, by omega, _, w2, _, w3, ?_⟩
          refine varI rfl rfl fun g1 u1 b3 f1 => ?_
          intro J3 hJ3
          have bg1 := f1.get bg (by simp)
          have hMM1 := hMM.ext f1 (by simp)
          have htk : xs.take (i + 1) = xs.take i ++ [xs[i]] := by rw [List.take_add_one, List.getElem?_eq_getElem hil]; rfl
          have go : ∀ (bb : Bool) g2, bb = ((xs[i].1 != k) && barsM xs[i].2 m) → Ext [] g1 g2 → J3 [.bool bb] g2 := by
            intro bb g2 hbb f2
            refine hJ3 _ _ ?_
            have b4 := f2.get b3 (by simp)
            have eg2 := (eg.trans0 f1).trans0 f2
            have zz := f2.sz
            cases bb with
            | true =>
              rw [if_pos rfl]
              refine ⟨xs[i].1, by simp [rd_blk b4], ?_⟩
              refine incI (hMM1.ext f2 (by simp)) fun g3 v u3 hM3 f3 => ?_
              refine hJ2 _ ?_
              rw [wrap64 (by omega) (by omega)]
              have := ih (i + 1) g3 (aput MM xs[i].1 v) (by omega) (eg2.trans f3 (by intro b hb hlt; simp at hb; omega)) (by omega) (f3.get (f2.get bg1 (by simp)) (by simp; omega)) hM3 (aput_nodup hMn _ _) (by rw [aput_length]; split <;> omega) (fun x => ?_)
              · simpa using this
              · rw [mem_keys_aput, hMk, htk]
                unfold metB
                rw [List.filter_append, List.map_append, List.mem_append, List.filter_cons, ← hbb]
                simp
                constructor
                · rintro (g | g | g)
                  · exact Or.inr (Or.inr g)
                  · exact Or.inl g
                  · exact Or.inr (Or.inl g)
                · rintro (g | g | g)
                  · exact Or.inr (Or.inl g)
                  · exact Or.inr (Or.inr g)
                  · exact Or.inl g
            | false =>
              rw [if_neg (by decide)]
              refine hJ2 _ ?_
              rw [wrap64 (by omega) (by omega)]
              have := ih (i + 1) g2 MM (by omega) eg2 (by omega) (f2.get bg1 (by simp)) (hMM1.ext f2 (by simp)) hMn (by omega) (fun x => ?_)
              · simpa using this
              · rw [hMk, htk]
                unfold metB
                rw [List.filter_append, List.map_append, List.mem_append, List.filter_cons, ← hbb]
                simp
          refine ⟨xs[i].1, by simp [rd_blk b3], k, by simp [rd_blk bg1], ?_⟩
          cases hne : (xs[i].1 != k) with
          | true =>
            rw [if_pos rfl]
            refine ⟨xs[i].2, by simp [rd_blk b3], m, by simp [rd_blk bg1], ?_⟩
            refine Bars_s _ _ fun g2 f2 => ⟨_, rfl, ?_⟩
            exact go _ g2 (by rw [hne, Bool.true_and]) f2
          | false =>
            rw [if_neg (by decide)]
            exact go _ g1 (by rw [hne, Bool.false_and]) (Ext.refl _ _)
      exact key xs.length 0 g MM (by omega) eg zg bg hMM hMn (by omega) (fun x => by rw [hMk']; simp [metB])
    · rw [if_neg (by simp; omega)]
      exact fin g MM eg hMM hMn (by omega) fun x => by rw [hMk', barsQ_mem]; simp [h0]
  · intro done p g e g' hI hpr hek hev f1 u1 hr hnext
    obtain ⟨eg, zg, bg, MM, hMM, hMn, hMl, hMk⟩ := hI
    obtain ⟨rest, hperm⟩ := hpr
    have hpm : p ∈ c.m.has := hperm.mem_iff.1 (by simp)
    have eg' : Ext [] h g' := eg.trans f1 (by intro b hb hlt; simp at hb; omega)
    have bg' := f1.get bg (by simp; omega)
    have hMM' := hMM.ext f1 (by simp; omega)
    refine ⟨p.1, hek, (p.2 : Int), hev, ?_⟩
    intro J hJ
    have go : ∀ (bb : Bool) g2, bb = ((p.1 != k) && anyM p.2 m) → Ext [] g' g2 → J [.bool bb] g2 := by
      intro bb g2 hbb f2
      refine hJ _ _ ?_
      have zz := f2.sz
      have hr2 := hr.ext f2 (by simp) (by simp)
      cases bb with
      | true =>
        rw [if_pos rfl]
        refine incI (hMM'.ext f2 (by simp)) fun g3 v u3 hM3 f3 => ?_
        refine hnext g3 ⟨(eg'.trans0 f2).trans f3 (by intro b hb hlt; simp at hb; omega), by omega, f3.get (f2.get bg' (by simp)) (by simp; omega), _, hM3, aput_nodup hMn _ _, ?_, fun x => ?_⟩ (hr2.ext f3 (by simp; omega) (by simp; omega))
        · rw [aput_length]; simp; split <;> omega
        · rw [mem_keys_aput, hMk]
          unfold metA
          rw [List.filter_append, List.map_append, List.mem_append, List.filter_cons, ← hbb]
          simp
          exact Or.comm
      | false =>
        rw [if_neg (by decide)]
        refine hnext g2 ⟨eg'.trans0 f2, by omega, f2.get bg' (by simp), MM, hMM'.ext f2 (by simp), hMn, by simp; omega, fun x => ?_⟩ hr2
        rw [hMk]
        unfold metA
        rw [List.filter_append, List.map_append, List.mem_append, List.filter_cons, ← hbb]
        simp
    rw [rd_blk bg']
    refine ⟨k, rfl, ?_⟩
    cases hne : (p.1 != k) with
    | true =>
      rw [if_pos rfl]
      refine ⟨m, by simp [rd_blk bg'], ?_⟩
      refine Any_s (hset p hpm) m fun g2 f2 => ⟨_, rfl, ?_⟩
      exact go _ g2 (by rw [hne, Bool.true_and]) f2
    | false =>
      rw [if_neg (by decide)]
      exact go _ g' (by rw [hne, Bool.false_and]) (Ext.refl _ _)
  · exact ⟨e06, Nat.le_refl _, e6.get c1 (by simp), [], (show IsMap encI encI h2 h1.size [] from ⟨#[], 0, b2, rfl, Born.nil 0⟩).ext e6 (by simp), by simp, by simp, by simp [metA]⟩
end
end Go.Lift

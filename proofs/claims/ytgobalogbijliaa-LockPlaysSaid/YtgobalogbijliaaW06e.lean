/- Locks: a mode is taken. -/
import Derived.Test.YtgobalogbijliaaW06d
set_option linter.unusedSimpArgs false
set_option linter.unusedVariables false
namespace Go.Lift
open Go Go.Proofs
set_option maxRecDepth 100000
theorem aput_same {K V : Type} [DecidableEq K] {T : List (K × V)} {k : K} {v : V} (h : afind T k = some v) : aput T k v = T := by
  induction T with
  | nil => cases h
  | cons p T ih =>
    obtain ⟨a, u⟩ := p
    simp only [afind] at h
    simp only [aput]
    by_cases e : k = a
    · subst e
      simp only [if_true] at h ⊢
      cases h
      rfl
    · rw [if_neg e] at h ⊢
      rw [ih h]
theorem aput_aput {K V : Type} [DecidableEq K] (T : List (K × V)) (k : K) (v w : V) : aput (aput T k v) k w = aput T k w := by
  induction T with
  | nil => simp [aput]
  | cons p T ih =>
    obtain ⟨a, u⟩ := p
    simp only [aput]
    by_cases e : k = a
    · simp [e, aput]
    · simp only [if_neg e, aput, ih]
def takeT (T : TM) (k : Int) (n : ByteArray) (m : Int) : TM × Int :=
  if k < 1 ∨ k > 200 ∨ isM m = false ∨ n.size > 8 then (T, 1)
  else if (waitsT T k).isSome then (T, 76)
  else if modesT T k n &&& bitM m ≠ 0 then (T, 0)
  else if barsQ (hasT T n) (waitT T n) k m ≠ [] then (aput T n ⟨hasT T n, waitT T n ++ [(k, m)]⟩, 75)
  else (aput T n ⟨aput (hasT T n) k (modesT T k n ||| bitM m), waitT T n⟩, 0)
theorem blk_ty {h : Hp} {b : Nat} {c c' : Array Value} {T T' : TypeId} {fz : Nat × Nat} (h1 : Blk h b c T) (h2 : h[b]? = some (.cells c' T' fz)) : T = T' := by
  unfold Blk at h1
  rw [h1] at h2
  cases h2
  rfl
theorem blk_map {h : Hp} {b : Nat} {c : Array Value} {T : TypeId} {es : Array MapEntry} {cl : Nat} (h1 : Blk h b c T) (h2 : h[b]? = some (.map es cl)) : False := by
  unfold Blk at h1
  rw [h1] at h2
  cases h2
theorem own_blk {α : Type} {T : TypeId} {sz lo : Nat} {enc : α → List Value} {h : Hp} {s : Sl} {xs : List α} (ho : Own T sz enc lo h s xs) {b : Nat} (hb : b ∈ sBlk s) : ∃ c, Blk h b c T := by
  obtain ⟨a, ha, hab⟩ := mem_sBlk.1 hb
  obtain ⟨b', c', q1, q2, q3, q4⟩ := ho.2.2 a ha
  rw [q1] at hab
  simp at hab
  subst hab
  exact ⟨c', q3⟩
theorem zc_req : (zc PP T_lock_request).size = 2 := by kernel_rfl
theorem withM_zero {m : Int} : withM m = 0 ↔ isM m = false := by
  cases hm : isM m with
  | false => simp [withM, hm]
  | true => rcases modes8 hm with rfl | rfl | rfl | rfl | rfl | rfl | rfl | rfl <;> decide
section
variable {lo : Nat} {h : Hp} {t mb : Nat} {C : List (ByteArray × QC)} {Q : List Value → Hp → Prop}
theorem New_s (hQ : ∀ h', TabAt h.size h' (h.size + 1) h.size [] → Ext [] h h' → h'.size = h.size + 2 → Q [.pointer (some ⟨h.size + 1, 0, none⟩)] h') : S_lock_New h Q := by
  refine O_lock_New ?_
  unfold F_lock_New
  refine newI fun h1 s1 b1 e1 => newI fun h2 s2 b2 e2 => ?_
  rw [s1]
  rw [s1] at b2
  refine hQ h2 ⟨b2, ⟨#[], 0, e2.get b1 (by simp), rfl, Born.nil 0⟩, by simp, fun n c hf => (by simp [afind] at hf), fun n n' c c' hf => (by simp [afind] at hf), fun n c hf => (by simp [afind] at hf), by omega, by omega⟩ (e1.trans0 e2) (by omega)
theorem fq_ne {c : QC} (hq : QAt lo h c) {b : Nat} {cs : Array Value} {T : TypeId} {fz : Nat × Nat} (hb : h[b]? = some (.cells cs T fz)) (h1 : T ≠ T_lock_queue) (h2 : T ≠ T_lock_request) : ¬ Fq c b := by
  rintro (rfl | rfl | hw)
  · exact h1 (blk_ty hq.blk hb).symm
  · obtain ⟨es, cl, g, _⟩ := hq.has
    rw [hb] at g
    cases g
  · obtain ⟨c', g⟩ := own_blk hq.waits hw
    exact h2 (blk_ty g hb).symm
theorem fq_map {es : Array MapEntry} {cl : Nat} {c : QC} (hq : QAt lo h c) {b : Nat} (hb : h[b]? = some (.map es cl)) (h1 : c.hs ≠ b) : ¬ Fq c b := by
  rintro (rfl | rfl | hw)
  · exact blk_map hq.blk hb
  · exact h1 rfl
  · obtain ⟨c', g⟩ := own_blk hq.waits hw
    exact blk_map g hb
theorem ne_Tq : T_lock_Table ≠ T_lock_queue := by decide
theorem ne_Tr : T_lock_Table ≠ T_lock_request := by decide
theorem ne_qr : T_lock_queue ≠ T_lock_request := by decide
/-- A queue alone was changed. -/
theorem TabAt.upd (hT : TabAt lo h t mb C) {n : ByteArray} {c c' : QC} (hf : afind C n = some c) {h' : Hp} {S : List Nat} (he : Ext S h h') (hS : ∀ b ∈ S, b < h.size → Fq c b) (hq : QAt lo h' c') (h1 : c'.q = c.q) (h2 : c'.hs = c.hs)
    (hF : ∀ b, Fq c' b → Fq c b ∨ h.size ≤ b) : TabAt lo h' t mb (aput C n c') ∧ ∀ b, Ft t mb (aput C n c') b → Ft t mb C b ∨ h.size ≤ b := by
  have hq0 := hT.qs n c hf
  have htS : t ∉ S := fun hm => fq_ne hq0 hT.blk ne_Tq ne_Tr (hS t hm (blk_lt hT.blk))
  have hmS : mb ∉ S := fun hm => by
    obtain ⟨es, cl, g, _⟩ := hT.names
    exact fq_map hq0 g (hT.smb n c hf) (hS mb hm (blk_lt g))
  have hfa : ∀ j, afind (aput C n c') j = if j = n then some c' else afind C j := fun j => afind_aput C n j c'
  constructor
  · refine ⟨he.get hT.blk htS, ?_, aput_nodup hT.nd _ _, fun j d hj => ?_, fun j j' d d' hj hj' hne b hb hb' => ?_, fun j d hj => ?_, hT.lot, hT.lom⟩
    · rw [← aput_amap, h1, aput_same (by rw [afind_amap, hf]; rfl)]
      exact hT.names.ext he hmS
    · rw [hfa] at hj
      by_cases e : j = n
      · rw [if_pos e] at hj
        cases hj
        exact hq
      · rw [if_neg e] at hj
        refine (hT.qs j d hj).extF he fun b hb hm => ?_
        exact hT.sep j n d c hj hf e b hb (hS b hm ((hT.qs j d hj).lt hb).2)
    · rw [hfa] at hj hj'
      by_cases e : j = n
      · rw [if_pos e] at hj
        cases hj
        have e' : j' ≠ n := fun g => hne (e.trans g.symm)
        rw [if_neg e'] at hj'
        rcases hF b hb with g | g
        · exact hT.sep n j' c d' hf hj' (fun e2 => e' e2.symm) b g hb'
        · have := ((hT.qs j' d' hj').lt hb').2
          omega
      · rw [if_neg e] at hj
        by_cases e' : j' = n
        · rw [if_pos e'] at hj'
          cases hj'
          rcases hF b hb' with g | g
          · exact hT.sep j n d c hj hf e b hb g
          · have := ((hT.qs j d hj).lt hb).2
            omega
        · rw [if_neg e'] at hj'
          exact hT.sep j j' d d' hj hj' hne b hb hb'
    · rw [hfa] at hj
      by_cases e : j = n
      · rw [if_pos e] at hj
        cases hj
        rw [h2]
        exact hT.smb n c hf
      · rw [if_neg e] at hj
        exact hT.smb j d hj
  · rintro b (rfl | rfl | ⟨j, d, hj, hb⟩)
    · exact Or.inl (Or.inl rfl)
    · exact Or.inl (Or.inr (Or.inl rfl))
    · rw [hfa] at hj
      by_cases e : j = n
      · rw [if_pos e] at hj
        cases hj
        rcases hF b hb with g | g
        · exact Or.inl (Or.inr (Or.inr ⟨n, c, hf, g⟩))
        · exact Or.inr g
      · rw [if_neg e] at hj
        exact Or.inl (Or.inr (Or.inr ⟨j, d, hj, hb⟩))
theorem queue_s (hT : TabAt lo h t mb C) (n : ByteArray) (hlo : lo ≤ h.size)
    (hQ : ∀ h' C' c, TabAt lo h' t mb C' → afind C' n = some c → c.m = ⟨hasT (amap QC.m C) n, waitT (amap QC.m C) n⟩ → (∀ d, aput C' n d = aput C n d) → Ext [mb] h h' → (∀ b, Ft t mb C' b → Ft t mb C b ∨ h.size ≤ b) → Q [.pointer (some ⟨c.q, 0, none⟩)] h') :
    S_lock_Table_queue (some ⟨t, 0, none⟩) n h Q := by
  refine O_lock_Table_queue _ _ ?_
  unfold F_lock_Table_queue
  simp only [nilW_some, addr_mk, rd_blk hT.blk]
  refine ⟨some mb, rfl, ?_⟩
  obtain ⟨es, t1, t2, p, t3, t4⟩ := tab_get hT n
  refine ⟨es, t1, t2, p, t3, ?_⟩
  intro J hJ
  cases hf : afind C n with
  | some c =>
    rw [hf] at t4
    subst t4
    rw [if_neg (by simp)]
    refine hJ _ _ ?_
    refine hQ h C c hT hf ?_ (fun d => rfl) (Ext.refl _ _) fun b hb => Or.inl hb
    unfold hasT waitT
    rw [afind_amap, hf]
    rfl
  | none =>
    rw [hf] at t4
    subst t4
    rw [if_pos (by rfl)]
    refine newI fun h1 s1 b1 e1 => newI fun h2 s2 b2 e2 => ?_
    have e02 := e1.trans0 e2
    have hT2 := hT.ext0 e02
    simp only [rd_blk hT2.blk]
    refine ⟨some mb, rfl, ?_⟩
    obtain ⟨es4, c4, y1, y2, y3⟩ := hT2.names.put n h1.size
    refine ⟨mb, es4, c4, rfl, y1, y2, ?_⟩
    refine setI y1 fun h3 s3 k3 e3 => hJ _ _ ?_
    have c1 := e2.get b1 (by simp)
    have hlm := hT.names.lt
    have c1' : h3[h.size]? = some (.map #[] 0) := e3.get c1 (by simp; omega)
    have b2' := e3.get b2 (by simp; omega)
    have hnew : QAt lo h3 ⟨h1.size, h.size, ⟨none, 0, 0⟩, ⟨[], []⟩⟩ := ⟨b2', ⟨#[], 0, c1', rfl, Born.nil 0⟩, Own.nil _ _, by simp only; omega, hlo⟩
    have hfn : ∀ b, Fq ⟨h1.size, h.size, ⟨none, 0, 0⟩, ⟨[], []⟩⟩ b → h.size ≤ b := by
      rintro b (rfl | rfl | hb)
      · simp only; omega
      · exact Nat.le_refl _
      · simp [sBlk] at hb
    have hfa : ∀ j, afind (aput C n ⟨h1.size, h.size, ⟨none, 0, 0⟩, ⟨[], []⟩⟩) j = if j = n then some ⟨h1.size, h.size, ⟨none, 0, 0⟩, ⟨[], []⟩⟩ else afind C j := fun j => afind_aput C n j _
    have hold : ∀ j d, afind C j = some d → QAt lo h3 d := fun j d hj => (hT2.qs j d hj).extF e3 fun b hb hm => by
      simp at hm
      subst hm
      obtain ⟨es, cl, g, _⟩ := hT2.names
      exact fq_map (hT2.qs j d hj) g (hT2.smb j d hj) hb
    refine hQ h3 (aput C n ⟨h1.size, h.size, ⟨none, 0, 0⟩, ⟨[], []⟩⟩) ⟨h1.size, h.size, ⟨none, 0, 0⟩, ⟨[], []⟩⟩ ?_ (by rw [hfa, if_pos rfl]) ?_ (fun d => aput_aput _ _ _ _) ((e02.mono (by simp)).trans e3 (fun b hb _ => hb)) ?_
    · refine ⟨e3.get hT2.blk (by simp; intro e; obtain ⟨es, cl, g, _⟩ := hT2.names; rw [← e] at g; exact blk_map hT2.blk g), ?_, aput_nodup hT.nd _ _, fun j d hj => ?_, fun j j' d d' hj hj' hne b hb hb' => ?_, fun j d hj => ?_, hT.lot, hT.lom⟩
      · have := y3 h3 k3
        rw [← aput_amap]
        exact this
      · rw [hfa] at hj
        by_cases e : j = n
        · rw [if_pos e] at hj
          cases hj
          exact hnew
        · rw [if_neg e] at hj
          exact hold j d hj
      · rw [hfa] at hj hj'
        by_cases e : j = n
        · rw [if_pos e] at hj
          cases hj
          have e' : j' ≠ n := fun g => hne (e.trans g.symm)
          rw [if_neg e'] at hj'
          have := hfn b hb
          have := ((hT.qs j' d' hj').lt hb').2
          omega
        · rw [if_neg e] at hj
          by_cases e' : j' = n
          · rw [if_pos e'] at hj'
            cases hj'
            have := hfn b hb'
            have := ((hT.qs j d hj).lt hb).2
            omega
          · rw [if_neg e'] at hj'
            exact hT.sep j j' d d' hj hj' hne b hb hb'
      · rw [hfa] at hj
        by_cases e : j = n
        · rw [if_pos e] at hj
          cases hj
          simp only
          omega
        · rw [if_neg e] at hj
          exact hT.smb j d hj
    · unfold hasT waitT
      rw [afind_amap, hf]
      rfl
    · rintro b (rfl | rfl | ⟨j, d, hj, hb⟩)
      · exact Or.inl (Or.inl rfl)
      · exact Or.inl (Or.inr (Or.inl rfl))
      · rw [hfa] at hj
        by_cases e : j = n
        · rw [if_pos e] at hj
          cases hj
          exact Or.inr (hfn b hb)
        · rw [if_neg e] at hj
          exact Or.inl (Or.inr (Or.inr ⟨j, d, hj, hb⟩))
theorem has_ok {T : TM} (hok : TOk T) (n : ByteArray) : QOk ⟨hasT T n, waitT T n⟩ := by
  unfold hasT waitT
  cases hf : afind T n with
  | none => exact ⟨by simp, by simp, by simp, by simp, by simp⟩
  | some q => exact (hok.q n q hf).1
theorem modes_lt {T : TM} (hok : TOk T) (k : Int) (n : ByteArray) : modesT T k n < 512 := by
  unfold modesT hasM
  cases hf : afind (hasT T n) k with
  | none => simp
  | some v => exact ((has_ok hok n).set _ (afind_mem hf)).2
theorem Take_s (hT : TabAt lo h t mb C) (hok : TOk (amap QC.m C)) (k : Int) (n : ByteArray) (m : Int) (hlo : lo ≤ h.size)
    (hQ : ∀ h' C' S, TabAt lo h' t mb C' → amap QC.m C' = (takeT (amap QC.m C) k n m).1 → Ext S h h' → (∀ b ∈ S, b < h.size → Ft t mb C b) → (∀ b, Ft t mb C' b → Ft t mb C b ∨ h.size ≤ b) → Q [.int .i64 (takeT (amap QC.m C) k n m).2] h') :
    S_lock_Table_Take (some ⟨t, 0, none⟩) k n m h Q := by
  refine O_lock_Table_Take _ _ _ _ ?_
  unfold F_lock_Table_Take
  intro J hJ
  have hno : ∀ h', Ext [] h h' → amap QC.m C = (takeT (amap QC.m C) k n m).1 → Q [.int .i64 (takeT (amap QC.m C) k n m).2] h' := fun h' e hm => hQ h' C [] (hT.ext0 e) hm e (by simp) fun b hb => Or.inl hb
  have go : ∀ b h', Ext [] h h' → b = decide (k < 1 ∨ k > 200 ∨ isM m = false ∨ n.size > 8) → J [.bool b] h' := by
    intro b h1 e1 hb
    refine hJ _ _ ?_
    cases b with
    | true =>
      rw [if_pos rfl]
      have hc := of_decide_eq_true hb.symm
      have := hno h1 e1
      unfold takeT at this
      rw [if_pos hc] at this
      exact this rfl
    | false =>
      rw [if_neg (by decide)]
      have hc := of_decide_eq_false hb.symm
      have hm : isM m = true := by
        cases hm : isM m with
        | true => rfl
        | false => exact absurd (Or.inr (Or.inr (Or.inl hm))) hc
      have hm8 := isM_iff.1 hm
      refine Waits_s (hT.ext0 e1) hok k fun h2 e2 => ?_
      have e02 := e1.trans0 e2
      cases hw : waitsT (amap QC.m C) k with
      | some x =>
        refine ⟨_, _, _, rfl, ?_⟩
        rw [if_pos rfl]
        have := hno h2 e02
        unfold takeT at this
        rw [if_neg hc, if_pos (by rw [hw]; rfl)] at this
        exact this rfl
      | none =>
        refine ⟨_, _, _, rfl, ?_⟩
        rw [if_neg (by decide)]
        refine ⟨by omega, ?_⟩
        refine Modes_s (hT.ext0 e02) k n ⟨_, rfl, ?_⟩
        have hml := modes_lt hok k n
        have hbl := bitM_lt hm
        rw [iShl_bit hm, iAnd_nat (by omega) (by omega)]
        by_cases hin : modesT (amap QC.m C) k n &&& bitM m = 0
        · rw [if_neg (by simp [hin])]
          refine queue_s (hT.ext0 e02) n (by have := e02.sz; omega) fun h3 C3 c hT3 hf3 hcm hap e3 hF3 => ⟨_, rfl, ?_⟩
          refine varI rfl rfl fun h4 s4 b4 e4 => ?_
          refine ⟨k, by simp [rd_blk b4], m, by simp [rd_blk b4], ?_⟩
          have hT4 := hT3.ext0 e4
          have hq4 := hT4.qs n c hf3
          simp only [nilW_some, addr_mk, rd_blk hq4.blk]
          refine ⟨c.ws, rfl, ?_⟩
          have hqk := has_ok hok n
          rw [← hcm] at hqk
          have hlw := hqk.lenW
          have hlh := hqk.lenH
          refine bars_s hq4 (fun p hp => (hqk.set p hp).2) hqk.hold hqk.nd hq4.waits.sl.reads (fun r hr => (hqk.wait r hr).1) k m (by omega) (by omega) fun h5 s5 e5 ho5 => ⟨s5, rfl, ?_⟩
          have hb5 : c.m.has = hasT (amap QC.m C) n := by rw [hcm]
          have hb6 : c.m.waits = waitT (amap QC.m C) n := by rw [hcm]
          rw [hb5, hb6] at ho5
          have hn5 := ho5.1
          have e45 := e4.trans0 e5
          have hT5 := hT4.ext0 e5
          have hq5 := hT5.qs n c hf3
          have e05 : Ext [mb] h h5 := (e02.mono (by simp)).trans (e3.trans0 e45) (fun b hb _ => hb)
          have fin : ∀ h' c' S r, QAt lo h' c' → c'.q = c.q → c'.hs = c.hs → (∀ b, Fq c' b → Fq c b ∨ h5.size ≤ b) → Ext S h5 h' → (∀ b ∈ S, b < h5.size → Fq c b) → takeT (amap QC.m C) k n m = (aput (amap QC.m C) n c'.m, r) → Q [.int .i64 r] h' := by
            intro h' c' S r hq' g1 g2 g3 g4 g5 g6
            obtain ⟨hT', hF'⟩ := hT5.upd hf3 g4 g5 hq' g1 g2 g3
            have hz5 := e05.sz
            have := hQ h' (aput C3 n c') (mb :: S) hT' (by rw [g6, hap, ← aput_amap]) (by
              refine (e05.mono (by simp)).trans g4 fun b hb hlt => ?_
              exact List.mem_cons_of_mem _ hb) (fun b hb hlt => ?_) (fun b hb => ?_)
            · rw [g6] at this
              exact this
            · rcases List.mem_cons.1 hb with rfl | hb
              · exact Or.inr (Or.inl rfl)
              · have h8 := g5 b hb (by omega)
                have hz2 := e02.sz
                rcases hF3 b (Or.inr (Or.inr ⟨n, c, hf3, h8⟩)) with g | g
                · exact g
                · omega
            · have hz2 := e02.sz
              rcases hF' b hb with g | g
              · rcases hF3 b g with g | g
                · exact Or.inl g
                · exact Or.inr (by omega)
              · exact Or.inr (by omega)
          have hT0 : takeT (amap QC.m C) k n m = if barsQ (hasT (amap QC.m C) n) (waitT (amap QC.m C) n) k m ≠ [] then (aput (amap QC.m C) n ⟨hasT (amap QC.m C) n, waitT (amap QC.m C) n ++ [(k, m)]⟩, 75) else (aput (amap QC.m C) n ⟨aput (hasT (amap QC.m C) n) k (modesT (amap QC.m C) k n ||| bitM m), waitT (amap QC.m C) n⟩, 0) := by
            unfold takeT
            rw [if_neg hc, if_neg (by rw [hw]; simp), if_neg (by simpa using hin)]
          by_cases hbe : barsQ (hasT (amap QC.m C) n) (waitT (amap QC.m C) n) k m = []
          · rw [hbe] at hn5
            rw [if_neg (by simp at hn5 ⊢; omega)]
            simp only [rd_blk hq5.blk]
            refine ⟨some c.hs, rfl, ?_⟩
            obtain ⟨es2, u1, u2, v, u3, u4⟩ := hasM_get hq5.has k
            refine ⟨es2, u1, u2, v, u3, by omega, ?_⟩
            subst u4
            have hmm : hasM c.m.has k = modesT (amap QC.m C) k n := by unfold modesT; rw [hb5]
            rw [hmm, iOr_nat (by omega) (by omega)]
            obtain ⟨es4, c4, y1, y2, y3⟩ := hq5.has.put k (modesT (amap QC.m C) k n ||| bitM m)
            refine ⟨c.hs, es4, c4, rfl, y1, y2, ?_⟩
            refine setI y1 fun h6 s6 k6 e6 => ?_
            have hhs : ∀ b ∈ sBlk c.ws, b ≠ c.hs := by
              intro b hb e
              obtain ⟨c', g⟩ := own_blk hq5.waits hb
              rw [e] at g
              exact blk_map g y1
            refine fin h6 ⟨c.q, c.hs, c.ws, ⟨aput c.m.has k (modesT (amap QC.m C) k n ||| bitM m), c.m.waits⟩⟩ [c.hs] 0 ⟨e6.get hq5.blk (by simp; intro e; have := hq5.blk; rw [e] at this; exact blk_map this y1), y3 h6 k6, hq5.waits.ext e6 (fun a ha hm => by simp at hm; exact hhs _ (mem_sBlk.2 ⟨a, ha, rfl⟩) hm), hq5.loq, hq5.loh⟩ rfl rfl (fun b hb => Or.inl hb) e6 (fun b hb _ => by simp at hb; exact Or.inr (Or.inl hb)) ?_
            rw [hT0, if_neg (by simpa using hbe), hb5, hb6]
          · have hpos : 0 < (barsQ (hasT (amap QC.m C) n) (waitT (amap QC.m C) n) k m).length := List.length_pos_iff.2 hbe
            rw [if_pos (by simp; omega)]
            simp only [rd_blk hq5.blk]
            refine ⟨c.ws, rfl, ?_⟩
            have b5 := e5.get b4 (by simp)
            refine ⟨k, by simp [rd_blk b5], m, by simp [rd_blk b5], ?_⟩
            refine newI fun h6 s6 b6 e6 => ?_
            have hq6 := hq5.ext0 e6
            refine ⟨by rw [rd_blk hq6.blk]; rfl, encR (k, m), ?_, ?_⟩
            · have := cellsAt_blk b6 (o := 0) (n := 1 * 2) (by simp)
              simpa using this
            · have hws := hq6.waits.1
              refine app_own (ys := [(k, m)]) hq6.waits zc_req encR_len (fun x _ => encR_one x) (by simp) rfl (by simp only; omega) (by simp only; omega) (by have := e05.sz; omega) fun l7 h7 ho7 e7 hn7 hb7 => ?_
              have hqs : c.q ∉ sBlk c.ws := by
                intro hb
                obtain ⟨c', g⟩ := own_blk hq6.waits hb
                exact ne_qr (blk_ty hq6.blk g)
              have hhs : c.hs ∉ sBlk c.ws := by
                intro hb
                obtain ⟨c', g⟩ := own_blk hq6.waits hb
                obtain ⟨es, cl, g2, _⟩ := hq6.has
                exact blk_map g g2
              have hq7 := e7.get hq6.blk hqs
              have hh7 := hq6.has.ext e7 hhs
              refine st_blk hq7 (by simp) fun h8 s8 b8 e8 => ?_
              have hz6 := e6.sz
              have hqlt := blk_lt hq6.blk
              refine fin h8 ⟨c.q, c.hs, l7, ⟨c.m.has, c.m.waits ++ [(k, m)]⟩⟩ (c.q :: sBlk c.ws) 75 ⟨by simpa using b8, hh7.ext e8 (by simp; intro e; obtain ⟨es, cl, g, _⟩ := hh7; rw [e] at g; exact blk_map hq7 g), ho7.ext e8 (fun a ha hm => ?_), hq5.loq, hq5.loh⟩ rfl rfl (fun b hb => ?_) ?_ (fun b hb _ => ?_) ?_
              · simp at hm
                rcases hb7 _ (mem_sBlk.2 ⟨a, ha, rfl⟩) with g | g
                · exact hqs (hm ▸ g)
                · rw [hm] at g; omega
              · rcases hb with rfl | rfl | hb
                · exact Or.inl (Or.inl rfl)
                · exact Or.inl (Or.inr (Or.inl rfl))
                · rcases hb7 b hb with g | g
                  · exact Or.inl (Or.inr (Or.inr g))
                  · exact Or.inr (by omega)
              · refine ((e6.mono (by simp)).trans e7 (fun b hb _ => List.mem_cons_of_mem _ hb)).trans e8 fun b hb _ => ?_
                simp at hb
                simp [hb]
              · rcases List.mem_cons.1 hb with rfl | hb
                · exact Or.inl rfl
                · exact Or.inr (Or.inr hb)
              · rw [hT0, if_pos hbe, hb5, hb6]
        · rw [if_pos (by simpa using hin)]
          have := hno h2 e02
          unfold takeT at this
          rw [if_neg hc, if_neg (by rw [hw]; simp), if_pos hin] at this
          exact this rfl
  rw [if_neg (by simp)]
  by_cases h1 : k < 1
  · rw [if_pos (by simpa using h1)]
    exact go _ h (Ext.refl _ _) (by simp [h1])
  · rw [if_neg (by simpa using h1)]
    by_cases h2 : k > 200
    · rw [if_pos (by simpa using h2)]
      exact go _ h (Ext.refl _ _) (by simp [h2])
    · rw [if_neg (by simpa using h2)]
      refine With_s m fun h3 e3 => ⟨_, rfl, ?_⟩
      by_cases h4 : withM m = 0
      · rw [if_pos (by simp [h4])]
        have := withM_zero.1 h4
        exact go _ h3 e3 (by simp [this])
      · rw [if_neg (by simp; omega)]
        have hm : isM m = true := by
          cases hm : isM m with
          | true => rfl
          | false => exact absurd (withM_zero.2 hm) h4
        refine go _ h3 e3 ?_
        rw [Bool.eq_iff_iff]
        simp [h1, h2, hm]
        omega
end
end Go.Lift

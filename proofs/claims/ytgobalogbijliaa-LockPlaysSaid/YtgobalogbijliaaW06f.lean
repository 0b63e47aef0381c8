/- Locks: requests are struck out; modes are granted. -/
import Derived.Test.YtgobalogbijliaaW06e
set_option linter.unusedSimpArgs false
set_option linter.unusedVariables false
namespace Go.Lift
open Go Go.Proofs
set_option maxRecDepth 100000
section
variable {lo : Nat} {h : Hp} {Q : List Value → Hp → Prop}
theorem DeleteF_s {x : Nat} {k : Int} {s : Sl} {xs : List (Int × Int)} (ho : Own T_lock_request 2 encR lo h s xs) (bx : Blk h x #[.int .i64 k] T_int) (hl : xs.length ≤ 2 ^ 30)
    (hQ : ∀ h' s', Own T_lock_request 2 encR lo h' s' (xs.filter fun r => r.1 != k) → Ext (sBlk s) h h' → (∀ b ∈ sBlk s', b ∈ sBlk s) → Q [.slice s'.a s'.n s'.c] h') :
    S_slices_DeleteFunc_slock_request_lock_request s 36 #[.pointer (some ⟨x, 0, none⟩)] h Q := by
  refine O_slices_DeleteFunc_slock_request_lock_request _ _ _ ?_
  unfold F_slices_DeleteFunc_slock_request_lock_request
  have hn := ho.1
  refine IndexF_s (f := 36) fn36 ho.sl.reads bx hl (fun hall h1 e1 => ⟨_, rfl, ?_⟩) fun i0 hi0 hk0 hbef h1 e1 => ⟨_, rfl, ?_⟩
  · rw [if_pos (by decide)]
    have : xs.filter (fun r => r.1 != k) = xs := List.filter_eq_self.2 fun r hr => by simpa using hall r hr
    refine hQ h1 s ?_ (e1.mono (by simp)) fun b hb => hb
    rw [this]
    exact ho.ext0 e1
  · rw [if_neg (by first | (simp; done) | (simp; omega))]
    intro X hX
    have hxs : x ∉ sBlk s := fun hb => by
      obtain ⟨c', g⟩ := own_blk ho hb
      exact absurd (blk_ty bx g) (by decide)
    have hxl := blk_lt bx
    have key : ∀ d i j g ys, d + j = xs.length → i < j → ys.length = xs.length → ys.take i = (xs.take j).filter (fun r => r.1 != k) → ys.drop j = xs.drop j → Ext (sBlk s) h g → Own T_lock_request 2 encR lo g s ys →
        X [.int .i64 (i : Int), .int .i64 (j : Int)] g := by
      intro d
      induction d with
      | zero =>
        intro i j g ys hj hij hyl hyt hyd eg hoy
        refine hX _ _ _ ?_
        rw [if_neg (by simp; omega)]
        simp only [Int.toNat_natCast]
        have hzl : (Builtin.zeroCells (zc PP T_lock_request) (s.n - i)).toList.length = (s.n - i) * 2 := by rw [Array.length_toList, zeroCells_size, zc_req]
        obtain ⟨q1, q2, q3⟩ := hoy.cut encR_len (i := i) (by omega) hzl
        refine ⟨⟨by omega, by omega⟩, ⟨by kernel_rfl, fun a ha => by rw [zc_req]; exact q1 a ha (by omega)⟩, ?_⟩
        rw [wthE]
        have hcap : s.n ≤ s.c := by
          cases hsa : s.a with
          | none => have := (ho.2.1 hsa).1; subst this; simp at hi0
          | some a => obtain ⟨b, cc, _, _, _, h4, _⟩ := ho.2.2 a hsa; exact h4
        refine ⟨⟨by omega, by omega⟩, ?_⟩
        rw [hyt, List.take_of_length_le (by omega)] at q2
        refine hQ _ ⟨slAd s.a 0 s.c 2, i, s.c⟩ q2 (eg.trans q3 fun b hb _ => hb) fun b hb => ?_
        rw [slAd0] at hb
        exact hb
      | succ d ih =>
        intro i j g ys hj hij hyl hyt hyd eg hoy
        refine hX _ _ _ ?_
        rw [if_pos (by simp; omega)]
        intro J hJ
        have hjl : j < xs.length := by omega
        have hjy : j < ys.length := by omega
        have hyj : ys[j] = xs[j] := by
          have h1 : ys[j]? = xs[j]? := by
            have := congrArg (fun l => l[0]?) hyd
            simpa using this
          rw [List.getElem?_eq_getElem hjy, List.getElem?_eq_getElem hjl] at h1
          exact Option.some.inj h1
        obtain ⟨a, w1, w2, w3⟩ := rdR hoy.sl.reads hjy
        rw [w1]
        simp only [nilW_some, Int.toNat_natCast]
        refine ⟨by omega, by omega, _, w2, _, w3, ?_⟩
        refine varI rfl rfl fun g1 u1 b1 f1 => ?_
        refine ⟨ys[j].1, by simp [rd_blk b1], ys[j].2, by simp [rd_blk b1], ?_⟩
        have bx1 : Blk g1 x #[.int .i64 k] T_int := f1.get (eg.get bx hxs) (by simp)
        refine fn36 _ _ g1 _ bx1 fun g2 f2 => ⟨_, rfl, ?_⟩
        have b2 := f2.get b1 (by simp)
        have f02 := f1.trans0 f2
        have hoy2 := hoy.ext0 f02
        have htk : xs.take (j + 1) = xs.take j ++ [xs[j]] := by rw [List.take_add_one, List.getElem?_eq_getElem hjl]; rfl
        have hdr : ∀ zs : List (Int × Int), zs.drop (j + 1) = (zs.drop j).drop 1 := fun zs => by rw [List.drop_drop]
        cases hb : (ys[j].1 == k) with
        | false =>
          rw [if_pos (by decide)]
          refine ⟨ys[j].1, by simp [rd_blk b2], ys[j].2, by simp [rd_blk b2], ?_⟩
          obtain ⟨a', w1', w4, w5⟩ := hoy2.set encR_len (i := i) (by omega) (x := ys[j]) (K := fun h24 => J [.int .i64 (IntKind.wrap .i64 ((i : Int) + 1))] h24) fun g3 ho3 f3 => by
            refine hJ _ _ ?_
            rw [wrap64 (by omega) (by omega), wrap64 (by omega) (by omega)]
            have hil : i < ys.length := by omega
            have := ih (i + 1) (j + 1) g3 (ys.set i ys[j]) (by omega) (by omega) (by simpa using hyl) ?_ ?_ ((eg.trans0 f02).trans f3 fun b hb _ => hb) ho3
            · simpa using this
            · rw [htk, List.filter_append, ← hyt, List.filter_cons, if_pos (by rw [← hyj]; simp; simpa using hb), List.filter_nil, List.take_add_one, List.getElem?_set_self hil, List.take_set_of_le (Nat.le_refl _), hyj]
              rfl
            · rw [List.drop_set_of_lt (by omega), hdr, hyd, ← hdr]
          rw [w1] at w1'
          cases w1'
          exact ⟨by omega, by omega, w4, w5⟩
        | true =>
          rw [if_neg (by decide)]
          refine hJ _ _ ?_
          rw [wrap64 (by omega) (by omega)]
          have := ih i (j + 1) g2 ys (by omega) (by omega) hyl ?_ ?_ (eg.trans0 f02) hoy2
          · simpa using this
          · rw [htk, List.filter_append, ← hyt, List.filter_cons, if_neg (by rw [← hyj]; simp; simpa using hb), List.filter_nil, List.append_nil]
          · rw [hdr, hyd, ← hdr]
    rw [wrap64 (by omega) (by omega)]
    have htk0 : (xs.take i0).filter (fun r => r.1 != k) = xs.take i0 := List.filter_eq_self.2 fun r hr => by
      obtain ⟨j, hj, rfl⟩ := List.mem_iff_getElem.1 hr
      rw [List.getElem_take]
      simp at hj
      simpa using hbef j (by omega) (by omega)
    have := key (xs.length - (i0 + 1)) i0 (i0 + 1) h1 xs (by omega) (by omega) rfl (by
      rw [List.take_add_one, List.getElem?_eq_getElem hi0, List.filter_append, htk0]
      simp [hk0]) rfl (e1.mono (by simp)) (ho.ext0 e1)
    simpa using this
/-- What is granted, request by request. -/
def grantQ : List (Int × Nat) → List (Int × Int) → List Int → List (Int × Int) → List (Int × Nat) × List (Int × Int) × List Int
  | L, W, O, [] => (L, W, O)
  | L, W, O, r :: R => if barsQ L W r.1 r.2 ≠ [] then grantQ L (W ++ [r]) O R else grantQ (aput L r.1 (hasM L r.1 ||| bitM r.2)) W (O ++ [r.1]) R
theorem grantQ_cons (L : List (Int × Nat)) (W : List (Int × Int)) (O : List Int) (r : Int × Int) (R : List (Int × Int)) : grantQ L W O (r :: R) = if barsQ L W r.1 r.2 ≠ [] then grantQ L (W ++ [r]) O R else grantQ (aput L r.1 (hasM L r.1 ||| bitM r.2)) W (O ++ [r.1]) R := rfl
theorem hasM_lt {L : List (Int × Nat)} (hL : ∀ p ∈ L, p.2 < 512) (k : Int) : hasM L k < 512 := by
  unfold hasM
  cases hf : afind L k with
  | none => simp
  | some v => exact hL _ (afind_mem hf)
theorem zc_int : (zc PP T_int).size = 1 := by kernel_rfl
theorem Grant_s {c : QC} (hq : QAt lo h c) (hqk : QOk c.m) (hlo : lo ≤ h.size)
    (hQ : ∀ h' s' c' S, QAt lo h' c' → c'.q = c.q → c'.hs = c.hs → c'.m = ⟨(grantQ c.m.has [] [] c.m.waits).1, (grantQ c.m.has [] [] c.m.waits).2.1⟩ → (∀ b ∈ sBlk c'.ws, h.size ≤ b) → Ext [c.q, c.hs] h h' → Own T_int 1 encIL h.size h' s' (grantQ c.m.has [] [] c.m.waits).2.2 → S = [c.q, c.hs] → Q [.slice s'.a s'.n s'.c] h') :
    S_lock_queue_grant (some ⟨c.q, 0, none⟩) h Q := by
  refine O_lock_queue_grant _ ?_
  unfold F_lock_queue_grant
  simp only [nilW_some, addr_mk, rd_blk hq.blk]
  refine ⟨c.ws, rfl, ?_⟩
  have hlw := hqk.lenW
  have hn := hq.waits.1
  have hql := blk_lt hq.blk
  have hhl := hq.has.lt
  have hqh : c.q ≠ c.hs := fun e => by
    obtain ⟨es, cl, g, _⟩ := hq.has
    rw [← e] at g
    exact blk_map hq.blk g
  have hqw : c.q ∉ sBlk c.ws := fun hb => by
    obtain ⟨c', g⟩ := own_blk hq.waits hb
    exact ne_qr (blk_ty hq.blk g)
  have hhw : c.hs ∉ sBlk c.ws := fun hb => by
    obtain ⟨c', g⟩ := own_blk hq.waits hb
    obtain ⟨es, cl, g2, _⟩ := hq.has
    exact blk_map g g2
  intro X hX
  have key : ∀ d i g l s L W O, d + i = c.m.waits.length → Ext [c.hs] h g → QAt lo g ⟨c.q, c.hs, c.ws, ⟨L, c.m.waits⟩⟩ → (∀ p ∈ L, p.2 < 512) → (∀ p ∈ L, 1 ≤ p.1 ∧ p.1 ≤ 200) → (L.map Prod.fst).Nodup →
      Own T_lock_request 2 encR h.size g s W → (∀ r ∈ W, 1 ≤ r.1 ∧ r.1 ≤ 200) → W.length ≤ i → Own T_int 1 encIL h.size g l O → O.length ≤ i → grantQ c.m.has [] [] c.m.waits = grantQ L W O (c.m.waits.drop i) → X [.slice l.a l.n l.c, .slice s.a s.n s.c, .int .i64 (i : Int)] g := by
    intro d
    induction d with
    | zero =>
      intro i g l s L W O hi eg hqg hL1 hL2 hLn hoW hW hWl hoO hOl hgr
      refine hX _ _ _ _ ?_
      rw [if_neg (by simp; omega)]
      rw [List.drop_eq_nil_of_le (by omega)] at hgr
      refine st_blk hqg.blk (by simp) fun g1 u1 b1 f1 => ?_
      have hsf : ∀ b ∈ sBlk s, b ≠ c.q := fun b hb e => by
        have := (own_ltG hoW b hb).1
        omega
      have hlf : ∀ b ∈ sBlk l, b ≠ c.q := fun b hb e => by
        have := (own_ltG hoO b hb).1
        omega
      refine hQ g1 l ⟨c.q, c.hs, s, ⟨L, W⟩⟩ _ ⟨by simpa using b1, hqg.has.ext f1 (by simp; exact fun e => hqh e.symm), (hoW.ext f1 fun a ha hm => by simp at hm; exact hsf _ (mem_sBlk.2 ⟨a, ha, rfl⟩) hm).mono hlo, hq.loq, hq.loh⟩ rfl rfl ?_ (fun b hb => (own_ltG hoW b hb).1) ?_ ?_ rfl
      · rw [hgr]; rfl
      · exact (eg.mono fun b hb _ => by simp at hb; simp [hb]).trans f1 fun b hb _ => by simp at hb; simp [hb]
      · rw [hgr]
        exact hoO.ext f1 fun a ha hm => by simp at hm; exact hlf _ (mem_sBlk.2 ⟨a, ha, rfl⟩) hm
    | succ d ih =>
      intro i g l s L W O hi eg hqg hL1 hL2 hLn hoW hW hWl hoO hOl hgr
      refine hX _ _ _ _ ?_
      rw [if_pos (by simp; omega)]
      intro J hJ
      have hil : i < c.m.waits.length := by omega
      have hdr : c.m.waits.drop i = c.m.waits[i] :: c.m.waits.drop (i + 1) := List.drop_eq_getElem_cons hil
      have hri := (hqk.wait _ (List.getElem_mem hil))
      obtain ⟨a, w1, w2, w3⟩ := rdR hqg.waits.sl.reads hil
      simp only at w1 w2 w3
      rw [w1]
      simp only [nilW_some, Int.toNat_natCast]
      refine ⟨by omega, by omega, _, w2, _, w3, ?_⟩
      refine varI rfl rfl fun g1 u1 b1 f1 => ?_
      refine ⟨c.m.waits[i].1, by simp [rd_blk b1], c.m.waits[i].2, by simp [rd_blk b1], ?_⟩
      have hq1 := hqg.ext0 f1
      have hlL : L.length ≤ 200 := by
        have := len200 hLn fun x hx => by
          obtain ⟨p, hp, rfl⟩ := List.mem_map.1 hx
          exact hL2 p hp
        simpa using this
      refine bars_s (c := ⟨c.q, c.hs, c.ws, ⟨L, c.m.waits⟩⟩) hq1 hL1 hL2 hLn (hoW.ext0 f1).sl.reads hW _ _ (by simp only; omega) (by omega) fun g2 s2 f2 ho2 => ⟨s2, rfl, ?_⟩
      have f02 := f1.trans0 f2
      have hq2 := hqg.ext0 f02
      have b2 := f2.get b1 (by simp)
      have hn2 := ho2.1
      have zg := eg.sz
      have z02 := f02.sz
      rw [hdr] at hgr
      rw [grantQ_cons] at hgr
      by_cases hbe : barsQ L W c.m.waits[i].1 c.m.waits[i].2 = []
      · simp only at hn2
        rw [hbe] at hn2
        rw [if_neg (by simp at hn2 ⊢; omega)]
        rw [if_neg (by simpa using hbe)] at hgr
        simp only [rd_blk hq2.blk]
        refine ⟨some c.hs, rfl, c.m.waits[i].1, by simp [rd_blk b2], ?_⟩
        obtain ⟨es2, v1, v2, v, v3, v4⟩ := hasM_get hq2.has c.m.waits[i].1
        refine ⟨es2, v1, v2, v, v3, c.m.waits[i].2, by simp [rd_blk b2], ?_⟩
        have hm8 := isM_iff.1 hri.2
        refine ⟨by omega, ?_⟩
        subst v4
        have hml := hasM_lt hL1 c.m.waits[i].1
        have hbl := bitM_lt hri.2
        simp only
        rw [iShl_bit hri.2, iOr_nat (by omega) (by omega)]
        obtain ⟨es4, c4, y1, y2, y3⟩ := hq2.has.put c.m.waits[i].1 (hasM L c.m.waits[i].1 ||| bitM c.m.waits[i].2)
        refine ⟨c.hs, es4, c4, rfl, y1, y2, ?_⟩
        refine setI y1 fun g3 u3 k3 f3 => ?_
        have b3 := f3.get b2 (by simp; omega)
        refine ⟨c.m.waits[i].1, by simp [rd_blk b3], ?_⟩
        have f03 : Ext [c.hs] g g3 := (f02.mono (by simp)).trans f3 fun b hb _ => hb
        have hhs : ∀ {T : TypeId} {sz : Nat} {α : Type} {enc : α → List Value} {s : Sl} {xs : List α}, Own T sz enc h.size g s xs → Own T sz enc h.size g3 s xs := fun ho => ho.ext f03 fun a ha hm => by
          simp at hm
          have := (own_ltG ho _ (mem_sBlk.2 ⟨a, ha, rfl⟩)).1
          omega
        refine app1 (x := c.m.waits[i].1) (hhs hoO) rfl zc_int encIL_len encIL_one (by omega) (by omega) (by omega) fun l4 g4 ho4 f4 hb4 => ?_
        refine hJ _ _ _ ?_
        rw [wrap64 (by omega) (by omega)]
        have hlnot : c.hs ∉ sBlk l ∧ c.q ∉ sBlk l := ⟨fun hb => by have := (own_ltG hoO _ hb).1; omega, fun hb => by have := (own_ltG hoO _ hb).1; omega⟩
        have hsl : ∀ b ∈ sBlk s, b ∉ sBlk l := fun b hb hb' => by
          obtain ⟨c1, g1⟩ := own_blk hoW hb
          obtain ⟨c2, g2⟩ := own_blk hoO hb'
          exact absurd (blk_ty g1 g2) (by decide)
        have hwl : ∀ b ∈ sBlk c.ws, b ∉ sBlk l := fun b hb hb' => by
          have := (own_ltG hq.waits b hb).2
          have := (own_ltG hoO b hb').1
          omega
        have := ih (i + 1) g4 l4 s (aput L c.m.waits[i].1 (hasM L c.m.waits[i].1 ||| bitM c.m.waits[i].2)) W (O ++ [c.m.waits[i].1]) (by omega) ?_ ?_ ?_ ?_ (aput_nodup hLn _ _) ((hhs hoW).ext f4 fun a ha hm => hsl _ (mem_sBlk.2 ⟨a, ha, rfl⟩) hm) hW (by omega) ho4 (by simp; omega) hgr
        · simpa using this
        · refine (eg.trans f03 fun b hb _ => hb).trans f4 fun b hb hlt => ?_
          have := (own_ltG hoO b hb).1
          omega
        · refine ⟨f4.get (f3.get hq2.blk (by simp; exact hqh)) hlnot.2, (y3 g3 k3).ext f4 hlnot.1, (hq2.waits.ext f3 fun a ha hm => ?_).ext f4 fun a ha hm => hwl _ (mem_sBlk.2 ⟨a, ha, rfl⟩) hm, hq.loq, hq.loh⟩
          simp at hm
          exact hhw (hm ▸ mem_sBlk.2 ⟨a, ha, rfl⟩)
        · intro p hp
          rcases mem_aput hp with rfl | g5
          · exact Nat.or_lt_two_pow (n := 9) hml hbl
          · exact hL1 p g5
        · intro p hp
          rcases mem_aput hp with rfl | g5
          · exact hri.1
          · exact hL2 p g5
      · rw [if_pos (by simpa using hbe)] at hgr
        have hpos : 0 < (barsQ L W c.m.waits[i].1 c.m.waits[i].2).length := List.length_pos_iff.2 hbe
        simp only at hn2
        rw [if_pos (by simp; omega)]
        refine ⟨c.m.waits[i].1, by simp [rd_blk b2], c.m.waits[i].2, by simp [rd_blk b2], ?_⟩
        refine app1 (x := c.m.waits[i]) (hoW.ext0 f02) rfl zc_req encR_len encR_one (by omega) (by omega) (by omega) fun s4 g4 ho4 f4 hb4 => ?_
        refine hJ _ _ _ ?_
        rw [wrap64 (by omega) (by omega)]
        have hsnot : c.hs ∉ sBlk s ∧ c.q ∉ sBlk s := ⟨fun hb => by have := (own_ltG hoW _ hb).1; omega, fun hb => by have := (own_ltG hoW _ hb).1; omega⟩
        have hsl : ∀ b ∈ sBlk l, b ∉ sBlk s := fun b hb hb' => by
          obtain ⟨c1, g1⟩ := own_blk hoO hb
          obtain ⟨c2, g2⟩ := own_blk hoW hb'
          exact absurd (blk_ty g1 g2) (by decide)
        have hws : ∀ b ∈ sBlk c.ws, b ∉ sBlk s := fun b hb hb' => by
          have := (own_ltG hq.waits b hb).2
          have := (own_ltG hoW b hb').1
          omega
        have := ih (i + 1) g4 l s4 L (W ++ [c.m.waits[i]]) O (by omega) ?_ ⟨f4.get hq2.blk hsnot.2, hq2.has.ext f4 hsnot.1, hq2.waits.ext f4 fun a ha hm => hws _ (mem_sBlk.2 ⟨a, ha, rfl⟩) hm, hq.loq, hq.loh⟩ hL1 hL2 hLn ho4 (fun r hr => ?_) (by simp; omega) ((hoO.ext0 f02).ext f4 fun a ha hm => hsl _ (mem_sBlk.2 ⟨a, ha, rfl⟩) hm) (by omega) hgr
        · simpa using this
        · refine (eg.trans0 f02).trans f4 fun b hb hlt => ?_
          have := (own_ltG hoW b hb).1
          omega
        · rcases List.mem_append.1 hr with g5 | g5
          · exact hW r g5
          · simp at g5
            subst g5
            exact hri.1
  have := key c.m.waits.length 0 h ⟨none, 0, 0⟩ ⟨none, 0, 0⟩ c.m.has [] [] (by omega) (Ext.refl _ _) hq (fun p hp => (hqk.set p hp).2) hqk.hold hqk.nd (Own.nil _ _) (by simp) (by simp) (Own.nil _ _) (by simp) (by simp)
  simpa using this
end
end Go.Lift

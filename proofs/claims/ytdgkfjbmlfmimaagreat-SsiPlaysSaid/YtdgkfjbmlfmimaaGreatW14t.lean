/- Edges: the reference's log. -/
import Derived.Test.YtdgkfjbmlfmimaaGreatS15o
import Derived.Test.YtdgkfjbmlfmimaaGreatLf15r
set_option linter.unusedSimpArgs false
set_option linter.unusedVariables false
namespace Go.Lift.E14
open Go Go.Proofs
set_option maxRecDepth 100000
section
variable {α : Type} {T : TypeId} {sz : Nat} {enc : α → List Value}
/-- One cell of an element changes. -/
theorem _root_.Go.Lift.Own.fldN {lo : Nat} {h : Hp} {s : Sl} {xs : List α} (ho : Own T sz enc lo h s xs) (he : ∀ x, (enc x).length = sz) {i k : Nat} (hi : i < xs.length) (hk : k < sz) {y : α} {v : Value} (hy : enc y = (enc xs[i]).set k v) {K : Hp → Prop}
  (H : ∀ h1, Own T sz enc lo h1 s (xs.set i y) → Ext (sBlk s) h h1 → h1.size = h.size → K h1) : ∃ a, s.a = some a ∧ stOk h (Addr.add a (i * sz + k)) 1 ∧ wth (wrs h (Addr.add a (i * sz + k)) 0 [v]) K := by
 cases hsa : s.a with
 | none => have := (ho.2.1 hsa).1; subst this; simp at hi
 | some a =>
  obtain ⟨b, c, h1, h2, h3, h4, h5, h6⟩ := ho.2.2 a hsa
  subst h1
  refine ⟨_, rfl, ?_⟩
  have hn := ho.1
  have g1 : (i + 1) * sz ≤ s.n * sz := Nat.mul_le_mul_right sz (by omega)
  have g2 : s.n * sz ≤ s.c * sz := Nat.mul_le_mul_right sz h4
  rw [Nat.add_mul] at g1
  rw [addr_mk, Nat.zero_add]
  refine st_blk h3 (by omega) fun h7 s7 b7 e7 => ?_
  refine H h7 ⟨by simp [hn], fun e => (by rw [hsa] at e; cases e), fun a' ha' => ?_⟩ (by unfold sBlk; rw [hsa]; exact e7) s7
  rw [hsa] at ha'
  cases ha'
  refine ⟨b, _, rfl, h2, b7, h4, by simpa using h5, ?_⟩
  have hz : 0 < sz := by omega
  apply List.ext_getElem?
  intro j
  rcases Nat.lt_or_ge j (s.n * sz) with g | g
  ·have hq : j / sz < xs.length := by rw [← hn]; exact (Nat.div_lt_iff_lt_mul hz).2 g
   have hm := Nat.mod_lt j hz
   have ht : j / sz * sz + j % sz = j := by rw [Nat.mul_comm]; exact Nat.div_add_mod j sz
   have e1 := flatMap_get he xs (j / sz) (j % sz) hq hm
   have e2 := flatMap_get he (xs.set i y) (j / sz) (j % sz) (by simpa using hq) hm
   rw [ht] at e1 e2
   rw [e2, List.getElem?_take_of_lt g, Array.getElem?_toList, putAt_get0 _ _ _ _ (by simp; omega), List.getElem_set]
   have e3 : (c.toList.take (s.n * sz))[j]? = (enc xs[j / sz])[j % sz]? := by rw [h6, e1]
   rw [List.getElem?_take_of_lt g, Array.getElem?_toList] at e3
   by_cases hji : j / sz = i
   ·subst hji
    rw [if_pos rfl, hy, List.getElem?_set]
    by_cases hjk : j % sz = k
    ·rw [if_pos (by simp only [List.length_singleton]; omega), if_pos hjk.symm, if_pos (by rw [he]; omega)]
     have : j - (j / sz * sz + k) = 0 := by omega
     rw [this]
     rfl
    ·rw [if_neg (by simp only [List.length_singleton]; omega), if_neg (fun e => hjk e.symm)]
     exact e3
   ·have hneg : ¬ (i * sz + k ≤ j ∧ j < i * sz + k + [v].length) := by
     simp only [List.length_singleton]
     intro hh
     have : j = i * sz + k := by omega
     apply hji
     rw [this, Nat.mul_comm, Nat.mul_add_div hz, Nat.div_eq_of_lt hk, Nat.add_zero]
    rw [if_neg hneg, if_neg (fun e => hji e.symm)]
    exact e3
  ·rw [List.getElem?_eq_none (by simp; omega), List.getElem?_eq_none (by rw [flatMap_length he]; simp; rw [← hn]; exact g)]
end
def encR (x : TxM) : List Value := [.int .i64 x.state, .int .i64 x.snap, .int .i64 x.csn, .bool x.reads]
theorem encR_len (x : TxM) : (encR x).length = 4 := rfl
theorem encR_one (x : TxM) : ∀ v ∈ encR x, oneCell v = true := by
 intro v hv
 simp [encR] at hv
 rcases hv with rfl | rfl | rfl | rfl <;> rfl
theorem zc_tx : (zc PP T_liveryref08_Tx).size = 4 := by kernel_rfl
/-- The reference's log. -/
structure RAt (lo : Nat) (h : Hp) (b : Nat) (L : LM) (s : Sl) : Prop where
 blk : Blk h b #[.slice s.a s.n s.c, .int .i64 L.clock] T_liveryref08_Log
 own : Own T_liveryref08_Tx 4 encR lo h s L.l
 len : L.l.length ≤ 200
 clk : 0 ≤ L.clock ∧ L.clock ≤ 2 ^ 40
section
variable {lo : Nat} {h h' : Hp} {b : Nat} {L : LM} {s : Sl} {Q : List Value → Hp → Prop}
theorem RAt.ext {S : List Nat} (hR : RAt lo h b L s) (he : Ext S h h') (h1 : b ∉ S) (h2 : ∀ c ∈ sBlk s, c ∉ S) : RAt lo h' b L s :=
 ⟨he.get hR.blk h1, hR.own.ext he fun a ha hm => h2 _ (mem_sBlk.2 ⟨a, ha, rfl⟩) hm, hR.len, hR.clk⟩
theorem RAt.ext0 (hR : RAt lo h b L s) (he : Ext [] h h') : RAt lo h' b L s := hR.ext he (by simp) (by simp)
theorem RAt.nb (hR : RAt lo h b L s) : b ∉ sBlk s := fun hm => hR.own.other (T' := T_liveryref08_Log) (by decide) b hm _ _ hR.blk
theorem Get_s (hR : RAt lo h b L s) (x : Int) (hQ : ∀ h', Ext [] h h' → Q [.agg (encR (txL L x)).toArray] h') : S_liveryref08_Log_Get (some ⟨b, 0, none⟩) x h Q := by
 refine O_liveryref08_Log_Get _ _ ?_
 unfold F_liveryref08_Log_Get
 refine newI fun h1 s1 b1 e1 => ?_
 have hR1 := hR.ext0 e1
 have hn := hR1.own.1
 have hlen := hR.len
 intro J hJ
 simp only [nilW_some] at hJ ⊢
 have jT : ¬ hasL L x → J [.bool true] h1 := fun hno => by
  refine hJ _ _ ?_
  rw [if_pos rfl]
  refine st_blk b1 (by simp) fun h2 s2 b2 e2 => ?_
  refine ⟨0, by rw [addr_mk, rd_blk b2]; rfl, 0, by rw [addr_mk, rd_blk b2]; rfl, 0, by rw [addr_mk, rd_blk b2]; rfl, false, by rw [addr_mk, rd_blk b2]; rfl, ?_⟩
  have := hQ h2 (e1.trans e2 fun b hb hlt => by simp at hb; omega)
  rw [txL_no hno] at this
  exact this
 by_cases hx1 : x < 1
 ·rw [if_pos (by simpa using hx1)]
  exact jT fun hh => by have := hh.1; omega
 rw [if_neg (by simpa using hx1)]
 refine ⟨s, by rw [addr_mk, rd_blk hR1.blk]; rfl, ?_⟩
 by_cases hx2 : x > (s.n : Int)
 ·rw [decide_eq_true hx2]
  exact jT fun hh => by have := hh.2; omega
 rw [decide_eq_false hx2]
 refine hJ _ _ ?_
 rw [if_neg (by decide)]
 have hh : hasL L x := ⟨by omega, by omega⟩
 obtain ⟨hi, e, e2⟩ := txL_has hh
 refine ⟨s, by rw [addr_mk, rd_blk hR1.blk]; rfl, ?_⟩
 obtain ⟨a, ha, hrd⟩ := hR1.own.sl.reads.rd encR_len hi
 rw [ha]
 simp only [nilW_some]
 have hw : IntKind.wrap .i64 (x - 1) = ((x.toNat - 1 : Nat) : Int) := by rw [wrap64 (by omega) (by omega)]; omega
 rw [hw, Int.toNat_natCast]
 refine ⟨by omega, by omega, ?_⟩
 rw [← e] at hrd
 have r : ∀ k, k < 4 → rd h1 (Addr.add (Addr.add a ((x.toNat - 1) * 4)) k) = (encR (txL L x))[k]? := fun k hk => by rw [addr_add_add]; exact hrd k hk
 refine ⟨_, r 0 (by omega), _, r 1 (by omega), _, r 2 (by omega), _, r 3 (by omega), ?_⟩
 refine st_blk b1 (by simp) fun h2 s2 b2 e2 => ?_
 refine ⟨(txL L x).state, by rw [addr_mk, rd_blk b2]; rfl, (txL L x).snap, by rw [addr_mk, rd_blk b2]; rfl, (txL L x).csn, by rw [addr_mk, rd_blk b2]; rfl, (txL L x).reads, by rw [addr_mk, rd_blk b2]; rfl, ?_⟩
 exact hQ h2 (e1.trans e2 fun b hb hlt => by simp at hb; omega)
theorem BeginR_s (hR : RAt lo h b L s) (r : Bool) (hlo : lo ≤ h.size) (hQ : ∀ h' s', RAt lo h' b (beginL L r) s' → Ext [b] h h' → (∀ c ∈ sBlk s', c ∈ sBlk s ∨ h.size ≤ c) → Q [.int .i64 (if L.l.length = 200 then 0 else (L.l.length : Int) + 1), .int .i64 (if L.l.length = 200 then 74 else 0)] h') : S_liveryref08_Log_Begin (some ⟨b, 0, none⟩) r h Q := by
 refine O_liveryref08_Log_Begin _ _ ?_
 unfold F_liveryref08_Log_Begin
 simp only [nilW_some]
 have hn := hR.own.1
 have hlen := hR.len
 have r0 : ∀ {g : Hp}, Blk g b #[.slice s.a s.n s.c, .int .i64 L.clock] T_liveryref08_Log → rd g (Addr.add ⟨b, 0, none⟩ 0) = some (.slice s.a s.n s.c) := fun hb => by rw [addr_mk, rd_blk hb]; rfl
 have r1 : ∀ {g : Hp}, Blk g b #[.slice s.a s.n s.c, .int .i64 L.clock] T_liveryref08_Log → rd g (Addr.add ⟨b, 0, none⟩ 1) = some (.int .i64 L.clock) := fun hb => by rw [addr_mk, rd_blk hb]; rfl
 refine ⟨s, r0 hR.blk, ?_⟩
 have hbl := blk_lt hR.blk
 by_cases hf : L.l.length = 200
 ·rw [if_pos (by simp; omega)]
  have := hQ h s
  rw [begin_full r hf, if_pos hf, if_pos hf] at this
  exact this hR (Ext.refl _ _) fun c hc => Or.inl hc
 rw [if_neg (by simp; omega)]
 intro J hJ
 refine ⟨s, r0 hR.blk, L.clock, r1 hR.blk, ?_⟩
 have hrd := hR.own.sl.reads
 obtain ⟨t, ht⟩ : ∃ t : TxM, t = ⟨1, 0, L.clock, r⟩ := ⟨_, rfl⟩
 have hbe : beginL L r = { L with l := L.l ++ [t] } := by unfold beginL; rw [if_neg hf, ht]
 have fin : ∀ (l' : Sl) (g g2 : Hp), Own T_liveryref08_Tx 4 encR g.size g2 l' (L.l ++ [t]) → Ext [] h g2 → lo ≤ g.size → h.size ≤ g.size → stOk g2 (Addr.add ⟨b, 0, none⟩ 0) 1 ∧ wth (wrs g2 (Addr.add ⟨b, 0, none⟩ 0) 0 [.slice l'.a l'.n l'.c]) fun h18 => J [] h18 := by
  intro l' g g2 ho eg hlo' hhg
  rw [addr_mk]
  have hb2 := eg.get hR.blk (by simp)
  refine st_blk hb2 (by simp) fun g3 s3 b3 e3 => ?_
  refine hJ _ ?_
  have hn' := ho.1
  refine ⟨l', by rw [addr_mk, rd_blk b3]; rfl, ?_⟩
  have hnb : b ∉ sBlk l' := fun hm => by have := ho.blk b hm; omega
  have := hQ g3 l'
  rw [hbe, if_neg hf, if_neg hf] at this
  have hl' : (l'.n : Int) = (L.l.length : Int) + 1 := by rw [hn']; simp
  rw [hl']
  exact this ⟨b3, (ho.ext e3 fun a ha hm => by simp at hm; exact hnb (mem_sBlk.2 ⟨a, ha, hm⟩)).mono hlo', by simp; omega, hR.clk⟩ ((eg.mono (by simp)).trans e3 fun c hc _ => hc) fun c hc => Or.inr (by have := ho.blk c hc; omega)
 have htc : ∀ g : Hp, g.push (Obj.cells #[(Value.int .i64 (1 : Int)), (Value.int .i64 L.clock), (Value.int .i64 (0 : Int)), (Value.bool r)] T_liveryref08_Tx) = g.push (Obj.cells (encR t).toArray T_liveryref08_Tx) := fun g => by rw [ht]; rfl
 refine ⟨newI fun h1 s1 b1 e1 => ?_, newI fun h1 s1 b1 e1 => ?_⟩
 ·have w1 := e1.get hR.blk (by simp)
  refine ⟨r1 w1, r0 w1, ?_, ?_⟩
  ·refine clG encR_len encR_one zc_tx (by decide) (hrd.ext0 e1).2.2 hn (by omega) b1 (lo' := h.size) (Nat.le_refl _) fun l1 g2 o2 e2 hb2 => ?_
   have e12 : Ext [] h g2 := e1.trans e2 fun c hc hlt => by simp at hc; omega
   refine ⟨r1 (e12.get hR.blk (by simp)), ?_⟩
   rw [htc]
   refine newI fun h3 s3 b3 e3 => ?_
   refine oneG encR_len encR_one zc_tx (by decide) (k := t) (o2.ext0 e3) b3 (by omega) (by have := e12.sz; omega) fun s' g' ho' he' hb' => ?_
   have hsl := own_ltG (o2.ext0 e3)
   exact fin s' h g' ho' ((e12.trans0 e3).trans he' fun c hc hlt => by have := hsl c hc; omega) hlo (Nat.le_refl _)
  ·rw [htc]
   refine newI fun h2 s2 b2 e2 => ?_
   have e12 := e1.trans0 e2
   refine ⟨r0 (e12.get hR.blk (by simp)), ?_⟩
   refine clOneG encR_len encR_one zc_tx (by decide) (k := t) (hrd.ext0 e12) rfl (by omega) (e2.get b1 (by simp)) (lo' := h.size) (Nat.le_refl _) b2 (by omega) fun s' g' ho' he' => ?_
   exact fin s' h g' ho' (e12.trans he' fun c hc hlt => by simp at hc; omega) hlo (Nat.le_refl _)
 ·have w1 := e1.get hR.blk (by simp)
  refine ⟨r0 w1, newI fun h2 s2 b2 e2 => ?_⟩
  have e12 := e1.trans0 e2
  refine ⟨r0 (e12.get hR.blk (by simp)), ?_⟩
  have b1' : Blk h2 h.size (encR t).toArray T_liveryref08_Tx := by
   have := e2.get b1 (by simp)
   rw [ht]
   exact this
  refine clOneG encR_len encR_one zc_tx (by decide) (k := t) (hrd.ext0 e12) rfl (by omega) b2 (lo' := h.size) (by omega) b1' (by omega) fun s' g' ho' he' => ?_
  exact fin s' h g' ho' (e12.trans he' fun c hc hlt => by simp at hc; omega) hlo (Nat.le_refl _)
end
end Go.Lift.E14
namespace Go.Lift.E14
open Go Go.Proofs
set_option maxRecDepth 100000
section
variable {lo : Nat} {h h' : Hp} {b : Nat} {L : LM} {s : Sl} {Q : List Value → Hp → Prop}
theorem encR4 (t : TxM) {K : Int → Int → Int → Bool → Prop} (H : K t.state t.snap t.csn t.reads) : ∃ n3 : Int, ∃ n4 : Int, ∃ n5 : Int, ∃ b6 : Bool, [Value.agg (encR t).toArray] = [(Value.agg #[(Value.int .i64 n3), (Value.int .i64 n4), (Value.int .i64 n5), (Value.bool b6)])] ∧ K n3 n4 n5 b6 := ⟨_, _, _, _, rfl, H⟩
theorem RAt.fld (hR : RAt lo h b L s) {x : Int} (hx : hasL L x) {k : Nat} (hk : k < 4) {v : Value} {t : TxM} (ht : encR t = (encR (txL L x)).set k v) {K : Hp → Prop}
  (H : ∀ h', RAt lo h' b (setL L x t) s → Ext (sBlk s) h h' → h'.size = h.size → K h') : ∃ a, s.a = some a ∧ (0 ≤ IntKind.wrap .i64 (x - 1) ∧ IntKind.wrap .i64 (x - 1) < s.n) ∧ stOk h (Addr.add (Addr.add a (Int.toNat (IntKind.wrap .i64 (x - (1 : Int))) * 4)) k) 1 ∧ wth (wrs h (Addr.add (Addr.add a (Int.toNat (IntKind.wrap .i64 (x - (1 : Int))) * 4)) k) 0 [v]) K := by
 obtain ⟨hi, e, e2⟩ := txL_has hx
 have hn := hR.own.1
 have hlen := hR.len
 have h1 := hx.1
 have hw : IntKind.wrap .i64 (x - 1) = ((x.toNat - 1 : Nat) : Int) := by rw [wrap64 (by omega) (by omega)]; omega
 rw [hw, Int.toNat_natCast]
 obtain ⟨a, ha, k1⟩ := hR.own.fldN encR_len hi hk (y := t) (v := v) (by rw [ht, e]) (K := K) fun h' ho he hz => H h' ⟨he.get hR.blk hR.nb, ho, by rw [setL_len]; exact hlen, hR.clk⟩ he hz
 rw [← addr_add_add] at k1
 exact ⟨a, ha, by omega, k1⟩
theorem CommitR_s (hR : RAt lo h b L s) (x : Int) (hk : L.clock < 2 ^ 40) (hok : ∀ x, hasL L x ↔ (txL L x).state ≠ 0) (hQ : ∀ h', RAt lo h' b (commitL L x) s → Ext (b :: sBlk s) h h' → Q [.int .i64 (if runsL L x then L.clock + 1 else 0), .int .i64 (if runsL L x then 0 else 76)] h') : S_liveryref08_Log_Commit (some ⟨b, 0, none⟩) x h Q := by
 refine O_liveryref08_Log_Commit _ _ ?_
 unfold F_liveryref08_Log_Commit
 refine Get_s hR x fun h1 e1 => encR4 _ ?_
 have hR1 := hR.ext0 e1
 by_cases hs : (txL L x).state = 1
 ·have hh : hasL L x := (hok x).2 (by omega)
  have hr : runsL L x := ⟨hh, hs⟩
  have : ((txL L x).state != 1) = false := by simp [hs]
  rw [this, if_neg (by decide)]
  simp only [nilW_some]
  have hclk := hR.clk
  refine ⟨L.clock, by rw [addr_mk, rd_blk hR1.blk]; rfl, ?_⟩
  rw [addr_mk]
  refine st_blk hR1.blk (by simp) fun h2 s2 b2 e2 => ?_
  rw [wrap64 (by omega) (by omega)] at b2
  have hR2 : RAt lo h2 b { L with clock := L.clock + 1 } s := ⟨b2, hR1.own.ext e2 fun a ha hm => hR.nb (by simp at hm; exact mem_sBlk.2 ⟨a, ha, hm⟩), hR.len, by simp only; omega⟩
  refine ⟨s, by rw [addr_mk, rd_blk b2]; rfl, s, by rw [addr_mk, rd_blk b2]; rfl, L.clock + 1, by rw [rd_blk b2]; rfl, ?_⟩
  have hh2 : hasL { L with clock := L.clock + 1 } x := hh
  obtain ⟨a, ha, ⟨i1, i2⟩, k1⟩ := hR2.fld hh2 (k := 0) (by omega) (v := .int .i64 2) (t := { txL L x with state := 2 }) rfl (K := fun h18 => ixOk (IntKind.wrap .i64 (x - (1 : Int))) s.n (nilW s.a fun a19 => stOk h18 (Addr.add (Addr.add a19 (Int.toNat (IntKind.wrap .i64 (x - (1 : Int))) * 4)) 2) 1 ∧ wth (wrs h18 (Addr.add (Addr.add a19 (Int.toNat (IntKind.wrap .i64 (x - (1 : Int))) * 4)) 2) 0 [(Value.int .i64 (L.clock + 1))]) fun h20 =>
    ∃ n22 : Int, rd h20 ⟨b, 0 + 1, none⟩ = some (Value.int .i64 n22) ∧ Q [(Value.int .i64 n22), (Value.int .i64 (0 : Int))] h20)) fun h3 hR3 e3 s3 => by
   have hh3 : hasL (setL { L with clock := L.clock + 1 } x { txL L x with state := 2 }) x := (hasL_set _ _ _ _).2 hh2
   obtain ⟨a', ha', ⟨i1', i2'⟩, k2⟩ := hR3.fld hh3 (k := 2) (by omega) (v := .int .i64 (L.clock + 1)) (t := { txL L x with state := 2, csn := L.clock + 1 }) (by rw [txL_set hh2, if_pos rfl]; rfl) (K := fun h20 => ∃ n22 : Int, rd h20 ⟨b, 0 + 1, none⟩ = some (Value.int .i64 n22) ∧ Q [(Value.int .i64 n22), (Value.int .i64 (0 : Int))] h20) fun h4 hR4 e4 s4 => by
    rw [setL_set] at hR4
    refine ⟨L.clock + 1, by rw [rd_blk hR4.blk]; rfl, ?_⟩
    have := hQ h4
    unfold commitL at this
    rw [if_pos hr, if_pos hr, if_pos hr] at this
    exact this hR4 ((((e1.mono (by simp)).trans e2 fun c hc _ => by simp at hc; simp [hc]).trans e3 fun c hc _ => List.mem_cons_of_mem _ hc).trans e4 fun c hc _ => List.mem_cons_of_mem _ hc)
   refine ⟨i1', i2', ?_⟩
   rw [ha', nilW_some]
   exact k2
  rw [ha] at k1 ⊢
  simp only [nilW_some] at k1 ⊢
  exact ⟨i1, i2, k1⟩
 ·have hr : ¬ runsL L x := fun hh => hs hh.2
  have : ((txL L x).state != 1) = true := by simp [hs]
  rw [this, if_pos rfl]
  have := hQ h1
  rw [commit_no hr, if_neg hr, if_neg hr] at this
  exact this hR1 (e1.mono (by simp))
theorem AbortR_s (hR : RAt lo h b L s) (x : Int) (hok : ∀ x, hasL L x ↔ (txL L x).state ≠ 0) (hQ : ∀ h', RAt lo h' b (abortL L x) s → Ext (b :: sBlk s) h h' → Q [.int .i64 (if runsL L x then 0 else 76)] h') : S_liveryref08_Log_Abort (some ⟨b, 0, none⟩) x h Q := by
 refine O_liveryref08_Log_Abort _ _ ?_
 unfold F_liveryref08_Log_Abort
 refine Get_s hR x fun h1 e1 => encR4 _ ?_
 have hR1 := hR.ext0 e1
 by_cases hs : (txL L x).state = 1
 ·have hh : hasL L x := (hok x).2 (by omega)
  have hr : runsL L x := ⟨hh, hs⟩
  have : ((txL L x).state != 1) = false := by simp [hs]
  rw [this, if_neg (by decide)]
  simp only [nilW_some]
  refine ⟨s, by rw [addr_mk, rd_blk hR1.blk]; rfl, ?_⟩
  obtain ⟨a, ha, ⟨i1, i2⟩, k1⟩ := hR1.fld hh (k := 0) (by omega) (v := .int .i64 3) (t := { txL L x with state := 3 }) rfl (K := fun h10 => Q [(Value.int .i64 (0 : Int))] h10) fun h3 hR3 e3 s3 => by
   have := hQ h3
   unfold abortL at this
   rw [if_pos hr, if_pos hr] at this
   exact this hR3 ((e1.mono (by simp)).trans e3 fun c hc _ => List.mem_cons_of_mem _ hc)
  rw [ha, nilW_some]
  exact ⟨i1, i2, k1⟩
 ·have hr : ¬ runsL L x := fun hh => hs hh.2
  have : ((txL L x).state != 1) = true := by simp [hs]
  rw [this, if_pos rfl]
  have := hQ h1
  rw [abort_no hr, if_neg hr] at this
  exact this hR1 (e1.mono (by simp))
theorem rdX {v : Nat} {t : TxM} (hb : Blk h v (encR t).toArray T_liveryref08_Tx) : rd h (Addr.add (Addr.mk v 0 none) 0) = some (.int .i64 t.state) ∧ rd h (Addr.add (Addr.mk v 0 none) 1) = some (.int .i64 t.snap) ∧ rd h (Addr.add (Addr.mk v 0 none) 2) = some (.int .i64 t.csn) ∧ rd h (Addr.add (Addr.mk v 0 none) 3) = some (.bool t.reads) := by
 refine ⟨?_, ?_, ?_, ?_⟩ <;> (rw [addr_mk, rd_blk hb]; rfl)
theorem SeesR_s (hR : RAt lo h b L s) (x y : Int) (hok : ∀ x, hasL L x ↔ (txL L x).state ≠ 0) (hQ : ∀ h', Ext [] h h' → Q [.bool (seesL L x y)] h') : S_liveryref08_Log_Sees (some ⟨b, 0, none⟩) x y h Q := by
 refine O_liveryref08_Log_Sees _ _ _ ?_
 unfold F_liveryref08_Log_Sees
 refine Get_s hR x fun h1 e1 => encR4 _ ?_
 refine Get_s (hR.ext0 e1) y fun h2 e2 => encR4 _ ?_
 refine newI fun h3 s3 b3 e3 => newI fun h4 s4 b4 e4 => ?_
 refine st_blk (e4.get b3 (by simp)) (by simp) fun h5 s5 b5 e5 => ?_
 refine st_blk (e5.get b4 (by simp; omega)) (by simp) fun h6 s6 b6 e6 => ?_
 have e36 : Ext [] h2 h6 := (((e3.trans0 e4).trans e5 fun b hb hlt => by simp at hb; omega).trans e6 fun b hb hlt => by simp at hb; omega)
 have hQ6 := hQ h6 ((e1.trans0 e2).trans0 e36)
 have c1 : Blk h6 h2.size (encR (txL L x)).toArray T_liveryref08_Tx := e6.get b5 (by simp; omega)
 have c2 : Blk h6 h3.size (encR (txL L y)).toArray T_liveryref08_Tx := b6
 obtain ⟨p0, p1, p2, p3⟩ := rdX c1
 obtain ⟨q0, q1, q2, q3⟩ := rdX c2
 refine ⟨_, p0, ?_⟩
 by_cases hx : (txL L x).state = 0
 ·rw [if_pos (by simpa using hx)]
  have : seesL L x y = false := by
   rw [← Bool.not_eq_true, sees_iff]
   exact fun hh => (hok x).1 hh.1.1 hx
  rw [this] at hQ6
  exact hQ6
 rw [if_neg (by simpa using hx)]
 have hhx := (hok x).2 hx
 by_cases e : x = y
 ·rw [if_pos (by simpa using e)]
  have : seesL L x y = true := sees_iff.2 ⟨⟨hhx, by rw [← e]; exact hhx⟩, Or.inl e⟩
  rw [this] at hQ6
  exact hQ6
 rw [if_neg (by simpa using e)]
 refine ⟨_, q0, ?_⟩
 by_cases hs : (txL L y).state = 2
 ·rw [if_pos (by simpa using hs)]
  refine ⟨_, q2, _, p1, ?_⟩
  have hhy := (hok y).2 (by omega)
  have : seesL L x y = decide ((txL L y).csn ≤ (txL L x).snap) := by
   rw [Bool.eq_iff_iff, sees_iff, decide_eq_true_eq]
   exact ⟨fun hh => (hh.2.resolve_left e).2, fun hh => ⟨⟨hhx, hhy⟩, Or.inr ⟨hs, hh⟩⟩⟩
  rw [this] at hQ6
  exact hQ6
 ·rw [if_neg (by simpa using hs)]
  have : seesL L x y = false := by
   rw [← Bool.not_eq_true, sees_iff]
   exact fun hh => hh.2.elim e fun g => hs g.1
  rw [this] at hQ6
  exact hQ6
theorem BesideR_s (hR : RAt lo h b L s) (x y : Int) (hok : ∀ x, hasL L x ↔ (txL L x).state ≠ 0) (hQ : ∀ h', Ext [] h h' → Q [.bool (besideL L x y)] h') : S_liveryref08_Log_Beside (some ⟨b, 0, none⟩) x y h Q := by
 refine O_liveryref08_Log_Beside _ _ _ ?_
 unfold F_liveryref08_Log_Beside
 refine Get_s hR x fun h1 e1 => encR4 _ ?_
 refine Get_s (hR.ext0 e1) y fun h2 e2 => encR4 _ ?_
 have hR2 := (hR.ext0 e1).ext0 e2
 refine newI fun h3 s3 b3 e3 => newI fun h4 s4 b4 e4 => ?_
 refine st_blk (e4.get b3 (by simp)) (by simp) fun h5 s5 b5 e5 => ?_
 refine st_blk (e5.get b4 (by simp; omega)) (by simp) fun h6 s6 b6 e6 => ?_
 have e36 : Ext [] h2 h6 := (((e3.trans0 e4).trans e5 fun b hb hlt => by simp at hb; omega).trans e6 fun b hb hlt => by simp at hb; omega)
 have e06 := (e1.trans0 e2).trans0 e36
 have hR6 := hR2.ext0 e36
 have c1 : Blk h6 h2.size (encR (txL L x)).toArray T_liveryref08_Tx := e6.get b5 (by simp; omega)
 have c2 : Blk h6 h3.size (encR (txL L y)).toArray T_liveryref08_Tx := b6
 obtain ⟨p0, p1, p2, p3⟩ := rdX c1
 obtain ⟨q0, q1, q2, q3⟩ := rdX c2
 intro J hJ
 have jT : ¬ (hasL L x ∧ hasL L y ∧ x ≠ y ∧ (txL L x).state ≠ 3 ∧ (txL L y).state ≠ 3) → J [.bool true] h6 := fun hn => by
  refine hJ _ _ ?_
  rw [if_pos rfl]
  have := hQ h6 e06
  unfold besideL at this
  rw [decide_eq_false hn, Bool.false_and, Bool.false_and] at this
  exact this
 by_cases e : x = y
 ·rw [if_pos (by simpa using e)]
  exact jT fun hh => hh.2.2.1 e
 rw [if_neg (by simpa using e)]
 refine ⟨_, p0, ?_⟩
 by_cases hx : (txL L x).state = 0
 ·rw [if_pos (by simpa using hx)]
  exact jT fun hh => (hok x).1 hh.1 hx
 rw [if_neg (by simpa using hx)]
 refine ⟨_, q0, ?_⟩
 by_cases hy : (txL L y).state = 0
 ·rw [if_pos (by simpa using hy)]
  exact jT fun hh => (hok y).1 hh.2.1 hy
 rw [if_neg (by simpa using hy)]
 refine ⟨_, p0, ?_⟩
 by_cases h3x : (txL L x).state = 3
 ·rw [if_pos (by simpa using h3x)]
  exact jT fun hh => hh.2.2.2.1 h3x
 rw [if_neg (by simpa using h3x)]
 refine ⟨_, q0, ?_⟩
 by_cases h3y : (txL L y).state = 3
 ·have : ((txL L y).state == 3) = true := by simp [h3y]
  rw [this]
  exact jT fun hh => hh.2.2.2.2 h3y
 have : ((txL L y).state == 3) = false := by simp [h3y]
 rw [this]
 refine hJ _ _ ?_
 rw [if_neg (by decide)]
 have hall : hasL L x ∧ hasL L y ∧ x ≠ y ∧ (txL L x).state ≠ 3 ∧ (txL L y).state ≠ 3 := ⟨(hok x).2 hx, (hok y).2 hy, e, h3x, h3y⟩
 refine SeesR_s hR6 x y hok fun h7 e7 => ⟨_, rfl, ?_⟩
 cases hs : seesL L x y with
 | true =>
  rw [if_neg (by decide)]
  have := hQ h7 (e06.trans0 e7)
  unfold besideL at this
  rw [decide_eq_true hall, hs] at this
  exact this
 | false =>
  rw [if_pos (by decide)]
  refine SeesR_s (hR6.ext0 e7) y x hok fun h8 e8 => ⟨_, rfl, ?_⟩
  have := hQ h8 ((e06.trans0 e7).trans0 e8)
  unfold besideL at this
  rw [decide_eq_true hall, hs] at this
  simpa using this
end
end Go.Lift.E14
namespace Go.Lift.E14
open Go Go.Proofs
set_option maxRecDepth 100000
section
variable {α : Type} {c : α → α → Int}
def posC (c : α → α → Int) (L : List α) (n : α) : Nat := (L.takeWhile fun y => decide (c y n < 0)).length
theorem posC_le (L : List α) (n : α) : posC c L n ≤ L.length := (List.takeWhile_sublist _).length_le
theorem posC_eq {L : List α} {n : α} : ∀ {p : Nat}, p ≤ L.length → (∀ j (hj : j < L.length), j < p → c L[j] n < 0) → (∀ hp : p < L.length, ¬ c L[p] n < 0) → posC c L n = p := by
 induction L with
 | nil => intro p hp _ _; simp at hp; subst hp; rfl
 | cons a L ih =>
  intro p hp h1 h2
  unfold posC
  rw [List.takeWhile_cons]
  cases p with
  | zero =>
   have := h2 (by simp)
   simp only [List.getElem_cons_zero] at this
   simp [this]
  | succ p =>
   have h0 := h1 0 (by simp) (by omega)
   simp only [List.getElem_cons_zero] at h0
   have := ih (p := p) (by simpa using hp) (fun j hj hjp => by have := h1 (j + 1) (by simpa using hj) (by omega); simpa using this) (fun hp' => by have := h2 (by simpa using hp'); simpa using this)
   unfold posC at this
   simp [h0, this]
theorem posC_spec (h3 : Cmp3 c) {L : List α} (ha : OrdC c L) (n : α) : (∀ y ∈ L.take (posC c L n), c y n < 0) ∧ ∀ y ∈ L.drop (posC c L n), ¬ c y n < 0 := by
 induction L with
 | nil => simp [posC]
 | cons a L ih =>
  obtain ⟨h1, h2⟩ := List.pairwise_cons.1 ha
  obtain ⟨g1, g2⟩ := ih h2
  unfold posC
  rw [List.takeWhile_cons]
  by_cases hx : c a n < 0
  ·rw [decide_eq_true hx]
   simp only [if_true, List.length_cons, List.take_succ_cons, List.drop_succ_cons]
   refine ⟨fun y hy => ?_, g2⟩
   rcases List.mem_cons.1 hy with rfl | hy
   ·exact hx
   ·exact g1 y hy
  ·rw [decide_eq_false hx]
   simp only [Bool.false_eq_true, if_false, List.length_nil, List.take_zero, List.drop_zero]
   refine ⟨by simp, fun y hy => ?_⟩
   rcases List.mem_cons.1 hy with rfl | hy
   ·exact hx
   ·exact fun hh => hx (h3.trans _ _ _ (h1 y hy) hh)
def insC (c : α → α → Int) (L : List α) (n : α) : List α := L.take (posC c L n) ++ [n] ++ L.drop (posC c L n)
theorem insC_mem {L : List α} {n x : α} : x ∈ insC c L n ↔ x = n ∨ x ∈ L := by
 unfold insC
 conv => rhs; rw [← List.take_append_drop (posC c L n) L]
 simp only [List.mem_append, List.mem_cons, List.not_mem_nil, or_false]
 constructor
 ·rintro ((h | h) | h)
  ·exact Or.inr (Or.inl h)
  ·exact Or.inl h
  ·exact Or.inr (Or.inr h)
 ·rintro (h | h | h)
  ·exact Or.inl (Or.inr h)
  ·exact Or.inl (Or.inl h)
  ·exact Or.inr h
theorem insC_ord (h3 : Cmp3 c) (hz : ∀ x y, c x y = 0 → x = y) {L : List α} (ha : OrdC c L) {n : α} (hn : n ∉ L) : OrdC c (insC c L n) := by
 obtain ⟨h1, h2⟩ := posC_spec h3 ha n
 unfold insC OrdC
 rw [List.append_assoc, List.pairwise_append]
 have hlt : ∀ y ∈ L.drop (posC c L n), c n y < 0 := fun y hy => by
  have := h2 y hy
  have hne : c y n ≠ 0 := fun e => hn (by rw [← hz y n e]; exact List.mem_of_mem_drop hy)
  have := h3.anti y n
  omega
 refine ⟨ha.sublist (List.take_sublist _ _), ?_, ?_⟩
 ·rw [List.singleton_append, List.pairwise_cons]
  exact ⟨hlt, ha.sublist (List.drop_sublist _ _)⟩
 ·intro a ha' b hb
  rw [List.singleton_append, List.mem_cons] at hb
  have := h1 a ha'
  rcases hb with rfl | hb
  ·exact this
  ·exact h3.trans _ _ _ this (hlt b hb)
theorem posC_at (h3 : Cmp3 c) {L : List α} (ha : OrdC c L) (n : α) : n ∈ L ↔ ∃ h : posC c L n < L.length, L[posC c L n] = n := by
 constructor
 ·intro hm
  obtain ⟨j, hj, rfl⟩ := List.getElem_of_mem hm
  have hin := List.pairwise_iff_getElem.1 ha
  have hirr := h3.irr L[j]
  have : posC c L L[j] = j := posC_eq (by omega) (fun i hi hij => hin i j hi hj hij) fun _ => by omega
  exact ⟨by omega, by simp only [this]⟩
 ·rintro ⟨h, e⟩
  rw [← e]
  exact List.getElem_mem _
end
section
variable {α : Type} {T : TypeId} {sz : Nat} {enc : α → List Value} {g : Hp}
variable {P : Program} {bytes : Nat} (hen : ∀ x, (enc x).length = sz) (hone : ∀ x, ∀ v ∈ enc x, oneCell v = true) (hz : (zc P T).size = sz) (hby : bytes ≤ 1024)
include hen hone hz hby
/-- What is read, put behind one's own. -/
theorem appG {lo' m : Nat} {ad : Option Addr} {ys zs : List α} {l1 : Sl} {K : Sl → Hp → Prop} (h1 : Own T sz enc lo' g l1 ys) (hc : cellsAt g ad (m * sz) (zs.flatMap enc)) (hm : m = zs.length) (hl : ys.length + m ≤ 2 ^ 30) (hlo : lo' ≤ g.size)
  (H : ∀ s' g', Own T sz enc lo' g' s' (ys ++ zs) → Ext (sBlk l1) g g' → (∀ b ∈ sBlk s', b ∈ sBlk l1 ∨ g.size ≤ b) → K s' g') :
  ∃ cs : List Value, cellsAt g ad (m * sz) cs ∧ appS P T bytes sz g ⟨l1.a, l1.n, l1.c⟩ m cs K := by
 refine ⟨_, hc, ?_⟩
 have hn := h1.1
 refine app_own (ys := zs) h1 hz hen (fun x _ => hone x) rfl hm (bytes_le36 hby (by simp only; omega)) (by simp only; omega) hlo fun l2 g2 h2 he2 hn2 hb2 => H l2 g2 h2 he2 hb2
/-- The first ones, one more, and the rest: put into a new slice, whose empty start is here. -/
theorem insG {lo lo' p f bk : Nat} {s : Sl} {xs : List α} {k : α} {K : Sl → Hp → Prop} (ho : Own T sz enc lo g s xs) (hp : p ≤ xs.length) (hl : xs.length ≤ 2 ^ 28) (hf : Blk g f #[] T) (hlf : lo' ≤ f) (hb : Blk g bk (enc k).toArray T) (hbf : bk ≠ f) (hs : ∀ b ∈ sBlk s, b ≠ f) (hsl : ∀ b ∈ sBlk s, b < lo') (hlo : lo' ≤ g.size)
  (H : ∀ s' g', Own T sz enc lo' g' s' (xs.take p ++ [k] ++ xs.drop p) → Ext [f] g g' → K s' g') :
  ∃ cs : List Value, cellsAt g (slAd s.a 0 s.c sz) ((p - 0) * sz) cs ∧ appS P T bytes sz g ⟨some ⟨f, 0, none⟩, 0, 0⟩ (p - 0) cs fun l1 g1 =>
  ∃ cs2 : List Value, cellsAt g1 (some ⟨bk, 0, none⟩) (1 * sz) cs2 ∧ appS P T bytes sz g1 ⟨l1.a, l1.n, l1.c⟩ 1 cs2 fun l2 g2 =>
  ∃ cs3 : List Value, cellsAt g2 (slAd s.a p s.c sz) ((s.n - p) * sz) cs3 ∧ appS P T bytes sz g2 ⟨l2.a, l2.n, l2.c⟩ (s.n - p) cs3 K := by
 have hn := ho.1
 have htl : (xs.take p).length = p := by simp; omega
 refine clG (lo' := lo') hen hone hz hby (takeCN hen ho hp) (by omega) (by omega) hf hlf fun l1 g1 o1 e1 hb1 => ?_
 have z1 := e1.sz
 have fl := blk_lt hf
 refine oneG hen hone hz hby o1 (e1.get hb (by simp; exact hbf)) (by omega) (by omega) fun l2 g2 o2 e2 hb2 => ?_
 have z2 := e2.sz
 have ho1 := ho.ext e1 fun a ha hm => hs _ (mem_sBlk.2 ⟨a, ha, rfl⟩) (by simpa using hm)
 have hlt := own_ltG ho
 have ho2 := ho1.ext e2 fun a ha hm => by
  have h1 := hsl _ (mem_sBlk.2 ⟨a, ha, rfl⟩)
  have h2 := o1.blk _ hm
  omega
 have e12 : Ext [f] g g2 := e1.trans e2 fun b hb hlt => by
  rcases hb1 b hb with q | q
  ·simp [q]
  ·omega
 refine appG hen hone hz hby o2 (dropCN hen ho2 hp) (by simp; omega) (by simp; omega) (by omega) fun l3 g3 o3 e3 hb3 => H l3 g3 o3 (e12.trans e3 fun b hb hlt => ?_)
 rcases hb2 b hb with q | q
 ·rcases hb1 b q with q | q
  ·simp [q]
  ·omega
 ·omega
end
end Go.Lift.E14
namespace Go.Lift.E14
open Go Go.Proofs
set_option maxRecDepth 100000
structure QAt (lo : Nat) (h : Hp) (q rb : Nat) (M : EM) (sl so : Sl) : Prop where
 blk : Blk h q #[.pointer (some ⟨rb, 0, none⟩), .slice sl.a sl.n sl.c, .slice so.a so.n so.c] T_liveryref14_Edges
 l : Own T_2_int 2 encP lo h sl M.m
 o : Own T_2_int 2 encP lo h so M.old
section
variable {lo : Nat} {h h' : Hp} {q rb : Nat} {M : EM} {sl so : Sl} {Q : List Value → Hp → Prop}
theorem QAt.ext {S : List Nat} (hq : QAt lo h q rb M sl so) (he : Ext S h h') (h1 : q ∉ S) (h2 : ∀ c ∈ sBlk sl, c ∉ S) (h3 : ∀ c ∈ sBlk so, c ∉ S) : QAt lo h' q rb M sl so :=
 ⟨he.get hq.blk h1, hq.l.ext he fun a ha hm => h2 _ (mem_sBlk.2 ⟨a, ha, rfl⟩) hm, hq.o.ext he fun a ha hm => h3 _ (mem_sBlk.2 ⟨a, ha, rfl⟩) hm⟩
theorem QAt.ext0 (hq : QAt lo h q rb M sl so) (he : Ext [] h h') : QAt lo h' q rb M sl so := hq.ext he (by simp) (by simp) (by simp)
theorem QAt.rd (hq : QAt lo h q rb M sl so) : Go.Lift.rd h (Addr.add ⟨q, 0, none⟩ 0) = some (.pointer (some ⟨rb, 0, none⟩)) ∧ Go.Lift.rd h (Addr.add ⟨q, 0, none⟩ 1) = some (.slice sl.a sl.n sl.c) ∧ Go.Lift.rd h (Addr.add ⟨q, 0, none⟩ 2) = some (.slice so.a so.n so.c) := by
 refine ⟨?_, ?_, ?_⟩ <;> (rw [addr_mk, rd_blk hq.blk]; rfl)
theorem QAt.nb (hq : QAt lo h q rb M sl so) : q ∉ sBlk sl ∧ q ∉ sBlk so :=
 ⟨fun hm => hq.l.other (T' := T_liveryref14_Edges) (by decide) q hm _ _ hq.blk, fun hm => hq.o.other (T' := T_liveryref14_Edges) (by decide) q hm _ _ hq.blk⟩
/-- An element of a list of pairs is read. -/
theorem rdPr {s : Sl} {xs : List (Int × Int)} {l : Nat} (hs : Own T_2_int 2 encP l h s xs) {i : Nat} (hi : i < xs.length) : ∃ a, s.a = some a ∧ rd h (Addr.add (Addr.add a (i * 2)) (Int.toNat 0 * 1)) = some (.int .i64 xs[i].1) ∧ rd h (Addr.add (Addr.add a (i * 2)) (Int.toNat 1 * 1)) = some (.int .i64 xs[i].2) ∧ rd h (Addr.add (Addr.add a (i * 2)) 0) = some (.int .i64 xs[i].1) ∧ rd h (Addr.add (Addr.add a (i * 2)) 1) = some (.int .i64 xs[i].2) := by
 obtain ⟨a, h1, h2⟩ := hs.sl.reads.rd encP_len hi
 have q0 := h2 0 (by omega)
 have q1 := h2 1 (by omega)
 rw [← addr_add_add] at q0 q1
 exact ⟨a, h1, q0, q1, q0, q1⟩
theorem cmpP_lt (x : Int × Int) (a b : Int) : cmpP x (a, b) < 0 ↔ x.1 < a ∨ (x.1 = a ∧ x.2 < b) := by
 unfold cmpP thenC cmpI
 simp only
 repeat' split
 all_goals omega
theorem at_s (hq : QAt lo h q rb M sl so) (a b : Int) (hl : M.m.length ≤ 2 ^ 28) (hQ : Q [.int .i64 (posC cmpP M.m (a, b) : Nat)] h) : S_liveryref14_Edges_at (some ⟨q, 0, none⟩) a b h Q := by
 refine O_liveryref14_Edges_at _ _ _ ?_
 unfold F_liveryref14_Edges_at
 have hn := hq.l.1
 intro X hX
 simp only [nilW_some] at hX
 have key : ∀ d i, d + i = M.m.length → (∀ j (hj : j < M.m.length), j < i → cmpP M.m[j] (a, b) < 0) → X [.int .i64 (i : Int)] h := by
  intro d
  induction d with
  | zero =>
   intro i hi hall
   refine hX _ _ ?_
   intro J hJ
   refine ⟨sl, hq.rd.2.1, ?_⟩
   rw [if_neg (by simp; omega)]
   refine hJ _ _ ?_
   rw [if_neg (by decide)]
   rw [posC_eq (p := i) (by omega) hall (fun hp => by omega)] at hQ
   exact hQ
  | succ d ih =>
   intro i hi hall
   have hil : i < M.m.length := by omega
   refine hX _ _ ?_
   intro J hJ
   have yes : cmpP M.m[i] (a, b) < 0 → J [.bool true] h := fun hlt => by
    refine hJ _ _ ?_
    rw [if_pos rfl, wrap64 (by omega) (by omega)]
    have := ih (i + 1) (by omega) fun j hj hji => by
     rcases (by omega : j < i ∨ j = i) with g | g
     ·exact hall j hj g
     ·subst g; exact hlt
    simpa using this
   have no : ¬ cmpP M.m[i] (a, b) < 0 → J [.bool false] h := fun hlt => by
    refine hJ _ _ ?_
    rw [if_neg (by decide)]
    rw [posC_eq (p := i) (by omega) hall (fun hp => hlt)] at hQ
    exact hQ
   rw [cmpP_lt] at yes no
   refine ⟨sl, hq.rd.2.1, ?_⟩
   rw [if_pos (by simp; omega)]
   obtain ⟨ad, ha, r0, r1, _⟩ := rdPr hq.l hil
   refine ⟨sl, hq.rd.2.1, ?_⟩
   rw [ha]
   simp only [nilW_some, Int.toNat_natCast]
   refine ⟨by omega, by omega, by decide, by decide, _, r0, ?_⟩
   by_cases c1 : M.m[i].1 < a
   ·rw [if_pos (by simpa using c1)]
    exact yes (Or.inl c1)
   rw [if_neg (by simpa using c1)]
   refine ⟨sl, hq.rd.2.1, ?_⟩
   rw [ha]
   simp only [nilW_some, Int.toNat_natCast]
   refine ⟨by omega, by omega, by decide, by decide, _, r0, ?_⟩
   by_cases c2 : M.m[i].1 = a
   ·rw [if_pos (by simpa using c2)]
    refine ⟨sl, hq.rd.2.1, ?_⟩
    rw [ha]
    simp only [nilW_some, Int.toNat_natCast]
    refine ⟨by omega, by omega, by decide, by decide, _, r1, ?_⟩
    by_cases c3 : M.m[i].2 < b
    ·rw [decide_eq_true c3]; exact yes (Or.inr ⟨c2, c3⟩)
    ·rw [decide_eq_false c3]; exact no (by rintro (g | g); exact c1 g; exact c3 g.2)
   ·rw [if_neg (by simpa using c2)]
    exact no (by rintro (g | g); exact c1 g; exact c2 g.1)
 have := key M.m.length 0 (by omega) (fun j hj hji => by omega)
 simpa using this
theorem HasR_s (hq : QAt lo h q rb M sl so) (ho : OrdC cmpP M.m) (a b : Int) (hl : M.m.length ≤ 2 ^ 28) (hQ : Q [.bool (decide ((a, b) ∈ M.m))] h) : S_liveryref14_Edges_Has (some ⟨q, 0, none⟩) a b h Q := by
 refine O_liveryref14_Edges_Has _ _ _ ?_
 unfold F_liveryref14_Edges_Has
 refine at_s hq a b hl ⟨_, rfl, ?_⟩
 simp only [nilW_some]
 have hn := hq.l.1
 have hat := posC_at cmpP3 ho (a, b)
 refine ⟨sl, hq.rd.2.1, ?_⟩
 by_cases hp : posC cmpP M.m (a, b) < M.m.length
 ·rw [if_pos (by simp; omega)]
  obtain ⟨ad, ha, r0, r1, _⟩ := rdPr hq.l hp
  refine ⟨sl, hq.rd.2.1, ?_⟩
  rw [ha]
  simp only [nilW_some, Int.toNat_natCast]
  refine ⟨by omega, by omega, by decide, by decide, _, r0, ?_⟩
  by_cases c1 : M.m[posC cmpP M.m (a, b)].1 = a
  ·rw [if_pos (by simpa using c1)]
   refine ⟨sl, hq.rd.2.1, ?_⟩
   rw [ha]
   simp only [nilW_some, Int.toNat_natCast]
   refine ⟨by omega, by omega, by decide, by decide, _, r1, ?_⟩
   have e : (M.m[posC cmpP M.m (a, b)].2 == b) = decide ((a, b) ∈ M.m) := by
    rw [Bool.eq_iff_iff, beq_iff_eq, decide_eq_true_eq, hat]
    constructor
    ·intro e2
     exact ⟨hp, Prod.ext c1 e2⟩
    ·rintro ⟨_, e2⟩
     rw [e2]
   rw [e]
   exact hQ
  ·rw [if_neg (by simpa using c1)]
   have : decide ((a, b) ∈ M.m) = false := by
    rw [decide_eq_false_iff_not, hat]
    rintro ⟨_, e2⟩
    exact c1 (by rw [e2])
   rw [this] at hQ
   exact hQ
 ·rw [if_neg (by simp; omega)]
  have : decide ((a, b) ∈ M.m) = false := by
   rw [decide_eq_false_iff_not, hat]
   rintro ⟨h1, _⟩
   exact hp h1
  rw [this] at hQ
  exact hQ
theorem OldR_s (hq : QAt lo h q rb M sl so) (x : Int) (hl : M.old.length ≤ 2 ^ 28) (hQ : Q [.int .i64 ((afind M.old x).getD 0)] h) : S_liveryref14_Edges_Old (some ⟨q, 0, none⟩) x h Q := by
 refine O_liveryref14_Edges_Old _ _ ?_
 unfold F_liveryref14_Edges_Old
 have hn := hq.o.1
 intro X hX
 simp only [nilW_some] at hX
 have key : ∀ d i, d + i = M.old.length → afind M.old x = afind (M.old.drop i) x → X [.int .i64 (i : Int)] h := by
  intro d
  induction d with
  | zero =>
   intro i hi he
   refine hX _ _ ?_
   refine ⟨so, hq.rd.2.2, ?_⟩
   rw [if_neg (by simp; omega)]
   rw [List.drop_eq_nil_of_le (by omega)] at he
   rw [he] at hQ
   exact hQ
  | succ d ih =>
   intro i hi he
   have hil : i < M.old.length := by omega
   refine hX _ _ ?_
   refine ⟨so, hq.rd.2.2, ?_⟩
   rw [if_pos (by simp; omega)]
   obtain ⟨ad, ha, r0, r1, _⟩ := rdPr hq.o hil
   refine ⟨so, hq.rd.2.2, ?_⟩
   rw [ha]
   simp only [nilW_some, Int.toNat_natCast]
   refine ⟨by omega, by omega, by decide, by decide, _, r0, ?_⟩
   rw [List.drop_eq_getElem_cons hil] at he
   have hfc : afind (M.old[i] :: M.old.drop (i + 1)) x = if x = M.old[i].1 then some M.old[i].2 else afind (M.old.drop (i + 1)) x := by
    obtain ⟨u, v⟩ := M.old[i]
    rfl
   rw [hfc] at he
   by_cases c1 : M.old[i].1 = x
   ·rw [if_pos (by simpa using c1)]
    refine ⟨so, hq.rd.2.2, ?_⟩
    rw [ha]
    simp only [nilW_some, Int.toNat_natCast]
    refine ⟨by omega, by omega, by decide, by decide, _, r1, ?_⟩
    rw [if_pos c1.symm] at he
    rw [he] at hQ
    exact hQ
   ·rw [if_neg (by simpa using c1), wrap64 (by omega) (by omega)]
    rw [if_neg (fun e => c1 e.symm)] at he
    have := ih (i + 1) (by omega) he
    simpa using this
 have := key M.old.length 0 (by omega) rfl
 simpa using this
def endR (M : EM) (x : Int) (k : Nat) : List Int := (M.m.filter fun q => decide (endF k q = x)).map (endF (1 - k))
theorem filter_step {α β : Type} (f : α → Bool) (g : α → β) (l : List α) {i : Nat} (hi : i < l.length) : ((l.take (i + 1)).filter f).map g = ((l.take i).filter f).map g ++ if f l[i] = true then [g l[i]] else [] := by
 rw [List.take_add_one, List.getElem?_eq_getElem hi, List.filter_append, List.map_append]
 congr 1
 simp only [Option.toList, List.filter_cons, List.filter_nil]
 split <;> rfl
theorem InR_s (hq : QAt lo h q rb M sl so) (x : Int) (hl : M.m.length ≤ 2 ^ 28) (hQ : ∀ h' s, Ext [] h h' → Own T_int 1 encIL h.size h' s (endR M x 1) → Q [.slice s.a s.n s.c] h') : S_liveryref14_Edges_In (some ⟨q, 0, none⟩) x h Q := by
 refine O_liveryref14_Edges_In _ _ ?_
 unfold F_liveryref14_Edges_In
 have hn := hq.l.1
 intro X hX
 simp only [nilW_some] at hX
 refine loopV (A := Sl) (va := fun a => [.slice a.a a.n a.c]) M.m.length (fun i a g => Ext [] h g ∧ Own T_int 1 encIL h.size g a (((M.m.take i).filter fun q => decide (endF 1 q = x)).map (endF 0))) ?_ ?_ ⟨none, 0, 0⟩ h ⟨Ext.refl _ _, Own.nil _ _⟩
 ·rintro l g ⟨eg, hol⟩
  refine hX _ _ _ ?_
  refine ⟨sl, (hq.ext0 eg).rd.2.1, ?_⟩
  rw [if_neg (by simp; omega)]
  rw [List.take_of_length_le (Nat.le_refl _)] at hol
  exact hQ g l eg hol
 ·rintro i l g hi ⟨eg, hol⟩ hnext
  have hqg := hq.ext0 eg
  rw [filter_step _ _ _ hi] at hnext
  have hfl : (((M.m.take i).filter fun q => decide (endF 1 q = x)).map (endF 0)).length ≤ i := by
   rw [List.length_map]
   have := List.length_filter_le (fun q => decide (endF 1 q = x)) (M.m.take i)
   rw [List.length_take] at this
   omega
  refine hX _ _ _ ?_
  refine ⟨sl, hqg.rd.2.1, ?_⟩
  rw [if_pos (by simp; omega)]
  intro J7 hJ7
  obtain ⟨ad, ha, r0, r1, _⟩ := rdPr hqg.l hi
  refine ⟨sl, hqg.rd.2.1, ?_⟩
  rw [ha]
  simp only [nilW_some, Int.toNat_natCast]
  refine ⟨by omega, by omega, by decide, by decide, _, r1, ?_⟩
  by_cases c1 : M.m[i].2 = x
  ·rw [if_pos (by simpa using c1)]
   rw [if_pos (by simpa [endF] using c1)] at hnext
   refine ⟨sl, hqg.rd.2.1, ?_⟩
   rw [ha]
   simp only [nilW_some, Int.toNat_natCast]
   refine ⟨by omega, by omega, by decide, by decide, _, r0, ?_⟩
   refine newI fun g1 s1 b1 e1 => ?_
   have ho1 := hol.ext0 e1
   refine oneG encIL_len encIL_one zc_int bytesI (k := M.m[i].1) ho1 b1 (by omega) (by have := eg.sz; omega) fun l' g2 ho2 e2 hb2 => ?_
   have hsl := own_ltG ho1
   refine hJ7 _ _ ?_
   rw [wrap64 (by omega) (by omega)]
   exact hnext l' g2 ⟨(eg.trans0 e1).trans e2 fun b hb hlt => by have := hsl b hb; omega, ho2⟩
  ·rw [if_neg (by simpa using c1)]
   rw [if_neg (by simpa [endF] using c1), List.append_nil] at hnext
   refine hJ7 _ _ ?_
   rw [wrap64 (by omega) (by omega)]
   exact hnext l g ⟨eg, hol⟩
theorem OutR_s (hq : QAt lo h q rb M sl so) (x : Int) (hl : M.m.length ≤ 2 ^ 28) (hQ : ∀ h' s, Ext [] h h' → Own T_int 1 encIL h.size h' s (endR M x 0) → Q [.slice s.a s.n s.c] h') : S_liveryref14_Edges_Out (some ⟨q, 0, none⟩) x h Q := by
 refine O_liveryref14_Edges_Out _ _ ?_
 unfold F_liveryref14_Edges_Out
 have hn := hq.l.1
 intro X hX
 simp only [nilW_some] at hX
 refine loopV (A := Sl) (va := fun a => [.slice a.a a.n a.c]) M.m.length (fun i a g => Ext [] h g ∧ Own T_int 1 encIL h.size g a (((M.m.take i).filter fun q => decide (endF 0 q = x)).map (endF 1))) ?_ ?_ ⟨none, 0, 0⟩ h ⟨Ext.refl _ _, Own.nil _ _⟩
 ·rintro l g ⟨eg, hol⟩
  refine hX _ _ _ ?_
  refine ⟨sl, (hq.ext0 eg).rd.2.1, ?_⟩
  rw [if_neg (by simp; omega)]
  rw [List.take_of_length_le (Nat.le_refl _)] at hol
  exact hQ g l eg hol
 ·rintro i l g hi ⟨eg, hol⟩ hnext
  have hqg := hq.ext0 eg
  rw [filter_step _ _ _ hi] at hnext
  have hfl : (((M.m.take i).filter fun q => decide (endF 0 q = x)).map (endF 1)).length ≤ i := by
   rw [List.length_map]
   have := List.length_filter_le (fun q => decide (endF 0 q = x)) (M.m.take i)
   rw [List.length_take] at this
   omega
  refine hX _ _ _ ?_
  refine ⟨sl, hqg.rd.2.1, ?_⟩
  rw [if_pos (by simp; omega)]
  intro J7 hJ7
  obtain ⟨ad, ha, r0, r1, _⟩ := rdPr hqg.l hi
  refine ⟨sl, hqg.rd.2.1, ?_⟩
  rw [ha]
  simp only [nilW_some, Int.toNat_natCast]
  refine ⟨by omega, by omega, by decide, by decide, _, r0, ?_⟩
  by_cases c1 : M.m[i].1 = x
  ·rw [if_pos (by simpa using c1)]
   rw [if_pos (by simpa [endF] using c1)] at hnext
   refine ⟨sl, hqg.rd.2.1, ?_⟩
   rw [ha]
   simp only [nilW_some, Int.toNat_natCast]
   refine ⟨by omega, by omega, by decide, by decide, _, r1, ?_⟩
   refine newI fun g1 s1 b1 e1 => ?_
   have ho1 := hol.ext0 e1
   refine oneG encIL_len encIL_one zc_int bytesI (k := M.m[i].2) ho1 b1 (by omega) (by have := eg.sz; omega) fun l' g2 ho2 e2 hb2 => ?_
   have hsl := own_ltG ho1
   refine hJ7 _ _ ?_
   rw [wrap64 (by omega) (by omega)]
   exact hnext l' g2 ⟨(eg.trans0 e1).trans e2 fun b hb hlt => by have := hsl b hb; omega, ho2⟩
  ·rw [if_neg (by simpa using c1)]
   rw [if_neg (by simpa [endF] using c1), List.append_nil] at hnext
   refine hJ7 _ _ ?_
   rw [wrap64 (by omega) (by omega)]
   exact hnext l g ⟨eg, hol⟩
end
end Go.Lift.E14
namespace Go.Lift.E14
open Go Go.Proofs
set_option maxRecDepth 100000
def putI (L : List Int) (n : Int) : List Int := if n ∈ L then L else insC cmpI L n
theorem cmpI_lt (a b : Int) : cmpI a b < 0 ↔ a < b := by
 unfold cmpI
 repeat' split
 all_goals omega
section
variable {lo : Nat} {h h' : Hp} {q rb : Nat} {M : EM} {sl so : Sl} {Q : List Value → Hp → Prop}
theorem putR_s {s : Sl} {xs : List Int} (ho : Own T_int 1 encIL lo h s xs) (hor : OrdC cmpI xs) (n : Int) (hl : xs.length ≤ 2 ^ 28) (hlo : lo ≤ h.size) (hQ : ∀ h' s', Own T_int 1 encIL lo h' s' (putI xs n) → Ext [] h h' → Q [.slice s'.a s'.n s'.c] h') : S_liveryref14_put s n h Q := by
 refine O_liveryref14_put _ _ ?_
 unfold F_liveryref14_put
 have hn := ho.1
 intro X hX
 have key : ∀ d i, xs.length - i = d → i ≤ xs.length → (∀ j (hj : j < xs.length), j < i → cmpI xs[j] n < 0) → X [.int .i64 (i : Int)] h := by
  intro d
  induction d using Nat.strongRecOn with
  | ind d ih =>
   intro i hd hi hall
   refine hX _ _ ?_
   intro J4 hJ4
   have no : posC cmpI xs n = i → J4 [.bool false] h := by
    intro hpos
    refine hJ4 _ _ ?_
    rw [if_neg (by decide)]
    intro J7 hJ7
    have hat := posC_at cmp3I hor n
    have jy : n ∈ xs → J7 [.bool true] h := fun hm => by
     refine hJ7 _ _ ?_
     rw [if_pos rfl]
     have := hQ h s
     unfold putI at this
     rw [if_pos hm] at this
     exact this ho (Ext.refl _ _)
    have jn : n ∉ xs → J7 [.bool false] h := fun hm => by
     refine hJ7 _ _ ?_
     rw [if_neg (by decide), Int.toNat_natCast]
     have hcap := ho.capN
     have hlt := own_ltG ho
     have fin : ∀ (l' : Sl) (g : Hp), Own T_int 1 encIL h.size g l' (xs.take i ++ [n] ++ xs.drop i) → Ext [] h g → Q [.slice l'.a l'.n l'.c] g := by
      intro l' g o e
      refine hQ g l' ?_ e
      unfold putI insC
      rw [if_neg hm, hpos]
      exact o.mono hlo
     refine ⟨by omega, by omega, newI fun h1 s1 b1 e1 => ?_, newI fun h1 s1 b1 e1 => ?_⟩
     ·constructor
      ·refine clG (lo' := h.size) encIL_len encIL_one zc_int bytesI (takeCN encIL_len (ho.ext0 e1) (c := i) (by omega)) (by simp; omega) (by omega) b1 (Nat.le_refl _) fun l1 g2 o2 e2 hb2 => ?_
       have z2 := e2.sz
       refine newI fun h3 s3 b3 e3 => ?_
       have o3 := o2.ext0 e3
       refine oneG encIL_len encIL_one zc_int bytesI (k := n) o3 b3 (by simp; omega) (by omega) fun l2 g4 o4 e4 hb4 => ?_
       have z4 := e4.sz
       have hsl3 := own_ltG o3
       have e14 : Ext [] h g4 := (((e1.trans e2 fun b hb hlt => by simp at hb; omega).trans0 e3).trans e4 fun b hb hlt => by have := hsl3 b hb; omega)
       refine appG encIL_len encIL_one zc_int bytesI o4 (dropCN encIL_len (ho.ext0 e14) (c := i) (by omega)) (by rw [List.length_drop, hn]) (by rw [List.length_append, List.length_take, List.length_singleton, hn]; omega) (by omega) fun l3 g5 o5 e5 hb5 => ?_
       have hsl4 := own_ltG o4
       exact fin l3 g5 o5 (e14.trans e5 fun b hb hlt => by have := hsl4 b hb; omega)
      ·refine newI fun h2 s2 b2 e2 => ?_
       have e12 := e1.trans0 e2
       refine insG (lo' := h.size) encIL_len encIL_one zc_int bytesI (k := n) (ho.ext0 e12) (p := i) (by omega) hl (e2.get b1 (by simp)) (Nat.le_refl _) b2 (by omega) (fun b hb => by have := hlt b hb; omega) (fun b hb => (hlt b hb).2) (by omega) fun l' g o e => ?_
       exact fin l' g o (e12.trans e fun b hb hlt => by simp at hb; omega)
     ·refine newI fun h2 s2 b2 e2 => ?_
      have e12 := e1.trans0 e2
      refine insG (lo' := h.size) encIL_len encIL_one zc_int bytesI (k := n) (ho.ext0 e12) (p := i) (by omega) hl b2 (by omega) (e2.get b1 (by simp)) (by omega) (fun b hb => by have := hlt b hb; omega) (fun b hb => (hlt b hb).2) (by omega) fun l' g o e => ?_
      exact fin l' g o (e12.trans e fun b hb hlt => by simp at hb; omega)
    by_cases hil : i < xs.length
    ·rw [if_pos (by simp; omega)]
     obtain ⟨ad, ha, hrd⟩ := rdI ho.sl.reads hil
     rw [ha]
     simp only [nilW_some, Int.toNat_natCast]
     refine ⟨by omega, by omega, _, hrd, ?_⟩
     by_cases he : xs[i] = n
     ·have : (xs[i] == n) = true := by simp [he]
      rw [this]
      exact jy (by rw [← he]; exact List.getElem_mem hil)
     ·have : (xs[i] == n) = false := by simp [he]
      rw [this]
      refine jn fun hm => ?_
      obtain ⟨_, e2⟩ := hat.1 hm
      simp only [hpos] at e2
      exact he e2
    ·rw [if_neg (by simp; omega)]
     refine jn fun hm => ?_
     obtain ⟨h1, _⟩ := hat.1 hm
     omega
   by_cases hil : i < xs.length
   ·rw [if_pos (by simp; omega)]
    obtain ⟨ad, ha, hrd⟩ := rdI ho.sl.reads hil
    rw [ha]
    simp only [nilW_some, Int.toNat_natCast]
    refine ⟨by omega, by omega, _, hrd, ?_⟩
    by_cases hlt : xs[i] < n
    ·rw [decide_eq_true hlt]
     refine hJ4 _ _ ?_
     rw [if_pos rfl, wrap64 (by omega) (by omega)]
     have := ih (xs.length - (i + 1)) (by omega) (i + 1) rfl (by omega) fun j hj hji => by
      rcases (by omega : j < i ∨ j = i) with g | g
      ·exact hall j hj g
      ·subst g; exact (cmpI_lt _ _).2 hlt
     simpa using this
    ·rw [decide_eq_false hlt]
     exact no (posC_eq hi hall fun hp => by rw [cmpI_lt]; exact hlt)
   ·rw [if_neg (by simp; omega)]
    exact no (posC_eq hi hall fun hp => by omega)
 have := key xs.length 0 (by omega) (by omega) fun j hj hji => by omega
 simpa using this
/-- An edge more, in its place. -/
def addQ (L : LM) (M : EM) (a b : Int) : EM := if besideL L a b = true ∧ (a, b) ∉ M.m then { M with m := insC cmpP M.m (a, b) } else M
theorem AddR_s {s08 : Sl} {L : LM} {lr : Nat} (hq : QAt lo h q rb M sl so) (hR : RAt lr h rb L s08) (hok : ∀ x, hasL L x ↔ (txL L x).state ≠ 0) (hor : OrdC cmpP M.m) (a b : Int) (hl : M.m.length ≤ 2 ^ 28) (hlo : lo ≤ h.size) (hQ : ∀ h' sl', QAt lo h' q rb (addQ L M a b) sl' so → Ext [q] h h' → (∀ c ∈ sBlk sl', c ∈ sBlk sl ∨ h.size ≤ c) → Q [.bool (decide (besideL L a b = true ∧ (a, b) ∉ M.m))] h') : S_liveryref14_Edges_Add (some ⟨q, 0, none⟩) a b h Q := by
 refine O_liveryref14_Edges_Add _ _ _ ?_
 unfold F_liveryref14_Edges_Add
 intro J hJ
 simp only [nilW_some] at hJ ⊢
 have jT : ∀ g, Ext [] h g → ¬ (besideL L a b = true ∧ (a, b) ∉ M.m) → J [.bool true] g := fun g eg hn => by
  refine hJ _ _ ?_
  rw [if_pos rfl]
  have := hQ g sl
  unfold addQ at this
  rw [if_neg hn, decide_eq_false hn] at this
  exact this (hq.ext0 eg) (eg.mono (by simp)) fun c hc => Or.inl hc
 refine ⟨_, hq.rd.1, ?_⟩
 refine BesideR_s hR a b hok fun h1 e1 => ⟨_, rfl, ?_⟩
 have hq1 := hq.ext0 e1
 by_cases hnb : ¬ besideL L a b = true
 ·have hb' : besideL L a b = false := by simpa using hnb
  rw [hb', if_pos (by decide)]
  exact jT h1 e1 fun hh => hnb hh.1
 have hb : besideL L a b = true := Classical.not_not.1 hnb
 rw [hb, if_neg (by decide)]
 refine HasR_s hq1 hor a b hl ⟨_, rfl, ?_⟩
 by_cases hm : (a, b) ∈ M.m
 ·rw [decide_eq_true hm]
  exact jT h1 e1 fun hh => hh.2 hm
 rw [decide_eq_false hm]
 refine hJ _ _ ?_
 rw [if_neg (by decide)]
 refine at_s hq1 a b hl ⟨_, rfl, ?_⟩
 intro J7 hJ7
 have hn := hq1.l.1
 have hcap := hq1.l.capN
 have hple := posC_le (c := cmpP) M.m (a, b)
 refine ⟨sl, hq1.rd.2.1, by omega, sl, hq1.rd.2.1, by omega, ?_⟩
 obtain ⟨i, hi⟩ : ∃ i, posC cmpP M.m (a, b) = i := ⟨_, rfl⟩
 rw [hi, Int.toNat_natCast]
 rw [hi] at hple
 have hlt := own_ltG hq1.l
 have r1 : ∀ {g : Hp}, Ext [] h1 g → rd g (Addr.add ⟨q, 0, none⟩ 1) = some (.slice sl.a sl.n sl.c) := fun eg => (hq1.ext0 eg).rd.2.1
 have zo := own_ltG hq1.o
 have fin : ∀ (l' : Sl) (g : Hp), Own T_2_int 2 encP h1.size g l' (M.m.take i ++ [(a, b)] ++ M.m.drop i) → Ext [] h1 g → stOk g (Addr.add ⟨q, 0, none⟩ 1) 1 ∧ wth (wrs g (Addr.add ⟨q, 0, none⟩ 1) 0 [.slice l'.a l'.n l'.c]) fun g2 => J7 [] g2 := by
  intro l' g o e
  have hqg := hq1.ext0 e
  rw [addr_mk]
  refine st_blk hqg.blk (by simp) fun g2 s2 b2 e2 => ?_
  refine hJ7 _ ?_
  have := hQ g2 l'
  unfold addQ insC at this
  rw [if_pos ⟨hb, hm⟩, decide_eq_true ⟨hb, hm⟩, hi] at this
  have z1 := e1.sz
  have hqlt := blk_lt hq1.blk
  refine this ⟨b2, (o.ext e2 fun ad had hmm => ?_).mono (by omega), hqg.o.ext e2 fun ad had hmm => ?_⟩ (((e1.trans0 e).mono (by simp)).trans e2 fun c hc _ => hc) fun c hc => Or.inr (by have := o.blk c hc; omega)
  ·simp at hmm
   have := o.blk ad.block (mem_sBlk.2 ⟨ad, had, rfl⟩)
   omega
  ·simp at hmm
   exact hq1.nb.2 (mem_sBlk.2 ⟨ad, had, hmm⟩)
 have z1 := e1.sz
 refine ⟨newI fun h2 s2 b2 e2 => ?_, newI fun h2 s2 b2 e2 => ?_⟩
 ·refine ⟨r1 e2, r1 e2, ?_, ?_⟩
  ·refine clG (lo' := h1.size) encP_len encP_one zc_pair (by decide) (takeCN encP_len (hq1.l.ext0 e2) (c := i) (by omega)) (by simp; omega) (by omega) b2 (Nat.le_refl _) fun l1 g3 o3 e3 hb3 => ?_
   have e23 : Ext [] h1 g3 := e2.trans e3 fun b hb hlt => by simp at hb; omega
   refine ⟨r1 e23, newI fun h4 s4 b4 e4 => ?_⟩
   have e24 := e23.trans0 e4
   refine ⟨r1 e24, ?_⟩
   have o4 := o3.ext0 e4
   have z24 := e24.sz
   refine oneG encP_len encP_one zc_pair (by decide) (k := (a, b)) o4 b4 (by simp; omega) (by omega) fun l2 g5 o5 e5 hb5 => ?_
   have hsl4 := own_ltG o4
   have e25 : Ext [] h1 g5 := e24.trans e5 fun b hb hlt => by have := hsl4 b hb; omega
   have z25 := e25.sz
   refine ⟨r1 e25, ?_⟩
   refine appG encP_len encP_one zc_pair (by decide) o5 (dropCN encP_len (hq1.l.ext0 e25) (c := i) (by omega)) (by simp; omega) (by simp; omega) (by omega) fun l3 g6 o6 e6 hb6 => ?_
   have hsl5 := own_ltG o5
   exact fin l3 g6 o6 (e25.trans e6 fun b hb hlt => by have := hsl5 b hb; omega)
  ·refine newI fun h3 s3 b3 e3 => ?_
   have e23 := e2.trans0 e3
   refine ⟨r1 e23, r1 e23, ?_⟩
   refine clG (lo' := h1.size) encP_len encP_one zc_pair (by decide) (takeCN encP_len (hq1.l.ext0 e23) (c := i) (by omega)) (by simp; omega) (by omega) (e3.get b2 (by simp)) (Nat.le_refl _) fun l1 g4 o4 e4 hb4 => ?_
   have e24 : Ext [] h1 g4 := e23.trans e4 fun b hb hlt => by simp at hb; omega
   refine ⟨r1 e24, ?_⟩
   have z24 := e24.sz
   refine oneG encP_len encP_one zc_pair (by decide) (k := (a, b)) o4 (e4.get b3 (by simp; omega)) (by simp; omega) (by omega) fun l2 g5 o5 e5 hb5 => ?_
   have hsl4 := own_ltG o4
   have e25 : Ext [] h1 g5 := e24.trans e5 fun b hb hlt => by have := hsl4 b hb; omega
   have z25 := e25.sz
   refine ⟨r1 e25, ?_⟩
   refine appG encP_len encP_one zc_pair (by decide) o5 (dropCN encP_len (hq1.l.ext0 e25) (c := i) (by omega)) (by simp; omega) (by simp; omega) (by omega) fun l3 g6 o6 e6 hb6 => ?_
   have hsl5 := own_ltG o5
   exact fin l3 g6 o6 (e25.trans e6 fun b hb hlt => by have := hsl5 b hb; omega)
 ·refine ⟨r1 e2, r1 e2, newI fun h3 s3 b3 e3 => ?_⟩
  have e23 := e2.trans0 e3
  refine ⟨r1 e23, r1 e23, ?_⟩
  refine clG (lo' := h1.size) encP_len encP_one zc_pair (by decide) (takeCN encP_len (hq1.l.ext0 e23) (c := i) (by omega)) (by simp; omega) (by omega) b3 (by omega) fun l1 g4 o4 e4 hb4 => ?_
  have e24 : Ext [] h1 g4 := e23.trans e4 fun b hb hlt => by simp at hb; omega
  refine ⟨r1 e24, ?_⟩
  have z24 := e24.sz
  have b2' : Blk h3 h1.size (encP (a, b)).toArray T_2_int := e3.get b2 (by simp)
  refine oneG encP_len encP_one zc_pair (by decide) (k := (a, b)) o4 (e4.get b2' (by simp; omega)) (by simp; omega) (by omega) fun l2 g5 o5 e5 hb5 => ?_
  have hsl4 := own_ltG o4
  have e25 : Ext [] h1 g5 := e24.trans e5 fun b hb hlt => by have := hsl4 b hb; omega
  have z25 := e25.sz
  refine ⟨r1 e25, ?_⟩
  refine appG encP_len encP_one zc_pair (by decide) o5 (dropCN encP_len (hq1.l.ext0 e25) (c := i) (by omega)) (by simp; omega) (by simp; omega) (by omega) fun l3 g6 o6 e6 hb6 => ?_
  have hsl5 := own_ltG o5
  exact fin l3 g6 o6 (e25.trans e6 fun b hb hlt => by have := hsl5 b hb; omega)
end
end Go.Lift.E14
namespace Go.Lift.E14
open Go Go.Proofs
set_option maxRecDepth 100000
def oldOkR (L : LM) (M : EM) (b csn : Int) : Prop := ((txL L b).state = 1 ∨ (txL L b).state = 2) ∧ ¬ csn ≤ (txL L b).snap ∧ ¬ csn ≤ (afind M.old b).getD 0
instance (L : LM) (M : EM) (b csn : Int) : Decidable (oldOkR L M b csn) := by unfold oldOkR; exact inferInstance
def oldInR (L : LM) (M : EM) (b csn : Int) : EM := if oldOkR L M b csn then { M with old := (M.old.filter fun q => !decide (q.1 = b)) ++ [(b, csn)] } else M
def dropR (M : EM) (x : Int) : EM := ⟨M.m.filter fun q => !touchP x q, M.old.filter fun q => !decide (q.1 = x)⟩
theorem filter_step1 {α : Type} (f : α → Bool) (l : List α) {i : Nat} (hi : i < l.length) : (l.take (i + 1)).filter f = (l.take i).filter f ++ if f l[i] = true then [l[i]] else [] := by
 rw [List.take_add_one, List.getElem?_eq_getElem hi, List.filter_append]
 congr 1
 simp only [Option.toList, List.filter_cons, List.filter_nil]
theorem filter_take_len {α : Type} (f : α → Bool) (l : List α) (i : Nat) : ((l.take i).filter f).length ≤ i := by
 have := List.length_filter_le f (l.take i)
 rw [List.length_take] at this
 omega
section
variable {lo : Nat} {h h' : Hp} {q rb : Nat} {M : EM} {sl so : Sl} {Q : List Value → Hp → Prop}
theorem beqF (a b : Int) : (a != b) = !decide (a = b) := by
 rw [Bool.eq_iff_iff]
 simp
theorem OldInR_s {s08 : Sl} {L : LM} {lr : Nat} (hq : QAt lo h q rb M sl so) (hR : RAt lr h rb L s08) (b csn : Int) (hl : M.old.length ≤ 2 ^ 28) (hlo : lo ≤ h.size) (hQ : ∀ h' so', QAt lo h' q rb (oldInR L M b csn) sl so' → Ext [q] h h' → (∀ c ∈ sBlk so', c ∈ sBlk so ∨ h.size ≤ c) → Q [.bool (decide (oldOkR L M b csn))] h') : S_liveryref14_Edges_OldIn (some ⟨q, 0, none⟩) b csn h Q := by
 refine O_liveryref14_Edges_OldIn _ _ _ ?_
 unfold F_liveryref14_Edges_OldIn
 simp only [nilW_some]
 refine ⟨_, hq.rd.1, ?_⟩
 refine Get_s hR b fun h1 e1 => encR4 _ ?_
 refine newI fun h2 s2 b2 e2 => ?_
 refine st_blk b2 (by simp) fun h3 s3 b3 e3 => ?_
 have e03 : Ext [] h h3 := (e1.trans0 e2).trans e3 fun b hb hlt => by have := e1.sz; simp at hb; omega
 have c3 : Blk h3 h1.size (encR (txL L b)).toArray T_liveryref08_Tx := b3
 obtain ⟨p0, p1, p2, p3⟩ := rdX c3
 have hq3 := hq.ext0 e03
 intro J hJ
 have jT : ¬ oldOkR L M b csn → J [.bool true] h3 := fun hn => by
  refine hJ _ _ ?_
  rw [if_pos rfl]
  have := hQ h3 so
  unfold oldInR at this
  rw [if_neg hn, decide_eq_false hn] at this
  exact this hq3 (e03.mono (by simp)) fun c hc => Or.inl hc
 have jF : oldOkR L M b csn → J [.bool false] h3 := fun hok => by
  refine hJ _ _ ?_
  rw [if_neg (by decide)]
  have hn := hq3.o.1
  intro X hX
  refine loopV (A := Sl) (va := fun a => [.slice a.a a.n a.c]) M.old.length (fun i a g => Ext [] h3 g ∧ Own T_2_int 2 encP h3.size g a ((M.old.take i).filter fun q => !decide (q.1 = b))) ?_ ?_ ⟨none, 0, 0⟩ h3 ⟨Ext.refl _ _, Own.nil _ _⟩
  ·rintro l g ⟨eg, hol⟩
   refine hX _ _ _ ?_
   have hqg := hq3.ext0 eg
   refine ⟨so, hqg.rd.2.2, ?_⟩
   rw [if_neg (by simp; omega)]
   rw [List.take_of_length_le (Nat.le_refl _)] at hol
   have hfl := List.length_filter_le (fun q : Int × Int => !decide (q.1 = b)) M.old
   refine newI fun g1 s1 b1 e1' => ?_
   have ho1 := hol.ext0 e1'
   have eg1 := eg.trans0 e1'
   refine oneG encP_len encP_one zc_pair (by decide) (k := (b, csn)) ho1 b1 (by omega) (by have := eg1.sz; omega) fun l' g2 ho2 e2' hb2 => ?_
   have hsl := own_ltG ho1
   have eg2 : Ext [] h3 g2 := eg1.trans e2' fun c hc hlt => by have := hsl c hc; omega
   have hqg2 := hq3.ext0 eg2
   rw [addr_mk]
   refine st_blk hqg2.blk (by simp) fun g3 s3' b3' e3' => ?_
   have hqlt := blk_lt hq3.blk
   have z := e03.sz
   have := hQ g3 l'
   unfold oldInR at this
   rw [if_pos hok, decide_eq_true hok] at this
   refine this ⟨b3', hqg2.l.ext e3' fun ad had hmm => ?_, (ho2.ext e3' fun ad had hmm => ?_).mono (by omega)⟩ (((e03.trans0 eg2).mono (by simp)).trans e3' fun c hc _ => hc) fun c hc => Or.inr ?_
   ·simp at hmm
    exact hq3.nb.1 (mem_sBlk.2 ⟨ad, had, hmm⟩)
   ·simp at hmm
    have := ho2.blk ad.block (mem_sBlk.2 ⟨ad, had, rfl⟩)
    omega
   ·have := ho2.blk c hc
    omega
  ·rintro i l g hi ⟨eg, hol⟩ hnext
   have hqg := hq3.ext0 eg
   rw [filter_step1 _ _ hi] at hnext
   have hfl := filter_take_len (fun q : Int × Int => !decide (q.1 = b)) M.old i
   refine hX _ _ _ ?_
   refine ⟨so, hqg.rd.2.2, ?_⟩
   rw [if_pos (by simp; omega)]
   intro J20 hJ20
   obtain ⟨ad, ha, r0, r1, r0', r1'⟩ := rdPr hqg.o hi
   refine ⟨so, hqg.rd.2.2, ?_⟩
   rw [ha]
   simp only [nilW_some, Int.toNat_natCast]
   refine ⟨by omega, by omega, by decide, by decide, _, r0, ?_⟩
   rw [beqF]
   by_cases c1 : M.old[i].1 = b
   ·rw [if_neg (by simp [c1])]
    rw [if_neg (by simp [c1]), List.append_nil] at hnext
    refine hJ20 _ _ ?_
    rw [wrap64 (by omega) (by omega)]
    exact hnext l g ⟨eg, hol⟩
   ·rw [if_pos (by simp [c1])]
    rw [if_pos (by simp [c1])] at hnext
    refine ⟨so, hqg.rd.2.2, ?_⟩
    rw [ha]
    simp only [nilW_some, Int.toNat_natCast]
    refine ⟨by omega, by omega, _, r0', _, r1', ?_⟩
    refine newI fun g1 s1 b1 e1' => ?_
    have ho1 := hol.ext0 e1'
    refine oneG encP_len encP_one zc_pair (by decide) (k := M.old[i]) ho1 b1 (by omega) (by have := eg.sz; omega) fun l' g2 ho2 e2' hb2 => ?_
    have hsl := own_ltG ho1
    refine hJ20 _ _ ?_
    rw [wrap64 (by omega) (by omega)]
    exact hnext l' g2 ⟨(eg.trans0 e1').trans e2' fun c hc hlt => by have := hsl c hc; omega, ho2⟩
 have tail : ((txL L b).state = 1 ∨ (txL L b).state = 2) → ∃ n48 : Int, rd h3 (Addr.add (Addr.mk (Array.size h1) 0 none) 1) = some (Value.int .i64 n48) ∧
  (if (decide (csn ≤ n48)) = true then (J [(Value.bool true)] h3) else
   (S_liveryref14_Edges_Old (some ⟨q, 0, none⟩) b h3 fun (vs49 : List Value) (h50 : Hp) =>
    ∃ n51 : Int, vs49 = [(Value.int .i64 n51)] ∧
    J [(Value.bool (decide (csn ≤ n51)))] h50)) := by
  intro hst
  refine ⟨_, p1, ?_⟩
  by_cases c1 : csn ≤ (txL L b).snap
  ·rw [if_pos (by simpa using c1)]
   exact jT fun hh => hh.2.1 c1
  rw [if_neg (by simpa using c1)]
  refine OldR_s hq3 b hl ⟨_, rfl, ?_⟩
  by_cases c2 : csn ≤ (afind M.old b).getD 0
  ·rw [decide_eq_true c2]
   exact jT fun hh => hh.2.2 c2
  ·rw [decide_eq_false c2]
   exact jF ⟨hst, c1, c2⟩
 refine ⟨_, p0, ?_⟩
 rw [beqF]
 by_cases s1 : (txL L b).state = 1
 ·rw [if_neg (by simp [s1])]
  exact tail (Or.inl s1)
 rw [if_pos (by simp [s1])]
 refine ⟨_, p0, ?_⟩
 rw [beqF]
 by_cases s2 : (txL L b).state = 2
 ·rw [if_neg (by simp [s2])]
  exact tail (Or.inr s2)
 rw [if_pos (by simp [s2])]
 exact jT fun hh => hh.1.elim s1 s2
theorem DropR_s (hq : QAt lo h q rb M sl so) (x : Int) (hl : M.m.length ≤ 2 ^ 28 ∧ M.old.length ≤ 2 ^ 28) (hlo : lo ≤ h.size) (hQ : ∀ h' sl' so', QAt lo h' q rb (dropR M x) sl' so' → Ext [q] h h' → (∀ c, c ∈ sBlk sl' ∨ c ∈ sBlk so' → h.size ≤ c) → Q [] h') : S_liveryref14_Edges_Drop (some ⟨q, 0, none⟩) x h Q := by
 refine O_liveryref14_Edges_Drop _ _ ?_
 unfold F_liveryref14_Edges_Drop
 have hn := hq.l.1
 have hno := hq.o.1
 intro X hX
 simp only [nilW_some] at hX
 refine loopV (A := Sl) (va := fun a => [.slice a.a a.n a.c]) M.m.length (fun i a g => Ext [] h g ∧ Own T_2_int 2 encP h.size g a ((M.m.take i).filter fun q => !touchP x q)) ?_ ?_ ⟨none, 0, 0⟩ h ⟨Ext.refl _ _, Own.nil _ _⟩
 ·rintro l g ⟨eg, hol⟩
  refine hX _ _ _ ?_
  have hqg := hq.ext0 eg
  refine ⟨sl, hqg.rd.2.1, ?_⟩
  rw [if_neg (by simp; omega)]
  rw [List.take_of_length_le (Nat.le_refl _)] at hol
  intro Y hY
  refine loopV (A := Sl) (va := fun a => [.slice a.a a.n a.c]) M.old.length (fun i a g' => Ext [] g g' ∧ Own T_2_int 2 encP g.size g' a ((M.old.take i).filter fun q => !decide (q.1 = x))) ?_ ?_ ⟨none, 0, 0⟩ g ⟨Ext.refl _ _, Own.nil _ _⟩
  ·rintro l2 g' ⟨eg', hol2⟩
   refine hY _ _ _ ?_
   have hqg' := hqg.ext0 eg'
   refine ⟨so, hqg'.rd.2.2, ?_⟩
   rw [if_neg (by simp; omega)]
   rw [List.take_of_length_le (Nat.le_refl _)] at hol2
   rw [addr_mk]
   refine st_blk hqg'.blk (by simp) fun g1 s1 b1 e1 => ?_
   rw [addr_mk]
   refine st_blk b1 (by simp) fun g2 s2 b2 e2 => ?_
   have hqlt := blk_lt hq.blk
   have z := eg.sz
   have nq1 : q ∉ sBlk l := fun hm => by have := hol.blk q hm; omega
   have nq2 : q ∉ sBlk l2 := fun hm => by have := hol2.blk q hm; omega
   have e12 : Ext [q] g' g2 := e1.trans e2 fun c hc _ => hc
   refine hQ g2 l l2 ⟨b2, ((hol.ext0 eg').ext e12 fun ad had hmm => ?_).mono hlo, (hol2.ext e12 fun ad had hmm => ?_).mono (by omega)⟩ (((eg.trans0 eg').mono (by simp)).trans e12 fun c hc _ => hc) fun c hc => ?_
   ·simp at hmm
    exact nq1 (mem_sBlk.2 ⟨ad, had, hmm⟩)
   ·simp at hmm
    exact nq2 (mem_sBlk.2 ⟨ad, had, hmm⟩)
   ·rcases hc with hc | hc
    ·exact hol.blk c hc
    ·have := hol2.blk c hc; omega
  ·rintro i l2 g' hi ⟨eg', hol2⟩ hnext
   have hqg' := hqg.ext0 eg'
   rw [filter_step1 _ _ hi] at hnext
   have hfl := filter_take_len (fun q : Int × Int => !decide (q.1 = x)) M.old i
   refine hY _ _ _ ?_
   refine ⟨so, hqg'.rd.2.2, ?_⟩
   rw [if_pos (by simp; omega)]
   intro J20 hJ20
   obtain ⟨ad, ha, r0, r1, r0', r1'⟩ := rdPr hqg'.o hi
   refine ⟨so, hqg'.rd.2.2, ?_⟩
   rw [ha]
   simp only [nilW_some, Int.toNat_natCast]
   refine ⟨by omega, by omega, by decide, by decide, _, r0, ?_⟩
   rw [beqF]
   by_cases c1 : M.old[i].1 = x
   ·rw [if_neg (by simp [c1])]
    rw [if_neg (by simp [c1]), List.append_nil] at hnext
    refine hJ20 _ _ ?_
    rw [wrap64 (by omega) (by omega)]
    exact hnext l2 g' ⟨eg', hol2⟩
   ·rw [if_pos (by simp [c1])]
    rw [if_pos (by simp [c1])] at hnext
    refine ⟨so, hqg'.rd.2.2, ?_⟩
    rw [ha]
    simp only [nilW_some, Int.toNat_natCast]
    refine ⟨by omega, by omega, _, r0', _, r1', ?_⟩
    refine newI fun g1 s1 b1 e1' => ?_
    have ho1 := hol2.ext0 e1'
    refine oneG encP_len encP_one zc_pair (by decide) (k := M.old[i]) ho1 b1 (by omega) (by have := eg'.sz; omega) fun l' g2 ho2 e2' hb2 => ?_
    have hsl := own_ltG ho1
    refine hJ20 _ _ ?_
    rw [wrap64 (by omega) (by omega)]
    exact hnext l' g2 ⟨(eg'.trans0 e1').trans e2' fun c hc hlt => by have := hsl c hc; omega, ho2⟩
 ·rintro i l g hi ⟨eg, hol⟩ hnext
  have hqg := hq.ext0 eg
  rw [filter_step1 _ _ hi] at hnext
  have hfl := filter_take_len (fun q : Int × Int => !touchP x q) M.m i
  refine hX _ _ _ ?_
  refine ⟨sl, hqg.rd.2.1, ?_⟩
  rw [if_pos (by simp; omega)]
  intro J7 hJ7
  intro J10 hJ10
  obtain ⟨ad, ha, r0, r1, r0', r1'⟩ := rdPr hqg.l hi
  have no : touchP x M.m[i] = true → J10 [.bool false] g := fun ht => by
   rw [if_neg (by simp [ht]), List.append_nil] at hnext
   refine hJ10 _ _ ?_
   rw [if_neg (by decide)]
   refine hJ7 _ _ ?_
   rw [wrap64 (by omega) (by omega)]
   exact hnext l g ⟨eg, hol⟩
  have yes : touchP x M.m[i] = false → J10 [.bool true] g := fun ht => by
   rw [if_pos (by simp [ht])] at hnext
   refine hJ10 _ _ ?_
   rw [if_pos rfl]
   refine ⟨sl, hqg.rd.2.1, ?_⟩
   rw [ha]
   simp only [nilW_some, Int.toNat_natCast]
   refine ⟨by omega, by omega, _, r0', _, r1', ?_⟩
   refine newI fun g1 s1 b1 e1' => ?_
   have ho1 := hol.ext0 e1'
   refine oneG encP_len encP_one zc_pair (by decide) (k := M.m[i]) ho1 b1 (by omega) (by have := eg.sz; omega) fun l' g2 ho2 e2' hb2 => ?_
   have hsl := own_ltG ho1
   refine hJ7 _ _ ?_
   rw [wrap64 (by omega) (by omega)]
   exact hnext l' g2 ⟨(eg.trans0 e1').trans e2' fun c hc hlt => by have := hsl c hc; omega, ho2⟩
  unfold touchP at no yes
  refine ⟨sl, hqg.rd.2.1, ?_⟩
  rw [ha]
  simp only [nilW_some, Int.toNat_natCast]
  refine ⟨by omega, by omega, by decide, by decide, _, r0, ?_⟩
  rw [beqF]
  by_cases c1 : M.m[i].1 = x
  ·rw [if_neg (by simp [c1])]
   exact no (by simp [c1])
  ·rw [if_pos (by simp [c1])]
   refine ⟨sl, hqg.rd.2.1, ?_⟩
   rw [ha]
   simp only [nilW_some, Int.toNat_natCast]
   refine ⟨by omega, by omega, by decide, by decide, _, r1, ?_⟩
   rw [beqF]
   by_cases c2 : M.m[i].2 = x
   ·rw [decide_eq_true c2]
    exact no (by simp [c2])
   ·rw [decide_eq_false c2]
    exact yes (by simp [c1, c2])
end
end Go.Lift.E14
namespace Go.Lift.E14
open Go Go.Proofs
set_option maxRecDepth 100000
theorem putI_mem {L : List Int} {n x : Int} : x ∈ putI L n ↔ x = n ∨ x ∈ L := by
 unfold putI
 split
 ·rename_i h
  exact ⟨Or.inr, fun g => g.elim (fun e => e ▸ h) id⟩
 ·exact insC_mem
theorem putI_ord {L : List Int} (hL : OrdC cmpI L) (n : Int) : OrdC cmpI (putI L n) := by
 unfold putI
 split
 ·exact hL
 ·rename_i h
  exact insC_ord cmp3I (fun x y e => cmpI_zero e) hL h
def inStep (L : LM) (t3 : Int) (v : List Int × Bool) (t1 : Int) : List Int × Bool :=
 if ((txL L t1).state = 2 ∧ (txL L t1).csn < (txL L t3).csn) ∨ ((txL L t1).reads = true ∧ (txL L t1).snap < (txL L t3).csn) then v
 else (if (txL L t1).state = 1 then putI v.1 t1 else v.1, true)
def oldR (M : EM) (p : Int) : Int := (afind M.old p).getD 0
def outStep (L : LM) (M : EM) (p : Int) (v : List Int × Bool) (t3 : Int) : List Int × Bool :=
 if (txL L t3).state ≠ 2 ∨ ((txL L p).state = 2 ∧ (txL L p).csn ≤ (txL L t3).csn) then v
 else (endR M p 1).foldl (inStep L t3) (v.1, v.2 || (decide (oldR M p > 0) && decide (oldR M p ≥ (txL L t3).csn)))
def spoiltR (L : LM) (M : EM) (p : Int) : List Int × Bool := (endR M p 0).foldl (outStep L M p) ([], false)
/-- What the list of a verdict keeps to. -/
def VOk (ins : List Int) (v : List Int × Bool) : Prop := OrdC cmpI v.1 ∧ ∀ x ∈ v.1, x ∈ ins
theorem VOk.len {ins : List Int} {v : List Int × Bool} (h : VOk ins v) : v.1.length ≤ ins.length := nodup_sub_len (ordC_nodup cmp3I h.1) h.2
theorem VOk.inStep {ins : List Int} {v : List Int × Bool} (h : VOk ins v) (L : LM) (t3 : Int) {t1 : Int} (ht : t1 ∈ ins) : VOk ins (inStep L t3 v t1) := by
 unfold Go.Lift.E14.inStep
 split
 ·exact h
 ·split
  ·refine ⟨putI_ord h.1 _, fun x hx => ?_⟩
   rcases putI_mem.1 hx with e | hx
   ·rw [e]; exact ht
   ·exact h.2 x hx
  ·exact h
section
variable {lo : Nat} {h h' : Hp} {q rb : Nat} {M : EM} {sl so : Sl} {Q : List Value → Hp → Prop} {s08 : Sl} {L : LM} {lr : Nat}
theorem getP2 (hR : RAt lr h rb L s08) (t : Int) {v : Nat} {c : Array Value} (hb : Blk h v c T_liveryref08_Tx) (hc : c.size = 4) {K : Hp → Prop} (H : ∀ g, Ext [v] h g → Blk g v (encR (txL L t)).toArray T_liveryref08_Tx → K g) :
  S_liveryref08_Log_Get (some ⟨rb, 0, none⟩) t h fun (vs68 : List Value) (h69 : Hp) =>
   ∃ n70 : Int, ∃ n71 : Int, ∃ n72 : Int, ∃ b73 : Bool, vs68 = [(Value.agg #[(Value.int .i64 n70), (Value.int .i64 n71), (Value.int .i64 n72), (Value.bool b73)])] ∧
   stOk h69 (Addr.mk v 0 none) 4 ∧ wth (wrs h69 (Addr.mk v 0 none) 0 [(Value.int .i64 n70), (Value.int .i64 n71), (Value.int .i64 n72), (Value.bool b73)]) fun h75 => K h75 := by
 refine Get_s hR t fun h1 e1 => encR4 _ ?_
 refine st_blk (e1.get hb (by simp)) (by omega) fun h3 s3 b3 e3 => ?_
 refine H h3 ((e1.mono (by simp)).trans e3 fun b hb _ => hb) ?_
 have hcl : putAt c 0 [(Value.int .i64 (txL L t).state), (Value.int .i64 (txL L t).snap), (Value.int .i64 (txL L t).csn), (Value.bool (txL L t).reads)] = (encR (txL L t)).toArray := by
  apply Array.ext_getElem?
  intro i
  rw [putAt_get0 _ _ _ _ (by simp [hc])]
  by_cases hi : i < 4
  ·rw [if_pos (by simpa using hi)]
   simp [encR]
  ·rw [if_neg (by simpa using hi), Array.getElem?_eq_none (by omega), Array.getElem?_eq_none (by simp [encR]; omega)]
 have b3' : h3[v]? = _ := b3
 rw [hcl] at b3'
 exact b3'
end
end Go.Lift.E14
namespace Go.Lift.E14
open Go Go.Proofs
set_option maxRecDepth 100000
/-- A verdict under way: its cell, its list. -/
def VI (vb : Nat) (hB : Hp) (ins : List Int) (g : Hp) (v : List Int × Bool) : Prop :=
 ∃ lv : Sl, Ext [vb] hB g ∧ Blk g vb #[.slice lv.a lv.n lv.c, .bool v.2] T_liveryref14_Verdict ∧ Own T_int 1 encIL hB.size g lv v.1 ∧ VOk ins v
theorem VI.ext0 {vb : Nat} {hB g g' : Hp} {ins : List Int} {v : List Int × Bool} (h : VI vb hB ins g v) (he : Ext [] g g') : VI vb hB ins g' v := by
 obtain ⟨lv, h1, h2, h3, h4⟩ := h
 exact ⟨lv, h1.trans0 he, he.get h2 (by simp), h3.ext0 he, h4⟩
section
variable {lo : Nat} {h h' : Hp} {q rb : Nat} {M : EM} {sl so : Sl} {Q : List Value → Hp → Prop} {s08 : Sl} {L : LM} {lr : Nat}
theorem SpoiltR_s (hq : QAt lo h q rb M sl so) (hR : RAt lr h rb L s08) (p : Int) (hl : M.m.length ≤ 2 ^ 20 ∧ M.old.length ≤ 2 ^ 28)
  (hQ : ∀ h' s, Ext [] h h' → Own T_int 1 encIL h.size h' s (spoiltR L M p).1 → Q [.agg #[.slice s.a s.n s.c, .bool (spoiltR L M p).2]] h') : S_liveryref14_Edges_Spoilt (some ⟨q, 0, none⟩) p h Q := by
 refine O_liveryref14_Edges_Spoilt _ _ ?_
 unfold F_liveryref14_Edges_Spoilt
 refine newI fun h1 s1 b1 e1 => newI fun h2 s2 b2 e2 => ?_
 have e02 := e1.trans0 e2
 refine InR_s (hq.ext0 e02) p (by omega) fun h4 l5 e4 ho5 => ⟨l5, rfl, ?_⟩
 refine OutR_s ((hq.ext0 e02).ext0 e4) p (by omega) fun h7 l8 e7 ho8 => ⟨l8, rfl, ?_⟩
 have e07 := (e02.trans0 e4).trans0 e7
 simp only [nilW_some]
 refine ⟨_, (hq.ext0 e07).rd.1, ?_⟩
 refine Get_s (hR.ext0 e07) p fun h12 e12 => encR4 _ ?_
 refine newI fun h17 s17 b17 e17 => ?_
 refine st_blk b17 (by simp) fun hB sB bB eB => ?_
 have z4 := e4.sz
 have z7 := e7.sz
 have z12 := e12.sz
 have e7B : Ext [] h7 hB := (e12.trans0 e17).trans eB fun b hb hlt => by simp at hb; omega
 have e0B := e07.trans0 e7B
 have hl5 : (endR M p 1).length ≤ 2 ^ 20 := by
  unfold endR
  rw [List.length_map]
  exact Nat.le_trans (List.length_filter_le _ _) hl.1
 have hl8 : (endR M p 0).length ≤ 2 ^ 20 := by
  unfold endR
  rw [List.length_map]
  exact Nat.le_trans (List.length_filter_le _ _) hl.1
 have hn5 := ho5.1
 have hn8 := ho8.1
 have ho5B := (ho5.ext0 e7).ext0 e7B
 have ho8B := ho8.ext0 e7B
 have bv : Blk hB h1.size #[.slice none 0 0, .bool false] T_liveryref14_Verdict := e7B.get (e7.get (e4.get b2 (by simp)) (by simp)) (by simp)
 have br : Blk hB h.size #[.slice none 0 0, .bool false] T_liveryref14_Verdict := (e7B.get (e7.get (e4.get (e2.get b1 (by simp)) (by simp)) (by simp)) (by simp))
 have bp : Blk hB h12.size (encR (txL L p)).toArray T_liveryref08_Tx := bB
 -- what a heap of the loops gives
 have up : ∀ {g : Hp}, Ext [h1.size] hB g → Ext [] h g := fun eg => e0B.trans eg fun b hb hlt => by simp at hb; omega
 have own5 : ∀ {g : Hp}, Ext [h1.size] hB g → Own T_int 1 encIL h2.size g l5 (endR M p 1) := fun eg => ho5B.ext eg fun a ha hm => by
  have := ho5.blk a.block (mem_sBlk.2 ⟨a, ha, rfl⟩)
  simp at hm
  omega
 have own8 : ∀ {g : Hp}, Ext [h1.size] hB g → Own T_int 1 encIL h4.size g l8 (endR M p 0) := fun eg => ho8B.ext eg fun a ha hm => by
  have := ho8.blk a.block (mem_sBlk.2 ⟨a, ha, rfl⟩)
  simp at hm
  omega
 have hbv := blk_lt bv
 intro X hX
 refine loopI (endR M p 0).length (fun i g => VI h1.size hB (endR M p 1) g (((endR M p 0).take i).foldl (outStep L M p) ([], false))) ?_ ?_ hB ⟨⟨none, 0, 0⟩, Ext.refl _ _, bv, Own.nil _ _, by simp [OrdC], by simp⟩
 ·intro g hV
  rw [List.take_of_length_le (Nat.le_refl _)] at hV
  obtain ⟨lv, eg, bg, og, vk⟩ := hV
  refine hX _ _ ?_
  rw [if_neg (by simp; omega)]
  refine ⟨lv, by rw [addr_mk, rd_blk bg]; rfl, _, by rw [addr_mk, rd_blk bg]; rfl, ?_⟩
  refine st_blk (eg.get br (by simp; omega)) (by simp) fun g2 s2' b2' e2' => ?_
  refine ⟨lv, by rw [addr_mk, rd_blk b2']; rfl, _, by rw [addr_mk, rd_blk b2']; rfl, ?_⟩
  have hno : h.size ∉ sBlk lv := fun hm => by have := og.blk _ hm; have := e0B.sz; omega
  exact hQ g2 lv ((up eg).trans e2' fun b hb hlt => by simp at hb; omega) ((og.ext e2' fun a ha hm => by simp at hm; exact hno (mem_sBlk.2 ⟨a, ha, hm⟩)).mono (by have := e0B.sz; omega))
 ·intro i g hi hV hnext
  rw [List.take_add_one, List.getElem?_eq_getElem hi, List.foldl_append] at hnext
  simp only [Option.toList, List.foldl_cons, List.foldl_nil] at hnext
  generalize ((endR M p 0).take i).foldl (outStep L M p) ([], false) = v at *
  obtain ⟨t3, ht3⟩ : ∃ t3, (endR M p 0)[i] = t3 := ⟨_, rfl⟩
  rw [ht3] at hnext
  have hV0 := hV
  obtain ⟨lv0, eg, bg, og, vk⟩ := hV0
  refine hX _ _ ?_
  rw [if_pos (by simp; omega)]
  intro J22 hJ22
  have j22 : ∀ g2, VI h1.size hB (endR M p 1) g2 (outStep L M p v t3) → J22 [] g2 := by
   intro g2 h2'
   refine hJ22 _ ?_
   rw [wrap64 (by omega) (by omega)]
   exact hnext g2 h2'
  intro J24 hJ24
  have hqg := hq.ext0 (up eg)
  have hRg := hR.ext0 (up eg)
  have j24 : ∀ g2 vt, Ext [] g g2 → vt ≠ h1.size → Blk g2 vt (encR (txL L t3)).toArray T_liveryref08_Tx → J24 [.pointer (some ⟨vt, 0, none⟩)] g2 := by
   intro g2 vt e2' hvt bt
   have hV2 := hV.ext0 e2'
   refine hJ24 _ _ ?_
   intro J27 hJ27
   obtain ⟨p0, p1, p2, p3⟩ := rdX bt
   have j27t : ((txL L t3).state ≠ 2 ∨ ((txL L p).state = 2 ∧ (txL L p).csn ≤ (txL L t3).csn)) → J27 [.bool true] g2 := by
    intro hc
    refine hJ27 _ _ ?_
    rw [if_pos rfl]
    refine j22 g2 ?_
    unfold outStep
    rw [if_pos hc]
    exact hV2
   have j27f : ¬ ((txL L t3).state ≠ 2 ∨ ((txL L p).state = 2 ∧ (txL L p).csn ≤ (txL L t3).csn)) → J27 [.bool false] g2 := by
    intro hc
    refine hJ27 _ _ ?_
    rw [if_neg (by decide)]
    intro J30 hJ30
    have j30 : ∀ bb, bb = (decide (oldR M p > 0) && decide (oldR M p ≥ (txL L t3).csn)) → J30 [.bool bb] g2 := by
     intro bb hbb
     refine hJ30 _ _ ?_
     intro J33 hJ33
     have j33 : ∀ g3, VI h1.size hB (endR M p 1) g3 (v.1, v.2 || bb) → Blk g3 vt (encR (txL L t3)).toArray T_liveryref08_Tx → J33 [] g3 := by
      intro g3 hV3 bt3
      refine hJ33 _ ?_
      intro Y hY
      refine loopI (endR M p 1).length (fun k g4 => VI h1.size hB (endR M p 1) g4 (((endR M p 1).take k).foldl (inStep L t3) (v.1, v.2 || bb)) ∧ Blk g4 vt (encR (txL L t3)).toArray T_liveryref08_Tx) ?_ ?_ g3 ⟨hV3, bt3⟩
      ·rintro g4 ⟨hV4, _⟩
       refine hY _ _ ?_
       rw [if_neg (by simp; omega)]
       refine j22 g4 ?_
       rw [List.take_of_length_le (Nat.le_refl _)] at hV4
       unfold outStep
       rw [if_neg hc, ← hbb]
       exact hV4
      ·rintro k g4 hk ⟨hV4, bt4⟩ hnext2
       rw [List.take_add_one, List.getElem?_eq_getElem hk, List.foldl_append] at hnext2
       simp only [Option.toList, List.foldl_cons, List.foldl_nil] at hnext2
       generalize ((endR M p 1).take k).foldl (inStep L t3) (v.1, v.2 || bb) = w at *
       obtain ⟨t1, ht1⟩ : ∃ t1, (endR M p 1)[k] = t1 := ⟨_, rfl⟩
       have htm : t1 ∈ endR M p 1 := by rw [← ht1]; exact List.getElem_mem hk
       rw [ht1] at hnext2
       have hV40 := hV4
       obtain ⟨lw, eg4, bg4, og4, vk4⟩ := hV40
       refine hY _ _ ?_
       rw [if_pos (by simp; omega)]
       intro J38 hJ38
       have j38 : ∀ g5, VI h1.size hB (endR M p 1) g5 (inStep L t3 w t1) → Blk g5 vt (encR (txL L t3)).toArray T_liveryref08_Tx → J38 [] g5 := by
        intro g5 h5 b5
        refine hJ38 _ ?_
        rw [wrap64 (by omega) (by omega)]
        exact hnext2 g5 ⟨h5, b5⟩
       intro J40 hJ40
       have hq4 := hq.ext0 (up eg4)
       have hR4 := hR.ext0 (up eg4)
       have j40 : ∀ g5 vu, Ext [] g4 g5 → vu ≠ h1.size → Blk g5 vu (encR (txL L t1)).toArray T_liveryref08_Tx → J40 [.pointer (some ⟨vu, 0, none⟩)] g5 := by
        intro g5 vu e5 hvu bu
        have hV5 := hV4.ext0 e5
        have bt5 := e5.get bt4 (by simp)
        refine hJ40 _ _ ?_
        intro J43 hJ43
        obtain ⟨u0, u1, u2, u3⟩ := rdX bu
        obtain ⟨p0', p1', p2', p3'⟩ := rdX bt5
        have j43t : (((txL L t1).state = 2 ∧ (txL L t1).csn < (txL L t3).csn) ∨ ((txL L t1).reads = true ∧ (txL L t1).snap < (txL L t3).csn)) → J43 [.bool true] g5 := by
         intro hd
         refine hJ43 _ _ ?_
         rw [if_pos rfl]
         refine j38 g5 ?_ bt5
         unfold inStep
         rw [if_pos hd]
         exact hV5
        have j43f : ¬ (((txL L t1).state = 2 ∧ (txL L t1).csn < (txL L t3).csn) ∨ ((txL L t1).reads = true ∧ (txL L t1).snap < (txL L t3).csn)) → J43 [.bool false] g5 := by
         intro hd
         refine hJ43 _ _ ?_
         rw [if_neg (by decide)]
         obtain ⟨lx, eg5, bg5, og5, vk5⟩ := hV5
         rw [addr_mk]
         refine st_blk bg5 (by simp) fun g6 s6 b6 e6 => ?_
         have eg6 : Ext [h1.size] hB g6 := eg5.trans e6 fun b hb _ => hb
         have bu6 := e6.get bu (by simp; exact hvu)
         have bt6 := e6.get bt5 (by simp; exact hvt)
         have nlx : h1.size ∉ sBlk lx := fun hm => by have := og5.blk _ hm; omega
         have og6 := og5.ext e6 fun a ha hm => by simp at hm; exact nlx (mem_sBlk.2 ⟨a, ha, hm⟩)
         refine ⟨_, (rdX bu6).1, ?_⟩
         by_cases hs : (txL L t1).state = 1
         ·rw [if_pos (by simpa using hs)]
          refine ⟨lx, by rw [addr_mk, rd_blk b6]; rfl, ?_⟩
          obtain ⟨ad, ha, hrd⟩ := rdI (own5 eg6).sl.reads hk
          rw [ht1] at hrd
          rw [ha]
          simp only [nilW_some]
          refine ⟨by omega, by omega, ?_⟩
          rw [Int.toNat_natCast]
          refine ⟨_, hrd, ?_⟩
          have hlx := vk5.len
          refine putR_s og6 vk5.1 t1 (by omega) eg6.sz fun g7 l7 o7 e7' => ⟨l7, rfl, ?_⟩
          rw [addr_mk]
          have b7 := e7'.get b6 (by simp)
          refine st_blk b7 (by simp) fun g8 s8 b8 e8 => ?_
          have nl7 : h1.size ∉ sBlk l7 := fun hm => by have := o7.blk _ hm; omega
          refine j38 g8 ?_ (e8.get (e7'.get bt6 (by simp)) (by simp; exact hvt))
          have hst := vk5.inStep L t3 htm
          unfold inStep at hst ⊢
          rw [if_neg hd, if_pos hs] at hst ⊢
          exact ⟨l7, (eg6.trans0 e7').trans e8 fun b hb _ => hb, b8, o7.ext e8 fun a ha hm => by simp at hm; exact nl7 (mem_sBlk.2 ⟨a, ha, hm⟩), hst⟩
         ·rw [if_neg (by simpa using hs)]
          refine j38 g6 ?_ bt6
          have hst := vk5.inStep L t3 htm
          unfold inStep at hst ⊢
          rw [if_neg hd, if_neg hs] at hst ⊢
          exact ⟨lx, eg6, b6, og6, hst⟩
        refine ⟨_, u0, ?_⟩
        have tail : ¬ ((txL L t1).state = 2 ∧ (txL L t1).csn < (txL L t3).csn) → ∃ b61 : Bool, rd g5 (Addr.add ⟨vu, 0, none⟩ 3) = some (Value.bool b61) ∧
          (if b61 = true then (∃ n62 : Int, rd g5 (Addr.add ⟨vu, 0, none⟩ 1) = some (Value.int .i64 n62) ∧
           ∃ n63 : Int, rd g5 (Addr.add ⟨vt, 0, none⟩ 2) = some (Value.int .i64 n63) ∧
           J43 [(Value.bool (decide (n62 < n63)))] g5) else
          (J43 [(Value.bool false)] g5)) := by
         intro hd1
         refine ⟨_, u3, ?_⟩
         cases hrd : (txL L t1).reads with
         | false =>
          rw [if_neg (by decide)]
          refine j43f ?_
          rintro (g | g)
          ·exact hd1 g
          ·rw [hrd] at g; cases g.1
         | true =>
          rw [if_pos rfl]
          refine ⟨_, u1, _, p2', ?_⟩
          by_cases hlt : (txL L t1).snap < (txL L t3).csn
          ·rw [decide_eq_true hlt]
           exact j43t (Or.inr ⟨hrd, hlt⟩)
          ·rw [decide_eq_false hlt]
           refine j43f ?_
           rintro (g | g)
           ·exact hd1 g
           ·exact hlt g.2
        by_cases hs2 : (txL L t1).state = 2
        ·rw [if_pos (by simpa using hs2)]
         refine ⟨_, u2, _, p2', ?_⟩
         by_cases hlt : (txL L t1).csn < (txL L t3).csn
         ·rw [if_pos (by simpa using hlt)]
          exact j43t (Or.inl ⟨hs2, hlt⟩)
         ·rw [if_neg (by simpa using hlt)]
          exact tail fun hh => hlt hh.2
        ·rw [if_neg (by simpa using hs2)]
         exact tail fun hh => hs2 hh.1
       refine ⟨_, hq4.rd.1, ?_⟩
       obtain ⟨ad, ha, hrd⟩ := rdI (own5 eg4).sl.reads hk
       rw [ht1] at hrd
       rw [ha]
       simp only [nilW_some]
       refine ⟨by omega, by omega, ?_⟩
       rw [Int.toNat_natCast]
       have z4' := eg4.sz
       refine ⟨_, hrd, ?_, newI fun g5 s5 b5 e5 => ?_⟩
       ·refine Get_s hR4 t1 fun g5 e5 => encR4 _ ?_
        refine newI fun g6 s6 b6 e6 => ?_
        refine st_blk b6 (by simp) fun g7 s7 b7 e7' => ?_
        have z5 := e5.sz
        exact j40 g7 g5.size ((e5.trans0 e6).trans e7' fun b hb hlt => by simp at hb; omega) (by omega) b7
       ·obtain ⟨ad2, ha2, hrd2⟩ := rdI ((own5 eg4).ext0 e5).sl.reads hk
        rw [ha] at ha2
        cases ha2
        rw [ht1] at hrd2
        refine ⟨hrd2, (hq4.ext0 e5).rd.1, ?_⟩
        refine getP2 (hR4.ext0 e5) t1 b5 rfl fun g6 e6 b6 => ?_
        exact j40 g6 g4.size (e5.trans e6 fun b hb hlt => by simp at hb; omega) (by omega) b6
     have hV20 := hV2
     obtain ⟨ly, ey, by', oy, vy⟩ := hV20
     cases hb : bb with
     | false =>
      rw [if_neg (by decide)]
      rw [hb, Bool.or_false] at j33
      exact j33 g2 hV2 bt
     | true =>
      rw [if_pos rfl]
      rw [hb, Bool.or_true] at j33
      rw [addr_mk]
      refine st_blk by' (by simp) fun g3 s3 b3 e3 => ?_
      have nly : h1.size ∉ sBlk ly := fun hm => by have := oy.blk _ hm; omega
      exact j33 g3 ⟨ly, ey.trans e3 fun b hb _ => hb, b3, oy.ext e3 fun a ha hm => by simp at hm; exact nly (mem_sBlk.2 ⟨a, ha, hm⟩), vy⟩ (e3.get bt (by simp; exact hvt))
    have hq2 := hqg.ext0 e2'
    refine OldR_s hq2 p hl.2 ⟨_, rfl, ?_⟩
    show if decide (oldR M p > 0) = true then _ else _
    by_cases h0 : oldR M p > 0
    ·rw [if_pos (by simpa using h0)]
     refine ⟨_, p2, ?_⟩
     refine OldR_s hq2 p hl.2 ⟨_, rfl, p2, ?_⟩
     exact j30 _ (by rw [decide_eq_true h0, Bool.true_and]; rfl)
    ·rw [if_neg (by simpa using h0)]
     exact j30 _ (by rw [decide_eq_false h0, Bool.false_and])
   refine ⟨_, p0, ?_⟩
   have hpb : Blk g2 h12.size (encR (txL L p)).toArray T_liveryref08_Tx := e2'.get (eg.get bp (by simp; omega)) (by simp)
   obtain ⟨w0, w1, w2, w3⟩ := rdX hpb
   rw [beqF]
   by_cases hs3 : (txL L t3).state = 2
   ·rw [if_neg (by simp [hs3])]
    refine ⟨_, w0, ?_⟩
    by_cases hsp : (txL L p).state = 2
    ·rw [if_pos (by simpa using hsp)]
     refine ⟨_, w2, _, p2, ?_⟩
     by_cases hle : (txL L p).csn ≤ (txL L t3).csn
     ·rw [decide_eq_true hle]
      exact j27t (Or.inr ⟨hsp, hle⟩)
     ·rw [decide_eq_false hle]
      exact j27f (by rintro (g | g); exact g hs3; exact hle g.2)
    ·rw [if_neg (by simpa using hsp)]
     exact j27f (by rintro (g | g); exact g hs3; exact hsp g.1)
   ·rw [if_pos (by simp [hs3])]
    exact j27t (Or.inl hs3)
  refine ⟨_, hqg.rd.1, ?_⟩
  obtain ⟨ad, ha, hrd⟩ := rdI (own8 eg).sl.reads hi
  rw [ht3] at hrd
  rw [ha]
  simp only [nilW_some]
  refine ⟨by omega, by omega, ?_⟩
  rw [Int.toNat_natCast]
  have zg := eg.sz
  refine ⟨_, hrd, ?_, newI fun g5 s5 b5 e5 => ?_⟩
  ·refine Get_s hRg t3 fun g5 e5 => encR4 _ ?_
   refine newI fun g6 s6 b6 e6 => ?_
   refine st_blk b6 (by simp) fun g7 s7 b7 e7' => ?_
   have z5 := e5.sz
   exact j24 g7 g5.size ((e5.trans0 e6).trans e7' fun b hb hlt => by simp at hb; omega) (by omega) b7
  ·obtain ⟨ad2, ha2, hrd2⟩ := rdI ((own8 eg).ext0 e5).sl.reads hi
   rw [ha] at ha2
   cases ha2
   rw [ht3] at hrd2
   refine ⟨hrd2, (hqg.ext0 e5).rd.1, ?_⟩
   refine getP2 (hRg.ext0 e5) t3 b5 rfl fun g6 e6 b6 => ?_
   exact j24 g6 g.size (e5.trans e6 fun b hb hlt => by simp at hb; omega) (by omega) b6
end
end Go.Lift.E14
namespace Go.Lift.E14
open Go Go.Proofs
set_option maxRecDepth 100000
def condA (L : LM) (t3 t1 : Int) : Bool := (decide ((txL L t1).state = 1) || decide (t1 = t3)) && !(txL L t1).reads
def ahIn (L : LM) (t3 p : Int) (out : List Int) (t1 : Int) : List Int := if condA L t3 t1 = true then putI out p else out
def ahStep (L : LM) (M : EM) (t3 : Int) (out : List Int) (p : Int) : List Int := if (txL L p).state = 1 then (endR M p 1).foldl (ahIn L t3 p) out else out
def aheadR (L : LM) (M : EM) (t3 : Int) : List Int := (endR M t3 1).foldl (ahStep L M t3) []
section
variable {lo : Nat} {h h' : Hp} {q rb : Nat} {M : EM} {sl so : Sl} {Q : List Value → Hp → Prop} {s08 : Sl} {L : LM} {lr : Nat}
theorem AheadR_s (hq : QAt lo h q rb M sl so) (hR : RAt lr h rb L s08) (t3 : Int) (hl : M.m.length ≤ 2 ^ 20)
  (hQ : ∀ h' s, Ext [] h h' → Own T_int 1 encIL h.size h' s (aheadR L M t3) → Q [.slice s.a s.n s.c] h') : S_liveryref14_Edges_Ahead (some ⟨q, 0, none⟩) t3 h Q := by
 refine O_liveryref14_Edges_Ahead _ _ ?_
 unfold F_liveryref14_Edges_Ahead
 have hle : ∀ x, (endR M x 1).length ≤ 2 ^ 20 := fun x => by
  unfold endR
  rw [List.length_map]
  exact Nat.le_trans (List.length_filter_le _ _) hl
 refine InR_s hq t3 (by omega) fun h1 l3 e1 ho3 => ⟨l3, rfl, ?_⟩
 have hn3 := ho3.1
 have hl3 := hle t3
 have z1 := e1.sz
 intro X hX
 -- all that is put in is one of these
 have ok : ∀ {v : List Int}, OrdC cmpI v ∧ (∀ x ∈ v, x ∈ endR M t3 1) → v.length ≤ 2 ^ 20 := fun hv => Nat.le_trans (nodup_sub_len (ordC_nodup cmp3I hv.1) hv.2) hl3
 refine loopV (A := Sl) (va := fun a => [.slice a.a a.n a.c]) (endR M t3 1).length (fun i a g => Ext [] h1 g ∧ Own T_int 1 encIL h1.size g a (((endR M t3 1).take i).foldl (ahStep L M t3) []) ∧ OrdC cmpI (((endR M t3 1).take i).foldl (ahStep L M t3) []) ∧ ∀ x ∈ ((endR M t3 1).take i).foldl (ahStep L M t3) [], x ∈ endR M t3 1) ?_ ?_ ⟨none, 0, 0⟩ h1 ⟨Ext.refl _ _, Own.nil _ _, by simp [OrdC], by simp⟩
 ·rintro l g ⟨eg, hol, _⟩
  refine hX _ _ _ ?_
  rw [if_neg (by simp; omega)]
  rw [List.take_of_length_le (Nat.le_refl _)] at hol
  exact hQ g l (e1.trans0 eg) (hol.mono z1)
 ·rintro i l g hi ⟨eg, hol, hord, hsub⟩ hnext
  rw [List.take_add_one, List.getElem?_eq_getElem hi, List.foldl_append] at hnext
  simp only [Option.toList, List.foldl_cons, List.foldl_nil] at hnext
  generalize ((endR M t3 1).take i).foldl (ahStep L M t3) [] = v at *
  obtain ⟨p, hp⟩ : ∃ p, (endR M t3 1)[i] = p := ⟨_, rfl⟩
  have hpm : p ∈ endR M t3 1 := by rw [← hp]; exact List.getElem_mem hi
  rw [hp] at hnext
  refine hX _ _ _ ?_
  rw [if_pos (by simp; omega)]
  intro J8 hJ8
  have j8 : ∀ g2 (l2 : Sl) v2, v2 = ahStep L M t3 v p → Ext [] h1 g2 → Own T_int 1 encIL h1.size g2 l2 v2 → OrdC cmpI v2 → (∀ x ∈ v2, x ∈ endR M t3 1) → J8 [.slice l2.a l2.n l2.c] g2 := by
   rintro g2 l2 v2 rfl e2 o2 or2 s2
   refine hJ8 _ _ ?_
   rw [wrap64 (by omega) (by omega)]
   exact hnext l2 g2 ⟨e2, o2, or2, s2⟩
  have hqg := hq.ext0 (e1.trans0 eg)
  have hRg := hR.ext0 (e1.trans0 eg)
  obtain ⟨ad, ha, hrd⟩ := rdI (ho3.ext0 eg).sl.reads hi
  rw [hp] at hrd
  rw [ha]
  simp only [nilW_some]
  refine ⟨by omega, by omega, ?_⟩
  rw [Int.toNat_natCast]
  refine ⟨_, hrd, _, hqg.rd.1, ?_⟩
  refine Get_s hRg p fun g2 e2 => encR4 _ ?_
  rw [beqF]
  by_cases hs : (txL L p).state = 1
  ·rw [if_neg (by simp [hs])]
   have hqg2 := hqg.ext0 e2
   refine InR_s hqg2 p (by omega) fun g3 l23 e3 ho23 => ⟨l23, rfl, ?_⟩
   have e23 := e2.trans0 e3
   have hn23 := ho23.1
   have hl23 := hle p
   have hqg3 := hqg.ext0 e23
   have hRg3 := hRg.ext0 e23
   have zg := eg.sz
   have z23 := e23.sz
   have hst : ahStep L M t3 v p = (endR M p 1).foldl (ahIn L t3 p) v := by unfold ahStep; rw [if_pos hs]
   intro Y hY
   refine loopV (A := Sl) (va := fun a => [.slice a.a a.n a.c]) (endR M p 1).length (fun k a g4 => Ext [] g3 g4 ∧ Own T_int 1 encIL h1.size g4 a (((endR M p 1).take k).foldl (ahIn L t3 p) v) ∧ OrdC cmpI (((endR M p 1).take k).foldl (ahIn L t3 p) v) ∧ ∀ x ∈ ((endR M p 1).take k).foldl (ahIn L t3 p) v, x ∈ endR M t3 1) ?_ ?_ l g3 ⟨Ext.refl _ _, hol.ext0 e23, hord, hsub⟩
   ·rintro l4 g4 ⟨e4, o4, or4, s4⟩
    refine hY _ _ _ ?_
    rw [if_neg (by simp; omega)]
    rw [List.take_of_length_le (Nat.le_refl _)] at o4 or4 s4
    exact j8 g4 l4 _ hst.symm ((eg.trans0 e23).trans0 e4) o4 or4 s4
   ·rintro k l4 g4 hk ⟨e4, o4, or4, s4⟩ hnext2
    rw [List.take_add_one, List.getElem?_eq_getElem hk, List.foldl_append] at hnext2
    simp only [Option.toList, List.foldl_cons, List.foldl_nil] at hnext2
    generalize ((endR M p 1).take k).foldl (ahIn L t3 p) v = w at *
    obtain ⟨t1, ht1⟩ : ∃ t1, (endR M p 1)[k] = t1 := ⟨_, rfl⟩
    rw [ht1] at hnext2
    refine hY _ _ _ ?_
    rw [if_pos (by simp; omega)]
    intro J28 hJ28
    have j28 : ∀ g5 (l5 : Sl) w5, w5 = ahIn L t3 p w t1 → Ext [] g3 g5 → Own T_int 1 encIL h1.size g5 l5 w5 → OrdC cmpI w5 → (∀ x ∈ w5, x ∈ endR M t3 1) → J28 [.slice l5.a l5.n l5.c] g5 := by
     rintro g5 l5 w5 rfl e5 o5 or5 s5
     refine hJ28 _ _ ?_
     rw [wrap64 (by omega) (by omega)]
     exact hnext2 l5 g5 ⟨e5, o5, or5, s5⟩
    intro J31 hJ31
    have z4 := e4.sz
    have j31 : ∀ g5 vu, Ext [] g4 g5 → Blk g5 vu (encR (txL L t1)).toArray T_liveryref08_Tx → J31 [.pointer (some ⟨vu, 0, none⟩)] g5 := by
     intro g5 vu e5 bu
     refine hJ31 _ _ ?_
     intro J34 hJ34
     have z5 := e5.sz
     have j34 : ∀ bb, bb = condA L t3 t1 → J34 [.bool bb] g5 := by
      rintro bb rfl
      refine hJ34 _ _ ?_
      have o5 := o4.ext0 e5
      cases hc : condA L t3 t1 with
      | true =>
       rw [if_pos rfl]
       have := ok ⟨or4, s4⟩
       refine putR_s o5 or4 p (by omega) (by omega) fun g6 l6 o6 e6 => ⟨l6, rfl, ?_⟩
       refine j28 g6 l6 _ (by unfold ahIn; rw [if_pos hc]) ((e4.trans0 e5).trans0 e6) o6 (putI_ord or4 p) fun x hx => ?_
       rcases putI_mem.1 hx with e | hx
       ·rw [e]; exact hpm
       ·exact s4 x hx
      | false =>
       rw [if_neg (by decide)]
       exact j28 g5 l4 _ (by unfold ahIn; rw [hc]; rfl) (e4.trans0 e5) o5 or4 s4
     obtain ⟨u0, u1, u2, u3⟩ := rdX bu
     unfold condA at j34
     refine ⟨_, u0, ?_⟩
     by_cases hs1 : (txL L t1).state = 1
     ·rw [if_pos (by simpa using hs1)]
      exact ⟨_, u3, j34 _ (by simp [hs1])⟩
     ·rw [if_neg (by simpa using hs1)]
      obtain ⟨ad2, ha2, hrd2⟩ := rdI ((ho23.ext0 e4).ext0 e5).sl.reads hk
      rw [ht1] at hrd2
      rw [ha2]
      simp only [nilW_some]
      refine ⟨by omega, by omega, ?_⟩
      rw [Int.toNat_natCast]
      refine ⟨_, hrd2, ?_⟩
      by_cases ht : t1 = t3
      ·rw [if_pos (by simpa using ht)]
       exact ⟨_, u3, j34 _ (by simp [ht])⟩
      ·rw [if_neg (by simpa using ht)]
       exact j34 _ (by simp [hs1, ht])
    have hq4 := hqg3.ext0 e4
    have hR4 := hRg3.ext0 e4
    refine ⟨_, hq4.rd.1, ?_⟩
    obtain ⟨ad2, ha2, hrd2⟩ := rdI (ho23.ext0 e4).sl.reads hk
    rw [ht1] at hrd2
    rw [ha2]
    simp only [nilW_some]
    refine ⟨by omega, by omega, ?_⟩
    rw [Int.toNat_natCast]
    refine ⟨_, hrd2, ?_, newI fun g5 s5 b5 e5 => ?_⟩
    ·refine Get_s hR4 t1 fun g5 e5 => encR4 _ ?_
     refine newI fun g6 s6 b6 e6 => ?_
     refine st_blk b6 (by simp) fun g7 s7 b7 e7' => ?_
     have z5 := e5.sz
     exact j31 g7 g5.size ((e5.trans0 e6).trans e7' fun b hb hlt => by simp at hb; omega) b7
    ·obtain ⟨ad3, ha3, hrd3⟩ := rdI ((ho23.ext0 e4).ext0 e5).sl.reads hk
     rw [ha2] at ha3
     cases ha3
     rw [ht1] at hrd3
     refine ⟨hrd3, (hq4.ext0 e5).rd.1, ?_⟩
     refine getP2 (hR4.ext0 e5) t1 b5 rfl fun g6 e6 b6 => ?_
     exact j31 g6 g4.size (e5.trans e6 fun b hb hlt => by simp at hb; omega) b6
  ·rw [if_pos (by simp [hs])]
   exact j8 g2 l v (by unfold ahStep; rw [if_neg hs]) (eg.trans0 e2) (hol.ext0 e2) hord hsub
end
end Go.Lift.E14
namespace Go.Lift.E14
open Go
set_option maxRecDepth 100000
structure Rel (E M : EM) : Prop where
 m : M.m = sortC cmpP E.m
 old : ∀ x, oldR M x = oldE E x
theorem sortI_eq {l s : List Int} (hs : s.Pairwise (· ≤ ·)) (hp : s.Perm l) : sortI l = s := by
 unfold sortI
 refine List.Perm.eq_of_pairwise (le := fun a b => (decide (a ≤ b)) = true) (fun a b _ _ h1 h2 => ?_) (List.pairwise_mergeSort (fun a b c h1 h2 => by simp at *; omega) (fun a b => by simp; omega) l) (hs.imp fun h => by simpa using h) ((List.mergeSort_perm l _).trans hp.symm)
 simp at h1 h2
 omega
theorem cmpP_fst {x y : Int × Int} (h : cmpP x y < 0) : x.1 ≤ y.1 ∧ (x.1 = y.1 → x.2 < y.2) ∧ (x.2 = y.2 → x.1 < y.1) := by
 obtain ⟨a, b⟩ := y
 rw [cmpP_lt] at h
 refine ⟨?_, ?_, ?_⟩ <;> simp only <;> omega
section
variable {E M : EM}
theorem Rel.ord (hr : Rel E M) (hn : E.m.Nodup) : OrdC cmpP M.m := by rw [hr.m]; exact sortC_ord cmpP3 cmpP_zero hn
theorem Rel.mem (hr : Rel E M) {x : Int × Int} : x ∈ M.m ↔ x ∈ E.m := by rw [hr.m]; exact sortC_mem
theorem end_in (hr : Rel E M) (hn : E.m.Nodup) (x : Int) : endR M x 1 = inE E x ∧ OrdC cmpI (endR M x 1) := by
 have ho := hr.ord hn
 have hlt : (endR M x 1).Pairwise (· < ·) := by
  unfold endR
  rw [List.pairwise_map, List.pairwise_filter]
  refine ho.imp fun {a b} h ha hb => ?_
  simp [endF] at ha hb ⊢
  exact (cmpP_fst h).2.2 (by rw [ha, hb])
 refine ⟨?_, hlt.imp fun h => (cmpI_lt _ _).2 h⟩
 symm
 unfold inE
 refine sortI_eq (hlt.imp fun h => Int.le_of_lt h) ?_
 unfold endR
 rw [hr.m]
 exact ((sortC_perm.filter _).map _)
theorem end_out (hr : Rel E M) (hn : E.m.Nodup) (x : Int) : endR M x 0 = outE E x ∧ OrdC cmpI (endR M x 0) := by
 have ho := hr.ord hn
 have hlt : (endR M x 0).Pairwise (· < ·) := by
  unfold endR
  rw [List.pairwise_map, List.pairwise_filter]
  refine ho.imp fun {a b} h ha hb => ?_
  simp [endF] at ha hb ⊢
  exact (cmpP_fst h).2.1 (by rw [ha, hb])
 refine ⟨?_, hlt.imp fun h => (cmpI_lt _ _).2 h⟩
 symm
 unfold outE
 refine sortI_eq (hlt.imp fun h => Int.le_of_lt h) ?_
 unfold endR
 rw [hr.m]
 exact ((sortC_perm.filter _).map _)
theorem Rel.add (hr : Rel E M) (hn : E.m.Nodup) (L : LM) (a b : Int) : Rel (addE L E a b) (addQ L M a b) ∧ decide (besideL L a b = true ∧ (a, b) ∉ E.m) = decide (besideL L a b = true ∧ (a, b) ∉ M.m) := by
 have hm : (a, b) ∉ M.m ↔ (a, b) ∉ E.m := not_congr hr.mem
 refine ⟨?_, by simp only [hm]⟩
 unfold addE addQ
 by_cases hc : besideL L a b = true ∧ (a, b) ∉ E.m
 ·rw [if_pos hc, if_pos ⟨hc.1, hm.2 hc.2⟩]
  refine ⟨?_, hr.old⟩
  refine ordC_ext cmpP3 (insC_ord cmpP3 cmpP_zero (hr.ord hn) (hm.2 hc.2)) (sortC_ord cmpP3 cmpP_zero ?_) fun x => ?_
  ·rw [List.nodup_append]
   exact ⟨hn, by simp, fun x hx y hy e => by simp at hy; subst hy; subst e; exact hc.2 hx⟩
  ·rw [insC_mem, sortC_mem, hr.mem]
   simp
   exact Or.comm
 ·rw [if_neg hc, if_neg (fun h => hc ⟨h.1, hm.1 h.2⟩)]
  exact hr
theorem afind_filter (l : List (Int × Int)) (x y : Int) : afind (l.filter fun q => !decide (q.1 = x)) y = if y = x then none else afind l y := by
 induction l with
 | nil => simp [afind]
 | cons p l ih =>
  obtain ⟨u, v⟩ := p
  rw [List.filter_cons]
  by_cases e : u = x
  ·subst e
   rw [if_neg (by simp), ih]
   by_cases e2 : y = u
   ·simp [e2]
   ·simp [e2, afind]
  ·rw [if_pos (by simp [e])]
   simp only [afind, ih]
   by_cases e2 : y = u
   ·subst e2
    simp [e]
   ·simp [e2]
theorem afind_snoc (l : List (Int × Int)) (x v y : Int) : afind (l ++ [(x, v)]) y = match afind l y with | some w => some w | none => if y = x then some v else none := by
 induction l with
 | nil => simp [afind]
 | cons p l ih =>
  obtain ⟨u, w⟩ := p
  simp only [List.cons_append, afind, ih]
  by_cases e : y = u
  ·simp [e]
  ·simp [e]
theorem Rel.drop (hr : Rel E M) {N : Nat} (hk : EOk N E) (x : Int) : Rel (dropE E x) (dropR M x) := by
 refine ⟨?_, fun y => ?_⟩
 ·unfold dropE dropR
  simp only
  refine ordC_ext cmpP3 ((hr.ord hk.nd).sublist List.filter_sublist) (sortC_ord cmpP3 cmpP_zero (hk.nd.sublist List.filter_sublist)) fun z => ?_
  rw [sortC_mem, List.mem_filter, List.mem_filter, hr.mem]
 ·unfold oldR oldE dropE dropR
  simp only
  rw [afind_filter, afind_adel hk.od]
  by_cases e : y = x
  ·simp [e]
  ·rw [if_neg e, if_neg e]
   exact hr.old y
theorem Rel.oldIn (hr : Rel E M) {n : Nat} {L : LM} (hk : LOk n L) (b csn : Int) : Rel (oldInE L E b csn) (oldInR L M b csn) ∧ decide (oldOk L E b csn) = decide (oldOkR L M b csn) := by
 have hok : oldOk L E b csn ↔ oldOkR L M b csn := by
  unfold oldOk oldOkR
  have h1 : (afind M.old b).getD 0 = oldE E b := hr.old b
  rw [h1]
  have hst : ((txL L b).state ≠ 0 ∧ (txL L b).state ≠ 3) ↔ ((txL L b).state = 1 ∨ (txL L b).state = 2) := by
   by_cases hh : hasL L b
   ·have := hk.st b hh; omega
   ·rw [txL_no hh]; simp [zTx]
  rw [← and_assoc, hst]
 refine ⟨?_, by simp only [hok]⟩
 unfold oldInE oldInR
 by_cases hc : oldOk L E b csn
 ·rw [if_pos hc, if_pos (hok.1 hc)]
  refine ⟨hr.m, fun y => ?_⟩
  unfold oldR oldE
  simp only
  rw [afind_snoc, afind_filter, afind_aput]
  by_cases e : y = b
  ·simp [e]
  ·have := hr.old y
   unfold oldR oldE at this
   simp only [e, if_false]
   rw [← this]
   cases afind M.old y <;> rfl
 ·rw [if_neg hc, if_neg (fun h => hc (hok.2 h))]
  exact hr
def skipB (L : LM) (c t1 : Int) : Prop := ((txL L t1).state = 2 ∧ (txL L t1).csn < c) ∨ ((txL L t1).reads = true ∧ (txL L t1).snap < c)
theorem inFold (L : LM) (t3 : Int) : ∀ (l : List Int) (v : List Int × Bool), OrdC cmpI v.1 → OrdC cmpI (l.foldl (inStep L t3) v).1 ∧ ((l.foldl (inStep L t3) v).2 = true ↔ v.2 = true ∨ ∃ t ∈ l, ¬ skipB L (txL L t3).csn t) ∧ ∀ x, x ∈ (l.foldl (inStep L t3) v).1 ↔ x ∈ v.1 ∨ (x ∈ l ∧ (txL L x).state = 1 ∧ ¬ skipB L (txL L t3).csn x)
 | [], v, h => ⟨h, by simp, fun x => by simp⟩
 | t :: l, v, h => by
  have hstep : OrdC cmpI (inStep L t3 v t).1 ∧ ((inStep L t3 v t).2 = true ↔ v.2 = true ∨ ¬ skipB L (txL L t3).csn t) ∧ ∀ x, x ∈ (inStep L t3 v t).1 ↔ x ∈ v.1 ∨ (x = t ∧ (txL L x).state = 1 ∧ ¬ skipB L (txL L t3).csn x) := by
   unfold inStep
   by_cases hk : skipB L (txL L t3).csn t
   ·have hk2 := hk
    unfold skipB at hk2
    rw [if_pos hk2]
    refine ⟨h, ⟨Or.inl, fun g => g.elim id fun g => absurd hk g⟩, fun x => ⟨Or.inl, fun g => g.elim id ?_⟩⟩
    rintro ⟨rfl, _, g⟩
    exact absurd hk g
   ·have hk2 := hk
    unfold skipB at hk2
    rw [if_neg hk2]
    refine ⟨?_, ⟨fun _ => Or.inr hk, fun _ => rfl⟩, fun x => ?_⟩
    ·split
     ·exact putI_ord h _
     ·exact h
    ·split
     ·rename_i hs
      rw [putI_mem]
      constructor
      ·rintro (rfl | g)
       ·exact Or.inr ⟨rfl, hs, hk⟩
       ·exact Or.inl g
      ·rintro (g | ⟨rfl, _⟩)
       ·exact Or.inr g
       ·exact Or.inl rfl
     ·rename_i hs
      constructor
      ·exact Or.inl
      ·rintro (g | ⟨rfl, g, _⟩)
       ·exact g
       ·exact absurd g hs
  obtain ⟨s1, s2, s3⟩ := hstep
  obtain ⟨i1, i2, i3⟩ := inFold L t3 l (inStep L t3 v t) s1
  rw [List.foldl_cons]
  refine ⟨i1, ?_, fun x => ?_⟩
  ·rw [i2, s2]
   constructor
   ·rintro ((g | g) | ⟨u, hu, g⟩)
    ·exact Or.inl g
    ·exact Or.inr ⟨t, by simp, g⟩
    ·exact Or.inr ⟨u, by simp [hu], g⟩
   ·rintro (g | ⟨u, hu, g⟩)
    ·exact Or.inl (Or.inl g)
    ·rcases List.mem_cons.1 hu with rfl | hu
     ·exact Or.inl (Or.inr g)
     ·exact Or.inr ⟨u, hu, g⟩
  ·rw [i3, s3]
   constructor
   ·rintro ((g | ⟨rfl, g⟩) | ⟨hu, g⟩)
    ·exact Or.inl g
    ·exact Or.inr ⟨by simp, g⟩
    ·exact Or.inr ⟨by simp [hu], g⟩
   ·rintro (g | ⟨hu, g⟩)
    ·exact Or.inl (Or.inl g)
    ·rcases List.mem_cons.1 hu with rfl | hu
     ·exact Or.inl (Or.inr ⟨rfl, g⟩)
     ·exact Or.inr ⟨hu, g⟩
/-- Whose commit spoils. -/
def t3Ok (L : LM) (p t3 : Int) : Prop := (txL L t3).state = 2 ∧ ¬ ((txL L p).state = 2 ∧ (txL L p).csn ≤ (txL L t3).csn)
def oldB (M : EM) (L : LM) (p t3 : Int) : Prop := oldR M p > 0 ∧ oldR M p ≥ (txL L t3).csn
theorem outFold (L : LM) (M : EM) (p : Int) : ∀ (l : List Int) (v : List Int × Bool), OrdC cmpI v.1 → OrdC cmpI (l.foldl (outStep L M p) v).1 ∧ ((l.foldl (outStep L M p) v).2 = true ↔ v.2 = true ∨ ∃ t3 ∈ l, t3Ok L p t3 ∧ (oldB M L p t3 ∨ ∃ t ∈ endR M p 1, ¬ skipB L (txL L t3).csn t)) ∧ ∀ x, x ∈ (l.foldl (outStep L M p) v).1 ↔ x ∈ v.1 ∨ ∃ t3 ∈ l, t3Ok L p t3 ∧ x ∈ endR M p 1 ∧ (txL L x).state = 1 ∧ ¬ skipB L (txL L t3).csn x
 | [], v, h => ⟨h, by simp, fun x => by simp⟩
 | t :: l, v, h => by
  have hstep : OrdC cmpI (outStep L M p v t).1 ∧ ((outStep L M p v t).2 = true ↔ v.2 = true ∨ (t3Ok L p t ∧ (oldB M L p t ∨ ∃ u ∈ endR M p 1, ¬ skipB L (txL L t).csn u))) ∧ ∀ x, x ∈ (outStep L M p v t).1 ↔ x ∈ v.1 ∨ (t3Ok L p t ∧ x ∈ endR M p 1 ∧ (txL L x).state = 1 ∧ ¬ skipB L (txL L t).csn x) := by
   unfold outStep
   by_cases hk : (txL L t).state ≠ 2 ∨ ((txL L p).state = 2 ∧ (txL L p).csn ≤ (txL L t).csn)
   ·rw [if_pos hk]
    have hno : ¬ t3Ok L p t := fun g => hk.elim (fun q => q g.1) g.2
    exact ⟨h, ⟨Or.inl, fun g => g.elim id fun g => absurd g.1 hno⟩, fun x => ⟨Or.inl, fun g => g.elim id fun g => absurd g.1 hno⟩⟩
   ·rw [if_neg hk]
    have hyes : t3Ok L p t := ⟨Classical.not_not.1 fun q => hk (Or.inl q), fun q => hk (Or.inr q)⟩
    obtain ⟨i1, i2, i3⟩ := inFold L t (endR M p 1) (v.1, v.2 || (decide (oldR M p > 0) && decide (oldR M p ≥ (txL L t).csn))) h
    refine ⟨i1, ?_, fun x => ?_⟩
    ·rw [i2]
     simp only [Bool.or_eq_true, Bool.and_eq_true, decide_eq_true_eq]
     constructor
     ·rintro ((g | g) | g)
      ·exact Or.inl g
      ·exact Or.inr ⟨hyes, Or.inl g⟩
      ·exact Or.inr ⟨hyes, Or.inr g⟩
     ·rintro (g | ⟨_, g | g⟩)
      ·exact Or.inl (Or.inl g)
      ·exact Or.inl (Or.inr g)
      ·exact Or.inr g
    ·rw [i3]
     constructor
     ·rintro (g | g)
      ·exact Or.inl g
      ·exact Or.inr ⟨hyes, g⟩
     ·rintro (g | ⟨_, g⟩)
      ·exact Or.inl g
      ·exact Or.inr g
  obtain ⟨s1, s2, s3⟩ := hstep
  obtain ⟨i1, i2, i3⟩ := outFold L M p l (outStep L M p v t) s1
  rw [List.foldl_cons]
  refine ⟨i1, ?_, fun x => ?_⟩
  ·rw [i2, s2]
   constructor
   ·rintro ((g | g) | ⟨u, hu, g⟩)
    ·exact Or.inl g
    ·exact Or.inr ⟨t, by simp, g⟩
    ·exact Or.inr ⟨u, by simp [hu], g⟩
   ·rintro (g | ⟨u, hu, g⟩)
    ·exact Or.inl (Or.inl g)
    ·rcases List.mem_cons.1 hu with rfl | hu
     ·exact Or.inl (Or.inr g)
     ·exact Or.inr ⟨u, hu, g⟩
  ·rw [i3, s3]
   constructor
   ·rintro ((g | g) | ⟨u, hu, g⟩)
    ·exact Or.inl g
    ·exact Or.inr ⟨t, by simp, g⟩
    ·exact Or.inr ⟨u, by simp [hu], g⟩
   ·rintro (g | ⟨u, hu, g⟩)
    ·exact Or.inl (Or.inl g)
    ·rcases List.mem_cons.1 hu with rfl | hu
     ·exact Or.inl (Or.inr g)
     ·exact Or.inr ⟨u, hu, g⟩
end
end Go.Lift.E14
namespace Go.Lift.E14
open Go
set_option maxRecDepth 100000
theorem spFold_ok (L : LM) (csn : Int) : ∀ (l : List Int) (acc : List Int × Bool), (l.foldl (spStep L csn) acc).2 = true → acc.2 = true ∨ ∃ t ∈ l, ¬ ((txL L t).state = 3 ∨ ((txL L t).state = 2 ∧ (txL L t).csn < csn)) ∧ ¬ ((txL L t).reads = true ∧ (txL L t).snap < csn)
 | [], acc, h => Or.inl h
 | t :: l, acc, h => by
  rw [List.foldl_cons] at h
  rcases spFold_ok L csn l _ h with h1 | ⟨u, hu, h2⟩
  ·unfold spStep at h1
   split at h1
   ·exact Or.inl h1
   ·rename_i q1
    split at h1
    ·exact Or.inl h1
    ·rename_i q2
     exact Or.inr ⟨t, by simp, q1, q2⟩
  ·exact Or.inr ⟨u, by simp [hu], h2⟩
theorem spFold_true (L : LM) (csn : Int) : ∀ (l : List Int) (acc : List Int × Bool), (acc.2 = true ∨ ∃ t ∈ l, ¬ ((txL L t).state = 3 ∨ ((txL L t).state = 2 ∧ (txL L t).csn < csn)) ∧ ¬ ((txL L t).reads = true ∧ (txL L t).snap < csn)) → (l.foldl (spStep L csn) acc).2 = true
 | [], acc, h => by
  rcases h with h | ⟨t, ht, _⟩
  ·exact h
  ·cases ht
 | t :: l, acc, h => by
  rw [List.foldl_cons]
  refine spFold_true L csn l _ ?_
  rcases h with h | ⟨u, hu, h2, h3⟩
  ·refine Or.inl ?_
   unfold spStep
   split
   ·exact h
   ·split
    ·exact h
    ·rfl
  ·rcases List.mem_cons.1 hu with rfl | hu
   ·refine Or.inl ?_
    unfold spStep
    rw [if_neg h2, if_neg h3]
   ·exact Or.inr ⟨u, hu, h2, h3⟩
theorem firstE_pos {n : Nat} {L : LM} {E : EM} (hk : LOk n L) (p : Int) : firstE L E p = 0 ∨ (1 ≤ firstE L E p ∧ ∃ t3 ∈ outE E p, (txL L t3).csn = firstE L E p ∧ (txL L t3).state = 2 ∧ ((txL L p).csn = 0 ∨ (txL L t3).csn < (txL L p).csn)) := by
 have key : ∀ (l : List Int) (a : Int), (a = 0 ∨ (1 ≤ a ∧ ∃ t3 ∈ outE E p, (txL L t3).csn = a ∧ (txL L t3).state = 2 ∧ ((txL L p).csn = 0 ∨ (txL L t3).csn < (txL L p).csn))) → (∀ t ∈ l, t ∈ outE E p) →
   (l.foldl (stepF L p) a = 0 ∨ (1 ≤ l.foldl (stepF L p) a ∧ ∃ t3 ∈ outE E p, (txL L t3).csn = l.foldl (stepF L p) a ∧ (txL L t3).state = 2 ∧ ((txL L p).csn = 0 ∨ (txL L t3).csn < (txL L p).csn))) := by
  intro l
  induction l with
  | nil => intro a h _; exact h
  | cons t l ih =>
   intro a h hl
   rw [List.foldl_cons]
   refine ih _ ?_ fun t ht => hl t (by simp [ht])
   unfold stepF
   split
   ·exact h
   ·rename_i hc
    split
    ·refine Or.inr ⟨?_, t, hl t (by simp), rfl, ?_, ?_⟩
     ·have hs : (txL L t).state = 2 := Classical.byContradiction fun hs => hc (Or.inl (hk.csn0 t hs))
      have hh : hasL L t := (has_state hk).2 (by omega)
      have := hk.csn t hh hs
      omega
     ·exact Classical.byContradiction fun hs => hc (Or.inl (hk.csn0 t hs))
     ·refine Classical.byContradiction fun hn => hc (Or.inr ⟨fun e => hn (Or.inl e), by omega⟩)
    ·exact h
 exact key (outE E p) 0 (Or.inl rfl) fun _ h => h
section
variable {E M : EM} {L : LM} {n : Nat}
theorem csn_state (hk : LOk n L) (x : Int) : (txL L x).csn ≠ 0 ↔ (txL L x).state = 2 := by
 constructor
 ·intro h
  exact Classical.byContradiction fun hs => h (hk.csn0 x hs)
 ·intro hs
  have := hk.csn x ((has_state hk).2 (by omega)) hs
  omega
theorem step_cond (hk : LOk n L) (p t : Int) : ((txL L t).csn = 0 ∨ ((txL L p).csn ≠ 0 ∧ (txL L p).csn ≤ (txL L t).csn)) ↔ ¬ t3Ok L p t := by
 have h1 := csn_state hk t
 have h2 := csn_state hk p
 unfold t3Ok
 rw [h2]
 constructor
 ·rintro (g | g) ⟨q1, q2⟩
  ·exact h1.2 q1 g
  ·exact q2 g
 ·intro g
  by_cases q : (txL L t).csn = 0
  ·exact Or.inl q
  ·refine Or.inr (Classical.byContradiction fun hn => g ⟨h1.1 q, hn⟩)
theorem first_fold (hk : LOk n L) (p : Int) : ∀ (l : List Int) (a : Int), (a ≠ 0 → l.foldl (stepF L p) a ≠ 0 ∧ l.foldl (stepF L p) a ≤ a) ∧ ∀ t ∈ l, t3Ok L p t → l.foldl (stepF L p) a ≠ 0 ∧ l.foldl (stepF L p) a ≤ (txL L t).csn
 | [], a => ⟨fun h => ⟨h, Int.le_refl _⟩, by simp⟩
 | t :: l, a => by
  rw [List.foldl_cons]
  obtain ⟨i1, i2⟩ := first_fold hk p l (stepF L p a t)
  have hs : (a ≠ 0 → stepF L p a t ≠ 0 ∧ stepF L p a t ≤ a) ∧ (t3Ok L p t → stepF L p a t ≠ 0 ∧ stepF L p a t ≤ (txL L t).csn) := by
   unfold stepF
   by_cases hc : t3Ok L p t
   ·rw [if_neg (fun g => (step_cond hk p t).1 g hc)]
    have hne : (txL L t).csn ≠ 0 := (csn_state hk t).2 hc.1
    split <;> constructor <;> intro _ <;> constructor <;> omega
   ·rw [if_pos ((step_cond hk p t).2 hc)]
    exact ⟨fun h => ⟨h, Int.le_refl _⟩, fun g => absurd g hc⟩
  refine ⟨fun h => ?_, fun u hu hc => ?_⟩
  ·obtain ⟨q1, q2⟩ := hs.1 h
   obtain ⟨q3, q4⟩ := i1 q1
   exact ⟨q3, by omega⟩
  ·rcases List.mem_cons.1 hu with rfl | hu
   ·obtain ⟨q1, q2⟩ := hs.2 hc
    obtain ⟨q3, q4⟩ := i1 q1
    exact ⟨q3, by omega⟩
   ·exact i2 u hu hc
theorem spFold_list (L : LM) (csn : Int) : ∀ (l : List Int) (acc : List Int × Bool), (l.foldl (spStep L csn) acc).1 = acc.1 ++ l.filter fun t => decide (¬ ((txL L t).state = 3 ∨ ((txL L t).state = 2 ∧ (txL L t).csn < csn)) ∧ ¬ ((txL L t).reads = true ∧ (txL L t).snap < csn) ∧ (txL L t).state = 1)
 | [], acc => by simp
 | t :: l, acc => by
  rw [List.foldl_cons, spFold_list L csn l]
  have : (spStep L csn acc t).1 = acc.1 ++ if (¬ ((txL L t).state = 3 ∨ ((txL L t).state = 2 ∧ (txL L t).csn < csn)) ∧ ¬ ((txL L t).reads = true ∧ (txL L t).snap < csn) ∧ (txL L t).state = 1) then [t] else [] := by
   unfold spStep
   by_cases h1 : (txL L t).state = 3 ∨ ((txL L t).state = 2 ∧ (txL L t).csn < csn)
   ·rw [if_pos h1, if_neg (fun g => g.1 h1), List.append_nil]
   ·rw [if_neg h1]
    by_cases h2 : (txL L t).reads = true ∧ (txL L t).snap < csn
    ·rw [if_pos h2, if_neg (fun g => g.2.1 h2), List.append_nil]
    ·rw [if_neg h2]
     by_cases h3 : (txL L t).state = 1
     ·rw [if_pos h3, if_pos ⟨h1, h2, h3⟩]
     ·rw [if_neg h3, if_neg (fun g => h3 g.2.2), List.append_nil]
  rw [this, List.filter_cons, List.append_assoc]
  congr 1
  by_cases hc : ¬ ((txL L t).state = 3 ∨ ((txL L t).state = 2 ∧ (txL L t).csn < csn)) ∧ ¬ ((txL L t).reads = true ∧ (txL L t).snap < csn) ∧ (txL L t).state = 1
  ·rw [if_pos hc, if_pos (decide_eq_true hc)]
   rfl
  ·rw [if_neg hc, if_neg (by rw [decide_eq_false hc]; decide)]
   rfl
theorem end_mem {x y : Int} (h : y ∈ endR M x 1) : (y, x) ∈ M.m := by
 unfold endR at h
 obtain ⟨⟨a, b⟩, h1, rfl⟩ := List.mem_map.1 h
 obtain ⟨h2, h3⟩ := List.mem_filter.1 h1
 simp [endF] at h3
 subst h3
 simpa [endF] using h2
theorem end_mem0 {x y : Int} (h : y ∈ endR M x 0) : (x, y) ∈ M.m := by
 unfold endR at h
 obtain ⟨⟨a, b⟩, h1, rfl⟩ := List.mem_map.1 h
 obtain ⟨h2, h3⟩ := List.mem_filter.1 h1
 simp [endF] at h3
 subst h3
 simpa [endF] using h2
/-- Spoilt pivots are the reference's. -/
theorem spoilt_eq (hr : Rel E M) (hn : E.m.Nodup) (hk : LOk n L) (hb : BI L E) (p : Int) : spoiltR L M p = spoiltE L E p := by
 obtain ⟨hin, hio⟩ := end_in hr hn p
 obtain ⟨hout, hoo⟩ := end_out hr hn p
 obtain ⟨f1, f2, f3⟩ := outFold L M p (endR M p 0) ([], false) (by simp [OrdC])
 have hstO : ∀ t ∈ endR M p 0, (txL L p).state ≠ 3 ∧ (txL L t).state ≠ 3 := fun t ht => by
  have := (beside_iff.1 (hb _ (hr.mem.1 (end_mem0 ht)))).1
  exact ⟨this.2.2.2.1, this.2.2.2.2⟩
 have hstI : ∀ t ∈ endR M p 1, (txL L t).state ≠ 3 := fun t ht => (beside_iff.1 (hb _ (hr.mem.1 (end_mem ht)))).1.2.2.2.1
 have hold := hr.old p
 obtain ⟨g1, g2⟩ := first_fold hk p (outE E p) 0
 have hfe : (outE E p).foldl (stepF L p) 0 = firstE L E p := rfl
 rw [hfe] at g2
 rw [← hout] at g2
 have none : (∀ t3 ∈ endR M p 0, ¬ t3Ok L p t3) → spoiltR L M p = ([], false) := by
  intro hno
  unfold spoiltR
  refine Prod.ext ?_ ?_
  ·refine List.eq_nil_iff_forall_not_mem.2 fun x hx => ?_
   rcases (f3 x).1 hx with h | ⟨t3, ht, hc, _⟩
   ·cases h
   ·exact hno t3 ht hc
  ·simp only
   rw [← Bool.not_eq_true, f2]
   rintro (h | ⟨t3, ht, hc, _⟩)
   ·cases h
   ·exact hno t3 ht hc
 unfold spoiltE
 by_cases h3 : (txL L p).state = 3
 ·rw [if_pos h3]
  exact none fun t ht _ => (hstO t ht).1 h3
 rw [if_neg h3]
 by_cases h0 : firstE L E p = 0
 ·rw [if_pos h0]
  exact none fun t ht hc => (g2 t ht hc).1 h0
 rw [if_neg h0]
 rcases firstE_pos (E := E) hk p with h | ⟨h1, t3, ht3, hc3, hs3, hp3⟩
 ·exact absurd h h0
 rw [← hout] at ht3
 have hok3 : t3Ok L p t3 := by
  refine ⟨hs3, fun g => ?_⟩
  have := (csn_state hk p).2 g.1
  rcases hp3 with q | q
  ·exact this q
  ·omega
 generalize firstE L E p = c at *
 rw [← hin]
 have hskip : ∀ t t', t3Ok L p t → t ∈ endR M p 0 → ¬ skipB L (txL L t).csn t' → ¬ skipB L c t' := by
  intro t t' hc ht hs hs2
  have := (g2 t ht hc).2
  refine hs ?_
  unfold skipB at hs2 ⊢
  rcases hs2 with ⟨q1, q2⟩ | ⟨q1, q2⟩
  ·exact Or.inl ⟨q1, by omega⟩
  ·exact Or.inr ⟨q1, by omega⟩
 unfold spoiltR
 have hcond : ∀ t ∈ endR M p 1, (¬ ((txL L t).state = 3 ∨ ((txL L t).state = 2 ∧ (txL L t).csn < c)) ∧ ¬ ((txL L t).reads = true ∧ (txL L t).snap < c)) ↔ ¬ skipB L c t := by
  intro t ht
  have := hstI t ht
  unfold skipB
  constructor
  ·rintro ⟨a1, a2⟩ (q | q)
   ·exact a1 (Or.inr q)
   ·exact a2 q
  ·intro h
   exact ⟨fun q => q.elim this fun q => h (Or.inl q), fun q => h (Or.inr q)⟩
 refine Prod.ext ?_ ?_
 ·rw [spFold_list, List.nil_append]
  refine ordC_ext cmp3I f1 (hio.sublist List.filter_sublist) fun x => ?_
  rw [f3, List.mem_filter]
  simp only [List.not_mem_nil, false_or, decide_eq_true_eq]
  constructor
  ·rintro ⟨t, ht, hc, hx, hs, hk'⟩
   have := (hcond x hx).2 (hskip t x hc ht hk')
   exact ⟨hx, this.1, this.2, hs⟩
  ·rintro ⟨hx, q1, q2, q3⟩
   refine ⟨t3, ht3, hok3, hx, q3, ?_⟩
   rw [hc3]
   exact (hcond x hx).1 ⟨q1, q2⟩
 ·rw [Bool.eq_iff_iff, f2]
  constructor
  ·rintro (h | ⟨t, ht, hc, h⟩)
   ·cases h
   ·refine spFold_true L c _ _ ?_
    rcases h with ⟨q1, q2⟩ | ⟨u, hu, hs⟩
    ·refine Or.inl ?_
     have := (g2 t ht hc).2
     simp only [decide_eq_true_eq]
     omega
    ·exact Or.inr ⟨u, hu, (hcond u hu).2 (hskip t u hc ht hs)⟩
  ·intro h
   refine Or.inr ⟨t3, ht3, hok3, ?_⟩
   rcases spFold_ok L c _ _ h with h | ⟨u, hu, q1, q2⟩
   ·refine Or.inl ?_
    unfold oldB
    simp only [decide_eq_true_eq] at h
    omega
   ·refine Or.inr ⟨u, hu, ?_⟩
    rw [hc3]
    exact (hcond u hu).1 ⟨q1, q2⟩
theorem ahInFold (L : LM) (t3 p : Int) : ∀ (l : List Int) (out : List Int), OrdC cmpI out → OrdC cmpI (l.foldl (ahIn L t3 p) out) ∧ ∀ x, x ∈ l.foldl (ahIn L t3 p) out ↔ x ∈ out ∨ (x = p ∧ l.any (condA L t3) = true)
 | [], out, h => ⟨h, fun x => by simp⟩
 | t :: l, out, h => by
  have hs : OrdC cmpI (ahIn L t3 p out t) ∧ ∀ x, x ∈ ahIn L t3 p out t ↔ x ∈ out ∨ (x = p ∧ condA L t3 t = true) := by
   unfold ahIn
   by_cases hc : condA L t3 t = true
   ·rw [if_pos hc]
    refine ⟨putI_ord h p, fun x => ?_⟩
    rw [putI_mem]
    simp only [hc, and_true]
    exact Or.comm
   ·rw [if_neg hc]
    exact ⟨h, fun x => ⟨Or.inl, fun g => g.elim id fun g => absurd g.2 hc⟩⟩
  obtain ⟨i1, i2⟩ := ahInFold L t3 p l _ hs.1
  rw [List.foldl_cons]
  refine ⟨i1, fun x => ?_⟩
  rw [i2, hs.2, List.any_cons, Bool.or_eq_true]
  constructor
  ·rintro ((g | g) | g)
   ·exact Or.inl g
   ·exact Or.inr ⟨g.1, Or.inl g.2⟩
   ·exact Or.inr ⟨g.1, Or.inr g.2⟩
  ·rintro (g | ⟨g1, g2 | g2⟩)
   ·exact Or.inl (Or.inl g)
   ·exact Or.inl (Or.inr ⟨g1, g2⟩)
   ·exact Or.inr ⟨g1, g2⟩
theorem ahFold (L : LM) (M : EM) (t3 : Int) : ∀ (l : List Int) (out : List Int), OrdC cmpI out → OrdC cmpI (l.foldl (ahStep L M t3) out) ∧ ∀ x, x ∈ l.foldl (ahStep L M t3) out ↔ x ∈ out ∨ (x ∈ l ∧ (txL L x).state = 1 ∧ (endR M x 1).any (condA L t3) = true)
 | [], out, h => ⟨h, fun x => by simp⟩
 | p :: l, out, h => by
  have hs : OrdC cmpI (ahStep L M t3 out p) ∧ ∀ x, x ∈ ahStep L M t3 out p ↔ x ∈ out ∨ (x = p ∧ (txL L x).state = 1 ∧ (endR M x 1).any (condA L t3) = true) := by
   unfold ahStep
   by_cases hc : (txL L p).state = 1
   ·rw [if_pos hc]
    obtain ⟨i1, i2⟩ := ahInFold L t3 p (endR M p 1) out h
    refine ⟨i1, fun x => ?_⟩
    rw [i2]
    constructor
    ·rintro (g | ⟨rfl, g⟩)
     ·exact Or.inl g
     ·exact Or.inr ⟨rfl, hc, g⟩
    ·rintro (g | ⟨rfl, _, g⟩)
     ·exact Or.inl g
     ·exact Or.inr ⟨rfl, g⟩
   ·rw [if_neg hc]
    refine ⟨h, fun x => ⟨Or.inl, fun g => g.elim id ?_⟩⟩
    rintro ⟨rfl, g, _⟩
    exact absurd g hc
  obtain ⟨i1, i2⟩ := ahFold L M t3 l _ hs.1
  rw [List.foldl_cons]
  refine ⟨i1, fun x => ?_⟩
  rw [i2, hs.2]
  constructor
  ·rintro ((g | ⟨g1, g2⟩) | ⟨g1, g2⟩)
   ·exact Or.inl g
   ·exact Or.inr ⟨by simp [g1], g2⟩
   ·exact Or.inr ⟨by simp [g1], g2⟩
  ·rintro (g | ⟨g1, g2⟩)
   ·exact Or.inl (Or.inl g)
   ·rcases List.mem_cons.1 g1 with e | g1
    ·exact Or.inl (Or.inr ⟨e, g2⟩)
    ·exact Or.inr ⟨g1, g2⟩
theorem ahead_eq (hr : Rel E M) (hn : E.m.Nodup) (t3 : Int) : aheadR L M t3 = aheadE L E t3 := by
 obtain ⟨hin, hio⟩ := end_in hr hn t3
 obtain ⟨f1, f2⟩ := ahFold L M t3 (endR M t3 1) [] (by simp [OrdC])
 unfold aheadR aheadE
 rw [← hin]
 refine ordC_ext cmp3I f1 (hio.sublist List.filter_sublist) fun x => ?_
 rw [f2, List.mem_filter]
 simp only [List.not_mem_nil, false_or, Bool.and_eq_true, decide_eq_true_eq]
 have hc : ∀ t, condA L t3 t = aheadB L t3 t := fun t => by unfold condA aheadB; rw [Bool.or_comm]
 have hcf : condA L t3 = aheadB L t3 := funext hc
 rw [(end_in hr hn x).1, hcf]
end
end Go.Lift.E14

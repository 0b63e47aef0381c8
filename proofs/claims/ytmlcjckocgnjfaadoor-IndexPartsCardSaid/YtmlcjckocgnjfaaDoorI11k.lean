/- IndexParts: true, whatever the input. -/
import Derived.Test.YtmlcjckocgnjfaaDoorI11h
set_option linter.unusedSimpArgs false
set_option linter.unusedVariables false
namespace Go.Lift
open Go Go.Proofs Go.RowKit
set_option maxRecDepth 100000
/-- A whole number, as a value. -/
abbrev vI (n : Int) : V4 := ⟨2, n, 0, sE⟩
theorem vI_ok {n : Int} (h : -9223372036854775808 ≤ n ∧ n < 9223372036854775808) : VOk (vI n) := ⟨(by decide : 0 < allD), h.1, h.2⟩
theorem vI_good (n : Int) : goodX (vI n) = true := by
  unfold goodX goodV
  simp [bareV]
theorem cmp_vI {a b : Int} (h : a ≤ b) : 0 ≤ cmpV (vI b) (vI a) := by
  rcases (by omega : a = b ∨ a < b) with rfl | g
  · rw [cmpV_self]
    omega
  · unfold cmpV
    rw [if_neg (by simp), if_neg (by simp), if_neg (by simp only; omega), if_pos (by simp only; omega)]
    decide
theorem key_le {a b : Int} (ha : -9223372036854775808 ≤ a ∧ a < 9223372036854775808) (hb : -9223372036854775808 ≤ b ∧ b < 9223372036854775808) (h : a ≤ b) : sLt (entryP (vI b) 0).1 (entryP (vI a) 0).1 = false := by
  have := lt_from (s := ⟨0, 0, vI b, vI b⟩) ⟨vI_ok hb, vI_good b, by simp, by simp⟩ (vI_ok ha) (vI_good a)
  have e : keyI (⟨0, 0, vI b, vI b⟩ : StepI) = (entryP (vI b) 0).1 := rfl
  rw [e] at this
  rw [this]
  have := cmp_vI h
  exact decide_eq_false (by simp only; omega)
/-- What is ahead of a key, and what is from it on. -/
theorem flt_parts {k0 k1 k2 : ByteArray} (h01 : sLt k1 k0 = false) (h12 : sLt k2 k1 = false) (n1 : (k1.toList == []) = false) (n2 : (k2.toList == []) = false) : ∀ {xs : List ByteArray}, InOrder xs → xs.filter (inR k0 k2) = xs.filter (inR k0 k1) ++ xs.filter (inR k1 k2)
  | [], _ => rfl
  | x :: xs, ho => by
    have ih := flt_parts h01 h12 n1 n2 (List.pairwise_cons.1 ho).2
    have h0 := (List.pairwise_cons.1 ho).1
    rw [List.filter_cons, List.filter_cons, List.filter_cons]
    have e02 : inR k0 k2 x = (!sLt x k0 && sLt x k2) := by unfold inR; rw [n2, Bool.false_or]
    have e01 : inR k0 k1 x = (!sLt x k0 && sLt x k1) := by unfold inR; rw [n1, Bool.false_or]
    have e12 : inR k1 k2 x = (!sLt x k1 && sLt x k2) := by unfold inR; rw [n2, Bool.false_or]
    cases g1 : sLt x k1 with
    | true =>
      have g2 : sLt x k2 = true := sLt_le g1 h12
      rw [e02, e01, e12, g1, g2]
      cases g0 : sLt x k0 with
      | true => simpa using ih
      | false => simpa using ih
    | false =>
      have g0 : sLt x k0 = false := sLe_trans h01 g1
      have hnil : xs.filter (inR k0 k1) = [] := List.filter_eq_nil_iff.2 fun y hy => by
        have hxy := h0 y hy
        have : sLt y k1 = false := by
          cases g : sLt y k1 with
          | false => rfl
          | true => rw [sLt_trans hxy g] at g1; cases g1
        unfold inR
        rw [this, n1]
        simp
      rw [hnil, List.nil_append] at ih
      rw [e02, e01, e12, g1, g0, hnil]
      cases g2 : sLt x k2 with
      | true => simpa using ih
      | false => simpa using ih
theorem parts_in {M : LeafM} {n : Nat} (ok : OkM M n) {a b c : Int} (ha : -9223372036854775808 ≤ a ∧ a < 9223372036854775808) (hb : -9223372036854775808 ≤ b ∧ b < 9223372036854775808) (hc : -9223372036854775808 ≤ c ∧ c < 9223372036854775808) (hab : a ≤ b) (hbc : b ≤ c) :
    (rangeP M (vI a) (vI c)).1 = (rangeP M (vI a) (vI b)).1 ++ (rangeP M (vI b) (vI c)).1 := by
  unfold rangeP
  rw [if_pos ⟨vI_good a, vI_good c⟩, if_pos ⟨vI_good a, vI_good b⟩, if_pos ⟨vI_good b, vI_good c⟩]
  simp only
  rw [rng_all ok, rng_all ok, rng_all ok, flt_parts (key_le ha hb hab) (key_le hb hc hbc) (from_ne (vI_good b)) (from_ne (vI_good c)) (flat_ord ok.wf)]
  unfold tidsL
  rw [List.filterMap_append]
theorem same_in {M : LeafM} {L : List StepI} {n : Nat} (hi : InI M L) (ok : OkM M n) {a : Int} (ha : -9223372036854775808 ≤ a ∧ a + 1 < 9223372036854775808) : (findP M (vI a)).1 = (rangeP M (vI a) (vI (a + 1))).1 := by
  unfold findP rangeP
  rw [if_pos (vI_good a), if_pos ⟨vI_good a, vI_good (a + 1)⟩]
  simp only
  rw [rng_all ok, rng_all ok]
  congr 1
  refine List.filter_congr fun k hk => ?_
  obtain ⟨s, hs, rfl⟩ := List.mem_map.1 (hi.perm.subset hk)
  have g := hi.good s hs
  rw [inR_find g (vI_ok (by omega)) (vI_good a), inR_range g (vI_ok (by omega)) (vI_good a) (vI_ok (by omega)) (vI_good (a + 1))]
  have bo := bare_of g.good
  obtain ⟨kd, td, ⟨k, m, f, t⟩, w⟩ := s
  simp only at bo ⊢
  by_cases k1 : k < 2
  · have c1 : cmpV ⟨k, m, f, t⟩ (vI a) = -1 := by unfold cmpV; rw [if_pos k1]
    rw [c1]
    rfl
  by_cases k2 : k > 2
  · have c1 : cmpV ⟨k, m, f, t⟩ (vI a) = 1 := by unfold cmpV; rw [if_neg k1, if_pos k2]
    have c2 : cmpV ⟨k, m, f, t⟩ (vI (a + 1)) = 1 := by unfold cmpV; rw [if_neg k1, if_pos k2]
    rw [c1, c2]
    rfl
  have hk : k = 2 := by omega
  subst hk
  have hf := bo.2.1 (by decide)
  have ht := bo.2.2.1 (by decide)
  subst hf ht
  by_cases m1 : m < a
  · have c1 : cmpV ⟨2, m, 0, sE⟩ (vI a) = -1 := by unfold cmpV; rw [if_neg k1, if_neg k2, if_pos m1]
    rw [c1]
    rfl
  by_cases m2 : m > a
  · have c1 : cmpV ⟨2, m, 0, sE⟩ (vI a) = 1 := by unfold cmpV; rw [if_neg k1, if_neg k2, if_neg m1, if_pos m2]
    have c2 : 0 ≤ cmpV ⟨2, m, 0, sE⟩ (vI (a + 1)) := cmp_vI (a := a + 1) (b := m) (by omega)
    rw [c1, decide_eq_false (p := cmpV ⟨2, m, 0, sE⟩ (vI (a + 1)) < 0) (by omega)]
    rfl
  have hm : m = a := by omega
  subst hm
  have c1 : cmpV ⟨2, m, 0, sE⟩ (vI m) = 0 := cmpV_self _
  have c2 : cmpV ⟨2, m, 0, sE⟩ (vI (m + 1)) = -1 := by unfold cmpV; rw [if_neg (by simp), if_neg (by simp), if_pos (by simp only; omega)]
  rw [c1, c2]
  rfl
def cells3 (a b c : V4) : Array Value := #[.int .i64 a.k, .int .i64 a.n, .float .f64 a.f, .string a.s, .int .i64 b.k, .int .i64 b.n, .float .f64 b.f, .string b.s, .int .i64 c.k, .int .i64 c.n, .float .f64 c.f, .string c.s]
def sel3 (a b c : V4) (i : Nat) : V4 := if i = 0 then a else if i = 1 then b else c
section
variable {h : Hp} {Q : List Value → Hp → Prop}
theorem rdA3 {p : Nat} {a b c : V4} {T : TypeId} {K : Int → Int → Nat → ByteArray → Prop} (i : Nat) (hb : Blk h p (cells3 a b c) T) (hi : i < 3) (H : K (sel3 a b c i).k (sel3 a b c i).n (sel3 a b c i).f (sel3 a b c i).s) :
    ixOk (i : Int) 3 (∃ n3 : Int, rd h (Addr.add (Addr.add (Addr.mk p 0 none) (Int.toNat (i : Int) * 4)) 0) = some (.int .i64 n3) ∧ ∃ n4 : Int, rd h (Addr.add (Addr.add (Addr.mk p 0 none) (Int.toNat (i : Int) * 4)) 1) = some (.int .i64 n4) ∧ ∃ x5 : Nat, rd h (Addr.add (Addr.add (Addr.mk p 0 none) (Int.toNat (i : Int) * 4)) 2) = some (.float .f64 x5) ∧ ∃ s6 : ByteArray, rd h (Addr.add (Addr.add (Addr.mk p 0 none) (Int.toNat (i : Int) * 4)) 3) = some (.string s6) ∧ K n3 n4 x5 s6) := by
  have r : ∀ j, rd h (Addr.add (Addr.add (Addr.mk p 0 none) (Int.toNat (i : Int) * 4)) j) = (cells3 a b c)[i * 4 + j]? := fun j => by rw [Int.toNat_natCast, addr_mk, addr_mk, rd_blk hb, Nat.zero_add]
  refine ⟨by omega, by omega, ?_⟩
  rcases (by omega : i = 0 ∨ i = 1 ∨ i = 2) with rfl | rfl | rfl
  · exact ⟨_, r 0, _, r 1, _, r 2, _, r 3, H⟩
  · exact ⟨_, r 0, _, r 1, _, r 2, _, r 3, H⟩
  · exact ⟨_, r 0, _, r 1, _, r 2, _, r 3, H⟩
theorem rd8 {p : Nat} {n0 n1 n2 n : Int} {T : TypeId} {K : Int → Prop} (i : Nat) (hb : Blk h p #[.int .i8 n0, .int .i8 n1, .int .i8 n2] T) (hi : i < 3) (hn : (#[.int .i8 n0, .int .i8 n1, .int .i8 n2] : Array Value)[i]? = some (.int .i8 n)) (H : K n) :
    ixOk (i : Int) 3 (∃ n : Int, rd h (Addr.add (Addr.mk p 0 none) (Int.toNat (i : Int) * 1)) = some (.int .i8 n) ∧ K n) := by
  have r : rd h (Addr.add (Addr.mk p 0 none) (Int.toNat (i : Int) * 1)) = (#[.int .i8 n0, .int .i8 n1, .int .i8 n2] : Array Value)[i]? := by rw [Int.toNat_natCast, addr_mk, rd_blk hb, Nat.zero_add, Nat.mul_one]
  exact ⟨by omega, by omega, _, r.trans hn, H⟩
/-- The law's step: 1 drops, any other one adds. -/
def flipS (s : StepI) : StepI := { s with kind := if s.kind = 1 then 1 else 0 }
theorem IndexParts_s {a : Sl} {xs : List StepI} {n0 n1 n2 : Int} (ha : Reads 10 encS h a xs) (hlen : xs.length ≤ 9223372036854775807) (hok : ∀ s ∈ xs, VOk s.v ∧ VOk s.w) (hn0 : -128 ≤ n0 ∧ n0 < 128) (hn1 : -128 ≤ n1 ∧ n1 < 128) (hn2 : -128 ≤ n2 ∧ n2 < 128) (hg : GM h) (hQ : ∀ h', Ext [] h h' → Q [.bool true] h') :
    F_liverylaw11_IndexParts a n0 n1 n2 h Q := by
  unfold F_liverylaw11_IndexParts
  refine newI fun h1 s1 b1' e1 => ?_
  have bn : Blk h1 h.size #[.int .i8 n0, .int .i8 n1, .int .i8 n2] T_3_int8 := b1'
  refine New_i (by decide) fun h4 x hx4 e4 => ⟨_, _, rfl, ?_⟩
  have e04 := e1.trans0 e4
  have g2 := hg.two
  have han := ha.1
  intro J7 hJ7
  rw [if_neg (by decide)]
  refine fair_i (ha.ext0 e04) hlen fun h5 e5 => ⟨_, rfl, ?_⟩
  have e15 := e4.trans0 e5
  cases hf : fairI xs with
  | false =>
    refine hJ7 _ _ ?_
    rw [if_pos (by rfl)]
    intro J hJ
    rw [if_pos (by decide)]
    exact wakes_i (hg.ext (e1.trans0 e15)) fun g' e' => ⟨_, rfl, hJ _ _ (hQ g' ((e1.trans0 e15).trans0 e'))⟩
  | true =>
  refine hJ7 _ _ ?_
  rw [if_neg (by decide)]
  intro X hX
  have hl150 := fairI_len hf
  have key : ∀ d i g M L, d + i = xs.length → Ext [] h1 g → Ix h1.size (fun _ => False) g x M → OkM M i → InI M L → L.length ≤ i → X [.int .i64 (i : Int)] g := by
    intro d
    induction d with
    | zero =>
      intro i g M L hi eg hxg ok hin hLi
      refine hX (i : Int) g ?_
      rw [if_neg (by simp; omega)]
      have km := hin.km (by omega)
      have gg := (hg.ext e1).ext eg
      have i15 : i < 2 ^ 15 := by omega
      have bng := eg.get bn (by simp)
      refine rd8 0 bng (by decide) rfl ?_
      refine rd8 1 bng (by decide) rfl ?_
      refine rd8 2 bng (by decide) rfl ?_
      refine rd8 0 bng (by decide) rfl ?_
      refine rd8 1 bng (by decide) rfl ?_
      refine rd8 2 bng (by decide) rfl ?_
      refine rd8 0 bng (by decide) rfl ?_
      refine rd8 1 bng (by decide) rfl ?_
      refine rd8 2 bng (by decide) rfl ?_
      obtain ⟨mn, hmn⟩ : ∃ mn, mnI (mnI n0 n1) n2 = mn := ⟨_, rfl⟩
      obtain ⟨mx, hmx⟩ : ∃ mx, mxI (mxI n0 n1) n2 = mx := ⟨_, rfl⟩
      have hm : (mn = n0 ∨ mn = n1 ∨ mn = n2) ∧ (mx = n0 ∨ mx = n1 ∨ mx = n2) ∧ mn ≤ n0 ∧ mn ≤ n1 ∧ mn ≤ n2 ∧ n0 ≤ mx ∧ n1 ≤ mx ∧ n2 ≤ mx ∧ mn ≤ n0 + n1 + n2 - mn - mx ∧ n0 + n1 + n2 - mn - mx ≤ mx := by
        unfold mnI at hmn
        unfold mxI at hmx
        split at hmn <;> split at hmn <;> split at hmx <;> split at hmx <;> omega
      rw [hmn, hmx]
      have w1 : IntKind.wrap .i64 mn = mn := wrap64 (by omega) (by omega)
      have w2 : IntKind.wrap .i64 mx = mx := wrap64 (by omega) (by omega)
      have w3 : IntKind.wrap .i64 ((IntKind.wrap .i64 ((IntKind.wrap .i64 ((IntKind.wrap .i64 ((IntKind.wrap .i64 n0) + (IntKind.wrap .i64 n1))) + (IntKind.wrap .i64 n2))) - (IntKind.wrap .i64 mn))) - (IntKind.wrap .i64 mx)) = n0 + n1 + n2 - mn - mx := by
        rw [w1, w2, wrap64 (x := n0) (by omega) (by omega), wrap64 (x := n1) (by omega) (by omega), wrap64 (x := n2) (by omega) (by omega), wrap64 (x := n0 + n1) (by omega) (by omega), wrap64 (x := n0 + n1 + n2) (by omega) (by omega), wrap64 (x := n0 + n1 + n2 - mn) (by omega) (by omega), wrap64 (by omega) (by omega)]
      have w4 : IntKind.wrap .i64 (mn + 1) = mn + 1 := wrap64 (by omega) (by omega)
      rw [w3, w1, w2, w4]
      obtain ⟨md, hmd⟩ : ∃ md, n0 + n1 + n2 - mn - mx = md := ⟨_, rfl⟩
      rw [hmd] at hm ⊢
      have oa := vI_ok (n := mn) (by omega)
      have ob := vI_ok (n := md) (by omega)
      have oc := vI_ok (n := mx) (by omega)
      refine newI fun g1 z1 b1 d1 => st_blk b1 (by simp) fun g3 z3 b3 d3 => ?_
      have bv : Blk g3 g.size (cells3 (vI mn) (vI md) (vI mx)) T_3_api_Value := by
        have : putAt #[(Value.int .i64 (0 : Int)), (Value.int .i64 (0 : Int)), (Value.float .f64 0), (Value.string (ByteArray.mk #[])), (Value.int .i64 (0 : Int)), (Value.int .i64 (0 : Int)), (Value.float .f64 0), (Value.string (ByteArray.mk #[])), (Value.int .i64 (0 : Int)), (Value.int .i64 (0 : Int)), (Value.float .f64 0), (Value.string (ByteArray.mk #[]))] 0 (cells3 (vI mn) (vI md) (vI mx)).toList = cells3 (vI mn) (vI md) (vI mx) := by
          simp [putAt, cells3]
        rw [← this]
        exact b3
      have d03 : Ext [] g g3 := d1.trans d3 fun b hb hlt => by simp at hb; omega
      have eg3 := eg.trans0 d03
      have hx3 := hxg.e0 d03
      have gg3 := gg.ext d03
      refine rdA3 0 bv (by decide) ?_
      refine rdA3 2 bv (by decide) ?_
      refine Range_i hx3 ok i15 km (vI mn) (vI mx) oa oc gg3 fun g5 sa sa2 hx5 d5 oA _ => ⟨sa, sa2, rfl, ?_⟩
      have bv5 := d5.get bv (by simp)
      refine rdA3 0 bv5 (by decide) ?_
      refine rdA3 1 bv5 (by decide) ?_
      refine Range_i hx5 ok i15 km (vI mn) (vI md) oa ob (gg3.ext d5) fun g6 so so2 hx6 d6 oO _ => ⟨so, so2, rfl, ?_⟩
      have bv6 := d6.get bv5 (by simp)
      refine rdA3 1 bv6 (by decide) ?_
      refine rdA3 2 bv6 (by decide) ?_
      refine Range_i hx6 ok i15 km (vI md) (vI mx) ob oc ((gg3.ext d5).ext d6) fun g7 sw sw2 hx7 d7 oW _ => ⟨sw, sw2, rfl, ?_⟩
      have bv7 := d7.get bv6 (by simp)
      have gg7 := ((gg3.ext d5).ext d6).ext d7
      have hlr : ∀ v w, (rangeP M v w).1.length ≤ 2 ^ 20 := by
        intro v w
        unfold rangeP
        split
        · simp only
          have h1 := List.length_filterMap_le entP (M.rng (entryP v 0).1 (entryP w 0).1).1
          have h2 := (rng_sub M (entryP v 0).1 (entryP w 0).1).length_le
          have h3 := hin.perm.length_eq
          rw [List.length_map] at h3
          have h4 : (tidsL (M.rng (entryP v 0).1 (entryP w 0).1).1).length ≤ (M.rng (entryP v 0).1 (entryP w 0).1).1.length := h1
          have h5 : (ksM M).length = (M.l.flatMap OneM.keys).length := rfl
          omega
        · simp
      have l1 := hlr (vI mn) (vI md)
      have l2 := hlr (vI md) (vI mx)
      have l3 := hlr (vI mn) (vI mx)
      refine newI fun g8 z8 b8 d8 => ?_
      have oA8 := ((oA.ext0 d6).ext0 d7).ext0 d8
      have oO8 := (oO.ext0 d7).ext0 d8
      have oW8 := oW.ext0 d8
      have nO := oO8.1
      have nW := oW8.1
      have subA := own_ltG ((oA.ext0 d6).ext0 d7)
      have subW := own_ltG oW
      refine clG (lo' := g7.size) encIL_len encIL_one zcInt (by decide) oO8.sl.reads.2.2 nO (by omega) b8 (by omega) fun s9 g9 o9 d9 hb9 => ?_
      have oW9 := oW8.ext d9 fun ad ha hm => by
        have := (subW _ (mem_sBlk.2 ⟨ad, ha, rfl⟩)).2
        simp at hm
        omega
      have oA9 := oA8.ext d9 fun ad ha hm => by
        have := (subA _ (mem_sBlk.2 ⟨ad, ha, rfl⟩)).2
        simp at hm
        omega
      have sub9 := own_ltG o9
      have n9 := o9.1
      refine ⟨_, oW9.sl.reads.2.2, ?_⟩
      refine app_own o9 zcInt encIL_len (fun y _ => encIL_one y) rfl nW (by simp only; omega) (by simp only; omega) (by have := d9.sz; omega) fun s10 g10 o10 d10 n10 hb10 => ?_
      have oA10 := oA9.ext d10 fun ad ha hm => by
        have h1 := (subA _ (mem_sBlk.2 ⟨ad, ha, rfl⟩)).2
        have h2 := (sub9 _ hm).1
        omega
      have d710 : Ext [] g7 g10 := (d8.trans d9 fun b hb hlt => by simp at hb; omega).trans d10 fun b hb hlt => by have := (sub9 b hb).1; omega
      refine Ints_s oA10.sl.reads o10.sl.reads (by omega) ⟨_, rfl, ?_⟩
      rw [parts_in ok (a := mn) (b := md) (c := mx) (by omega) (by omega) (by omega) (by omega) (by omega)]
      rw [if_neg (by simp)]
      have bv10 := d710.get bv7 (by simp)
      have hx10 := hx7.e0 d710
      refine rdA3 0 bv10 (by decide) ?_
      refine Find_i hx10 ok i15 km (vI mn) oa (gg7.ext d710) fun g11 sf sf2 hx11 d11 oF _ => ⟨sf, sf2, rfl, ?_⟩
      refine rdA3 0 (d11.get bv10 (by simp)) (by decide) ?_
      refine Range_i hx11 ok i15 km (vI mn) (vI (mn + 1)) oa (vI_ok (by omega)) ((gg7.ext d710).ext d11) fun g12 sg sg2 hx12 d12 oG _ => ⟨sg, sg2, rfl, ?_⟩
      have lF : (findP M (vI mn)).1.length < 2 ^ 60 := by
        rw [same_in hin ok (by omega)]
        have := hlr (vI mn) (vI (mn + 1))
        omega
      refine Ints_s (oF.ext0 d12).sl.reads oG.sl.reads lF ⟨_, rfl, ?_⟩
      rw [same_in hin ok (by omega), if_pos (by simp)]
      have e012 := ((((((e1.trans0 eg3).trans0 d5).trans0 d6).trans0 d7).trans0 d710).trans0 d11).trans0 d12
      exact wakes_i (hg.ext e012) fun g' e' => ⟨_, rfl, hQ g' (e012.trans0 e')⟩
    | succ d ih =>
      intro i g M L hi eg hxg ok hin hLi
      refine hX (i : Int) g ?_
      rw [if_pos (by simp; omega)]
      have hil : i < xs.length := by omega
      have i15 : i < 2 ^ 15 := by omega
      have hxi := hok _ (List.getElem_mem hil)
      have hag := ha.ext0 (e1.trans0 eg)
      have gg := (hg.ext e1).ext eg
      have nx := next_ok ok hin (s := flipS xs[i]) hxi.1
      intro J hJ
      refine atKind hag hil ?_
      by_cases hk : xs[i].kind = 1
      · rw [if_pos (by simp [hk])]
        have nn : nextI M L (flipS xs[i]) = ((dropM M xs[i].v xs[i].tid).1, L.filter (stayB (flipS xs[i]))) := by
          unfold nextI flipS
          rw [if_neg (by simp [hk])]
        rw [nn] at nx
        refine atV hag hil ?_
        refine atTid hag hil ?_
        refine Drop_i hxg ok i15 (by have := e1.sz; omega) xs[i].v hxi.1 xs[i].tid gg fun g3 S hx3 d3 hS => ⟨_, _, _, _, rfl, ?_⟩
        refine hJ _ ?_
        rw [wrap64 (by omega) (by omega)]
        have := List.length_filter_le (stayB (flipS xs[i])) L
        exact ih (i + 1) g3 _ _ (by omega) (eg.trans d3 fun b hb hlt => by have := (hS b hb).1; omega) hx3 nx.1 nx.2 (by simp only; omega)
      · rw [if_neg (by simpa using hk)]
        have nn : nextI M L (flipS xs[i]) = ((addM M xs[i].v xs[i].tid).1, if (addM M xs[i].v xs[i].tid).2.err = 0 then L ++ [flipS xs[i]] else L) := by
          unfold nextI flipS
          rw [if_pos (by simp [hk])]
        rw [nn] at nx
        refine atV hag hil ?_
        refine atTid hag hil ?_
        refine Add_i hxg ok i15 (by have := e1.sz; omega) xs[i].v hxi.1 xs[i].tid gg fun g3 S hx3 d3 hS => ⟨_, _, _, _, rfl, ?_⟩
        refine hJ _ ?_
        rw [wrap64 (by omega) (by omega)]
        refine ih (i + 1) g3 _ _ (by omega) (eg.trans d3 fun b hb hlt => by have := (hS b hb).1; omega) hx3 nx.1 nx.2 ?_
        simp only
        split
        · simp; omega
        · omega
  have := key xs.length 0 h5 ⟨3, 2, [⟨1, ByteArray.mk #[], []⟩]⟩ [] (by omega) e15 (hx4.e0 e5) (new_ok (by decide)) (InI.new 3) (by simp)
  simpa using this
end
end Go.Lift

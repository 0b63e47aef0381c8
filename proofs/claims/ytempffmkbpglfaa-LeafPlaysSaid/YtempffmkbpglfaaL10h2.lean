/- Leaves in order: Insert. -/
import Derived.Test.YtempffmkbpglfaaL10i
set_option linter.unusedSimpArgs false
set_option linter.unusedVariables false
namespace Go.Lift
open Go Go.Proofs
set_option maxRecDepth 100000
section
variable {lo : Nat} {h : Hp} {x : Nat} {M : LeafM} {ls : Sl} {C : List OneC} {Q : List Value → Hp → Prop}
theorem LeafAt.extO {S : List Nat} {h h' : Hp} (hl : LeafAt lo h x M ls C) (he : Ext S h h') (o1 : Other T_leaf_Leaves h S) (o2 : Other T_pleaf_one h S) (o3 : Other T_leaf_one h S) (o4 : Other T_string h S) : LeafAt lo h' x M ls C :=
  ⟨he.get hl.blk (fun hm => o1 _ hm _ _ hl.blk), hl.le, hl.ptrs.extT he o2, hl.nd, fun c hc => ⟨he.get (hl.ones c hc).blk (fun hm => o3 _ hm _ _ (hl.ones c hc).blk), (hl.ones c hc).le, (hl.ones c hc).keys.extT he o4⟩, hl.sep, hl.mods⟩
theorem own_lt {T : TypeId} {α : Type} {sz : Nat} {enc : α → List Value} {s : Sl} {xs : List α} (ho : Own T sz enc lo h s xs) : ∀ b ∈ sBlk s, b < h.size := by
  intro b hb
  obtain ⟨a, ha, hab⟩ := mem_sBlk.1 hb
  obtain ⟨b', c', q1, _, q3, _⟩ := ho.2.2 a ha
  have := blk_lt q3
  rw [q1] at hab
  simp at hab
  omega
/-- The blocks of leaves. -/
def Fp (x : Nat) (ls : Sl) (C : List OneC) (b : Nat) : Prop := b = x ∨ b ∈ sBlk ls ∨ ∃ c ∈ C, b = c.b ∨ b ∈ sBlk c.ks
theorem fp_set {x : Nat} {ls : Sl} {C : List OneC} {i : Nat} (hi : i < C.length) {s' : Sl} {m : OneM} {N : Nat} (hs : ∀ b ∈ sBlk s', b ∈ sBlk (C[i]).ks ∨ N ≤ b) {b : Nat} (hb : Fp x ls (C.set i ⟨(C[i]).b, s', m⟩) b) : Fp x ls C b ∨ N ≤ b := by
  rcases hb with g | g | ⟨c, hc, g⟩
  · exact Or.inl (Or.inl g)
  · exact Or.inl (Or.inr (Or.inl g))
  · rcases List.mem_or_eq_of_mem_set hc with h1 | h1
    · exact Or.inl (Or.inr (Or.inr ⟨c, h1, g⟩))
    · subst h1
      rcases g with g | g
      · exact Or.inl (Or.inr (Or.inr ⟨_, List.getElem_mem hi, Or.inl g⟩))
      · rcases hs b g with g2 | g2
        · exact Or.inl (Or.inr (Or.inr ⟨_, List.getElem_mem hi, Or.inr g2⟩))
        · exact Or.inr g2
theorem Insert10_s (hl : LeafAt lo h x M ls C) (k : ByteArray) (hlo : lo ≤ h.size) (hne : M.l ≠ []) (hlen : M.l.length < 2 ^ 30) (hord : ∀ o ∈ M.l, InOrder o.keys ∧ o.keys.length ≤ 2 ^ 10) (hf : 2 ≤ M.fan ∧ M.fan ≤ 64) (hnx : 0 ≤ M.next ∧ M.next < 2 ^ 40)
    (hQ : ∀ h' ls' C' S, LeafAt lo h' x (M.ins k).1 ls' C' → Ext S h h' → (∀ b ∈ S, lo ≤ b) → (∀ b ∈ S, Fp x ls C b ∨ h.size ≤ b) → (∀ b, Fp x ls' C' b → Fp x ls C b ∨ h.size ≤ b) → Q [.int .i64 (M.ins k).2.leaf, .agg #[.int .i64 (M.ins k).2.mf, .int .i64 (M.ins k).2.mt], .int .i64 (M.ins k).2.err] h') : S_leaf_Leaves_Insert (some ⟨x, 0, none⟩) k h Q := by
  refine O_leaf_Leaves_Insert _ _ ?_
  unfold F_leaf_Leaves_Insert
  refine newI fun h1 s1 b1 e1 => ?_
  rw [if_neg (by simp)]
  have hl1 := hl.ext0 e1
  by_cases hk : k.size > 1024
  · rw [if_pos (by simp; omega)]
    refine st_blk b1 (by simp) fun h2 s2 b2 e2 => ?_
    have e12 : Ext [] h h2 := e1.trans e2 (by intro b hb hlt; simp at hb; omega)
    refine ⟨_, by simp [rd_blk b2]; rfl, _, by simp [rd_blk b2]; rfl, ?_⟩
    have := hQ h2 ls C [] (by unfold LeafM.ins; rw [if_pos hk]; exact hl.ext0 e12) e12 (by simp) (by simp) (fun b hb => Or.inl hb)
    unfold LeafM.ins at this
    rw [if_pos hk] at this
    exact this
  rw [if_neg (by simp; omega)]
  have hlt := atL_lt hne k
  obtain ⟨n1, n2⟩ := lens hl
  have hins := ins_eq hk hlt
  unfold LeafM.insAt at hins
  refine at_s hl1 k (by omega) ⟨_, rfl, ?_⟩
  simp only [nilW_some, addr_mk, rd_blk hl1.blk]
  refine ⟨ls, rfl, ?_⟩
  have hiC : atL M.l k < C.length := by omega
  obtain ⟨a, g1, g2⟩ := rdP hl1 (i := atL M.l k) hiC
  have hc := hl1.ones (C[atL M.l k]) (List.getElem_mem _)
  obtain ⟨_, hm⟩ := mod_at hl (i := atL M.l k) hiC
  rw [g1]
  simp only [nilW_some, Int.toNat_natCast]
  refine ⟨by omega, by omega, _, g2, ?_⟩
  simp only [nilW_some, addr_mk, rd_blk hc.blk]
  refine ⟨(C[atL M.l k]).ks, rfl, ?_⟩
  have hor := hord _ (List.getElem_mem hlt)
  have hkr := hc.keys.sl.reads
  rw [hm] at hkr
  refine BinarySearch_s hkr (by have := hor.2; omega) (hor.1.mono k) fun i b hi q1 q2 hb => ⟨_, _, rfl, ?_⟩
  have hbk := found_iff hor.1 q1 q2 hb
  have hpos := posK_eq hi q1 q2
  cases hh : hasK (M.l[atL M.l k]).keys k with
  | true =>
    rw [hbk, hh, if_pos rfl]
    rw [hh, if_pos rfl] at hins
    refine st_blk b1 (by simp) fun h2 s2 b2 e2 => ?_
    have e12 : Ext [] h h2 := e1.trans e2 (by intro b hb hlt; simp at hb; omega)
    refine ⟨_, by simp [rd_blk b2]; rfl, _, by simp [rd_blk b2]; rfl, ?_⟩
    have := hQ h2 ls C [] (by rw [hins]; exact hl.ext0 e12) e12 (by simp) (by simp) (fun b hb => Or.inl hb)
    rw [hins] at this
    exact this
  | false =>
    rw [hbk, hh, if_neg (by decide)]
    rw [hh, if_neg (by decide)] at hins
    simp only [nilW_some, addr_mk, rd_blk hc.blk]
    refine ⟨(C[atL M.l k]).ks, rfl, ?_⟩
    refine newI fun h2 s2 b2 e2 => ?_
    have hown := (hc.keys.ext0 e2).toV encB_len
    rw [hm] at hown
    have hfl : ((M.l[atL M.l k]).keys.flatMap encB).length = (M.l[atL M.l k]).keys.length := by rw [flatB]; simp
    refine Insert1_str_s hown rfl rfl b2 rfl (fun hbm => by have := own_lt hc.keys _ hbm; omega) (by rw [flatB]; intro u hu; obtain ⟨y, _, rfl⟩ := List.mem_map.1 hu; rfl) (by rw [hfl]; exact hi) (by rw [hfl]; have := hor.2; omega) (by omega) fun h3 s' ho3 he3 hb3 => ⟨s', rfl, ?_⟩
    have ho3' : Own T_string 1 encB lo h3 s' (putK (M.l[atL M.l k]).keys k) := by
      refine Own.ofV encB_len ?_
      rw [putK_flat, hpos]
      exact ho3
    have cb2 := e2.get hc.blk (by simp)
    have cb3 := he3.get cb2 (fun hm' => (hc.keys.ext0 e2).other (T' := T_leaf_one) (by decide) _ hm' _ _ cb2)
    refine st_blk cb3 (by simp) fun h4 s4 b4 e4 => ?_
    have e14 : Ext ((C[atL M.l k]).b :: sBlk (C[atL M.l k]).ks) h1 h4 := ((e2.mono (by simp)).trans he3 (fun b hb _ => List.mem_cons_of_mem _ hb)).trans e4 (fun b hb _ => by simp at hb; simp [hb])
    have hk4 := ho3'.extT e4 (fun b hb c fz => by simp at hb; subst hb; exact other_blk cb3 (by decide) c fz)
    have hl4 := hl1.setOne hiC e14 (by simpa using b4) hk4 (fun b hb => (hb3 b hb).imp id fun g => by have := e2.sz; omega)
    rw [hm] at hl4
    simp only [addr_mk, rd_blk b4]
    refine ⟨s', by simp, ?_⟩
    simp only [addr_mk, rd_blk hl4.blk]
    refine ⟨M.fan, by simp, ?_⟩
    have hsn := hk4.1
    by_cases hfan : ((putK (M.l[atL M.l k]).keys k).length : Int) ≤ M.fan
    · rw [if_pos (by simp; omega)]
      rw [if_pos hfan] at hins
      refine ⟨(C[atL M.l k]).m.n, by simp, ?_⟩
      have bm : Blk h4 h.size #[.int .i64 0, .int .i64 0] T_leaf_Move := e14.get b1 (fun hm' => one_apart (T := T_leaf_Move) hl1.ones hiC (by decide) (by decide) _ hm' _ _ b1)
      refine st_blk bm (by simp) fun h5 s5 b5 e5 => ?_
      refine ⟨_, by simp [rd_blk b5]; rfl, _, by simp [rd_blk b5]; rfl, ?_⟩
      have oth : ∀ T, T_leaf_Move ≠ T → Other T h4 [h.size] := fun T hT b hb c fz => by simp at hb; subst hb; exact other_blk bm hT c fz
      have hl5 := hl4.extO e5 (oth _ (by decide)) (oth _ (by decide)) (oth _ (by decide)) (oth _ (by decide))
      have hq := hQ h5 ls _ ((C[atL M.l k]).b :: sBlk (C[atL M.l k]).ks) (by rw [hins]; exact hl5) (((e1.mono (by simp)).trans e14 (fun b hb _ => hb)).trans e5 (by intro b hb hlt; simp at hb; omega)) (by
        intro b hb
        rw [List.mem_cons] at hb
        rcases hb with g | g
        · rw [g]; exact hc.le
        · exact hc.keys.blk b g) (by
        intro b hb
        rw [List.mem_cons] at hb
        exact Or.inl (Or.inr (Or.inr ⟨_, List.getElem_mem hiC, hb⟩))) (fun b hb => fp_set hiC (fun b hb => (hb3 b hb).imp id fun g => by have := e2.sz; omega) hb)
      rw [hins] at hq
      rw [hm]
      exact hq
    · rw [if_neg (by simp; omega)]
      rw [if_neg hfan] at hins
      refine ⟨s', by simp, ?_⟩
      refine ⟨by decide, ?_⟩
      refine ⟨M.next, by simp, ?_⟩
      have hKl : (putK (M.l[atL M.l k]).keys k).length ≤ 1025 := by
        have := hor.2
        simp only [putK, List.length_append, List.length_take, List.length_drop, List.length_cons, List.length_nil]
        omega
      have hcut : IntKind.wrap .i64 (Int.tdiv (IntKind.wrap .i64 ((s'.n : Int) + 1)) 2) = ((((putK (M.l[atL M.l k]).keys k).length + 1) / 2 : Nat) : Int) := by
        rw [wrap64 (x := (s'.n : Int) + 1) (by omega) (by omega), Int.tdiv_eq_ediv_of_nonneg (by omega), wrap64 (by omega) (by omega)]
        omega
      rw [hcut]
      refine ⟨s', by simp, ?_⟩
      have hcl : ((putK (M.l[atL M.l k]).keys k).length + 1) / 2 < (putK (M.l[atL M.l k]).keys k).length := by
        have h3 := hf.1
        omega
      generalize hcd : ((putK (M.l[atL M.l k]).keys k).length + 1) / 2 = cut at *
      obtain ⟨ak, w1, w2⟩ := rdB hk4.sl.reads (i := cut) hcl
      rw [w1]
      simp only [nilW_some, Int.toNat_natCast]
      refine ⟨by omega, by omega, _, w2, ?_⟩
      rw [← w1]
      refine ⟨s', by simp, by omega, ?_⟩
      refine Clone10_s (hk4.dropR hcl) (show s'.n - cut ≤ 2 ^ 20 by omega) fun h5 sz hoz hnz e5 => ⟨sz, rfl, rd_ext0 e5 w2, ?_, ?_, ?_⟩
      · have := e5.get b4 (by simp)
        rw [rd_blk this]; simp
      · rw [rd_blk (e5.get hl4.blk (by simp))]; simp
      refine newI fun h6 s6 b6 e6 => ?_
      have e46 := e5.trans0 e6
      have hl6 := hl4.ext0 e46
      have c6 := e46.get b4 (by simp)
      have hk6 := hk4.ext0 e46
      simp only [rd_blk c6]
      have hsc : s'.n ≤ s'.c := by
        obtain ⟨_, _, _, _, _, h4', _, h7'⟩ := ownV_open (hk4.toV encB_len) (by rw [w1]; simp)
        omega
      refine ⟨s', by simp, by omega, ?_⟩
      simp only [slAd0, Nat.sub_zero]
      refine Clone10_s (hk6.takeR (Nat.le_of_lt hcl)).sl.reads (show cut ≤ 2 ^ 20 by omega) fun h7 sy hoy hny e7 => ⟨sy, rfl, ?_⟩
      have c7 := e7.get c6 (by simp)
      refine st_blk c7 (by simp) fun h8 s8 b8 e8 => ?_
      have hiC2 : atL M.l k < (C.set (atL M.l k) ⟨(C[atL M.l k]).b, s', { M.l[atL M.l k] with keys := putK (M.l[atL M.l k]).keys k }⟩).length := by simpa using hiC
      have hget : (C.set (atL M.l k) ⟨(C[atL M.l k]).b, s', { M.l[atL M.l k] with keys := putK (M.l[atL M.l k]).keys k }⟩)[atL M.l k]'hiC2 = ⟨(C[atL M.l k]).b, s', { M.l[atL M.l k] with keys := putK (M.l[atL M.l k]).keys k }⟩ := by simp
      have e68 : Ext ((C[atL M.l k]).b :: sBlk s') h6 h8 := (e7.mono (by simp)).trans e8 (fun b hb _ => by simp at hb; simp [hb])
      have hoy8 : Own T_string 1 encB lo h8 sy ((putK (M.l[atL M.l k]).keys k).take cut) := (hoy.mono (by have := e1.sz; have := e14.sz; have := e46.sz; omega)).extT e8 (fun b hb c fz => by simp at hb; subst hb; exact other_blk c7 (by decide) c fz)
      have hl8 := hl6.setOne (i := atL M.l k) hiC2 (ks := sy) (keys := (putK (M.l[atL M.l k]).keys k).take cut) (by rw [hget]; exact e68) (by rw [hget]; simpa [hm] using b8) hoy8 (fun b hb => Or.inr (hoy.blk b hb))
      rw [hget] at hl8
      simp only [rd_blk hl8.blk]
      refine ⟨M.next, by simp, ?_⟩
      rw [wrap64 (x := M.next + 1) (by omega) (by omega)]
      refine st_blk hl8.blk (by simp) fun h9 s9 b9 e9 => ?_
      simp only [rd_blk b9]
      refine ⟨ls, by simp, ?_⟩
      refine newI fun h10 s10 b10 e10 => ?_
      have hx1 : x < h1.size := blk_lt hl1.blk
      have z14 := e14.sz
      have z46 := e46.sz
      have z45 := e5.sz
      have z12 := e1.sz
      have hC4 : ∀ d ∈ C.set (atL M.l k) ⟨(C[atL M.l k]).b, s', { M.l[atL M.l k] with keys := putK (M.l[atL M.l k]).keys k }⟩, d.b < h4.size ∧ ∀ b ∈ sBlk d.ks, b < h4.size := fun d hd => ⟨blk_lt (hl4.ones d hd).blk, own_lt (hl4.ones d hd).keys⟩
      have hozlt := own_lt hoz
      have hozlo := hoz.blk
      have hC8 : ∀ d ∈ (C.set (atL M.l k) ⟨(C[atL M.l k]).b, s', { M.l[atL M.l k] with keys := putK (M.l[atL M.l k]).keys k }⟩).set (atL M.l k) ⟨(C[atL M.l k]).b, sy, { M.l[atL M.l k] with keys := (putK (M.l[atL M.l k]).keys k).take cut }⟩, d.b < h4.size ∧ ∀ b ∈ sBlk d.ks, b < h4.size ∨ h6.size ≤ b := by
        intro d hd
        rcases List.mem_or_eq_of_mem_set hd with g | g
        · exact ⟨(hC4 d g).1, fun b hb => Or.inl ((hC4 d g).2 b hb)⟩
        · subst g
          exact ⟨by have := blk_lt b4; exact this, fun b hb => Or.inr (hoy.blk b hb)⟩
      have hFp8 : ∀ b, Fp x ls ((C.set (atL M.l k) ⟨(C[atL M.l k]).b, s', { M.l[atL M.l k] with keys := putK (M.l[atL M.l k]).keys k }⟩).set (atL M.l k) ⟨(C[atL M.l k]).b, sy, { M.l[atL M.l k] with keys := (putK (M.l[atL M.l k]).keys k).take cut }⟩) b → Fp x ls C b ∨ h.size ≤ b := by
        intro b hb
        have h1' := fp_set (N := h.size) hiC2 (s' := sy) (m := { M.l[atL M.l k] with keys := (putK (M.l[atL M.l k]).keys k).take cut }) (fun b hb => Or.inr (by have := hoy.blk b hb; have := e6.sz; omega)) (by rw [hget]; exact hb)
        rcases h1' with g | g
        · exact fp_set hiC (fun b hb => (hb3 b hb).imp id fun g => by have := e2.sz; omega) g
        · exact Or.inr g
      have hmods8 := hl8.mods
      have hlen8 : ((C.set (atL M.l k) ⟨(C[atL M.l k]).b, s', { M.l[atL M.l k] with keys := putK (M.l[atL M.l k]).keys k }⟩).set (atL M.l k) ⟨(C[atL M.l k]).b, sy, { M.l[atL M.l k] with keys := (putK (M.l[atL M.l k]).keys k).take cut }⟩).length = C.length := by simp
      generalize hC2 : (C.set (atL M.l k) ⟨(C[atL M.l k]).b, s', { M.l[atL M.l k] with keys := putK (M.l[atL M.l k]).keys k }⟩).set (atL M.l k) ⟨(C[atL M.l k]).b, sy, { M.l[atL M.l k] with keys := (putK (M.l[atL M.l k]).keys k).take cut }⟩ = C2 at *
      have hp10 := ((hl8.ptrs.extT e9 (fun b hb c fz => by simp at hb; subst hb; exact other_blk hl8.blk (by decide) c fz)).ext0 e10).toV encP_len
      have hflP : ((C2.map OneC.b).flatMap encP).length = C2.length := by
        rw [flatMap_length encP_len, List.length_map]; omega
      rw [wrap64 (x := ((atL M.l k : Nat) : Int) + 1) (by omega) (by omega)]
      have z68 := e68.sz
      have z89 := e9.sz
      have z910 := e10.sz
      refine Insert1_ptr_s (i := atL M.l k + 1) hp10 rfl rfl b10 rfl (fun hbm => by have := own_lt (hl8.ptrs) _ hbm; omega) (by intro u hu; obtain ⟨y, _, hy⟩ := List.mem_flatMap.1 hu; simp at hy; subst hy; rfl) (by rw [hflP]; omega) (by rw [hflP]; omega) (by omega) fun h11 s11 ho11 he11 hb11 => ⟨s11, rfl, ?_⟩
      have x10 := e10.get b9 (by simp)
      have x11 := he11.get x10 (fun hm' => (hl8.ptrs).other (T' := T_leaf_Leaves) (by decide) _ hm' _ _ hl8.blk)
      refine st_blk x11 (by simp) fun h12 s12 b12 e12 => ?_
      have e8_12 : Ext (x :: sBlk ls) h8 h12 := (((e9.mono (by simp)).trans0 e10).trans he11 (fun b hb _ => List.mem_cons_of_mem _ hb)).trans e12 (fun b hb _ => by simp at hb; simp [hb])
      have z12' := e8_12.sz
      have e58 : Ext ((C[atL M.l k]).b :: sBlk s') h5 h8 := (e6.mono (by simp)).trans e68 (fun b hb _ => hb)
      have one6 : Blk h6 h5.size #[.int .i64 M.next, .string ((putK (M.l[atL M.l k]).keys k)[cut]), .slice sz.a sz.n sz.c] T_leaf_one := b6
      have one8 : Blk h8 h5.size #[.int .i64 M.next, .string ((putK (M.l[atL M.l k]).keys k)[cut]), .slice sz.a sz.n sz.c] T_leaf_one := e68.get one6 (fun hm' => by
        rw [List.mem_cons] at hm'
        rcases hm' with g | g
        · have := blk_lt b4; omega
        · have := own_lt hk4 _ g; omega)
      have one12 := e8_12.get one8 (fun hm' => list_apart hl8 (T := T_leaf_one) (by decide) (by decide) _ hm' _ _ one8)
      have koz8 : Own T_string 1 encB lo h8 sz ((putK (M.l[atL M.l k]).keys k).drop cut) := ((hoz.mono (by omega)).ext0 e6).ext e68 (fun a ha hm' => by
        have hin : a.block ∈ sBlk sz := mem_sBlk.2 ⟨a, ha, rfl⟩
        have hb1 := hozlo _ hin
        rw [List.mem_cons] at hm'
        rcases hm' with g | g
        · have := blk_lt b4; omega
        · have := own_lt hk4 _ g; omega)
      have koz12 := koz8.extT e8_12 (list_apart hl8 (by decide) (by decide))
      have hl12 := hl8.more (i := atL M.l k + 1) (c := ⟨h5.size, sz, ⟨M.next, (putK (M.l[atL M.l k]).keys k)[cut], (putK (M.l[atL M.l k]).keys k).drop cut⟩⟩) (ls' := s11) (nx := M.next + 1) e8_12 (by simpa using b12) (Own.ofV encP_len (by
          have := ho11.extT e12 (fun b hb c fz => by simp at hb; subst hb; exact other_blk x11 (by decide) c fz)
          rw [List.map_append, List.map_append, List.flatMap_append, List.flatMap_append, List.map_take, List.map_drop, flatMap_take encP_len, Nat.mul_one, show ((C2.map OneC.b).drop (atL M.l k + 1)).flatMap encP = ((C2.map OneC.b).flatMap encP).drop (atL M.l k + 1) from by rw [show ∀ l : List Nat, l.flatMap encP = l.map fun b => Value.pointer (some ⟨b, 0, none⟩) from fun l => by rw [List.map_eq_flatMap], show ∀ l : List Nat, l.flatMap encP = l.map fun b => Value.pointer (some ⟨b, 0, none⟩) from fun l => by rw [List.map_eq_flatMap], List.map_drop]]
          exact this)) ⟨one12, (show lo ≤ h5.size by omega), koz12⟩ (fun d hd => by have := (hC8 d hd).1; simp only; omega) (fun d hd b hb1 hb2 => by
          have h1' := (hC8 d hd).2 b hb1
          have h2' := hozlt b hb2
          have h3' := hozlo b hb2
          have := e6.sz
          simp only at *
          omega)
      have y8 : Blk h8 (C[atL M.l k]).b #[.int .i64 (C[atL M.l k]).m.n, .string (C[atL M.l k]).m.bound, .slice sy.a sy.n sy.c] T_leaf_one := by simpa using b8
      have y12 := e8_12.get y8 (fun hm' => list_apart hl8 (T := T_leaf_one) (by decide) (by decide) _ hm' _ _ y8)
      have m4 : Blk h4 h.size #[.int .i64 0, .int .i64 0] T_leaf_Move := e14.get b1 (fun hm' => one_apart (T := T_leaf_Move) hl1.ones hiC (by decide) (by decide) _ hm' _ _ b1)
      have m6 := e46.get m4 (by simp)
      have m8 : Blk h8 h.size #[.int .i64 0, .int .i64 0] T_leaf_Move := e68.get m6 (fun hm' => by
        rw [List.mem_cons] at hm'
        rcases hm' with g | g
        · rw [← g] at c6; exact other_blk m6 (by decide) _ _ c6
        · exact hk6.other (T' := T_leaf_Move) (by decide) _ g _ _ m6)
      have m12 := e8_12.get m8 (fun hm' => list_apart hl8 (T := T_leaf_Move) (by decide) (by decide) _ hm' _ _ m8)
      have oth : ∀ T, T_leaf_Move ≠ T → ∀ g, Ext [h.size] h12 g → Blk g h.size #[.int .i64 (C[atL M.l k]).m.n, .int .i64 M.next] T_leaf_Move → Other T g [h.size] := fun T hT g _ hg b hb c fz => by simp at hb; subst hb; exact other_blk hg hT c fz
      have oth0 : ∀ T, T_leaf_Move ≠ T → Other T h12 [h.size] := fun T hT b hb c fz => by simp at hb; subst hb; exact other_blk m12 hT c fz
      have eAll : Ext (((C[atL M.l k]).b :: sBlk (C[atL M.l k]).ks) ++ ((C[atL M.l k]).b :: sBlk s') ++ (x :: sBlk ls)) h h12 := by
        refine (((e1.mono (by simp)).trans e14 (fun b hb _ => ?_)).trans0 e46).trans e68 (fun b hb _ => ?_) |>.trans e8_12 (fun b hb _ => ?_)
        · simp only [List.mem_append]; exact Or.inl (Or.inl hb)
        · simp only [List.mem_append]; exact Or.inl (Or.inr hb)
        · simp only [List.mem_append]; exact Or.inr hb
      have hSlo : ∀ b ∈ ((C[atL M.l k]).b :: sBlk (C[atL M.l k]).ks) ++ ((C[atL M.l k]).b :: sBlk s') ++ (x :: sBlk ls), lo ≤ b := by
        intro b hb
        simp only [List.mem_append, List.mem_cons] at hb
        rcases hb with ((g | g) | (g | g)) | (g | g)
        · rw [g]; exact hc.le
        · exact hc.keys.blk b g
        · rw [g]; exact hc.le
        · exact hk4.blk b g
        · rw [g]; exact hl.le
        · exact hl.ptrs.blk b g
      have hSfp : ∀ b ∈ ((C[atL M.l k]).b :: sBlk (C[atL M.l k]).ks) ++ ((C[atL M.l k]).b :: sBlk s') ++ (x :: sBlk ls), Fp x ls C b ∨ h.size ≤ b := by
        intro b hb
        simp only [List.mem_append, List.mem_cons] at hb
        rcases hb with (g | (g | g)) | (g | g)
        · exact Or.inl (Or.inr (Or.inr ⟨_, List.getElem_mem hiC, g⟩))
        · exact Or.inl (Or.inr (Or.inr ⟨_, List.getElem_mem hiC, Or.inl g⟩))
        · rcases hb3 b g with g2 | g2
          · exact Or.inl (Or.inr (Or.inr ⟨_, List.getElem_mem hiC, Or.inr g2⟩))
          · have := e2.sz; exact Or.inr (by omega)
        · exact Or.inl (Or.inl g)
        · exact Or.inl (Or.inr (Or.inl g))
      have hCfp : ∀ b, Fp x s11 (C2.take (atL M.l k + 1) ++ [(⟨h5.size, sz, ⟨M.next, (putK (M.l[atL M.l k]).keys k)[cut], (putK (M.l[atL M.l k]).keys k).drop cut⟩⟩ : OneC)] ++ C2.drop (atL M.l k + 1)) b → Fp x ls C b ∨ h.size ≤ b := by
        intro b hb
        rcases hb with g | g | ⟨c, hc', g⟩
        · exact Or.inl (Or.inl g)
        · rcases hb11 b g with g2 | g2
          · exact Or.inl (Or.inr (Or.inl g2))
          · exact Or.inr (by omega)
        · simp only [List.mem_append, List.mem_cons, List.not_mem_nil, or_false] at hc'
          rcases hc' with (hc' | hc') | hc'
          · exact hFp8 b (Or.inr (Or.inr ⟨c, List.mem_of_mem_take hc', g⟩))
          · subst hc'
            rcases g with g | g
            · exact Or.inr (by simp only at g; omega)
            · have := hozlo b g; exact Or.inr (by omega)
          · exact hFp8 b (Or.inr (Or.inr ⟨c, List.mem_of_mem_drop hc', g⟩))
      have hmod : (C2.take (atL M.l k + 1) ++ [(⟨h5.size, sz, ⟨M.next, (putK (M.l[atL M.l k]).keys k)[cut], (putK (M.l[atL M.l k]).keys k).drop cut⟩⟩ : OneC)] ++ C2.drop (atL M.l k + 1)).map OneC.m
          = M.l.take (atL M.l k) ++ [{ M.l[atL M.l k] with keys := (putK (M.l[atL M.l k]).keys k).take cut }, ⟨M.next, (putK (M.l[atL M.l k]).keys k).getD cut (ByteArray.mk #[]), (putK (M.l[atL M.l k]).keys k).drop cut⟩] ++ M.l.drop (atL M.l k + 1) := by
        rw [List.map_append, List.map_append, List.map_take, List.map_drop, hmods8]
        simp only [List.set_set]
        rw [List.take_set, List.drop_set_of_lt (by omega)]
        have hgd : (putK (M.l[atL M.l k]).keys k).getD cut (ByteArray.mk #[]) = (putK (M.l[atL M.l k]).keys k)[cut] := by rw [List.getD_eq_getElem?_getD, List.getElem?_eq_getElem hcl]; rfl
        rw [hgd]
        have htk : (M.l.take (atL M.l k + 1)).set (atL M.l k) { M.l[atL M.l k] with keys := (putK (M.l[atL M.l k]).keys k).take cut } = M.l.take (atL M.l k) ++ [{ M.l[atL M.l k] with keys := (putK (M.l[atL M.l k]).keys k).take cut }] := by
          rw [List.take_succ_eq_append_getElem hlt, List.set_append_right _ _ (by simp; omega)]
          congr 1
          rw [show atL M.l k - (M.l.take (atL M.l k)).length = 0 by simp; omega]
          rfl
        rw [htk]
        simp
      rw [hmod] at hl12
      have fin : ∀ h14, Ext [h.size] h12 h14 → Q [.int .i64 (if posK (M.l[atL M.l k]).keys k < cut then (M.l[atL M.l k]).n else M.next), .agg #[.int .i64 (M.l[atL M.l k]).n, .int .i64 M.next], .int .i64 0] h14 := by
        intro h14 e14'
        have hl14 := hl12.extO e14' (oth0 _ (by decide)) (oth0 _ (by decide)) (oth0 _ (by decide)) (oth0 _ (by decide))
        have hq := hQ h14 s11 _ _ (by rw [hins]; exact hl14) (eAll.trans e14' (by intro b hb hlt'; simp at hb; omega)) hSlo hSfp hCfp
        rw [hins] at hq
        exact hq
      simp only [nilW_some, addr_mk, rd_blk y12, rd_blk one12]
      refine ⟨(C[atL M.l k]).m.n, by simp, M.next, by simp, ?_⟩
      refine st_blk m12 (by simp) fun h13 s13 b13 e13 => ?_
      have y13 := e13.get y12 (fun hm' => oth0 _ (by decide) _ hm' _ _ y12)
      have o13 := e13.get one12 (fun hm' => oth0 _ (by decide) _ hm' _ _ one12)
      have b13' : Blk h13 h.size #[.int .i64 (C[atL M.l k]).m.n, .int .i64 M.next] T_leaf_Move := by simpa using b13
      by_cases hlt2 : i < cut
      · rw [if_pos (by simp; omega)]
        refine ⟨(C[atL M.l k]).m.n, by simp [rd_blk y13], (C[atL M.l k]).m.n, by simp [rd_blk b13'], M.next, by simp [rd_blk b13'], ?_⟩
        refine st_blk b13' (by simp) fun h14 s14 b14 e14' => ?_
        refine ⟨(C[atL M.l k]).m.n, by simp [rd_blk b14], M.next, by simp [rd_blk b14], ?_⟩
        have := fin h14 (e13.trans e14' (fun b hb _ => hb))
        rw [if_pos (by omega)] at this
        rw [hm]
        exact this
      · rw [if_neg (by simp; omega)]
        refine ⟨M.next, by simp [rd_blk o13], (C[atL M.l k]).m.n, by simp [rd_blk b13'], M.next, by simp [rd_blk b13'], ?_⟩
        refine st_blk b13' (by simp) fun h14 s14 b14 e14' => ?_
        refine ⟨(C[atL M.l k]).m.n, by simp [rd_blk b14], M.next, by simp [rd_blk b14], ?_⟩
        have := fin h14 (e13.trans e14' (fun b hb _ => hb))
        rw [if_neg (by omega)] at this
        rw [hm]
        exact this
end
end Go.Lift

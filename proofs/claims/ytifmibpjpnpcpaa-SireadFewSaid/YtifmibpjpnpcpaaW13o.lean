/- SireadRough. -/
import Derived.Test.YtifmibpjpnpcpaaW13n
set_option linter.unusedSimpArgs false
set_option linter.unusedVariables false
namespace Go.Lift
open Go Go.Proofs Go.RowKit Go.Shelf
set_option maxRecDepth 100000
def rel5 : ThingM := ⟨2, sE, 5, sE, 0⟩
def RL (e i : Nat) : List ThingM := if i ≤ e then (List.range i).map (fun (k : Nat) => verT 5 (k : Int)) else [rel5]
def RS (e i : Nat) : SM := ⟨(e : Int), 100, if i = 0 then [] else [(3, RL e i)], if i ≤ e then (i : Int) else 0, 0⟩
def eqSM (a b : SM) : Bool := decide (a.each = b.each) && decide (a.all = b.all) && decide (a.m = b.m) && decide (a.fine = b.fine) && decide (a.csn = b.csn)
theorem eqSM_eq {a b : SM} (h : eqSM a b = true) : a = b := by
  unfold eqSM at h
  simp only [Bool.and_eq_true, decide_eq_true_eq] at h
  obtain ⟨⟨⟨⟨h1, h2⟩, h3⟩, h4⟩, h5⟩ := h
  cases a
  cases b
  simp only at *
  subst h1 h2 h3 h4 h5
  rfl
def ck13 (e i : Nat) : Bool := eqSM (TakeS (RS e i) 3 (verT 5 (i : Int))) (RS e (i + 1)) && (decide (rel5 ∈ thgs (RS e i).m 3) == decide (i > e)) && (decide (i = 0) || ((RL e i).any (ownP (verT 5 77)) == decide (i > e))) &&
  ((List.range i).all fun (k : Nat) => (RL e i).any (ownP (verT 5 (k : Int)))) && (decide (i = 0) || (RL e i).any fun y => decide (y.kind ≥ 2) && decide (y.rel = 5))
theorem ck13_all : ((List.range 9).all fun e => decide (e = 0) || (List.range 12).all fun i => ck13 e i) = true := by kernel_rfl
theorem ck13_at {e i : Nat} (he : 1 ≤ e ∧ e ≤ 8) (hi : i < 12) : ck13 e i = true := by
  have h := List.all_eq_true.1 ck13_all e (List.mem_range.2 (by omega))
  simp only [Bool.or_eq_true, decide_eq_true_eq] at h
  rcases h with h | h
  · omega
  · exact List.all_eq_true.1 h i (List.mem_range.2 hi)
theorem ck13_facts {e i : Nat} (he : 1 ≤ e ∧ e ≤ 8) (hi : i < 12) : TakeS (RS e i) 3 (verT 5 (i : Int)) = RS e (i + 1) ∧ decide (rel5 ∈ thgs (RS e i).m 3) = decide (i > e) ∧ (i ≠ 0 → (RL e i).any (ownP (verT 5 77)) = decide (i > e)) ∧
    (∀ k, k < i → (RL e i).any (ownP (verT 5 (k : Int))) = true) ∧ (i ≠ 0 → (RL e i).any (fun y => decide (y.kind ≥ 2) && decide (y.rel = 5)) = true) := by
  have h := ck13_at he hi
  unfold ck13 at h
  simp only [Bool.and_eq_true, Bool.or_eq_true, decide_eq_true_eq, beq_iff_eq] at h
  obtain ⟨⟨⟨⟨h1, h2⟩, h3⟩, h4⟩, h5⟩ := h
  refine ⟨eqSM_eq h1, h2, fun hn => h3.resolve_left hn, fun k hk => List.all_eq_true.1 h4 k (List.mem_range.2 hk), fun hn => h5.resolve_left hn⟩
theorem owners_RS {e i : Nat} (hi : i ≠ 0) (p : ThingM → Bool) : ownersS (RS e i) p = if (RL e i).any p = true then [3] else [] := by
  unfold ownersS RS
  simp only [hi, if_false, List.filter_cons, List.filter_nil]
  split
  · unfold sortI; exact List.mergeSort_singleton _
  · unfold sortI; simp
theorem owners_RS0 {e : Nat} (p : ThingM → Bool) : ownersS (RS e 0) p = [] := by
  unfold ownersS RS sortI
  simp
theorem u8mod {a : Int} (ha : (Lit.int .u8 a).wf = true) (m : Int) (hm : 0 < m ∧ m < 1000) : ∃ n : Nat, IntKind.wrap .i64 a = a ∧ Int.tmod (IntKind.wrap .i64 a) m = (n : Int) ∧ (n : Int) < m ∧ 0 ≤ a ∧ a < 256 := by
  have h8 : 0 ≤ a ∧ a < 256 := by have := wf_u8 ha; omega
  have hw : IntKind.wrap .i64 a = a := wrap64 (by omega) (by omega)
  rw [hw]
  refine ⟨(Int.tmod a m).toNat, rfl, ?_, ?_, h8.1, h8.2⟩
  · rw [Int.toNat_of_nonneg]
    exact Int.tmod_nonneg _ h8.1
  · have := Int.tmod_lt_of_pos a hm.1
    have h2 : 0 ≤ Int.tmod a m := Int.tmod_nonneg _ h8.1
    omega
theorem RS_ok {e : Nat} (he : 1 ≤ e ∧ e ≤ 8) : ∀ i, i ≤ 12 → SOk i (RS e i)
  | 0, _ => by
    have := SOk.new (each := (e : Int)) (all := 100) (by omega) (by omega)
    simpa [RS] using this
  | i + 1, hi => by
    have h := RS_ok he i (by omega)
    rw [← (ck13_facts he (i := i) (by omega)).1]
    exact (TakeS_ok h _).1
section
variable {G : Nat → Prop} {h : Hp} {t m : Nat} {S : SM} {o : Int} {Q : List Value → Hp → Prop}
theorem rough_has {e i : Nat} (he : 1 ≤ e ∧ e ≤ 8) (hi : i < 12) {r2 : Int} (h2 : 6 ≤ r2) :
    decide (⟨2, sE, r2, sE, 0⟩ ∈ thgs (roughS (RS e i) 5 r2).m 3) = decide (i > 0) ∧ decide (rel5 ∈ thgs (roughS (RS e i) 5 r2).m 3) = decide (i > e) := by
  have hc := ck13_facts he hi
  have hok := RS_ok he i (by omega)
  by_cases h0 : i = 0
  · subst h0
    have : roughS (RS e 0) 5 r2 = RS e 0 := by unfold roughS; rw [owners_RS0]; rfl
    rw [this]
    refine ⟨?_, hc.2.1⟩
    simp [RS, thgs, afind]
  · have ho : ownersS (RS e i) (fun y => decide (y.kind ≥ 2) && decide (y.rel = 5)) = [3] := by rw [owners_RS h0, if_pos (hc.2.2.2.2 h0)]
    have hr : roughS (RS e i) 5 r2 = takeS (RS e i) 3 ⟨2, sE, r2, sE, 0⟩ := by unfold roughS; rw [ho]; rfl
    obtain ⟨b1, b2, ⟨l1, hl1⟩, b4⟩ := bornS_ok hok (o := 3) (by omega)
    obtain ⟨w1, w2, w3, w4, w5, _⟩ := wholeS_ok b1 (o := 3) (by omega) (x := ⟨2, sE, r2, sE, 0⟩) (by simp)
    have hth : ∀ y ∈ thgs (RS e i).m 3, y.rel = 5 := by
      intro y hy
      have : thgs (RS e i).m 3 = RL e i := by simp [RS, h0, thgs, afind]
      rw [this] at hy
      unfold RL at hy
      split at hy
      · obtain ⟨k, _, rfl⟩ := List.mem_map.1 hy; rfl
      · simp at hy; rw [hy]; rfl
    have hnf : fineT ⟨2, sE, r2, sE, 0⟩ = false := rfl
    have hnot : (⟨2, sE, r2, sE, 0⟩ : ThingM) ∉ thgs (bornS (RS e i) 3).m 3 := by
      rw [b2]
      intro hm
      have := hth _ hm
      simp only at this
      omega
    have ht : takeS (RS e i) 3 ⟨2, sE, r2, sE, 0⟩ = wholeS (bornS (RS e i) 3) 3 ⟨2, sE, r2, sE, 0⟩ := by
      unfold takeS
      rw [if_neg (by simp)]
      simp only
      rw [if_neg (by rw [hnf]; simp [hnot]), hnf]
      simp
    rw [hr, ht]
    refine ⟨by simp [w3]; omega, ?_⟩
    rw [← hc.2.1]
    have : rel5 ∈ thgs (wholeS (bornS (RS e i) 3) 3 ⟨2, sE, r2, sE, 0⟩).m 3 ↔ rel5 ∈ thgs (RS e i).m 3 := by
      constructor
      · intro hm
        rcases w5 _ hm with g | g
        · have := congrArg ThingM.rel g
          simp [rel5] at this
          omega
        · rw [b2] at g; exact g.1
      · intro hm
        rcases w4 rel5 (by rw [b2]; exact hm) with g | g
        · exact g
        · exact absurd g.2.1 (by decide)
    simp only [this]
theorem SireadRough_s {each n other : Int} (w0 : (Lit.int .u8 each).wf = true) (w1 : (Lit.int .u8 n).wf = true) (w2 : (Lit.int .u8 other).wf = true) (hQ : ∀ h', Ext [] h h' → Q [.bool true] h') : F_liverylaw13_SireadRough each n other h Q := by
  unfold F_liverylaw13_SireadRough
  obtain ⟨e0, _, he0, he1, _, _⟩ := u8mod w0 8 (by omega)
  obtain ⟨k, _, hk0, hk1, _, _⟩ := u8mod w1 12 (by omega)
  obtain ⟨_, ho, _, _, ho1, ho2⟩ := u8mod w2 12 (by omega)
  refine ⟨by decide, by decide, ?_⟩
  rw [he0, hk0, ho]
  obtain ⟨e, hee⟩ : ∃ e : Nat, e = e0 + 1 := ⟨_, rfl⟩
  have hw : IntKind.wrap .i64 (1 + (e0 : Int)) = (e : Int) := by rw [wrap64 (by omega) (by omega)]; omega
  rw [hw]
  have he : 1 ≤ e ∧ e ≤ 8 := by omega
  have hk : k < 12 := by omega
  have hw6 : IntKind.wrap .i64 (6 + other) = 6 + other := wrap64 (by omega) (by omega)
  rw [hw6]
  refine New_s (G := fun b => b < h.size) (fun b hb => hb) (each := (e : Int)) (by omega) (by omega) fun h1 t hS0 e1 => ⟨_, _, rfl, ?_⟩
  have kgx : ∀ g, KG (fun b => b < h.size) h g → Ext [] h g := fun g hk => ⟨hk.sz, fun b hb _ => hk.old b hb⟩
  have k1 := kg_ext0 (G := fun b => b < h.size) e1 fun b hb => hb
  rw [if_neg (by decide)]
  intro X hX
  have hS0' : Sv (fun b => b < h.size) h1 t (RS e 0) := by simpa [RS] using hS0
  refine loopI k (fun i g => Sv (fun b => b < h.size) g t (RS e i) ∧ KG (fun b => b < h.size) h g) (fun g hI => ?_) (fun i g hi hI hnext => ?_) h1 ⟨hS0', k1⟩
  · obtain ⟨hS, kg⟩ := hI
    have hok := RS_ok he k (by omega)
    obtain ⟨c1, c2, c3, c4, c5⟩ := ck13_facts he hk
    refine hX _ _ ?_
    rw [if_neg (by simp)]
    refine newI fun h2 s2 b2 e2 => ?_
    refine st_blk b2 (by simp) fun h3 s3 b3 e3 => ?_
    have e23 : Ext [] g h3 := e2.trans e3 fun b hb hlt => by simp at hb; omega
    have b3' : Blk h3 g.size (encT rel5).toArray T_siread_Thing := b3
    intro J hJ
    have hgt : decide ((k : Int) > (e : Int)) = decide (k > e) := by rw [Bool.eq_iff_iff]; simp
    -- the rest
    have jF : ∀ g2, Ext [] h3 g2 → J [.bool false] g2 := by
      intro g2 eg2
      have hS2 := (hS.ext0 e23).ext0 eg2
      have kg2 : KG (fun b => b < h.size) h g2 := (kg.trans (kg_ext0 e23 hS.1)).trans (kg_ext0 eg2 (hS.ext0 e23).1)
      have bc := eg2.get b3' (by simp)
      refine hJ _ _ ?_
      rw [if_neg (by decide)]
      intro Y hY
      refine loopI k (fun i g' => Ext [] g2 g') (fun g' eg' => ?_) (fun i g' hi eg' hnext => ?_) g2 (Ext.refl _ _)
      · refine hY _ _ ?_
        rw [if_neg (by simp)]
        have hS3 := hS2.ext0 eg'
        have bc3 := eg'.get bc (by simp)
        have hS3x := (hS.ext0 (e2.trans e3 fun b hb hlt => by simp at hb; omega)).more (eg2.trans0 eg')
        have hS4 : Sv (fun b => b < h.size ∨ b = g.size) g' t (RS e k) := by
          have hb := hS.more ((e23.trans0 eg2).trans0 eg')
          refine hb.anti fun b hb => ?_
          rcases hb with hb | hb
          · exact Or.inl hb
          · have := blk_lt bc3; exact Or.inr ⟨by omega, by omega⟩
        have hgs := hS.1
        refine Rough_s hS4 hok (by omega) 5 (6 + other) fun g4 hS5 k5 => ⟨rfl, ?_⟩
        obtain ⟨r1, r2⟩ := rough_has he hk (r2 := 6 + other) (by omega)
        refine Has_s (o := 3) hS5 ⟨2, sE, 6 + other, sE, 0⟩ fun g5 e5 => ⟨_, rfl, ?_⟩
        rw [r1]
        have hgt0 : decide ((k : Int) > 0) = decide (k > 0) := by rw [Bool.eq_iff_iff]; simp
        rw [hgt0, if_pos (by simp)]
        have bc5 := e5.get (k5.get bc3 (Or.inr rfl)) (by simp)
        refine rd5I (x := rel5) bc5 ?_
        refine Has_s (o := 3) (hS5.ext0 e5) rel5 fun g6 e6 => ⟨_, rfl, ?_⟩
        rw [r2, hgt, if_pos (by simp)]
        refine wakes_s fun g7 e7 => ⟨_, rfl, ?_⟩
        refine hQ g7 ?_
        have kk : KG (fun b => b < h.size) h g4 := (kg2.trans (kg_ext0 eg' hS2.1)).trans (k5.anti fun b hb => Or.inl hb)
        exact (((kgx _ kk).trans0 e5).trans0 e6).trans0 e7
      · refine hY _ _ ?_
        rw [if_pos (by simpa using hi)]
        refine version_s _ _ fun h4 e4 => ?_
        refine ekT5 (verT 5 (i : Int)) ?_
        have eg4 := eg'.trans0 e4
        refine Owners_s (hS2.ext0 eg4) hok (verT 5 (i : Int)) fun h5 s e5 hos => ⟨s, rfl, ?_⟩
        rw [owners_RS (by omega), if_pos (c4 i hi)] at hos
        refine newI fun h6 s6 b6 e6 => ?_
        refine Ints_s (xs := [3]) (ys := [3]) (hos.ext0 e6).sl.reads (reads_lit b6 rfl rfl) (by simp) ⟨_, rfl, ?_⟩
        rw [if_neg (by decide), wrap64 (by omega) (by omega)]
        exact hnext h6 ((eg4.trans0 e5).trans0 e6)
    refine rd5I b3' ?_
    have hS3 := hS.ext0 e23
    refine Has_s (o := 3) hS3 rel5 fun h4 e4 => ⟨_, rfl, ?_⟩
    rw [c2, hgt, if_neg (by simp)]
    have hS4 := hS3.ext0 e4
    refine Fine_s hS4 ⟨_, rfl, ?_⟩
    have own77 : ∀ Z : List Value → Hp → Prop, (∀ h' (s : Sl), Ext [] h4 h' → decide ((s.n : Int) > 0) = decide (k > e) → Z [.slice s.a s.n s.c] h') → S_liverylaw13_version 5 77 h4 fun vs h' => ∃ n69 : Int, ∃ s70 : ByteArray, ∃ n71 : Int, ∃ s72 : ByteArray, ∃ n73 : Int, vs = [(Value.agg #[(Value.int .i64 n69), (Value.string s70), (Value.int .i64 n71), (Value.string s72), (Value.int .i64 n73)])] ∧ S_siread_Table_Owners (some ⟨t, 0, none⟩) n69 s70 n71 s72 n73 h' Z := by
      intro Z hZ
      refine version_s _ _ fun h5 e5 => ?_
      refine ekT5 (verT 5 77) ?_
      refine Owners_s (hS4.ext0 e5) hok (verT 5 77) fun h6 s e6 hos => hZ h6 s (e5.trans0 e6) ?_
      have hn := hos.1
      by_cases h0 : k = 0
      · have : ownersS (RS e k) (ownP (verT 5 77)) = [] := by rw [h0]; exact owners_RS0 _
        rw [this] at hn
        simp at hn
        rw [hn, decide_eq_false (by omega), decide_eq_false (by omega)]
      · rw [owners_RS h0, c3 h0] at hn
        by_cases hke : k > e
        · rw [if_pos (by simpa using hke)] at hn
          simp at hn
          rw [hn, decide_eq_true (by omega), decide_eq_true hke]
        · rw [if_neg (by simpa using hke)] at hn
          simp at hn
          rw [hn, decide_eq_false (by omega), decide_eq_false hke]
    by_cases hke : k > e
    · rw [if_pos (by simpa using hke)]
      have hf0 : (RS e k).fine = 0 := by unfold RS; simp only; rw [if_neg (by omega)]
      rw [hf0, if_neg (by decide)]
      refine own77 _ fun h5 s e5 hd => ⟨s, rfl, ?_⟩
      rw [hd]
      simp only [beq_self_eq_true, Bool.not_true]
      exact jF h5 (e4.trans0 e5)
    · rw [if_neg (by simpa using hke)]
      have hf0 : (RS e k).fine = (k : Int) := by unfold RS; simp only; rw [if_pos (by omega)]
      rw [hf0, if_neg (by simp)]
      refine own77 _ fun h5 s e5 hd => ⟨s, rfl, ?_⟩
      rw [hd]
      simp only [beq_self_eq_true, Bool.not_true]
      exact jF h5 (e4.trans0 e5)
  · obtain ⟨hS, kg⟩ := hI
    have hok := RS_ok he i (by omega)
    obtain ⟨c1, _⟩ := ck13_facts he (i := i) (by omega)
    refine hX _ _ ?_
    rw [if_pos (by simpa using hi)]
    refine version_s _ _ fun h2 e2 => ?_
    refine ekT5 (verT 5 (i : Int)) ?_
    refine TakeV_s (o := 3) (hS.ext0 e2) hok (by omega) (verT 5 (i : Int)) fun h3 hS3 k3 => ⟨_, rfl, ?_⟩
    have hkT : okT 3 (verT 5 (i : Int)) := ⟨by omega, by simp [verT]⟩
    rw [if_pos hkT, if_neg (by decide), wrap64 (by omega) (by omega)]
    rw [c1] at hS3
    exact hnext h3 ⟨hS3, (kg.trans (kg_ext0 e2 hS.1)).trans k3⟩
end
end Go.Lift

/- SireadFew and SireadNone. -/
import Derived.Test.YtifmibpjpnpcpaaW13o
set_option linter.unusedSimpArgs false
set_option linter.unusedVariables false
namespace Go.Lift
open Go Go.Proofs Go.RowKit Go.Shelf
set_option maxRecDepth 100000
def manyS (S : SM) (l : List StepS) : SM := l.foldl doS S
theorem manyS_ok : ∀ (l : List StepS) {N : Nat} {S : SM}, SOk N S → SOk (N + 201 * l.length) (manyS S l) ∧ (manyS S l).each = S.each ∧ (manyS S l).all = S.all
  | [], N, S, h => ⟨h, rfl, rfl⟩
  | x :: l, N, S, h => by
    obtain ⟨h1, h2, h3⟩ := doS_ok h x
    obtain ⟨g1, g2, g3⟩ := manyS_ok l h1
    refine ⟨?_, by rw [← h2, ← g2]; rfl, by rw [← h3, ← g3]; rfl⟩
    have e : N + 201 * (x :: l).length = N + 201 + 201 * l.length := by rw [List.length_cons]; omega
    rw [e]
    exact g1
section
variable {G : Nat → Prop} {h : Hp} {t m : Nat} {S : SM} {o : Int} {Q : List Value → Hp → Prop}
/-- Eleven cells and two are read. -/
theorem rd13 {g : Hp} {a : Addr} {x : StepS} {K : Int → Int → Int → Int → ByteArray → Int → ByteArray → Int → Int → ByteArray → Int → ByteArray → Int → Prop} (r : ∀ k, k < 13 → rd g (Addr.add a k) = (encStep x)[k]?)
    (H : K x.op x.xid x.csn x.a.kind x.a.name x.a.rel x.a.index x.a.n x.b.kind x.b.name x.b.rel x.b.index x.b.n) :
    ∃ n18 : Int, rd g (Addr.add a 0) = some (Value.int .i64 n18) ∧ ∃ n19 : Int, rd g (Addr.add a 1) = some (Value.int .i64 n19) ∧ ∃ n20 : Int, rd g (Addr.add a 2) = some (Value.int .i64 n20) ∧ ∃ n21 : Int, rd g (Addr.add a 3) = some (Value.int .i64 n21) ∧ ∃ s22 : ByteArray, rd g (Addr.add a 4) = some (Value.string s22) ∧ ∃ n23 : Int, rd g (Addr.add a 5) = some (Value.int .i64 n23) ∧ ∃ s24 : ByteArray, rd g (Addr.add a 6) = some (Value.string s24) ∧ ∃ n25 : Int, rd g (Addr.add a 7) = some (Value.int .i64 n25) ∧ ∃ n26 : Int, rd g (Addr.add a 8) = some (Value.int .i64 n26) ∧ ∃ s27 : ByteArray, rd g (Addr.add a 9) = some (Value.string s27) ∧ ∃ n28 : Int, rd g (Addr.add a 10) = some (Value.int .i64 n28) ∧ ∃ s29 : ByteArray, rd g (Addr.add a 11) = some (Value.string s29) ∧ ∃ n30 : Int, rd g (Addr.add a 12) = some (Value.int .i64 n30) ∧ K n18 n19 n20 n21 s22 n23 s24 n25 n26 s27 n28 s29 n30 :=
  ⟨_, r 0 (by omega), _, r 1 (by omega), _, r 2 (by omega), _, r 3 (by omega), _, r 4 (by omega), _, r 5 (by omega), _, r 6 (by omega), _, r 7 (by omega), _, r 8 (by omega), _, r 9 (by omega), _, r 10 (by omega), _, r 11 (by omega), _, r 12 (by omega), H⟩
theorem loopI2 {A : Type} {va : A → Value} {X : List Value → Hp → Prop} (n : Nat) (I : Nat → A → Hp → Prop) (hend : ∀ a g, I n a g → X [va a, .int .i64 (n : Int)] g)
    (hstep : ∀ i a g, i < n → I i a g → (∀ a' g', I (i + 1) a' g' → X [va a', .int .i64 ((i + 1 : Nat) : Int)] g') → X [va a, .int .i64 (i : Int)] g) (a : A) (g : Hp) (h0 : I 0 a g) : X [va a, .int .i64 (0 : Int)] g := by
  have key : ∀ d i a g, d + i = n → I i a g → X [va a, .int .i64 (i : Int)] g := by
    intro d
    induction d with
    | zero =>
      intro i a g hi hI
      have : i = n := by omega
      subst this
      exact hend a g hI
    | succ d ih =>
      intro i a g hi hI
      exact hstep i a g (by omega) hI fun a' g' hI' => ih (i + 1) a' g' (by omega) hI'
  exact key n 0 a g (by omega) h0
theorem few_list {N : Nat} (hok : SOk N S) : (∀ x ∈ ofS S o, 1 ≤ x.kind ∧ x.kind ≤ 4) ∧ (∀ r, (nR (ofS S o) r : Int) ≤ S.each) ∧ (∀ x ∈ ofS S o, fineT x = true → relT x ∉ thgs S.m o) ∧ (ofS S o).length ≤ N := by
  obtain ⟨h1, h2, h3, h4⟩ := hok.thg o
  have hp : (ofS S o).Perm (thgs S.m o) := sortC_perm
  refine ⟨fun x hx => h2 x (hp.mem_iff.1 hx), fun r => by rw [nR_perm hp]; exact h4 r, fun x hx hf => h3 x (hp.mem_iff.1 hx) hf, ?_⟩
  rw [hp.length_eq]
  have := thgs_len hok.nd o
  have := hok.bnd
  omega
theorem fine_ge {x : ThingM} (hk : 1 ≤ x.kind ∧ x.kind ≤ 4) : fineT x = decide (x.kind ≥ 3) := by
  unfold fineT
  rw [Bool.eq_iff_iff]
  simp
  omega
theorem SireadFew_s {each all : Int} (w0 : (Lit.int .u8 each).wf = true) (w1 : (Lit.int .u8 all).wf = true) {s : Sl} {xs : List StepS} (hs : Reads 13 encStep h s xs) (hl : xs.length ≤ 9223372036854775807) (hQ : ∀ h', Ext [] h h' → Q [.bool true] h') : F_liverylaw13_SireadFew each all s h Q := by
  unfold F_liverylaw13_SireadFew
  obtain ⟨e0, _, he0, he1, _, _⟩ := u8mod w0 6 (by omega)
  obtain ⟨a0, _, ha0, ha1, _, _⟩ := u8mod w1 12 (by omega)
  refine ⟨by decide, by decide, ?_⟩
  rw [he0, ha0]
  obtain ⟨e, hee⟩ : ∃ e : Int, e = 1 + (e0 : Int) := ⟨_, rfl⟩
  obtain ⟨al, hal⟩ : ∃ e : Int, e = 1 + (a0 : Int) := ⟨_, rfl⟩
  have hw : IntKind.wrap .i64 (1 + (e0 : Int)) = e := by rw [wrap64 (by omega) (by omega)]; omega
  have hw2 : IntKind.wrap .i64 (1 + (a0 : Int)) = al := by rw [wrap64 (by omega) (by omega)]; omega
  rw [hw, hw2]
  refine New_s (G := fun b => b < h.size) (fun b hb => hb) (each := e) (all := al) (by omega) (by omega) fun h1 t hS0 e1 => ⟨_, _, rfl, ?_⟩
  have ok0 := SOk.new (each := e) (all := al) (by omega) (by omega)
  have kgx : ∀ g, KG (fun b => b < h.size) h g → Ext [] h g := fun g hk => ⟨hk.sz, fun b hb _ => hk.old b hb⟩
  have k1 := kg_ext0 (G := fun b => b < h.size) e1 fun b hb => hb
  intro J hJ
  rw [if_neg (by decide)]
  have hn := hs.1
  refine Fair_s (hs.ext0 e1) hl fun bf hbf => ⟨_, rfl, ?_⟩
  refine hJ _ _ ?_
  cases bf with
  | false =>
    rw [if_pos (by decide)]
    intro J8 hJ8
    rw [if_pos (by decide)]
    refine wakes_s fun h2 e2 => ⟨_, rfl, ?_⟩
    exact hJ8 _ _ (hQ h2 (e1.trans0 e2))
  | true =>
    rw [if_neg (by decide)]
    have hlen := hbf rfl
    intro X hX
    refine loopI xs.length (fun i g => Sv (fun b => b < h.size) g t (manyS ⟨e, al, [], 0, 0⟩ (xs.take i)) ∧ KG (fun b => b < h.size) h g) (fun g hI => ?_) (fun i g hi hI hnext => ?_) h1 ⟨hS0, k1⟩
    · refine hX _ _ ?_
      rw [if_neg (by simp; omega)]
      exact wakes_s fun h2 e2 => ⟨_, rfl, hQ h2 ((kgx _ hI.2).trans0 e2)⟩
    · obtain ⟨hS, kg⟩ := hI
      obtain ⟨hok, hea, hall⟩ := manyS_ok (xs.take i) ok0
      have hNt : 0 + 201 * (xs.take i).length ≤ 2 ^ 16 := by rw [List.length_take]; omega
      refine hX _ _ ?_
      rw [if_pos (by simp; omega)]
      obtain ⟨a, ha, hrd⟩ := rdStep (hs.ext0 (kgx _ kg)) hi
      rw [ha]
      simp only [nilW_some]
      refine ⟨by omega, by omega, ?_⟩
      rw [Int.toNat_natCast]
      refine rd13 hrd ?_
      refine do_s hS hok (by omega) xs[i] fun h2 hS2 k2 => ⟨rfl, ?_⟩
      obtain ⟨hok2, hea2, hall2⟩ := doS_ok hok xs[i]
      have hSn : manyS ⟨e, al, [], 0, 0⟩ (xs.take (i + 1)) = doS (manyS ⟨e, al, [], 0, 0⟩ (xs.take i)) xs[i] := by
        rw [List.take_add_one, List.getElem?_eq_getElem hi]
        unfold manyS
        rw [List.foldl_append]
        rfl
      rw [hea] at hea2
      rw [hall] at hall2
      generalize doS (manyS ⟨e, al, [], 0, 0⟩ (xs.take i)) xs[i] = S2 at *
      have hf0 := hok2.fine
      have hf1 := hok2.all
      have hea3 : S2.each = e := hea2
      have hal3 : S2.all = al := hall2
      have hk2 := kg.trans k2
      intro J33 hJ33
      refine Fine_s hS2 ⟨_, rfl, ?_⟩
      rw [if_neg (by simp; omega)]
      refine Fine_s hS2 ⟨_, rfl, ?_⟩
      rw [decide_eq_false (by omega)]
      refine hJ33 _ _ ?_
      rw [if_neg (by decide)]
      intro X36 hX36
      refine loopI 9 (fun _ g => Ext [] h2 g) (fun g eg => ?_) (fun o g ho eg hnext36 => ?_) h2 (Ext.refl _ _)
      · refine hX36 _ _ ?_
        rw [if_neg (by simp), wrap64 (by omega) (by omega)]
        refine hnext g ⟨?_, hk2.trans (kg_ext0 eg hS2.1)⟩
        rw [hSn]
        exact hS2.ext0 eg
      · refine hX36 _ _ ?_
        rw [if_pos (by simp; omega)]
        refine OfV_s (o := (o : Int)) (hS2.ext0 eg) hok2 (by omega) fun h3 l e3 hol => ⟨l, rfl, ?_⟩
        obtain ⟨f1, f2, f3, f4⟩ := few_list (o := (o : Int)) hok2
        have hln := hol.1
        have eg3 := eg.trans0 e3
        intro X42 hX42
        refine loopI (ofS S2 (o : Int)).length (fun _ g => Ext [] h3 g) (fun g eg => ?_) (fun j g hj eg hnext42 => ?_) h3 (Ext.refl _ _)
        · refine hX42 _ _ ?_
          rw [if_neg (by simp; omega), wrap64 (by omega) (by omega)]
          exact hnext36 g (eg3.trans0 eg)
        · refine hX42 _ _ ?_
          rw [if_pos (by simp; omega)]
          have hR := (hol.ext0 eg).sl.reads
          obtain ⟨x, hx⟩ : ∃ x, (ofS S2 (o : Int))[j] = x := ⟨_, rfl⟩
          have hxm : x ∈ ofS S2 (o : Int) := by rw [← hx]; exact List.getElem_mem hj
          obtain ⟨a2, ha2, hrd2⟩ := rdT hR hj
          have r0 : ∀ i (hi : i < (ofS S2 (o : Int)).length) a3, l.a = some a3 → rd g (Addr.add (Addr.add a3 (i * 5)) 0) = some (.int .i64 (ofS S2 (o : Int))[i].kind) ∧ rd g (Addr.add (Addr.add a3 (i * 5)) 2) = some (.int .i64 (ofS S2 (o : Int))[i].rel) := by
            intro i hi a3 ha3
            obtain ⟨a4, h4, h5⟩ := hR.rd encT_len hi
            rw [ha3] at h4
            cases h4
            have q0 := h5 0 (by omega)
            have q2 := h5 2 (by omega)
            rw [← addr_add_add] at q0 q2
            exact ⟨q0, q2⟩
          rw [ha2]
          simp only [nilW_some]
          intro X45 hX45
          refine loopI2 (A := Int) (va := fun n => .int .i64 n) (ofS S2 (o : Int)).length (fun k c g' => g' = g ∧ c = (nR ((ofS S2 (o : Int)).take k) x.rel : Nat)) (fun c g' hc => ?_) (fun k c g' hk hc hnext45 => ?_) 0 g ⟨rfl, by simp [nR]⟩
          · obtain ⟨rfl, rfl⟩ := hc
            refine hX45 _ _ _ ?_
            rw [if_neg (by simp; omega)]
            intro J61 hJ61
            rw [List.take_of_length_le (Nat.le_refl _)]
            have := f2 x.rel
            rw [if_neg (by simp; omega)]
            have j61 : ∀ g2, Ext [] g' g2 → J61 [.bool false] g2 := by
              intro g2 e2
              refine hJ61 _ _ ?_
              rw [if_neg (by decide), wrap64 (by omega) (by omega)]
              exact hnext42 g2 (eg.trans0 e2)
            refine ⟨by omega, by omega, ?_⟩
            rw [Int.toNat_natCast]
            refine ⟨_, (r0 j hj a2 ha2).1, ?_⟩
            rw [hx]
            by_cases hk3 : x.kind ≥ 3
            · rw [if_pos (by simpa using hk3)]
              refine ⟨by omega, by omega, _, (r0 j hj a2 ha2).2, ?_⟩
              rw [hx]
              refine Has_s (o := (o : Int)) ((hS2.ext0 eg3).ext0 eg) ⟨2, sE, x.rel, sE, 0⟩ fun g2 e2 => ⟨_, rfl, ?_⟩
              have hfx : fineT x = true := by rw [fine_ge (f1 x hxm)]; exact decide_eq_true hk3
              have hno : decide ((⟨2, sE, x.rel, sE, 0⟩ : ThingM) ∈ thgs S2.m (o : Int)) = false := decide_eq_false (f3 x hxm hfx)
              rw [hno]
              exact j61 g2 e2
            · rw [if_neg (by simpa using hk3)]
              exact j61 g' (Ext.refl _ _)
          · obtain ⟨rfl, rfl⟩ := hc
            refine hX45 _ _ _ ?_
            rw [if_pos (by simp; omega)]
            obtain ⟨y, hy⟩ : ∃ y, (ofS S2 (o : Int))[k] = y := ⟨_, rfl⟩
            have hym : y ∈ ofS S2 (o : Int) := by rw [← hy]; exact List.getElem_mem hk
            have htk : (ofS S2 (o : Int)).take (k + 1) = (ofS S2 (o : Int)).take k ++ [y] := by rw [List.take_add_one, List.getElem?_eq_getElem hk, hy]; rfl
            have hsn := nR_snoc ((ofS S2 (o : Int)).take k) y x.rel
            rw [← htk] at hsn
            have hcnt : (nR ((ofS S2 (o : Int)).take k) x.rel : Int) ≤ 2 ^ 20 := by
              have h1 : nR ((ofS S2 (o : Int)).take k) x.rel ≤ ((ofS S2 (o : Int)).take k).length := List.length_filter_le _ _
              rw [List.length_take] at h1
              omega
            intro J49 hJ49
            have j49 : ∀ (c : Int), c = (nR ((ofS S2 (o : Int)).take (k + 1)) x.rel : Nat) → J49 [.int .i64 c] g' := by
              intro c hc
              refine hJ49 _ _ ?_
              rw [wrap64 (x := (k : Int) + 1) (by omega) (by omega)]
              exact hnext45 c g' ⟨rfl, hc⟩
            intro J52 hJ52
            have j52 : J52 [.bool (fineT y && decide (y.rel = x.rel))] g' := by
              refine hJ52 _ _ ?_
              by_cases hc : fineT y = true ∧ y.rel = x.rel
              · rw [if_pos hc] at hsn
                rw [if_pos (by simp [hc.1, hc.2]), wrap64 (by omega) (by omega)]
                exact j49 _ (by omega)
              · rw [if_neg hc] at hsn
                rw [if_neg (by simpa using hc)]
                exact j49 _ (by omega)
            refine ⟨by omega, by omega, ?_⟩
            rw [Int.toNat_natCast]
            refine ⟨_, (r0 k hk a2 ha2).1, ?_⟩
            rw [hy]
            have hfy := fine_ge (f1 y hym)
            by_cases hk3 : y.kind ≥ 3
            · rw [if_pos (by simpa using hk3)]
              refine ⟨by omega, by omega, _, (r0 k hk a2 ha2).2, by omega, by omega, ?_⟩
              rw [Int.toNat_natCast]
              refine ⟨_, (r0 j hj a2 ha2).2, ?_⟩
              rw [hx, hy, decEq]
              rw [hfy, decide_eq_true hk3, Bool.true_and] at j52
              exact j52
            · rw [if_neg (by simpa using hk3)]
              rw [hfy, decide_eq_false hk3, Bool.false_and] at j52
              exact j52
end
end Go.Lift

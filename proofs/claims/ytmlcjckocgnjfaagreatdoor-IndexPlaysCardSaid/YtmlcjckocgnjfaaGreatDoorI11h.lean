/- Steps in memory; IndexFinds: true, whatever the input. -/
import Derived.Test.YtmlcjckocgnjfaaGreatDoorI11g
set_option linter.unusedSimpArgs false
set_option linter.unusedVariables false
namespace Go.Lift
open Go Go.Proofs Go.RowKit
set_option maxRecDepth 100000
theorem encS_len (s : StepI) : (encS s).length = 10 := rfl
theorem encS_one (s : StepI) : ∀ v ∈ encS s, oneCell v = true := by
  intro v hv
  simp only [encS, List.mem_cons, List.not_mem_nil, or_false] at hv
  rcases hv with rfl | rfl | rfl | rfl | rfl | rfl | rfl | rfl | rfl | rfl <;> rfl
theorem zcStep : (zc PP T_liverylaw11_Step).size = 10 := by kernel_rfl
def fairI (xs : List StepI) : Bool := (xs.all fun s => decide (s.v.s.size ≤ 2000) && decide (s.w.s.size ≤ 2000)) && decide (xs.length ≤ 150)
theorem fairI_len {xs : List StepI} (hf : fairI xs = true) : xs.length ≤ 150 := by
  unfold fairI at hf
  simp only [Bool.and_eq_true, decide_eq_true_eq] at hf
  exact hf.2
section
variable {h : Hp} {s : Sl} {xs : List StepI} {i : Nat}
theorem rdSt (hs : Reads 10 encS h s xs) (hi : i < xs.length) : ∃ a, s.a = some a ∧ ∀ k, k < 10 → rd h (Addr.add (Addr.add a (i * 10)) k) = (encS xs[i])[k]? := by
  obtain ⟨a, h1, h2⟩ := hs.rd encS_len hi
  exact ⟨a, h1, fun k hk => by rw [addr_add_add]; exact h2 k hk⟩
theorem atAll (hs : Reads 10 encS h s xs) (hi : i < xs.length) {K : Int → Int → Int → Int → Nat → ByteArray → Int → Int → Nat → ByteArray → Prop}
    (H : K xs[i].kind xs[i].tid xs[i].v.k xs[i].v.n xs[i].v.f xs[i].v.s xs[i].w.k xs[i].w.n xs[i].w.f xs[i].w.s) :
    nilW s.a fun a => ixOk (i : Int) s.n (∃ n24 : Int, rd h (Addr.add (Addr.add a (Int.toNat (i : Int) * 10)) 0) = some (Value.int .i64 n24) ∧ ∃ n25 : Int, rd h (Addr.add (Addr.add a (Int.toNat (i : Int) * 10)) 1) = some (Value.int .i64 n25) ∧ ∃ n26 : Int, rd h (Addr.add (Addr.add a (Int.toNat (i : Int) * 10)) 2) = some (Value.int .i64 n26) ∧ ∃ n27 : Int, rd h (Addr.add (Addr.add a (Int.toNat (i : Int) * 10)) 3) = some (Value.int .i64 n27) ∧ ∃ x28 : Nat, rd h (Addr.add (Addr.add a (Int.toNat (i : Int) * 10)) 4) = some (Value.float .f64 x28) ∧ ∃ s29 : ByteArray, rd h (Addr.add (Addr.add a (Int.toNat (i : Int) * 10)) 5) = some (Value.string s29) ∧ ∃ n30 : Int, rd h (Addr.add (Addr.add a (Int.toNat (i : Int) * 10)) 6) = some (Value.int .i64 n30) ∧ ∃ n31 : Int, rd h (Addr.add (Addr.add a (Int.toNat (i : Int) * 10)) 7) = some (Value.int .i64 n31) ∧ ∃ x32 : Nat, rd h (Addr.add (Addr.add a (Int.toNat (i : Int) * 10)) 8) = some (Value.float .f64 x32) ∧ ∃ s33 : ByteArray, rd h (Addr.add (Addr.add a (Int.toNat (i : Int) * 10)) 9) = some (Value.string s33) ∧ K n24 n25 n26 n27 x28 s29 n30 n31 x32 s33) := by
  have hn := hs.1
  obtain ⟨a, h1, h2⟩ := rdSt hs hi
  rw [h1, nilW_some, Int.toNat_natCast]
  exact ⟨by omega, by omega, _, h2 0 (by decide), _, h2 1 (by decide), _, h2 2 (by decide), _, h2 3 (by decide), _, h2 4 (by decide), _, h2 5 (by decide), _, h2 6 (by decide), _, h2 7 (by decide), _, h2 8 (by decide), _, h2 9 (by decide), H⟩
theorem atKind (hs : Reads 10 encS h s xs) (hi : i < xs.length) {K : Int → Prop} (H : K xs[i].kind) :
    nilW s.a fun a => ixOk (i : Int) s.n (∃ n24 : Int, rd h (Addr.add (Addr.add a (Int.toNat (i : Int) * 10)) 0) = some (Value.int .i64 n24) ∧ K n24) := by
  have hn := hs.1
  obtain ⟨a, h1, h2⟩ := rdSt hs hi
  rw [h1, nilW_some, Int.toNat_natCast]
  exact ⟨by omega, by omega, _, h2 0 (by decide), H⟩
theorem atTid (hs : Reads 10 encS h s xs) (hi : i < xs.length) {K : Int → Prop} (H : K xs[i].tid) :
    nilW s.a fun a => ixOk (i : Int) s.n (∃ n24 : Int, rd h (Addr.add (Addr.add a (Int.toNat (i : Int) * 10)) 1) = some (Value.int .i64 n24) ∧ K n24) := by
  have hn := hs.1
  obtain ⟨a, h1, h2⟩ := rdSt hs hi
  rw [h1, nilW_some, Int.toNat_natCast]
  exact ⟨by omega, by omega, _, h2 1 (by decide), H⟩
theorem atV (hs : Reads 10 encS h s xs) (hi : i < xs.length) {K : Int → Int → Nat → ByteArray → Prop} (H : K xs[i].v.k xs[i].v.n xs[i].v.f xs[i].v.s) :
    nilW s.a fun a => ixOk (i : Int) s.n (∃ n8 : Int, rd h (Addr.add (Addr.add (Addr.add a (Int.toNat (i : Int) * 10)) 2) 0) = some (Value.int .i64 n8) ∧ ∃ n9 : Int, rd h (Addr.add (Addr.add (Addr.add a (Int.toNat (i : Int) * 10)) 2) 1) = some (Value.int .i64 n9) ∧ ∃ x10 : Nat, rd h (Addr.add (Addr.add (Addr.add a (Int.toNat (i : Int) * 10)) 2) 2) = some (Value.float .f64 x10) ∧ ∃ s11 : ByteArray, rd h (Addr.add (Addr.add (Addr.add a (Int.toNat (i : Int) * 10)) 2) 3) = some (Value.string s11) ∧ K n8 n9 x10 s11) := by
  have hn := hs.1
  obtain ⟨a, h1, h2⟩ := rdSt hs hi
  rw [h1, nilW_some, Int.toNat_natCast]
  refine ⟨by omega, by omega, _, ?_, _, ?_, _, ?_, _, ?_, H⟩
  · rw [addr_add_add]; exact h2 2 (by decide)
  · rw [addr_add_add]; exact h2 3 (by decide)
  · rw [addr_add_add]; exact h2 4 (by decide)
  · rw [addr_add_add]; exact h2 5 (by decide)
theorem atW (hs : Reads 10 encS h s xs) (hi : i < xs.length) {K : Int → Int → Nat → ByteArray → Prop} (H : K xs[i].w.k xs[i].w.n xs[i].w.f xs[i].w.s) :
    nilW s.a fun a => ixOk (i : Int) s.n (∃ n8 : Int, rd h (Addr.add (Addr.add (Addr.add a (Int.toNat (i : Int) * 10)) 6) 0) = some (Value.int .i64 n8) ∧ ∃ n9 : Int, rd h (Addr.add (Addr.add (Addr.add a (Int.toNat (i : Int) * 10)) 6) 1) = some (Value.int .i64 n9) ∧ ∃ x10 : Nat, rd h (Addr.add (Addr.add (Addr.add a (Int.toNat (i : Int) * 10)) 6) 2) = some (Value.float .f64 x10) ∧ ∃ s11 : ByteArray, rd h (Addr.add (Addr.add (Addr.add a (Int.toNat (i : Int) * 10)) 6) 3) = some (Value.string s11) ∧ K n8 n9 x10 s11) := by
  have hn := hs.1
  obtain ⟨a, h1, h2⟩ := rdSt hs hi
  rw [h1, nilW_some, Int.toNat_natCast]
  refine ⟨by omega, by omega, _, ?_, _, ?_, _, ?_, _, ?_, H⟩
  · rw [addr_add_add]; exact h2 6 (by decide)
  · rw [addr_add_add]; exact h2 7 (by decide)
  · rw [addr_add_add]; exact h2 8 (by decide)
  · rw [addr_add_add]; exact h2 9 (by decide)
end
section
variable {h : Hp}
/-- A step in a block of its own. -/
theorem keepI {st : StepI} {T : TypeId} {K : Hp → Prop} (H : ∀ g, Ext [] h g → Blk g h.size (encS st).toArray T → K g) :
    wth (Array.push h (Obj.cells #[(Value.int .i64 (0 : Int)), (Value.int .i64 (0 : Int)), (Value.int .i64 (0 : Int)), (Value.int .i64 (0 : Int)), (Value.float .f64 0), (Value.string (ByteArray.mk #[])), (Value.int .i64 (0 : Int)), (Value.int .i64 (0 : Int)), (Value.float .f64 0), (Value.string (ByteArray.mk #[]))] T)) fun h1 =>
    stOk h1 (Addr.mk (Array.size h) 0 none) 10 ∧ wth (wrs h1 (Addr.mk (Array.size h) 0 none) 0 [(Value.int .i64 st.kind), (Value.int .i64 st.tid), (Value.int .i64 st.v.k), (Value.int .i64 st.v.n), (Value.float .f64 st.v.f), (Value.string st.v.s), (Value.int .i64 st.w.k), (Value.int .i64 st.w.n), (Value.float .f64 st.w.f), (Value.string st.w.s)]) K :=
  newI fun h1 s1 b1 e1 => st_blk b1 (by simp) fun g sg bg eg => H g (e1.trans eg fun b hb hlt => by simp at hb; omega) (by
    have : putAt #[(Value.int .i64 (0 : Int)), (Value.int .i64 (0 : Int)), (Value.int .i64 (0 : Int)), (Value.int .i64 (0 : Int)), (Value.float .f64 0), (Value.string (ByteArray.mk #[])), (Value.int .i64 (0 : Int)), (Value.int .i64 (0 : Int)), (Value.float .f64 0), (Value.string (ByteArray.mk #[]))] 0 (encS st) = (encS st).toArray := by
      simp [putAt, encS]
    rw [← this]
    exact bg)
variable {b : Nat} {st : StepI} {T : TypeId}
theorem rdSb (hb : Blk h b (encS st).toArray T) (k : Nat) : rd h (Addr.add (Addr.mk b 0 none) k) = (encS st)[k]? := by
  rw [addr_mk, rd_blk hb]
  simp
theorem rdSv (hb : Blk h b (encS st).toArray T) {K : Int → Int → Nat → ByteArray → Prop} (H : K st.v.k st.v.n st.v.f st.v.s) :
    ∃ n37 : Int, rd h (Addr.add (Addr.add (Addr.mk b 0 none) 2) 0) = some (Value.int .i64 n37) ∧ ∃ n38 : Int, rd h (Addr.add (Addr.add (Addr.mk b 0 none) 2) 1) = some (Value.int .i64 n38) ∧ ∃ x39 : Nat, rd h (Addr.add (Addr.add (Addr.mk b 0 none) 2) 2) = some (Value.float .f64 x39) ∧ ∃ s40 : ByteArray, rd h (Addr.add (Addr.add (Addr.mk b 0 none) 2) 3) = some (Value.string s40) ∧ K n37 n38 x39 s40 :=
  ⟨_, by rw [addr_add_add]; exact rdSb hb 2, _, by rw [addr_add_add]; exact rdSb hb 3, _, by rw [addr_add_add]; exact rdSb hb 4, _, by rw [addr_add_add]; exact rdSb hb 5, H⟩
theorem rdSa (hb : Blk h b (encS st).toArray T) {K : Int → Int → Int → Int → Nat → ByteArray → Int → Int → Nat → ByteArray → Prop}
    (H : K st.kind st.tid st.v.k st.v.n st.v.f st.v.s st.w.k st.w.n st.w.f st.w.s) :
    ∃ n53 : Int, rd h (Addr.add (Addr.mk b 0 none) 0) = some (Value.int .i64 n53) ∧ ∃ n54 : Int, rd h (Addr.add (Addr.mk b 0 none) 1) = some (Value.int .i64 n54) ∧ ∃ n55 : Int, rd h (Addr.add (Addr.mk b 0 none) 2) = some (Value.int .i64 n55) ∧ ∃ n56 : Int, rd h (Addr.add (Addr.mk b 0 none) 3) = some (Value.int .i64 n56) ∧ ∃ x57 : Nat, rd h (Addr.add (Addr.mk b 0 none) 4) = some (Value.float .f64 x57) ∧ ∃ s58 : ByteArray, rd h (Addr.add (Addr.mk b 0 none) 5) = some (Value.string s58) ∧ ∃ n59 : Int, rd h (Addr.add (Addr.mk b 0 none) 6) = some (Value.int .i64 n59) ∧ ∃ n60 : Int, rd h (Addr.add (Addr.mk b 0 none) 7) = some (Value.int .i64 n60) ∧ ∃ x61 : Nat, rd h (Addr.add (Addr.mk b 0 none) 8) = some (Value.float .f64 x61) ∧ ∃ s62 : ByteArray, rd h (Addr.add (Addr.mk b 0 none) 9) = some (Value.string s62) ∧ K n53 n54 n55 n56 x57 s58 n59 n60 x61 s62 :=
  ⟨_, rdSb hb 0, _, rdSb hb 1, _, rdSb hb 2, _, rdSb hb 3, _, rdSb hb 4, _, rdSb hb 5, _, rdSb hb 6, _, rdSb hb 7, _, rdSb hb 8, _, rdSb hb 9, H⟩
end
section
variable {lo n : Nat} {G : Nat → Prop} {h : Hp} {x : Nat} {M : LeafM} {Q : List Value → Hp → Prop}
theorem Lv.growS {G' : Nat → Prop} {h' : Hp} {S : List Nat} (hv : Lv lo G h x M) (he : Ext S h h') (hS : ∀ b ∈ S, b < h.size → G b) (hG : ∀ b, G' b → (G b ∨ h.size ≤ b) ∧ b < h'.size) : Lv lo G' h' x M := by
  obtain ⟨h1, h2, ls, C, hl, h3⟩ := hv
  refine ⟨fun b hb => (hG b hb).2, by have := he.sz; omega, ls, C, hl.extF he (fun b hb hm => h3 b hb (hS b hm (fp_lt hl hb))), fun b hb hg => ?_⟩
  rcases (hG b hg).1 with g | g
  · exact h3 b hb g
  · have := fp_lt hl hb
    omega
theorem Ix.growS {G' : Nat → Prop} {h' : Hp} {S : List Nat} (hx : Ix lo G h x M) (he : Ext S h h') (hS : ∀ b ∈ S, b < h.size → G b) (hG : ∀ b, G' b → (G b ∨ h.size ≤ b) ∧ b < h'.size) : Ix lo G' h' x M := by
  obtain ⟨q, hv, hb, hn, hl⟩ := hx
  have hlt := blk_lt hb
  refine ⟨q, hv.growS he (fun b hb hlt => Or.inl (hS b hb hlt)) fun b hb => ?_, he.get hb (fun hm => hn (hS _ hm hlt)), fun g => ?_, hl⟩
  · rcases hb with g | g
    · have := hG b g
      exact ⟨this.1.imp Or.inl id, this.2⟩
    · have := he.sz
      exact ⟨Or.inl (Or.inr g), by omega⟩
  · rcases (hG x g).1 with g | g
    · exact hn g
    · omega
theorem fair_i {a : Sl} {xs : List StepI} (ha : Reads 10 encS h a xs) (hlen : xs.length ≤ 9223372036854775807) (hQ : ∀ h', Ext [] h h' → Q [.bool (fairI xs)] h') : S_liverylaw11_fair a h Q := by
  refine O_liverylaw11_fair _ ?_
  unfold F_liverylaw11_fair
  have han := ha.1
  intro X hX
  have key : ∀ d i g, d + i = xs.length → Ext [] h g → ((xs.take i).all fun s => decide (s.v.s.size ≤ 2000) && decide (s.w.s.size ≤ 2000)) = true → X [.int .i64 (i : Int)] g := by
    intro d
    induction d with
    | zero =>
      intro i g hi eg hall
      refine hX _ _ ?_
      rw [if_neg (by simp; omega)]
      rw [List.take_of_length_le (by omega)] at hall
      have hq := hQ g eg
      unfold fairI at hq
      rw [hall, Bool.true_and] at hq
      rw [show (decide ((a.n : Int) ≤ 150)) = decide (xs.length ≤ 150) by rw [han]; exact decide_eq_decide.2 (by omega)]
      exact hq
    | succ d ih =>
      intro i g hi eg hall
      refine hX _ _ ?_
      rw [if_pos (by simp; omega)]
      have hil : i < xs.length := by omega
      have hag := ha.ext0 eg
      intro J hJ
      have bad : ∀ g', Ext [] h g' → ¬ (xs[i].v.s.size ≤ 2000 ∧ xs[i].w.s.size ≤ 2000) → J [.bool true] g' := by
        intro g' eg' hb
        refine hJ _ _ ?_
        rw [if_pos rfl]
        have : fairI xs = false := by
          unfold fairI
          rw [show (xs.all fun s => decide (s.v.s.size ≤ 2000) && decide (s.w.s.size ≤ 2000)) = false from by
            rw [List.all_eq_false]
            exact ⟨xs[i], List.getElem_mem _, by simpa using hb⟩]
          rfl
        have hq := hQ g' eg'
        rw [this] at hq
        exact hq
      refine atV hag hil ?_
      refine Large_i xs[i].v fun g2 e2 => ⟨_, rfl, ?_⟩
      have eg2 := eg.trans0 e2
      by_cases h1 : xs[i].v.s.size ≤ 2000
      · rw [if_neg (by simp; omega)]
        refine atW (ha.ext0 eg2) hil ?_
        refine Large_i xs[i].w fun g3 e3 => ⟨_, rfl, ?_⟩
        have eg3 := eg2.trans0 e3
        by_cases h2 : xs[i].w.s.size ≤ 2000
        · rw [show (decide ((xs[i].w.s.size : Int) > 2000)) = false by simp; omega]
          refine hJ _ _ ?_
          rw [if_neg (by decide), wrap64 (by omega) (by omega)]
          refine ih (i + 1) g3 (by omega) eg3 ?_
          rw [List.take_add_one, List.getElem?_eq_getElem hil, Option.toList_some, List.all_append, hall]
          simp [h1, h2]
        · rw [show (decide ((xs[i].w.s.size : Int) > 2000)) = true by simp; omega]
          exact bad g3 eg3 fun g => h2 g.2
      · rw [if_pos (by simp; omega)]
        exact bad g2 eg2 fun g => h1 g.1
  have := key xs.length 0 h (by omega) (Ext.refl _ _) (by simp)
  simpa using this
theorem flt_succ {α : Type} (p : α → Bool) (L : List α) {k : Nat} (hk : k < L.length) : (L.take (k + 1)).filter p = (L.take k).filter p ++ (if p L[k] = true then [L[k]] else []) := by
  rw [List.take_add_one, List.getElem?_eq_getElem hk, Option.toList_some, List.filter_append]
  congr 1
  rw [List.filter_cons]
  simp
end
end Go.Lift

/- Locks: the reference: all of a holder go. -/
import Derived.Test.YtgobalogbijliaaW06t
set_option linter.unusedSimpArgs false
set_option linter.unusedVariables false
namespace Go.Lift
open Go Go.Proofs
set_option maxRecDepth 100000
def goR (n : ByteArray) : List HM → List HM → List HM → List Int → RM × List Int
  | has, pre, [], O => (⟨has, pre⟩, O)
  | has, pre, x :: suf, O => if x.1 ≠ n ∨ barsP has pre x.1 x.2.1 x.2.2 ≠ [] then goR n has (pre ++ [x]) suf O else goR n (has ++ [x]) pre suf (O ++ [x.2.1])
theorem goR_nil (n : ByteArray) (has pre : List HM) (O : List Int) : goR n has pre [] O = (⟨has, pre⟩, O) := rfl
theorem goR_cons (n : ByteArray) (has pre : List HM) (x : HM) (suf : List HM) (O : List Int) : goR n has pre (x :: suf) O = if x.1 ≠ n ∨ barsP has pre x.1 x.2.1 x.2.2 ≠ [] then goR n has (pre ++ [x]) suf O else goR n (has ++ [x]) pre suf (O ++ [x.2.1]) := rfl
def touchL (R : RM) (k : Int) : List ByteArray := (R.has.filter fun x => x.2.1 == k).map Prod.fst ++ (R.queue.filter fun x => x.2.1 == k).map Prod.fst
def stepP (L : List ByteArray) (X : RM × List Int) (n : ByteArray) : RM × List Int := if n ∈ L then goR n X.1.has [] X.1.queue X.2 else X
def releaseP (R : RM) (k : Int) : RM × List Int := (namesP R).foldl (stepP (touchL R k)) (⟨R.has.filter fun x => x.2.1 != k, R.queue.filter fun x => x.2.1 != k⟩, [])
structure RFit (N : Nat) (R : RM) : Prop where
  m1 : ∀ x ∈ R.has, isM x.2.2 = true
  m2 : ∀ x ∈ R.queue, isM x.2.2 = true
  len : R.has.length + R.queue.length ≤ N
theorem goR_fit {N : Nat} (n : ByteArray) : ∀ (suf has pre : List HM) (O : List Int), RFit N ⟨has, pre ++ suf⟩ → RFit N (goR n has pre suf O).1 ∧ (goR n has pre suf O).2.length + (goR n has pre suf O).1.queue.length = O.length + (pre ++ suf).length := by
  intro suf
  induction suf with
  | nil => intro has pre O h; simp only [goR, List.append_nil] at h ⊢; exact ⟨h, trivial⟩
  | cons x suf ih =>
    intro has pre O h
    rw [goR_cons]
    split
    · have := ih has (pre ++ [x]) O (by simpa using h)
      simpa using this
    · have h2 := h.m2
      have h3 := h.len
      simp only [List.length_append, List.length_cons] at h3
      have := ih (has ++ [x]) pre (O ++ [x.2.1]) ⟨fun y hy => ?_, fun y hy => ?_, by simp; omega⟩
      · refine ⟨this.1, ?_⟩
        rw [this.2]; simp; omega
      · rcases List.mem_append.1 hy with hy | hy
        · exact h.m1 y hy
        · simp at hy; subst hy; exact h2 y (by simp)
      · refine h2 y ?_
        simp only [List.mem_append, List.mem_cons] at hy ⊢
        rcases hy with hy | hy
        · exact Or.inl hy
        · exact Or.inr (Or.inr hy)
theorem encH_blk (x : HM) : (encH x).toArray = #[.string x.1, .int .i64 x.2.1, .int .i64 x.2.2] := rfl
theorem filter_snoc {α : Type} (p : α → Bool) {l : List α} {i : Nat} (hi : i < l.length) : (l.take (i + 1)).filter p = if p l[i] then (l.take i).filter p ++ [l[i]] else (l.take i).filter p := by
  have : l.take (i + 1) = l.take i ++ [l[i]] := by rw [List.take_add_one, List.getElem?_eq_getElem hi]; rfl
  rw [this, List.filter_append]
  cases h : p l[i] <;> simp [h]
section
variable {lo : Nat} {h : Hp} {b : Nat} {R : RM} {sh sq : Sl} {Q : List Value → Hp → Prop}
theorem ne_hs : T_liveryref06_held ≠ T_string := by decide
theorem ne_hi : T_liveryref06_held ≠ T_int := by decide
theorem ne_ts : T_liveryref06_Table ≠ T_string := by decide
theorem ne_ti : T_liveryref06_Table ≠ T_int := by decide
theorem own_apart {α β : Type} {T T' : TypeId} {s1 s2 : Nat} {e1 : α → List Value} {e2 : β → List Value} {l1 l2 : Nat} {g g' : Hp} {a c : Sl} {xs : List α} {ys : List β} (ho : Own T s1 e1 l1 g a xs) (hd : Own T' s2 e2 l2 g c ys) (hT : T ≠ T') (he : Ext (sBlk c) g g') : Own T s1 e1 l1 g' a xs :=
  ho.ext he fun ad ha hm => by
    obtain ⟨cs, hb⟩ := own_blk hd hm
    exact ho.other hT _ (mem_sBlk.2 ⟨ad, ha, rfl⟩) _ _ hb
theorem RAt.out {α : Type} {T : TypeId} {s : Nat} {e : α → List Value} {l : Nat} {g g' : Hp} {c : Sl} {ys : List α} (hr : RAt lo g b R sh sq) (hd : Own T s e l g c ys) (h1 : T_liveryref06_held ≠ T) (h2 : T_liveryref06_Table ≠ T) (he : Ext (sBlk c) g g') : RAt lo g' b R sh sq :=
  ⟨he.get hr.blk (fun hm => by obtain ⟨cs, hb⟩ := own_blk hd hm; exact h2 (blk_ty hr.blk hb)), own_apart hr.has hd h1 he, own_apart hr.queue hd h1 he⟩
/-- One name: who is not barred any more. -/
theorem goR_s {g : Hp} {k0 : Nat} (hr : RAt lo g b R sh sq) (hk0 : lo ≤ k0) (hk1 : k0 ≤ g.size) (hfit : RFit (2 ^ 16) R) {n : ByteArray} {l : Sl} {O : List Int} (ho : Own T_int 1 encIL k0 g l O) (hO : O.length + R.queue.length ≤ 2 ^ 17)
    {n76 : Int} {l3 l39 : Sl} {N TT : List ByteArray} {kN kT : Nat} (hN : Own T_string 1 encB kN g l3 N) (hTT : Own T_string 1 encB kT g l39 TT) {i : Nat} (hi : i < N.length) (hi2 : N.length ≤ 2 ^ 20) (hni : N[i] = n) (hn76 : n76 = (i : Int))
    {X74 : List Value → Hp → Prop} (H : ∀ g' sh' sq' l', RAt lo g' b (goR n R.has [] R.queue O).1 sh' sq' → Own T_int 1 encIL k0 g' l' (goR n R.has [] R.queue O).2 → Own T_string 1 encB kN g' l3 N → Own T_string 1 encB kT g' l39 TT → (∀ b' , b' < k0 → b' ≠ b → g'[b']? = g[b']?) → g.size ≤ g'.size →
      X74 [.slice l'.a l'.n l'.c, .int .i64 (IntKind.wrap .i64 (n76 + (1 : Int)))] g') :
    ∀ X89 : List Value → Hp → Prop, (∀ l90 : Sl, ∀ n91 : Int, ∀ h92 : Hp, (∀ J93 : List Value → Hp → Prop, (∀ b94 : Bool, ∀ h95 : Hp, ((if b94 = true then
                                          (nilW (some ⟨b, 0, none⟩) fun a96 => ∃ l97 : Sl, rd h95 (Addr.add a96 1) = some (Value.slice l97.a l97.n l97.c) ∧
                                            nilW l97.a fun a98 => ixOk n91 l97.n (∃ s99 : ByteArray, rd h95 (Addr.add (Addr.add a98 (Int.toNat n91 * 3)) 0) = some (Value.string s99) ∧ ∃ n100 : Int, rd h95 (Addr.add (Addr.add a98 (Int.toNat n91 * 3)) 1) = some (Value.int .i64 n100) ∧ ∃ n101 : Int, rd h95 (Addr.add (Addr.add a98 (Int.toNat n91 * 3)) 2) = some (Value.int .i64 n101) ∧ wth (Array.push h95 (Obj.cells #[(Value.string (ByteArray.mk #[])), (Value.int .i64 (0 : Int)), (Value.int .i64 (0 : Int))] T_liveryref06_held)) fun h102 =>
       stOk h102 (Addr.mk (Array.size h95) 0 none) 3 ∧ wth (wrs h102 (Addr.mk (Array.size h95) 0 none) 0 [(Value.string s99), (Value.int .i64 n100), (Value.int .i64 n101)]) fun h103 =>
       ∀ J104 : List Value → Hp → Prop, (∀ b105 : Bool, ∀ h106 : Hp, ((if b105 = true then
             (X89 [(Value.slice l90.a l90.n l90.c), (Value.int .i64 (IntKind.wrap .i64 (n91 + (1 : Int))))] h106) else
             (nilW (some ⟨b, 0, none⟩) fun a107 => ∃ l108 : Sl, rd h106 (Addr.add a107 1) = some (Value.slice l108.a l108.n l108.c) ∧
               (0 ≤ n91 ∧ n91 ≤ (l108.c : Nat)) ∧ nilW (some ⟨b, 0, none⟩) fun a109 => ∃ l110 : Sl, rd h106 (Addr.add a109 1) = some (Value.slice l110.a l110.n l110.c) ∧
               (0 ≤ (IntKind.wrap .i64 (n91 + (1 : Int))) ∧ (IntKind.wrap .i64 (n91 + (1 : Int))) ≤ (l110.n : Nat)) ∧ wth (Array.push h106 (Obj.cells #[] T_liveryref06_held)) fun h111 =>
               rd h111 (Addr.add a109 1) = some (Value.slice l110.a l110.n l110.c) ∧ rd h111 (Addr.add a107 1) = some (Value.slice l108.a l108.n l108.c) ∧ ∃ cs160 : List Value, cellsAt h111 (slAd l108.a 0 l108.c 3) (((Int.toNat n91) - 0) * 3) cs160 ∧ appS PP T_liveryref06_held 32 3 h111 ⟨(some (Addr.mk (Array.size h106) 0 none)), 0, 0⟩ ((Int.toNat n91) - 0) cs160 fun (l112 : Sl) (h113 : Hp) =>
               rd h113 (Addr.add a109 1) = some (Value.slice l110.a l110.n l110.c) ∧ ∃ cs159 : List Value, cellsAt h113 (slAd l110.a (Int.toNat (IntKind.wrap .i64 (n91 + (1 : Int)))) l110.c 3) ((l110.n - (Int.toNat (IntKind.wrap .i64 (n91 + (1 : Int))))) * 3) cs159 ∧ appS PP T_liveryref06_held 32 3 h113 ⟨l112.a, l112.n, l112.c⟩ (l110.n - (Int.toNat (IntKind.wrap .i64 (n91 + (1 : Int))))) cs159 fun (l114 : Sl) (h115 : Hp) =>
               nilW (some ⟨b, 0, none⟩) fun a116 => stOk h115 (Addr.add a116 1) 1 ∧ wth (wrs h115 (Addr.add a116 1) 0 [(Value.slice l114.a l114.n l114.c)]) fun h117 =>
               ∀ J118 : List Value → Hp → Prop, (∀ h119 : Hp, (∃ n120 : Int, rd h119 (Addr.add (Addr.mk (Array.size h95) 0 none) 1) = some (Value.int .i64 n120) ∧
                   wth (Array.push h119 (Obj.cells #[(Value.int .i64 n120)] T_int)) fun h121 =>
                   ∃ cs124 : List Value, cellsAt h121 (some (Addr.mk (Array.size h119) 0 none)) (1 * 1) cs124 ∧ appS PP T_int 8 1 h121 ⟨l90.a, l90.n, l90.c⟩ 1 cs124 fun (l122 : Sl) (h123 : Hp) =>
                   X89 [(Value.slice l122.a l122.n l122.c), (Value.int .i64 n91)] h123) → J118 [] h119) →
               nilW (some ⟨b, 0, none⟩) fun a125 => ∃ l126 : Sl, rd h117 (Addr.add a125 0) = some (Value.slice l126.a l126.n l126.c) ∧
               ∃ s127 : ByteArray, rd h117 (Addr.add (Addr.mk (Array.size h95) 0 none) 0) = some (Value.string s127) ∧ ∃ n128 : Int, rd h117 (Addr.add (Addr.mk (Array.size h95) 0 none) 1) = some (Value.int .i64 n128) ∧ ∃ n129 : Int, rd h117 (Addr.add (Addr.mk (Array.size h95) 0 none) 2) = some (Value.int .i64 n129) ∧ (wth (Array.push h117 (Obj.cells #[] T_liveryref06_held)) fun h130 =>
                 rd h130 (Addr.add (Addr.mk (Array.size h95) 0 none) 0) = some (Value.string s127) ∧ rd h130 (Addr.add (Addr.mk (Array.size h95) 0 none) 1) = some (Value.int .i64 n128) ∧ rd h130 (Addr.add (Addr.mk (Array.size h95) 0 none) 2) = some (Value.int .i64 n129) ∧ rd h130 (Addr.add a125 0) = some (Value.slice l126.a l126.n l126.c) ∧ (∃ cs139 : List Value, cellsAt h130 l126.a (l126.n * 3) cs139 ∧ appS PP T_liveryref06_held 32 3 h130 ⟨(some (Addr.mk (Array.size h117) 0 none)), 0, 0⟩ l126.n cs139 fun (l131 : Sl) (h132 : Hp) =>
                   rd h132 (Addr.add (Addr.mk (Array.size h95) 0 none) 0) = some (Value.string s127) ∧ rd h132 (Addr.add (Addr.mk (Array.size h95) 0 none) 1) = some (Value.int .i64 n128) ∧ rd h132 (Addr.add (Addr.mk (Array.size h95) 0 none) 2) = some (Value.int .i64 n129) ∧ wth (Array.push h132 (Obj.cells #[(Value.string s127), (Value.int .i64 n128), (Value.int .i64 n129)] T_liveryref06_held)) fun h133 =>
                   ∃ cs138 : List Value, cellsAt h133 (some (Addr.mk (Array.size h132) 0 none)) (1 * 3) cs138 ∧ appS PP T_liveryref06_held 32 3 h133 ⟨l131.a, l131.n, l131.c⟩ 1 cs138 fun (l134 : Sl) (h135 : Hp) =>
                   nilW (some ⟨b, 0, none⟩) fun a136 => stOk h135 (Addr.add a136 0) 1 ∧ wth (wrs h135 (Addr.add a136 0) 0 [(Value.slice l134.a l134.n l134.c)]) fun h137 =>
                   J118 [] h137) ∧
                 (wth (Array.push h130 (Obj.cells #[(Value.string s127), (Value.int .i64 n128), (Value.int .i64 n129)] T_liveryref06_held)) fun h140 =>
                   rd h140 (Addr.add a125 0) = some (Value.slice l126.a l126.n l126.c) ∧ ∃ cs148 : List Value, cellsAt h140 l126.a (l126.n * 3) cs148 ∧ appS PP T_liveryref06_held 32 3 h140 ⟨(some (Addr.mk (Array.size h117) 0 none)), 0, 0⟩ l126.n cs148 fun (l141 : Sl) (h142 : Hp) =>
                   ∃ cs147 : List Value, cellsAt h142 (some (Addr.mk (Array.size h130) 0 none)) (1 * 3) cs147 ∧ appS PP T_liveryref06_held 32 3 h142 ⟨l141.a, l141.n, l141.c⟩ 1 cs147 fun (l143 : Sl) (h144 : Hp) =>
                   nilW (some ⟨b, 0, none⟩) fun a145 => stOk h144 (Addr.add a145 0) 1 ∧ wth (wrs h144 (Addr.add a145 0) 0 [(Value.slice l143.a l143.n l143.c)]) fun h146 =>
                   J118 [] h146)) ∧
               (wth (Array.push h117 (Obj.cells #[(Value.string s127), (Value.int .i64 n128), (Value.int .i64 n129)] T_liveryref06_held)) fun h149 =>
                 rd h149 (Addr.add a125 0) = some (Value.slice l126.a l126.n l126.c) ∧ wth (Array.push h149 (Obj.cells #[] T_liveryref06_held)) fun h150 =>
                 rd h150 (Addr.add a125 0) = some (Value.slice l126.a l126.n l126.c) ∧ ∃ cs158 : List Value, cellsAt h150 l126.a (l126.n * 3) cs158 ∧ appS PP T_liveryref06_held 32 3 h150 ⟨(some (Addr.mk (Array.size h149) 0 none)), 0, 0⟩ l126.n cs158 fun (l151 : Sl) (h152 : Hp) =>
                 ∃ cs157 : List Value, cellsAt h152 (some (Addr.mk (Array.size h117) 0 none)) (1 * 3) cs157 ∧ appS PP T_liveryref06_held 32 3 h152 ⟨l151.a, l151.n, l151.c⟩ 1 cs157 fun (l153 : Sl) (h154 : Hp) =>
                 nilW (some ⟨b, 0, none⟩) fun a155 => stOk h154 (Addr.add a155 0) 1 ∧ wth (wrs h154 (Addr.add a155 0) 0 [(Value.slice l153.a l153.n l153.c)]) fun h156 =>
                 J118 [] h156)))) → J104 [(Value.bool b105)] h106) →
       ∃ s161 : ByteArray, rd h103 (Addr.add (Addr.mk (Array.size h95) 0 none) 0) = some (Value.string s161) ∧
       nilW l3.a fun a162 => ixOk n76 l3.n (∃ s163 : ByteArray, rd h103 (Addr.add a162 (Int.toNat n76 * 1)) = some (Value.string s163) ∧
         (if (!((ByteArray.toList s161) == (ByteArray.toList s163))) = true then (J104 [(Value.bool true)] h103) else
           (∃ s164 : ByteArray, rd h103 (Addr.add (Addr.mk (Array.size h95) 0 none) 0) = some (Value.string s164) ∧ ∃ n165 : Int, rd h103 (Addr.add (Addr.mk (Array.size h95) 0 none) 1) = some (Value.int .i64 n165) ∧ ∃ n166 : Int, rd h103 (Addr.add (Addr.mk (Array.size h95) 0 none) 2) = some (Value.int .i64 n166) ∧ S_liveryref06_Table_bars (some ⟨b, 0, none⟩) s164 n165 n166 n91 h103 fun (vs167 : List Value) (h168 : Hp) =>
             ∃ l169 : Sl, vs167 = [(Value.slice l169.a l169.n l169.c)] ∧
             J104 [(Value.bool (decide ((l169.n : Int) > (0 : Int))))] h168))))) else
                                          (X74 [(Value.slice l90.a l90.n l90.c), (Value.int .i64 (IntKind.wrap .i64 (n76 + (1 : Int))))] h95))) → J93 [(Value.bool b94)] h95) →
                                    (if true = true then (nilW (some ⟨b, 0, none⟩) fun a170 => ∃ l171 : Sl, rd h92 (Addr.add a170 1) = some (Value.slice l171.a l171.n l171.c) ∧
                                        J93 [(Value.bool (decide (n91 < (l171.n : Int))))] h92) else
                                      (J93 [(Value.bool false)] h92))) → X89 [(Value.slice l90.a l90.n l90.c), (Value.int .i64 n91)] h92) →
                                X89 [(Value.slice l.a l.n l.c), (Value.int .i64 (0 : Int))] g := by
  intro X hX
  simp only [if_true, nilW_some] at hX
  have key : ∀ (suf pre has : List HM) g1 l1 O1 sh1 sq1, RAt lo g1 b ⟨has, pre ++ suf⟩ sh1 sq1 → RFit (2 ^ 16) ⟨has, pre ++ suf⟩ → Own T_int 1 encIL k0 g1 l1 O1 → O1.length + (pre ++ suf).length ≤ 2 ^ 17 → Own T_string 1 encB kN g1 l3 N → Own T_string 1 encB kT g1 l39 TT → (∀ b' , b' < k0 → b' ≠ b → g1[b']? = g[b']?) → g.size ≤ g1.size →
      goR n has pre suf O1 = goR n R.has [] R.queue O → X [.slice l1.a l1.n l1.c, .int .i64 (pre.length : Int)] g1 := by
    intro suf
    induction suf with
    | nil =>
      intro pre has g1 l1 O1 sh1 sq1 hr1 hf1 ho1 hO1 hN1 hT1 hk1 hz1 hgo
      refine hX _ _ _ ?_
      intro J hJ
      have hnq := hr1.queue.1
      simp only [List.append_nil] at hnq hr1 hgo
      refine ⟨sq1, by rw [addr_mk, rd_blk hr1.blk]; rfl, hJ _ _ ?_⟩
      rw [if_neg (by simp; omega)]
      rw [goR_nil] at hgo
      have := H g1 sh1 sq1 l1
      rw [← hgo] at this
      exact this hr1 ho1 hN1 hT1 hk1 hz1
    | cons x suf ih =>
      intro pre has g1 l1 O1 sh1 sq1 hr1 hf1 ho1 hO1 hN1 hT1 hk1' hz1 hgo
      refine hX _ _ _ ?_
      intro J hJ
      have hnq := hr1.queue.1
      have hnh := hr1.has.1
      have hlen := hf1.len
      simp only [List.length_append, List.length_cons] at hnq hlen hO1
      refine ⟨sq1, by rw [addr_mk, rd_blk hr1.blk]; rfl, hJ _ _ ?_⟩
      rw [if_pos (by simp; omega)]
      refine ⟨sq1, by rw [addr_mk, rd_blk hr1.blk]; rfl, ?_⟩
      have hil : pre.length < (pre ++ x :: suf).length := by simp
      have hx : (pre ++ x :: suf)[pre.length] = x := by simp
      obtain ⟨a, w1, w2, w3, w4⟩ := rdH hr1.queue.sl.reads hil
      rw [hx] at w2 w3 w4
      rw [w1]
      simp only [nilW_some, Int.toNat_natCast]
      refine ⟨by omega, by omega, _, w2, _, w3, _, w4, ?_⟩
      refine varI rfl rfl fun g2 s2 b2 e2 => ?_
      have hr2 := hr1.ext0 e2
      have hN2 := hN1.ext0 e2
      have hnN := hN2.1
      obtain ⟨r1, r2, r3⟩ := rd3 (x := x) b2
      intro J4 hJ4
      obtain ⟨aN, u1, u2⟩ := rdB hN2.sl.reads hi
      rw [hni] at u2
      -- the two ways on
      have stay : ∀ g3, Ext [] g1 g3 → (x.1 ≠ n ∨ barsP has pre x.1 x.2.1 x.2.2 ≠ []) → J4 [.bool true] g3 := by
        intro g3 e3 hc
        refine hJ4 _ _ ?_
        rw [if_pos rfl, wrap64 (by omega) (by omega)]
        rw [goR_cons] at hgo
        rw [if_pos hc] at hgo
        have hz3 := e3.sz
        have := ih (pre ++ [x]) has g3 l1 O1 sh1 sq1 (by simpa using hr1.ext0 e3) (by simpa using hf1) (ho1.ext0 e3) (by simp; omega) (hN1.ext0 e3) (hT1.ext0 e3) (fun b' h1 h2 => by rw [← hk1' b' h1 h2]; exact e3.old b' (by omega) (by simp)) (by omega) hgo
        simpa using this
      have move : ∀ g3, Ext [] g2 g3 → ¬ (x.1 ≠ n ∨ barsP has pre x.1 x.2.1 x.2.2 ≠ []) → J4 [.bool false] g3 := by
        intro g3 e3 hc
        refine hJ4 _ _ ?_
        rw [if_neg (by decide)]
        rw [goR_cons] at hgo
        rw [if_neg hc] at hgo
        have hr3 := hr2.ext0 e3
        have b3 := e3.get b2 (by simp)
        have z3 := e3.sz
        have hcap := hr3.queue.capN
        rw [wrap64 (by omega) (by omega)]
        refine ⟨sq1, by rw [addr_mk, rd_blk hr3.blk]; rfl, by omega, sq1, by rw [addr_mk, rd_blk hr3.blk]; rfl, by omega, newI fun g4 s4 b4 e4 => ?_⟩
        have hr4 := hr3.ext0 e4
        refine ⟨by rw [addr_mk, rd_blk hr4.blk]; rfl, by rw [addr_mk, rd_blk hr4.blk]; rfl, ?_⟩
        have ht : (pre ++ x :: suf).take pre.length = pre := by simp
        have hd : (pre ++ x :: suf).drop (pre.length + 1) = suf := by simp
        have c1 := takeCN encH_len hr4.queue (c := pre.length) (by simp)
        rw [ht] at c1
        refine clG (lo' := k0) encH_len encH_one zc_held (by decide) c1 (by simp) (by omega) b4 (by omega) fun l5 g5 o5 e5 hb5 => ?_
        have z5 := e5.sz
        have f5 : Ext [] g3 g5 := e4.trans e5 fun b hb hlt => by simp at hb; omega
        have hr5 := hr3.ext0 f5
        refine ⟨by rw [addr_mk, rd_blk hr5.blk]; rfl, ?_⟩
        have c2 := dropCN encH_len hr5.queue (c := pre.length + 1) (by simp)
        rw [hd] at c2
        have hn5 := o5.1
        refine ⟨_, c2, ?_⟩
        have ht1 : Int.toNat ((pre.length : Int) + 1) = pre.length + 1 := by omega
        rw [ht1]
        refine app_own (ys := suf) o5 zc_held encH_len (fun x _ => encH_one x) rfl (by omega) (bytes_le36 (by decide) (by simp only; omega)) (by simp only; omega) (by omega) fun l6 g6 o6 e6 hn6 hb6 => ?_
        have f6 : Ext [] g3 g6 := f5.trans e6 fun b hb hlt => by rcases hb5 b hb with q | q <;> omega
        have hr6 := hr3.ext0 f6
        have b6 := f6.get b3 (by simp)
        refine setQ_s hr6 (o6.mono hk0) fun g7 hr7 e7 z7 => ?_
        have bne : g1.size ≠ b := by have := blk_lt hr1.blk; omega
        have b7 := e7.get b6 (by simpa using bne)
        intro J5 hJ5
        refine ⟨sh1, by rw [addr_mk, rd_blk hr7.blk]; rfl, ?_⟩
        have z6 := f6.sz
        refine putH_s (x := x) (lo := lo) b7 hr7.has (by simp only; omega) (by omega) hr7.blk (o := 0) rfl fun l8 g8 ho8 e8 => ?_
        refine setHs_s (hr7.ext0 e8) ho8 fun g9 hr9 e9 z9 => ?_
        refine hJ5 _ ?_
        have b9 := e9.get (e8.get b7 (by simp)) (by simpa using bne)
        obtain ⟨r1, r2, r3⟩ := rd3 (x := x) b9
        refine ⟨_, r2, ?_⟩
        have z8 := e8.sz
        -- from g1 to g9: block b and new ones alone
        have E19 : Ext [b] g1 g9 := ((((e2.trans0 e3).trans0 f6).mono (by simp)).trans (e7.mono (S' := [b]) (by simp)) (by simp)).trans0 e8 |>.trans e9 (by simp)
        have own9 : ∀ {α : Type} {T : TypeId} {s : Nat} {en : α → List Value} {c : Sl} {ys : List α} {l0 : Nat}, Own T s en l0 g1 c ys → T_liveryref06_Table ≠ T → Own T s en l0 g9 c ys := fun hd hT => hd.ext E19 fun ad ha hm => by
          simp at hm
          exact hd.other (Ne.symm hT) _ (mem_sBlk.2 ⟨ad, ha, rfl⟩) _ _ (hm ▸ hr1.blk)
        have ho9 := own9 ho1 ne_ti
        have hN9 := own9 hN1 ne_ts
        have hT9 := own9 hT1 ne_ts
        have hn1 := ho1.1
        refine app1 ho9 rfl zc_int encIL_len encIL_one (by omega) (by decide) (by omega) fun s10 g10 o10 e10 hb10 => ?_
        have z10 := e10.sz
        have := ih pre (has ++ [x]) g10 s10 (O1 ++ [x.2.1]) l8 l6 (hr9.out ho9 ne_hi ne_ti e10) ⟨fun y hy => ?_, fun y hy => ?_, by simp; omega⟩ o10 (by simp; omega) (own_apart hN9 ho9 (by decide) e10) (own_apart hT9 ho9 (by decide) e10) (fun b' h1 h2 => ?_) (by omega) hgo
        · simpa using this
        · rcases List.mem_append.1 hy with hy | hy
          · exact hf1.m1 y hy
          · simp at hy; subst hy; exact hf1.m2 y (by simp)
        · refine hf1.m2 y ?_
          simp only [List.mem_append, List.mem_cons] at hy ⊢
          rcases hy with hy | hy
          · exact Or.inl hy
          · exact Or.inr (Or.inr hy)
        · have hb9 := own_ltG ho9
          rw [← hk1' b' h1 h2, ← E19.old b' (by omega) (by simpa using h2)]
          exact e10.old b' (by omega) fun hm => by have := hb9 b' hm; omega
      refine ⟨_, r1, ?_⟩
      rw [u1, hn76]
      simp only [nilW_some, Int.toNat_natCast]
      refine ⟨by omega, by omega, _, u2, ?_⟩
      rw [toList_eq_iff]
      by_cases hxn : x.1 = n
      · rw [if_neg (by simp [hxn])]
        refine ⟨_, r1, _, r2, _, r3, ?_⟩
        refine barsR_s hr2 hf1.m1 (by simp only; omega) (by simp; omega) x.1 x.2.1 x.2.2 (p := pre.length) (by simp) fun g3 s3 e3 ho3 => ⟨s3, rfl, ?_⟩
        have ht : (pre ++ x :: suf).take pre.length = pre := by simp
        simp only [ht] at ho3
        have hs3 := ho3.1
        by_cases hb : barsP has pre x.1 x.2.1 x.2.2 = []
        · have : decide ((s3.n : Int) > 0) = false := decide_eq_false (by rw [hs3, hb]; simp)
          rw [this]
          exact move g3 e3 (by rintro (h | h); exact h hxn; exact h hb)
        · have : decide ((s3.n : Int) > 0) = true := decide_eq_true (by have := List.length_pos_iff.2 hb; omega)
          rw [this]
          exact stay g3 (e2.trans0 e3) (Or.inr hb)
      · rw [if_pos (by simp [hxn])]
        exact stay g2 e2 (Or.inl hxn)
  have := key R.queue [] R.has g l O sh sq (by simpa using hr) (by simpa using hfit) ho (by simpa using hO) hN hTT (fun _ _ _ => rfl) (Nat.le_refl _) rfl
  simpa using this
end
end Go.Lift

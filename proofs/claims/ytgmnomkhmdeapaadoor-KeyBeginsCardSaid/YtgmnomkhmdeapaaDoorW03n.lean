/- KeyMakes, KeyReads, KeyBack: true, whatever the input. -/
import Derived.Test.YtgmnomkhmdeapaaDoorW03m
set_option linter.unusedSimpArgs false
set_option linter.unusedVariables false
namespace Go.Lift
open Go Go.Proofs Go.RowKit
set_option maxRecDepth 100000
theorem beq_refl8 (l : List UInt8) : (l == l) = true := by simp
section
variable {h : Hp} {Q : List Value → Hp → Prop}
theorem keep4 {v : V4} {T : TypeId} {K : Hp → Prop} (H : ∀ g, Ext [] h g → Blk g h.size (cells4 v) T → K g) :
    wth (Array.push h (Obj.cells #[(Value.int .i64 (0 : Int)), (Value.int .i64 (0 : Int)), (Value.float .f64 0), (Value.string (ByteArray.mk #[]))] T)) fun h1 =>
    stOk h1 (Addr.mk (Array.size h) 0 none) 4 ∧ wth (wrs h1 (Addr.mk (Array.size h) 0 none) 0 [.int .i64 v.k, .int .i64 v.n, .float .f64 v.f, .string v.s]) K :=
  newI fun h1 s1 b1 e1 => put4 b1 rfl v fun g sg bg eg => H g (e1.trans eg fun b hb hlt => by simp at hb; omega) bg
theorem keep5 {v : V4} {n : Int} {T : TypeId} {K : Hp → Prop} (H : ∀ g, Ext [] h g → Blk g h.size (cells5 v n) T → K g) :
    wth (Array.push h (Obj.cells #[(Value.int .i64 (0 : Int)), (Value.int .i64 (0 : Int)), (Value.float .f64 0), (Value.string (ByteArray.mk #[])), (Value.int .i64 (0 : Int))] T)) fun h1 =>
    stOk h1 (Addr.mk (Array.size h) 0 none) 5 ∧ wth (wrs h1 (Addr.mk (Array.size h) 0 none) 0 [.int .i64 v.k, .int .i64 v.n, .float .f64 v.f, .string v.s, .int .i64 n]) K :=
  newI fun h1 s1 b1 e1 => put5 b1 rfl v n fun g sg bg eg => H g (e1.trans eg fun b hb hlt => by simp at hb; omega) bg
theorem KeyMakes_s (v : V4) (hv : VOk v) (n : Int) (hn : -9223372036854775808 ≤ n ∧ n < 9223372036854775808) (hg : GM h) (hQ : ∀ h', Ext [] h h' → Q [.bool true] h') : F_liverylaw03_KeyMakes v.k v.n v.f v.s n h Q := by
  unfold F_liverylaw03_KeyMakes
  refine newI fun h1 s1 b1' e1 => ?_
  have b1 : Blk h1 h.size (cells4 v) T_api_Value := b1'
  refine rdV b1 ?_
  refine Large_s v fun h7 e7 => ⟨_, rfl, ?_⟩
  have e07 := e1.trans0 e7
  by_cases hL : ((v.s.size : Int) > 2000)
  · rw [if_pos (by simpa using hL)]
    exact wakes_s (hg.ext e07) fun h' e => ⟨_, rfl, hQ h' (e07.trans0 e)⟩
  · rw [if_neg (by simpa using hL)]
    have b7 := e7.get b1 (by simp)
    refine rdV b7 ?_
    refine Of_s v hv (hg.ext e07) fun h17 e17 => ⟨_, _, rfl, ?_⟩
    have e017 := e07.trans0 e17
    have b17 := e17.get b7 (by simp)
    refine rdV b17 ?_
    refine OfR_s v hv fun h25 e25 => ⟨_, _, rfl, ?_⟩
    have e025 := e017.trans0 e25
    have b25 := e25.get b17 (by simp)
    refine rdV b25 ?_
    refine Entry_s v hv (hg.ext e025) n fun h33 e33 => ⟨_, _, rfl, ?_⟩
    have e033 := e025.trans0 e33
    have b33 := e33.get b25 (by simp)
    refine rdV b33 ?_
    refine EntryR_s v hv n hn fun h41 e41 => ⟨_, _, rfl, ?_⟩
    have e041 := e033.trans0 e41
    have b41 := e41.get b33 (by simp)
    intro J hJ
    rw [if_neg (by simp), if_neg (by simp), if_neg (by simp)]
    have hb : ((entryP v n).2 != (entryP v n).2) = false := by simp
    rw [hb]
    refine hJ _ _ ?_
    rw [if_neg (by decide)]
    refine rdV b41 ?_
    refine Least_s v hv (hg.ext e041) fun h52 e52 => ⟨_, _, rfl, ?_⟩
    have e052 := e041.trans0 e52
    have b52 := e52.get b41 (by simp)
    refine rdV b52 ?_
    refine LeastR_s v hv fun h60 e60 => ⟨_, _, rfl, ?_⟩
    have e060 := e052.trans0 e60
    have b60 := e60.get b52 (by simp)
    refine rdV b60 ?_
    refine After_s v hv (hg.ext e060) fun h68 e68 => ⟨_, _, rfl, ?_⟩
    have e068 := e060.trans0 e68
    have b68 := e68.get b60 (by simp)
    refine rdV b68 ?_
    refine AfterR_s v hv fun h76 e76 => ⟨_, _, rfl, ?_⟩
    have e076 := e068.trans0 e76
    rw [if_pos (by simp), if_pos (by simp), if_pos (by simp), if_pos (by simp)]
    exact wakes_s (hg.ext e076) fun h' e => ⟨_, rfl, hQ h' (e076.trans0 e)⟩
theorem KeyReads_s (l : List UInt8) (hg : GM h) (hQ : ∀ h', Ext [] h h' → Q [.bool true] h') : F_liverylaw03_KeyReads (ofBtl l) h Q := by
  unfold F_liverylaw03_KeyReads
  rw [ofBtl_size]
  by_cases hL : ((l.length : Int) > 4000)
  · rw [if_pos (by simpa using hL)]
    exact wakes_s hg fun h' e => ⟨_, rfl, hQ h' e⟩
  · rw [if_neg (by simpa using hL)]
    have h40 : l.length ≤ 2 ^ 40 := by omega
    have h30 : l.length ≤ 2 ^ 30 := by omega
    refine Value_s l h40 fun h5 e5 => ⟨_, _, _, _, _, rfl, ?_⟩
    refine keep4 (v := (valP l).1) fun h12 e12 b12 => ?_
    refine ValueR_s l h30 fun h14 e14 => ⟨_, _, _, _, _, rfl, ?_⟩
    refine keep4 (v := (valP l).1) fun h21 e21 b21 => ?_
    refine Split_s l h40 fun h23 e23 => ⟨_, _, _, _, _, _, rfl, ?_⟩
    refine keep4 (v := (splitP l).1) fun h31 e31 b31 => ?_
    refine SplitR_s l h30 fun h33 e33 => ⟨_, _, _, _, _, _, rfl, ?_⟩
    refine keep5 (v := (splitP l).1) (n := (splitP l).2.1) fun h41 e41 b41 => ?_
    have c12 := e41.get (e33.get (e31.get (e23.get (e21.get (e14.get b12 (by simp)) (by simp)) (by simp)) (by simp)) (by simp)) (by simp)
    have c21 := e41.get (e33.get (e31.get (e23.get b21 (by simp)) (by simp)) (by simp)) (by simp)
    have c31 := e41.get (e33.get b31 (by simp)) (by simp)
    have e041 : Ext [] h h41 := (((((((e5.trans0 e12).trans0 e14).trans0 e21).trans0 e23).trans0 e31).trans0 e33).trans0 e41)
    refine rdV c12 ?_
    refine rdV c21 ?_
    refine Keep_s (valP l).1 fun h51 e51 => ⟨_, rfl, ?_⟩
    rw [if_pos rfl, if_pos (by simp)]
    have d31 := e51.get c31 (by simp)
    have d41 := e51.get b41 (by simp)
    refine rdV d31 ?_
    obtain ⟨r0, r1, r2, r3, r4⟩ := rd5R d41
    refine ⟨_, by rw [addr_add0]; exact r0, _, by rw [addr_add0]; exact r1, _, by rw [addr_add0]; exact r2, _, by rw [addr_add0]; exact r3, ?_⟩
    refine Keep_s (splitP l).1 fun h62 e62 => ⟨_, rfl, ?_⟩
    rw [if_pos rfl]
    refine ⟨_, (rd5R (e62.get d41 (by simp))).2.2.2.2, ?_⟩
    rw [if_pos (by simp), if_pos (by simp)]
    have e062 := (e041.trans0 e51).trans0 e62
    exact wakes_s (hg.ext e062) fun h' e => ⟨_, rfl, hQ h' (e062.trans0 e)⟩
theorem KeyBack_s (v : V4) (hv : VOk v) (n : Nat) (hn : n ≤ 65535) (l : List UInt8) (hg : GM h) (hQ : ∀ h', Ext [] h h' → Q [.bool true] h') : F_liverylaw03_KeyBack v.k v.n v.f v.s (n : Int) (ofBtl l) h Q := by
  unfold F_liverylaw03_KeyBack
  refine newI fun h1 s1 b1' e1 => ?_
  have b1 : Blk h1 h.size (cells4 v) T_api_Value := b1'
  intro J hJ
  have wk : ∀ g, Ext [] h g → J [.bool true] g := fun g eg => by
    refine hJ _ _ ?_
    rw [if_pos rfl]
    exact wakes_s (hg.ext eg) fun h' e => ⟨_, rfl, hQ h' (eg.trans0 e)⟩
  refine rdV b1 ?_
  refine Large_s v fun h7 e7 => ⟨_, rfl, ?_⟩
  have e07 := e1.trans0 e7
  by_cases hL : ((v.s.size : Int) > 2000)
  · rw [if_pos (by simpa using hL)]
    exact wk h7 e07
  · rw [if_neg (by simpa using hL), ofBtl_size]
    by_cases hL2 : ((l.length : Int) > 4000)
    · rw [decide_eq_true hL2]
      exact wk h7 e07
    · rw [decide_eq_false hL2]
      refine hJ _ _ ?_
      rw [if_neg (by decide)]
      have h40 : l.length ≤ 2 ^ 40 := by omega
      have b7 := e7.get b1 (by simp)
      refine rdV b7 ?_
      rw [wrap64 (by omega) (by omega)]
      refine Entry_s v hv (hg.ext e07) n fun h13 e13 => ⟨_, _, rfl, ?_⟩
      have e013 := e07.trans0 e13
      have b13 := e13.get b7 (by simp)
      intro K hK
      have kk : ∀ g, Ext [] h g → K [] g := fun g eg => by
        refine hK _ ?_
        refine Value_s l h40 fun h19 e19 => ⟨_, _, _, _, _, rfl, ?_⟩
        refine keep4 (v := (valP l).1) fun h26 e26 b26 => ?_
        have e026 := (eg.trans0 e19).trans0 e26
        have hcase : valP l = (zV, 11) ∨ ∃ w : V4, firstL l = some (w, []) ∧ valP l = (w, 0) := by
          unfold valP
          cases hf : firstL l with
          | none => exact Or.inl rfl
          | some p =>
            simp only
            by_cases hr : p.2.length = 0
            · rw [if_pos hr]
              have hp : p.2 = [] := List.length_eq_zero_iff.1 hr
              exact Or.inr ⟨p.1, by rw [← hp], rfl⟩
            · rw [if_neg hr]
              exact Or.inl rfl
        rcases hcase with hc | ⟨w, hf, hc⟩
        · rw [hc] at b26 ⊢
          rw [if_pos (by decide)]
          intro L hL
          rw [if_pos (by decide)]
          refine ⟨_, (rd4V b26).1, ?_⟩
          rw [if_pos (by rfl)]
          refine wakes_s (hg.ext e026) fun h' e => ⟨_, rfl, hL _ _ (hQ h' (e026.trans0 e))⟩
        · rw [hc] at b26 ⊢
          rw [if_neg (by simp)]
          refine rdV b26 ?_
          have hgw := firstL_good hf
          have hl := firstL_enc hf
          rw [List.append_nil] at hl
          refine Of_s w (firstL_ok hf) (hg.ext e026) fun h39 e39 => ⟨_, _, rfl, ?_⟩
          rw [ofP_good hgw, if_pos (by simp), if_pos (by rw [tl_ofBtl, tl_ofBtl, ← hl]; simp)]
          have e039 := e026.trans0 e39
          exact wakes_s (hg.ext e039) fun h' e => ⟨_, rfl, hQ h' (e039.trans0 e)⟩
      cases hgd : goodX v with
      | false =>
        have en : entryP v n = (sE, 11) := by unfold entryP; rw [if_neg (by simp [hgd])]
        rw [en, if_neg (by decide)]
        exact kk h13 e013
      | true =>
        rw [entryP_good hgd hn, if_pos (by rfl)]
        have hel := encX_len hgd
        refine Split_s (encX v ++ beL 2 n) (by rw [List.length_append, beL_len]; omega) fun h46 e46 => ?_
        rw [splitP_of hv hgd hn]
        refine ⟨_, _, _, _, _, _, rfl, ?_⟩
        refine keep4 (v := v) fun h54 e54 b54 => ?_
        have e054 := (e013.trans0 e46).trans0 e54
        intro L hL
        rw [if_neg (by simp), if_neg (by simp)]
        refine rdV (e54.get (e46.get b13 (by simp)) (by simp)) ?_
        refine rdV b54 ?_
        refine Keep_s v fun h67 e67 => ⟨_, rfl, ?_⟩
        refine hL _ _ ?_
        rw [if_neg (by simp)]
        exact kk h67 (e054.trans0 e67)
end
end Go.Lift

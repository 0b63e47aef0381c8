/- Names: who did something that one does not see; may one do something. -/
import Derived.Test.YtogondadohdcoaaW12d
import Derived.Test.YtogondadohdcoaaW12j
set_option linter.unusedSimpArgs false
set_option linter.unusedVariables false
namespace Go.Lift
open Go Go.Proofs Go.RowKit Go.Shelf
set_option maxRecDepth 100000
theorem metN_nd {l : List Int} {w : Int} (h : l.Nodup) : (metN l w).Nodup ∧ (metN l w).length ≤ l.length + 1 := by
  unfold metN
  split
  · exact ⟨h, by omega⟩
  · rename_i hw
    refine ⟨List.nodup_append.2 ⟨h, by simp, ?_⟩, by simp⟩
    intro a ha b hb e
    simp only [List.mem_singleton] at hb
    subst hb
    subst e
    exact hw ha
theorem metV_nd {L : LM} {x : Int} {l : List Int} {v : VM} (h : l.Nodup) : (metV L x l v).Nodup ∧ (metV L x l v).length ≤ l.length + 2 := by
  unfold metV
  simp only [List.foldl_cons, List.foldl_nil]
  have h1 := metN_nd (w := v.xmin) h
  have h2 := metN_nd (w := v.xmax) h
  have h3 := metN_nd (w := v.xmax) h1.1
  split <;> split
  · exact ⟨h3.1, by omega⟩
  · exact ⟨h2.1, by omega⟩
  · exact ⟨h1.1, by omega⟩
  · exact ⟨h, by omega⟩
theorem foldV_nd {L : LM} {x : Int} : ∀ (vs : List VM) (l : List Int), l.Nodup → (vs.foldl (metV L x) l).Nodup ∧ (vs.foldl (metV L x) l).length ≤ l.length + 2 * vs.length
  | [], l, h => ⟨h, by simp⟩
  | v :: vs, l, h => by
    have h1 := metV_nd (L := L) (x := x) (v := v) h
    have h2 := foldV_nd (L := L) (x := x) vs (metV L x l v) h1.1
    rw [List.foldl_cons]
    exact ⟨h2.1, by simp only [List.length_cons]; omega⟩
section
variable {h h' : Hp} {cb t mb : Nat} {C : NC} {L : LM} {Q : List Value → Hp → Prop}
theorem Unseen_s (hC : ClAt h cb L) (hN : NmS h t mb C) (x : Int) (k : ByteArray) (hl : (lC C k).length ≤ 2 ^ 20)
    (hQ : ∀ h' s, Ext [] h h' → Own T_int 1 encIL h.size h' s (unseenN L (mN C) x k) → Q [.slice s.a s.n s.c] h') : S_name_Names_Unseen (some ⟨t, 0, none⟩) (some ⟨cb, 0, none⟩) x k h Q := by
  refine O_name_Names_Unseen _ _ _ _ ?_
  unfold F_name_Names_Unseen
  rw [if_neg (by simp)]
  refine newI fun h1 s1 b1 e1 => ?_
  simp only [nilW_some]
  have hN1 := hN.ext0 e1
  obtain ⟨es, m1, m2, m3⟩ := hN1.has k
  refine ⟨some mb, hN1.ptr, es, m1, m2, _, m3, ?_⟩
  have hr := (hN.own k).sl.reads
  unfold unseenN at hQ
  rw [← lC_m] at hQ
  generalize lC C k = l at hr hQ hl
  generalize slC C k = s at hr
  have hrn := hr.1
  intro X hX
  have key : ∀ d i g (T : List (Int × Int)), d + i = l.length → Ext [] h g → IsMap encI encI g h.size T → T.map Prod.fst = metsV L x ((l.take i).map VW.m) → X [.int .i64 (i : Int)] g := by
    intro d
    induction d with
    | zero =>
      intro i g T hi eg hT ha
      refine hX _ _ ?_
      rw [if_neg (by simp; omega)]
      rw [List.take_of_length_le (by omega)] at ha
      have hnd := foldV_nd (L := L) (x := x) (l.map VW.m) [] (by simp)
      have hkn : (T.map Prod.fst).Nodup := by rw [ha]; exact hnd.1
      have hlen : T.length ≤ 2 * l.length := by
        have := hnd.2
        unfold metsV at ha
        rw [← ha] at this
        simpa using this
      refine SortedI hT (by omega) hkn fun h' s' e o => ?_
      rw [ha] at o
      exact hQ h' s' (eg.trans0 e) (o.mono (by have := eg.sz; omega))
    | succ d ih =>
      intro i g T hi eg hT ha
      refine hX _ _ ?_
      rw [if_pos (by simp; omega)]
      obtain ⟨a, u1, u2⟩ := rdV (hr.ext0 eg) (i := i) (by omega)
      rw [u1]
      simp only [nilW_some, Int.toNat_natCast]
      refine ⟨by omega, by omega, u2 _ ?_⟩
      have hd : l.take (i + 1) = l.take i ++ [l[i]'(by omega)] := by rw [List.take_add_one, List.getElem?_eq_getElem (by omega)]; rfl
      generalize l[i]'(by omega) = v at hd
      refine newI fun g1 s1 b1 e1 => ?_
      refine st_blk b1 (by simp) fun g2 s2 b2 e2 => ?_
      have hTl := hT.lt
      have eg2 : Ext [] h g2 := (eg.trans0 e1).trans e2 fun b hb hlt => by have := eg.sz; simp at hb; omega
      have hT2 : IsMap encI encI g2 h.size T := (hT.ext e1 (by simp)).ext e2 (by simp; omega)
      refine ⟨v.xmin, by simp [rd_blk b2], v.xmax, by simp [rd_blk b2], ?_⟩
      intro Y hY
      have stepW : ∀ (j : Nat) (w : Int) (g3 : Hp) (T3 : List (Int × Int)), j < 2 → (#[(Value.int .i64 v.xmin), (Value.int .i64 v.xmax)] : Array Value)[j]? = some (.int .i64 w) → Ext [] h g3 → IsMap encI encI g3 h.size T3 →
          (∀ g4 T4, Ext [] h g4 → IsMap encI encI g4 h.size T4 → T4.map Prod.fst = (if whoP L x w = true then metN (T3.map Prod.fst) w else T3.map Prod.fst) → Y [.int .i64 ((j + 1 : Nat) : Int)] g4) → Y [.int .i64 (j : Int)] g3 := by
        intro j w g3 T3 hj hw e3 hT3 next
        refine hY _ _ ?_
        rw [if_pos (by simp; omega)]
        intro J hJ
        simp only [Int.toNat_natCast, Nat.mul_one]
        refine ⟨by omega, by omega, w, hw, ?_⟩
        intro K hK
        have hJ' : ∀ g4, Y [.int .i64 ((j + 1 : Nat) : Int)] g4 → J [] g4 := fun g4 hy => by
          refine hJ g4 ?_
          rw [wrap64 (by omega) (by omega)]
          simpa using hy
        have keyK : ∀ g4, Ext [] h g4 → IsMap encI encI g4 h.size T3 → K [.bool (whoP L x w)] g4 := by
          intro g4 e4 hT4
          refine hK _ _ ?_
          by_cases hp : whoP L x w = true
          · rw [if_pos hp]
            obtain ⟨es4, c1, c2⟩ := hT4.mapAt
            obtain ⟨es5, c, d1, d2, d3⟩ := hT4.put w (IntKind.wrap .i64 ((afind T3 w).getD 0 + 1))
            refine ⟨es4, c1, keysLike_ents (ek := encI) c2 w, (afind T3 w).getD 0, ?_, h.size, es5, c, rfl, d1, d2, ?_⟩
            · rw [mgetD_ents (ek := encI) c2 w]
              cases afind T3 w <;> rfl
            · refine setI d1 fun g5 s5 k5 e5 => hJ' g5 (next g5 _ (e4.trans e5 fun b hb hlt => by simp at hb; omega) (d3 g5 k5) ?_)
              rw [if_pos hp, keys_aput]
              rfl
          · rw [if_neg hp]
            refine hJ' g4 (next g4 T3 e4 hT4 ?_)
            rw [if_neg hp]
        by_cases h0 : w = 0
        · rw [if_neg (by simp [h0])]
          have := keyK g3 e3 hT3
          have hw0 : whoP L x w = false := by unfold whoP; simp [h0]
          rw [hw0] at this
          exact this
        · rw [if_pos (by simp [h0])]
          refine State_s (hC.ext0 e3) w fun g4 e4 => ⟨_, rfl, ?_⟩
          have e34 := e3.trans0 e4
          have hT4 := hT3.ext e4 (by simp)
          by_cases h3 : (txL L w).state = 3
          · rw [if_neg (by simp [h3])]
            have := keyK g4 e34 hT4
            have hw0 : whoP L x w = false := by unfold whoP; simp [h3]
            rw [hw0] at this
            exact this
          · rw [if_pos (by simp [h3])]
            refine Sees_s (hC.ext0 e34) x w ⟨_, rfl, ?_⟩
            have := keyK g4 e34 hT4
            have hw0 : whoP L x w = !seesL L x w := by unfold whoP; simp [h0, h3]
            rw [hw0] at this
            exact this
      refine stepW 0 v.xmin g2 T (by omega) rfl eg2 hT2 fun g3 T3 e3 hT3 k3 => ?_
      refine stepW 1 v.xmax g3 T3 (by omega) rfl e3 hT3 fun g4 T4 e4 hT4 k4 => ?_
      refine hY _ _ ?_
      rw [if_neg (by decide), wrap64 (by omega) (by omega)]
      have := ih (i + 1) g4 T4 (by omega) e4 hT4 (by
        rw [hd, List.map_append]
        unfold metsV at ha ⊢
        rw [List.foldl_append, ← ha, k4, k3]
        rfl)
      simpa using this
  exact key l.length 0 h1 [] (by omega) e1 ⟨#[], 0, b1, rfl, Born.nil 0⟩ (by simp [metsV])
end
end Go.Lift

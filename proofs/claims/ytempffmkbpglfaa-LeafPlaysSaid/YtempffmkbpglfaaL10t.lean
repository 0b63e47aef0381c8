/- Leaves in order: Range. -/
import Derived.Test.YtempffmkbpglfaaL10r
set_option linter.unusedSimpArgs false
set_option linter.unusedVariables false
namespace Go.Lift
open Go Go.Proofs
set_option maxRecDepth 100000
def inR (a b : ByteArray) (s : ByteArray) : Bool := !sLt s a && (b.toList == [] || sLt s b)
def lastL (l : List OneM) (b : ByteArray) : Nat := if b.toList == [] then l.length - 1 else atL l b
def emptyR (a b : ByteArray) : Bool := !(b.toList == []) && (sLt b a || b.toList == a.toList)
def partL (l : List OneM) (a b : ByteArray) : List OneM := (l.take (lastL l b + 1)).drop (atL l a)
def LeafM.rng (M : LeafM) (a b : ByteArray) : List ByteArray × List Int :=
  if emptyR a b = true then ([], []) else (((partL M.l a b).flatMap OneM.keys).filter (inR a b), (partL M.l a b).map OneM.n)
theorem tw_mono {α : Type} {p q : α → Bool} (hpq : ∀ x, p x = true → q x = true) : ∀ l : List α, (l.takeWhile p).length ≤ (l.takeWhile q).length
  | [] => by simp
  | a :: l => by
    cases hp : p a with
    | false => simp [List.takeWhile_cons, hp]
    | true => simp [List.takeWhile_cons, hp, hpq a hp, tw_mono hpq l]
theorem gtB_iff {a b : ByteArray} : gtB a b = true ↔ sLt b a = true := by
  have : gtB a b = !(sLt a b || a.toList == b.toList) := rfl
  rw [this]
  rcases sLt_total a b with h | h | h
  · subst h; simp [sLt_irrefl]
  · simp [h, sLt_asymm h]
  · have hne : a.toList ≠ b.toList := by intro e; rw [toList_inj e, sLt_irrefl] at h; cases h
    simp [h, sLt_asymm h, hne]
theorem atL_mono {l : List OneM} {a b : ByteArray} (h : sLt b a = false) : atL l a ≤ atL l b := by
  refine tw_mono (fun o ho => ?_) _
  rw [Bool.not_eq_true', ← Bool.not_eq_true, gtB_iff] at ho ⊢
  intro h2
  apply ho
  rcases sLt_total a b with e | e | e
  · subst e; exact h2
  · exact sLt_trans e h2
  · rw [h] at e; cases e
section
variable {lo : Nat} {h : Hp} {x : Nat} {M : LeafM} {ls : Sl} {C : List OneC} {Q : List Value → Hp → Prop}
theorem emptyB : (ByteArray.mk #[]).toList = [] := by rw [ByteArray.toList_eq]
theorem Range10_s (hl : LeafAt lo h x M ls C) (a b : ByteArray) (hne : M.l ≠ []) (hlen : M.l.length < 2 ^ 20) (hord : ∀ o ∈ M.l, o.keys.length ≤ 2 ^ 10)
    (hQ : ∀ h' sk sn, Ext [] h h' → Own T_string 1 encB h.size h' sk (M.rng a b).1 → Own T_int 1 encIL h.size h' sn (M.rng a b).2 → Q [.slice sk.a sk.n sk.c, .slice sn.a sn.n sn.c] h') : S_leaf_Leaves_Range (some ⟨x, 0, none⟩) a b h Q := by
  refine O_leaf_Leaves_Range _ _ _ ?_
  unfold F_leaf_Leaves_Range
  rw [emptyB]
  intro J hJ
  rw [if_neg (by simp)]
  have hlt := atL_lt hne a
  have hlt2 := atL_lt hne b
  obtain ⟨n1, n2⟩ := lens hl
  have empty : emptyR a b = true → J [.bool true] h := by
    intro he
    refine hJ _ _ ?_
    rw [if_pos rfl]
    unfold LeafM.rng at hQ
    rw [if_pos he] at hQ
    exact hQ h ⟨none, 0, 0⟩ ⟨none, 0, 0⟩ (Ext.refl _ _) (Own.nil _ _) (Own.nil _ _)
  have full : emptyR a b = false → J [.bool false] h := by
    intro he
    refine hJ _ _ ?_
    rw [if_neg (by decide)]
    simp only [nilW_some, addr_mk, rd_blk hl.blk]
    refine ⟨ls, rfl, ?_⟩
    intro J6 hJ6
    unfold LeafM.rng at hQ
    rw [if_neg (by rw [he]; decide)] at hQ
    have main : ∀ last : Nat, last = lastL M.l b → atL M.l a ≤ last → last < C.length → J6 [.int .i64 (last : Int)] h := by
      intro last hla hal hlc
      refine hJ6 _ _ ?_
      simp only [nilW_some, addr_mk, rd_blk hl.blk]
      refine ⟨ls, rfl, ?_⟩
      refine at_s hl a (by omega) ⟨_, rfl, by simp [rd_blk hl.blk], ?_⟩
      rw [wrap64 (x := (last : Int) + 1) (by omega) (by omega)]
      have hcap : ls.n ≤ ls.c := by
        obtain ⟨a', w1, _⟩ := rdP hl (i := last) hlc
        obtain ⟨_, _, _, _, _, h4', _, h7'⟩ := ownV_open (hl.ptrs.toV encP_len) (by rw [w1]; simp)
        omega
      refine ⟨by omega, ?_⟩
      intro X hX
      have e1 : Int.toNat ((last : Int) + 1) = last + 1 := by omega
      simp only [e1, Int.toNat_natCast] at hX
      have key : ∀ d i g sk sn, d + i = last + 1 - atL M.l a → Ext [] h g → Own T_string 1 encB h.size g sk (((M.l.drop (atL M.l a)).take i).flatMap OneM.keys |>.filter (inR a b)) → Own T_int 1 encIL h.size g sn (((M.l.drop (atL M.l a)).take i).map OneM.n) →
          X [.slice sk.a sk.n sk.c, .slice sn.a sn.n sn.c, .int .i64 (i : Int)] g := by
        intro d
        induction d with
        | zero =>
          intro i g sk sn hi hE ok on
          refine hX sk sn _ _ ?_
          rw [if_neg (by simp; omega)]
          have hpart : (M.l.drop (atL M.l a)).take i = partL M.l a b := by
            unfold partL
            rw [List.drop_take, ← hla]
            congr 1
            omega
          rw [hpart] at ok on
          exact hQ g sk sn hE ok on
        | succ d ih =>
          intro i g sk sn hi hE ok on
          refine hX sk sn _ _ ?_
          rw [if_pos (by simp; omega)]
          have hlg := hl.ext0 hE
          have hjC : atL M.l a + i < C.length := by omega
          obtain ⟨bb, oo, w1, w2⟩ := hlg.ptrs.sl.rd encP_len (i := atL M.l a + i) (by simpa using hjC)
          have w3 := w2 0 (by omega)
          obtain ⟨a2, v1, v2⟩ : ∃ a', slAd ls.a (atL M.l a) ls.c 1 = some a' ∧ rd g (Addr.add a' (i * 1)) = some (.pointer (some ⟨(C[atL M.l a + i]).b, 0, none⟩)) := by
            unfold slAd
            rw [if_neg (by omega), w1]
            refine ⟨_, rfl, ?_⟩
            simp only [addr_mk]
            simp only [List.getElem_map] at w3
            rw [show oo + atL M.l a * 1 + i * 1 = oo + (atL M.l a + i) * 1 + 0 by omega]
            exact w3
          rw [v1]
          simp only [nilW_some, Int.toNat_natCast]
          refine ⟨by omega, by omega, _, v2, ?_⟩
          have hc := hlg.ones (C[atL M.l a + i]'hjC) (List.getElem_mem _)
          obtain ⟨hi2, hm⟩ := mod_at hl hjC
          simp only [nilW_some, addr_mk, rd_blk hc.blk]
          refine ⟨_, rfl, ?_⟩
          have hz := hE.sz
          have hdl : i < (M.l.drop (atL M.l a)).length := by simp; omega
          have hdg : (M.l.drop (atL M.l a))[i] = M.l[atL M.l a + i] := by simp
          have hti : (M.l.drop (atL M.l a)).take (i + 1) = (M.l.drop (atL M.l a)).take i ++ [M.l[atL M.l a + i]] := by
            rw [List.take_add_one, List.getElem?_eq_getElem hdl, Option.toList_some, hdg]
          refine app1 (x := (C[atL M.l a + i]'hjC).m.n) on rfl zcInt encIL_len encIL_one (by simp; omega) (by decide) hz fun sn' g1 on' he1 hb1 => ?_
          have hE1 : Ext [] h g1 := hE.trans he1 fun b hb hlt => by have := on.blk b hb; omega
          have hc1 : OneAt lo g1 (C[atL M.l a + i]'hjC) := ⟨hE1.get (hl.ones _ (List.getElem_mem _)).blk (by simp), hc.le, (hl.ones _ (List.getElem_mem _)).keys.ext0 hE1⟩
          simp only [rd_blk hc1.blk]
          refine ⟨(C[atL M.l a + i]'hjC).ks, rfl, ?_⟩
          have hkn := hc1.keys.1
          rw [hm] at hkn on'
          have ok1 : Own T_string 1 encB h.size g1 sk (((M.l.drop (atL M.l a)).take i).flatMap OneM.keys |>.filter (inR a b)) := ok.extT he1 (on.other (by decide))
          have hordi := hord _ (List.getElem_mem hi2)
          have hbig : ((((M.l.drop (atL M.l a)).take i).flatMap OneM.keys).filter (inR a b)).length ≤ 2 ^ 30 := by
            refine Nat.le_trans (List.length_filter_le _ _) ?_
            have : ∀ l : List OneM, (∀ o ∈ l, o.keys.length ≤ 2 ^ 10) → (l.flatMap OneM.keys).length ≤ l.length * 2 ^ 10 := by
              intro l
              induction l with
              | nil => intro _; simp
              | cons o l ih2 =>
                intro h2
                have h3 := ih2 fun o' ho' => h2 o' (List.mem_cons_of_mem _ ho')
                have h4 := h2 o (by simp)
                rw [List.flatMap_cons, List.length_append, List.length_cons, Nat.add_mul]
                omega
            have h2 := this ((M.l.drop (atL M.l a)).take i) (fun o ho => hord o (List.mem_of_mem_drop (List.mem_of_mem_take ho)))
            have h3 : ((M.l.drop (atL M.l a)).take i).length ≤ 2 ^ 20 := by simp; omega
            have := Nat.mul_le_mul_right (2 ^ 10) h3
            omega
          intro Z hZ
          have inner : ∀ d' j g' sk', d' + j = (M.l[atL M.l a + i]).keys.length → Ext [] h g' → Own T_int 1 encIL h.size g' sn' (((M.l.drop (atL M.l a)).take i).map OneM.n ++ [(M.l[atL M.l a + i]).n]) →
              Own T_string 1 encB h.size g' sk' ((((M.l.drop (atL M.l a)).take i).flatMap OneM.keys |>.filter (inR a b)) ++ ((M.l[atL M.l a + i]).keys.take j).filter (inR a b)) → Z [.slice sk'.a sk'.n sk'.c, .int .i64 (j : Int)] g' := by
            intro d'
            induction d' with
            | zero =>
              intro j g' sk' hj hE' on2 ok2
              refine hZ sk' _ _ ?_
              rw [if_neg (by simp; omega)]
              rw [wrap64 (by omega) (by omega)]
              have := ih (i + 1) g' sk' sn' (by omega) hE' (by
                rw [hti, List.flatMap_append, List.filter_append]
                rw [List.take_of_length_le (l := (M.l[atL M.l a + i]).keys) (by omega)] at ok2
                simpa using ok2) (by
                rw [hti, List.map_append]
                exact on2)
              simpa using this
            | succ d' ih' =>
              intro j g' sk' hj hE' on2 ok2
              refine hZ sk' _ _ ?_
              rw [if_pos (by simp; omega)]
              intro J2 hJ2
              have hjl : j < (M.l[atL M.l a + i]).keys.length := by omega
              have hkr := ((hl.ones _ (List.getElem_mem hjC)).keys.ext0 hE').sl.reads
              rw [hm] at hkr
              obtain ⟨ak, u1, u2⟩ := rdB hkr (i := j) hjl
              rw [u1]
              simp only [nilW_some, Int.toNat_natCast]
              refine ⟨by omega, by omega, _, u2, ?_⟩
              have htj : (M.l[atL M.l a + i]).keys.take (j + 1) = (M.l[atL M.l a + i]).keys.take j ++ [(M.l[atL M.l a + i]).keys[j]] := by
                rw [List.take_add_one, List.getElem?_eq_getElem hjl, Option.toList_some]
              intro J3 hJ3
              have go : ∀ v, v = inR a b (M.l[atL M.l a + i]).keys[j] → J3 [.bool v] g' := by
                intro v hv
                refine hJ3 _ _ ?_
                cases hb : inR a b (M.l[atL M.l a + i]).keys[j] with
                | true =>
                  rw [hv, hb, if_pos rfl]
                  refine app1 (x := (M.l[atL M.l a + i]).keys[j]) ok2 rfl zc_str encB_len encB_one (by
                    have h5 := List.length_filter_le (inR a b) ((M.l[atL M.l a + i]).keys.take j)
                    rw [List.length_append]
                    have h6 : ((M.l[atL M.l a + i]).keys.take j).length ≤ 2 ^ 10 := by simp; omega
                    omega) (by decide) hE'.sz fun sk2 g2 ok3 he3 hb3 => ?_
                  refine hJ2 _ _ ?_
                  have hE2 : Ext [] h g2 := hE'.trans he3 fun b hb hlt => by have := ok2.blk b hb; omega
                  rw [wrap64 (by omega) (by omega)]
                  have := ih' (j + 1) g2 sk2 (by omega) hE2 (on2.extT he3 (ok2.other (by decide))) (by
                    rw [htj, List.filter_append, ← List.append_assoc]
                    simpa [hb] using ok3)
                  simpa using this
                | false =>
                  rw [hv, hb, if_neg (by decide)]
                  refine hJ2 _ _ ?_
                  rw [wrap64 (by omega) (by omega)]
                  have := ih' (j + 1) g' sk' (by omega) hE' on2 (by
                    rw [htj, List.filter_append]
                    simpa [hb] using ok2)
                  simpa using this
              have hs1 : Op.bytesLess (M.l[atL M.l a + i]).keys[j].toList a.toList = sLt (M.l[atL M.l a + i]).keys[j] a := rfl
              have hs2 : Op.bytesLess (M.l[atL M.l a + i]).keys[j].toList b.toList = sLt (M.l[atL M.l a + i]).keys[j] b := rfl
              rw [hs1, hs2]
              unfold inR at go
              cases q1 : sLt (M.l[atL M.l a + i]).keys[j] a with
              | true =>
                rw [if_neg (by decide)]
                exact go _ (by rw [q1]; rfl)
              | false =>
                rw [if_pos (by decide)]
                cases q2 : b.toList == [] with
                | true =>
                  rw [if_pos rfl]
                  exact go _ (by rw [q1, q2]; rfl)
                | false =>
                  rw [if_neg (by decide)]
                  exact go _ (by rw [q1, q2]; rfl)
          have := inner _ 0 g1 sk (by omega) hE1 on' (by simpa using ok1)
          simpa using this
      have := key (last + 1 - atL M.l a) 0 h ⟨none, 0, 0⟩ ⟨none, 0, 0⟩ (by omega) (Ext.refl _ _) (by simpa using Own.nil _ _) (by simpa using Own.nil _ _)
      simpa using this
    cases hb0 : b.toList == [] with
    | true =>
      rw [if_neg (by decide)]
      rw [wrap64 (by omega) (by omega)]
      have e3 : ((ls.n : Int) - 1) = ((M.l.length - 1 : Nat) : Int) := by omega
      rw [e3]
      exact main _ (by unfold lastL; rw [hb0, if_pos rfl]) (by omega) (by omega)
    | false =>
      rw [if_pos (by decide)]
      refine at_s hl b (by omega) ⟨_, rfl, ?_⟩
      refine main _ (by unfold lastL; rw [hb0, if_neg (by decide)]) (atL_mono ?_) (by omega)
      unfold emptyR at he
      rw [hb0] at he
      cases h4 : sLt b a with
      | false => rfl
      | true => rw [h4] at he; cases he
  unfold emptyR at empty full
  cases hb0 : b.toList == [] with
  | true =>
    rw [if_neg (by decide)]
    exact full (by rw [hb0]; rfl)
  | false =>
    rw [if_pos (by decide)]
    have hs : (Op.bytesLess b.toList a.toList || b.toList == a.toList) = (sLt b a || b.toList == a.toList) := rfl
    rw [hs]
    cases h4 : (sLt b a || b.toList == a.toList) with
    | true => exact empty (by rw [hb0, h4]; rfl)
    | false => exact full (by rw [hb0, h4]; rfl)
end
end Go.Lift

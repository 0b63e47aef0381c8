/- Keys are read, by the reference. -/
import Derived.Test.YtgmnomkhmdeapaaDoorW03i
set_option linter.unusedSimpArgs false
set_option linter.unusedVariables false
namespace Go.Lift
open Go Go.Proofs Go.RowKit
set_option maxRecDepth 100000
def cells5 (v : V4) (n : Int) : Array Value := #[.int .i64 v.k, .int .i64 v.n, .float .f64 v.f, .string v.s, .int .i64 n]
def agg5 (v : V4) (n : Int) : Value := .agg (cells5 v n)
def encB (c : UInt8) : List Value := [.int .u8 (c.toNat : Int)]
theorem encB_len (c : UInt8) : (encB c).length = 1 := rfl
def readT (l : List UInt8) : V4 × Nat := match textL l with | none => (zV, 0) | some p => (⟨0, 0, 0, ofBtl p.1⟩, l.length - p.2.length)
def readL (l : List UInt8) : V4 × Nat := match firstL l with | none => (zV, 0) | some p => (p.1, l.length - p.2.length)
section
variable {h : Hp} {Q : List Value → Hp → Prop}
theorem rd5R {b : Nat} {v : V4} {n : Int} {T : TypeId} (hb : Blk h b (cells5 v n) T) : rd h (Addr.add (Addr.mk b 0 none) 0) = some (.int .i64 v.k) ∧ rd h (Addr.add (Addr.mk b 0 none) 1) = some (.int .i64 v.n) ∧ rd h (Addr.add (Addr.mk b 0 none) 2) = some (.float .f64 v.f) ∧ rd h (Addr.add (Addr.mk b 0 none) 3) = some (.string v.s) ∧ rd h (Addr.add (Addr.mk b 0 none) 4) = some (.int .i64 n) := by
  have r : ∀ i, rd h (Addr.add (Addr.mk b 0 none) i) = (cells5 v n)[i]? := fun i => by rw [addr_mk, rd_blk hb, Nat.zero_add]
  exact ⟨r 0, r 1, r 2, r 3, r 4⟩
theorem put5 {b : Nat} {c : Array Value} {T : TypeId} (hb : Blk h b c T) (hc : c.size = 5) (v : V4) (n : Int) {K : Hp → Prop} (H : ∀ g, g.size = h.size → Blk g b (cells5 v n) T → Ext [b] h g → K g) :
    stOk h (Addr.mk b 0 none) 5 ∧ wth (wrs h (Addr.mk b 0 none) 0 [.int .i64 v.k, .int .i64 v.n, .float .f64 v.f, .string v.s, .int .i64 n]) K := by
  refine st_blk hb (by omega) fun g s bg e => H g s ?_ e
  have : putAt c 0 [.int .i64 v.k, .int .i64 v.n, .float .f64 v.f, .string v.s, .int .i64 n] = cells5 v n := by
    obtain ⟨l⟩ := c
    simp only [List.size_toArray] at hc
    obtain ⟨x, y, z, w, u, rfl⟩ := list5 hc
    simp [cells5]
  rwa [this] at bg
theorem outR {b : Nat} {c : Array Value} {T : TypeId} (hb : Blk h b c T) (hc : c.size = 5) (v : V4) (n : Int) {K : Int → Int → Nat → ByteArray → Int → Hp → Prop} (H : ∀ g, Ext [b] h g → K v.k v.n v.f v.s n g) :
    stOk h (Addr.mk b 0 none) 5 ∧ wth (wrs h (Addr.mk b 0 none) 0 [.int .i64 v.k, .int .i64 v.n, .float .f64 v.f, .string v.s, .int .i64 n]) fun g =>
    ∃ n3 : Int, rd g (Addr.add (Addr.mk b 0 none) 0) = some (.int .i64 n3) ∧ ∃ n4 : Int, rd g (Addr.add (Addr.mk b 0 none) 1) = some (.int .i64 n4) ∧ ∃ x5 : Nat, rd g (Addr.add (Addr.mk b 0 none) 2) = some (.float .f64 x5) ∧ ∃ s6 : ByteArray, rd g (Addr.add (Addr.mk b 0 none) 3) = some (.string s6) ∧ ∃ n7 : Int, rd g (Addr.add (Addr.mk b 0 none) 4) = some (.int .i64 n7) ∧ K n3 n4 x5 s6 n7 g :=
  put5 hb hc v n fun g _ bg e => by
    obtain ⟨r0, r1, r2, r3, r4⟩ := rd5R bg
    exact ⟨_, r0, _, r1, _, r2, _, r3, _, r4, H g e⟩
theorem NumberR_s (l : List UInt8) (h8 : l.length ≤ 8) (hQ : Q [.int .u64 (numL l : Nat)] h) : S_liveryref02_Number (ofBtl l) h Q := by
  refine O_liveryref02_Number _ ?_
  unfold F_liveryref02_Number
  intro X hX
  have key : ∀ d i, d + i = l.length → X [.int .u64 (numL (l.take i) : Nat), .int .i64 (i : Int)] h := by
    intro d
    induction d with
    | zero =>
      intro i hi
      refine hX _ _ _ ?_
      rw [if_neg (by rw [ofBtl_size]; simp; omega), List.take_of_length_le (by omega)]
      exact hQ
    | succ d ih =>
      intro i hi
      refine hX _ _ _ ?_
      rw [if_pos (by rw [ofBtl_size]; simp; omega)]
      have hil : i < l.length := by omega
      refine ⟨by omega, by rw [ofBtl_size]; omega, ?_⟩
      have hn := numL_lt (l.take i)
      rw [List.length_take, Nat.min_eq_left (by omega)] at hn
      have h7 : 256 ^ i ≤ 256 ^ 7 := Nat.pow_le_pow_right (by decide) (by omega)
      have hc := (l[i]).toNat_lt
      rw [strIxL hil, wrapU64 (x := ((numL (l.take i) : Nat) : Int) * 256) (by omega) (by omega), wrapU64 (x := ((l[i]).toNat : Int)) (by omega) (by omega), wrapU64 (by omega) (by omega), wrap64 (by omega) (by omega)]
      have e : ((numL (l.take i) : Nat) : Int) * 256 + ((l[i]).toNat : Int) = ((numL (l.take (i + 1)) : Nat) : Int) := by rw [numL_take hil]; omega
      rw [e]
      exact ih (i + 1) (by omega)
  exact key l.length 0 (by omega)
theorem ownB {lo : Nat} {s : Sl} {a : List UInt8} (ho : Own T_uint8 1 encB lo h s a) : bytesAt h s.a s.n (ofBtl a) := by
  have hs := ho.sl.reads
  have hn := hs.1
  cases hsa : s.a with
  | none =>
    have := hs.2.1 hsa
    subst this
    rfl
  | some ad =>
    refine ⟨by rw [ofBtl_size, hn], fun i hi => ?_⟩
    obtain ⟨ad2, h1, h2⟩ := hs.rd encB_len (i := i) (by omega)
    rw [hsa] at h1
    cases h1
    have := h2 0 (by decide)
    rw [Nat.mul_one, Nat.add_zero] at this
    rw [this]
    have e : (ofBtl a).data.toList.getD i 0 = a[i]'(by omega) := getD_of (by
      show (btl (ofBtl a))[i]? = _
      rw [btl_ofBtl]
      exact List.getElem?_eq_getElem (by omega))
    rw [e]
    rfl
theorem textR_s (l : List UInt8) (hl : l.length ≤ 2 ^ 30) (hQ : ∀ h', Ext [] h h' → Q [agg5 (readT l).1 ((readT l).2 : Nat)] h') : S_liveryref03_text (ofBtl l) h Q := by
  refine O_liveryref03_text _ ?_
  unfold F_liveryref03_text
  refine newI fun h1 s1 b1 e1 => ?_
  intro X hX
  have key : ∀ (n : Nat) (i : Nat) (a : List UInt8) (sl : Sl) (g : Hp), l.length - i ≤ n → i ≤ l.length → a.length ≤ i → Ext [] h g → Blk g h.size (cells5 zV 0) T_liveryref02_Read →
      Own T_uint8 1 encB (h.size + 1) g sl a → (textL (l.drop i)).map (fun p => (a ++ p.1, p.2)) = textL l → X [.slice sl.a sl.n sl.c, .int .i64 (i : Int)] g := by
    intro n
    induction n with
    | zero =>
      intro i a sl g hn hi ha eg bg ho he
      refine hX _ _ _ ?_
      have : i = l.length := by omega
      subst this
      rw [if_neg (by rw [ofBtl_size]; simp)]
      refine outR bg rfl zV 0 fun g2 e => ?_
      have := hQ g2 (eg.trans e fun b hb hlt => by simp at hb; omega)
      unfold readT at this
      rw [← he, List.drop_length] at this
      exact this
    | succ n ih =>
      intro i a sl g hn hi ha eg bg ho he
      refine hX _ _ _ ?_
      have none_ : textL (l.drop i) = none → ∀ g2, Ext [] h g2 → Q [agg5 zV 0] g2 := by
        intro hno g2 e2
        have := hQ g2 e2
        unfold readT at this
        rw [← he, hno] at this
        exact this
      by_cases hil : i < l.length
      · rw [if_pos (by rw [ofBtl_size]; simp; omega)]
        intro J hJ
        have hd : l.drop i = l[i] :: l.drop (i + 1) := List.drop_eq_getElem_cons hil
        have hic : ((l.drop i).length) = l.length - i := List.length_drop
        refine ⟨by omega, by rw [ofBtl_size]; omega, ?_⟩
        have hsz : h.size < g.size := blk_lt bg
        have next : ∀ (j : Nat) (b : UInt8) (s2 : Sl) (g2 : Hp), i ≤ j → j < l.length → (textL (l.drop (j + 1))).map (fun p => (a ++ [b] ++ p.1, p.2)) = textL l →
            Own T_uint8 1 encB (h.size + 1) g2 s2 (a ++ [b]) → Ext (sBlk sl) g g2 → J [.slice s2.a s2.n s2.c, .int .i64 (j : Int)] g2 := by
          intro j b s2 g2 hij hjl he2 ho2 e2
          refine hJ _ _ _ ?_
          rw [wrap64 (by omega) (by omega)]
          have hb : ∀ x ∈ sBlk sl, h.size + 1 ≤ x := ho.blk
          exact ih (j + 1) (a ++ [b]) s2 g2 (by omega) (by omega) (by simp; omega) (eg.trans e2 fun x hx hlt => by have := hb x hx; omega) (e2.get bg fun hx => by have := hb _ hx; omega) ho2 he2
        have w1 : IntKind.wrap .i64 ((i : Int) + 1) = ((i + 1 : Nat) : Int) := by rw [wrap64 (by omega) (by omega)]; rfl
        have w2 : IntKind.wrap .i64 ((i : Int) + 2) = ((i + 2 : Nat) : Int) := by rw [wrap64 (by omega) (by omega)]; rfl
        rw [strIxL hil]
        by_cases hc : l[i] = 0
        · rw [if_neg (by rw [hc]; decide), w1]
          by_cases hend : i + 1 = l.length
          · rw [if_pos (by rw [ofBtl_size, hend]; simp)]
            refine outR bg rfl zV 0 fun g2 e => ?_
            refine none_ ?_ g2 (eg.trans e fun b hb hlt => by simp at hb; omega)
            rw [hd, hend, List.drop_length]
            rfl
          · rw [if_neg (by rw [ofBtl_size]; simp; omega)]
            have hil2 : i + 1 < l.length := by omega
            have hd2 : l.drop (i + 1) = l[i + 1] :: l.drop (i + 2) := List.drop_eq_getElem_cons hil2
            have ht : textL (l.drop i) = if l[i + 1] = 1 then some ([], l.drop (i + 2)) else if l[i + 1] = 255 then (textL (l.drop (i + 2))).map fun p => (0 :: p.1, p.2) else none := by
              rw [hd, hd2, hc, textL, if_pos rfl]
            refine ⟨by omega, by rw [ofBtl_size]; omega, ?_⟩
            rw [strIxL hil2]
            by_cases d1 : l[i + 1] = 1
            · rw [if_pos (by rw [d1]; rfl), w2]
              refine ⟨ofBtl a, ownB ho, ?_⟩
              refine outR bg rfl ⟨0, 0, 0, ofBtl a⟩ ((i + 2 : Nat) : Int) fun g2 e => ?_
              have := hQ g2 (eg.trans e fun b hb hlt => by simp at hb; omega)
              unfold readT at this
              rw [← he, ht, if_pos d1] at this
              simp only [Option.map_some, List.append_nil, List.length_drop] at this
              have e2 : l.length - (l.length - (i + 2)) = i + 2 := by omega
              rw [e2] at this
              exact this
            · rw [if_neg (by
                simp only [beq_iff_eq]
                intro e
                refine d1 (UInt8.toNat_inj.1 ?_)
                show _ = 1
                omega)]
              refine ⟨by omega, by rw [ofBtl_size]; omega, ?_⟩
              by_cases d2 : l[i + 1] = 255
              · rw [if_neg (by rw [d2]; decide)]
                refine app1 (x := 0) ho rfl (by kernel_rfl) encB_len (fun x v hv => by simp [encB] at hv; subst hv; rfl) (by omega) (by decide) (by omega) fun s2 g2 ho2 e2 _ => ?_
                refine next (i + 1) 0 s2 g2 (by omega) (by omega) ?_ ho2 e2
                rw [← he, ht, if_neg d1, if_pos d2, Option.map_map]
                congr 1
                funext q
                simp
              · rw [if_pos (by
                  simp only [bne_iff_ne, ne_eq]
                  intro e
                  refine d2 (UInt8.toNat_inj.1 ?_)
                  show _ = 255
                  omega)]
                refine outR bg rfl zV 0 fun g2 e => ?_
                refine none_ ?_ g2 (eg.trans e fun b hb hlt => by simp at hb; omega)
                rw [ht, if_neg d1, if_neg d2]
        · rw [if_pos (by
            simp only [bne_iff_ne, ne_eq]
            intro e
            refine hc (UInt8.toNat_inj.1 ?_)
            show _ = 0
            omega)]
          refine ⟨by omega, by rw [ofBtl_size]; omega, ?_⟩
          refine app1 (x := l[i]) ho rfl (by kernel_rfl) encB_len (fun x v hv => by simp [encB] at hv; subst hv; rfl) (by omega) (by decide) (by omega) fun s2 g2 ho2 e2 _ => ?_
          refine next i l[i] s2 g2 (by omega) (by omega) ?_ ho2 e2
          rw [← he, hd, textL_ne hc, Option.map_map]
          congr 1
          funext q
          simp
      · have : i = l.length := by omega
        subst this
        rw [if_neg (by rw [ofBtl_size]; simp)]
        refine outR bg rfl zV 0 fun g2 e => ?_
        exact none_ (by rw [List.drop_length]; rfl) g2 (eg.trans e fun b hb hlt => by simp at hb; omega)
  refine key l.length 0 [] ⟨none, 0, 0⟩ h1 (by omega) (by omega) (by simp) e1 b1 ⟨rfl, fun _ => ⟨rfl, rfl⟩, fun a ha => by cases ha⟩ ?_
  rw [List.drop_zero]
  simp
end
end Go.Lift

/- Keys are made: by the program, by the reference. -/
import Derived.Test.YtgmnomkhmdeapaaDoorW03d
set_option linter.unusedSimpArgs false
set_option linter.unusedVariables false
namespace Go.Lift
open Go Go.Proofs Go.RowKit
set_option maxRecDepth 100000
theorem btl_app (s t : ByteArray) : btl (s ++ t) = btl s ++ btl t := by unfold btl; rw [ByteArray.data_append, Array.toList_append]
theorem ofBtl_app (a b : List UInt8) : ofBtl a ++ ofBtl b = ofBtl (a ++ b) := btl_inj (by rw [btl_app, btl_ofBtl, btl_ofBtl, btl_ofBtl])
theorem ofBtl_size (l : List UInt8) : (ofBtl l).size = l.length := by unfold ofBtl; show l.toArray.size = l.length; simp
theorem size_btl (s : ByteArray) : s.size = (btl s).length := by unfold btl; rw [Array.length_toList]; rfl
def uN (n : Int) : Nat := (n + 9223372036854775808).toNat
def payL (v : V4) : List UInt8 :=
  if v.k = 1 then [UInt8.ofNat v.n.toNat] else if v.k = 2 then beL 8 (uN v.n) else if v.k = 3 then beL 8 (bitsF v.f) else if v.k = 4 then escL (btl v.s) ++ endL2 else []
def encX (v : V4) : List UInt8 := UInt8.ofNat v.k.toNat :: payL v
structure VOk (v : V4) : Prop where
  f : v.f < allD
  n : -9223372036854775808 ≤ v.n ∧ v.n < 9223372036854775808
def ofP (v : V4) : ByteArray × Int := if goodX v = true then (ofBtl (encX v), 0) else (sE, 11)
def entryP (v : V4) (n : Int) : ByteArray × Int := if goodX v = true then (if n < 0 ∨ n > 65535 then (sE, 1) else (ofBtl (encX v ++ beL 2 n.toNat), 0)) else (sE, 11)
def afterP (v : V4) : ByteArray × Int := if goodX v = true then (ofBtl (encX v ++ beL 2 65535 ++ [0]), 0) else (sE, 11)
theorem good_k {v : V4} (h : goodX v = true) : 0 ≤ v.k ∧ v.k ≤ 4 := by
  unfold goodX goodV at h
  by_cases h0 : v.k = 0
  · omega
  by_cases h1 : v.k = 1
  · omega
  by_cases h2 : v.k = 2
  · omega
  by_cases h3 : v.k = 3
  · omega
  by_cases h4 : v.k = 4
  · omega
  simp [h0, h1, h2, h3, h4] at h
theorem escL_len (l : List UInt8) : (escL l).length ≤ 2 * l.length := by
  induction l with
  | nil => simp [escL]
  | cons c l ih =>
    rw [escL_cons, List.length_append, List.length_cons]
    split <;> simp <;> omega
theorem good_s {v : V4} (h : goodX v = true) (h4 : v.k = 4) : v.s.size ≤ 256 := by
  unfold goodX goodV at h
  simp [h4] at h
  omega
theorem good_n {v : V4} (h : goodX v = true) (h1 : v.k = 1) : v.n = 0 ∨ v.n = 1 := by
  unfold goodX goodV at h
  simp [h1] at h
  exact h.2
theorem payL_len {v : V4} (h : goodX v = true) : (payL v).length ≤ 600 := by
  unfold payL
  split
  · simp
  split
  · rw [beL_len]; omega
  split
  · rw [beL_len]; omega
  split
  · rename_i h4
    have := escL_len (btl v.s)
    have h2 := good_s h h4
    rw [size_btl] at h2
    rw [List.length_append]
    show _ + 2 ≤ _
    omega
  · simp
theorem encX_len {v : V4} (h : goodX v = true) : (encX v).length ≤ 601 := by
  have := payL_len h
  unfold encX
  rw [List.length_cons]
  omega
section
variable {h : Hp} {Q : List Value → Hp → Prop}
theorem bytesI {b : Nat} {cs : Array Value} {T : TypeId} {l : List UInt8} {n : Nat} (hb : Blk h b cs T) (hc : ∀ i (hi : i < l.length), cs[i]? = some (.int .u8 (l[i].toNat : Int))) (hn : n = l.length) : bytesAt h (some ⟨b, 0, none⟩) n (ofBtl l) := by
  refine ⟨by rw [ofBtl_size, hn], fun i hi => ?_⟩
  rw [addr_mk, rd_blk hb, Nat.zero_add, hc i (by omega)]
  have : (ofBtl l).data.toList.getD i 0 = l[i]'(by omega) := getD_of (by simp [ofBtl])
  rw [this]
theorem u8_nat {n : Nat} (hn : n < 256) : ((UInt8.ofNat n).toNat : Int) = n := by
  rw [UInt8.toNat_ofNat']
  omega
theorem loop8 {X : List Value → Hp → Prop} (n : Nat) (I : Nat → Hp → Prop) (hend : ∀ g, I n g → X [.int .i64 (n : Int)] g)
    (hstep : ∀ i g, i < n → I i g → (∀ g', I (i + 1) g' → X [.int .i64 ((i + 1 : Nat) : Int)] g') → X [.int .i64 (i : Int)] g) (g : Hp) (h0 : I 0 g) : X [.int .i64 (0 : Int)] g := by
  have key : ∀ d i g, d + i = n → I i g → X [.int .i64 (i : Int)] g := by
    intro d
    induction d with
    | zero =>
      intro i g hi hI
      have : i = n := by omega
      subst this
      exact hend g hI
    | succ d ih =>
      intro i g hi hI
      exact hstep i g (by omega) hI fun g' hI' => ih (i + 1) g' (by omega) hI'
  exact key n 0 g (by omega) h0
theorem pow_shift : ∀ i, i < 8 → (2 : Nat) ^ (56 - 8 * i) = 256 ^ (8 - 1 - i) := by decide
theorem beL8 {u : Nat} {i : Nat} (hi : i < (beL 8 u).length) : (((beL 8 u)[i]).toNat : Int) = ((u / 256 ^ (8 - 1 - i) % 256 : Nat) : Int) := by
  have h8 : i < 8 := by rw [beL_len] at hi; exact hi
  have := beL_get 8 u i h8
  rw [List.getElem?_eq_getElem hi] at this
  rw [Option.some.inj this]
  exact u8_nat (Nat.mod_lt _ (by decide))
theorem cells8 : (mkCells (zc PP T_uint8) (Int.toNat (8 : Int) * 1)).size = 8 := by kernel_rfl
theorem eight_s (u : Nat) (hQ : ∀ h', Ext [] h h' → Q [.string (ofBtl (beL 8 u))] h') : S_key_eight (u : Int) h Q := by
  refine O_key_eight _ ?_
  unfold F_key_eight
  refine ⟨by decide, newI fun h1 s1 b1 e1 => ?_⟩
  intro X hX
  refine loop8 8 (fun i g => Ext [] h g ∧ ∃ c, Blk g h.size c T_uint8 ∧ c.size = 8 ∧ ∀ j, j < i → c[j]? = some (.int .u8 ((u / 256 ^ (8 - 1 - j) % 256 : Nat) : Int))) ?_ ?_ h1 ⟨e1, _, b1, cells8, fun j hj => by omega⟩
  · rintro g ⟨eg, c, hb, hc, hj⟩
    refine hX _ _ ?_
    rw [if_neg (by decide)]
    refine ⟨ofBtl (beL 8 u), bytesI hb (fun i hi => ?_) (by rw [beL_len]; rfl), hQ g eg⟩
    rw [hj i (by rw [beL_len] at hi; exact hi), beL8 hi]
  · rintro i g hi ⟨eg, c, hb, hc, hj⟩ next
    refine hX _ _ ?_
    rw [if_pos (by simp; omega)]
    have w1 : IntKind.wrap .i64 ((8 : Int) * (i : Int)) = 8 * (i : Int) := wrap64 (by omega) (by omega)
    have w2 : IntKind.wrap .i64 ((56 : Int) - 8 * (i : Int)) = ((56 - 8 * i : Nat) : Int) := by rw [wrap64 (by omega) (by omega)]; omega
    rw [w1, w2, shr_u u _ (by omega), pow_shift i hi, wrapU8]
    refine ⟨by omega, ?_⟩
    simp only [nilW_some, Int.toNat_natCast, addr_mk, Nat.zero_add, Nat.mul_one]
    refine ⟨by omega, by show (i : Int) < ((Int.toNat 8 : Nat) : Int); omega, ?_⟩
    refine st_blk hb (by omega) fun g2 s2 b2 e2 => ?_
    rw [wrap64 (by omega) (by omega)]
    have := next g2 ⟨eg.trans e2 fun b hb hlt => by simp at hb; omega, _, b2, by rw [putAt_size]; exact hc, fun j hj2 => ?_⟩
    · simpa using this
    · rw [putAt_get0 _ _ _ _ (by simp; omega)]
      by_cases e : j = i
      · subst e
        rw [if_pos (by simp)]
        simp
      · rw [if_neg (by simp; omega)]
        exact hj j (by omega)
theorem EightR_s (u : Nat) (hu : u < allD) (hQ : ∀ h', Ext [] h h' → Q [.string (ofBtl (beL 8 u))] h') : S_liveryref02_Eight (u : Int) h Q := by
  refine O_liveryref02_Eight _ ?_
  unfold F_liveryref02_Eight
  refine ⟨by decide, newI fun h1 s1 b1 e1 => ?_⟩
  intro X hX
  have key : ∀ (d : Nat) (g : Hp) (c : Array Value), d ≤ 8 → Ext [] h g → Blk g h.size c T_uint8 → c.size = 8 → (∀ j, d ≤ j → j < 8 → c[j]? = some (.int .u8 ((u / 256 ^ (8 - 1 - j) % 256 : Nat) : Int))) → X [.int .u64 ((u / 256 ^ (8 - d) : Nat) : Int), .int .i64 ((d : Int) - 1)] g := by
    intro d
    induction d with
    | zero =>
      intro g c _ eg hb hc hj
      refine hX _ _ _ ?_
      rw [if_neg (by simp)]
      refine ⟨ofBtl (beL 8 u), bytesI hb (fun i hi => ?_) (by rw [beL_len]; rfl), hQ g eg⟩
      rw [hj i (by omega) (by rw [beL_len] at hi; exact hi), beL8 hi]
    | succ d ih =>
      intro g c hd eg hb hc hj
      refine hX _ _ _ ?_
      have ed : ((d + 1 : Nat) : Int) - 1 = (d : Int) := by omega
      rw [ed, if_pos (by simp)]
      refine ⟨by omega, ?_⟩
      have ek : 8 - (d + 1) = 8 - 1 - d := by omega
      rw [ek]
      have hm : Int.tmod ((u / 256 ^ (8 - 1 - d) : Nat) : Int) 256 = ((u / 256 ^ (8 - 1 - d) % 256 : Nat) : Int) := by
        rw [Int.tmod_eq_emod_of_nonneg (Int.natCast_nonneg _)]
        rfl
      have ht : Int.tdiv ((u / 256 ^ (8 - 1 - d) : Nat) : Int) 256 = ((u / 256 ^ (8 - d) : Nat) : Int) := by
        rw [Int.tdiv_eq_ediv_of_nonneg (Int.natCast_nonneg _)]
        have e3 : 8 - d = (8 - 1 - d) + 1 := by omega
        rw [e3, Nat.pow_succ, ← Nat.div_div_eq_div_mul]
        rfl
      have hmod : (u / 256 ^ (8 - 1 - d) % 256) % 256 = u / 256 ^ (8 - 1 - d) % 256 := Nat.mod_mod _ _
      rw [hm, ht, wrapU8, hmod]
      simp only [nilW_some, Int.toNat_natCast, addr_mk, Nat.zero_add, Nat.mul_one]
      refine ⟨by omega, by show (d : Int) < ((Int.toNat 8 : Nat) : Int); omega, ?_⟩
      refine st_blk hb (by omega) fun g2 s2 b2 e2 => ?_
      have hle : u / 256 ^ (8 - d) ≤ u := Nat.div_le_self _ _
      unfold allD at hu
      refine ⟨by omega, ?_⟩
      rw [wrapU64 (Int.natCast_nonneg _) (Int.lt_of_le_of_lt (Int.ofNat_le.2 hle) (by omega)), wrap64 (by omega) (by omega)]
      refine ih g2 _ (by omega) (eg.trans e2 fun b hb hlt => by simp at hb; omega) b2 (by rw [putAt_size]; exact hc) fun j hj1 hj2 => ?_
      rw [putAt_get0 _ _ _ _ (by simp; omega)]
      by_cases e : j = d
      · subst e
        rw [if_pos (by simp)]
        simp
      · rw [if_neg (by simp; omega)]
        exact hj j (by omega) hj2
  have := key 8 h1 _ (Nat.le_refl _) e1 b1 cells8 (fun j h1 h2 => by omega)
  simpa using this
theorem joined_s {b n : Nat} {ls : List (List UInt8)} {T : TypeId} (hb : Blk h b (ls.map fun l => Value.string (ofBtl l)).toArray T) (hn : n = ls.length) (hl : ls.flatten.length ≤ 2 ^ 40) (hl2 : ls.length ≤ 2 ^ 20)
    (hQ : ∀ h', Ext [] h h' → Q [.string (ofBtl ls.flatten)] h') : S_key_joined ⟨some ⟨b, 0, none⟩, n, n⟩ h Q := by
  refine O_key_joined _ ?_
  unfold F_key_joined
  have e1 : (ls.map ofBtl).map (·.data.toList) = ls := by
    rw [List.map_map]
    conv => rhs; rw [← List.map_id ls]
    refine List.map_congr_left fun l _ => ?_
    simp [ofBtl]
  have e2 : (ls.map fun l => Value.string (ofBtl l)) = (ls.map ofBtl).map Value.string := by rw [List.map_map]; rfl
  have hj : ∀ ls : List (List UInt8), (Lib.join ls []).length = ls.flatten.length := by
    intro ls
    unfold Lib.join List.intercalate
    induction ls with
    | nil => rfl
    | cons a l ih =>
      cases l with
      | nil => rfl
      | cons c l => simpa [List.intersperse] using ih
  refine Join_s (xs := ls.map ofBtl) (by rw [← e2]; exact hb) (by rw [List.length_map]; exact hn) (by rw [e1, hj]; exact hl) (by rw [List.length_map]; exact hl2) fun h1 e => ⟨_, rfl, ?_⟩
  rw [e1]
  exact hQ h1 e
theorem wrapu64n {n : Int} (h1 : -9223372036854775808 ≤ n) (h2 : n < 9223372036854775808) : iXor .u64 (IntKind.wrap .u64 n) 9223372036854775808 = (uN n : Int) := by
  have hw : ∃ m : Nat, m < 18446744073709551616 ∧ IntKind.wrap .u64 n = (m : Int) ∧ (m : Int) = if n < 0 then n + 18446744073709551616 else n := by
    refine ⟨(if n < 0 then n + 18446744073709551616 else n).toNat, by split <;> omega, ?_, by split <;> omega⟩
    simp only [IntKind.wrap, IntKind.bits, IntKind.signed]
    simp
    split <;> omega
  obtain ⟨m, hm, e1, e2⟩ := hw
  rw [e1, xor63 m hm]
  unfold uN
  split <;> split at e2 <;> omega
theorem uN_lt {n : Int} (h2 : n < 9223372036854775808) : uN n < allD := by
  unfold uN allD
  omega
theorem rd4V {b : Nat} {v : V4} {T : TypeId} (hb : Blk h b #[.int .i64 v.k, .int .i64 v.n, .float .f64 v.f, .string v.s] T) : rd h (Addr.add (Addr.mk b 0 none) 0) = some (.int .i64 v.k) ∧ rd h (Addr.add (Addr.mk b 0 none) 1) = some (.int .i64 v.n) ∧ rd h (Addr.add (Addr.mk b 0 none) 2) = some (.float .f64 v.f) ∧ rd h (Addr.add (Addr.mk b 0 none) 3) = some (.string v.s) := by
  have r : ∀ i, rd h (Addr.add (Addr.mk b 0 none) i) = (#[.int .i64 v.k, .int .i64 v.n, .float .f64 v.f, .string v.s] : Array Value)[i]? := fun i => by rw [addr_mk, rd_blk hb, Nat.zero_add]
  exact ⟨r 0, r 1, r 2, r 3⟩
theorem byte1 {b : Nat} {k : Int} {T : TypeId} (hk : 0 ≤ k ∧ k < 256) (hb : Blk h b #[.int .u8 (IntKind.wrap .u8 k)] T) : bytesAt h (some ⟨b, 0, none⟩) 1 (ofBtl [UInt8.ofNat k.toNat]) := by
  refine bytesI hb (fun i hi => ?_) rfl
  have h0 : i = 0 := by simpa using hi
  subst h0
  have e : IntKind.wrap .u8 k = ((k.toNat % 256 : Nat) : Int) := by
    rw [← wrapU8]
    congr 1
    omega
  rw [e]
  show some (Value.int .u8 _) = some (Value.int .u8 ((UInt8.ofNat k.toNat).toNat : Int))
  rw [UInt8.toNat_ofNat']
theorem Of_s (v : V4) (hv : VOk v) (hg : GM h) (hQ : ∀ h', Ext [] h h' → Q [.string (ofP v).1, .int .i64 (ofP v).2] h') : S_key_Of v.k v.n v.f v.s h Q := by
  refine O_key_Of _ _ _ _ ?_
  unfold F_key_Of
  refine newI fun h1 s1 b1 e1 => ?_
  obtain ⟨r0, r1, r2, r3⟩ := rd4V b1
  refine ⟨_, r0, _, r1, _, r2, _, r3, GoodV_s _ _ _ _ fun h2 e2 => ⟨_, rfl, ?_⟩⟩
  unfold ofP at hQ
  rw [show goodV v.k v.n v.f v.s = goodX v from rfl]
  cases hgd : goodX v with
  | false =>
    rw [if_pos (by rfl)]
    rw [hgd] at hQ
    exact hQ h2 (e1.trans0 e2)
  | true =>
    rw [if_neg (by decide)]
    rw [hgd, if_pos rfl] at hQ
    have hk := good_k hgd
    have hel := encX_len hgd
    have b2 := e2.get b1 (by simp)
    refine ⟨v.k, (rd4V b2).1, newI fun h3 s3 b3 e3 => ?_⟩
    refine ⟨_, byte1 (by omega) b3, v.k, (rd4V (e3.get b2 (by simp))).1, ?_⟩
    have b3' := e3.get b2 (by simp)
    have e13 := (e1.trans0 e2).trans0 e3
    unfold encX payL at hQ hel
    by_cases k1 : v.k = 1
    · rw [if_pos (by simp [k1])]
      rw [if_pos k1] at hQ hel
      refine ⟨v.n, (rd4V b3').2.1, newI fun h4 s4 b4 e4 => ?_⟩
      have hn := good_n hgd k1
      refine ⟨_, byte1 (by omega) b4, newI fun h5 s5 b5 e5 => ?_⟩
      refine joined_s (ls := [[UInt8.ofNat v.k.toNat], [UInt8.ofNat v.n.toNat]]) b5 rfl (by simp) (by simp) fun h6 e6 => ⟨_, rfl, ?_⟩
      exact hQ h6 (((e13.trans0 e4).trans0 e5).trans0 e6)
    rw [if_neg (by simp [k1])]
    rw [if_neg k1] at hQ hel
    by_cases k2 : v.k = 2
    · rw [if_pos (by simp [k2])]
      rw [if_pos k2] at hQ hel
      refine ⟨v.n, (rd4V b3').2.1, ?_⟩
      rw [wrapu64n hv.n.1 hv.n.2]
      refine eight_s _ fun h4 e4 => ⟨_, rfl, newI fun h5 s5 b5 e5 => ?_⟩
      refine joined_s (ls := [[UInt8.ofNat v.k.toNat], beL 8 (uN v.n)]) b5 rfl (by simp [beL_len]) (by simp) fun h6 e6 => ⟨_, rfl, ?_⟩
      have := hQ h6 (((e13.trans0 e4).trans0 e5).trans0 e6)
      simpa using this
    rw [if_neg (by simp [k2])]
    rw [if_neg k2] at hQ hel
    by_cases k3 : v.k = 3
    · rw [if_pos (by simp [k3])]
      rw [if_pos k3] at hQ hel
      refine ⟨v.f, (rd4V b3').2.2.1, Bits_s _ hv.f ⟨_, rfl, ?_⟩⟩
      refine eight_s _ fun h4 e4 => ⟨_, rfl, newI fun h5 s5 b5 e5 => ?_⟩
      refine joined_s (ls := [[UInt8.ofNat v.k.toNat], beL 8 (bitsF v.f)]) b5 rfl (by simp [beL_len]) (by simp) fun h6 e6 => ⟨_, rfl, ?_⟩
      have := hQ h6 (((e13.trans0 e4).trans0 e5).trans0 e6)
      simpa using this
    rw [if_neg (by simp [k3])]
    rw [if_neg k3] at hQ hel
    by_cases k4 : v.k = 4
    · rw [if_pos (by simp [k4])]
      rw [if_pos k4] at hQ hel
      refine ⟨v.s, (rd4V b3').2.2.2, ReplaceAll_s _ (hg.ext e13) (good_s hgd k4) fun h4 e4 => ⟨_, rfl, newI fun h5 s5 b5 e5 => ?_⟩⟩
      refine joined_s (ls := [[UInt8.ofNat v.k.toNat], escL (btl v.s), endL2]) b5 rfl (by simp at hel ⊢; omega) (by simp) fun h6 e6 => ⟨_, rfl, ?_⟩
      have := hQ h6 (((e13.trans0 e4).trans0 e5).trans0 e6)
      simpa using this
    rw [if_neg (by simp [k4])]
    rw [if_neg k4] at hQ
    exact hQ h3 e13
theorem Entry_s (v : V4) (hv : VOk v) (hg : GM h) (n : Int) (hQ : ∀ h', Ext [] h h' → Q [.string (entryP v n).1, .int .i64 (entryP v n).2] h') : S_key_Entry v.k v.n v.f v.s n h Q := by
  refine O_key_Entry _ _ _ _ _ ?_
  unfold F_key_Entry
  refine newI fun h1 s1 b1 e1 => ?_
  obtain ⟨r0, r1, r2, r3⟩ := rd4V b1
  refine ⟨_, r0, _, r1, _, r2, _, r3, Of_s v hv (hg.ext e1) fun h2 e2 => ⟨_, _, rfl, ?_⟩⟩
  have e12 := e1.trans0 e2
  cases hgd : goodX v with
  | false =>
    have ho : ofP v = (sE, 11) := by unfold ofP; rw [if_neg (by simp [hgd])]
    have hen : entryP v n = (sE, 11) := by unfold entryP; rw [if_neg (by simp [hgd])]
    rw [hen] at hQ
    rw [ho, if_pos (by rfl)]
    exact hQ h2 e12
  | true =>
    have ho : ofP v = (ofBtl (encX v), 0) := by unfold ofP; rw [if_pos hgd]
    unfold entryP at hQ
    rw [if_pos hgd] at hQ
    rw [ho, if_neg (by simp)]
    intro J hJ
    have key : J [.bool (decide (n < 0 ∨ n > 65535))] h2 := by
      refine hJ _ _ ?_
      by_cases hn : n < 0 ∨ n > 65535
      · rw [if_pos (by simpa using hn)]
        rw [if_pos hn] at hQ
        exact hQ h2 e12
      · rw [if_neg (by simpa using hn)]
        rw [if_neg hn] at hQ
        refine ⟨by omega, newI fun h3 s3 b3 e3 => ?_⟩
        obtain ⟨m, rfl⟩ : ∃ m : Nat, n = (m : Int) := ⟨n.toNat, by omega⟩
        have hm : m ≤ 65535 := by omega
        have hsh : iShr .i64 (m : Int) 8 = ((m / 256 : Nat) : Int) := by
          unfold iShr
          have : (2 : Int) ^ (min (8 : Int).toNat IntKind.i64.bits) = 256 := rfl
          rw [this, Int.fdiv_eq_ediv_of_nonneg _ (by omega)]
          rfl
        rw [hsh, wrapU8, wrapU8] at b3
        rw [Int.toNat_natCast] at hQ
        refine ⟨ofBtl (beL 2 m), bytesI b3 (fun i hi => ?_) rfl, newI fun h4 s4 b4 e4 => ?_⟩
        · have h2 : i < 2 := by rw [beL_len] at hi; exact hi
          have hg := beL_get 2 m i h2
          rw [List.getElem?_eq_getElem hi] at hg
          rw [Option.some.inj hg, UInt8.toNat_ofNat', Nat.mod_mod]
          rcases (by omega : i = 0 ∨ i = 1) with rfl | rfl
          · rfl
          · show some (Value.int .u8 _) = some (Value.int .u8 ((m / 256 ^ 0 % 256 : Nat) : Int))
            simp
        · have hel := encX_len hgd
          refine joined_s (ls := [encX v, beL 2 m]) b4 rfl (by simp [beL_len]; omega) (by simp) fun h5 e5 => ⟨_, rfl, ?_⟩
          have := hQ h5 ((e12.trans0 e3).trans0 e4 |>.trans0 e5)
          simpa using this
    by_cases hn : n < 0
    · rw [if_pos (by simpa using hn)]
      rw [decide_eq_true (Or.inl hn)] at key
      exact key
    · rw [if_neg (by simpa using hn)]
      have e : decide (n < 0 ∨ n > 65535) = decide (n > 65535) := by simp [hn]
      rw [e] at key
      exact key
theorem Least_s (v : V4) (hv : VOk v) (hg : GM h) (hQ : ∀ h', Ext [] h h' → Q [.string (entryP v 0).1, .int .i64 (entryP v 0).2] h') : S_key_Least v.k v.n v.f v.s h Q := by
  refine O_key_Least _ _ _ _ ?_
  unfold F_key_Least
  refine newI fun h1 s1 b1 e1 => ?_
  obtain ⟨r0, r1, r2, r3⟩ := rd4V b1
  exact ⟨_, r0, _, r1, _, r2, _, r3, Entry_s v hv (hg.ext e1) 0 fun h2 e2 => ⟨_, _, rfl, hQ h2 (e1.trans0 e2)⟩⟩
theorem After_s (v : V4) (hv : VOk v) (hg : GM h) (hQ : ∀ h', Ext [] h h' → Q [.string (afterP v).1, .int .i64 (afterP v).2] h') : S_key_After v.k v.n v.f v.s h Q := by
  refine O_key_After _ _ _ _ ?_
  unfold F_key_After
  refine newI fun h1 s1 b1 e1 => ?_
  obtain ⟨r0, r1, r2, r3⟩ := rd4V b1
  refine ⟨_, r0, _, r1, _, r2, _, r3, Entry_s v hv (hg.ext e1) 65535 fun h2 e2 => ⟨_, _, rfl, ?_⟩⟩
  cases hgd : goodX v with
  | false =>
    have hen : entryP v 65535 = (sE, 11) := by unfold entryP; rw [if_neg (by simp [hgd])]
    have ha : afterP v = (sE, 11) := by unfold afterP; rw [if_neg (by simp [hgd])]
    rw [ha] at hQ
    rw [hen, if_pos (by rfl)]
    exact hQ h2 (e1.trans0 e2)
  | true =>
    have hen : entryP v 65535 = (ofBtl (encX v ++ beL 2 65535), 0) := by unfold entryP; rw [if_pos hgd, if_neg (by omega)]; rfl
    unfold afterP at hQ
    rw [if_pos hgd] at hQ
    rw [hen, if_neg (by simp)]
    refine newI fun h3 s3 b3 e3 => ?_
    have hel := encX_len hgd
    refine joined_s (ls := [encX v ++ beL 2 65535, [0]]) b3 rfl (by simp [beL_len]; omega) (by simp) fun h4 e4 => ⟨_, rfl, ?_⟩
    have := hQ h4 ((e1.trans0 e2).trans0 e3 |>.trans0 e4)
    simpa using this
end
end Go.Lift

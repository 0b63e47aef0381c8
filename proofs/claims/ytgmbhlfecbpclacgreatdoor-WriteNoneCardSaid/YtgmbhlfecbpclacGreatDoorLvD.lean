/- The rules of the operations, continued: slices, maps, conversions, building. -/
import Derived.Test.YtgmbhlfecbpclacGreatDoorLvC
set_option linter.unusedSimpArgs false
set_option linter.unusedVariables false
namespace Go.Lift
section
variable {P : Program} {h : Hp}

/-! ### slicing -/
def slAd (a : Option Addr) (l m sz : Nat) : Option Addr := if m = l then a else a.map (·.add (l * sz))
def optI : Option Value → Option (Option Int)
  | none => some none
  | some (.int _ i) => some (some i)
  | some _ => none
/-- lo and hi of a slice expression over n elements, c of room. -/
def bdW (n c : Nat) (lo hi : Option Int) (K : Nat → Nat → Prop) : Prop :=
  match lo, hi with
  | none, none => K 0 n
  | some l, none => (0 ≤ l ∧ l ≤ n) ∧ K l.toNat n
  | none, some u => (0 ≤ u ∧ u ≤ c) ∧ K 0 u.toNat
  | some l, some u => (0 ≤ l ∧ l ≤ u ∧ u ≤ c) ∧ K l.toNat u.toNat
def slW (P : Program) (t : TypeId) (x : Value) (lo hi : Option Value) (K : Value → Prop) : Prop :=
  match optI lo, optI hi with
  | some lo, some hi =>
    match P.underlying t, x with
    | some .string, .string s => bdW s.size s.size lo hi fun l u => K (.string (s.extract l u))
    | some (.slice e), .slice a n c => match szOf P e with
      | some sz => bdW n c lo hi fun l u => K (.slice (slAd a l c sz) (u - l) (c - l))
      | none => False
    | some (.array n e), .pointer (some a) => match szOf P e with
      | some sz => bdW n n lo hi fun l u => K (.slice (slAd (some a) l n sz) (u - l) (n - l))
      | none => False
    | _, _ => False
  | _, _ => False

theorem optI_spec {o : Option Value} {i : Option Int} (h : optI o = some i) : (o = none ∧ i = none) ∨ ∃ k x, o = some (.int k x) ∧ i = some x := by
  unfold optI at h
  split at h
  · simp at h; exact .inl ⟨rfl, h.symm⟩
  · simp at h; exact .inr ⟨_, _, rfl, h.symm⟩
  · cases h
theorem sliceBounds_sound {isS : Bool} {n c : Nat} {lo hi : Option Value} {l u : Option Int} (hl : optI lo = some l) (hu : optI hi = some u) {K : Nat → Nat → Prop} {K' : Nat × Nat × Nat → Hp → Prop}
    (H : bdW n c l u K) (HK : ∀ a b, K a b → K' (a, b, c) h) : semR P (Instr.sliceBounds isS n c lo hi none) h K' := by
  unfold Instr.sliceBounds
  rcases optI_spec hl with ⟨rfl, rfl⟩ | ⟨k1, x, rfl, rfl⟩ <;> rcases optI_spec hu with ⟨rfl, rfl⟩ | ⟨k2, y, rfl, rfl⟩ <;> simp only [bdW] at H <;>
    simp only [semR_bind', semR_pure, Instr.sliceBound, asIntOf]
  · exact HK _ _ H
  · rw [if_pos H.1]
    simp only [semR_pure]
    exact HK _ _ H.2
  · rw [if_pos H.1]
    simp only [semR_pure]
    exact HK _ _ H.2
  · obtain ⟨⟨h1, h2, h3⟩, h4⟩ := H
    rw [if_pos ⟨by omega, h3⟩]
    simp only [semR_pure]
    rw [if_pos ⟨h1, by omega⟩]
    exact HK _ _ h4
theorem slW_sound {t : TypeId} {x : Value} {lo hi : Option Value} {K : Value → Prop} {K' : Value → Hp → Prop} (H : slW P t x lo hi K) (HK : ∀ v, K v → K' v h) :
    semR P (Instr.sliceAt t x lo hi none) h K' := by
  unfold slW at H
  split at H
  · rename_i l u hl hu
    unfold Instr.sliceAt
    simp only [semR_bind', semR_underlying]
    split at H
    · rename_i s ht
      refine ⟨_, ht, ?_⟩
      simp only [Instr.slice, semR_bind', semR_underlying]
      refine ⟨_, ht, ?_⟩
      simp only [Option.isSome_none, Bool.false_eq_true, if_false, semR_bind']
      refine sliceBounds_sound hl hu H fun a b hab => ?_
      exact HK _ hab
    · rename_i e a n c ht
      split at H
      · rename_i sz hs
        refine ⟨_, ht, ?_⟩
        simp only [Instr.slice, semR_bind', semR_underlying]
        refine ⟨_, ht, ?_⟩
        simp only [semR_bind']
        refine sliceBounds_sound hl hu H fun x y hab => ?_
        simp only [semR_sizeOf]
        exact ⟨sz, hs, HK _ hab⟩
      · exact H.elim
    · rename_i n e a ht
      split at H
      · rename_i sz hs
        refine ⟨_, ht, ?_⟩
        simp only [semR_bind', Instr.sureAddr, semR_pure]
        refine sliceBounds_sound hl hu H fun x y hab => ?_
        simp only [semR_sizeOf]
        refine ⟨sz, hs, ?_⟩
        have := HK _ hab
        unfold slAd at this
        split <;> simp_all
        
      · exact H.elim
    · exact H.elim
  · exact H.elim

/-! ### make -/
def mkCells (z : Array Value) (n : Nat) : Array Value := (Array.range n).map (z[· % z.size]!)
def mkOk (l c : Int) (bytes : Nat) (p : Prop) : Prop := (0 ≤ l ∧ l ≤ c ∧ c * bytes ≤ 2 ^ 48 ∧ c < 2 ^ 63) ∧ p
def mkW (P : Program) (t : TypeId) (l c : Value) (h : Hp) (K : Value → Hp → Prop) : Prop :=
  match P.underlying t, l, c with
  | some (.slice e), .int _ l, .int _ c => match P.info? e, zeroOf P e with
    | some i, some _ => mkOk l c i.bytes (K (.slice (some ⟨h.size, 0, none⟩) l.toNat c.toNat) (h.push (.cells (mkCells (zc P e) (c.toNat * i.size)) e)))
    | _, _ => False
  | _, _, _ => False
theorem wrap_i64 {x : Int} (h1 : -2 ^ 63 ≤ x) (h2 : x < 2 ^ 63) : IntKind.i64.wrap x = x := by
  unfold IntKind.wrap IntKind.bits IntKind.signed
  simp only [Bool.true_and, decide_eq_true_eq]
  split <;> omega
theorem mkW_sound {t : TypeId} {l c : Value} {K : Value → Hp → Prop} (H : mkW P t l c h K) : semW P (Instr.makeSlice t l c) h K := by
  unfold mkW at H
  split at H
  · rename_i e k1 l k2 c ht
    split at H
    · rename_i i z hi hz
      obtain ⟨⟨h1, h2, h3, h4⟩, hK⟩ := H
      unfold Instr.makeSlice
      simp only [semW_bind', semW_underlying]
      refine ⟨_, ht, ?_⟩
      simp only [asInt, asIntOf, semW_bind', semW_pure, semW_typeInfo]
      refine ⟨i, hi, ?_⟩
      rw [wrap_i64 (by omega) (by omega), wrap_i64 (by omega) (by omega)]
      have hc : (decide (c < 0) || decide ((i.bytes : Int) * c > 2 ^ 48)) = false := by
        rw [Int.mul_comm] at h3
        simp only [Bool.or_eq_false_iff, decide_eq_false_iff_not]
        exact ⟨by omega, by omega⟩
      rw [if_neg (by simp only [hc]; simp; omega)]
      simp only [semW_bind', semW_askRoom, semW_sizeOf]
      refine ⟨i.size, by simp [hi], ?_⟩
      by_cases hn : c.toNat * i.size = 0
      · rw [if_pos hn]
        simp only [semW_pure, semW_newRow, semW_bind', hn]
        have e1 : ∀ f : Nat → Value, (Array.range 0).map f = #[] := fun f => by simp [Array.range]
        rw [hn, mkCells, e1] at hK
        rw [e1]
        exact hK
      · rw [if_neg hn]
        simp only [semW_pure, semW_newRow, semW_bind', semW_zeroValue]
        refine ⟨z, hz, ?_⟩
        simp only [zc, hz] at hK
        exact hK
    · exact H.elim
  · exact H.elim

/-! ### the cells of a slice, append, copy -/
def cellsAt (h : Hp) (a : Option Addr) (n : Nat) (cs : List Value) : Prop :=
  match a with
  | none => cs = []
  | some a => cs.length = n ∧ ∀ i, i < n → rd h (a.add i) = cs[i]?
theorem loadCellsFrom_cells (a : Addr) (n : Nat) : ∀ (i : Nat) (cs : List Value) (acc : Array Value) (K' : Array Value → Hp → Prop),
    cs.length = n → (∀ j, j < n → rd h (a.add (i + j)) = cs[j]?) → K' (acc ++ cs.toArray) h → semW P (loadCellsFrom a i n acc) h K' := by
  induction n with
  | zero => intro i cs acc K' hl _ H; have : cs = [] := by simpa using hl
            subst this; simp at H; exact H
  | succ n ih =>
    intro i cs acc K' hl hr H
    cases cs with
    | nil => simp at hl
    | cons c cs =>
      simp only [loadCellsFrom, semW_bind']
      refine ⟨c, by have := hr 0 (by omega); simpa using this, ?_⟩
      refine ih (i + 1) cs (acc.push c) K' (by simpa using hl) (fun j hj => ?_) (by simpa using H)
      have := hr (j + 1) (by omega)
      rw [show i + 1 + j = i + (j + 1) by omega]
      simpa using this
theorem firstCells_sound {sz n : Nat} {a : Option Addr} {c : Nat} {m : Nat} {cs : List Value} (H : cellsAt h a (m * sz) cs) (K' : Array Value → Hp → Prop) (HK : K' cs.toArray h) :
    semW P (Builtin.firstCells sz m (.slice a n c)) h K' := by
  cases a with
  | none => simp only [cellsAt] at H; subst H; exact HK
  | some a =>
    obtain ⟨h1, h2⟩ := H
    simp only [Builtin.firstCells, loadCells]
    exact loadCellsFrom_cells a _ 0 cs #[] K' h1 (fun j hj => by simpa using h2 j hj) (by simpa using HK)

inductive AppR (P : Program) (e : TypeId) (sz : Nat) (h : Hp) (s : Sl) (m : Nat) (new : List Value) : Sl → Hp → Prop
  | room (a : Addr) : s.n + m ≤ s.c → s.a = some a → AppR P e sz h s m new ⟨s.a, s.n + m, s.c⟩ (wrs h (a.add (s.n * sz)) 0 new)
  | none : s.n + m ≤ s.c → s.a = none → AppR P e sz h s m new ⟨s.a, s.n + m, s.c⟩ h
  | grow (old : List Value) (cap : Nat) : s.c < s.n + m → cellsAt h s.a (s.n * sz) old → s.n + m ≤ cap →
      AppR P e sz h s m new ⟨some ⟨h.size, 0, .none⟩, s.n + m, cap⟩ (h.push (.cells ((old ++ new).toArray ++ Builtin.zeroCells (zc P e) (cap - (s.n + m))) e))
/-- What append asks: few enough elements; what is there can be read; where there is room it may be written. -/
def appOk (bytes sz : Nat) (h : Hp) (s : Sl) (m : Nat) (new : List Value) : Prop :=
  s.n + m ≤ 2 ^ 47 ∧ (s.n + m) * bytes ≤ 2 ^ 47 ∧ new.length = m * sz ∧ (∀ v ∈ new, oneCell v = true) ∧
    (s.c < s.n + m → ∃ old, cellsAt h s.a (s.n * sz) old) ∧ (s.n + m ≤ s.c → ∀ a, s.a = some a → stOk h (a.add (s.n * sz)) (m * sz))
def appS (P : Program) (e : TypeId) (bytes sz : Nat) (h : Hp) (s : Sl) (m : Nat) (new : List Value) (K : Sl → Hp → Prop) : Prop :=
  appOk bytes sz h s m new ∧ ∀ s' h', AppR P e sz h s m new s' h' → K s' h'
def strCells (s : ByteArray) : List Value := s.data.toList.map fun b => .int .u8 b.toNat
def appW (P : Program) (t : TypeId) (s x : Value) (h : Hp) (K : Value → Hp → Prop) : Prop :=
  match P.underlying t, s with
  | some (.slice e), .slice a n c => match P.info? e, zeroOf P e with
    | some i, some _ => match x with
      | .slice b m _ => ∃ new, cellsAt h b (m * i.size) new ∧ appS P e i.bytes i.size h ⟨a, n, c⟩ m new fun s' h' => K (.slice s'.a s'.n s'.c) h'
      | .string u => i.size = 1 ∧ appS P e i.bytes i.size h ⟨a, n, c⟩ u.size (strCells u) fun s' h' => K (.slice s'.a s'.n s'.c) h'
      | _ => False
    | _, _ => False
  | _, _ => False

theorem nextcap_le {need c : Nat} (h : c < need) : Builtin.nextslicecap need c ≤ 2 * need := by
  have hg : ∀ (r c : Nat), c ≤ 2 * need → 256 ≤ need → Builtin.growBy need r c ≤ 2 * need := by
    intro r
    induction r with
    | zero => intro c hc _; exact hc
    | succ r ih =>
      intro c hc hn
      simp only [Builtin.growBy]
      split
      · exact hc
      · exact ih _ (by omega) hn
  unfold Builtin.nextslicecap
  split
  · omega
  · split
    · omega
    · exact hg 4 c (by omega) (by omega)
theorem appendCap_cut (need c : Nat) (e : TypeId) (t : Nat) : need ≤ (Question.appendCap need c e).cut t := by
  simp [Question.cut]
theorem append_sound {t e : TypeId} {ty2 : TypeId} {i : TypeInfo} {z : Value} (ht : P.underlying t = some (.slice e)) (hi : P.info? e = some i) (hz : zeroOf P e = some z)
    (h2 : ∃ d, P.underlying ty2 = some d ∧ ∀ k, d ≠ .int k) {s : Sl} {x : Value} {m : Nat} {new : List Value}
    (hlen : ∀ (K : Nat → Hp → Prop), K m h → semW P (Builtin.lenOf x) h K)
    (hnew : ∀ (K : Array Value → Hp → Prop), K new.toArray h → semW P (Builtin.firstCells i.size m x) h K) {ty : TypeId} {K : Value → Hp → Prop}
    (H : appS P e i.bytes i.size h s m new fun s' h' => K (.slice s'.a s'.n s'.c) h') :
    semW P (Builtin.append_ #[t, ty2] ty #[.slice s.a s.n s.c, x]) h K := by
  obtain ⟨⟨b1, b2, b3, b4, b5, b6⟩, hK⟩ := H
  obtain ⟨d, hd, hdi⟩ := h2
  have hsz : szOf P e = some i.size := by simp [szOf, hi]
  unfold Builtin.append_
  simp only [List.getElem?_toArray, List.getElem?_cons_zero, List.getElem?_cons_succ, semW_bind', semW_underlying]
  refine ⟨_, ht, ?_⟩
  simp only [semW_bind', semW_sizeOf]
  refine ⟨i.size, hsz, ?_⟩
  simp only [semW_bind', semW_underlying]
  refine ⟨d, hd, ?_⟩
  have hz0 : (match d with | .int _ => true | _ => false) = false := by
    cases d <;> first | rfl | exact absurd rfl (hdi _)
  simp only [semW_pure, hz0, Bool.false_eq_true, if_false]
  rw [semW_bind']
  refine hlen _ ?_
  by_cases hroom : s.n + m ≤ s.c
  · rw [if_pos hroom]
    simp only [Bool.not_false, if_true, semW_bind']
    refine hnew _ ?_
    cases hsa : s.a with
    | none =>
      simp only [semW_pure]
      have := hK _ _ (.none hroom hsa)
      rw [hsa] at this
      exact this
    | some a =>
      simp only [semW_bind']
      refine storeCells_sound _ _ 0 h _ (by simpa using b4) (fun j _ hj => ?_) ?_
      · have := b6 hroom a hsa j (by simp at hj; omega)
        exact this
      · simp only [semW_pure]
        have := hK _ _ (.room a hroom hsa)
        rw [hsa] at this
        simpa using this
  · rw [if_neg hroom]
    have hgt : s.c < s.n + m := by omega
    obtain ⟨old, hold⟩ := b5 hgt
    simp only [semW_bind', semW_typeInfo]
    refine ⟨i, hi, ?_⟩
    rw [if_neg (by
      rintro ⟨h1, _⟩
      have : IntKind.i64.max = 9223372036854775807 := by rfl
      rw [this] at h1
      have h3 : (2 : Nat) ^ 47 = 140737488355328 := by decide
      omega)]
    simp only [semW_bind', semW_typeInfo, semW_pure]
    refine ⟨i, hi, ?_⟩
    have hcap : ¬ (Builtin.nextslicecap (s.n + m) s.c * i.bytes > 2 ^ 48) := by
      have h1 := nextcap_le hgt
      have h2 : Builtin.nextslicecap (s.n + m) s.c * i.bytes ≤ 2 * (s.n + m) * i.bytes := Nat.mul_le_mul_right _ h1
      have h3 : 2 * (s.n + m) * i.bytes = 2 * ((s.n + m) * i.bytes) := by rw [Nat.mul_assoc]
      have h4 : (2 : Nat) ^ 48 = 2 * 2 ^ 47 := by rfl
      omega
    rw [if_neg hcap]
    simp only [semW_bind', semW_pure, semW_choose]
    refine ⟨fun hf => by simp [Question.forced] at hf, fun _ tt => ?_⟩
    have hle := appendCap_cut (s.n + m) s.c e tt
    generalize (Question.appendCap (s.n + m) s.c e).cut tt = cap at hle
    simp only [semW_typeInfo]
    refine ⟨i, hi, ?_⟩
    simp only [semW_askRoom]
    refine firstCells_sound hold _ ?_
    simp only [Bool.not_false, if_true]
    refine hnew _ ?_
    simp only [semW_zeroValue]
    refine ⟨z, hz, ?_⟩
    simp only [semW_newRow, semW_pure]
    have := hK _ _ (.grow old cap hgt hold hle)
    simp only [zc, hz] at this
    simpa using this
def appZW (P : Program) (t : TypeId) (s x : Value) (h : Hp) (K : Value → Hp → Prop) : Prop :=
  match P.underlying t, s, x with
  | some (.slice e), .slice a n c, .int _ l => match P.info? e, zeroOf P e with
    | some i, some _ => (0 ≤ l ∧ l < 2 ^ 63 ∧ l * i.bytes ≤ 2 ^ 47) ∧ appS P e i.bytes i.size h ⟨a, n, c⟩ l.toNat (Builtin.zeroCells (zc P e) l.toNat).toList fun s' h' => K (.slice s'.a s'.n s'.c) h'
    | _, _ => False
  | _, _, _ => False
theorem appendZ_sound {t ty2 : TypeId} {s x : Value} {h : Hp} {k2 : IntKind} (h2 : P.underlying ty2 = some (.int k2)) {ty : TypeId} {K : Value → Hp → Prop} (H : appZW P t s x h K) :
    semW P (Builtin.append_ #[t, ty2] ty #[s, x]) h K := by
  unfold appZW at H
  split at H
  · rename_i e a n c k l ht
    split at H
    · rename_i i z hi hz
      obtain ⟨⟨l1, l2, l3⟩, ⟨b1, b2, b3, b4, b5, b6⟩, hK⟩ := H
      have hsz : szOf P e = some i.size := by simp [szOf, hi]
      have hw : IntKind.i64.wrap l = l := wrap_i64 (by omega) l2
      generalize hm : l.toNat = m at *
      generalize hnew : (Builtin.zeroCells (zc P e) m).toList = new at *
      have hzc : zc P e = z.cells := by simp only [zc, hz]
      unfold Builtin.append_
      simp only [List.getElem?_toArray, List.getElem?_cons_zero, List.getElem?_cons_succ, semW_bind', semW_underlying]
      refine ⟨_, ht, ?_⟩
      simp only [semW_bind', semW_sizeOf]
      refine ⟨i.size, hsz, ?_⟩
      simp only [semW_bind', semW_underlying]
      refine ⟨_, h2, ?_⟩
      have hbig : ¬ (l * (i.bytes : Int) > 2 ^ 48) := by
        have : (2 : Int) ^ 48 = 2 * 2 ^ 47 := by decide
        have : (0 : Int) < 2 ^ 47 := by decide
        omega
      have hneg : ¬ l < 0 := by omega
      have hnew2 : ∀ (K : Array Value → Hp → Prop) (h' : Hp), K new.toArray h' → semW P (if m * i.size = 0 then pure #[] else do pure (Builtin.zeroCells (← zeroValue e).cells m) : Sem (Array Value)) h' K := by
        intro K h' hk
        split
        · rename_i h0
          have : new = [] := List.eq_nil_of_length_eq_zero (by rw [b3]; exact h0)
          rw [this] at hk
          exact hk
        · simp only [semW_bind', semW_zeroValue]
          refine ⟨z, hz, ?_⟩
          simp only [semW_pure]
          rw [← hnew, hzc] at hk
          simpa using hk
      simp only [semW_pure, if_true, Builtin.lenOf, asInt, asIntOf, semW_bind', hw, hneg, if_false, semW_typeInfo]
      refine ⟨i, hi, ?_⟩
      rw [if_neg hbig]
      simp only [semW_bind', semW_pure, hm, Bool.not_true, Bool.false_eq_true, if_false]
      by_cases hroom : n + m ≤ c
      · rw [if_pos hroom, semW_bind']
        refine hnew2 _ _ ?_
        cases hsa : a with
        | none =>
          simp only [semW_pure]
          have := hK _ _ (.none hroom hsa)
          rw [hsa] at this
          exact this
        | some a =>
          simp only [semW_bind']
          subst hsa
          refine storeCells_sound _ _ 0 h _ (by simpa using b4) (fun j _ hj => ?_) ?_
          · exact b6 hroom a rfl j (by simp at hj; omega)
          · simp only [semW_pure]
            have := hK _ _ (.room a hroom rfl)
            simpa using this
      · rw [if_neg hroom]
        have hgt : c < n + m := by omega
        obtain ⟨old, hold⟩ := b5 hgt
        simp only [semW_bind', semW_typeInfo]
        refine ⟨i, hi, ?_⟩
        rw [if_neg (by
          rintro ⟨h1, _⟩
          have : IntKind.i64.max = 9223372036854775807 := by rfl
          rw [this] at h1
          have h3 : (2 : Nat) ^ 47 = 140737488355328 := by decide
          simp only at b1
          omega)]
        simp only [semW_bind', semW_typeInfo, semW_pure]
        refine ⟨i, hi, ?_⟩
        have hcap : ¬ (Builtin.nextslicecap (n + m) c * i.bytes > 2 ^ 48) := by
          have h1 := nextcap_le hgt
          have h2 : Builtin.nextslicecap (n + m) c * i.bytes ≤ 2 * (n + m) * i.bytes := Nat.mul_le_mul_right _ h1
          have h3 : 2 * (n + m) * i.bytes = 2 * ((n + m) * i.bytes) := by rw [Nat.mul_assoc]
          have h4 : (2 : Nat) ^ 48 = 2 * 2 ^ 47 := by rfl
          simp only at b2
          omega
        rw [if_neg hcap]
        simp only [semW_bind', semW_pure, semW_choose]
        refine ⟨fun hf => by simp [Question.forced] at hf, fun _ tt => ?_⟩
        have hle := appendCap_cut (n + m) c e tt
        generalize (Question.appendCap (n + m) c e).cut tt = cap at hle
        simp only [semW_typeInfo]
        refine ⟨i, hi, ?_⟩
        simp only [semW_askRoom]
        refine firstCells_sound hold _ ?_
        refine hnew2 _ _ ?_
        simp only [semW_zeroValue]
        refine ⟨z, hz, ?_⟩
        simp only [semW_newRow, semW_pure]
        have := hK _ _ (.grow old cap hgt hold hle)
        simp only [zc, hz] at this
        simpa using this
    · exact H.elim
  · exact H.elim
/-- A slice expression with three indexes. -/
def sl3W (P : Program) (t : TypeId) (x l u m : Value) (K : Value → Prop) : Prop :=
  match P.underlying t, x, l, u, m with
  | some (.slice e), .slice a _ c, .int _ l, .int _ u, .int _ m => match szOf P e with
    | some sz => (0 ≤ l ∧ l ≤ u ∧ u ≤ m ∧ m ≤ (c : Nat)) ∧ K (.slice (slAd a l.toNat m.toNat sz) (u.toNat - l.toNat) (m.toNat - l.toNat))
    | none => False
  | _, _, _, _, _ => False
theorem sl3W_sound {t : TypeId} {x l u m : Value} {h : Hp} {K : Value → Prop} {K' : Value → Hp → Prop} (H : sl3W P t x l u m K) (HK : ∀ v, K v → K' v h) : semR P (Instr.sliceAt t x (some l) (some u) (some m)) h K' := by
  unfold sl3W at H
  split at H
  · rename_i e a n c k1 l k2 u k3 m ht
    split at H
    · rename_i sz hs
      obtain ⟨⟨h1, h2, h3, h4⟩, H⟩ := H
      unfold Instr.sliceAt
      simp only [semR_bind', semR_underlying]
      refine ⟨_, ht, ?_⟩
      simp only [Instr.slice, semR_bind', semR_underlying]
      refine ⟨_, ht, ?_⟩
      simp only [Instr.sliceBounds, semR_bind', semR_pure, Instr.sliceBound, asIntOf]
      rw [if_pos ⟨by omega, h4⟩]
      simp only [semR_pure]
      rw [if_pos ⟨by omega, by omega⟩]
      simp only [semR_pure]
      rw [if_pos ⟨h1, by omega⟩]
      simp only [semR_pure, semR_sizeOf]
      exact ⟨sz, hs, HK _ H⟩
    · exact H.elim
  · exact H.elim
end
end Go.Lift
